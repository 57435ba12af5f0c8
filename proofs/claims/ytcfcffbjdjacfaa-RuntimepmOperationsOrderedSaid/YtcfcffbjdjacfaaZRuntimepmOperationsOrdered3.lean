/-
  Texts of this session, part 3 of 7: the words of the walk, plain functions with the same answers as the Go functions and the proofs of it, plain lemmas. No condition.
  They are, one behind the other: QRuntimepmManagerPut QDepgraphQueueLen QDepgraphQueuePop QDepgraphQueueSwap QDepgraphQueueLess QHeapDown QHeapPop QDepgraphQueuePush QHeapUp QHeapPush QDepgraphSort QDepgraphOrder QSlicesCloneIntInt QRuntimepmSuppliers QRuntimepmNew.
-/
import Derived.Test.YtcfcffbjdjacfaaProg
import Derived.Test.YtcfcffbjdjacfaaZRuntimepmOperationsOrdered2

namespace Go.Proofs.Ytcfcffbjdjacfaa.Sim
open Go
set_option linter.unusedVariables false
set_option linter.unusedSimpArgs false

/-! ### runtimepm_Manager_Put: function 34 -/
def runtimepm_Manager_Put.f (p0 : runtimepm_Manager) (p1 : Int) (p2 : Int) : Option (runtimepm_Manager × (List api_PowerOp) × Int) := (runtimepm_Manager_has.f p0 p1).bind fun r5 => (if (!r5) = true then some true else (runtimepm_Manager_valid.f p0 p2).bind fun r14 => some (!r14)).bind fun t19 => if t19 = true then (some (p0, [], 1)) else ((idx p0.devices p1).bind fun x47 => if (x47.count == 0) = true then (some (p0, [], 9)) else ((runtimepm_Manager_expire.f (runtimepm_Manager.mk p0.devices p0.links p0.order p2) p2).bind fun r75 => (idx r75.1.devices p1).bind fun x89 => ((runtimepm_Manager_isIdle.f (runtimepm_Manager.mk (upd r75.1.devices p1 ({ x89 with count := wi (x89.count - 1) } : runtimepm_device)) r75.1.links r75.1.order r75.1.now) p1).bind fun r115 => if r115 = true then ((idx (upd r75.1.devices p1 ({ x89 with count := wi (x89.count - 1) } : runtimepm_device)) p1).bind fun x126 => some (runtimepm_Manager.mk (upd (upd r75.1.devices p1 ({ x89 with count := wi (x89.count - 1) } : runtimepm_device)) p1 ({ x126 with idle := p2 } : runtimepm_device)) r75.1.links r75.1.order r75.1.now)) else (some (runtimepm_Manager.mk (upd r75.1.devices p1 ({ x89 with count := wi (x89.count - 1) } : runtimepm_device)) r75.1.links r75.1.order r75.1.now)) : Option (runtimepm_Manager)).bind fun v110 => (runtimepm_Manager_expire.f v110 p2).bind fun r145 => (app r75.2 r145.2).bind fun y153 => some (r145.1, y153, 0)))
set_option maxRecDepth 100000 in
set_option maxHeartbeats 4000000 in
theorem runtimepm_Manager_Put.calls {p0 : runtimepm_Manager} {c0 : Nat}  {b_p0 : Nat} {A_devices_p0 : Option Addr} {cap_devices_p0 : Nat} {A_links_p0 : Option Addr} {cap_links_p0 : Nat} {A_order_p0 : Option Addr} {cap_order_p0 : Nat} {p1 : Int} {p2 : Int} {w : World} {g : Nat → Nat} {out : runtimepm_Manager × (List api_PowerOp) × Int} (N : Nat) (r0 : Nat) (hp0 : runtimepm_Manager_At w g c0 b_p0 A_devices_p0 cap_devices_p0 A_links_p0 cap_links_p0 A_order_p0 cap_order_p0 p0) (hc0 : c0 + 7 ≤ N) (hr0 : r0 + 2 ≤ N) (hq0_0 : r0 + 2 ≤ c0 ∨ c0 + 7 ≤ r0) (H : runtimepm_Manager_Put.f p0 p1 p2 = some out) :
    Calls Try.prog 34 #[.pointer (some ⟨b_p0, 0, none⟩), .int .i64 p1, .int .u64 p2] w (fun e w' => ∃ v, e = .returned v ∧ ∃ (g' : Nat → Nat) (A_r0 : Option Addr) (cap_r0 : Nat), v = .tuple #[.slice A_r0 out.2.1.length cap_r0, .int .i64 out.2.2] ∧ runtimepm_Manager_At w' g' c0 b_p0 A_devices_p0 cap_devices_p0 A_links_p0 cap_links_p0 A_order_p0 cap_order_p0 out.1 ∧ OwS kd_api_PowerOp 47 w' g' r0 A_r0 cap_r0 out.2.1 ∧ Fr (fun q => (c0 ≤ q ∧ q < c0 + 7) ∨ (r0 ≤ q ∧ q < r0 + 2) ∨ N ≤ q) w g w' g') := by
  unfold runtimepm_Manager_Put.f at H
  refine calls_enter Try.func34 rfl Try.ntmps34 rfl (fun a hS => ?_)
  replace hS : Sl 64 a [(0, .pointer (some ⟨b_p0, 0, none⟩)), (1, .int .i64 p1), (2, .int .u64 p2)] := hS
  have hF : Fr (fun q => (c0 ≤ q ∧ q < c0 + 7) ∨ (r0 ≤ q ∧ q < r0 + 2) ∨ N ≤ q) w g w g := Fr.refl _ _ _
  obtain ⟨hb0, hf0_devices, hf0_links, hf0_order⟩ := hp0
  refine c_pure [(0, .pointer (some ⟨b_p0, 0, none⟩)), (1, .int .i64 p1), (2, .int .u64 p2)] (fun R hR => st_val hS rfl rfl rfl (r_assign hS rfl rfl) fun a1 hS1 => st_val hS1 rfl rfl rfl (r_assign hS1 rfl rfl) fun a2 hS2 => wpList_nil (hR _ (hS2.re ⟨rfl, rfl, rfl, trivial⟩))) ?_
  clear hS
  clear a
  intro a hS
  refine wp_seq ?_
  refine wp_block ?_
  obtain ⟨r5, hr6, H⟩ := bind_el H
  obtain ⟨t19, ht20, H⟩ := bind_el H
  refine c_region (fun K hK => ?_)
  refine st_val hS rfl rfl rfl (r_move hS rfl rfl) fun a3 hS3 => st_val hS3 rfl rfl rfl (r_move hS3 rfl rfl) fun a4 hS4 => ?_
  refine st_enter hS4 rfl rfl rfl (r_call hS4 rfl rfl (by kernel_rfl)) (runtimepm_Manager_has.calls (c0 := c0) (b_p0 := b_p0) (A_devices_p0 := A_devices_p0) (cap_devices_p0 := cap_devices_p0) (A_links_p0 := A_links_p0) (cap_links_p0 := cap_links_p0) (A_order_p0 := A_order_p0) (cap_order_p0 := cap_order_p0) (p0 := p0) (p1 := p1) (g := g) (N + 4)  ⟨hb0, hf0_devices, hf0_links, hf0_order⟩ (by omega) hr6) ?_
  rintro _ a7 w8 ⟨g8, rfl, F8⟩ hS7
  replace hb0 := hb0.fr F8 (fun (hm : N + 4 ≤ c0) => by omega)
  replace hf0_devices := OwS.fr hf0_devices F8 (fun c' hc (hm : N + 4 ≤ c') => by omega)
  replace hf0_links := OwS.fr hf0_links F8 (fun c' hc (hm : N + 4 ≤ c') => by omega)
  replace hf0_order := OwS.fr hf0_order F8 (fun c' hc (hm : N + 4 ≤ c') => by omega)
  replace hF := hF.trans F8 (fun c' (hm : N + 4 ≤ c') => by show (c0 ≤ c' ∧ c' < c0 + 7) ∨ (r0 ≤ c' ∧ c' < r0 + 2) ∨ N ≤ c'; omega)
  refine st_val hS7 rfl rfl rfl (r_not hS7 rfl rfl) fun a9 hS9 => st_val hS9 rfl rfl rfl (r_move hS9 rfl rfl) fun a10 hS10 => ?_
  refine g_joinR 5 (fun a w21 => ∃ (g21 : Nat → Nat), Sl 64 a [(0, .pointer (some ⟨b_p0, 0, none⟩)), (1, .int .i64 p1), (2, .int .u64 p2), (19, .bool t19)] ∧ Bx w21 g21 (c0) b_p0 85 [.slice A_devices_p0 p0.devices.length cap_devices_p0, .slice A_links_p0 p0.links.length cap_links_p0, .slice A_order_p0 p0.order.length cap_order_p0, .int .u64 p0.now] ∧ OwS kd_runtimepm_device 88 w21 g21 (c0 + 1) A_devices_p0 cap_devices_p0 p0.devices ∧ OwS kd_api_Link 67 w21 g21 (c0 + 3) A_links_p0 cap_links_p0 p0.links ∧ OwS (kint .i64) 3 w21 g21 (c0 + 5) A_order_p0 cap_order_p0 p0.order ∧ Fr (fun q => (c0 ≤ q ∧ q < c0 + 7) ∨ (r0 ≤ q ∧ q < r0 + 2) ∨ N ≤ q) w g w21 g21) ?_ (fun hk => ?_)
  rotate_left
  · rcases Bool.eq_false_or_eq_true ((!r5)) with hb11 | hb11
    · have H := ite_t hb11 ht20
      have e22 := Option.some.inj H
      refine st_off hS10 (want_off hS10 rfl rfl rfl hb11) rfl rfl fun a23 hS23 => st_off hS23 (want_off hS23 rfl rfl rfl hb11) rfl rfl fun a24 hS24 => st_off hS24 (want_off hS24 rfl rfl rfl hb11) rfl rfl fun a25 hS25 => st_off hS25 (want_off hS25 rfl rfl rfl hb11) rfl rfl fun a26 hS26 => st_val hS26 rfl rfl rfl (r_pickT hS26 rfl rfl rfl hb11) fun a27 hS27 => hk _ _ ?_
      exact ⟨g8, hS27.re ⟨rfl, rfl, rfl, (by rw [← e22]; rfl), trivial⟩, hb0, hf0_devices, hf0_links, hf0_order, hF⟩
    · have H := ite_f hb11 ht20
      obtain ⟨r30, hr31, H⟩ := bind_el H
      have e35 := Option.some.inj H
      refine st_valW hS10 (want_on hS10 rfl rfl rfl hb11) rfl rfl (r_move hS10 rfl rfl) fun a28 hS28 => st_valW hS28 (want_on hS28 rfl rfl rfl hb11) rfl rfl (r_move hS28 rfl rfl) fun a29 hS29 => ?_
      refine st_enterW hS29 (want_on hS29 rfl rfl rfl hb11) rfl rfl (r_call hS29 rfl rfl (by kernel_rfl)) (runtimepm_Manager_valid.calls (c0 := c0) (b_p0 := b_p0) (A_devices_p0 := A_devices_p0) (cap_devices_p0 := cap_devices_p0) (A_links_p0 := A_links_p0) (cap_links_p0 := cap_links_p0) (A_order_p0 := A_order_p0) (cap_order_p0 := cap_order_p0) (p0 := p0) (p1 := p2) (g := g8) (N + 4)  ⟨hb0, hf0_devices, hf0_links, hf0_order⟩ (by omega) hr31) ?_
      rintro _ a32 w33 ⟨g33, rfl, F33⟩ hS32
      replace hb0 := hb0.fr F33 (fun (hm : N + 4 ≤ c0) => by omega)
      replace hf0_devices := OwS.fr hf0_devices F33 (fun c' hc (hm : N + 4 ≤ c') => by omega)
      replace hf0_links := OwS.fr hf0_links F33 (fun c' hc (hm : N + 4 ≤ c') => by omega)
      replace hf0_order := OwS.fr hf0_order F33 (fun c' hc (hm : N + 4 ≤ c') => by omega)
      replace hF := hF.trans F33 (fun c' (hm : N + 4 ≤ c') => by show (c0 ≤ c' ∧ c' < c0 + 7) ∨ (r0 ≤ c' ∧ c' < r0 + 2) ∨ N ≤ c'; omega)
      refine st_valW hS32 (want_on hS32 rfl rfl rfl hb11) rfl rfl (r_not hS32 rfl rfl) fun a34 hS34 => ?_
      refine st_val hS34 rfl rfl rfl (r_pickF hS34 rfl rfl rfl hb11) fun a36 hS36 => hk _ _ ?_
      exact ⟨g33, hS36.re ⟨rfl, rfl, rfl, (by rw [← e35]; rfl), trivial⟩, hb0, hf0_devices, hf0_links, hf0_order, hF⟩
  rintro a37 w21 ⟨g21, hS37, hb0, hf0_devices, hf0_links, hf0_order, hF⟩
  refine st_val hS37 rfl rfl rfl (r_assign hS37 rfl rfl) fun a38 hS38 => wpList_nil (hK _ _ ?_)
  replace hS : Sl 64 _ [(0, .pointer (some ⟨b_p0, 0, none⟩)), (1, .int .i64 p1), (2, .int .u64 p2), (9, .bool t19)] := hS38.re ⟨rfl, rfl, rfl, rfl, trivial⟩
  clear hK K
  try clear hS3 hS4 hS7 hS9 hS10 hS37 hS38
  obtain ⟨a, ha⟩ : ∃ a', a' = a38 := ⟨_, rfl⟩
  rw [← ha] at hS ⊢; clear ha
  refine c_cond hS rfl (fun hb39 => ?_) (fun hb39 => ?_)
  · replace H := ite_t hb39 H
    refine c_pure [(6, .slice none 0 0), (7, .int .i64 1)] (fun R hR => st_val hS rfl rfl rfl (r_assign hS rfl rfl) fun a40 hS40 => st_val hS40 rfl rfl rfl (r_assign hS40 rfl rfl) fun a41 hS41 => wpList_nil (hR _ (hS41.re ⟨rfl, rfl, trivial⟩))) ?_
    clear hS
    clear a
    intro a hS
    refine wp_ret ?_
    have e := Option.some.inj H
    subst e
    repeat (with_reducible first | refine then_ret ?_ | refine inBlock_ret ?_)
    exact c_ret2 hS Try.results34 rfl rfl ⟨_, rfl, g21, none, 0, rfl, ⟨hb0, hf0_devices, hf0_links, hf0_order⟩, OwS.nil kd_api_PowerOp 47 w21 g21 r0, hF⟩
  · replace H := ite_f hb39 H
    obtain ⟨x47, hx48, H⟩ := bind_el H
    refine c_region (fun K hK => ?_)
    refine st_val hS rfl rfl rfl (r_move hS rfl rfl) fun a42 hS42 => st_val hS42 rfl rfl rfl (r_nil hS42 rfl rfl) fun a43 hS43 => st_val hS43 rfl rfl rfl (r_fieldB (off := 0) hS43 rfl rfl (by kernel_rfl)) fun a44 hS44 => st_val hS44 rfl rfl rfl (r_load1 (n := 1) hS44 rfl rfl (by kernel_rfl) (Bx.cell hb0 rfl)) fun a45 hS45 => st_val hS45 rfl rfl rfl (r_move hS45 rfl rfl) fun a46 hS46 => ?_
    obtain ⟨_, ⟨A50, cap51, A54, cap55, rfl, h52, h56⟩, hel49⟩ := El.of (OwD.rdx hf0_devices) hx48 (by decide)
    replace hel49 : El w21 g21 (fun q => q = c0 + 1) A_devices_p0 (p1.toNat * 6) [.int .u64 x47.delay, .slice A50 x47.suppliers.length cap51, .slice A54 x47.consumers.length cap55, .bool x47.active, .int .i64 x47.count, .int .u64 x47.idle] := hel49
    refine st_val hS46 rfl rfl rfl (r_index (e := 88) (sz := 6) (by_ := 80) hS46 rfl rfl rfl (by kernel_rfl) (RdS.some_ (OwS.rd hf0_devices) hx48) (idx_lo hx48) (idx_hi hx48)) fun a59 hS59 => st_val hS59 rfl rfl rfl (r_fieldE (off := 4) hS59 rfl rfl (by kernel_rfl)) fun a60 hS60 => st_val hS60 rfl rfl rfl (r_load1 (n := 1) hS60 rfl rfl (by kernel_rfl) (El.cell (j := 4) hel49 rfl)) fun a61 hS61 => st_val hS61 rfl rfl rfl (r_bin hS61 rfl rfl rfl b_eql) fun a62 hS62 => st_val hS62 rfl rfl rfl (r_assign hS62 rfl rfl) fun a63 hS63 => wpList_nil (hK _ _ ?_)
    replace hS : Sl 64 _ [(0, .pointer (some ⟨b_p0, 0, none⟩)), (1, .int .i64 p1), (2, .int .u64 p2), (20, .bool (x47.count == 0))] := hS63.re ⟨rfl, rfl, rfl, rfl, trivial⟩
    clear hK K
    try clear hS42 hS43 hS44 hS45 hS46 hS59 hS60 hS61 hS62 hS63
    obtain ⟨a, ha⟩ : ∃ a', a' = a63 := ⟨_, rfl⟩
    rw [← ha] at hS ⊢; clear ha
    refine c_cond hS rfl (fun hb64 => ?_) (fun hb64 => ?_)
    · replace H := ite_t hb64 H
      refine c_pure [(6, .slice none 0 0), (7, .int .i64 9)] (fun R hR => st_val hS rfl rfl rfl (r_assign hS rfl rfl) fun a65 hS65 => st_val hS65 rfl rfl rfl (r_assign hS65 rfl rfl) fun a66 hS66 => wpList_nil (hR _ (hS66.re ⟨rfl, rfl, trivial⟩))) ?_
      clear hS
      clear a
      intro a hS
      refine wp_ret ?_
      have e := Option.some.inj H
      subst e
      repeat (with_reducible first | refine then_ret ?_ | refine inBlock_ret ?_)
      exact c_ret2 hS Try.results34 rfl rfl ⟨_, rfl, g21, none, 0, rfl, ⟨hb0, hf0_devices, hf0_links, hf0_order⟩, OwS.nil kd_api_PowerOp 47 w21 g21 r0, hF⟩
    · replace H := ite_f hb64 H
      refine wp_skip ?_
      change Code.wp _ _ _ _ _
      refine c_region (fun K hK => ?_)
      refine st_val hS rfl rfl rfl (r_move hS rfl rfl) fun a67 hS67 => st_val hS67 rfl rfl rfl (r_move hS67 rfl rfl) fun a68 hS68 => st_val hS68 rfl rfl rfl (r_nil hS68 rfl rfl) fun a69 hS69 => st_val hS69 rfl rfl rfl (r_fieldB (off := 3) hS69 rfl rfl (by kernel_rfl)) fun a70 hS70 => ?_
      refine st_effS hS70 rfl rfl (e_storeB (n := 1) (bb := false) (cs' := [.slice A_devices_p0 p0.devices.length cap_devices_p0, .slice A_links_p0 p0.links.length cap_links_p0, .slice A_order_p0 p0.order.length cap_order_p0, .int .u64 p2]) g21 hS70 rfl rfl rfl (by kernel_rfl) rfl rfl rfl hb0 rfl rfl) ?_
      rintro a71 w72 g72 ⟨hb0, F72⟩ hS71
      replace hf0_devices := OwS.fr hf0_devices F72 (fun c' hc (hm : c' = c0) => by omega)
      replace hf0_links := OwS.fr hf0_links F72 (fun c' hc (hm : c' = c0) => by omega)
      replace hf0_order := OwS.fr hf0_order F72 (fun c' hc (hm : c' = c0) => by omega)
      replace hF := hF.trans F72 (fun c' (hm : c' = c0) => by show (c0 ≤ c' ∧ c' < c0 + 7) ∨ (r0 ≤ c' ∧ c' < r0 + 2) ∨ N ≤ c'; omega)
      refine wpList_nil (hK _ _ ?_)
      replace hS : Sl 64 _ [(0, .pointer (some ⟨b_p0, 0, none⟩)), (1, .int .i64 p1), (2, .int .u64 p2)] := hS71.re ⟨rfl, rfl, rfl, trivial⟩
      clear hK K
      try clear hS67 hS68 hS69 hS70 hS71
      obtain ⟨a, ha⟩ : ∃ a', a' = a71 := ⟨_, rfl⟩
      rw [← ha] at hS ⊢; clear ha
      obtain ⟨r75, hr76, H⟩ := bind_el H
      refine c_region (fun K hK => ?_)
      refine st_val hS rfl rfl rfl (r_move hS rfl rfl) fun a73 hS73 => st_val hS73 rfl rfl rfl (r_move hS73 rfl rfl) fun a74 hS74 => ?_
      refine st_enter hS74 rfl rfl rfl (r_call hS74 rfl rfl (by kernel_rfl)) (runtimepm_Manager_expire.calls (c0 := c0) (b_p0 := b_p0) (A_devices_p0 := A_devices_p0) (cap_devices_p0 := cap_devices_p0) (A_links_p0 := A_links_p0) (cap_links_p0 := cap_links_p0) (A_order_p0 := A_order_p0) (cap_order_p0 := cap_order_p0) (p0 := (runtimepm_Manager.mk p0.devices p0.links p0.order p2)) (p1 := p2) (g := g72) (N + 4) (N + 0) ⟨hb0, hf0_devices, hf0_links, hf0_order⟩ (by omega) (by omega) (by omega) hr76) ?_
      rintro _ a81 w82 ⟨g82, A77, cap78, rfl, ⟨hb0, hf0_devices, hf0_links, hf0_order⟩, h79, F82⟩ hS81
      replace hF := hF.trans F82 (fun c' (hm : (c0 ≤ c' ∧ c' < c0 + 7) ∨ (N + 0 ≤ c' ∧ c' < N + 0 + 2) ∨ N + 4 ≤ c') => by show (c0 ≤ c' ∧ c' < c0 + 7) ∨ (r0 ≤ c' ∧ c' < r0 + 2) ∨ N ≤ c'; omega)
      refine st_val hS81 rfl rfl rfl (r_assign hS81 rfl rfl) fun a83 hS83 => wpList_nil (hK _ _ ?_)
      replace hS : Sl 64 _ [(0, .pointer (some ⟨b_p0, 0, none⟩)), (1, .int .i64 p1), (2, .int .u64 p2), (8, .slice A77 r75.2.length cap78)] := hS83.re ⟨rfl, rfl, rfl, rfl, trivial⟩
      clear hK K
      try clear hS73 hS74 hS81 hS83
      obtain ⟨a, ha⟩ : ∃ a', a' = a83 := ⟨_, rfl⟩
      rw [← ha] at hS ⊢; clear ha
      obtain ⟨x89, hx90, H⟩ := bind_el H
      refine c_region (fun K hK => ?_)
      refine st_val hS rfl rfl rfl (r_move hS rfl rfl) fun a84 hS84 => st_val hS84 rfl rfl rfl (r_nil hS84 rfl rfl) fun a85 hS85 => st_val hS85 rfl rfl rfl (r_fieldB (off := 0) hS85 rfl rfl (by kernel_rfl)) fun a86 hS86 => st_val hS86 rfl rfl rfl (r_load1 (n := 1) hS86 rfl rfl (by kernel_rfl) (Bx.cell hb0 rfl)) fun a87 hS87 => st_val hS87 rfl rfl rfl (r_move hS87 rfl rfl) fun a88 hS88 => ?_
      obtain ⟨_, ⟨A92, cap93, A96, cap97, rfl, h94, h98⟩, hel91⟩ := El.of (OwD.rdx hf0_devices) hx90 (by decide)
      replace hel91 : El w82 g82 (fun q => q = c0 + 1) A_devices_p0 (p1.toNat * 6) [.int .u64 x89.delay, .slice A92 x89.suppliers.length cap93, .slice A96 x89.consumers.length cap97, .bool x89.active, .int .i64 x89.count, .int .u64 x89.idle] := hel91
      refine st_val hS88 rfl rfl rfl (r_index (e := 88) (sz := 6) (by_ := 80) hS88 rfl rfl rfl (by kernel_rfl) (RdS.some_ (OwS.rd hf0_devices) hx90) (idx_lo hx90) (idx_hi hx90)) fun a101 hS101 => st_val hS101 rfl rfl rfl (r_fieldE (off := 4) hS101 rfl rfl (by kernel_rfl)) fun a102 hS102 => st_val hS102 rfl rfl rfl (r_load1 (n := 1) hS102 rfl rfl (by kernel_rfl) (El.cell (j := 4) hel91 rfl)) fun a103 hS103 => st_val hS103 rfl rfl rfl (r_bin hS103 rfl rfl rfl b_sub) fun a104 hS104 => st_val hS104 rfl rfl rfl (r_index (e := 88) (sz := 6) (by_ := 80) hS104 rfl rfl rfl (by kernel_rfl) (RdS.some_ (OwS.rd hf0_devices) hx90) (idx_lo hx90) (idx_hi hx90)) fun a105 hS105 => st_val hS105 rfl rfl rfl (r_fieldE (off := 4) hS105 rfl rfl (by kernel_rfl)) fun a106 hS106 => ?_
      refine st_effS hS106 rfl rfl (e_storeE (n := 1) (bb := false) (kd := kd_runtimepm_device) (j := 4) (x' := ({ x89 with count := wi (x89.count - 1) } : runtimepm_device)) (us := [.int .i64 (wi (x89.count - 1))]) g82 hS106 rfl rfl rfl rfl (by kernel_rfl) rfl rfl (by intro v hv; simp only [List.mem_cons, List.not_mem_nil, or_false] at hv; rcases hv with rfl <;> rfl) hf0_devices hx90 rfl (fun _ _ cs hR => by obtain ⟨A0, cap0, A1, cap1, rfl, h0, h1⟩ := hR; exact ⟨A0, cap0, A1, cap1, rfl, h0, h1⟩)) ?_
      rintro a107 w108 g108 ⟨hf0_devices, F108⟩ hS107
      replace h79 := OwS.fr h79 F108 (fun c' hc (hm : c' = c0 + 1) => by omega)
      replace h94 := RdS.fr h94 F108 (by decide) (fun q (hq : q = c0 + 1 + 1) (hm : q = c0 + 1) => by omega)
      replace h98 := RdS.fr h98 F108 (by decide) (fun q (hq : q = c0 + 1 + 1) (hm : q = c0 + 1) => by omega)
      replace hb0 := hb0.fr F108 (fun (hm : c0 = c0 + 1) => by omega)
      replace hf0_links := OwS.fr hf0_links F108 (fun c' hc (hm : c' = c0 + 1) => by omega)
      replace hf0_order := OwS.fr hf0_order F108 (fun c' hc (hm : c' = c0 + 1) => by omega)
      replace hF := hF.trans F108 (fun c' (hm : c' = c0 + 1) => by show (c0 ≤ c' ∧ c' < c0 + 7) ∨ (r0 ≤ c' ∧ c' < r0 + 2) ∨ N ≤ c'; omega)
      replace hb0 : Bx w108 g108 (c0) b_p0 85 [.slice A_devices_p0 (upd r75.1.devices p1 ({ x89 with count := wi (x89.count - 1) } : runtimepm_device)).length cap_devices_p0, .slice A_links_p0 r75.1.links.length cap_links_p0, .slice A_order_p0 r75.1.order.length cap_order_p0, .int .u64 r75.1.now] := by simpa only [upd_length] using hb0
      refine wpList_nil (hK _ _ ?_)
      replace hS : Sl 64 _ [(0, .pointer (some ⟨b_p0, 0, none⟩)), (1, .int .i64 p1), (2, .int .u64 p2), (8, .slice A77 r75.2.length cap78)] := hS107.re ⟨rfl, rfl, rfl, rfl, trivial⟩
      clear hK K
      try clear hS84 hS85 hS86 hS87 hS88 hS101 hS102 hS103 hS104 hS105 hS106 hS107
      obtain ⟨a, ha⟩ : ∃ a', a' = a107 := ⟨_, rfl⟩
      rw [← ha] at hS ⊢; clear ha
      obtain ⟨v110, H, Hl112⟩ := bind_el H
      refine c_cut (fun a w109 => ∃ (g109 : Nat → Nat), Sl 64 a [(0, .pointer (some ⟨b_p0, 0, none⟩)), (2, .int .u64 p2), (8, .slice A77 r75.2.length cap78)] ∧ OwS kd_api_PowerOp 47 w109 g109 (N + 0) A77 cap78 r75.2 ∧ Bx w109 g109 (c0) b_p0 85 [.slice A_devices_p0 v110.devices.length cap_devices_p0, .slice A_links_p0 v110.links.length cap_links_p0, .slice A_order_p0 v110.order.length cap_order_p0, .int .u64 v110.now] ∧ OwS kd_runtimepm_device 88 w109 g109 (c0 + 1) A_devices_p0 cap_devices_p0 v110.devices ∧ OwS kd_api_Link 67 w109 g109 (c0 + 3) A_links_p0 cap_links_p0 v110.links ∧ OwS (kint .i64) 3 w109 g109 (c0 + 5) A_order_p0 cap_order_p0 v110.order ∧ Fr (fun q => (c0 ≤ q ∧ q < c0 + 7) ∨ (r0 ≤ q ∧ q < r0 + 2) ∨ N ≤ q) w g w109 g109) ?_ ?_
      · obtain ⟨r115, hr116, H⟩ := bind_el H
        refine c_region (fun K hK => ?_)
        refine st_val hS rfl rfl rfl (r_move hS rfl rfl) fun a113 hS113 => st_val hS113 rfl rfl rfl (r_move hS113 rfl rfl) fun a114 hS114 => ?_
        refine st_enter hS114 rfl rfl rfl (r_call hS114 rfl rfl (by kernel_rfl)) (runtimepm_Manager_isIdle.calls (c0 := c0) (b_p0 := b_p0) (A_devices_p0 := A_devices_p0) (cap_devices_p0 := cap_devices_p0) (A_links_p0 := A_links_p0) (cap_links_p0 := cap_links_p0) (A_order_p0 := A_order_p0) (cap_order_p0 := cap_order_p0) (p0 := (runtimepm_Manager.mk (upd r75.1.devices p1 ({ x89 with count := wi (x89.count - 1) } : runtimepm_device)) r75.1.links r75.1.order r75.1.now)) (p1 := p1) (g := g108) (N + 4)  ⟨hb0, hf0_devices, hf0_links, hf0_order⟩ (by omega) hr116) ?_
        rintro _ a117 w118 ⟨g118, rfl, F118⟩ hS117
        replace h79 := OwS.fr h79 F118 (fun c' hc (hm : N + 4 ≤ c') => by omega)
        replace hb0 := hb0.fr F118 (fun (hm : N + 4 ≤ c0) => by omega)
        replace hf0_devices := OwS.fr hf0_devices F118 (fun c' hc (hm : N + 4 ≤ c') => by omega)
        replace hf0_links := OwS.fr hf0_links F118 (fun c' hc (hm : N + 4 ≤ c') => by omega)
        replace hf0_order := OwS.fr hf0_order F118 (fun c' hc (hm : N + 4 ≤ c') => by omega)
        replace hF := hF.trans F118 (fun c' (hm : N + 4 ≤ c') => by show (c0 ≤ c' ∧ c' < c0 + 7) ∨ (r0 ≤ c' ∧ c' < r0 + 2) ∨ N ≤ c'; omega)
        refine wpList_nil (hK _ _ ?_)
        replace hS : Sl 64 _ [(0, .pointer (some ⟨b_p0, 0, none⟩)), (1, .int .i64 p1), (2, .int .u64 p2), (8, .slice A77 r75.2.length cap78), (50, .bool r115)] := hS117.re ⟨rfl, rfl, rfl, rfl, rfl, trivial⟩
        clear hK K
        try clear hS113 hS114 hS117
        obtain ⟨a, ha⟩ : ∃ a', a' = a117 := ⟨_, rfl⟩
        rw [← ha] at hS ⊢; clear ha
        refine c_cond hS rfl (fun hb119 => ?_) (fun hb119 => ?_)
        · replace H := ite_t hb119 H
          obtain ⟨x126, hx127, H⟩ := bind_el H
          refine c_region1 (fun K hK => ?_)
          refine st_val hS rfl rfl rfl (r_move hS rfl rfl) fun a120 hS120 => st_val hS120 rfl rfl rfl (r_nil hS120 rfl rfl) fun a121 hS121 => st_val hS121 rfl rfl rfl (r_fieldB (off := 0) hS121 rfl rfl (by kernel_rfl)) fun a122 hS122 => st_val hS122 rfl rfl rfl (r_load1 (n := 1) hS122 rfl rfl (by kernel_rfl) (Bx.cell hb0 rfl)) fun a123 hS123 => st_val hS123 rfl rfl rfl (r_move hS123 rfl rfl) fun a124 hS124 => st_val hS124 rfl rfl rfl (r_move hS124 rfl rfl) fun a125 hS125 => ?_
          obtain ⟨_, ⟨A129, cap130, A133, cap134, rfl, h131, h135⟩, hel128⟩ := El.of (OwD.rdx hf0_devices) hx127 (by decide)
          replace hel128 : El w118 g118 (fun q => q = c0 + 1) A_devices_p0 (p1.toNat * 6) [.int .u64 x126.delay, .slice A129 x126.suppliers.length cap130, .slice A133 x126.consumers.length cap134, .bool x126.active, .int .i64 x126.count, .int .u64 x126.idle] := hel128
          refine st_val hS125 rfl rfl rfl (r_index (e := 88) (sz := 6) (by_ := 80) hS125 rfl rfl rfl (by kernel_rfl) (RdS.some_ (OwS.rd hf0_devices) hx127) (idx_lo hx127) (idx_hi hx127)) fun a138 hS138 => st_val hS138 rfl rfl rfl (r_fieldE (off := 5) hS138 rfl rfl (by kernel_rfl)) fun a139 hS139 => ?_
          refine st_effS hS139 rfl rfl (e_storeE (n := 1) (bb := false) (kd := kd_runtimepm_device) (j := 5) (x' := ({ x126 with idle := p2 } : runtimepm_device)) (us := [.int .u64 p2]) g118 hS139 rfl rfl rfl rfl (by kernel_rfl) rfl rfl (by intro v hv; simp only [List.mem_cons, List.not_mem_nil, or_false] at hv; rcases hv with rfl <;> rfl) hf0_devices hx127 rfl (fun _ _ cs hR => by obtain ⟨A0, cap0, A1, cap1, rfl, h0, h1⟩ := hR; exact ⟨A0, cap0, A1, cap1, rfl, h0, h1⟩)) ?_
          rintro a140 w141 g141 ⟨hf0_devices, F141⟩ hS140
          replace h131 := RdS.fr h131 F141 (by decide) (fun q (hq : q = c0 + 1 + 1) (hm : q = c0 + 1) => by omega)
          replace h135 := RdS.fr h135 F141 (by decide) (fun q (hq : q = c0 + 1 + 1) (hm : q = c0 + 1) => by omega)
          replace h79 := OwS.fr h79 F141 (fun c' hc (hm : c' = c0 + 1) => by omega)
          replace hb0 := hb0.fr F141 (fun (hm : c0 = c0 + 1) => by omega)
          replace hf0_links := OwS.fr hf0_links F141 (fun c' hc (hm : c' = c0 + 1) => by omega)
          replace hf0_order := OwS.fr hf0_order F141 (fun c' hc (hm : c' = c0 + 1) => by omega)
          replace hF := hF.trans F141 (fun c' (hm : c' = c0 + 1) => by show (c0 ≤ c' ∧ c' < c0 + 7) ∨ (r0 ≤ c' ∧ c' < r0 + 2) ∨ N ≤ c'; omega)
          replace hb0 : Bx w141 g141 (c0) b_p0 85 [.slice A_devices_p0 (upd (upd r75.1.devices p1 ({ x89 with count := wi (x89.count - 1) } : runtimepm_device)) p1 ({ x126 with idle := p2 } : runtimepm_device)).length cap_devices_p0, .slice A_links_p0 r75.1.links.length cap_links_p0, .slice A_order_p0 r75.1.order.length cap_order_p0, .int .u64 r75.1.now] := by simpa only [upd_length] using hb0
          refine wpList_nil (hK _ _ ?_)
          replace hS : Sl 64 _ [(0, .pointer (some ⟨b_p0, 0, none⟩)), (2, .int .u64 p2), (8, .slice A77 r75.2.length cap78)] := hS140.re ⟨rfl, rfl, rfl, trivial⟩
          clear hK K
          try clear hS120 hS121 hS122 hS123 hS124 hS125 hS138 hS139 hS140
          obtain ⟨a, ha⟩ : ∃ a', a' = a140 := ⟨_, rfl⟩
          rw [← ha] at hS ⊢; clear ha
          have e := Option.some.inj H
          subst e
          exact ⟨g141, hS.re ⟨rfl, rfl, rfl, trivial⟩, h79, hb0, hf0_devices, hf0_links, hf0_order, hF⟩
        · replace H := ite_f hb119 H
          refine wp_skip ?_
          have e := Option.some.inj H
          subst e
          exact ⟨g118, hS.re ⟨rfl, rfl, rfl, trivial⟩, h79, hb0, hf0_devices, hf0_links, hf0_order, hF⟩
      · clear H
        clear hf0_devices hf0_links hf0_order hb0 h79 hF
        clear hS
        rintro a w109 ⟨g109, hS, h79, hb0, hf0_devices, hf0_links, hf0_order, hF⟩
        have H := Hl112
        clear Hl112
        obtain ⟨r145, hr146, H⟩ := bind_el H
        obtain ⟨y153, hy154, H⟩ := bind_el H
        refine c_region (fun K hK => ?_)
        refine st_val hS rfl rfl rfl (r_move hS rfl rfl) fun a142 hS142 => st_val hS142 rfl rfl rfl (r_move hS142 rfl rfl) fun a143 hS143 => st_val hS143 rfl rfl rfl (r_move hS143 rfl rfl) fun a144 hS144 => ?_
        refine st_enter hS144 rfl rfl rfl (r_call hS144 rfl rfl (by kernel_rfl)) (runtimepm_Manager_expire.calls (c0 := c0) (b_p0 := b_p0) (A_devices_p0 := A_devices_p0) (cap_devices_p0 := cap_devices_p0) (A_links_p0 := A_links_p0) (cap_links_p0 := cap_links_p0) (A_order_p0 := A_order_p0) (cap_order_p0 := cap_order_p0) (p0 := v110) (p1 := p2) (g := g109) (N + 4) (N + 2) ⟨hb0, hf0_devices, hf0_links, hf0_order⟩ (by omega) (by omega) (by omega) hr146) ?_
        rintro _ a151 w152 ⟨g152, A147, cap148, rfl, ⟨hb0, hf0_devices, hf0_links, hf0_order⟩, h149, F152⟩ hS151
        replace h79 := OwS.fr h79 F152 (fun c' hc (hm : (c0 ≤ c' ∧ c' < c0 + 7) ∨ (N + 2 ≤ c' ∧ c' < N + 2 + 2) ∨ N + 4 ≤ c') => by omega)
        replace hF := hF.trans F152 (fun c' (hm : (c0 ≤ c' ∧ c' < c0 + 7) ∨ (N + 2 ≤ c' ∧ c' < N + 2 + 2) ∨ N + 4 ≤ c') => by show (c0 ≤ c' ∧ c' < c0 + 7) ∨ (r0 ≤ c' ∧ c' < r0 + 2) ∨ N ≤ c'; omega)
        refine st_eff hS151 rfl rfl rfl (e_append (e := 47) (sz := 3) (by_ := 24) (z := [.int .i64 0, .bool false, .int .u64 0]) (kd := kd_api_PowerOp) g152 hS151 rfl rfl rfl rfl (by kernel_rfl) (by kernel_rfl) rfl rfl rfl rfl h79 (OwD.rdx h149) (fun _ _ _ h => h) hy154) ?_
        rintro _ a159 w160 g160 ⟨⟨A155, cap156, rfl, h157⟩, F160⟩ hS159
        replace h149 := OwS.fr h149 F160 (fun c' hc (hm : c' = N + 0) => by omega)
        replace hb0 := hb0.fr F160 (fun (hm : c0 = N + 0) => by omega)
        replace hf0_devices := OwS.fr hf0_devices F160 (fun c' hc (hm : c' = N + 0) => by omega)
        replace hf0_links := OwS.fr hf0_links F160 (fun c' hc (hm : c' = N + 0) => by omega)
        replace hf0_order := OwS.fr hf0_order F160 (fun c' hc (hm : c' = N + 0) => by omega)
        replace hF := hF.trans F160 (fun c' (hm : c' = N + 0) => by show (c0 ≤ c' ∧ c' < c0 + 7) ∨ (r0 ≤ c' ∧ c' < r0 + 2) ∨ N ≤ c'; omega)
        refine st_val hS159 rfl rfl rfl (r_assign hS159 rfl rfl) fun a161 hS161 => st_val hS161 rfl rfl rfl (r_assign hS161 rfl rfl) fun a162 hS162 => wpList_nil (hK _ _ ?_)
        replace hS : Sl 64 _ [(6, .slice A155 y153.length cap156), (7, .int .i64 0)] := hS162.re ⟨rfl, rfl, trivial⟩
        clear hK K
        try clear hS142 hS143 hS144 hS151 hS159 hS161 hS162
        obtain ⟨a, ha⟩ : ∃ a', a' = a162 := ⟨_, rfl⟩
        rw [← ha] at hS ⊢; clear ha
        refine wp_ret ?_
        have e := Option.some.inj H
        subst e
        have F163 := Fr.recol2 w160 g160 (N + 0) r0
        replace h157 := h157.recol2 r0
        replace hb0 := hb0.fr F163 (fun (hm : c0 = N + 0 ∨ c0 = N + 0 + 1) => by omega)
        replace hf0_devices := OwS.fr hf0_devices F163 (fun c' hc (hm : c' = N + 0 ∨ c' = N + 0 + 1) => by omega)
        replace hf0_links := OwS.fr hf0_links F163 (fun c' hc (hm : c' = N + 0 ∨ c' = N + 0 + 1) => by omega)
        replace hf0_order := OwS.fr hf0_order F163 (fun c' hc (hm : c' = N + 0 ∨ c' = N + 0 + 1) => by omega)
        replace hF := hF.trans F163 (fun c' (hm : c' = N + 0 ∨ c' = N + 0 + 1) => by show (c0 ≤ c' ∧ c' < c0 + 7) ∨ (r0 ≤ c' ∧ c' < r0 + 2) ∨ N ≤ c'; omega)
        repeat (with_reducible first | refine then_ret ?_ | refine inBlock_ret ?_)
        exact c_ret2 hS Try.results34 rfl rfl ⟨_, rfl, (recol2 g160 (N + 0) r0), A155, cap156, rfl, ⟨hb0, hf0_devices, hf0_links, hf0_order⟩, h157, hF⟩


end Go.Proofs.Ytcfcffbjdjacfaa.Sim

namespace Go.Proofs.Ytcfcffbjdjacfaa.Sim
open Go
set_option linter.unusedVariables false
set_option linter.unusedSimpArgs false

/-! ### depgraph_queue_Len: function 123 -/
def depgraph_queue_Len.f (p0 : List Int) : Option (Int) := some (p0.length : Int)
set_option maxRecDepth 100000 in
set_option maxHeartbeats 4000000 in
theorem depgraph_queue_Len.calls {p0 : List Int} {A0 : Option Addr} {cap0 : Nat} {C0 : Nat → Prop} {w : World} {g : Nat → Nat} {out : Int} (N : Nat) (hp0 : RdS (kint .i64) w g C0 A0 cap0 p0) (hC0 : ∀ c, C0 c → c < N) (H : depgraph_queue_Len.f p0 = some out) :
    Calls Try.prog 123 #[.slice A0 p0.length cap0] w (fun e w' => ∃ v, e = .returned v ∧ ∃ (g' : Nat → Nat), v = .int .i64 out ∧ Fr (fun q => N ≤ q) w g w' g') := by
  unfold depgraph_queue_Len.f at H
  refine calls_enter Try.func123 rfl Try.ntmps123 rfl (fun a hS => ?_)
  replace hS : Sl 5 a [(0, .slice A0 p0.length cap0)] := hS
  have hF : Fr (fun q => N ≤ q) w g w g := Fr.refl _ _ _
  refine c_pure [(0, .slice A0 p0.length cap0)] (fun R hR => st_val hS rfl rfl rfl (r_assign hS rfl rfl) fun a1 hS1 => wpList_nil (hR _ (hS1.re ⟨rfl, trivial⟩))) ?_
  clear hS
  clear a
  intro a hS
  refine c_pure [(2, .int .i64 (p0.length : Int))] (fun R hR => st_val hS rfl rfl rfl (r_move hS rfl rfl) fun a2 hS2 => st_val hS2 rfl rfl rfl (r_len (e := 3) (sz := 1) (by_ := 8) hS2 rfl rfl (by kernel_rfl)) fun a3 hS3 => st_val hS3 rfl rfl rfl (r_assign hS3 rfl rfl) fun a4 hS4 => wpList_nil (hR _ (hS4.re ⟨rfl, trivial⟩))) ?_
  clear hS
  clear a
  intro a hS
  refine wp_ret ?_
  have e := Option.some.inj H
  subst e
  repeat (with_reducible first | refine then_ret ?_ | refine inBlock_ret ?_)
  exact c_ret1 hS Try.results123 rfl ⟨_, rfl, g, rfl, hF⟩


end Go.Proofs.Ytcfcffbjdjacfaa.Sim

namespace Go.Proofs.Ytcfcffbjdjacfaa.Sim
open Go
set_option linter.unusedVariables false
set_option linter.unusedSimpArgs false

/-! ### depgraph_queue_Pop: function 126 -/
def depgraph_queue_Pop.f (p0 : depgraph_queue) : Option (depgraph_queue × Int) := (idx p0.q (wi ((p0.q.length : Int) - 1))).bind fun x12 => (slc p0.q 0 (wi ((p0.q.length : Int) - 1))).bind fun y22 => some ((depgraph_queue.mk y22), x12)
set_option maxRecDepth 100000 in
set_option maxHeartbeats 4000000 in
theorem depgraph_queue_Pop.calls {p0 : depgraph_queue} {c0 : Nat}  {b_p0 : Nat} {A_q_p0 : Option Addr} {cap_q_p0 : Nat} {w : World} {g : Nat → Nat} {out : depgraph_queue × Int} (N : Nat) (hp0 : depgraph_queue_At w g c0 b_p0 A_q_p0 cap_q_p0 p0) (hc0 : c0 + 3 ≤ N) (H : depgraph_queue_Pop.f p0 = some out) :
    Calls Try.prog 126 #[.pointer (some ⟨b_p0, 0, none⟩)] w (fun e w' => ∃ v, e = .returned v ∧ ∃ (g' : Nat → Nat) (A_q_q0 : Option Addr) (cap_q_q0 : Nat), v = .iface 3 (.int .i64 out.2) ∧ depgraph_queue_At w' g' c0 b_p0 A_q_q0 cap_q_q0 out.1 ∧ Fr (fun q => (c0 ≤ q ∧ q < c0 + 3) ∨ N ≤ q) w g w' g') := by
  unfold depgraph_queue_Pop.f at H
  refine calls_enter Try.func126 rfl Try.ntmps126 rfl (fun a hS => ?_)
  replace hS : Sl 25 a [(0, .pointer (some ⟨b_p0, 0, none⟩))] := hS
  have hF : Fr (fun q => (c0 ≤ q ∧ q < c0 + 3) ∨ N ≤ q) w g w g := Fr.refl _ _ _
  obtain ⟨hb0, hf0_q⟩ := hp0
  refine c_pure [(0, .pointer (some ⟨b_p0, 0, none⟩))] (fun R hR => st_val hS rfl rfl rfl (r_assign hS rfl rfl) fun a1 hS1 => wpList_nil (hR _ (hS1.re ⟨rfl, trivial⟩))) ?_
  clear hS
  clear a
  intro a hS
  refine c_pure [(0, .pointer (some ⟨b_p0, 0, none⟩)), (3, .int .i64 (wi ((p0.q.length : Int) - 1)))] (fun R hR => st_val hS rfl rfl rfl (r_move hS rfl rfl) fun a2 hS2 => st_val hS2 rfl rfl rfl (r_nil hS2 rfl rfl) fun a3 hS3 => st_val hS3 rfl rfl rfl (r_load1 (n := 1) hS3 rfl rfl (by kernel_rfl) (Bx.cell hb0 rfl)) fun a4 hS4 => st_val hS4 rfl rfl rfl (r_len (e := 3) (sz := 1) (by_ := 8) hS4 rfl rfl (by kernel_rfl)) fun a5 hS5 => st_val hS5 rfl rfl rfl (r_bin hS5 rfl rfl rfl b_sub) fun a6 hS6 => st_val hS6 rfl rfl rfl (r_assign hS6 rfl rfl) fun a7 hS7 => wpList_nil (hR _ (hS7.re ⟨rfl, rfl, trivial⟩))) ?_
  clear hS
  clear a
  intro a hS
  obtain ⟨x12, hx13, H⟩ := bind_el H
  refine c_pure [(0, .pointer (some ⟨b_p0, 0, none⟩)), (3, .int .i64 (wi ((p0.q.length : Int) - 1))), (4, .int .i64 x12)] (fun R hR => st_val hS rfl rfl rfl (r_move hS rfl rfl) fun a8 hS8 => st_val hS8 rfl rfl rfl (r_nil hS8 rfl rfl) fun a9 hS9 => st_val hS9 rfl rfl rfl (r_load1 (n := 1) hS9 rfl rfl (by kernel_rfl) (Bx.cell hb0 rfl)) fun a10 hS10 => st_val hS10 rfl rfl rfl (r_move hS10 rfl rfl) fun a11 hS11 => st_val hS11 rfl rfl rfl (r_index (e := 3) (sz := 1) (by_ := 8) hS11 rfl rfl rfl (by kernel_rfl) (RdS.some_ (OwS.rd hf0_q) hx13) (idx_lo hx13) (idx_hi hx13)) fun a14 hS14 => st_val hS14 rfl rfl rfl (r_load1 (n := 1) hS14 rfl rfl (by kernel_rfl) (RdS.cell (i := wi ((p0.q.length : Int) - 1)) (sz := 1) (j := 0) (OwS.rd hf0_q) hx13 rfl)) fun a15 hS15 => st_val hS15 rfl rfl rfl (r_assign hS15 rfl rfl) fun a16 hS16 => wpList_nil (hR _ (hS16.re ⟨rfl, rfl, rfl, trivial⟩))) ?_
  clear hS
  clear a
  intro a hS
  obtain ⟨y22, hy23, H⟩ := bind_el H
  refine c_region (fun K hK => ?_)
  refine st_val hS rfl rfl rfl (r_move hS rfl rfl) fun a17 hS17 => st_val hS17 rfl rfl rfl (r_move hS17 rfl rfl) fun a18 hS18 => st_val hS18 rfl rfl rfl (r_nil hS18 rfl rfl) fun a19 hS19 => st_val hS19 rfl rfl rfl (r_load1 (n := 1) hS19 rfl rfl (by kernel_rfl) (Bx.cell hb0 rfl)) fun a20 hS20 => st_val hS20 rfl rfl rfl (r_move hS20 rfl rfl) fun a21 hS21 => ?_
  have h24 := OwS.slc0 hf0_q hy23
  refine st_val hS21 rfl rfl rfl (r_slice (e := 3) (sz := 1) (by_ := 8) (l := 0) (h := wi ((p0.q.length : Int) - 1)) hS21 rfl rfl (by kernel_rfl) rfl rfl hy23 (OwS.rd hf0_q).1) fun a26 hS26 => st_val hS26 rfl rfl rfl (r_nil hS26 rfl rfl) fun a27 hS27 => ?_
  refine st_effS hS27 rfl rfl (e_storeB (n := 1) (bb := false) (cs' := [.slice (slA A_q_p0 cap_q_p0 (0 : Int).toNat 1) y22.length (cap_q_p0 - (0 : Int).toNat)]) g hS27 rfl rfl rfl (by kernel_rfl) rfl rfl rfl hb0 rfl rfl) ?_
  rintro a28 w29 g29 ⟨hb0, F29⟩ hS28
  replace h24 := OwS.fr h24 F29 (fun c' hc (hm : c' = c0) => by omega)
  replace hF := hF.trans F29 (fun c' (hm : c' = c0) => by show (c0 ≤ c' ∧ c' < c0 + 3) ∨ N ≤ c'; omega)
  refine wpList_nil (hK _ _ ?_)
  replace hS : Sl 25 _ [(4, .int .i64 x12)] := hS28.re ⟨rfl, trivial⟩
  clear hK K
  try clear hS17 hS18 hS19 hS20 hS21 hS26 hS27 hS28
  obtain ⟨a, ha⟩ : ∃ a', a' = a28 := ⟨_, rfl⟩
  rw [← ha] at hS ⊢; clear ha
  refine c_pure [(2, .iface 3 (.int .i64 x12))] (fun R hR => st_val hS rfl rfl rfl (r_move hS rfl rfl) fun a30 hS30 => st_val hS30 rfl rfl rfl (r_mkif hS30 rfl rfl (by kernel_rfl)) fun a31 hS31 => st_val hS31 rfl rfl rfl (r_assign hS31 rfl rfl) fun a32 hS32 => wpList_nil (hR _ (hS32.re ⟨rfl, trivial⟩))) ?_
  clear hS
  clear a
  intro a hS
  refine wp_ret ?_
  have e := Option.some.inj H
  subst e
  repeat (with_reducible first | refine then_ret ?_ | refine inBlock_ret ?_)
  exact c_ret1 hS Try.results126 rfl ⟨_, rfl, g29, (slA A_q_p0 cap_q_p0 (0 : Int).toNat 1), (cap_q_p0 - (0 : Int).toNat), rfl, ⟨hb0, h24⟩, hF⟩


end Go.Proofs.Ytcfcffbjdjacfaa.Sim

namespace Go.Proofs.Ytcfcffbjdjacfaa.Sim
open Go
set_option linter.unusedVariables false
set_option linter.unusedSimpArgs false

/-! ### depgraph_queue_Swap: function 125 -/
def depgraph_queue_Swap.f (p0 : List Int) (p1 : Int) (p2 : Int) : Option ((List Int)) := (idx p0 p2).bind fun x1 => (idx p0 p1).bind fun x3 => (idx (upd p0 p1 x1) p2).bind fun x5 => some (upd (upd p0 p1 x1) p2 x3)
set_option maxRecDepth 100000 in
set_option maxHeartbeats 4000000 in
theorem depgraph_queue_Swap.calls {p0 : List Int} {A0 : Option Addr} {cap0 : Nat} {c0 : Nat} {p1 : Int} {p2 : Int} {w : World} {g : Nat → Nat} {out : (List Int)} (N : Nat) (hp0 : OwS (kint .i64) 3 w g c0 A0 cap0 p0) (hc0 : c0 + 2 ≤ N) (H : depgraph_queue_Swap.f p0 p1 p2 = some out) :
    Calls Try.prog 125 #[.slice A0 p0.length cap0, .int .i64 p1, .int .i64 p2] w (fun e w' => ∃ v, e = .returned v ∧ ∃ (g' : Nat → Nat), v = .tuple #[] ∧ OwS (kint .i64) 3 w' g' c0 A0 cap0 out ∧ out.length = p0.length ∧ Fr (fun q => (c0 ≤ q ∧ q < c0 + 2) ∨ N ≤ q) w g w' g') := by
  unfold depgraph_queue_Swap.f at H
  refine calls_enter Try.func125 rfl Try.ntmps125 rfl (fun a hS => ?_)
  replace hS : Sl 20 a [(0, .slice A0 p0.length cap0), (1, .int .i64 p1), (2, .int .i64 p2)] := hS
  have hF : Fr (fun q => (c0 ≤ q ∧ q < c0 + 2) ∨ N ≤ q) w g w g := Fr.refl _ _ _
  have hl0 : p0.length = p0.length := rfl
  obtain ⟨x1, hx2, H⟩ := bind_el H
  obtain ⟨x3, hx4, H⟩ := bind_el H
  obtain ⟨x5, hx6, H⟩ := bind_el H
  refine c_draw1 (fun K hK => d_start (fun q => False) g [13, 15] 16 #[false, false, false, false, false, false, false, false, false, false, false, false, false, false, false, false] (by kernel_rfl) rfl rfl (fun w7 hw7 => ?_))
  have F7 : Fr (fun _ => False) w g w7 g := by rw [hw7]; exact Fr.drew _ _ _
  replace hp0 := OwS.fr hp0 F7 (fun _ _ h => h)
  replace hF := hF.trans F7 (fun _ h => h.elim)
  have hC : Fr (fun q => False) w7 g w7 g := Fr.refl _ _ _
  refine d_pure hS 0 #[true, false, false, false, false, false, false, false, false, false, false, false, false, false, false, false] rfl rfl rfl rfl (by kernel_rfl) (fun _ _ _ h => h) (fun _ => (r_move hS rfl rfl)) fun a8 hS8 => d_pure hS8 1 #[true, true, false, false, false, false, false, false, false, false, false, false, false, false, false, false] rfl rfl rfl rfl (by kernel_rfl) (fun _ _ _ h => h) (fun _ => (r_move hS8 rfl rfl)) fun a9 hS9 => d_pure hS9 2 #[true, true, true, false, false, false, false, false, false, false, false, false, false, false, false, false] rfl rfl rfl rfl (by kernel_rfl) (fun _ _ _ h => h) (fun _ => (r_move hS9 rfl rfl)) fun a10 hS10 => d_pure hS10 3 #[true, true, true, true, false, false, false, false, false, false, false, false, false, false, false, false] rfl rfl rfl rfl (by kernel_rfl) (fun _ _ _ h => h) (fun _ => (r_move hS10 rfl rfl)) fun a11 hS11 => d_pure hS11 4 #[true, true, true, true, true, false, false, false, false, false, false, false, false, false, false, false] rfl rfl rfl rfl (by kernel_rfl) (fun _ _ _ h => h) (fun _ => (r_move hS11 rfl rfl)) fun a12 hS12 => d_pure hS12 5 #[true, true, true, true, true, true, false, false, false, false, false, false, false, false, false, false] rfl rfl rfl rfl (by kernel_rfl) (fun _ _ _ h => h) (fun _ => (r_move hS12 rfl rfl)) fun a13 hS13 => d_pure hS13 6 #[true, true, true, true, true, true, true, false, false, false, false, false, false, false, false, false] rfl rfl rfl rfl (by kernel_rfl) (fun _ _ _ h => h) (fun _ => (r_index (e := 3) (sz := 1) (by_ := 8) hS13 rfl rfl rfl (by kernel_rfl) (RdS.some_ (OwS.rd hp0) hx2) (idx_lo hx2) (idx_hi hx2))) fun a14 hS14 => d_take hS14 7 #[true, true, true, true, true, true, true, true, false, false, false, false, false, false, false, false] rfl rfl rfl rfl (by kernel_rfl) (fun _ _ _ h => h) ⟨_, hC⟩ (fun w' g' Fz => (r_load1 (n := 1) hS14 rfl rfl (by kernel_rfl) (RdS.cell (i := p2) (sz := 1) (j := 0) (OwS.rd (OwS.fr hp0 Fz (fun _ _ h => h))) hx2 rfl))) fun a15 hS15 => d_pure hS15 8 #[true, true, true, true, true, true, true, true, true, false, false, false, false, false, false, false] rfl rfl rfl rfl (by kernel_rfl) (fun _ _ _ h => h) (fun _ => (r_move hS15 rfl rfl)) fun a16 hS16 => d_pure hS16 9 #[true, true, true, true, true, true, true, true, true, true, false, false, false, false, false, false] rfl rfl rfl rfl (by kernel_rfl) (fun _ _ _ h => h) (fun _ => (r_move hS16 rfl rfl)) fun a17 hS17 => d_pure hS17 10 #[true, true, true, true, true, true, true, true, true, true, true, false, false, false, false, false] rfl rfl rfl rfl (by kernel_rfl) (fun _ _ _ h => h) (fun _ => (r_index (e := 3) (sz := 1) (by_ := 8) hS17 rfl rfl rfl (by kernel_rfl) (RdS.some_ (OwS.rd hp0) hx4) (idx_lo hx4) (idx_hi hx4))) fun a18 hS18 => d_take hS18 11 #[true, true, true, true, true, true, true, true, true, true, true, true, false, false, false, false] rfl rfl rfl rfl (by kernel_rfl) (fun _ _ _ h => h) ⟨_, hC⟩ (fun w' g' Fz => (r_load1 (n := 1) hS18 rfl rfl (by kernel_rfl) (RdS.cell (i := p1) (sz := 1) (j := 0) (OwS.rd (OwS.fr hp0 Fz (fun _ _ h => h))) hx4 rfl))) fun a19 hS19 => d_pure hS19 12 #[true, true, true, true, true, true, true, true, true, true, true, true, true, false, false, false] rfl rfl rfl rfl (by kernel_rfl) (fun _ _ _ h => h) (fun _ => (r_index (e := 3) (sz := 1) (by_ := 8) hS19 rfl rfl rfl (by kernel_rfl) (RdS.some_ (OwS.rd hp0) hx4) (idx_lo hx4) (idx_hi hx4))) fun a20 hS20 => ?_
  refine d_one 13 #[true, true, true, true, true, true, true, true, true, true, true, true, true, true, false, false] rfl (by kernel_rfl) (arm_effS hS20 rfl rfl (e_storeE (n := 1) (bb := false) (kd := (kint .i64)) (j := 0) (x' := x1) (us := [.int .i64 x1]) g hS20 rfl rfl rfl rfl (by kernel_rfl) rfl rfl (by intro v hv; simp only [List.mem_cons, List.not_mem_nil, or_false] at hv; rcases hv with rfl <;> rfl) hp0 hx4 rfl (fun _ _ cs hR => by rw [show cs = _ from hR]; rfl)) (.inl (by decide)) ?_)
  rintro a21 w22 g22 ⟨hp0, F22⟩ hS21
  replace hF := hF.trans F22 (fun c' (hm : c' = c0) => by show (c0 ≤ c' ∧ c' < c0 + 2) ∨ N ≤ c'; omega)
  have hT : Sl 20 a21 [(8, .slice A0 p0.length cap0), (9, .int .i64 p2), (17, .int .i64 x3)] := hS21.re ⟨rfl, rfl, rfl, trivial⟩
  replace hS21 : Sl 20 a21 [(8, .slice A0 (upd p0 p1 x1).length cap0), (9, .int .i64 p2), (17, .int .i64 x3)] := by simpa only [upd_length] using hT
  clear hT
  refine d_pure hS21 14 #[true, true, true, true, true, true, true, true, true, true, true, true, true, true, true, false] rfl rfl rfl rfl (by kernel_rfl) (fun _ _ _ h => h) (fun _ => (r_index (e := 3) (sz := 1) (by_ := 8) hS21 rfl rfl rfl (by kernel_rfl) (RdS.some_ (OwS.rd hp0) hx6) (idx_lo hx6) (idx_hi hx6))) fun a23 hS23 => ?_
  refine d_one 15 #[true, true, true, true, true, true, true, true, true, true, true, true, true, true, true, true] rfl (by kernel_rfl) (arm_effS hS23 rfl rfl (e_storeE (n := 1) (bb := false) (kd := (kint .i64)) (j := 0) (x' := x3) (us := [.int .i64 x3]) g22 hS23 rfl rfl rfl rfl (by kernel_rfl) rfl rfl (by intro v hv; simp only [List.mem_cons, List.not_mem_nil, or_false] at hv; rcases hv with rfl <;> rfl) hp0 hx6 rfl (fun _ _ cs hR => by rw [show cs = _ from hR]; rfl)) (.inl (by decide)) ?_)
  rintro a24 w25 g25 ⟨hp0, F25⟩ hS24
  replace hF := hF.trans F25 (fun c' (hm : c' = c0) => by show (c0 ≤ c' ∧ c' < c0 + 2) ∨ N ≤ c'; omega)
  refine d_done (by kernel_rfl) (hK _ _ ?_)
  replace hS : Sl 20 _ [] := hS24.re trivial
  clear hK K hC
  try clear hS8 hS9 hS10 hS11 hS12 hS13 hS14 hS15 hS16 hS17 hS18 hS19 hS20 hS21 hS23 hS24
  obtain ⟨a, ha⟩ : ∃ a', a' = a24 := ⟨_, rfl⟩
  rw [← ha] at hS ⊢; clear ha
  have e := Option.some.inj H
  subst e
  repeat (with_reducible first | refine inBlock_exit ?_ | refine then_exit ?_ | refine inBlock_out (by decide) ?_ | refine inBlock_normal ?_)
  exact c_end0 hS Try.results125 ⟨_, rfl, g25, rfl, hp0, (by first | exact hl0 | (simp only [upd_length] <;> exact hl0)), hF⟩


end Go.Proofs.Ytcfcffbjdjacfaa.Sim

namespace Go.Proofs.Ytcfcffbjdjacfaa.Sim
open Go
set_option linter.unusedVariables false
set_option linter.unusedSimpArgs false

/-! ### depgraph_queue_Less: function 124 -/
def depgraph_queue_Less.f (p0 : List Int) (p1 : Int) (p2 : Int) : Option (Bool) := (idx p0 p1).bind fun x5 => (idx p0 p2).bind fun x11 => some (decide (x5 < x11))
set_option maxRecDepth 100000 in
set_option maxHeartbeats 4000000 in
theorem depgraph_queue_Less.calls {p0 : List Int} {A0 : Option Addr} {cap0 : Nat} {C0 : Nat → Prop} {p1 : Int} {p2 : Int} {w : World} {g : Nat → Nat} {out : Bool} (N : Nat) (hp0 : RdS (kint .i64) w g C0 A0 cap0 p0) (hC0 : ∀ c, C0 c → c < N) (H : depgraph_queue_Less.f p0 p1 p2 = some out) :
    Calls Try.prog 124 #[.slice A0 p0.length cap0, .int .i64 p1, .int .i64 p2] w (fun e w' => ∃ v, e = .returned v ∧ ∃ (g' : Nat → Nat), v = .bool out ∧ Fr (fun q => N ≤ q) w g w' g') := by
  unfold depgraph_queue_Less.f at H
  refine calls_enter Try.func124 rfl Try.ntmps124 rfl (fun a hS => ?_)
  replace hS : Sl 16 a [(0, .slice A0 p0.length cap0), (1, .int .i64 p1), (2, .int .i64 p2)] := hS
  have hF : Fr (fun q => N ≤ q) w g w g := Fr.refl _ _ _
  refine c_pure [(0, .slice A0 p0.length cap0), (1, .int .i64 p1), (2, .int .i64 p2)] (fun R hR => st_val hS rfl rfl rfl (r_assign hS rfl rfl) fun a1 hS1 => wpList_nil (hR _ (hS1.re ⟨rfl, rfl, rfl, trivial⟩))) ?_
  clear hS
  clear a
  intro a hS
  obtain ⟨x5, hx6, H⟩ := bind_el H
  obtain ⟨x11, hx12, H⟩ := bind_el H
  refine c_draw (fun K hK => d_start (fun q => False) g [] 10 #[false, false, false, false, false, false, false, false, false, false] (by kernel_rfl) rfl rfl (fun w2 hw2 => ?_))
  have F2 : Fr (fun _ => False) w g w2 g := by rw [hw2]; exact Fr.drew _ _ _
  replace hp0 := RdS.fr hp0 F2 (by decide) (fun _ _ h => h)
  replace hF := hF.trans F2 (fun _ h => h.elim)
  have hC : Fr (fun q => False) w2 g w2 g := Fr.refl _ _ _
  refine d_pure hS 0 #[true, false, false, false, false, false, false, false, false, false] rfl rfl rfl rfl (by kernel_rfl) (fun _ _ _ h => h) (fun _ => (r_move hS rfl rfl)) fun a3 hS3 => d_pure hS3 1 #[true, true, false, false, false, false, false, false, false, false] rfl rfl rfl rfl (by kernel_rfl) (fun _ _ _ h => h) (fun _ => (r_move hS3 rfl rfl)) fun a4 hS4 => d_pure hS4 2 #[true, true, true, false, false, false, false, false, false, false] rfl rfl rfl rfl (by kernel_rfl) (fun _ _ _ h => h) (fun _ => (r_index (e := 3) (sz := 1) (by_ := 8) hS4 rfl rfl rfl (by kernel_rfl) (RdS.some_ hp0 hx6) (idx_lo hx6) (idx_hi hx6))) fun a7 hS7 => d_take hS7 3 #[true, true, true, true, false, false, false, false, false, false] rfl rfl rfl rfl (by kernel_rfl) (fun _ _ _ h => h) ⟨_, hC⟩ (fun w' g' Fz => (r_load1 (n := 1) hS7 rfl rfl (by kernel_rfl) (RdS.cell (i := p1) (sz := 1) (j := 0) (RdS.fr hp0 Fz (by decide) (fun _ _ h => h)) hx6 rfl))) fun a8 hS8 => d_pure hS8 4 #[true, true, true, true, true, false, false, false, false, false] rfl rfl rfl rfl (by kernel_rfl) (fun _ _ _ h => h) (fun _ => (r_move hS8 rfl rfl)) fun a9 hS9 => d_pure hS9 5 #[true, true, true, true, true, true, false, false, false, false] rfl rfl rfl rfl (by kernel_rfl) (fun _ _ _ h => h) (fun _ => (r_move hS9 rfl rfl)) fun a10 hS10 => d_pure hS10 6 #[true, true, true, true, true, true, true, false, false, false] rfl rfl rfl rfl (by kernel_rfl) (fun _ _ _ h => h) (fun _ => (r_index (e := 3) (sz := 1) (by_ := 8) hS10 rfl rfl rfl (by kernel_rfl) (RdS.some_ hp0 hx12) (idx_lo hx12) (idx_hi hx12))) fun a13 hS13 => d_take hS13 7 #[true, true, true, true, true, true, true, true, false, false] rfl rfl rfl rfl (by kernel_rfl) (fun _ _ _ h => h) ⟨_, hC⟩ (fun w' g' Fz => (r_load1 (n := 1) hS13 rfl rfl (by kernel_rfl) (RdS.cell (i := p2) (sz := 1) (j := 0) (RdS.fr hp0 Fz (by decide) (fun _ _ h => h)) hx12 rfl))) fun a14 hS14 => d_pure hS14 8 #[true, true, true, true, true, true, true, true, true, false] rfl rfl rfl rfl (by kernel_rfl) (fun _ _ _ h => h) (fun _ => (r_bin hS14 rfl rfl rfl b_lss)) fun a15 hS15 => d_pure hS15 9 #[true, true, true, true, true, true, true, true, true, true] rfl rfl rfl rfl (by kernel_rfl) (fun _ _ _ h => h) (fun _ => (r_assign hS15 rfl rfl)) fun a16 hS16 => d_done (by kernel_rfl) (hK _ _ ?_)
  replace hS : Sl 16 _ [(6, .bool (decide (x5 < x11)))] := hS16.re ⟨rfl, trivial⟩
  clear hK K hC
  try clear hS3 hS4 hS7 hS8 hS9 hS10 hS13 hS14 hS15 hS16
  obtain ⟨a, ha⟩ : ∃ a', a' = a16 := ⟨_, rfl⟩
  rw [← ha] at hS ⊢; clear ha
  refine wp_ret ?_
  have e := Option.some.inj H
  subst e
  repeat (with_reducible first | refine then_ret ?_ | refine inBlock_ret ?_)
  exact c_ret1 hS Try.results124 rfl ⟨_, rfl, g, rfl, hF⟩


end Go.Proofs.Ytcfcffbjdjacfaa.Sim

namespace Go.Proofs.Ytcfcffbjdjacfaa.Sim
open Go
set_option linter.unusedVariables false
set_option linter.unusedSimpArgs false

/-! ### heap_down: function 106 -/
def heap_down.l0 (p2 : Int) : Nat → (List Int) → Int → Option (Int × (List Int))
  | 0, _, _ => none
  | k9 + 1, m0_0, m0_1 => if ((decide (p2 ≤ (wi ((wi (2 * m0_1)) + 1)))) || (decide ((wi ((wi (2 * m0_1)) + 1)) < 0))) = true then (some (m0_1, m0_0)) else (((if decide ((wi ((wi ((wi (2 * m0_1)) + 1)) + 1)) < p2) = true then (depgraph_queue_Less.f m0_0 (wi ((wi ((wi (2 * m0_1)) + 1)) + 1)) (wi ((wi (2 * m0_1)) + 1))).bind fun r46 => some r46 else some false).bind fun t50 => if t50 = true then (some (wi ((wi ((wi (2 * m0_1)) + 1)) + 1))) else (some (wi ((wi (2 * m0_1)) + 1))) : Option (Int)).bind fun v32 => (depgraph_queue_Less.f m0_0 v32 m0_1).bind fun r75 => if (!r75) = true then (some (m0_1, m0_0)) else ((depgraph_queue_Swap.f m0_0 m0_1 v32).bind fun r84 => heap_down.l0 p2 k9 r84 v32))
def heap_down.f (p0 : depgraph_queue) (p1 : Int) (p2 : Int) : Option (depgraph_queue × Bool) := (heap_down.l0 p2 FUEL p0.q p1 : Option (Int × (List Int))).bind fun v5 => some ((depgraph_queue.mk v5.2), decide (p1 < v5.1))
set_option maxRecDepth 100000 in
set_option maxHeartbeats 4000000 in
theorem heap_down.calls {p0 : depgraph_queue} {c0 : Nat}  {b_p0 : Nat} {A_q_p0 : Option Addr} {cap_q_p0 : Nat} {p1 : Int} {p2 : Int} {w : World} {g : Nat → Nat} {out : depgraph_queue × Bool} (N : Nat) (hp0 : depgraph_queue_At w g c0 b_p0 A_q_p0 cap_q_p0 p0) (hc0 : c0 + 3 ≤ N) (H : heap_down.f p0 p1 p2 = some out) :
    Calls Try.prog 106 #[.iface 140 (.pointer (some ⟨b_p0, 0, none⟩)), .int .i64 p1, .int .i64 p2] w (fun e w' => ∃ v, e = .returned v ∧ ∃ (g' : Nat → Nat), v = .bool out.2 ∧ depgraph_queue_At w' g' c0 b_p0 A_q_p0 cap_q_p0 out.1 ∧ Fr (fun q => (c0 ≤ q ∧ q < c0 + 3) ∨ N ≤ q) w g w' g') := by
  unfold heap_down.f at H
  refine calls_enter Try.func106 rfl Try.ntmps106 rfl (fun a hS => ?_)
  replace hS : Sl 48 a [(0, .iface 140 (.pointer (some ⟨b_p0, 0, none⟩))), (1, .int .i64 p1), (2, .int .i64 p2)] := hS
  have hF : Fr (fun q => (c0 ≤ q ∧ q < c0 + 3) ∨ N ≤ q) w g w g := Fr.refl _ _ _
  obtain ⟨hb0, hf0_q⟩ := hp0
  refine c_pure [(0, .iface 140 (.pointer (some ⟨b_p0, 0, none⟩))), (1, .int .i64 p1), (2, .int .i64 p2)] (fun R hR => st_val hS rfl rfl rfl (r_assign hS rfl rfl) fun a1 hS1 => wpList_nil (hR _ (hS1.re ⟨rfl, rfl, rfl, trivial⟩))) ?_
  clear hS
  clear a
  intro a hS
  refine c_pure [(0, .iface 140 (.pointer (some ⟨b_p0, 0, none⟩))), (1, .int .i64 p1), (2, .int .i64 p2), (7, .int .i64 p1)] (fun R hR => st_val hS rfl rfl rfl (r_move hS rfl rfl) fun a2 hS2 => st_val hS2 rfl rfl rfl (r_assign hS2 rfl rfl) fun a3 hS3 => wpList_nil (hR _ (hS3.re ⟨rfl, rfl, rfl, rfl, trivial⟩))) ?_
  clear hS
  clear a
  intro a hS
  obtain ⟨v5, H, Hl7⟩ := bind_el H
  refine c_cut (fun a w4 => ∃ (g4 : Nat → Nat), Sl 48 a [(1, .int .i64 p1), (7, .int .i64 v5.1)] ∧ Bx w4 g4 (c0) b_p0 138 [.slice A_q_p0 v5.2.length cap_q_p0] ∧ OwS (kint .i64) 3 w4 g4 (c0 + 1) A_q_p0 cap_q_p0 v5.2 ∧ Fr (fun q => (c0 ≤ q ∧ q < c0 + 3) ∨ N ≤ q) w g w4 g4) ?_ ?_
  · refine wp_block ?_
    refine wp_loop_ghost (fun kq => fun a w8 => ∃ (m0_0 : List Int), ∃ (m0_1 : Int), ∃ (g8 : Nat → Nat), heap_down.l0 p2 kq m0_0 m0_1 = some v5 ∧ Sl 48 a [(0, .iface 140 (.pointer (some ⟨b_p0, 0, none⟩))), (1, .int .i64 p1), (2, .int .i64 p2), (7, .int .i64 m0_1)] ∧ Bx w8 g8 (c0) b_p0 138 [.slice A_q_p0 m0_0.length cap_q_p0] ∧ OwS (kint .i64) 3 w8 g8 (c0 + 1) A_q_p0 cap_q_p0 m0_0 ∧ Fr (fun q => (c0 ≤ q ∧ q < c0 + 3) ∨ N ≤ q) w g w8 g8) FUEL ?_ ?_
    · exact ⟨p0.q, p1, g, H, hS.re ⟨rfl, rfl, rfl, rfl, trivial⟩, hb0, hf0_q, hF⟩
    · clear H
      clear hf0_q hb0 hF
      clear hS
      rintro k9 a w8 ⟨m0_0, m0_1, g8, hpre0, hS, hb0, hf0_q, hF⟩
      have H := hpre0
      clear hpre0
      cases k9 with
      | zero => exact absurd H (by simp [heap_down.l0])
      | succ k9 =>
        rw [heap_down.l0] at H
        refine wp_block ?_
        refine c_pure [(0, .iface 140 (.pointer (some ⟨b_p0, 0, none⟩))), (1, .int .i64 p1), (2, .int .i64 p2), (7, .int .i64 m0_1), (8, .int .i64 (wi ((wi (2 * m0_1)) + 1)))] (fun R hR => st_val hS rfl rfl rfl (r_move hS rfl rfl) fun a10 hS10 => st_val hS10 rfl rfl rfl (r_bin hS10 rfl rfl rfl b_mul) fun a11 hS11 => st_val hS11 rfl rfl rfl (r_bin hS11 rfl rfl rfl b_add) fun a12 hS12 => st_val hS12 rfl rfl rfl (r_assign hS12 rfl rfl) fun a13 hS13 => wpList_nil (hR _ (hS13.re ⟨rfl, rfl, rfl, rfl, rfl, trivial⟩))) ?_
        clear hS
        clear a
        intro a hS
        refine wp_seq ?_
        refine c_region (fun K hK => ?_)
        refine st_val hS rfl rfl rfl (r_move hS rfl rfl) fun a14 hS14 => st_val hS14 rfl rfl rfl (r_move hS14 rfl rfl) fun a15 hS15 => st_val hS15 rfl rfl rfl (r_bin hS15 rfl rfl rfl b_geq) fun a16 hS16 => st_val hS16 rfl rfl rfl (r_move hS16 rfl rfl) fun a17 hS17 => ?_
        refine g_join (N := 48) 3 [(0, .iface 140 (.pointer (some ⟨b_p0, 0, none⟩))), (1, .int .i64 p1), (2, .int .i64 p2), (7, .int .i64 m0_1), (8, .int .i64 (wi ((wi (2 * m0_1)) + 1))), (21, .bool ((decide (p2 ≤ (wi ((wi (2 * m0_1)) + 1)))) || (decide ((wi ((wi (2 * m0_1)) + 1)) < 0))))] ?_ (fun hk => ?_)
        rotate_left
        · rcases Bool.eq_false_or_eq_true (decide (p2 ≤ (wi ((wi (2 * m0_1)) + 1)))) with hb18 | hb18
          · refine st_off hS17 (want_off hS17 rfl rfl rfl hb18) rfl rfl fun a21 hS21 => st_off hS21 (want_off hS21 rfl rfl rfl hb18) rfl rfl fun a22 hS22 => st_val hS22 rfl rfl rfl (r_pickT hS22 rfl rfl rfl hb18) fun a23 hS23 => hk _ (hS23.re ⟨rfl, rfl, rfl, rfl, rfl, (by rw [hb18]; rfl), trivial⟩)
          · refine st_valW hS17 (want_on hS17 rfl rfl rfl hb18) rfl rfl (r_move hS17 rfl rfl) fun a24 hS24 => st_valW hS24 (want_on hS24 rfl rfl rfl hb18) rfl rfl (r_bin hS24 rfl rfl rfl b_lss) fun a25 hS25 => st_val hS25 rfl rfl rfl (r_pickF hS25 rfl rfl rfl hb18) fun a26 hS26 => hk _ (hS26.re ⟨rfl, rfl, rfl, rfl, rfl, (by rw [hb18]; rfl), trivial⟩)
        intro a27 hS27
        refine wpList_nil (hK _ _ ?_)
        replace hS : Sl 48 _ [(0, .iface 140 (.pointer (some ⟨b_p0, 0, none⟩))), (1, .int .i64 p1), (2, .int .i64 p2), (7, .int .i64 m0_1), (8, .int .i64 (wi ((wi (2 * m0_1)) + 1))), (21, .bool ((decide (p2 ≤ (wi ((wi (2 * m0_1)) + 1)))) || (decide ((wi ((wi (2 * m0_1)) + 1)) < 0))))] := hS27.re ⟨rfl, rfl, rfl, rfl, rfl, rfl, trivial⟩
        clear hK K
        try clear hS14 hS15 hS16 hS17 hS27
        obtain ⟨a, ha⟩ : ∃ a', a' = a27 := ⟨_, rfl⟩
        rw [← ha] at hS ⊢; clear ha
        refine c_cond hS rfl (fun hb28 => ?_) (fun hb28 => ?_)
        · replace H := ite_t hb28 H
          refine wp_exit ?_
          have e := Option.some.inj H
          subst e
          exact ⟨g8, hS.re ⟨rfl, rfl, trivial⟩, hb0, hf0_q, hF⟩
        · replace H := ite_f hb28 H
          refine wp_skip ?_
          change Code.wp _ _ _ _ _
          refine c_pure [(0, .iface 140 (.pointer (some ⟨b_p0, 0, none⟩))), (1, .int .i64 p1), (2, .int .i64 p2), (7, .int .i64 m0_1), (8, .int .i64 (wi ((wi (2 * m0_1)) + 1))), (9, .int .i64 (wi ((wi (2 * m0_1)) + 1)))] (fun R hR => st_val hS rfl rfl rfl (r_move hS rfl rfl) fun a29 hS29 => st_val hS29 rfl rfl rfl (r_assign hS29 rfl rfl) fun a30 hS30 => wpList_nil (hR _ (hS30.re ⟨rfl, rfl, rfl, rfl, rfl, rfl, trivial⟩))) ?_
          clear hS
          clear a
          intro a hS
          obtain ⟨v32, H, Hl34⟩ := bind_el H
          refine c_cut (fun a w31 => ∃ (g31 : Nat → Nat), Sl 48 a [(0, .iface 140 (.pointer (some ⟨b_p0, 0, none⟩))), (1, .int .i64 p1), (2, .int .i64 p2), (7, .int .i64 m0_1), (9, .int .i64 v32)] ∧ Bx w31 g31 (c0) b_p0 138 [.slice A_q_p0 m0_0.length cap_q_p0] ∧ OwS (kint .i64) 3 w31 g31 (c0 + 1) A_q_p0 cap_q_p0 m0_0 ∧ Fr (fun q => (c0 ≤ q ∧ q < c0 + 3) ∨ N ≤ q) w g w31 g31) ?_ ?_
          · refine c_pure [(0, .iface 140 (.pointer (some ⟨b_p0, 0, none⟩))), (1, .int .i64 p1), (2, .int .i64 p2), (7, .int .i64 m0_1), (8, .int .i64 (wi ((wi (2 * m0_1)) + 1))), (9, .int .i64 (wi ((wi (2 * m0_1)) + 1))), (10, .int .i64 (wi ((wi ((wi (2 * m0_1)) + 1)) + 1)))] (fun R hR => st_val hS rfl rfl rfl (r_move hS rfl rfl) fun a35 hS35 => st_val hS35 rfl rfl rfl (r_bin hS35 rfl rfl rfl b_add) fun a36 hS36 => st_val hS36 rfl rfl rfl (r_assign hS36 rfl rfl) fun a37 hS37 => wpList_nil (hR _ (hS37.re ⟨rfl, rfl, rfl, rfl, rfl, rfl, rfl, trivial⟩))) ?_
            clear hS
            clear a
            intro a hS
            obtain ⟨t50, ht51, H⟩ := bind_el H
            refine c_region (fun K hK => ?_)
            refine st_val hS rfl rfl rfl (r_move hS rfl rfl) fun a38 hS38 => st_val hS38 rfl rfl rfl (r_move hS38 rfl rfl) fun a39 hS39 => st_val hS39 rfl rfl rfl (r_bin hS39 rfl rfl rfl b_lss) fun a40 hS40 => st_val hS40 rfl rfl rfl (r_move hS40 rfl rfl) fun a41 hS41 => ?_
            refine g_joinR 5 (fun a w52 => ∃ (g52 : Nat → Nat), Sl 48 a [(0, .iface 140 (.pointer (some ⟨b_p0, 0, none⟩))), (1, .int .i64 p1), (2, .int .i64 p2), (7, .int .i64 m0_1), (9, .int .i64 (wi ((wi (2 * m0_1)) + 1))), (10, .int .i64 (wi ((wi ((wi (2 * m0_1)) + 1)) + 1))), (33, .bool t50)] ∧ Bx w52 g52 (c0) b_p0 138 [.slice A_q_p0 m0_0.length cap_q_p0] ∧ OwS (kint .i64) 3 w52 g52 (c0 + 1) A_q_p0 cap_q_p0 m0_0 ∧ Fr (fun q => (c0 ≤ q ∧ q < c0 + 3) ∨ N ≤ q) w g w52 g52) ?_ (fun hk => ?_)
            rotate_left
            · rcases Bool.eq_false_or_eq_true (decide ((wi ((wi ((wi (2 * m0_1)) + 1)) + 1)) < p2)) with hb42 | hb42
              · have H := ite_t hb42 ht51
                obtain ⟨r56, hr57, H⟩ := bind_el H
                have e60 := Option.some.inj H
                refine st_valW hS41 (want_on hS41 rfl rfl rfl hb42) rfl rfl (r_move hS41 rfl rfl) fun a53 hS53 => st_valW hS53 (want_on hS53 rfl rfl rfl hb42) rfl rfl (r_move hS53 rfl rfl) fun a54 hS54 => st_valW hS54 (want_on hS54 rfl rfl rfl hb42) rfl rfl (r_move hS54 rfl rfl) fun a55 hS55 => ?_
                refine st_enterW hS55 (want_on hS55 rfl rfl rfl hb42) rfl rfl (r_invoke (T := 140) (E := 138) (f := 124) (n := 1) (b := false) hS55 rfl rfl rfl (by kernel_rfl) (by kernel_rfl) (by kernel_rfl) (.inr ⟨rfl, (by kernel_rfl), Bx.cell hb0 rfl⟩)) (depgraph_queue_Less.calls (C0 := (fun q => q = c0 + 1)) (p0 := m0_0) (p1 := (wi ((wi ((wi (2 * m0_1)) + 1)) + 1))) (p2 := (wi ((wi (2 * m0_1)) + 1))) (g := g8) (N + 0)  (OwD.rdf (fun _ _ _ _ _ _ h => h) hf0_q) (fun q (hq : q = c0 + 1) => by omega) hr57) ?_
                rintro _ a58 w59 ⟨g59, rfl, F59⟩ hS58
                replace hb0 := hb0.fr F59 (fun (hm : N + 0 ≤ c0) => by omega)
                replace hf0_q := OwS.fr hf0_q F59 (fun c' hc (hm : N + 0 ≤ c') => by omega)
                replace hF := hF.trans F59 (fun c' (hm : N + 0 ≤ c') => by show (c0 ≤ c' ∧ c' < c0 + 3) ∨ N ≤ c'; omega)
                refine st_val hS58 rfl rfl rfl (r_pickT hS58 rfl rfl rfl hb42) fun a61 hS61 => hk _ _ ?_
                exact ⟨g59, hS61.re ⟨rfl, rfl, rfl, rfl, rfl, rfl, (by rw [← e60]; rfl), trivial⟩, hb0, hf0_q, hF⟩
              · have H := ite_f hb42 ht51
                have e62 := Option.some.inj H
                refine st_off hS41 (want_off hS41 rfl rfl rfl hb42) rfl rfl fun a63 hS63 => st_off hS63 (want_off hS63 rfl rfl rfl hb42) rfl rfl fun a64 hS64 => st_off hS64 (want_off hS64 rfl rfl rfl hb42) rfl rfl fun a65 hS65 => st_off hS65 (want_off hS65 rfl rfl rfl hb42) rfl rfl fun a66 hS66 => st_val hS66 rfl rfl rfl (r_pickF hS66 rfl rfl rfl hb42) fun a67 hS67 => hk _ _ ?_
                exact ⟨g8, hS67.re ⟨rfl, rfl, rfl, rfl, rfl, rfl, (by rw [← e62]; rfl), trivial⟩, hb0, hf0_q, hF⟩
            rintro a68 w52 ⟨g52, hS68, hb0, hf0_q, hF⟩
            refine wpList_nil (hK _ _ ?_)
            replace hS : Sl 48 _ [(0, .iface 140 (.pointer (some ⟨b_p0, 0, none⟩))), (1, .int .i64 p1), (2, .int .i64 p2), (7, .int .i64 m0_1), (9, .int .i64 (wi ((wi (2 * m0_1)) + 1))), (10, .int .i64 (wi ((wi ((wi (2 * m0_1)) + 1)) + 1))), (33, .bool t50)] := hS68.re ⟨rfl, rfl, rfl, rfl, rfl, rfl, rfl, trivial⟩
            clear hK K
            try clear hS38 hS39 hS40 hS41 hS68
            obtain ⟨a, ha⟩ : ∃ a', a' = a68 := ⟨_, rfl⟩
            rw [← ha] at hS ⊢; clear ha
            refine c_cond hS rfl (fun hb69 => ?_) (fun hb69 => ?_)
            · replace H := ite_t hb69 H
              refine c_pure1 [(0, .iface 140 (.pointer (some ⟨b_p0, 0, none⟩))), (1, .int .i64 p1), (2, .int .i64 p2), (7, .int .i64 m0_1), (9, .int .i64 (wi ((wi ((wi (2 * m0_1)) + 1)) + 1)))] (fun R hR => st_val hS rfl rfl rfl (r_move hS rfl rfl) fun a70 hS70 => st_val hS70 rfl rfl rfl (r_assign hS70 rfl rfl) fun a71 hS71 => wpList_nil (hR _ (hS71.re ⟨rfl, rfl, rfl, rfl, rfl, trivial⟩))) ?_
              clear hS
              clear a
              intro a hS
              have e := Option.some.inj H
              subst e
              exact ⟨g52, hS.re ⟨rfl, rfl, rfl, rfl, rfl, trivial⟩, hb0, hf0_q, hF⟩
            · replace H := ite_f hb69 H
              refine wp_skip ?_
              have e := Option.some.inj H
              subst e
              exact ⟨g52, hS.re ⟨rfl, rfl, rfl, rfl, rfl, trivial⟩, hb0, hf0_q, hF⟩
          · clear H
            clear hf0_q hb0 hF
            clear hS
            rintro a w31 ⟨g31, hS, hb0, hf0_q, hF⟩
            have H := Hl34
            clear Hl34
            refine wp_seq ?_
            obtain ⟨r75, hr76, H⟩ := bind_el H
            refine c_region (fun K hK => ?_)
            refine st_val hS rfl rfl rfl (r_move hS rfl rfl) fun a72 hS72 => st_val hS72 rfl rfl rfl (r_move hS72 rfl rfl) fun a73 hS73 => st_val hS73 rfl rfl rfl (r_move hS73 rfl rfl) fun a74 hS74 => ?_
            refine st_enter hS74 rfl rfl rfl (r_invoke (T := 140) (E := 138) (f := 124) (n := 1) (b := false) hS74 rfl rfl rfl (by kernel_rfl) (by kernel_rfl) (by kernel_rfl) (.inr ⟨rfl, (by kernel_rfl), Bx.cell hb0 rfl⟩)) (depgraph_queue_Less.calls (C0 := (fun q => q = c0 + 1)) (p0 := m0_0) (p1 := v32) (p2 := m0_1) (g := g31) (N + 0)  (OwD.rdf (fun _ _ _ _ _ _ h => h) hf0_q) (fun q (hq : q = c0 + 1) => by omega) hr76) ?_
            rintro _ a77 w78 ⟨g78, rfl, F78⟩ hS77
            replace hb0 := hb0.fr F78 (fun (hm : N + 0 ≤ c0) => by omega)
            replace hf0_q := OwS.fr hf0_q F78 (fun c' hc (hm : N + 0 ≤ c') => by omega)
            replace hF := hF.trans F78 (fun c' (hm : N + 0 ≤ c') => by show (c0 ≤ c' ∧ c' < c0 + 3) ∨ N ≤ c'; omega)
            refine st_val hS77 rfl rfl rfl (r_not hS77 rfl rfl) fun a79 hS79 => wpList_nil (hK _ _ ?_)
            replace hS : Sl 48 _ [(0, .iface 140 (.pointer (some ⟨b_p0, 0, none⟩))), (1, .int .i64 p1), (2, .int .i64 p2), (7, .int .i64 m0_1), (9, .int .i64 v32), (39, .bool (!r75))] := hS79.re ⟨rfl, rfl, rfl, rfl, rfl, rfl, trivial⟩
            clear hK K
            try clear hS72 hS73 hS74 hS77 hS79
            obtain ⟨a, ha⟩ : ∃ a', a' = a79 := ⟨_, rfl⟩
            rw [← ha] at hS ⊢; clear ha
            refine c_cond hS rfl (fun hb80 => ?_) (fun hb80 => ?_)
            · replace H := ite_t hb80 H
              refine wp_exit ?_
              have e := Option.some.inj H
              subst e
              exact ⟨g78, hS.re ⟨rfl, rfl, trivial⟩, hb0, hf0_q, hF⟩
            · replace H := ite_f hb80 H
              refine wp_skip ?_
              change Code.wp _ _ _ _ _
              obtain ⟨r84, hr85, H⟩ := bind_el H
              refine c_region (fun K hK => ?_)
              refine st_val hS rfl rfl rfl (r_move hS rfl rfl) fun a81 hS81 => st_val hS81 rfl rfl rfl (r_move hS81 rfl rfl) fun a82 hS82 => st_val hS82 rfl rfl rfl (r_move hS82 rfl rfl) fun a83 hS83 => ?_
              refine st_enter hS83 rfl rfl rfl (r_invoke (T := 140) (E := 138) (f := 125) (n := 1) (b := false) hS83 rfl rfl rfl (by kernel_rfl) (by kernel_rfl) (by kernel_rfl) (.inr ⟨rfl, (by kernel_rfl), Bx.cell hb0 rfl⟩)) (depgraph_queue_Swap.calls (c0 := c0 + 1) (A0 := A_q_p0) (cap0 := cap_q_p0) (p0 := m0_0) (p1 := m0_1) (p2 := v32) (g := g78) (N + 0)  hf0_q (by omega) hr85) ?_
              rintro _ a87 w88 ⟨g88, rfl, hf0_q, hl86, F88⟩ hS87
              replace hb0 := hb0.fr F88 (fun (hm : (c0 + 1 ≤ c0 ∧ c0 < c0 + 1 + 2) ∨ N + 0 ≤ c0) => by omega)
              replace hF := hF.trans F88 (fun c' (hm : (c0 + 1 ≤ c' ∧ c' < c0 + 1 + 2) ∨ N + 0 ≤ c') => by show (c0 ≤ c' ∧ c' < c0 + 3) ∨ N ≤ c'; omega)
              replace hb0 : Bx w88 g88 (c0) b_p0 138 [.slice A_q_p0 r84.length cap_q_p0] := by simpa only [hl86] using hb0
              refine wpList_nil (hK _ _ ?_)
              replace hS : Sl 48 _ [(0, .iface 140 (.pointer (some ⟨b_p0, 0, none⟩))), (1, .int .i64 p1), (2, .int .i64 p2), (9, .int .i64 v32)] := hS87.re ⟨rfl, rfl, rfl, rfl, trivial⟩
              clear hK K
              try clear hS81 hS82 hS83 hS87
              obtain ⟨a, ha⟩ : ∃ a', a' = a87 := ⟨_, rfl⟩
              rw [← ha] at hS ⊢; clear ha
              refine c_pure1 [(0, .iface 140 (.pointer (some ⟨b_p0, 0, none⟩))), (1, .int .i64 p1), (2, .int .i64 p2), (7, .int .i64 v32)] (fun R hR => st_val hS rfl rfl rfl (r_move hS rfl rfl) fun a89 hS89 => st_val hS89 rfl rfl rfl (r_assign hS89 rfl rfl) fun a90 hS90 => wpList_nil (hR _ (hS90.re ⟨rfl, rfl, rfl, rfl, trivial⟩))) ?_
              clear hS
              clear a
              intro a hS
              refine ⟨k9, Nat.lt_succ_self _, ?_⟩
              exact ⟨r84, v32, g88, H, hS.re ⟨rfl, rfl, rfl, rfl, trivial⟩, hb0, hf0_q, hF⟩
  · clear H
    clear hf0_q hb0 hF
    clear hS
    rintro a w4 ⟨g4, hS, hb0, hf0_q, hF⟩
    have H := Hl7
    clear Hl7
    refine c_pure [(6, .bool (decide (p1 < v5.1)))] (fun R hR => st_val hS rfl rfl rfl (r_move hS rfl rfl) fun a91 hS91 => st_val hS91 rfl rfl rfl (r_move hS91 rfl rfl) fun a92 hS92 => st_val hS92 rfl rfl rfl (r_bin hS92 rfl rfl rfl b_gtr) fun a93 hS93 => st_val hS93 rfl rfl rfl (r_assign hS93 rfl rfl) fun a94 hS94 => wpList_nil (hR _ (hS94.re ⟨rfl, trivial⟩))) ?_
    clear hS
    clear a
    intro a hS
    refine wp_ret ?_
    have e := Option.some.inj H
    subst e
    repeat (with_reducible first | refine then_ret ?_ | refine inBlock_ret ?_)
    exact c_ret1 hS Try.results106 rfl ⟨_, rfl, g4, rfl, ⟨hb0, hf0_q⟩, hF⟩


end Go.Proofs.Ytcfcffbjdjacfaa.Sim

namespace Go.Proofs.Ytcfcffbjdjacfaa.Sim
open Go
set_option linter.unusedVariables false
set_option linter.unusedSimpArgs false

/-! ### heap_Pop: function 92 -/
def heap_Pop.f (p0 : depgraph_queue) : Option (depgraph_queue × Int) := (depgraph_queue_Len.f p0.q).bind fun r3 => (depgraph_queue_Swap.f p0.q 0 (wi (r3 - 1))).bind fun r11 => (heap_down.f (depgraph_queue.mk r11) 0 (wi (r3 - 1))).bind fun r18 => (depgraph_queue_Pop.f r18.1).bind fun r23 => some (r23.1, r23.2)
set_option maxRecDepth 100000 in
set_option maxHeartbeats 4000000 in
theorem heap_Pop.calls {p0 : depgraph_queue} {c0 : Nat}  {b_p0 : Nat} {A_q_p0 : Option Addr} {cap_q_p0 : Nat} {w : World} {g : Nat → Nat} {out : depgraph_queue × Int} (N : Nat) (hp0 : depgraph_queue_At w g c0 b_p0 A_q_p0 cap_q_p0 p0) (hc0 : c0 + 3 ≤ N) (H : heap_Pop.f p0 = some out) :
    Calls Try.prog 92 #[.iface 140 (.pointer (some ⟨b_p0, 0, none⟩))] w (fun e w' => ∃ v, e = .returned v ∧ ∃ (g' : Nat → Nat) (A_q_q0 : Option Addr) (cap_q_q0 : Nat), v = .iface 3 (.int .i64 out.2) ∧ depgraph_queue_At w' g' c0 b_p0 A_q_q0 cap_q_q0 out.1 ∧ Fr (fun q => (c0 ≤ q ∧ q < c0 + 3) ∨ N ≤ q) w g w' g') := by
  unfold heap_Pop.f at H
  refine calls_enter Try.func92 rfl Try.ntmps92 rfl (fun a hS => ?_)
  replace hS : Sl 15 a [(0, .iface 140 (.pointer (some ⟨b_p0, 0, none⟩)))] := hS
  have hF : Fr (fun q => (c0 ≤ q ∧ q < c0 + 3) ∨ N ≤ q) w g w g := Fr.refl _ _ _
  obtain ⟨hb0, hf0_q⟩ := hp0
  refine c_pure [(0, .iface 140 (.pointer (some ⟨b_p0, 0, none⟩)))] (fun R hR => st_val hS rfl rfl rfl (r_assign hS rfl rfl) fun a1 hS1 => wpList_nil (hR _ (hS1.re ⟨rfl, trivial⟩))) ?_
  clear hS
  clear a
  intro a hS
  obtain ⟨r3, hr4, H⟩ := bind_el H
  refine c_region (fun K hK => ?_)
  refine st_val hS rfl rfl rfl (r_move hS rfl rfl) fun a2 hS2 => ?_
  refine st_enter hS2 rfl rfl rfl (r_invoke (T := 140) (E := 138) (f := 123) (n := 1) (b := false) hS2 rfl rfl rfl (by kernel_rfl) (by kernel_rfl) (by kernel_rfl) (.inr ⟨rfl, (by kernel_rfl), Bx.cell hb0 rfl⟩)) (depgraph_queue_Len.calls (C0 := (fun q => q = c0 + 1)) (p0 := p0.q) (g := g) (N + 0)  (OwD.rdf (fun _ _ _ _ _ _ h => h) hf0_q) (fun q (hq : q = c0 + 1) => by omega) hr4) ?_
  rintro _ a5 w6 ⟨g6, rfl, F6⟩ hS5
  replace hb0 := hb0.fr F6 (fun (hm : N + 0 ≤ c0) => by omega)
  replace hf0_q := OwS.fr hf0_q F6 (fun c' hc (hm : N + 0 ≤ c') => by omega)
  replace hF := hF.trans F6 (fun c' (hm : N + 0 ≤ c') => by show (c0 ≤ c' ∧ c' < c0 + 3) ∨ N ≤ c'; omega)
  refine st_val hS5 rfl rfl rfl (r_bin hS5 rfl rfl rfl b_sub) fun a7 hS7 => st_val hS7 rfl rfl rfl (r_assign hS7 rfl rfl) fun a8 hS8 => wpList_nil (hK _ _ ?_)
  replace hS : Sl 15 _ [(0, .iface 140 (.pointer (some ⟨b_p0, 0, none⟩))), (3, .int .i64 (wi (r3 - 1)))] := hS8.re ⟨rfl, rfl, trivial⟩
  clear hK K
  try clear hS2 hS5 hS7 hS8
  obtain ⟨a, ha⟩ : ∃ a', a' = a8 := ⟨_, rfl⟩
  rw [← ha] at hS ⊢; clear ha
  obtain ⟨r11, hr12, H⟩ := bind_el H
  refine c_region (fun K hK => ?_)
  refine st_val hS rfl rfl rfl (r_move hS rfl rfl) fun a9 hS9 => st_val hS9 rfl rfl rfl (r_move hS9 rfl rfl) fun a10 hS10 => ?_
  refine st_enter hS10 rfl rfl rfl (r_invoke (T := 140) (E := 138) (f := 125) (n := 1) (b := false) hS10 rfl rfl rfl (by kernel_rfl) (by kernel_rfl) (by kernel_rfl) (.inr ⟨rfl, (by kernel_rfl), Bx.cell hb0 rfl⟩)) (depgraph_queue_Swap.calls (c0 := c0 + 1) (A0 := A_q_p0) (cap0 := cap_q_p0) (p0 := p0.q) (p1 := 0) (p2 := (wi (r3 - 1))) (g := g6) (N + 0)  hf0_q (by omega) hr12) ?_
  rintro _ a14 w15 ⟨g15, rfl, hf0_q, hl13, F15⟩ hS14
  replace hb0 := hb0.fr F15 (fun (hm : (c0 + 1 ≤ c0 ∧ c0 < c0 + 1 + 2) ∨ N + 0 ≤ c0) => by omega)
  replace hF := hF.trans F15 (fun c' (hm : (c0 + 1 ≤ c' ∧ c' < c0 + 1 + 2) ∨ N + 0 ≤ c') => by show (c0 ≤ c' ∧ c' < c0 + 3) ∨ N ≤ c'; omega)
  replace hb0 : Bx w15 g15 (c0) b_p0 138 [.slice A_q_p0 r11.length cap_q_p0] := by simpa only [hl13] using hb0
  refine wpList_nil (hK _ _ ?_)
  replace hS : Sl 15 _ [(0, .iface 140 (.pointer (some ⟨b_p0, 0, none⟩))), (3, .int .i64 (wi (r3 - 1)))] := hS14.re ⟨rfl, rfl, trivial⟩
  clear hK K
  try clear hS9 hS10 hS14
  obtain ⟨a, ha⟩ : ∃ a', a' = a14 := ⟨_, rfl⟩
  rw [← ha] at hS ⊢; clear ha
  obtain ⟨r18, hr19, H⟩ := bind_el H
  refine c_region (fun K hK => ?_)
  refine st_val hS rfl rfl rfl (r_move hS rfl rfl) fun a16 hS16 => st_val hS16 rfl rfl rfl (r_move hS16 rfl rfl) fun a17 hS17 => ?_
  refine st_enter hS17 rfl rfl rfl (r_call hS17 rfl rfl (by kernel_rfl)) (heap_down.calls (c0 := c0) (b_p0 := b_p0) (A_q_p0 := A_q_p0) (cap_q_p0 := cap_q_p0) (p0 := (depgraph_queue.mk r11)) (p1 := 0) (p2 := (wi (r3 - 1))) (g := g15) (N + 0)  ⟨hb0, hf0_q⟩ (by omega) hr19) ?_
  rintro _ a20 w21 ⟨g21, rfl, ⟨hb0, hf0_q⟩, F21⟩ hS20
  replace hF := hF.trans F21 (fun c' (hm : (c0 ≤ c' ∧ c' < c0 + 3) ∨ N + 0 ≤ c') => by show (c0 ≤ c' ∧ c' < c0 + 3) ∨ N ≤ c'; omega)
  refine wpList_nil (hK _ _ ?_)
  replace hS : Sl 15 _ [(0, .iface 140 (.pointer (some ⟨b_p0, 0, none⟩)))] := hS20.re ⟨rfl, trivial⟩
  clear hK K
  try clear hS16 hS17 hS20
  obtain ⟨a, ha⟩ : ∃ a', a' = a20 := ⟨_, rfl⟩
  rw [← ha] at hS ⊢; clear ha
  obtain ⟨r23, hr24, H⟩ := bind_el H
  refine c_region (fun K hK => ?_)
  refine st_val hS rfl rfl rfl (r_move hS rfl rfl) fun a22 hS22 => ?_
  refine st_enter hS22 rfl rfl rfl (r_invoke (T := 140) (E := 138) (f := 126) (n := 1) (b := true) hS22 rfl rfl rfl (by kernel_rfl) (by kernel_rfl) (by kernel_rfl) (.inl ⟨rfl, rfl⟩)) (depgraph_queue_Pop.calls (c0 := c0) (b_p0 := b_p0) (A_q_p0 := A_q_p0) (cap_q_p0 := cap_q_p0) (p0 := r18.1) (g := g21) (N + 0)  ⟨hb0, hf0_q⟩ (by omega) hr24) ?_
  rintro _ a27 w28 ⟨g28, A25, cap26, rfl, ⟨hb0, hf0_q⟩, F28⟩ hS27
  replace hF := hF.trans F28 (fun c' (hm : (c0 ≤ c' ∧ c' < c0 + 3) ∨ N + 0 ≤ c') => by show (c0 ≤ c' ∧ c' < c0 + 3) ∨ N ≤ c'; omega)
  refine st_val hS27 rfl rfl rfl (r_assign hS27 rfl rfl) fun a29 hS29 => wpList_nil (hK _ _ ?_)
  replace hS : Sl 15 _ [(2, .iface 3 (.int .i64 r23.2))] := hS29.re ⟨rfl, trivial⟩
  clear hK K
  try clear hS22 hS27 hS29
  obtain ⟨a, ha⟩ : ∃ a', a' = a29 := ⟨_, rfl⟩
  rw [← ha] at hS ⊢; clear ha
  refine wp_ret ?_
  have e := Option.some.inj H
  subst e
  repeat (with_reducible first | refine then_ret ?_ | refine inBlock_ret ?_)
  exact c_ret1 hS Try.results92 rfl ⟨_, rfl, g28, A25, cap26, rfl, ⟨hb0, hf0_q⟩, hF⟩


end Go.Proofs.Ytcfcffbjdjacfaa.Sim

namespace Go.Proofs.Ytcfcffbjdjacfaa.Sim
open Go
set_option linter.unusedVariables false
set_option linter.unusedSimpArgs false

/-! ### depgraph_queue_Push: function 127 -/
def depgraph_queue_Push.f (p0 : depgraph_queue) (p1 : Int) : Option (depgraph_queue) := (app p0.q [p1]).bind fun y20 => some (depgraph_queue.mk y20)
set_option maxRecDepth 100000 in
set_option maxHeartbeats 4000000 in
theorem depgraph_queue_Push.calls {p0 : depgraph_queue} {c0 : Nat}  {b_p0 : Nat} {A_q_p0 : Option Addr} {cap_q_p0 : Nat} {p1 : Int} {w : World} {g : Nat → Nat} {out : depgraph_queue} (N : Nat) (hp0 : depgraph_queue_At w g c0 b_p0 A_q_p0 cap_q_p0 p0) (hc0 : c0 + 3 ≤ N) (H : depgraph_queue_Push.f p0 p1 = some out) :
    Calls Try.prog 127 #[.pointer (some ⟨b_p0, 0, none⟩), .iface 3 (.int .i64 p1)] w (fun e w' => ∃ v, e = .returned v ∧ ∃ (g' : Nat → Nat) (A_q_q0 : Option Addr) (cap_q_q0 : Nat), v = .tuple #[] ∧ depgraph_queue_At w' g' c0 b_p0 A_q_q0 cap_q_q0 out ∧ Fr (fun q => (c0 ≤ q ∧ q < c0 + 3) ∨ N ≤ q) w g w' g') := by
  unfold depgraph_queue_Push.f at H
  refine calls_enter Try.func127 rfl Try.ntmps127 rfl (fun a hS => ?_)
  replace hS : Sl 20 a [(0, .pointer (some ⟨b_p0, 0, none⟩)), (1, .iface 3 (.int .i64 p1))] := hS
  have hF : Fr (fun q => (c0 ≤ q ∧ q < c0 + 3) ∨ N ≤ q) w g w g := Fr.refl _ _ _
  obtain ⟨hb0, hf0_q⟩ := hp0
  refine c_pure [(0, .pointer (some ⟨b_p0, 0, none⟩)), (4, .int .i64 p1), (5, .bool true)] (fun R hR => st_val hS rfl rfl rfl (r_move hS rfl rfl) fun a1 hS1 => st_val hS1 rfl rfl rfl (r_assert hS1 rfl rfl (by kernel_rfl)) fun a2 hS2 => st_val hS2 rfl rfl rfl (r_move hS2 rfl rfl) fun a3 hS3 => st_val hS3 rfl rfl rfl (r_extract hS3 rfl rfl rfl) fun a4 hS4 => st_val hS4 rfl rfl rfl (r_extract hS4 rfl rfl rfl) fun a5 hS5 => st_val hS5 rfl rfl rfl (r_assign hS5 rfl rfl) fun a6 hS6 => st_val hS6 rfl rfl rfl (r_assign hS6 rfl rfl) fun a7 hS7 => wpList_nil (hR _ (hS7.re ⟨rfl, rfl, rfl, trivial⟩))) ?_
  clear hS
  clear a
  intro a hS
  refine c_pure [(0, .pointer (some ⟨b_p0, 0, none⟩)), (4, .int .i64 p1), (11, .bool true)] (fun R hR => st_val hS rfl rfl rfl (r_move hS rfl rfl) fun a8 hS8 => wpList_nil (hR _ (hS8.re ⟨rfl, rfl, rfl, trivial⟩))) ?_
  clear hS
  clear a
  intro a hS
  refine c_cond hS rfl (fun hb9 => ?_) (fun hb9 => ?_)
  · obtain ⟨y20, hy21, H⟩ := bind_el H
    refine c_region1 (fun K hK => ?_)
    refine st_val hS rfl rfl rfl (r_move hS rfl rfl) fun a10 hS10 => st_val hS10 rfl rfl rfl (r_move hS10 rfl rfl) fun a11 hS11 => st_val hS11 rfl rfl rfl (r_nil hS11 rfl rfl) fun a12 hS12 => st_val hS12 rfl rfl rfl (r_load1 (n := 1) hS12 rfl rfl (by kernel_rfl) (Bx.cell hb0 rfl)) fun a13 hS13 => st_val hS13 rfl rfl rfl (r_move hS13 rfl rfl) fun a14 hS14 => ?_
    refine st_eff hS14 rfl rfl rfl (e_lit (e := 3) (parts := [(0, .int .i64 p1)]) (cs := [.int .i64 p1]) (kint .i64) [p1] (N + 0) g hS14 rfl rfl (fun _ => by kernel_rfl) rfl (by decide) (Rows.cons (cs := [.int .i64 p1]) rfl Rows.nil)) ?_
    rintro _ a18 w19 g19 ⟨⟨A15, rfl, h16⟩, F19⟩ hS18
    replace hb0 := hb0.fr F19 (fun h => h)
    replace hf0_q := OwS.fr hf0_q F19 (fun _ _ h => h)
    replace hF := hF.trans F19 (fun _ h => h.elim)
    refine st_eff hS18 rfl rfl rfl (e_append (e := 3) (sz := 1) (by_ := 8) (z := [.int .i64 0]) (kd := (kint .i64)) g19 hS18 rfl rfl rfl rfl (by kernel_rfl) (by kernel_rfl) rfl rfl rfl rfl hf0_q (OwD.rdx h16) (fun _ _ _ h => h) hy21) ?_
    rintro _ a26 w27 g27 ⟨⟨A22, cap23, rfl, h24⟩, F27⟩ hS26
    replace h16 := OwS.fr h16 F27 (fun c' hc (hm : c' = c0 + 1) => by omega)
    replace hb0 := hb0.fr F27 (fun (hm : c0 = c0 + 1) => by omega)
    replace hF := hF.trans F27 (fun c' (hm : c' = c0 + 1) => by show (c0 ≤ c' ∧ c' < c0 + 3) ∨ N ≤ c'; omega)
    refine st_val hS26 rfl rfl rfl (r_nil hS26 rfl rfl) fun a28 hS28 => ?_
    refine st_effS hS28 rfl rfl (e_storeB (n := 1) (bb := false) (cs' := [.slice A22 y20.length cap23]) g27 hS28 rfl rfl rfl (by kernel_rfl) rfl rfl rfl hb0 rfl rfl) ?_
    rintro a29 w30 g30 ⟨hb0, F30⟩ hS29
    replace h16 := OwS.fr h16 F30 (fun c' hc (hm : c' = c0) => by omega)
    replace h24 := OwS.fr h24 F30 (fun c' hc (hm : c' = c0) => by omega)
    replace hF := hF.trans F30 (fun c' (hm : c' = c0) => by show (c0 ≤ c' ∧ c' < c0 + 3) ∨ N ≤ c'; omega)
    refine wpList_nil (hK _ _ ?_)
    replace hS : Sl 20 _ [] := hS29.re trivial
    clear hK K
    try clear hS10 hS11 hS12 hS13 hS14 hS18 hS26 hS28 hS29
    obtain ⟨a, ha⟩ : ∃ a', a' = a29 := ⟨_, rfl⟩
    rw [← ha] at hS ⊢; clear ha
    have e := Option.some.inj H
    subst e
    repeat (with_reducible first | refine inBlock_exit ?_ | refine then_exit ?_ | refine inBlock_out (by decide) ?_ | refine inBlock_normal ?_)
    exact c_end0 hS Try.results127 ⟨_, rfl, g30, A22, cap23, rfl, ⟨hb0, h24⟩, hF⟩
  · exact absurd hb9 (by decide)


end Go.Proofs.Ytcfcffbjdjacfaa.Sim

namespace Go.Proofs.Ytcfcffbjdjacfaa.Sim
open Go
set_option linter.unusedVariables false
set_option linter.unusedSimpArgs false

/-! ### heap_up: function 105 -/
def heap_up.l0 : Nat → (List Int) → Int → Option (depgraph_queue)
  | 0, _, _ => none
  | k2 + 1, m0_0, m0_1 => (if ((wi (Int.tdiv (wi (m0_1 - 1)) 2)) == m0_1) = true then some true else (depgraph_queue_Less.f m0_0 m0_1 (wi (Int.tdiv (wi (m0_1 - 1)) 2))).bind fun r15 => some (!r15)).bind fun t20 => if t20 = true then (some (depgraph_queue.mk m0_0)) else ((depgraph_queue_Swap.f m0_0 (wi (Int.tdiv (wi (m0_1 - 1)) 2)) m0_1).bind fun r45 => heap_up.l0 k2 r45 (wi (Int.tdiv (wi (m0_1 - 1)) 2)))
def heap_up.f (p0 : depgraph_queue) (p1 : Int) : Option (depgraph_queue) := heap_up.l0 FUEL p0.q p1
set_option maxRecDepth 100000 in
set_option maxHeartbeats 4000000 in
theorem heap_up.calls {p0 : depgraph_queue} {c0 : Nat}  {b_p0 : Nat} {A_q_p0 : Option Addr} {cap_q_p0 : Nat} {p1 : Int} {w : World} {g : Nat → Nat} {out : depgraph_queue} (N : Nat) (hp0 : depgraph_queue_At w g c0 b_p0 A_q_p0 cap_q_p0 p0) (hc0 : c0 + 3 ≤ N) (H : heap_up.f p0 p1 = some out) :
    Calls Try.prog 105 #[.iface 140 (.pointer (some ⟨b_p0, 0, none⟩)), .int .i64 p1] w (fun e w' => ∃ v, e = .returned v ∧ ∃ (g' : Nat → Nat), v = .tuple #[] ∧ depgraph_queue_At w' g' c0 b_p0 A_q_p0 cap_q_p0 out ∧ Fr (fun q => (c0 ≤ q ∧ q < c0 + 3) ∨ N ≤ q) w g w' g') := by
  unfold heap_up.f at H
  refine calls_enter Try.func105 rfl Try.ntmps105 rfl (fun a hS => ?_)
  replace hS : Sl 23 a [(0, .iface 140 (.pointer (some ⟨b_p0, 0, none⟩))), (1, .int .i64 p1)] := hS
  have hF : Fr (fun q => (c0 ≤ q ∧ q < c0 + 3) ∨ N ≤ q) w g w g := Fr.refl _ _ _
  obtain ⟨hb0, hf0_q⟩ := hp0
  refine wp_block ?_
  refine wp_loop_ghost (fun kq => fun a w1 => ∃ (m0_0 : List Int), ∃ (m0_1 : Int), ∃ (g1 : Nat → Nat), heap_up.l0 kq m0_0 m0_1 = some out ∧ Sl 23 a [(0, .iface 140 (.pointer (some ⟨b_p0, 0, none⟩))), (1, .int .i64 m0_1)] ∧ Bx w1 g1 (c0) b_p0 138 [.slice A_q_p0 m0_0.length cap_q_p0] ∧ OwS (kint .i64) 3 w1 g1 (c0 + 1) A_q_p0 cap_q_p0 m0_0 ∧ Fr (fun q => (c0 ≤ q ∧ q < c0 + 3) ∨ N ≤ q) w g w1 g1) FUEL ?_ ?_
  · exact ⟨p0.q, p1, g, H, hS.re ⟨rfl, rfl, trivial⟩, hb0, hf0_q, hF⟩
  · clear H
    clear hf0_q hb0 hF
    clear hS
    rintro k2 a w1 ⟨m0_0, m0_1, g1, hpre0, hS, hb0, hf0_q, hF⟩
    have H := hpre0
    clear hpre0
    cases k2 with
    | zero => exact absurd H (by simp [heap_up.l0])
    | succ k2 =>
      rw [heap_up.l0] at H
      refine wp_block ?_
      refine c_pure [(0, .iface 140 (.pointer (some ⟨b_p0, 0, none⟩))), (1, .int .i64 m0_1), (4, .int .i64 (wi (Int.tdiv (wi (m0_1 - 1)) 2)))] (fun R hR => st_val hS rfl rfl rfl (r_move hS rfl rfl) fun a3 hS3 => st_val hS3 rfl rfl rfl (r_bin hS3 rfl rfl rfl b_sub) fun a4 hS4 => st_val hS4 rfl rfl rfl (r_bin hS4 rfl rfl rfl (b_quo (by decide))) fun a5 hS5 => st_val hS5 rfl rfl rfl (r_assign hS5 rfl rfl) fun a6 hS6 => wpList_nil (hR _ (hS6.re ⟨rfl, rfl, rfl, trivial⟩))) ?_
      clear hS
      clear a
      intro a hS
      refine wp_seq ?_
      obtain ⟨t20, ht21, H⟩ := bind_el H
      refine c_region (fun K hK => ?_)
      refine st_val hS rfl rfl rfl (r_move hS rfl rfl) fun a7 hS7 => st_val hS7 rfl rfl rfl (r_move hS7 rfl rfl) fun a8 hS8 => st_val hS8 rfl rfl rfl (r_bin hS8 rfl rfl rfl b_eql) fun a9 hS9 => st_val hS9 rfl rfl rfl (r_move hS9 rfl rfl) fun a10 hS10 => ?_
      refine g_joinR 6 (fun a w22 => ∃ (g22 : Nat → Nat), Sl 23 a [(0, .iface 140 (.pointer (some ⟨b_p0, 0, none⟩))), (1, .int .i64 m0_1), (4, .int .i64 (wi (Int.tdiv (wi (m0_1 - 1)) 2))), (17, .bool t20)] ∧ Bx w22 g22 (c0) b_p0 138 [.slice A_q_p0 m0_0.length cap_q_p0] ∧ OwS (kint .i64) 3 w22 g22 (c0 + 1) A_q_p0 cap_q_p0 m0_0 ∧ Fr (fun q => (c0 ≤ q ∧ q < c0 + 3) ∨ N ≤ q) w g w22 g22) ?_ (fun hk => ?_)
      rotate_left
      · rcases Bool.eq_false_or_eq_true (((wi (Int.tdiv (wi (m0_1 - 1)) 2)) == m0_1)) with hb11 | hb11
        · have H := ite_t hb11 ht21
          have e23 := Option.some.inj H
          refine st_off hS10 (want_off hS10 rfl rfl rfl hb11) rfl rfl fun a24 hS24 => st_off hS24 (want_off hS24 rfl rfl rfl hb11) rfl rfl fun a25 hS25 => st_off hS25 (want_off hS25 rfl rfl rfl hb11) rfl rfl fun a26 hS26 => st_off hS26 (want_off hS26 rfl rfl rfl hb11) rfl rfl fun a27 hS27 => st_off hS27 (want_off hS27 rfl rfl rfl hb11) rfl rfl fun a28 hS28 => st_val hS28 rfl rfl rfl (r_pickT hS28 rfl rfl rfl hb11) fun a29 hS29 => hk _ _ ?_
          exact ⟨g1, hS29.re ⟨rfl, rfl, rfl, (by rw [← e23]; rfl), trivial⟩, hb0, hf0_q, hF⟩
        · have H := ite_f hb11 ht21
          obtain ⟨r33, hr34, H⟩ := bind_el H
          have e38 := Option.some.inj H
          refine st_valW hS10 (want_on hS10 rfl rfl rfl hb11) rfl rfl (r_move hS10 rfl rfl) fun a30 hS30 => st_valW hS30 (want_on hS30 rfl rfl rfl hb11) rfl rfl (r_move hS30 rfl rfl) fun a31 hS31 => st_valW hS31 (want_on hS31 rfl rfl rfl hb11) rfl rfl (r_move hS31 rfl rfl) fun a32 hS32 => ?_
          refine st_enterW hS32 (want_on hS32 rfl rfl rfl hb11) rfl rfl (r_invoke (T := 140) (E := 138) (f := 124) (n := 1) (b := false) hS32 rfl rfl rfl (by kernel_rfl) (by kernel_rfl) (by kernel_rfl) (.inr ⟨rfl, (by kernel_rfl), Bx.cell hb0 rfl⟩)) (depgraph_queue_Less.calls (C0 := (fun q => q = c0 + 1)) (p0 := m0_0) (p1 := m0_1) (p2 := (wi (Int.tdiv (wi (m0_1 - 1)) 2))) (g := g1) (N + 0)  (OwD.rdf (fun _ _ _ _ _ _ h => h) hf0_q) (fun q (hq : q = c0 + 1) => by omega) hr34) ?_
          rintro _ a35 w36 ⟨g36, rfl, F36⟩ hS35
          replace hb0 := hb0.fr F36 (fun (hm : N + 0 ≤ c0) => by omega)
          replace hf0_q := OwS.fr hf0_q F36 (fun c' hc (hm : N + 0 ≤ c') => by omega)
          replace hF := hF.trans F36 (fun c' (hm : N + 0 ≤ c') => by show (c0 ≤ c' ∧ c' < c0 + 3) ∨ N ≤ c'; omega)
          refine st_valW hS35 (want_on hS35 rfl rfl rfl hb11) rfl rfl (r_not hS35 rfl rfl) fun a37 hS37 => ?_
          refine st_val hS37 rfl rfl rfl (r_pickF hS37 rfl rfl rfl hb11) fun a39 hS39 => hk _ _ ?_
          exact ⟨g36, hS39.re ⟨rfl, rfl, rfl, (by rw [← e38]; rfl), trivial⟩, hb0, hf0_q, hF⟩
      rintro a40 w22 ⟨g22, hS40, hb0, hf0_q, hF⟩
      refine wpList_nil (hK _ _ ?_)
      replace hS : Sl 23 _ [(0, .iface 140 (.pointer (some ⟨b_p0, 0, none⟩))), (1, .int .i64 m0_1), (4, .int .i64 (wi (Int.tdiv (wi (m0_1 - 1)) 2))), (17, .bool t20)] := hS40.re ⟨rfl, rfl, rfl, rfl, trivial⟩
      clear hK K
      try clear hS7 hS8 hS9 hS10 hS40
      obtain ⟨a, ha⟩ : ∃ a', a' = a40 := ⟨_, rfl⟩
      rw [← ha] at hS ⊢; clear ha
      refine c_cond hS rfl (fun hb41 => ?_) (fun hb41 => ?_)
      · replace H := ite_t hb41 H
        refine wp_exit ?_
        have e := Option.some.inj H
        subst e
        repeat (with_reducible first | refine inBlock_exit ?_ | refine then_exit ?_ | refine inBlock_out (by decide) ?_ | refine inBlock_normal ?_)
        exact c_end0 hS Try.results105 ⟨_, rfl, g22, rfl, ⟨hb0, hf0_q⟩, hF⟩
      · replace H := ite_f hb41 H
        refine wp_skip ?_
        change Code.wp _ _ _ _ _
        obtain ⟨r45, hr46, H⟩ := bind_el H
        refine c_region (fun K hK => ?_)
        refine st_val hS rfl rfl rfl (r_move hS rfl rfl) fun a42 hS42 => st_val hS42 rfl rfl rfl (r_move hS42 rfl rfl) fun a43 hS43 => st_val hS43 rfl rfl rfl (r_move hS43 rfl rfl) fun a44 hS44 => ?_
        refine st_enter hS44 rfl rfl rfl (r_invoke (T := 140) (E := 138) (f := 125) (n := 1) (b := false) hS44 rfl rfl rfl (by kernel_rfl) (by kernel_rfl) (by kernel_rfl) (.inr ⟨rfl, (by kernel_rfl), Bx.cell hb0 rfl⟩)) (depgraph_queue_Swap.calls (c0 := c0 + 1) (A0 := A_q_p0) (cap0 := cap_q_p0) (p0 := m0_0) (p1 := (wi (Int.tdiv (wi (m0_1 - 1)) 2))) (p2 := m0_1) (g := g22) (N + 0)  hf0_q (by omega) hr46) ?_
        rintro _ a48 w49 ⟨g49, rfl, hf0_q, hl47, F49⟩ hS48
        replace hb0 := hb0.fr F49 (fun (hm : (c0 + 1 ≤ c0 ∧ c0 < c0 + 1 + 2) ∨ N + 0 ≤ c0) => by omega)
        replace hF := hF.trans F49 (fun c' (hm : (c0 + 1 ≤ c' ∧ c' < c0 + 1 + 2) ∨ N + 0 ≤ c') => by show (c0 ≤ c' ∧ c' < c0 + 3) ∨ N ≤ c'; omega)
        replace hb0 : Bx w49 g49 (c0) b_p0 138 [.slice A_q_p0 r45.length cap_q_p0] := by simpa only [hl47] using hb0
        refine wpList_nil (hK _ _ ?_)
        replace hS : Sl 23 _ [(0, .iface 140 (.pointer (some ⟨b_p0, 0, none⟩))), (4, .int .i64 (wi (Int.tdiv (wi (m0_1 - 1)) 2)))] := hS48.re ⟨rfl, rfl, trivial⟩
        clear hK K
        try clear hS42 hS43 hS44 hS48
        obtain ⟨a, ha⟩ : ∃ a', a' = a48 := ⟨_, rfl⟩
        rw [← ha] at hS ⊢; clear ha
        refine c_pure1 [(0, .iface 140 (.pointer (some ⟨b_p0, 0, none⟩))), (1, .int .i64 (wi (Int.tdiv (wi (m0_1 - 1)) 2)))] (fun R hR => st_val hS rfl rfl rfl (r_move hS rfl rfl) fun a50 hS50 => st_val hS50 rfl rfl rfl (r_assign hS50 rfl rfl) fun a51 hS51 => wpList_nil (hR _ (hS51.re ⟨rfl, rfl, trivial⟩))) ?_
        clear hS
        clear a
        intro a hS
        refine ⟨k2, Nat.lt_succ_self _, ?_⟩
        exact ⟨r45, wi (Int.tdiv (wi (m0_1 - 1)) 2), g49, H, hS.re ⟨rfl, rfl, trivial⟩, hb0, hf0_q, hF⟩


end Go.Proofs.Ytcfcffbjdjacfaa.Sim

namespace Go.Proofs.Ytcfcffbjdjacfaa.Sim
open Go
set_option linter.unusedVariables false
set_option linter.unusedSimpArgs false

/-! ### heap_Push: function 91 -/
def heap_Push.f (p0 : depgraph_queue) (p1 : Int) : Option (depgraph_queue) := (depgraph_queue_Push.f p0 p1).bind fun r3 => (depgraph_queue_Len.f r3.q).bind fun r11 => (heap_up.f r3 (wi (r11 - 1))).bind fun r16 => some r16
set_option maxRecDepth 100000 in
set_option maxHeartbeats 4000000 in
theorem heap_Push.calls {p0 : depgraph_queue} {c0 : Nat}  {b_p0 : Nat} {A_q_p0 : Option Addr} {cap_q_p0 : Nat} {p1 : Int} {w : World} {g : Nat → Nat} {out : depgraph_queue} (N : Nat) (hp0 : depgraph_queue_At w g c0 b_p0 A_q_p0 cap_q_p0 p0) (hc0 : c0 + 3 ≤ N) (H : heap_Push.f p0 p1 = some out) :
    Calls Try.prog 91 #[.iface 140 (.pointer (some ⟨b_p0, 0, none⟩)), .iface 3 (.int .i64 p1)] w (fun e w' => ∃ v, e = .returned v ∧ ∃ (g' : Nat → Nat) (A_q_q0 : Option Addr) (cap_q_q0 : Nat), v = .tuple #[] ∧ depgraph_queue_At w' g' c0 b_p0 A_q_q0 cap_q_q0 out ∧ Fr (fun q => (c0 ≤ q ∧ q < c0 + 3) ∨ N ≤ q) w g w' g') := by
  unfold heap_Push.f at H
  refine calls_enter Try.func91 rfl Try.ntmps91 rfl (fun a hS => ?_)
  replace hS : Sl 12 a [(0, .iface 140 (.pointer (some ⟨b_p0, 0, none⟩))), (1, .iface 3 (.int .i64 p1))] := hS
  have hF : Fr (fun q => (c0 ≤ q ∧ q < c0 + 3) ∨ N ≤ q) w g w g := Fr.refl _ _ _
  obtain ⟨hb0, hf0_q⟩ := hp0
  obtain ⟨r3, hr4, H⟩ := bind_el H
  refine c_region (fun K hK => ?_)
  refine st_val hS rfl rfl rfl (r_move hS rfl rfl) fun a1 hS1 => st_val hS1 rfl rfl rfl (r_move hS1 rfl rfl) fun a2 hS2 => ?_
  refine st_enter hS2 rfl rfl rfl (r_invoke (T := 140) (E := 138) (f := 127) (n := 1) (b := true) hS2 rfl rfl rfl (by kernel_rfl) (by kernel_rfl) (by kernel_rfl) (.inl ⟨rfl, rfl⟩)) (depgraph_queue_Push.calls (c0 := c0) (b_p0 := b_p0) (A_q_p0 := A_q_p0) (cap_q_p0 := cap_q_p0) (p0 := p0) (p1 := p1) (g := g) (N + 0)  ⟨hb0, hf0_q⟩ (by omega) hr4) ?_
  rintro _ a7 w8 ⟨g8, A5, cap6, rfl, ⟨hb0, hf0_q⟩, F8⟩ hS7
  replace hF := hF.trans F8 (fun c' (hm : (c0 ≤ c' ∧ c' < c0 + 3) ∨ N + 0 ≤ c') => by show (c0 ≤ c' ∧ c' < c0 + 3) ∨ N ≤ c'; omega)
  refine wpList_nil (hK _ _ ?_)
  replace hS : Sl 12 _ [(0, .iface 140 (.pointer (some ⟨b_p0, 0, none⟩)))] := hS7.re ⟨rfl, trivial⟩
  clear hK K
  try clear hS1 hS2 hS7
  obtain ⟨a, ha⟩ : ∃ a', a' = a7 := ⟨_, rfl⟩
  rw [← ha] at hS ⊢; clear ha
  obtain ⟨r11, hr12, H⟩ := bind_el H
  obtain ⟨r16, hr17, H⟩ := bind_el H
  refine c_region1 (fun K hK => ?_)
  refine st_val hS rfl rfl rfl (r_move hS rfl rfl) fun a9 hS9 => st_val hS9 rfl rfl rfl (r_move hS9 rfl rfl) fun a10 hS10 => ?_
  refine st_enter hS10 rfl rfl rfl (r_invoke (T := 140) (E := 138) (f := 123) (n := 1) (b := false) hS10 rfl rfl rfl (by kernel_rfl) (by kernel_rfl) (by kernel_rfl) (.inr ⟨rfl, (by kernel_rfl), Bx.cell hb0 rfl⟩)) (depgraph_queue_Len.calls (C0 := (fun q => q = c0 + 1)) (p0 := r3.q) (g := g8) (N + 0)  (OwD.rdf (fun _ _ _ _ _ _ h => h) hf0_q) (fun q (hq : q = c0 + 1) => by omega) hr12) ?_
  rintro _ a13 w14 ⟨g14, rfl, F14⟩ hS13
  replace hb0 := hb0.fr F14 (fun (hm : N + 0 ≤ c0) => by omega)
  replace hf0_q := OwS.fr hf0_q F14 (fun c' hc (hm : N + 0 ≤ c') => by omega)
  replace hF := hF.trans F14 (fun c' (hm : N + 0 ≤ c') => by show (c0 ≤ c' ∧ c' < c0 + 3) ∨ N ≤ c'; omega)
  refine st_val hS13 rfl rfl rfl (r_bin hS13 rfl rfl rfl b_sub) fun a15 hS15 => ?_
  refine st_enter hS15 rfl rfl rfl (r_call hS15 rfl rfl (by kernel_rfl)) (heap_up.calls (c0 := c0) (b_p0 := b_p0) (A_q_p0 := A5) (cap_q_p0 := cap6) (p0 := r3) (p1 := (wi (r11 - 1))) (g := g14) (N + 0)  ⟨hb0, hf0_q⟩ (by omega) hr17) ?_
  rintro _ a18 w19 ⟨g19, rfl, ⟨hb0, hf0_q⟩, F19⟩ hS18
  replace hF := hF.trans F19 (fun c' (hm : (c0 ≤ c' ∧ c' < c0 + 3) ∨ N + 0 ≤ c') => by show (c0 ≤ c' ∧ c' < c0 + 3) ∨ N ≤ c'; omega)
  refine wpList_nil (hK _ _ ?_)
  replace hS : Sl 12 _ [] := hS18.re trivial
  clear hK K
  try clear hS9 hS10 hS13 hS15 hS18
  obtain ⟨a, ha⟩ : ∃ a', a' = a18 := ⟨_, rfl⟩
  rw [← ha] at hS ⊢; clear ha
  have e := Option.some.inj H
  subst e
  repeat (with_reducible first | refine inBlock_exit ?_ | refine then_exit ?_ | refine inBlock_out (by decide) ?_ | refine inBlock_normal ?_)
  exact c_end0 hS Try.results91 ⟨_, rfl, g19, A5, cap6, rfl, ⟨hb0, hf0_q⟩, hF⟩


end Go.Proofs.Ytcfcffbjdjacfaa.Sim

namespace Go.Proofs.Ytcfcffbjdjacfaa.Sim
open Go
set_option linter.unusedVariables false
set_option linter.unusedSimpArgs false

/-! ### depgraph_sort: function 70 -/
def depgraph_sort.l0 (r4 : (List (List Int)) × (List Int)) : Nat → (List Int) → Int → Option ((List Int))
  | 0, _, _ => none
  | k40 + 1, m0_0, m0_1 => if decide (m0_1 < (r4.2.length : Int)) = true then (((idx r4.2 m0_1).bind fun x50 => if (x50 == 0) = true then ((heap_Push.f (depgraph_queue.mk m0_0) m0_1).bind fun r62 => some r62.q) else (some m0_0) : Option ((List Int))).bind fun v46 => depgraph_sort.l0 r4 k40 v46 (wi (m0_1 + 1))) else (some m0_0)
def depgraph_sort.l2 (y121 : List Int) (x132 : List Int) : Nat → (List Int) → (List Int) → Int → Option (Fl ((List Int)) ((List Int) × (List Int) × (List Int)))
  | 0, _, _, _ => none
  | k147 + 1, m2_0, m2_1, m2_2 => if decide (m2_2 < (x132.length : Int)) = true then (((idx x132 m2_2).bind fun x156 => (idx m2_0 x156).bind fun x163 => (idx (upd m2_0 x156 (wi (x163 - 1))) x156).bind fun x173 => if (x173 == 0) = true then ((heap_Push.f (depgraph_queue.mk m2_1) x156).bind fun r182 => some ((upd m2_0 x156 (wi (x163 - 1))), r182.q)) else (some ((upd m2_0 x156 (wi (x163 - 1))), m2_1)) : Option ((List Int) × (List Int))).bind fun v153 => depgraph_sort.l2 y121 x132 k147 v153.1 v153.2 (wi (m2_2 + 1))) else (some (.nxt (m2_0, m2_1, y121)))
def depgraph_sort.l1 (r4 : (List (List Int)) × (List Int)) : Nat → (List Int) → (List Int) → (List Int) → Option ((List Int))
  | 0, _, _, _ => none
  | k84 + 1, m1_0, m1_1, m1_2 => if decide (0 < (m1_1.length : Int)) = true then (((heap_Pop.f (depgraph_queue.mk m1_1)).bind fun r99 => if (!true) = true then (some (.out m1_2)) else ((app m1_2 [r99.2]).bind fun y121 => (idx r4.1 r99.2).bind fun x132 => depgraph_sort.l2 y121 x132 FUEL m1_0 r99.1.q 0) : Option (Fl ((List Int)) ((List Int) × (List Int) × (List Int)))).bind fun o96 => o96.go fun v95 => depgraph_sort.l1 r4 k84 v95.1 v95.2.1 v95.2.2) else (some m1_2)
def depgraph_sort.f (p0 : Int) (p1 : List api_Link) : Option ((List Int)) := (depgraph_adjacent.f p0 p1).bind fun r4 => (depgraph_sort.l0 r4 FUEL [] 0 : Option ((List Int))).bind fun v30 => (depgraph_sort.l1 r4 FUEL r4.2 v30 [] : Option ((List Int))).bind fun v75 => some v75
set_option maxRecDepth 100000 in
set_option maxHeartbeats 4000000 in
theorem depgraph_sort.calls {p0 : Int} {p1 : List api_Link} {A1 : Option Addr} {cap1 : Nat} {C1 : Nat → Prop} {w : World} {g : Nat → Nat} {out : (List Int)} (N : Nat) (r0 : Nat) (hp1 : RdS kd_api_Link w g C1 A1 cap1 p1) (hC1 : ∀ c, C1 c → c < N) (hr0 : r0 + 2 ≤ N) (H : depgraph_sort.f p0 p1 = some out) :
    Calls Try.prog 70 #[.int .i64 p0, .slice A1 p1.length cap1] w (fun e w' => ∃ v, e = .returned v ∧ ∃ (g' : Nat → Nat) (A_r0 : Option Addr) (cap_r0 : Nat), v = .slice A_r0 out.length cap_r0 ∧ OwS (kint .i64) 3 w' g' r0 A_r0 cap_r0 out ∧ Fr (fun q => (r0 ≤ q ∧ q < r0 + 2) ∨ N ≤ q) w g w' g') := by
  unfold depgraph_sort.f at H
  refine calls_enter Try.func70 rfl Try.ntmps70 rfl (fun a hS => ?_)
  replace hS : Sl 76 a [(0, .int .i64 p0), (1, .slice A1 p1.length cap1)] := hS
  have hF : Fr (fun q => (r0 ≤ q ∧ q < r0 + 2) ∨ N ≤ q) w g w g := Fr.refl _ _ _
  refine c_pure [(0, .int .i64 p0), (1, .slice A1 p1.length cap1)] (fun R hR => st_val hS rfl rfl rfl (r_assign hS rfl rfl) fun a1 hS1 => wpList_nil (hR _ (hS1.re ⟨rfl, rfl, trivial⟩))) ?_
  clear hS
  clear a
  intro a hS
  obtain ⟨r4, hr5, H⟩ := bind_el H
  refine c_region (fun K hK => ?_)
  refine st_val hS rfl rfl rfl (r_move hS rfl rfl) fun a2 hS2 => st_val hS2 rfl rfl rfl (r_move hS2 rfl rfl) fun a3 hS3 => ?_
  refine st_enter hS3 rfl rfl rfl (r_call hS3 rfl rfl (by kernel_rfl)) (depgraph_adjacent.calls (C1 := C1) (p0 := p0) (p1 := p1) (g := g) (N + 11) (N + 0) (N + 2) hp1 (fun q (hq : C1 q) => by have := hC1 q hq; omega) (by omega) (by omega) (by omega) hr5) ?_
  rintro _ a14 w15 ⟨g15, A6, cap7, A10, cap11, rfl, h8, h12, F15⟩ hS14
  replace hp1 := RdS.fr hp1 F15 (by decide) (fun q (hq : C1 q) (hm : (N + 0 ≤ q ∧ q < N + 0 + 2) ∨ (N + 2 ≤ q ∧ q < N + 2 + 2) ∨ N + 11 ≤ q) => by have := hC1 q hq; omega)
  replace hF := hF.trans F15 (fun c' (hm : (N + 0 ≤ c' ∧ c' < N + 0 + 2) ∨ (N + 2 ≤ c' ∧ c' < N + 2 + 2) ∨ N + 11 ≤ c') => by show (r0 ≤ c' ∧ c' < r0 + 2) ∨ N ≤ c'; omega)
  refine st_val hS14 rfl rfl rfl (r_move hS14 rfl rfl) fun a16 hS16 => st_val hS16 rfl rfl rfl (r_extract hS16 rfl rfl rfl) fun a17 hS17 => st_val hS17 rfl rfl rfl (r_extract hS17 rfl rfl rfl) fun a18 hS18 => st_val hS18 rfl rfl rfl (r_assign hS18 rfl rfl) fun a19 hS19 => st_val hS19 rfl rfl rfl (r_assign hS19 rfl rfl) fun a20 hS20 => wpList_nil (hK _ _ ?_)
  replace hS : Sl 76 _ [(5, .slice A6 r4.1.length cap7), (6, .slice A10 r4.2.length cap11)] := hS20.re ⟨rfl, rfl, trivial⟩
  clear hK K
  try clear hS2 hS3 hS14 hS16 hS17 hS18 hS19 hS20
  obtain ⟨a, ha⟩ : ∃ a', a' = a20 := ⟨_, rfl⟩
  rw [← ha] at hS ⊢; clear ha
  refine c_region (fun K hK => ?_)
  refine st_eff hS rfl rfl rfl (e_alloc (cs := [.slice none 0 0]) (N + 4) g15 hS rfl (by kernel_rfl)) ?_
  rintro _ a24 w25 g25 ⟨⟨b21, rfl, h22⟩, F25⟩ hS24
  replace h12 := OwS.fr h12 F25 (fun _ _ h => h)
  replace h8 := OwS.fr h8 F25 (fun _ _ h => h)
  replace hF := hF.trans F25 (fun _ h => h.elim)
  refine wpList_nil (hK _ _ ?_)
  replace hS : Sl 76 _ [(5, .slice A6 r4.1.length cap7), (6, .slice A10 r4.2.length cap11), (7, .pointer (some ⟨b21, 0, none⟩))] := hS24.re ⟨rfl, rfl, rfl, trivial⟩
  clear hK K
  try clear hS24
  obtain ⟨a, ha⟩ : ∃ a', a' = a24 := ⟨_, rfl⟩
  rw [← ha] at hS ⊢; clear ha
  obtain ⟨v30, H, Hl32⟩ := bind_el H
  refine c_cut (fun a w26 => ∃ (g26 : Nat → Nat), ∃ (A27 : Option Addr), ∃ (cap28 : Nat), Sl 76 a [(5, .slice A6 r4.1.length cap7), (6, .slice A10 r4.2.length cap11), (7, .pointer (some ⟨b21, 0, none⟩))] ∧ OwS (kint .i64) 3 w26 g26 (N + 2) A10 cap11 r4.2 ∧ Bx w26 g26 (N + 4) b21 138 [.slice A27 v30.length cap28] ∧ OwS (kslice (kint .i64) (by decide)) 27 w26 g26 (N + 0) A6 cap7 r4.1 ∧ OwS (kint .i64) 3 w26 g26 (N + 4 + 1) A27 cap28 v30 ∧ Fr (fun q => (r0 ≤ q ∧ q < r0 + 2) ∨ N ≤ q) w g w26 g26) ?_ ?_
  · refine c_pure [(5, .slice A6 r4.1.length cap7), (6, .slice A10 r4.2.length cap11), (7, .pointer (some ⟨b21, 0, none⟩)), (21, .slice A10 r4.2.length cap11), (22, .int .i64 (r4.2.length : Int)), (23, .int .i64 0)] (fun R hR => st_val hS rfl rfl rfl (r_move hS rfl rfl) fun a33 hS33 => st_val hS33 rfl rfl rfl (r_len (e := 3) (sz := 1) (by_ := 8) hS33 rfl rfl (by kernel_rfl)) fun a34 hS34 => st_val hS34 rfl rfl rfl (r_move hS34 rfl rfl) fun a35 hS35 => wpList_nil (hR _ (hS35.re ⟨rfl, rfl, rfl, rfl, rfl, rfl, trivial⟩))) ?_
    clear hS
    clear a
    intro a hS
    refine wp_block ?_
    refine wp_loop_ghost (fun kq => fun a w36 => ∃ (m0_0 : List Int), ∃ (m0_1 : Int), ∃ (g36 : Nat → Nat), ∃ (A37 : Option Addr), ∃ (cap38 : Nat), depgraph_sort.l0 r4 kq m0_0 m0_1 = some v30 ∧ Sl 76 a [(5, .slice A6 r4.1.length cap7), (6, .slice A10 r4.2.length cap11), (7, .pointer (some ⟨b21, 0, none⟩)), (21, .slice A10 r4.2.length cap11), (22, .int .i64 (r4.2.length : Int)), (23, .int .i64 m0_1)] ∧ OwS (kint .i64) 3 w36 g36 (N + 2) A10 cap11 r4.2 ∧ Bx w36 g36 (N + 4) b21 138 [.slice A37 m0_0.length cap38] ∧ OwS (kslice (kint .i64) (by decide)) 27 w36 g36 (N + 0) A6 cap7 r4.1 ∧ OwS (kint .i64) 3 w36 g36 (N + 4 + 1) A37 cap38 m0_0 ∧ Fr (fun q => (r0 ≤ q ∧ q < r0 + 2) ∨ N ≤ q) w g w36 g36) FUEL ?_ ?_
    · exact ⟨[], 0, g25, none, 0, H, hS.re ⟨rfl, rfl, rfl, rfl, rfl, rfl, trivial⟩, h12, h22, h8, OwS.nil (kint .i64) 3 w25 g25 (N + 4 + 1), hF⟩
    · clear H
      clear h8 h12 h22 hF
      clear hS
      rintro k40 a w36 ⟨m0_0, m0_1, g36, A37, cap38, hpre0, hS, h12, h22, h8, h39, hF⟩
      have H := hpre0
      clear hpre0
      cases k40 with
      | zero => exact absurd H (by simp [depgraph_sort.l0])
      | succ k40 =>
        rw [depgraph_sort.l0] at H
        refine c_pure [(5, .slice A6 r4.1.length cap7), (6, .slice A10 r4.2.length cap11), (7, .pointer (some ⟨b21, 0, none⟩)), (21, .slice A10 r4.2.length cap11), (22, .int .i64 (r4.2.length : Int)), (23, .int .i64 m0_1), (24, .bool (decide (m0_1 < (r4.2.length : Int))))] (fun R hR => st_val hS rfl rfl rfl (r_bin hS rfl rfl rfl b_lss) fun a41 hS41 => wpList_nil (hR _ (hS41.re ⟨rfl, rfl, rfl, rfl, rfl, rfl, rfl, trivial⟩))) ?_
        clear hS
        clear a
        intro a hS
        refine c_if hS rfl (fun hb42 => ?_) (fun hb42 => ?_)
        · replace H := ite_t hb42 H
          refine wp_skip ?_
          change Code.wp _ _ _ _ _
          obtain ⟨v46, H, Hl48⟩ := bind_el H
          refine c_cut (fun a w43 => ∃ (g43 : Nat → Nat), ∃ (A44 : Option Addr), ∃ (cap45 : Nat), Sl 76 a [(5, .slice A6 r4.1.length cap7), (6, .slice A10 r4.2.length cap11), (7, .pointer (some ⟨b21, 0, none⟩)), (21, .slice A10 r4.2.length cap11), (22, .int .i64 (r4.2.length : Int)), (23, .int .i64 m0_1)] ∧ OwS (kint .i64) 3 w43 g43 (N + 2) A10 cap11 r4.2 ∧ Bx w43 g43 (N + 4) b21 138 [.slice A44 v46.length cap45] ∧ OwS (kslice (kint .i64) (by decide)) 27 w43 g43 (N + 0) A6 cap7 r4.1 ∧ OwS (kint .i64) 3 w43 g43 (N + 4 + 1) A44 cap45 v46 ∧ Fr (fun q => (r0 ≤ q ∧ q < r0 + 2) ∨ N ≤ q) w g w43 g43) ?_ ?_
          · refine wp_block ?_
            obtain ⟨x50, hx51, H⟩ := bind_el H
            refine c_pure [(5, .slice A6 r4.1.length cap7), (6, .slice A10 r4.2.length cap11), (7, .pointer (some ⟨b21, 0, none⟩)), (8, .int .i64 m0_1), (9, .int .i64 x50), (21, .slice A10 r4.2.length cap11), (22, .int .i64 (r4.2.length : Int)), (23, .int .i64 m0_1)] (fun R hR => st_val hS rfl rfl rfl (r_move hS rfl rfl) fun a49 hS49 => st_val hS49 rfl rfl rfl (r_index (e := 3) (sz := 1) (by_ := 8) hS49 rfl rfl rfl (by kernel_rfl) (RdS.some_ (OwS.rd h12) hx51) (idx_lo hx51) (idx_hi hx51)) fun a52 hS52 => st_val hS52 rfl rfl rfl (r_load1 (n := 1) hS52 rfl rfl (by kernel_rfl) (RdS.cell (i := m0_1) (sz := 1) (j := 0) (OwS.rd h12) hx51 rfl)) fun a53 hS53 => st_val hS53 rfl rfl rfl (r_assign hS53 rfl rfl) fun a54 hS54 => st_val hS54 rfl rfl rfl (r_assign hS54 rfl rfl) fun a55 hS55 => wpList_nil (hR _ (hS55.re ⟨rfl, rfl, rfl, rfl, rfl, rfl, rfl, rfl, trivial⟩))) ?_
            clear hS
            clear a
            intro a hS
            refine c_pure [(5, .slice A6 r4.1.length cap7), (6, .slice A10 r4.2.length cap11), (7, .pointer (some ⟨b21, 0, none⟩)), (8, .int .i64 m0_1), (21, .slice A10 r4.2.length cap11), (22, .int .i64 (r4.2.length : Int)), (23, .int .i64 m0_1), (29, .bool (x50 == 0))] (fun R hR => st_val hS rfl rfl rfl (r_move hS rfl rfl) fun a56 hS56 => st_val hS56 rfl rfl rfl (r_bin hS56 rfl rfl rfl b_eql) fun a57 hS57 => wpList_nil (hR _ (hS57.re ⟨rfl, rfl, rfl, rfl, rfl, rfl, rfl, rfl, trivial⟩))) ?_
            clear hS
            clear a
            intro a hS
            refine c_cond hS rfl (fun hb58 => ?_) (fun hb58 => ?_)
            · replace H := ite_t hb58 H
              obtain ⟨r62, hr63, H⟩ := bind_el H
              refine c_region1 (fun K hK => ?_)
              refine st_val hS rfl rfl rfl (r_mkif hS rfl rfl (by kernel_rfl)) fun a59 hS59 => st_val hS59 rfl rfl rfl (r_move hS59 rfl rfl) fun a60 hS60 => st_val hS60 rfl rfl rfl (r_mkif hS60 rfl rfl (by kernel_rfl)) fun a61 hS61 => ?_
              refine st_enter hS61 rfl rfl rfl (r_call hS61 rfl rfl (by kernel_rfl)) (heap_Push.calls (c0 := N + 4) (b_p0 := b21) (A_q_p0 := A37) (cap_q_p0 := cap38) (p0 := (depgraph_queue.mk m0_0)) (p1 := m0_1) (g := g36) (N + 11)  ⟨h22, h39⟩ (by omega) hr63) ?_
              rintro _ a66 w67 ⟨g67, A64, cap65, rfl, ⟨h22, h39⟩, F67⟩ hS66
              replace h12 := OwS.fr h12 F67 (fun c' hc (hm : (N + 4 ≤ c' ∧ c' < N + 4 + 3) ∨ N + 11 ≤ c') => by omega)
              replace h8 := OwS.fr h8 F67 (fun c' hc (hm : (N + 4 ≤ c' ∧ c' < N + 4 + 3) ∨ N + 11 ≤ c') => by omega)
              replace hF := hF.trans F67 (fun c' (hm : (N + 4 ≤ c' ∧ c' < N + 4 + 3) ∨ N + 11 ≤ c') => by show (r0 ≤ c' ∧ c' < r0 + 2) ∨ N ≤ c'; omega)
              refine wpList_nil (hK _ _ ?_)
              replace hS : Sl 76 _ [(5, .slice A6 r4.1.length cap7), (6, .slice A10 r4.2.length cap11), (7, .pointer (some ⟨b21, 0, none⟩)), (21, .slice A10 r4.2.length cap11), (22, .int .i64 (r4.2.length : Int)), (23, .int .i64 m0_1)] := hS66.re ⟨rfl, rfl, rfl, rfl, rfl, rfl, trivial⟩
              clear hK K
              try clear hS59 hS60 hS61 hS66
              obtain ⟨a, ha⟩ : ∃ a', a' = a66 := ⟨_, rfl⟩
              rw [← ha] at hS ⊢; clear ha
              have e := Option.some.inj H
              subst e
              exact ⟨g67, A64, cap65, hS.re ⟨rfl, rfl, rfl, rfl, rfl, rfl, trivial⟩, h12, h22, h8, h39, hF⟩
            · replace H := ite_f hb58 H
              refine wp_skip ?_
              have e := Option.some.inj H
              subst e
              exact ⟨g36, A37, cap38, hS.re ⟨rfl, rfl, rfl, rfl, rfl, rfl, trivial⟩, h12, h22, h8, h39, hF⟩
          · clear H
            clear h8 h12 h22 h39 hF
            clear hS
            rintro a w43 ⟨g43, A44, cap45, hS, h12, h22, h8, h39, hF⟩
            have H := Hl48
            clear Hl48
            refine c_pure1 [(5, .slice A6 r4.1.length cap7), (6, .slice A10 r4.2.length cap11), (7, .pointer (some ⟨b21, 0, none⟩)), (21, .slice A10 r4.2.length cap11), (22, .int .i64 (r4.2.length : Int)), (23, .int .i64 (wi (m0_1 + 1)))] (fun R hR => st_val hS rfl rfl rfl (r_bin hS rfl rfl rfl b_add) fun a68 hS68 => st_val hS68 rfl rfl rfl (r_move hS68 rfl rfl) fun a69 hS69 => wpList_nil (hR _ (hS69.re ⟨rfl, rfl, rfl, rfl, rfl, rfl, trivial⟩))) ?_
            clear hS
            clear a
            intro a hS
            refine ⟨k40, Nat.lt_succ_self _, ?_⟩
            exact ⟨v46, wi (m0_1 + 1), g43, A44, cap45, H, hS.re ⟨rfl, rfl, rfl, rfl, rfl, rfl, trivial⟩, h12, h22, h8, h39, hF⟩
        · replace H := ite_f hb42 H
          refine wp_exit ?_
          have e := Option.some.inj H
          subst e
          exact ⟨g36, A37, cap38, hS.re ⟨rfl, rfl, rfl, trivial⟩, h12, h22, h8, h39, hF⟩
  · clear H
    clear h8 h12 h22 hF
    clear hS
    rintro a w26 ⟨g26, A27, cap28, hS, h12, h22, h8, h29, hF⟩
    have H := Hl32
    clear Hl32
    refine c_pure [(5, .slice A6 r4.1.length cap7), (6, .slice A10 r4.2.length cap11), (7, .pointer (some ⟨b21, 0, none⟩)), (10, .slice none 0 0)] (fun R hR => st_val hS rfl rfl rfl (r_assign hS rfl rfl) fun a70 hS70 => wpList_nil (hR _ (hS70.re ⟨rfl, rfl, rfl, rfl, trivial⟩))) ?_
    clear hS
    clear a
    intro a hS
    obtain ⟨v75, H, Hl77⟩ := bind_el H
    refine c_cut (fun a w71 => ∃ (g71 : Nat → Nat), ∃ (A72 : Option Addr), ∃ (cap73 : Nat), Sl 76 a [(10, .slice A72 v75.length cap73)] ∧ OwS (kint .i64) 3 w71 g71 (N + 9) A72 cap73 v75 ∧ Fr (fun q => (r0 ≤ q ∧ q < r0 + 2) ∨ N ≤ q) w g w71 g71) ?_ ?_
    · refine wp_block ?_
      refine wp_loop_ghost (fun kq => fun a w78 => ∃ (m1_0 : List Int), ∃ (m1_1 : List Int), ∃ (m1_2 : List Int), ∃ (g78 : Nat → Nat), ∃ (A79 : Option Addr), ∃ (cap80 : Nat), ∃ (A81 : Option Addr), ∃ (cap82 : Nat), depgraph_sort.l1 r4 kq m1_0 m1_1 m1_2 = some v75 ∧ Sl 76 a [(5, .slice A6 r4.1.length cap7), (6, .slice A10 m1_0.length cap11), (7, .pointer (some ⟨b21, 0, none⟩)), (10, .slice A81 m1_2.length cap82)] ∧ OwS (kint .i64) 3 w78 g78 (N + 2) A10 cap11 m1_0 ∧ Bx w78 g78 (N + 4) b21 138 [.slice A79 m1_1.length cap80] ∧ OwS (kslice (kint .i64) (by decide)) 27 w78 g78 (N + 0) A6 cap7 r4.1 ∧ OwS (kint .i64) 3 w78 g78 (N + 4 + 1) A79 cap80 m1_1 ∧ OwS (kint .i64) 3 w78 g78 (N + 9) A81 cap82 m1_2 ∧ Fr (fun q => (r0 ≤ q ∧ q < r0 + 2) ∨ N ≤ q) w g w78 g78) FUEL ?_ ?_
      · exact ⟨r4.2, v30, [], g26, A27, cap28, none, 0, H, hS.re ⟨rfl, rfl, rfl, rfl, trivial⟩, h12, h22, h8, h29, OwS.nil (kint .i64) 3 w26 g26 (N + 9), hF⟩
      · clear H
        clear h8 h12 h22 h29 hF
        clear hS
        rintro k84 a w78 ⟨m1_0, m1_1, m1_2, g78, A79, cap80, A81, cap82, hpre0, hS, h12, h22, h8, h29, h83, hF⟩
        have H := hpre0
        clear hpre0
        cases k84 with
        | zero => exact absurd H (by simp [depgraph_sort.l1])
        | succ k84 =>
          rw [depgraph_sort.l1] at H
          refine wp_seq ?_
          refine c_pure [(5, .slice A6 r4.1.length cap7), (6, .slice A10 m1_0.length cap11), (7, .pointer (some ⟨b21, 0, none⟩)), (10, .slice A81 m1_2.length cap82), (37, .bool (decide (0 < (m1_1.length : Int))))] (fun R hR => st_val hS rfl rfl rfl (r_load1 (n := 1) hS rfl rfl (by kernel_rfl) (Bx.cell h22 rfl)) fun a85 hS85 => st_val hS85 rfl rfl rfl (r_len (e := 3) (sz := 1) (by_ := 8) hS85 rfl rfl (by kernel_rfl)) fun a86 hS86 => st_val hS86 rfl rfl rfl (r_bin hS86 rfl rfl rfl b_gtr) fun a87 hS87 => wpList_nil (hR _ (hS87.re ⟨rfl, rfl, rfl, rfl, rfl, trivial⟩))) ?_
          clear hS
          clear a
          intro a hS
          refine c_cond hS rfl (fun hb88 => ?_) (fun hb88 => ?_)
          · replace H := ite_t hb88 H
            refine wp_skip ?_
            change Code.wp _ _ _ _ _
            obtain ⟨o96, H, Hl97⟩ := bind_el H
            refine c_cut1 (fun a w89 => ∃ (v95 : (List Int) × (List Int) × (List Int)), ∃ (g89 : Nat → Nat), ∃ (A90 : Option Addr), ∃ (cap91 : Nat), ∃ (A92 : Option Addr), ∃ (cap93 : Nat), o96 = .nxt v95 ∧ Sl 76 a [(5, .slice A6 r4.1.length cap7), (6, .slice A10 v95.1.length cap11), (7, .pointer (some ⟨b21, 0, none⟩)), (10, .slice A92 v95.2.2.length cap93)] ∧ OwS (kint .i64) 3 w89 g89 (N + 2) A10 cap11 v95.1 ∧ Bx w89 g89 (N + 4) b21 138 [.slice A90 v95.2.1.length cap91] ∧ OwS (kslice (kint .i64) (by decide)) 27 w89 g89 (N + 0) A6 cap7 r4.1 ∧ OwS (kint .i64) 3 w89 g89 (N + 4 + 1) A90 cap91 v95.2.1 ∧ OwS (kint .i64) 3 w89 g89 (N + 9) A92 cap93 v95.2.2 ∧ Fr (fun q => (r0 ≤ q ∧ q < r0 + 2) ∨ N ≤ q) w g w89 g89) ?_ ?_
            · refine wp_block ?_
              obtain ⟨r99, hr100, H⟩ := bind_el H
              refine c_region (fun K hK => ?_)
              refine st_val hS rfl rfl rfl (r_mkif hS rfl rfl (by kernel_rfl)) fun a98 hS98 => ?_
              refine st_enter hS98 rfl rfl rfl (r_call hS98 rfl rfl (by kernel_rfl)) (heap_Pop.calls (c0 := N + 4) (b_p0 := b21) (A_q_p0 := A79) (cap_q_p0 := cap80) (p0 := (depgraph_queue.mk m1_1)) (g := g78) (N + 11)  ⟨h22, h29⟩ (by omega) hr100) ?_
              rintro _ a103 w104 ⟨g104, A101, cap102, rfl, ⟨h22, h29⟩, F104⟩ hS103
              replace h12 := OwS.fr h12 F104 (fun c' hc (hm : (N + 4 ≤ c' ∧ c' < N + 4 + 3) ∨ N + 11 ≤ c') => by omega)
              replace h8 := OwS.fr h8 F104 (fun c' hc (hm : (N + 4 ≤ c' ∧ c' < N + 4 + 3) ∨ N + 11 ≤ c') => by omega)
              replace h83 := OwS.fr h83 F104 (fun c' hc (hm : (N + 4 ≤ c' ∧ c' < N + 4 + 3) ∨ N + 11 ≤ c') => by omega)
              replace hF := hF.trans F104 (fun c' (hm : (N + 4 ≤ c' ∧ c' < N + 4 + 3) ∨ N + 11 ≤ c') => by show (r0 ≤ c' ∧ c' < r0 + 2) ∨ N ≤ c'; omega)
              refine st_val hS103 rfl rfl rfl (r_assert hS103 rfl rfl (by kernel_rfl)) fun a105 hS105 => st_val hS105 rfl rfl rfl (r_move hS105 rfl rfl) fun a106 hS106 => st_val hS106 rfl rfl rfl (r_extract hS106 rfl rfl rfl) fun a107 hS107 => st_val hS107 rfl rfl rfl (r_extract hS107 rfl rfl rfl) fun a108 hS108 => st_val hS108 rfl rfl rfl (r_assign hS108 rfl rfl) fun a109 hS109 => st_val hS109 rfl rfl rfl (r_assign hS109 rfl rfl) fun a110 hS110 => wpList_nil (hK _ _ ?_)
              replace hS : Sl 76 _ [(5, .slice A6 r4.1.length cap7), (6, .slice A10 m1_0.length cap11), (7, .pointer (some ⟨b21, 0, none⟩)), (10, .slice A81 m1_2.length cap82), (11, .int .i64 r99.2), (12, .bool true)] := hS110.re ⟨rfl, rfl, rfl, rfl, rfl, rfl, trivial⟩
              clear hK K
              try clear hS98 hS103 hS105 hS106 hS107 hS108 hS109 hS110
              obtain ⟨a, ha⟩ : ∃ a', a' = a110 := ⟨_, rfl⟩
              rw [← ha] at hS ⊢; clear ha
              refine wp_seq ?_
              refine c_pure [(5, .slice A6 r4.1.length cap7), (6, .slice A10 m1_0.length cap11), (7, .pointer (some ⟨b21, 0, none⟩)), (10, .slice A81 m1_2.length cap82), (11, .int .i64 r99.2), (45, .bool (!true))] (fun R hR => st_val hS rfl rfl rfl (r_move hS rfl rfl) fun a111 hS111 => st_val hS111 rfl rfl rfl (r_not hS111 rfl rfl) fun a112 hS112 => wpList_nil (hR _ (hS112.re ⟨rfl, rfl, rfl, rfl, rfl, rfl, trivial⟩))) ?_
              clear hS
              clear a
              intro a hS
              refine c_cond hS rfl (fun hb113 => ?_) (fun hb113 => ?_)
              · replace H := ite_t hb113 H
                refine wp_exit ?_
                have e := Option.some.inj H
                subst e
                replace H := Fl.go_out Hl97
                have e := Option.some.inj H
                subst e
                exact ⟨g104, A81, cap82, hS.re ⟨rfl, trivial⟩, h83, hF⟩
              · replace H := ite_f hb113 H
                refine wp_skip ?_
                change Code.wp _ _ _ _ _
                obtain ⟨y121, hy122, H⟩ := bind_el H
                refine c_region (fun K hK => ?_)
                refine st_val hS rfl rfl rfl (r_move hS rfl rfl) fun a114 hS114 => st_val hS114 rfl rfl rfl (r_move hS114 rfl rfl) fun a115 hS115 => ?_
                refine st_eff hS115 rfl rfl rfl (e_lit (e := 3) (parts := [(0, .int .i64 r99.2)]) (cs := [.int .i64 r99.2]) (kint .i64) [r99.2] (N + 7) g104 hS115 rfl rfl (fun _ => by kernel_rfl) rfl (by decide) (Rows.cons (cs := [.int .i64 r99.2]) rfl Rows.nil)) ?_
                rintro _ a119 w120 g120 ⟨⟨A116, rfl, h117⟩, F120⟩ hS119
                replace h12 := OwS.fr h12 F120 (fun _ _ h => h)
                replace h22 := h22.fr F120 (fun h => h)
                replace h8 := OwS.fr h8 F120 (fun _ _ h => h)
                replace h29 := OwS.fr h29 F120 (fun _ _ h => h)
                replace h83 := OwS.fr h83 F120 (fun _ _ h => h)
                replace hF := hF.trans F120 (fun _ h => h.elim)
                refine st_eff hS119 rfl rfl rfl (e_append (e := 3) (sz := 1) (by_ := 8) (z := [.int .i64 0]) (kd := (kint .i64)) g120 hS119 rfl rfl rfl rfl (by kernel_rfl) (by kernel_rfl) rfl rfl rfl rfl h83 (OwD.rdx h117) (fun _ _ _ h => h) hy122) ?_
                rintro _ a127 w128 g128 ⟨⟨A123, cap124, rfl, h125⟩, F128⟩ hS127
                replace h117 := OwS.fr h117 F128 (fun c' hc (hm : c' = N + 9) => by omega)
                replace h12 := OwS.fr h12 F128 (fun c' hc (hm : c' = N + 9) => by omega)
                replace h22 := h22.fr F128 (fun (hm : N + 4 = N + 9) => by omega)
                replace h8 := OwS.fr h8 F128 (fun c' hc (hm : c' = N + 9) => by omega)
                replace h29 := OwS.fr h29 F128 (fun c' hc (hm : c' = N + 9) => by omega)
                replace hF := hF.trans F128 (fun c' (hm : c' = N + 9) => by show (r0 ≤ c' ∧ c' < r0 + 2) ∨ N ≤ c'; omega)
                refine st_val hS127 rfl rfl rfl (r_assign hS127 rfl rfl) fun a129 hS129 => wpList_nil (hK _ _ ?_)
                replace hS : Sl 76 _ [(5, .slice A6 r4.1.length cap7), (6, .slice A10 m1_0.length cap11), (7, .pointer (some ⟨b21, 0, none⟩)), (10, .slice A123 y121.length cap124), (11, .int .i64 r99.2)] := hS129.re ⟨rfl, rfl, rfl, rfl, rfl, trivial⟩
                clear hK K
                try clear hS114 hS115 hS119 hS127 hS129
                obtain ⟨a, ha⟩ : ∃ a', a' = a129 := ⟨_, rfl⟩
                rw [← ha] at hS ⊢; clear ha
                obtain ⟨x132, hx133, H⟩ := bind_el H
                refine c_region (fun K hK => ?_)
                refine st_val hS rfl rfl rfl (r_move hS rfl rfl) fun a130 hS130 => st_val hS130 rfl rfl rfl (r_move hS130 rfl rfl) fun a131 hS131 => ?_
                obtain ⟨_, ⟨A135, cap136, rfl, h137⟩, hel134⟩ := El.of (OwD.rdx h8) hx133 (by decide)
                replace hel134 : El w128 g128 (fun q => q = N + 0) A6 (r99.2.toNat * 1) [.slice A135 x132.length cap136] := hel134
                refine st_val hS131 rfl rfl rfl (r_index (e := 27) (sz := 1) (by_ := 24) hS131 rfl rfl rfl (by kernel_rfl) (RdS.some_ (OwS.rd h8) hx133) (idx_lo hx133) (idx_hi hx133)) fun a140 hS140 => st_val hS140 rfl rfl rfl (r_load1 (n := 1) hS140 rfl rfl (by kernel_rfl) (El.cell (j := 0) hel134 rfl)) fun a141 hS141 => st_val hS141 rfl rfl rfl (r_len (e := 3) (sz := 1) (by_ := 8) hS141 rfl rfl (by kernel_rfl)) fun a142 hS142 => st_val hS142 rfl rfl rfl (r_move hS142 rfl rfl) fun a143 hS143 => wpList_nil (hK _ _ ?_)
                replace hS : Sl 76 _ [(5, .slice A6 r4.1.length cap7), (6, .slice A10 m1_0.length cap11), (7, .pointer (some ⟨b21, 0, none⟩)), (10, .slice A123 y121.length cap124), (53, .slice A135 x132.length cap136), (54, .int .i64 (x132.length : Int)), (55, .int .i64 0)] := hS143.re ⟨rfl, rfl, rfl, rfl, rfl, rfl, rfl, trivial⟩
                clear hK K
                try clear hS130 hS131 hS140 hS141 hS142 hS143
                obtain ⟨a, ha⟩ : ∃ a', a' = a143 := ⟨_, rfl⟩
                rw [← ha] at hS ⊢; clear ha
                refine wp_block ?_
                refine wp_loop_ghost (fun kq => fun a w144 => ∃ (m2_0 : List Int), ∃ (m2_1 : List Int), ∃ (m2_2 : Int), ∃ (g144 : Nat → Nat), ∃ (A145 : Option Addr), ∃ (cap146 : Nat), depgraph_sort.l2 y121 x132 kq m2_0 m2_1 m2_2 = some o96 ∧ Sl 76 a [(5, .slice A6 r4.1.length cap7), (6, .slice A10 m2_0.length cap11), (7, .pointer (some ⟨b21, 0, none⟩)), (10, .slice A123 y121.length cap124), (53, .slice A135 x132.length cap136), (54, .int .i64 (x132.length : Int)), (55, .int .i64 m2_2)] ∧ OwS (kint .i64) 3 w144 g144 (N + 9) A123 cap124 y121 ∧ OwS (kint .i64) 3 w144 g144 (N + 2) A10 cap11 m2_0 ∧ RdS (kint .i64) w144 g144 (fun q => q = N + 0 + 1) A135 cap136 x132 ∧ Bx w144 g144 (N + 4) b21 138 [.slice A145 m2_1.length cap146] ∧ OwS (kslice (kint .i64) (by decide)) 27 w144 g144 (N + 0) A6 cap7 r4.1 ∧ OwS (kint .i64) 3 w144 g144 (N + 4 + 1) A145 cap146 m2_1 ∧ Fr (fun q => (r0 ≤ q ∧ q < r0 + 2) ∨ N ≤ q) w g w144 g144) FUEL ?_ ?_
                · exact ⟨m1_0, r99.1.q, 0, g128, A101, cap102, H, hS.re ⟨rfl, rfl, rfl, rfl, rfl, rfl, rfl, trivial⟩, h125, h12, h137, h22, h8, h29, hF⟩
                · clear H
                  clear h8 h12 h22 h29 h125 h137 hF
                  clear hS
                  rintro k147 a w144 ⟨m2_0, m2_1, m2_2, g144, A145, cap146, hpre0, hS, h125, h12, h137, h22, h8, h29, hF⟩
                  have H := hpre0
                  clear hpre0
                  cases k147 with
                  | zero => exact absurd H (by simp [depgraph_sort.l2])
                  | succ k147 =>
                    rw [depgraph_sort.l2] at H
                    refine c_pure [(5, .slice A6 r4.1.length cap7), (6, .slice A10 m2_0.length cap11), (7, .pointer (some ⟨b21, 0, none⟩)), (10, .slice A123 y121.length cap124), (53, .slice A135 x132.length cap136), (54, .int .i64 (x132.length : Int)), (55, .int .i64 m2_2), (56, .bool (decide (m2_2 < (x132.length : Int))))] (fun R hR => st_val hS rfl rfl rfl (r_bin hS rfl rfl rfl b_lss) fun a148 hS148 => wpList_nil (hR _ (hS148.re ⟨rfl, rfl, rfl, rfl, rfl, rfl, rfl, rfl, trivial⟩))) ?_
                    clear hS
                    clear a
                    intro a hS
                    refine c_if hS rfl (fun hb149 => ?_) (fun hb149 => ?_)
                    · replace H := ite_t hb149 H
                      refine wp_skip ?_
                      change Code.wp _ _ _ _ _
                      obtain ⟨v153, H, Hl155⟩ := bind_el H
                      refine c_cut (fun a w150 => ∃ (g150 : Nat → Nat), ∃ (A151 : Option Addr), ∃ (cap152 : Nat), Sl 76 a [(5, .slice A6 r4.1.length cap7), (6, .slice A10 v153.1.length cap11), (7, .pointer (some ⟨b21, 0, none⟩)), (10, .slice A123 y121.length cap124), (53, .slice A135 x132.length cap136), (54, .int .i64 (x132.length : Int)), (55, .int .i64 m2_2)] ∧ OwS (kint .i64) 3 w150 g150 (N + 9) A123 cap124 y121 ∧ OwS (kint .i64) 3 w150 g150 (N + 2) A10 cap11 v153.1 ∧ RdS (kint .i64) w150 g150 (fun q => q = N + 0 + 1) A135 cap136 x132 ∧ Bx w150 g150 (N + 4) b21 138 [.slice A151 v153.2.length cap152] ∧ OwS (kslice (kint .i64) (by decide)) 27 w150 g150 (N + 0) A6 cap7 r4.1 ∧ OwS (kint .i64) 3 w150 g150 (N + 4 + 1) A151 cap152 v153.2 ∧ Fr (fun q => (r0 ≤ q ∧ q < r0 + 2) ∨ N ≤ q) w g w150 g150) ?_ ?_
                      · refine wp_block ?_
                        obtain ⟨x156, hx157, H⟩ := bind_el H
                        refine c_pure [(5, .slice A6 r4.1.length cap7), (6, .slice A10 m2_0.length cap11), (7, .pointer (some ⟨b21, 0, none⟩)), (10, .slice A123 y121.length cap124), (14, .int .i64 x156), (53, .slice A135 x132.length cap136), (54, .int .i64 (x132.length : Int)), (55, .int .i64 m2_2)] (fun R hR => st_val hS rfl rfl rfl (r_index (e := 3) (sz := 1) (by_ := 8) hS rfl rfl rfl (by kernel_rfl) (RdS.some_ h137 hx157) (idx_lo hx157) (idx_hi hx157)) fun a158 hS158 => st_val hS158 rfl rfl rfl (r_load1 (n := 1) hS158 rfl rfl (by kernel_rfl) (RdS.cell (i := m2_2) (sz := 1) (j := 0) h137 hx157 rfl)) fun a159 hS159 => st_val hS159 rfl rfl rfl (r_assign hS159 rfl rfl) fun a160 hS160 => wpList_nil (hR _ (hS160.re ⟨rfl, rfl, rfl, rfl, rfl, rfl, rfl, rfl, trivial⟩))) ?_
                        clear hS
                        clear a
                        intro a hS
                        obtain ⟨x163, hx164, H⟩ := bind_el H
                        refine c_region (fun K hK => ?_)
                        refine st_val hS rfl rfl rfl (r_move hS rfl rfl) fun a161 hS161 => st_val hS161 rfl rfl rfl (r_move hS161 rfl rfl) fun a162 hS162 => st_val hS162 rfl rfl rfl (r_index (e := 3) (sz := 1) (by_ := 8) hS162 rfl rfl rfl (by kernel_rfl) (RdS.some_ (OwS.rd h12) hx164) (idx_lo hx164) (idx_hi hx164)) fun a165 hS165 => st_val hS165 rfl rfl rfl (r_load1 (n := 1) hS165 rfl rfl (by kernel_rfl) (RdS.cell (i := x156) (sz := 1) (j := 0) (OwS.rd h12) hx164 rfl)) fun a166 hS166 => st_val hS166 rfl rfl rfl (r_bin hS166 rfl rfl rfl b_sub) fun a167 hS167 => st_val hS167 rfl rfl rfl (r_index (e := 3) (sz := 1) (by_ := 8) hS167 rfl rfl rfl (by kernel_rfl) (RdS.some_ (OwS.rd h12) hx164) (idx_lo hx164) (idx_hi hx164)) fun a168 hS168 => ?_
                        refine st_effS hS168 rfl rfl (e_storeE (n := 1) (bb := false) (kd := (kint .i64)) (j := 0) (x' := wi (x163 - 1)) (us := [.int .i64 (wi (x163 - 1))]) g144 hS168 rfl rfl rfl rfl (by kernel_rfl) rfl rfl (by intro v hv; simp only [List.mem_cons, List.not_mem_nil, or_false] at hv; rcases hv with rfl <;> rfl) h12 hx164 rfl (fun _ _ cs hR => by rw [show cs = _ from hR]; rfl)) ?_
                        rintro a169 w170 g170 ⟨h12, F170⟩ hS169
                        replace h125 := OwS.fr h125 F170 (fun c' hc (hm : c' = N + 2) => by omega)
                        replace h137 := RdS.fr h137 F170 (by decide) (fun q (hq : q = N + 0 + 1) (hm : q = N + 2) => by omega)
                        replace h22 := h22.fr F170 (fun (hm : N + 4 = N + 2) => by omega)
                        replace h8 := OwS.fr h8 F170 (fun c' hc (hm : c' = N + 2) => by omega)
                        replace h29 := OwS.fr h29 F170 (fun c' hc (hm : c' = N + 2) => by omega)
                        replace hF := hF.trans F170 (fun c' (hm : c' = N + 2) => by show (r0 ≤ c' ∧ c' < r0 + 2) ∨ N ≤ c'; omega)
                        have hT : Sl 76 a169 [(5, .slice A6 r4.1.length cap7), (6, .slice A10 m2_0.length cap11), (7, .pointer (some ⟨b21, 0, none⟩)), (10, .slice A123 y121.length cap124), (14, .int .i64 x156), (53, .slice A135 x132.length cap136), (54, .int .i64 (x132.length : Int)), (55, .int .i64 m2_2)] := hS169.re ⟨rfl, rfl, rfl, rfl, rfl, rfl, rfl, rfl, trivial⟩
                        replace hS169 : Sl 76 a169 [(5, .slice A6 r4.1.length cap7), (6, .slice A10 (upd m2_0 x156 (wi (x163 - 1))).length cap11), (7, .pointer (some ⟨b21, 0, none⟩)), (10, .slice A123 y121.length cap124), (14, .int .i64 x156), (53, .slice A135 x132.length cap136), (54, .int .i64 (x132.length : Int)), (55, .int .i64 m2_2)] := by simpa only [upd_length] using hT
                        clear hT
                        refine wpList_nil (hK _ _ ?_)
                        replace hS : Sl 76 _ [(5, .slice A6 r4.1.length cap7), (6, .slice A10 (upd m2_0 x156 (wi (x163 - 1))).length cap11), (7, .pointer (some ⟨b21, 0, none⟩)), (10, .slice A123 y121.length cap124), (14, .int .i64 x156), (53, .slice A135 x132.length cap136), (54, .int .i64 (x132.length : Int)), (55, .int .i64 m2_2)] := hS169.re ⟨rfl, rfl, rfl, rfl, rfl, rfl, rfl, rfl, trivial⟩
                        clear hK K
                        try clear hS161 hS162 hS165 hS166 hS167 hS168 hS169
                        obtain ⟨a, ha⟩ : ∃ a', a' = a169 := ⟨_, rfl⟩
                        rw [← ha] at hS ⊢; clear ha
                        obtain ⟨x173, hx174, H⟩ := bind_el H
                        refine c_pure [(5, .slice A6 r4.1.length cap7), (6, .slice A10 (upd m2_0 x156 (wi (x163 - 1))).length cap11), (7, .pointer (some ⟨b21, 0, none⟩)), (10, .slice A123 y121.length cap124), (14, .int .i64 x156), (53, .slice A135 x132.length cap136), (54, .int .i64 (x132.length : Int)), (55, .int .i64 m2_2), (69, .bool (x173 == 0))] (fun R hR => st_val hS rfl rfl rfl (r_move hS rfl rfl) fun a171 hS171 => st_val hS171 rfl rfl rfl (r_move hS171 rfl rfl) fun a172 hS172 => st_val hS172 rfl rfl rfl (r_index (e := 3) (sz := 1) (by_ := 8) hS172 rfl rfl rfl (by kernel_rfl) (RdS.some_ (OwS.rd h12) hx174) (idx_lo hx174) (idx_hi hx174)) fun a175 hS175 => st_val hS175 rfl rfl rfl (r_load1 (n := 1) hS175 rfl rfl (by kernel_rfl) (RdS.cell (i := x156) (sz := 1) (j := 0) (OwS.rd h12) hx174 rfl)) fun a176 hS176 => st_val hS176 rfl rfl rfl (r_bin hS176 rfl rfl rfl b_eql) fun a177 hS177 => wpList_nil (hR _ (hS177.re ⟨rfl, rfl, rfl, rfl, rfl, rfl, rfl, rfl, rfl, trivial⟩))) ?_
                        clear hS
                        clear a
                        intro a hS
                        refine c_cond hS rfl (fun hb178 => ?_) (fun hb178 => ?_)
                        · replace H := ite_t hb178 H
                          obtain ⟨r182, hr183, H⟩ := bind_el H
                          refine c_region1 (fun K hK => ?_)
                          refine st_val hS rfl rfl rfl (r_mkif hS rfl rfl (by kernel_rfl)) fun a179 hS179 => st_val hS179 rfl rfl rfl (r_move hS179 rfl rfl) fun a180 hS180 => st_val hS180 rfl rfl rfl (r_mkif hS180 rfl rfl (by kernel_rfl)) fun a181 hS181 => ?_
                          refine st_enter hS181 rfl rfl rfl (r_call hS181 rfl rfl (by kernel_rfl)) (heap_Push.calls (c0 := N + 4) (b_p0 := b21) (A_q_p0 := A145) (cap_q_p0 := cap146) (p0 := (depgraph_queue.mk m2_1)) (p1 := x156) (g := g170) (N + 11)  ⟨h22, h29⟩ (by omega) hr183) ?_
                          rintro _ a186 w187 ⟨g187, A184, cap185, rfl, ⟨h22, h29⟩, F187⟩ hS186
                          replace h125 := OwS.fr h125 F187 (fun c' hc (hm : (N + 4 ≤ c' ∧ c' < N + 4 + 3) ∨ N + 11 ≤ c') => by omega)
                          replace h12 := OwS.fr h12 F187 (fun c' hc (hm : (N + 4 ≤ c' ∧ c' < N + 4 + 3) ∨ N + 11 ≤ c') => by omega)
                          replace h137 := RdS.fr h137 F187 (by decide) (fun q (hq : q = N + 0 + 1) (hm : (N + 4 ≤ q ∧ q < N + 4 + 3) ∨ N + 11 ≤ q) => by omega)
                          replace h8 := OwS.fr h8 F187 (fun c' hc (hm : (N + 4 ≤ c' ∧ c' < N + 4 + 3) ∨ N + 11 ≤ c') => by omega)
                          replace hF := hF.trans F187 (fun c' (hm : (N + 4 ≤ c' ∧ c' < N + 4 + 3) ∨ N + 11 ≤ c') => by show (r0 ≤ c' ∧ c' < r0 + 2) ∨ N ≤ c'; omega)
                          refine wpList_nil (hK _ _ ?_)
                          replace hS : Sl 76 _ [(5, .slice A6 r4.1.length cap7), (6, .slice A10 (upd m2_0 x156 (wi (x163 - 1))).length cap11), (7, .pointer (some ⟨b21, 0, none⟩)), (10, .slice A123 y121.length cap124), (53, .slice A135 x132.length cap136), (54, .int .i64 (x132.length : Int)), (55, .int .i64 m2_2)] := hS186.re ⟨rfl, rfl, rfl, rfl, rfl, rfl, rfl, trivial⟩
                          clear hK K
                          try clear hS179 hS180 hS181 hS186
                          obtain ⟨a, ha⟩ : ∃ a', a' = a186 := ⟨_, rfl⟩
                          rw [← ha] at hS ⊢; clear ha
                          have e := Option.some.inj H
                          subst e
                          exact ⟨g187, A184, cap185, hS.re ⟨rfl, rfl, rfl, rfl, rfl, rfl, rfl, trivial⟩, h125, h12, h137, h22, h8, h29, hF⟩
                        · replace H := ite_f hb178 H
                          refine wp_skip ?_
                          have e := Option.some.inj H
                          subst e
                          exact ⟨g170, A145, cap146, hS.re ⟨rfl, rfl, rfl, rfl, rfl, rfl, rfl, trivial⟩, h125, h12, h137, h22, h8, h29, hF⟩
                      · clear H
                        clear h8 h12 h22 h29 h125 h137 hF
                        clear hS
                        rintro a w150 ⟨g150, A151, cap152, hS, h125, h12, h137, h22, h8, h29, hF⟩
                        have H := Hl155
                        clear Hl155
                        refine c_pure1 [(5, .slice A6 r4.1.length cap7), (6, .slice A10 v153.1.length cap11), (7, .pointer (some ⟨b21, 0, none⟩)), (10, .slice A123 y121.length cap124), (53, .slice A135 x132.length cap136), (54, .int .i64 (x132.length : Int)), (55, .int .i64 (wi (m2_2 + 1)))] (fun R hR => st_val hS rfl rfl rfl (r_bin hS rfl rfl rfl b_add) fun a188 hS188 => st_val hS188 rfl rfl rfl (r_move hS188 rfl rfl) fun a189 hS189 => wpList_nil (hR _ (hS189.re ⟨rfl, rfl, rfl, rfl, rfl, rfl, rfl, trivial⟩))) ?_
                        clear hS
                        clear a
                        intro a hS
                        refine ⟨k147, Nat.lt_succ_self _, ?_⟩
                        exact ⟨v153.1, v153.2, wi (m2_2 + 1), g150, A151, cap152, H, hS.re ⟨rfl, rfl, rfl, rfl, rfl, rfl, rfl, trivial⟩, h125, h12, h137, h22, h8, h29, hF⟩
                    · replace H := ite_f hb149 H
                      refine wp_exit ?_
                      have e := Option.some.inj H
                      exact ⟨(m2_0, m2_1, y121), g144, A145, cap146, A123, cap124, e.symm, hS.re ⟨rfl, rfl, rfl, rfl, trivial⟩, h12, h22, h8, h29, h125, hF⟩
            · clear H
              clear h8 h12 h22 h29 h83 hF
              clear hS
              rintro a w89 ⟨v95, g89, A90, cap91, A92, cap93, hpre0, hS, h12, h22, h8, h29, h94, hF⟩
              subst hpre0
              have H := Fl.go_nxt Hl97
              clear Hl97
              refine ⟨k84, Nat.lt_succ_self _, ?_⟩
              exact ⟨v95.1, v95.2.1, v95.2.2, g89, A90, cap91, A92, cap93, H, hS.re ⟨rfl, rfl, rfl, rfl, trivial⟩, h12, h22, h8, h29, h94, hF⟩
          · replace H := ite_f hb88 H
            refine wp_exit ?_
            have e := Option.some.inj H
            subst e
            exact ⟨g78, A81, cap82, hS.re ⟨rfl, trivial⟩, h83, hF⟩
    · clear H
      clear h8 h12 h22 h29 hF
      clear hS
      rintro a w71 ⟨g71, A72, cap73, hS, h74, hF⟩
      have H := Hl77
      clear Hl77
      refine c_pure [(4, .slice A72 v75.length cap73)] (fun R hR => st_val hS rfl rfl rfl (r_move hS rfl rfl) fun a190 hS190 => st_val hS190 rfl rfl rfl (r_assign hS190 rfl rfl) fun a191 hS191 => wpList_nil (hR _ (hS191.re ⟨rfl, trivial⟩))) ?_
      clear hS
      clear a
      intro a hS
      refine wp_ret ?_
      have e := Option.some.inj H
      subst e
      have F192 := Fr.recol2 w71 g71 (N + 9) r0
      replace h74 := h74.recol2 r0
      replace hF := hF.trans F192 (fun c' (hm : c' = N + 9 ∨ c' = N + 9 + 1) => by show (r0 ≤ c' ∧ c' < r0 + 2) ∨ N ≤ c'; omega)
      repeat (with_reducible first | refine then_ret ?_ | refine inBlock_ret ?_)
      exact c_ret1 hS Try.results70 rfl ⟨_, rfl, (recol2 g71 (N + 9) r0), A72, cap73, rfl, h74, hF⟩


end Go.Proofs.Ytcfcffbjdjacfaa.Sim

namespace Go.Proofs.Ytcfcffbjdjacfaa.Sim
open Go
set_option linter.unusedVariables false
set_option linter.unusedSimpArgs false

/-! ### depgraph_Order: function 45 -/
def depgraph_Order.f (p0 : Int) (p1 : List api_Link) : Option ((List Int) × Int) := (depgraph_validate.f p0 p1).bind fun r5 => if (r5 != 0) = true then (some ([], r5)) else ((depgraph_sort.f p0 p1).bind fun r18 => if decide ((r18.length : Int) < p0) = true then (some ([], 18)) else (some (r18, 0)))
set_option maxRecDepth 100000 in
set_option maxHeartbeats 4000000 in
theorem depgraph_Order.calls {p0 : Int} {p1 : List api_Link} {A1 : Option Addr} {cap1 : Nat} {C1 : Nat → Prop} {w : World} {g : Nat → Nat} {out : (List Int) × Int} (N : Nat) (r0 : Nat) (hp1 : RdS kd_api_Link w g C1 A1 cap1 p1) (hC1 : ∀ c, C1 c → c < N) (hr0 : r0 + 2 ≤ N) (H : depgraph_Order.f p0 p1 = some out) :
    Calls Try.prog 45 #[.int .i64 p0, .slice A1 p1.length cap1] w (fun e w' => ∃ v, e = .returned v ∧ ∃ (g' : Nat → Nat) (A_r0 : Option Addr) (cap_r0 : Nat), v = .tuple #[.slice A_r0 out.1.length cap_r0, .int .i64 out.2] ∧ OwS (kint .i64) 3 w' g' r0 A_r0 cap_r0 out.1 ∧ Fr (fun q => (r0 ≤ q ∧ q < r0 + 2) ∨ N ≤ q) w g w' g') := by
  unfold depgraph_Order.f at H
  refine calls_enter Try.func45 rfl Try.ntmps45 rfl (fun a hS => ?_)
  replace hS : Sl 22 a [(0, .int .i64 p0), (1, .slice A1 p1.length cap1)] := hS
  have hF : Fr (fun q => (r0 ≤ q ∧ q < r0 + 2) ∨ N ≤ q) w g w g := Fr.refl _ _ _
  refine c_pure [(0, .int .i64 p0), (1, .slice A1 p1.length cap1)] (fun R hR => st_val hS rfl rfl rfl (r_assign hS rfl rfl) fun a1 hS1 => st_val hS1 rfl rfl rfl (r_assign hS1 rfl rfl) fun a2 hS2 => wpList_nil (hR _ (hS2.re ⟨rfl, rfl, trivial⟩))) ?_
  clear hS
  clear a
  intro a hS
  refine wp_seq ?_
  obtain ⟨r5, hr6, H⟩ := bind_el H
  refine c_region (fun K hK => ?_)
  refine st_val hS rfl rfl rfl (r_move hS rfl rfl) fun a3 hS3 => st_val hS3 rfl rfl rfl (r_move hS3 rfl rfl) fun a4 hS4 => ?_
  refine st_enter hS4 rfl rfl rfl (r_call hS4 rfl rfl (by kernel_rfl)) (depgraph_validate.calls (C1 := C1) (p0 := p0) (p1 := p1) (g := g) (N + 2)  hp1 (fun q (hq : C1 q) => by have := hC1 q hq; omega) hr6) ?_
  rintro _ a7 w8 ⟨g8, rfl, F8⟩ hS7
  replace hp1 := RdS.fr hp1 F8 (by decide) (fun q (hq : C1 q) (hm : N + 2 ≤ q) => by have := hC1 q hq; omega)
  replace hF := hF.trans F8 (fun c' (hm : N + 2 ≤ c') => by show (r0 ≤ c' ∧ c' < r0 + 2) ∨ N ≤ c'; omega)
  refine st_val hS7 rfl rfl rfl (r_assign hS7 rfl rfl) fun a9 hS9 => wpList_nil (hK _ _ ?_)
  replace hS : Sl 22 _ [(0, .int .i64 p0), (1, .slice A1 p1.length cap1), (6, .int .i64 r5)] := hS9.re ⟨rfl, rfl, rfl, trivial⟩
  clear hK K
  try clear hS3 hS4 hS7 hS9
  obtain ⟨a, ha⟩ : ∃ a', a' = a9 := ⟨_, rfl⟩
  rw [← ha] at hS ⊢; clear ha
  refine c_pure [(0, .int .i64 p0), (1, .slice A1 p1.length cap1), (6, .int .i64 r5), (12, .bool (r5 != 0))] (fun R hR => st_val hS rfl rfl rfl (r_move hS rfl rfl) fun a10 hS10 => st_val hS10 rfl rfl rfl (r_bin hS10 rfl rfl rfl b_neq) fun a11 hS11 => wpList_nil (hR _ (hS11.re ⟨rfl, rfl, rfl, rfl, trivial⟩))) ?_
  clear hS
  clear a
  intro a hS
  refine c_cond hS rfl (fun hb12 => ?_) (fun hb12 => ?_)
  · replace H := ite_t hb12 H
    refine c_pure [(4, .slice none 0 0), (5, .int .i64 r5)] (fun R hR => st_val hS rfl rfl rfl (r_move hS rfl rfl) fun a13 hS13 => st_val hS13 rfl rfl rfl (r_assign hS13 rfl rfl) fun a14 hS14 => st_val hS14 rfl rfl rfl (r_assign hS14 rfl rfl) fun a15 hS15 => wpList_nil (hR _ (hS15.re ⟨rfl, rfl, trivial⟩))) ?_
    clear hS
    clear a
    intro a hS
    refine wp_ret ?_
    have e := Option.some.inj H
    subst e
    repeat (with_reducible first | refine then_ret ?_ | refine inBlock_ret ?_)
    exact c_ret2 hS Try.results45 rfl rfl ⟨_, rfl, g8, none, 0, rfl, OwS.nil (kint .i64) 3 w8 g8 r0, hF⟩
  · replace H := ite_f hb12 H
    refine wp_skip ?_
    change Code.wp _ _ _ _ _
    obtain ⟨r18, hr19, H⟩ := bind_el H
    refine c_region (fun K hK => ?_)
    refine st_val hS rfl rfl rfl (r_move hS rfl rfl) fun a16 hS16 => st_val hS16 rfl rfl rfl (r_move hS16 rfl rfl) fun a17 hS17 => ?_
    refine st_enter hS17 rfl rfl rfl (r_call hS17 rfl rfl (by kernel_rfl)) (depgraph_sort.calls (C1 := C1) (p0 := p0) (p1 := p1) (g := g8) (N + 2) (N + 0) hp1 (fun q (hq : C1 q) => by have := hC1 q hq; omega) (by omega) hr19) ?_
    rintro _ a24 w25 ⟨g25, A20, cap21, rfl, h22, F25⟩ hS24
    replace hp1 := RdS.fr hp1 F25 (by decide) (fun q (hq : C1 q) (hm : (N + 0 ≤ q ∧ q < N + 0 + 2) ∨ N + 2 ≤ q) => by have := hC1 q hq; omega)
    replace hF := hF.trans F25 (fun c' (hm : (N + 0 ≤ c' ∧ c' < N + 0 + 2) ∨ N + 2 ≤ c') => by show (r0 ≤ c' ∧ c' < r0 + 2) ∨ N ≤ c'; omega)
    refine st_val hS24 rfl rfl rfl (r_assign hS24 rfl rfl) fun a26 hS26 => wpList_nil (hK _ _ ?_)
    replace hS : Sl 22 _ [(0, .int .i64 p0), (7, .slice A20 r18.length cap21)] := hS26.re ⟨rfl, rfl, trivial⟩
    clear hK K
    try clear hS16 hS17 hS24 hS26
    obtain ⟨a, ha⟩ : ∃ a', a' = a26 := ⟨_, rfl⟩
    rw [← ha] at hS ⊢; clear ha
    refine wp_seq ?_
    refine c_pure [(7, .slice A20 r18.length cap21), (20, .bool (decide ((r18.length : Int) < p0)))] (fun R hR => st_val hS rfl rfl rfl (r_move hS rfl rfl) fun a27 hS27 => st_val hS27 rfl rfl rfl (r_len (e := 3) (sz := 1) (by_ := 8) hS27 rfl rfl (by kernel_rfl)) fun a28 hS28 => st_val hS28 rfl rfl rfl (r_move hS28 rfl rfl) fun a29 hS29 => st_val hS29 rfl rfl rfl (r_bin hS29 rfl rfl rfl b_lss) fun a30 hS30 => wpList_nil (hR _ (hS30.re ⟨rfl, rfl, trivial⟩))) ?_
    clear hS
    clear a
    intro a hS
    refine c_cond hS rfl (fun hb31 => ?_) (fun hb31 => ?_)
    · replace H := ite_t hb31 H
      refine c_pure [(4, .slice none 0 0), (5, .int .i64 18)] (fun R hR => st_val hS rfl rfl rfl (r_assign hS rfl rfl) fun a32 hS32 => st_val hS32 rfl rfl rfl (r_assign hS32 rfl rfl) fun a33 hS33 => wpList_nil (hR _ (hS33.re ⟨rfl, rfl, trivial⟩))) ?_
      clear hS
      clear a
      intro a hS
      refine wp_ret ?_
      have e := Option.some.inj H
      subst e
      repeat (with_reducible first | refine then_ret ?_ | refine inBlock_ret ?_)
      exact c_ret2 hS Try.results45 rfl rfl ⟨_, rfl, g25, none, 0, rfl, OwS.nil (kint .i64) 3 w25 g25 r0, hF⟩
    · replace H := ite_f hb31 H
      refine wp_skip ?_
      change Code.wp _ _ _ _ _
      refine c_pure [(4, .slice A20 r18.length cap21), (5, .int .i64 0)] (fun R hR => st_val hS rfl rfl rfl (r_move hS rfl rfl) fun a34 hS34 => st_val hS34 rfl rfl rfl (r_assign hS34 rfl rfl) fun a35 hS35 => st_val hS35 rfl rfl rfl (r_assign hS35 rfl rfl) fun a36 hS36 => wpList_nil (hR _ (hS36.re ⟨rfl, rfl, trivial⟩))) ?_
      clear hS
      clear a
      intro a hS
      refine wp_ret ?_
      have e := Option.some.inj H
      subst e
      have F37 := Fr.recol2 w25 g25 (N + 0) r0
      replace h22 := h22.recol2 r0
      replace hF := hF.trans F37 (fun c' (hm : c' = N + 0 ∨ c' = N + 0 + 1) => by show (r0 ≤ c' ∧ c' < r0 + 2) ∨ N ≤ c'; omega)
      repeat (with_reducible first | refine then_ret ?_ | refine inBlock_ret ?_)
      exact c_ret2 hS Try.results45 rfl rfl ⟨_, rfl, (recol2 g25 (N + 0) r0), A20, cap21, rfl, h22, hF⟩


end Go.Proofs.Ytcfcffbjdjacfaa.Sim

namespace Go.Proofs.Ytcfcffbjdjacfaa.Sim
open Go
set_option linter.unusedVariables false
set_option linter.unusedSimpArgs false

/-! ### slices_Clone_int_int: function 64 -/
def slices_Clone_int_int.f (p0 : List Int) : Option ((List Int)) := (app ([] : List Int) p0).bind fun y13 => some y13
set_option maxRecDepth 100000 in
set_option maxHeartbeats 4000000 in
theorem slices_Clone_int_int.calls {p0 : List Int} {A0 : Option Addr} {cap0 : Nat} {C0 : Nat → Prop} {w : World} {g : Nat → Nat} {out : (List Int)} (N : Nat) (r0 : Nat) (hp0 : RdS (kint .i64) w g C0 A0 cap0 p0) (hC0 : ∀ c, C0 c → c < N) (hr0 : r0 + 2 ≤ N) (H : slices_Clone_int_int.f p0 = some out) :
    Calls Try.prog 64 #[.slice A0 p0.length cap0] w (fun e w' => ∃ v, e = .returned v ∧ ∃ (g' : Nat → Nat) (A_r0 : Option Addr) (cap_r0 : Nat), v = .slice A_r0 out.length cap_r0 ∧ OwS (kint .i64) 3 w' g' r0 A_r0 cap_r0 out ∧ Fr (fun q => (r0 ≤ q ∧ q < r0 + 2) ∨ N ≤ q) w g w' g') := by
  unfold slices_Clone_int_int.f at H
  refine calls_enter Try.func64 rfl Try.ntmps64 rfl (fun a hS => ?_)
  replace hS : Sl 8 a [(0, .slice A0 p0.length cap0)] := hS
  have hF : Fr (fun q => (r0 ≤ q ∧ q < r0 + 2) ∨ N ≤ q) w g w g := Fr.refl _ _ _
  refine c_pure [(0, .slice A0 p0.length cap0)] (fun R hR => st_val hS rfl rfl rfl (r_assign hS rfl rfl) fun a1 hS1 => wpList_nil (hR _ (hS1.re ⟨rfl, trivial⟩))) ?_
  clear hS
  clear a
  intro a hS
  refine wp_seq ?_
  refine c_pure [(0, .slice A0 p0.length cap0), (4, .bool A0.isNone)] (fun R hR => st_val hS rfl rfl rfl (r_move hS rfl rfl) fun a2 hS2 => st_val hS2 rfl rfl rfl (r_slNil (E := 3) hS2 rfl rfl (by kernel_rfl)) fun a3 hS3 => wpList_nil (hR _ (hS3.re ⟨rfl, rfl, trivial⟩))) ?_
  clear hS
  clear a
  intro a hS
  refine c_cond hS rfl (fun hb4 => ?_) (fun hb4 => ?_)
  · have hn5 := RdS.none_ hp0 hb4
    subst hn5
    replace H : some [] = some out := by first | exact H | simpa [app] using H
    refine c_pure [(2, .slice none 0 0)] (fun R hR => st_val hS rfl rfl rfl (r_assign hS rfl rfl) fun a6 hS6 => wpList_nil (hR _ (hS6.re ⟨rfl, trivial⟩))) ?_
    clear hS
    clear a
    intro a hS
    refine wp_ret ?_
    have e := Option.some.inj H
    subst e
    repeat (with_reducible first | refine then_ret ?_ | refine inBlock_ret ?_)
    exact c_ret1 hS Try.results64 rfl ⟨_, rfl, g, none, 0, rfl, OwS.nil (kint .i64) 3 w g r0, hF⟩
  · refine wp_skip ?_
    change Code.wp _ _ _ _ _
    obtain ⟨y13, hy14, H⟩ := bind_el H
    refine c_region (fun K hK => ?_)
    refine st_eff hS rfl rfl rfl (e_lit (e := 3) (parts := []) (cs := []) (kint .i64) ([] : List Int) (N + 0) g hS rfl rfl (fun _ => by kernel_rfl) rfl (by decide) Rows.nil) ?_
    rintro _ a10 w11 g11 ⟨⟨A7, rfl, h8⟩, F11⟩ hS10
    replace hp0 := RdS.fr hp0 F11 (by decide) (fun _ _ h => h)
    replace hF := hF.trans F11 (fun _ h => h.elim)
    refine st_val hS10 rfl rfl rfl (r_move hS10 rfl rfl) fun a12 hS12 => ?_
    refine st_eff hS12 rfl rfl rfl (e_append (e := 3) (sz := 1) (by_ := 8) (z := [.int .i64 0]) (kd := (kint .i64)) g11 hS12 rfl rfl rfl rfl (by kernel_rfl) (by kernel_rfl) rfl rfl rfl rfl h8 hp0 (fun _ _ _ h => h) hy14) ?_
    rintro _ a19 w20 g20 ⟨⟨A15, cap16, rfl, h17⟩, F20⟩ hS19
    replace hp0 := RdS.fr hp0 F20 (by decide) (fun q (hq : C0 q) (hm : q = N + 0) => by have := hC0 q hq; omega)
    replace hF := hF.trans F20 (fun c' (hm : c' = N + 0) => by show (r0 ≤ c' ∧ c' < r0 + 2) ∨ N ≤ c'; omega)
    refine st_val hS19 rfl rfl rfl (r_assign hS19 rfl rfl) fun a21 hS21 => wpList_nil (hK _ _ ?_)
    replace hS : Sl 8 _ [(2, .slice A15 y13.length cap16)] := hS21.re ⟨rfl, trivial⟩
    clear hK K
    try clear hS10 hS12 hS19 hS21
    obtain ⟨a, ha⟩ : ∃ a', a' = a21 := ⟨_, rfl⟩
    rw [← ha] at hS ⊢; clear ha
    refine wp_ret ?_
    have e := Option.some.inj H
    subst e
    have F22 := Fr.recol2 w20 g20 (N + 0) r0
    replace h17 := h17.recol2 r0
    replace hF := hF.trans F22 (fun c' (hm : c' = N + 0 ∨ c' = N + 0 + 1) => by show (r0 ≤ c' ∧ c' < r0 + 2) ∨ N ≤ c'; omega)
    repeat (with_reducible first | refine then_ret ?_ | refine inBlock_ret ?_)
    exact c_ret1 hS Try.results64 rfl ⟨_, rfl, (recol2 g20 (N + 0) r0), A15, cap16, rfl, h17, hF⟩


end Go.Proofs.Ytcfcffbjdjacfaa.Sim

namespace Go.Proofs.Ytcfcffbjdjacfaa.Sim
open Go
set_option linter.unusedVariables false
set_option linter.unusedSimpArgs false

/-! ### runtimepm_suppliers: function 44 -/
def runtimepm_suppliers.f (p0 : api_IdleDevice) : Option ((List Int)) := if decide (p0.Parent < 0) = true then ((slices_Clone_int_int.f p0.Suppliers).bind fun r13 => some r13) else ((app [p0.Parent] p0.Suppliers).bind fun y32 => some y32)
set_option maxRecDepth 100000 in
set_option maxHeartbeats 4000000 in
theorem runtimepm_suppliers.calls {p0 : api_IdleDevice} {C0 : Nat → Prop} {A0_0 : Option Addr} {cap0_0 : Nat} {w : World} {g : Nat → Nat} {out : (List Int)} (N : Nat) (r0 : Nat) (hp0_0 : RdS (kint .i64) w g C0 A0_0 cap0_0 p0.Suppliers) (hC0 : ∀ c, C0 c → c < N) (hr0 : r0 + 2 ≤ N) (H : runtimepm_suppliers.f p0 = some out) :
    Calls Try.prog 44 #[.agg #[.int .i64 p0.Parent, .slice A0_0 p0.Suppliers.length cap0_0, .int .u64 p0.Delay]] w (fun e w' => ∃ v, e = .returned v ∧ ∃ (g' : Nat → Nat) (A_r0 : Option Addr) (cap_r0 : Nat), v = .slice A_r0 out.length cap_r0 ∧ OwS (kint .i64) 3 w' g' r0 A_r0 cap_r0 out ∧ Fr (fun q => (r0 ≤ q ∧ q < r0 + 2) ∨ N ≤ q) w g w' g') := by
  unfold runtimepm_suppliers.f at H
  refine calls_enter Try.func44 rfl Try.ntmps44 rfl (fun a hS => ?_)
  replace hS : Sl 15 a [(0, .agg #[.int .i64 p0.Parent, .slice A0_0 p0.Suppliers.length cap0_0, .int .u64 p0.Delay])] := hS
  have hF : Fr (fun q => (r0 ≤ q ∧ q < r0 + 2) ∨ N ≤ q) w g w g := Fr.refl _ _ _
  refine c_region (fun K hK => ?_)
  refine st_eff hS rfl rfl rfl (e_box (cs := [.int .i64 p0.Parent, .slice A0_0 p0.Suppliers.length cap0_0, .int .u64 p0.Delay]) (N + 0) g hS rfl rfl rfl) ?_
  rintro _ a4 w5 g5 ⟨⟨b1, rfl, h2⟩, F5⟩ hS4
  replace hp0_0 := RdS.fr hp0_0 F5 (by decide) (fun _ _ h => h)
  replace hF := hF.trans F5 (fun _ h => h.elim)
  refine st_val hS4 rfl rfl rfl (r_assign hS4 rfl rfl) fun a6 hS6 => wpList_nil (hK _ _ ?_)
  replace hS : Sl 15 _ [(1, .pointer (some ⟨b1, 0, none⟩))] := hS6.re ⟨rfl, trivial⟩
  clear hK K
  try clear hS4 hS6
  obtain ⟨a, ha⟩ : ∃ a', a' = a6 := ⟨_, rfl⟩
  rw [← ha] at hS ⊢; clear ha
  refine wp_seq ?_
  refine c_pure [(1, .pointer (some ⟨b1, 0, none⟩)), (5, .bool (decide (p0.Parent < 0)))] (fun R hR => st_val hS rfl rfl rfl (r_fieldB (off := 0) hS rfl rfl (by kernel_rfl)) fun a7 hS7 => st_val hS7 rfl rfl rfl (r_load1 (n := 1) hS7 rfl rfl (by kernel_rfl) (Bx.cell h2 rfl)) fun a8 hS8 => st_val hS8 rfl rfl rfl (r_bin hS8 rfl rfl rfl b_lss) fun a9 hS9 => wpList_nil (hR _ (hS9.re ⟨rfl, rfl, trivial⟩))) ?_
  clear hS
  clear a
  intro a hS
  refine c_cond hS rfl (fun hb10 => ?_) (fun hb10 => ?_)
  · replace H := ite_t hb10 H
    obtain ⟨r13, hr14, H⟩ := bind_el H
    refine c_region (fun K hK => ?_)
    refine st_val hS rfl rfl rfl (r_fieldB (off := 1) hS rfl rfl (by kernel_rfl)) fun a11 hS11 => st_val hS11 rfl rfl rfl (r_load1 (n := 1) hS11 rfl rfl (by kernel_rfl) (Bx.cell h2 rfl)) fun a12 hS12 => ?_
    refine st_enter hS12 rfl rfl rfl (r_call hS12 rfl rfl (by kernel_rfl)) (slices_Clone_int_int.calls (C0 := C0) (p0 := p0.Suppliers) (g := g5) (N + 6) (N + 2) hp0_0 (fun q (hq : C0 q) => by have := hC0 q hq; omega) (by omega) hr14) ?_
    rintro _ a19 w20 ⟨g20, A15, cap16, rfl, h17, F20⟩ hS19
    replace h2 := h2.fr F20 (fun (hm : (N + 2 ≤ N + 0 ∧ N + 0 < N + 2 + 2) ∨ N + 6 ≤ N + 0) => by omega)
    replace hp0_0 := RdS.fr hp0_0 F20 (by decide) (fun q (hq : C0 q) (hm : (N + 2 ≤ q ∧ q < N + 2 + 2) ∨ N + 6 ≤ q) => by have := hC0 q hq; omega)
    replace hF := hF.trans F20 (fun c' (hm : (N + 2 ≤ c' ∧ c' < N + 2 + 2) ∨ N + 6 ≤ c') => by show (r0 ≤ c' ∧ c' < r0 + 2) ∨ N ≤ c'; omega)
    refine st_val hS19 rfl rfl rfl (r_assign hS19 rfl rfl) fun a21 hS21 => wpList_nil (hK _ _ ?_)
    replace hS : Sl 15 _ [(2, .slice A15 r13.length cap16)] := hS21.re ⟨rfl, trivial⟩
    clear hK K
    try clear hS11 hS12 hS19 hS21
    obtain ⟨a, ha⟩ : ∃ a', a' = a21 := ⟨_, rfl⟩
    rw [← ha] at hS ⊢; clear ha
    refine wp_ret ?_
    have e := Option.some.inj H
    subst e
    have F22 := Fr.recol2 w20 g20 (N + 2) r0
    replace h17 := h17.recol2 r0
    replace hF := hF.trans F22 (fun c' (hm : c' = N + 2 ∨ c' = N + 2 + 1) => by show (r0 ≤ c' ∧ c' < r0 + 2) ∨ N ≤ c'; omega)
    repeat (with_reducible first | refine then_ret ?_ | refine inBlock_ret ?_)
    exact c_ret1 hS Try.results44 rfl ⟨_, rfl, (recol2 g20 (N + 2) r0), A15, cap16, rfl, h17, hF⟩
  · replace H := ite_f hb10 H
    refine wp_skip ?_
    change Code.wp _ _ _ _ _
    obtain ⟨y32, hy33, H⟩ := bind_el H
    refine c_region (fun K hK => ?_)
    refine st_val hS rfl rfl rfl (r_fieldB (off := 0) hS rfl rfl (by kernel_rfl)) fun a23 hS23 => st_val hS23 rfl rfl rfl (r_load1 (n := 1) hS23 rfl rfl (by kernel_rfl) (Bx.cell h2 rfl)) fun a24 hS24 => ?_
    refine st_eff hS24 rfl rfl rfl (e_lit (e := 3) (parts := [(0, .int .i64 p0.Parent)]) (cs := [.int .i64 p0.Parent]) (kint .i64) [p0.Parent] (N + 4) g5 hS24 rfl rfl (fun _ => by kernel_rfl) rfl (by decide) (Rows.cons (cs := [.int .i64 p0.Parent]) rfl Rows.nil)) ?_
    rintro _ a28 w29 g29 ⟨⟨A25, rfl, h26⟩, F29⟩ hS28
    replace h2 := h2.fr F29 (fun h => h)
    replace hp0_0 := RdS.fr hp0_0 F29 (by decide) (fun _ _ h => h)
    replace hF := hF.trans F29 (fun _ h => h.elim)
    refine st_val hS28 rfl rfl rfl (r_fieldB (off := 1) hS28 rfl rfl (by kernel_rfl)) fun a30 hS30 => st_val hS30 rfl rfl rfl (r_load1 (n := 1) hS30 rfl rfl (by kernel_rfl) (Bx.cell h2 rfl)) fun a31 hS31 => ?_
    refine st_eff hS31 rfl rfl rfl (e_append (e := 3) (sz := 1) (by_ := 8) (z := [.int .i64 0]) (kd := (kint .i64)) g29 hS31 rfl rfl rfl rfl (by kernel_rfl) (by kernel_rfl) rfl rfl rfl rfl h26 hp0_0 (fun _ _ _ h => h) hy33) ?_
    rintro _ a38 w39 g39 ⟨⟨A34, cap35, rfl, h36⟩, F39⟩ hS38
    replace h2 := h2.fr F39 (fun (hm : N + 0 = N + 4) => by omega)
    replace hp0_0 := RdS.fr hp0_0 F39 (by decide) (fun q (hq : C0 q) (hm : q = N + 4) => by have := hC0 q hq; omega)
    replace hF := hF.trans F39 (fun c' (hm : c' = N + 4) => by show (r0 ≤ c' ∧ c' < r0 + 2) ∨ N ≤ c'; omega)
    refine st_val hS38 rfl rfl rfl (r_assign hS38 rfl rfl) fun a40 hS40 => wpList_nil (hK _ _ ?_)
    replace hS : Sl 15 _ [(2, .slice A34 y32.length cap35)] := hS40.re ⟨rfl, trivial⟩
    clear hK K
    try clear hS23 hS24 hS28 hS30 hS31 hS38 hS40
    obtain ⟨a, ha⟩ : ∃ a', a' = a40 := ⟨_, rfl⟩
    rw [← ha] at hS ⊢; clear ha
    refine wp_ret ?_
    have e := Option.some.inj H
    subst e
    have F41 := Fr.recol2 w39 g39 (N + 4) r0
    replace h36 := h36.recol2 r0
    replace hF := hF.trans F41 (fun c' (hm : c' = N + 4 ∨ c' = N + 4 + 1) => by show (r0 ≤ c' ∧ c' < r0 + 2) ∨ N ≤ c'; omega)
    repeat (with_reducible first | refine then_ret ?_ | refine inBlock_ret ?_)
    exact c_ret1 hS Try.results44 rfl ⟨_, rfl, (recol2 g39 (N + 4) r0), A34, cap35, rfl, h36, hF⟩


end Go.Proofs.Ytcfcffbjdjacfaa.Sim

namespace Go.Proofs.Ytcfcffbjdjacfaa.Sim
open Go
set_option linter.unusedVariables false
set_option linter.unusedSimpArgs false

/-! ### runtimepm_New: function 19 -/
def runtimepm_New.l1 (p0 : List api_IdleDevice) (m0_1 : Int) (x163 : runtimepm_device) : Nat → runtimepm_Manager → Int → Option (Fl (Fl ((Option runtimepm_Manager) × Int) (runtimepm_Manager)) (runtimepm_Manager))
  | 0, _, _ => none
  | k183 + 1, m1_0, m1_1 => if decide (m1_1 < (x163.suppliers.length : Int)) = true then ((idx x163.suppliers m1_1).bind fun x186 => if ((decide (x186 < 0)) || (decide ((p0.length : Int) ≤ x186))) = true then (some (.out (.out ((none : Option runtimepm_Manager), 1)))) else ((app m1_0.links [(api_Link.mk m0_1 x186)]).bind fun y223 => (idx m1_0.devices x186).bind fun x235 => (app x235.consumers [m0_1]).bind fun y252 => runtimepm_New.l1 p0 m0_1 x163 k183 (runtimepm_Manager.mk (upd m1_0.devices x186 ({ x235 with consumers := y252 } : runtimepm_device)) y223 ([] : List Int) m1_0.now) (wi (m1_1 + 1)))) else (some (.nxt (runtimepm_Manager.mk m1_0.devices m1_0.links ([] : List Int) m1_0.now)))
def runtimepm_New.l0 (p0 : List api_IdleDevice) : Nat → runtimepm_Manager → Int → Option (Fl ((Option runtimepm_Manager) × Int) (runtimepm_Manager))
  | 0, _, _ => none
  | k44 + 1, m0_0, m0_1 => if decide (m0_1 < (p0.length : Int)) = true then (((idx p0 m0_1).bind fun x56 => if ((decide (x56.Parent < (-1))) || (decide (1048576 < x56.Delay))) = true then (some (.out (.out ((none : Option runtimepm_Manager), 1)))) else ((runtimepm_suppliers.f x56).bind fun r94 => (idx m0_0.devices m0_1).bind fun x100 => (idx (upd m0_0.devices m0_1 ({ x100 with delay := x56.Delay } : runtimepm_device)) m0_1).bind fun x110 => (idx (upd (upd m0_0.devices m0_1 ({ x100 with delay := x56.Delay } : runtimepm_device)) m0_1 ({ x110 with suppliers := r94 } : runtimepm_device)) m0_1).bind fun x163 => runtimepm_New.l1 p0 m0_1 x163 FUEL (runtimepm_Manager.mk (upd (upd m0_0.devices m0_1 ({ x100 with delay := x56.Delay } : runtimepm_device)) m0_1 ({ x110 with suppliers := r94 } : runtimepm_device)) m0_0.links ([] : List Int) m0_0.now) 0) : Option (Fl (Fl ((Option runtimepm_Manager) × Int) (runtimepm_Manager)) (runtimepm_Manager))).bind fun o53 => o53.go fun v52 => runtimepm_New.l0 p0 k44 (runtimepm_Manager.mk v52.devices v52.links ([] : List Int) v52.now) (wi (m0_1 + 1))) else (some (.nxt (runtimepm_Manager.mk m0_0.devices m0_0.links ([] : List Int) m0_0.now)))
def runtimepm_New.f (p0 : List api_IdleDevice) : Option ((Option runtimepm_Manager) × Int) := if decide (64 < (p0.length : Int)) = true then (some ((none : Option runtimepm_Manager), 1)) else ((mk (p0.length : Int) (runtimepm_device.mk 0 ([] : List Int) ([] : List Int) false 0 0)).bind fun y12 => (runtimepm_New.l0 p0 FUEL (runtimepm_Manager.mk y12 ([] : List api_Link) ([] : List Int) 0) 0 : Option (Fl ((Option runtimepm_Manager) × Int) (runtimepm_Manager))).bind fun o34 => o34.go fun v33 => (depgraph_Order.f (p0.length : Int) v33.links).bind fun r309 => if (r309.2 != 0) = true then (some ((none : Option runtimepm_Manager), r309.2)) else (some ((some (runtimepm_Manager.mk v33.devices v33.links r309.1 v33.now)), 0)))
set_option maxRecDepth 100000 in
set_option maxHeartbeats 4000000 in
theorem runtimepm_New.calls {p0 : List api_IdleDevice} {A0 : Option Addr} {cap0 : Nat} {C0 : Nat → Prop} {w : World} {g : Nat → Nat} {out : (Option runtimepm_Manager) × Int} (N : Nat) (r0 : Nat) (hp0 : RdS kd_api_IdleDevice w g C0 A0 cap0 p0) (hC0 : ∀ c, C0 c → c < N) (hr0 : r0 + 7 ≤ N) (H : runtimepm_New.f p0 = some out) :
    Calls Try.prog 19 #[.slice A0 p0.length cap0] w (fun e w' => ∃ v, e = .returned v ∧ ∃ (g' : Nat → Nat) (p_r0 : Option Addr), v = .tuple #[.pointer p_r0, .int .i64 out.2] ∧ runtimepm_Manager_Opt w' g' r0 p_r0 out.1 ∧ Fr (fun q => (r0 ≤ q ∧ q < r0 + 7) ∨ N ≤ q) w g w' g') := by
  unfold runtimepm_New.f at H
  refine calls_enter Try.func19 rfl Try.ntmps19 rfl (fun a hS => ?_)
  replace hS : Sl 122 a [(0, .slice A0 p0.length cap0)] := hS
  have hF : Fr (fun q => (r0 ≤ q ∧ q < r0 + 7) ∨ N ≤ q) w g w g := Fr.refl _ _ _
  refine c_pure [(0, .slice A0 p0.length cap0)] (fun R hR => st_val hS rfl rfl rfl (r_assign hS rfl rfl) fun a1 hS1 => st_val hS1 rfl rfl rfl (r_assign hS1 rfl rfl) fun a2 hS2 => wpList_nil (hR _ (hS2.re ⟨rfl, trivial⟩))) ?_
  clear hS
  clear a
  intro a hS
  refine c_pure [(0, .slice A0 p0.length cap0), (4, .int .i64 (p0.length : Int))] (fun R hR => st_val hS rfl rfl rfl (r_move hS rfl rfl) fun a3 hS3 => st_val hS3 rfl rfl rfl (r_len (e := 30) (sz := 3) (by_ := 40) hS3 rfl rfl (by kernel_rfl)) fun a4 hS4 => st_val hS4 rfl rfl rfl (r_assign hS4 rfl rfl) fun a5 hS5 => wpList_nil (hR _ (hS5.re ⟨rfl, rfl, trivial⟩))) ?_
  clear hS
  clear a
  intro a hS
  refine wp_seq ?_
  refine c_pure [(0, .slice A0 p0.length cap0), (4, .int .i64 (p0.length : Int)), (15, .bool (decide (64 < (p0.length : Int))))] (fun R hR => st_val hS rfl rfl rfl (r_move hS rfl rfl) fun a6 hS6 => st_val hS6 rfl rfl rfl (r_bin hS6 rfl rfl rfl b_gtr) fun a7 hS7 => wpList_nil (hR _ (hS7.re ⟨rfl, rfl, rfl, trivial⟩))) ?_
  clear hS
  clear a
  intro a hS
  refine c_cond hS rfl (fun hb8 => ?_) (fun hb8 => ?_)
  · replace H := ite_t hb8 H
    refine c_pure [(2, .pointer none), (3, .int .i64 1)] (fun R hR => st_val hS rfl rfl rfl (r_assign hS rfl rfl) fun a9 hS9 => st_val hS9 rfl rfl rfl (r_assign hS9 rfl rfl) fun a10 hS10 => wpList_nil (hR _ (hS10.re ⟨rfl, rfl, trivial⟩))) ?_
    clear hS
    clear a
    intro a hS
    refine wp_ret ?_
    have e := Option.some.inj H
    subst e
    repeat (with_reducible first | refine then_ret ?_ | refine inBlock_ret ?_)
    exact c_ret2 hS Try.results19 rfl rfl ⟨_, rfl, g, none, rfl, rfl, hF⟩
  · replace H := ite_f hb8 H
    refine wp_skip ?_
    change Code.wp _ _ _ _ _
    obtain ⟨y12, hy13, H⟩ := bind_el H
    refine c_region (fun K hK => ?_)
    refine st_val hS rfl rfl rfl (r_move hS rfl rfl) fun a11 hS11 => ?_
    refine st_eff hS11 rfl rfl rfl (e_makeN kz_runtimepm_device (kint .i64) (fun x => x.consumers) (e := 88) (sz := 6) (by_ := 80) (E := 3) (z := [.int .u64 0, .slice none 0 0, .slice none 0 0, .bool false, .int .i64 0, .int .u64 0]) (N + 0) g hS11 rfl rfl (by kernel_rfl) (by kernel_rfl) rfl rfl rfl (fun w g C => ⟨none, 0, rfl, RdS.nil _ _ _ _⟩) rfl hy13) ?_
    rintro _ a19 w20 g20 ⟨⟨A14, cap15, hs16, rfl, h17⟩, F20⟩ hS19
    replace hp0 := RdS.fr hp0 F20 (by decide) (fun _ _ h => h)
    replace hF := hF.trans F20 (fun _ h => h.elim)
    refine st_val hS19 rfl rfl rfl (r_build (parts := [(0, .slice A14 y12.length cap15)]) (u := .agg #[.slice A14 y12.length cap15, .slice none 0 0, .slice none 0 0, .int .u64 0]) hS19 rfl rfl (fun _ => by kernel_rfl)) fun a21 hS21 => ?_
    refine st_eff hS21 rfl rfl rfl (e_box (cs := [.slice A14 y12.length cap15, .slice none 0 0, .slice none 0 0, .int .u64 0]) (N + 4) g20 hS21 rfl rfl rfl) ?_
    rintro _ a25 w26 g26 ⟨⟨b22, rfl, h23⟩, F26⟩ hS25
    replace h17 := OwN.fr h17 F26 (fun h => h) (fun h => h) (fun h => h) (fun h => h)
    replace hp0 := RdS.fr hp0 F26 (by decide) (fun _ _ h => h)
    replace hF := hF.trans F26 (fun _ h => h.elim)
    refine st_val hS25 rfl rfl rfl (r_assign hS25 rfl rfl) fun a27 hS27 => wpList_nil (hK _ _ ?_)
    replace hS : Sl 122 _ [(0, .slice A0 p0.length cap0), (4, .int .i64 (p0.length : Int)), (5, .pointer (some ⟨b22, 0, none⟩))] := hS27.re ⟨rfl, rfl, rfl, trivial⟩
    clear hK K
    try clear hS11 hS19 hS21 hS25 hS27
    obtain ⟨a, ha⟩ : ∃ a', a' = a27 := ⟨_, rfl⟩
    rw [← ha] at hS ⊢; clear ha
    obtain ⟨o34, H, Hl35⟩ := bind_el H
    refine c_cut (fun a w28 => ∃ (v33 : runtimepm_Manager), ∃ (g28 : Nat → Nat), ∃ (hs29 : List (Option Addr × Nat)), ∃ (A30 : Option Addr), ∃ (cap31 : Nat), o34 = .nxt v33 ∧ Sl 122 a [(4, .int .i64 (p0.length : Int)), (5, .pointer (some ⟨b22, 0, none⟩))] ∧ OwN kz_runtimepm_device (kint .i64) (fun x => x.consumers) 88 3 w28 g28 (N + 0) A14 cap15 hs29 v33.devices (fun _ => False) ∧ Bx w28 g28 (N + 4) b22 85 [.slice A14 v33.devices.length cap15, .slice A30 v33.links.length cap31, .slice none 0 0, .int .u64 v33.now] ∧ OwS kd_api_Link 67 w28 g28 (N + 17) A30 cap31 v33.links ∧ Fr (fun q => (r0 ≤ q ∧ q < r0 + 7) ∨ N ≤ q) w g w28 g28) ?_ ?_
    · refine c_pure [(4, .int .i64 (p0.length : Int)), (5, .pointer (some ⟨b22, 0, none⟩)), (20, .slice A0 p0.length cap0), (21, .int .i64 (p0.length : Int)), (22, .int .i64 0)] (fun R hR => st_val hS rfl rfl rfl (r_move hS rfl rfl) fun a36 hS36 => st_val hS36 rfl rfl rfl (r_len (e := 30) (sz := 3) (by_ := 40) hS36 rfl rfl (by kernel_rfl)) fun a37 hS37 => st_val hS37 rfl rfl rfl (r_move hS37 rfl rfl) fun a38 hS38 => wpList_nil (hR _ (hS38.re ⟨rfl, rfl, rfl, rfl, rfl, trivial⟩))) ?_
      clear hS
      clear a
      intro a hS
      refine wp_block ?_
      refine wp_loop_ghost (fun kq => fun a w39 => ∃ (m0_0 : runtimepm_Manager), ∃ (m0_1 : Int), ∃ (g39 : Nat → Nat), ∃ (hs40 : List (Option Addr × Nat)), ∃ (A41 : Option Addr), ∃ (cap42 : Nat), runtimepm_New.l0 p0 kq m0_0 m0_1 = some o34 ∧ Sl 122 a [(4, .int .i64 (p0.length : Int)), (5, .pointer (some ⟨b22, 0, none⟩)), (20, .slice A0 p0.length cap0), (21, .int .i64 (p0.length : Int)), (22, .int .i64 m0_1)] ∧ OwN kz_runtimepm_device (kint .i64) (fun x => x.consumers) 88 3 w39 g39 (N + 0) A14 cap15 hs40 m0_0.devices (fun _ => False) ∧ Bx w39 g39 (N + 4) b22 85 [.slice A14 m0_0.devices.length cap15, .slice A41 m0_0.links.length cap42, .slice none 0 0, .int .u64 m0_0.now] ∧ OwS kd_api_Link 67 w39 g39 (N + 17) A41 cap42 m0_0.links ∧ RdS kd_api_IdleDevice w39 g39 C0 A0 cap0 p0 ∧ Fr (fun q => (r0 ≤ q ∧ q < r0 + 7) ∨ N ≤ q) w g w39 g39) FUEL ?_ ?_
      · exact ⟨(runtimepm_Manager.mk y12 ([] : List api_Link) ([] : List Int) 0), 0, g26, hs16, none, 0, H, hS.re ⟨rfl, rfl, rfl, rfl, rfl, trivial⟩, h17, h23, OwS.nil kd_api_Link 67 w26 g26 (N + 17), hp0, hF⟩
      · clear H
        clear hp0 h17 h23 hF
        clear hS
        rintro k44 a w39 ⟨m0_0, m0_1, g39, hs40, A41, cap42, hpre0, hS, h17, h23, h43, hp0, hF⟩
        have H := hpre0
        clear hpre0
        cases k44 with
        | zero => exact absurd H (by simp [runtimepm_New.l0])
        | succ k44 =>
          rw [runtimepm_New.l0] at H
          refine c_pure [(4, .int .i64 (p0.length : Int)), (5, .pointer (some ⟨b22, 0, none⟩)), (20, .slice A0 p0.length cap0), (21, .int .i64 (p0.length : Int)), (22, .int .i64 m0_1), (23, .bool (decide (m0_1 < (p0.length : Int))))] (fun R hR => st_val hS rfl rfl rfl (r_bin hS rfl rfl rfl b_lss) fun a45 hS45 => wpList_nil (hR _ (hS45.re ⟨rfl, rfl, rfl, rfl, rfl, rfl, trivial⟩))) ?_
          clear hS
          clear a
          intro a hS
          refine c_if hS rfl (fun hb46 => ?_) (fun hb46 => ?_)
          · replace H := ite_t hb46 H
            refine wp_skip ?_
            change Code.wp _ _ _ _ _
            obtain ⟨o53, H, Hl54⟩ := bind_el H
            refine c_cut (fun a w47 => ∃ (v52 : runtimepm_Manager), ∃ (g47 : Nat → Nat), ∃ (hs48 : List (Option Addr × Nat)), ∃ (A49 : Option Addr), ∃ (cap50 : Nat), o53 = .nxt v52 ∧ Sl 122 a [(4, .int .i64 (p0.length : Int)), (5, .pointer (some ⟨b22, 0, none⟩)), (20, .slice A0 p0.length cap0), (21, .int .i64 (p0.length : Int)), (22, .int .i64 m0_1)] ∧ OwN kz_runtimepm_device (kint .i64) (fun x => x.consumers) 88 3 w47 g47 (N + 0) A14 cap15 hs48 v52.devices (fun _ => False) ∧ Bx w47 g47 (N + 4) b22 85 [.slice A14 v52.devices.length cap15, .slice A49 v52.links.length cap50, .slice none 0 0, .int .u64 v52.now] ∧ OwS kd_api_Link 67 w47 g47 (N + 17) A49 cap50 v52.links ∧ RdS kd_api_IdleDevice w47 g47 C0 A0 cap0 p0 ∧ Fr (fun q => (r0 ≤ q ∧ q < r0 + 7) ∨ N ≤ q) w g w47 g47) ?_ ?_
            · refine wp_block ?_
              obtain ⟨x56, hx57, H⟩ := bind_el H
              refine c_region (fun K hK => ?_)
              refine st_val hS rfl rfl rfl (r_move hS rfl rfl) fun a55 hS55 => ?_
              obtain ⟨_, ⟨A59, cap60, rfl, h61⟩, hel58⟩ := El.of hp0 hx57 (by decide)
              replace hel58 : El w39 g39 C0 A0 (m0_1.toNat * 3) [.int .i64 x56.Parent, .slice A59 x56.Suppliers.length cap60, .int .u64 x56.Delay] := hel58
              refine st_val hS55 rfl rfl rfl (r_index (e := 30) (sz := 3) (by_ := 40) hS55 rfl rfl rfl (by kernel_rfl) (RdS.some_ hp0 hx57) (idx_lo hx57) (idx_hi hx57)) fun a64 hS64 => st_val hS64 rfl rfl rfl (r_loadN (n := 3) (cs := [.int .i64 x56.Parent, .slice A59 x56.Suppliers.length cap60, .int .u64 x56.Delay]) hS64 rfl rfl (by kernel_rfl) rfl (El.cells_off hel58 0 3)) fun a65 hS65 => ?_
              refine st_eff hS65 rfl rfl rfl (e_alloc (cs := [.int .i64 0, .slice none 0 0, .int .u64 0]) (N + 11) g39 hS65 rfl (by kernel_rfl)) ?_
              rintro _ a69 w70 g70 ⟨⟨b66, rfl, h67⟩, F70⟩ hS69
              replace h17 := OwN.fr h17 F70 (fun h => h) (fun h => h) (fun h => h) (fun h => h)
              replace h23 := h23.fr F70 (fun h => h)
              replace h61 := RdS.fr h61 F70 (by decide) (fun _ _ h => h)
              replace hel58 := hel58.fr F70 (fun _ _ h => h)
              replace h43 := OwS.fr h43 F70 (fun _ _ h => h)
              replace hp0 := RdS.fr hp0 F70 (by decide) (fun _ _ h => h)
              replace hF := hF.trans F70 (fun _ h => h.elim)
              refine st_val hS69 rfl rfl rfl (r_assign hS69 rfl rfl) fun a71 hS71 => ?_
              refine st_effS hS71 rfl rfl (e_storeB (n := 3) (bb := true) (cs' := [.int .i64 x56.Parent, .slice A59 x56.Suppliers.length cap60, .int .u64 x56.Delay]) g70 hS71 rfl rfl rfl (by kernel_rfl) rfl rfl rfl h67 rfl rfl) ?_
              rintro a72 w73 g73 ⟨h67, F73⟩ hS72
              replace h17 := OwN.fr h17 F73 (fun (hm : N + 0 = N + 11) => by omega) (fun (hm : N + 0 + 1 = N + 11) => by omega) (fun (hm : N + 0 + 2 = N + 11) => by omega) (fun (hm : N + 0 + 3 = N + 11) => by omega)
              replace h23 := h23.fr F73 (fun (hm : N + 4 = N + 11) => by omega)
              replace h61 := RdS.fr h61 F73 (by decide) (fun q (hq : C0 q) (hm : q = N + 11) => by have := hC0 q hq; omega)
              replace hel58 := hel58.fr F73 (fun q (hq : C0 q) (hm : q = N + 11) => by have := hC0 q hq; omega)
              replace h43 := OwS.fr h43 F73 (fun c' hc (hm : c' = N + 11) => by omega)
              replace hp0 := RdS.fr hp0 F73 (by decide) (fun q (hq : C0 q) (hm : q = N + 11) => by have := hC0 q hq; omega)
              replace hF := hF.trans F73 (fun c' (hm : c' = N + 11) => by show (r0 ≤ c' ∧ c' < r0 + 7) ∨ N ≤ c'; omega)
              refine wpList_nil (hK _ _ ?_)
              replace hS : Sl 122 _ [(4, .int .i64 (p0.length : Int)), (5, .pointer (some ⟨b22, 0, none⟩)), (6, .int .i64 m0_1), (7, .pointer (some ⟨b66, 0, none⟩)), (20, .slice A0 p0.length cap0), (21, .int .i64 (p0.length : Int)), (22, .int .i64 m0_1)] := hS72.re ⟨rfl, rfl, rfl, rfl, rfl, rfl, rfl, trivial⟩
              clear hK K
              try clear hS55 hS64 hS65 hS69 hS71 hS72
              obtain ⟨a, ha⟩ : ∃ a', a' = a72 := ⟨_, rfl⟩
              rw [← ha] at hS ⊢; clear ha
              refine wp_seq ?_
              refine c_region (fun K hK => ?_)
              refine st_val hS rfl rfl rfl (r_fieldB (off := 0) hS rfl rfl (by kernel_rfl)) fun a74 hS74 => st_val hS74 rfl rfl rfl (r_load1 (n := 1) hS74 rfl rfl (by kernel_rfl) (Bx.cell h67 rfl)) fun a75 hS75 => st_val hS75 rfl rfl rfl (r_bin hS75 rfl rfl rfl b_lss) fun a76 hS76 => st_val hS76 rfl rfl rfl (r_move hS76 rfl rfl) fun a77 hS77 => ?_
              refine g_join (N := 122) 4 [(4, .int .i64 (p0.length : Int)), (5, .pointer (some ⟨b22, 0, none⟩)), (6, .int .i64 m0_1), (7, .pointer (some ⟨b66, 0, none⟩)), (20, .slice A0 p0.length cap0), (21, .int .i64 (p0.length : Int)), (22, .int .i64 m0_1), (34, .bool ((decide (x56.Parent < (-1))) || (decide (1048576 < x56.Delay))))] ?_ (fun hk => ?_)
              rotate_left
              · rcases Bool.eq_false_or_eq_true (decide (x56.Parent < (-1))) with hb78 | hb78
                · refine st_off hS77 (want_off hS77 rfl rfl rfl hb78) rfl rfl fun a82 hS82 => st_off hS82 (want_off hS82 rfl rfl rfl hb78) rfl rfl fun a83 hS83 => st_off hS83 (want_off hS83 rfl rfl rfl hb78) rfl rfl fun a84 hS84 => st_val hS84 rfl rfl rfl (r_pickT hS84 rfl rfl rfl hb78) fun a85 hS85 => hk _ (hS85.re ⟨rfl, rfl, rfl, rfl, rfl, rfl, rfl, (by rw [hb78]; rfl), trivial⟩)
                · refine st_valW hS77 (want_on hS77 rfl rfl rfl hb78) rfl rfl (r_fieldB (off := 2) hS77 rfl rfl (by kernel_rfl)) fun a86 hS86 => st_valW hS86 (want_on hS86 rfl rfl rfl hb78) rfl rfl (r_load1 (n := 1) hS86 rfl rfl (by kernel_rfl) (Bx.cell h67 rfl)) fun a87 hS87 => st_valW hS87 (want_on hS87 rfl rfl rfl hb78) rfl rfl (r_bin hS87 rfl rfl rfl b_gtr) fun a88 hS88 => st_val hS88 rfl rfl rfl (r_pickF hS88 rfl rfl rfl hb78) fun a89 hS89 => hk _ (hS89.re ⟨rfl, rfl, rfl, rfl, rfl, rfl, rfl, (by rw [hb78]; rfl), trivial⟩)
              intro a90 hS90
              refine wpList_nil (hK _ _ ?_)
              replace hS : Sl 122 _ [(4, .int .i64 (p0.length : Int)), (5, .pointer (some ⟨b22, 0, none⟩)), (6, .int .i64 m0_1), (7, .pointer (some ⟨b66, 0, none⟩)), (20, .slice A0 p0.length cap0), (21, .int .i64 (p0.length : Int)), (22, .int .i64 m0_1), (34, .bool ((decide (x56.Parent < (-1))) || (decide (1048576 < x56.Delay))))] := hS90.re ⟨rfl, rfl, rfl, rfl, rfl, rfl, rfl, rfl, trivial⟩
              clear hK K
              try clear hS74 hS75 hS76 hS77 hS90
              obtain ⟨a, ha⟩ : ∃ a', a' = a90 := ⟨_, rfl⟩
              rw [← ha] at hS ⊢; clear ha
              refine c_cond hS rfl (fun hb91 => ?_) (fun hb91 => ?_)
              · replace H := ite_t hb91 H
                refine c_pure [(2, .pointer none), (3, .int .i64 1)] (fun R hR => st_val hS rfl rfl rfl (r_assign hS rfl rfl) fun a92 hS92 => st_val hS92 rfl rfl rfl (r_assign hS92 rfl rfl) fun a93 hS93 => wpList_nil (hR _ (hS93.re ⟨rfl, rfl, trivial⟩))) ?_
                clear hS
                clear a
                intro a hS
                refine wp_ret ?_
                have e := Option.some.inj H
                subst e
                replace H := Fl.go_out Hl54
                have e := Option.some.inj H
                subst e
                replace H := Fl.go_out Hl35
                have e := Option.some.inj H
                subst e
                repeat (with_reducible first | refine then_ret ?_ | refine inBlock_ret ?_)
                exact c_ret2 hS Try.results19 rfl rfl ⟨_, rfl, g73, none, rfl, rfl, hF⟩
              · replace H := ite_f hb91 H
                refine wp_skip ?_
                change Code.wp _ _ _ _ _
                obtain ⟨r94, hr95, H⟩ := bind_el H
                obtain ⟨x100, hx101, H⟩ := bind_el H
                obtain ⟨h102, hh103⟩ := OwN.hd h17 hx101
                obtain ⟨x110, hx111, H⟩ := bind_el H
                refine c_draw (fun K hK => d_start (fun q => N + 25 ≤ q ∨ (N + 13 ≤ q ∧ q < N + 13 + 2)) g73 [16, 19] 20 #[false, false, false, false, false, false, false, false, false, false, false, false, false, false, false, false, false, false, false, false] (by kernel_rfl) rfl rfl (fun w118 hw118 => ?_))
                have F118 : Fr (fun _ => False) w73 g73 w118 g73 := by rw [hw118]; exact Fr.drew _ _ _
                replace h17 := OwN.fr h17 F118 (fun h => h) (fun h => h) (fun h => h) (fun h => h)
                replace h23 := h23.fr F118 (fun h => h)
                replace h61 := RdS.fr h61 F118 (by decide) (fun _ _ h => h)
                replace h67 := h67.fr F118 (fun h => h)
                replace h43 := OwS.fr h43 F118 (fun _ _ h => h)
                replace hp0 := RdS.fr hp0 F118 (by decide) (fun _ _ h => h)
                replace hF := hF.trans F118 (fun _ h => h.elim)
                have hC : Fr (fun q => N + 25 ≤ q ∨ (N + 13 ≤ q ∧ q < N + 13 + 2)) w118 g73 w118 g73 := Fr.refl _ _ _
                refine d_pure hS 0 #[true, false, false, false, false, false, false, false, false, false, false, false, false, false, false, false, false, false, false, false] rfl rfl rfl rfl (by kernel_rfl) (fun _ _ _ h => h) (fun _ => (r_move hS rfl rfl)) fun a119 hS119 => d_pure hS119 1 #[true, true, false, false, false, false, false, false, false, false, false, false, false, false, false, false, false, false, false, false] rfl rfl rfl rfl (by kernel_rfl) (fun _ _ _ h => h) (fun _ => (r_nil hS119 rfl rfl)) fun a120 hS120 => d_pure hS120 2 #[true, true, true, false, false, false, false, false, false, false, false, false, false, false, false, false, false, false, false, false] rfl rfl rfl rfl (by kernel_rfl) (fun _ _ _ h => h) (fun _ => (r_fieldB (off := 0) hS120 rfl rfl (by kernel_rfl))) fun a121 hS121 => d_take hS121 3 #[true, true, true, true, false, false, false, false, false, false, false, false, false, false, false, false, false, false, false, false] rfl rfl rfl rfl (by kernel_rfl) (fun _ _ _ h => h) ⟨_, hC⟩ (fun w' g' Fz => (r_load1 (n := 1) hS121 rfl rfl (by kernel_rfl) (Bx.cell (h23.fr Fz (fun (hm : N + 25 ≤ N + 4 ∨ (N + 13 ≤ N + 4 ∧ N + 4 < N + 13 + 2)) => by omega)) rfl))) fun a122 hS122 => d_pure hS122 4 #[true, true, true, true, true, false, false, false, false, false, false, false, false, false, false, false, false, false, false, false] rfl rfl rfl rfl (by kernel_rfl) (fun _ _ _ h => h) (fun _ => (r_move hS122 rfl rfl)) fun a123 hS123 => d_pure hS123 5 #[true, true, true, true, true, true, false, false, false, false, false, false, false, false, false, false, false, false, false, false] rfl rfl rfl rfl (by kernel_rfl) (fun _ _ _ h => h) (fun _ => (r_move hS123 rfl rfl)) fun a124 hS124 => d_pure hS124 6 #[true, true, true, true, true, true, true, false, false, false, false, false, false, false, false, false, false, false, false, false] rfl rfl rfl rfl (by kernel_rfl) (fun _ _ _ h => h) (fun _ => (r_nil hS124 rfl rfl)) fun a125 hS125 => d_pure hS125 7 #[true, true, true, true, true, true, true, true, false, false, false, false, false, false, false, false, false, false, false, false] rfl rfl rfl rfl (by kernel_rfl) (fun _ _ _ h => h) (fun _ => (r_fieldB (off := 0) hS125 rfl rfl (by kernel_rfl))) fun a126 hS126 => d_take hS126 8 #[true, true, true, true, true, true, true, true, true, false, false, false, false, false, false, false, false, false, false, false] rfl rfl rfl rfl (by kernel_rfl) (fun _ _ _ h => h) ⟨_, hC⟩ (fun w' g' Fz => (r_load1 (n := 1) hS126 rfl rfl (by kernel_rfl) (Bx.cell (h23.fr Fz (fun (hm : N + 25 ≤ N + 4 ∨ (N + 13 ≤ N + 4 ∧ N + 4 < N + 13 + 2)) => by omega)) rfl))) fun a127 hS127 => d_pure hS127 9 #[true, true, true, true, true, true, true, true, true, true, false, false, false, false, false, false, false, false, false, false] rfl rfl rfl rfl (by kernel_rfl) (fun _ _ _ h => h) (fun _ => (r_move hS127 rfl rfl)) fun a128 hS128 => d_pure hS128 10 #[true, true, true, true, true, true, true, true, true, true, true, false, false, false, false, false, false, false, false, false] rfl rfl rfl rfl (by kernel_rfl) (fun _ _ _ h => h) (fun _ => (r_fieldB (off := 2) hS128 rfl rfl (by kernel_rfl))) fun a129 hS129 => d_take hS129 11 #[true, true, true, true, true, true, true, true, true, true, true, true, false, false, false, false, false, false, false, false] rfl rfl rfl rfl (by kernel_rfl) (fun _ _ _ h => h) ⟨_, hC⟩ (fun w' g' Fz => (r_load1 (n := 1) hS129 rfl rfl (by kernel_rfl) (Bx.cell (h67.fr Fz (fun (hm : N + 25 ≤ N + 11 ∨ (N + 13 ≤ N + 11 ∧ N + 11 < N + 13 + 2)) => by omega)) rfl))) fun a130 hS130 => d_take hS130 12 #[true, true, true, true, true, true, true, true, true, true, true, true, true, false, false, false, false, false, false, false] rfl rfl rfl rfl (by kernel_rfl) (fun _ _ _ h => h) ⟨_, hC⟩ (fun w' g' Fz => (r_loadN (n := 3) (cs := [.int .i64 x56.Parent, .slice A59 x56.Suppliers.length cap60, .int .u64 x56.Delay]) hS130 rfl rfl (by kernel_rfl) rfl (Bx.cells_off (h67.fr Fz (fun (hm : N + 25 ≤ N + 11 ∨ (N + 13 ≤ N + 11 ∧ N + 11 < N + 13 + 2)) => by omega)) 0 3))) fun a131 hS131 => ?_
                refine d_one 13 #[true, true, true, true, true, true, true, true, true, true, true, true, true, true, false, false, false, false, false, false] rfl (by kernel_rfl) (arm_call hS131 rfl rfl rfl (r_call hS131 rfl rfl (by kernel_rfl)) (runtimepm_suppliers.calls (C0 := C0) (p0 := x56) (g := g73) (N + 25) (N + 13) h61 (fun q (hq : C0 q) => by have := hC0 q hq; omega) (by omega) hr95) (fun _ _ ⟨g', _, _, _, _, Fz⟩ _ => ⟨g', hC.trans Fz (fun c' (hm : (N + 13 ≤ c' ∧ c' < N + 13 + 2) ∨ N + 25 ≤ c') => by show N + 25 ≤ c' ∨ (N + 13 ≤ c' ∧ c' < N + 13 + 2); omega)⟩) ?_)
                rintro _ a136 w137 ⟨g137, A132, cap133, rfl, h134, F137⟩ hS136
                have hC137 := hC.trans F137 (fun c' (hm : (N + 13 ≤ c' ∧ c' < N + 13 + 2) ∨ N + 25 ≤ c') => by show N + 25 ≤ c' ∨ (N + 13 ≤ c' ∧ c' < N + 13 + 2); omega)
                replace h17 := OwN.fr h17 F137 (fun (hm : (N + 13 ≤ N + 0 ∧ N + 0 < N + 13 + 2) ∨ N + 25 ≤ N + 0) => by omega) (fun (hm : (N + 13 ≤ N + 0 + 1 ∧ N + 0 + 1 < N + 13 + 2) ∨ N + 25 ≤ N + 0 + 1) => by omega) (fun (hm : (N + 13 ≤ N + 0 + 2 ∧ N + 0 + 2 < N + 13 + 2) ∨ N + 25 ≤ N + 0 + 2) => by omega) (fun (hm : (N + 13 ≤ N + 0 + 3 ∧ N + 0 + 3 < N + 13 + 2) ∨ N + 25 ≤ N + 0 + 3) => by omega)
                replace h23 := h23.fr F137 (fun (hm : (N + 13 ≤ N + 4 ∧ N + 4 < N + 13 + 2) ∨ N + 25 ≤ N + 4) => by omega)
                replace h61 := RdS.fr h61 F137 (by decide) (fun q (hq : C0 q) (hm : (N + 13 ≤ q ∧ q < N + 13 + 2) ∨ N + 25 ≤ q) => by have := hC0 q hq; omega)
                replace h67 := h67.fr F137 (fun (hm : (N + 13 ≤ N + 11 ∧ N + 11 < N + 13 + 2) ∨ N + 25 ≤ N + 11) => by omega)
                replace h43 := OwS.fr h43 F137 (fun c' hc (hm : (N + 13 ≤ c' ∧ c' < N + 13 + 2) ∨ N + 25 ≤ c') => by omega)
                replace hp0 := RdS.fr hp0 F137 (by decide) (fun q (hq : C0 q) (hm : (N + 13 ≤ q ∧ q < N + 13 + 2) ∨ N + 25 ≤ q) => by have := hC0 q hq; omega)
                replace hF := hF.trans F137 (fun c' (hm : (N + 13 ≤ c' ∧ c' < N + 13 + 2) ∨ N + 25 ≤ c') => by show (r0 ≤ c' ∧ c' < r0 + 7) ∨ N ≤ c'; omega)
                obtain ⟨_, ⟨A139, cap140, rfl, h141⟩, hel138⟩ := OwN.el h17 hx101 hh103 (by decide)
                replace hel138 : El w137 g137 (fun q => q = N + 0) A14 (m0_1.toNat * 6) [.int .u64 x100.delay, .slice A139 x100.suppliers.length cap140, .slice h102.1 x100.consumers.length h102.2, .bool x100.active, .int .i64 x100.count, .int .u64 x100.idle] := hel138
                refine d_pure hS136 14 #[true, true, true, true, true, true, true, true, true, true, true, true, true, true, true, false, false, false, false, false] rfl rfl rfl rfl (by kernel_rfl) (fun _ _ _ h => h) (fun _ => (r_index (e := 88) (sz := 6) (by_ := 80) hS136 rfl rfl rfl (by kernel_rfl) (OwN.some_ h17 hx101) (idx_lo hx101) (idx_hi hx101))) fun a144 hS144 => d_pure hS144 15 #[true, true, true, true, true, true, true, true, true, true, true, true, true, true, true, true, false, false, false, false] rfl rfl rfl rfl (by kernel_rfl) (fun _ _ _ h => h) (fun _ => (r_fieldE (off := 0) hS144 rfl rfl (by kernel_rfl))) fun a145 hS145 => ?_
                refine d_one 16 #[true, true, true, true, true, true, true, true, true, true, true, true, true, true, true, true, true, false, false, false] rfl (by kernel_rfl) (arm_effS hS145 rfl rfl (e_storeN (n := 1) (bb := false) (kz := kz_runtimepm_device) (j := 0) (x' := ({ x100 with delay := x56.Delay } : runtimepm_device)) (us := [.int .u64 x56.Delay]) g137 hS145 rfl rfl rfl rfl (by kernel_rfl) rfl rfl (by intro v hv; simp only [List.mem_cons, List.not_mem_nil, or_false] at hv; rcases hv with rfl <;> rfl) h17 hx101 hh103 rfl rfl (fun cs hR => by obtain ⟨A0, cap0, rfl, h0⟩ := hR; exact ⟨A0, cap0, rfl, h0⟩)) (.inl (by decide)) ?_)
                rintro a146 w147 g147 ⟨h17, F147⟩ hS146
                replace h134 := OwS.fr h134 F147 (fun c' hc (hm : c' = N + 0) => by omega)
                replace h141 := RdS.fr h141 F147 (by decide) (fun q (hq : q = N + 0 + 1) (hm : q = N + 0) => by omega)
                replace h23 := h23.fr F147 (fun (hm : N + 4 = N + 0) => by omega)
                replace h61 := RdS.fr h61 F147 (by decide) (fun q (hq : C0 q) (hm : q = N + 0) => by have := hC0 q hq; omega)
                replace h67 := h67.fr F147 (fun (hm : N + 11 = N + 0) => by omega)
                replace h43 := OwS.fr h43 F147 (fun c' hc (hm : c' = N + 0) => by omega)
                replace hp0 := RdS.fr hp0 F147 (by decide) (fun q (hq : C0 q) (hm : q = N + 0) => by have := hC0 q hq; omega)
                replace hF := hF.trans F147 (fun c' (hm : c' = N + 0) => by show (r0 ≤ c' ∧ c' < r0 + 7) ∨ N ≤ c'; omega)
                replace h23 : Bx w147 g147 (N + 4) b22 85 [.slice A14 (upd m0_0.devices m0_1 ({ x100 with delay := x56.Delay } : runtimepm_device)).length cap15, .slice A41 m0_0.links.length cap42, .slice none 0 0, .int .u64 m0_0.now] := by simpa only [upd_length] using h23
                have hT : Sl 122 a146 [(4, .int .i64 (p0.length : Int)), (5, .pointer (some ⟨b22, 0, none⟩)), (6, .int .i64 m0_1), (20, .slice A0 p0.length cap0), (21, .int .i64 (p0.length : Int)), (22, .int .i64 m0_1), (43, .slice A14 m0_0.devices.length cap15), (44, .int .i64 m0_1), (48, .slice A132 r94.length cap133)] := hS146.re ⟨rfl, rfl, rfl, rfl, rfl, rfl, rfl, rfl, rfl, trivial⟩
                replace hS146 : Sl 122 a146 [(4, .int .i64 (p0.length : Int)), (5, .pointer (some ⟨b22, 0, none⟩)), (6, .int .i64 m0_1), (20, .slice A0 p0.length cap0), (21, .int .i64 (p0.length : Int)), (22, .int .i64 m0_1), (43, .slice A14 (upd m0_0.devices m0_1 ({ x100 with delay := x56.Delay } : runtimepm_device)).length cap15), (44, .int .i64 m0_1), (48, .slice A132 r94.length cap133)] := by simpa only [upd_length] using hT
                clear hT
                obtain ⟨_, ⟨A149, cap150, rfl, h151⟩, hel148⟩ := OwN.el h17 hx111 hh103 (by decide)
                replace hel148 : El w147 g147 (fun q => q = N + 0) A14 (m0_1.toNat * 6) [.int .u64 x110.delay, .slice A149 x110.suppliers.length cap150, .slice h102.1 x110.consumers.length h102.2, .bool x110.active, .int .i64 x110.count, .int .u64 x110.idle] := hel148
                refine d_pure hS146 17 #[true, true, true, true, true, true, true, true, true, true, true, true, true, true, true, true, true, true, false, false] rfl rfl rfl rfl (by kernel_rfl) (fun _ _ _ h => h) (fun _ => (r_index (e := 88) (sz := 6) (by_ := 80) hS146 rfl rfl rfl (by kernel_rfl) (OwN.some_ h17 hx111) (idx_lo hx111) (idx_hi hx111))) fun a154 hS154 => d_pure hS154 18 #[true, true, true, true, true, true, true, true, true, true, true, true, true, true, true, true, true, true, true, false] rfl rfl rfl rfl (by kernel_rfl) (fun _ _ _ h => h) (fun _ => (r_fieldE (off := 1) hS154 rfl rfl (by kernel_rfl))) fun a155 hS155 => ?_
                refine d_one 19 #[true, true, true, true, true, true, true, true, true, true, true, true, true, true, true, true, true, true, true, true] rfl (by kernel_rfl) (arm_effS hS155 rfl rfl (e_storeNS (k := (kint .i64)) (k' := (kint .i64)) (E' := 3) (j := 1) (x' := ({ x110 with suppliers := r94 } : runtimepm_device)) (ys := r94) (fun _ _ _ _ _ _ _ _ h => h) (fun _ _ _ _ _ _ _ _ h => h) (by decide) g147 hS155 rfl rfl rfl rfl (by kernel_rfl) rfl h17 hx111 hh103 rfl h134 (by omega) rfl (fun _ cs hr hR => by obtain ⟨A0, cap0, rfl, h0⟩ := hR; exact ⟨A132, cap133, rfl, hr⟩)) (.inl (by decide)) ?_)
                rintro a156 w157 g157 ⟨h17, F157⟩ hS156
                replace h141 := RdS.fr h141 F157 (by decide) (fun q (hq : q = N + 0 + 1) (hm : q = N + 0 ∨ q = N + 13) => by omega)
                replace h151 := RdS.fr h151 F157 (by decide) (fun q (hq : q = N + 0 + 1) (hm : q = N + 0 ∨ q = N + 13) => by omega)
                replace h23 := h23.fr F157 (fun (hm : N + 4 = N + 0 ∨ N + 4 = N + 13) => by omega)
                replace h61 := RdS.fr h61 F157 (by decide) (fun q (hq : C0 q) (hm : q = N + 0 ∨ q = N + 13) => by have := hC0 q hq; omega)
                replace h67 := h67.fr F157 (fun (hm : N + 11 = N + 0 ∨ N + 11 = N + 13) => by omega)
                replace h43 := OwS.fr h43 F157 (fun c' hc (hm : c' = N + 0 ∨ c' = N + 13) => by omega)
                replace hp0 := RdS.fr hp0 F157 (by decide) (fun q (hq : C0 q) (hm : q = N + 0 ∨ q = N + 13) => by have := hC0 q hq; omega)
                replace hF := hF.trans F157 (fun c' (hm : c' = N + 0 ∨ c' = N + 13) => by show (r0 ≤ c' ∧ c' < r0 + 7) ∨ N ≤ c'; omega)
                replace h23 : Bx w157 g157 (N + 4) b22 85 [.slice A14 (upd (upd m0_0.devices m0_1 ({ x100 with delay := x56.Delay } : runtimepm_device)) m0_1 ({ x110 with suppliers := r94 } : runtimepm_device)).length cap15, .slice A41 m0_0.links.length cap42, .slice none 0 0, .int .u64 m0_0.now] := by simpa only [upd_length] using h23
                refine d_done (by kernel_rfl) (hK _ _ ?_)
                replace hS : Sl 122 _ [(4, .int .i64 (p0.length : Int)), (5, .pointer (some ⟨b22, 0, none⟩)), (6, .int .i64 m0_1), (20, .slice A0 p0.length cap0), (21, .int .i64 (p0.length : Int)), (22, .int .i64 m0_1)] := hS156.re ⟨rfl, rfl, rfl, rfl, rfl, rfl, trivial⟩
                clear hK K hC
                try clear hS119 hS120 hS121 hS122 hS123 hS124 hS125 hS126 hS127 hS128 hS129 hS130 hS131 hS136 hS144 hS145 hS146 hS154 hS155 hS156
                obtain ⟨a, ha⟩ : ∃ a', a' = a156 := ⟨_, rfl⟩
                rw [← ha] at hS ⊢; clear ha
                obtain ⟨x163, hx164, H⟩ := bind_el H
                refine c_region (fun K hK => ?_)
                refine st_val hS rfl rfl rfl (r_move hS rfl rfl) fun a158 hS158 => st_val hS158 rfl rfl rfl (r_nil hS158 rfl rfl) fun a159 hS159 => st_val hS159 rfl rfl rfl (r_fieldB (off := 0) hS159 rfl rfl (by kernel_rfl)) fun a160 hS160 => st_val hS160 rfl rfl rfl (r_load1 (n := 1) hS160 rfl rfl (by kernel_rfl) (Bx.cell h23 rfl)) fun a161 hS161 => st_val hS161 rfl rfl rfl (r_move hS161 rfl rfl) fun a162 hS162 => ?_
                obtain ⟨h165, hh166⟩ := OwN.hd h17 hx164
                obtain ⟨_, ⟨A168, cap169, rfl, h170⟩, hel167⟩ := OwN.el h17 hx164 hh166 (by decide)
                replace hel167 : El w157 g157 (fun q => q = N + 0) A14 (m0_1.toNat * 6) [.int .u64 x163.delay, .slice A168 x163.suppliers.length cap169, .slice h165.1 x163.consumers.length h165.2, .bool x163.active, .int .i64 x163.count, .int .u64 x163.idle] := hel167
                refine st_val hS162 rfl rfl rfl (r_index (e := 88) (sz := 6) (by_ := 80) hS162 rfl rfl rfl (by kernel_rfl) (OwN.some_ h17 hx164) (idx_lo hx164) (idx_hi hx164)) fun a173 hS173 => st_val hS173 rfl rfl rfl (r_fieldE (off := 1) hS173 rfl rfl (by kernel_rfl)) fun a174 hS174 => st_val hS174 rfl rfl rfl (r_load1 (n := 1) hS174 rfl rfl (by kernel_rfl) (El.cell (j := 1) hel167 rfl)) fun a175 hS175 => st_val hS175 rfl rfl rfl (r_len (e := 3) (sz := 1) (by_ := 8) hS175 rfl rfl (by kernel_rfl)) fun a176 hS176 => st_val hS176 rfl rfl rfl (r_move hS176 rfl rfl) fun a177 hS177 => wpList_nil (hK _ _ ?_)
                replace hS : Sl 122 _ [(4, .int .i64 (p0.length : Int)), (5, .pointer (some ⟨b22, 0, none⟩)), (6, .int .i64 m0_1), (20, .slice A0 p0.length cap0), (21, .int .i64 (p0.length : Int)), (22, .int .i64 m0_1), (60, .slice A168 x163.suppliers.length cap169), (61, .int .i64 (x163.suppliers.length : Int)), (62, .int .i64 0)] := hS177.re ⟨rfl, rfl, rfl, rfl, rfl, rfl, rfl, rfl, rfl, trivial⟩
                clear hK K
                try clear hS158 hS159 hS160 hS161 hS162 hS173 hS174 hS175 hS176 hS177
                obtain ⟨a, ha⟩ : ∃ a', a' = a177 := ⟨_, rfl⟩
                rw [← ha] at hS ⊢; clear ha
                refine wp_block ?_
                refine wp_loop_ghost (fun kq => fun a w178 => ∃ (m1_0 : runtimepm_Manager), ∃ (m1_1 : Int), ∃ (g178 : Nat → Nat), ∃ (hs179 : List (Option Addr × Nat)), ∃ (A180 : Option Addr), ∃ (cap181 : Nat), runtimepm_New.l1 p0 m0_1 x163 kq m1_0 m1_1 = some o53 ∧ Sl 122 a [(4, .int .i64 (p0.length : Int)), (5, .pointer (some ⟨b22, 0, none⟩)), (6, .int .i64 m0_1), (20, .slice A0 p0.length cap0), (21, .int .i64 (p0.length : Int)), (22, .int .i64 m0_1), (60, .slice A168 x163.suppliers.length cap169), (61, .int .i64 (x163.suppliers.length : Int)), (62, .int .i64 m1_1)] ∧ RdS (kint .i64) w178 g178 (fun q => q = N + 0 + 1) A168 cap169 x163.suppliers ∧ OwN kz_runtimepm_device (kint .i64) (fun x => x.consumers) 88 3 w178 g178 (N + 0) A14 cap15 hs179 m1_0.devices (fun _ => False) ∧ Bx w178 g178 (N + 4) b22 85 [.slice A14 m1_0.devices.length cap15, .slice A180 m1_0.links.length cap181, .slice none 0 0, .int .u64 m1_0.now] ∧ OwS kd_api_Link 67 w178 g178 (N + 17) A180 cap181 m1_0.links ∧ RdS kd_api_IdleDevice w178 g178 C0 A0 cap0 p0 ∧ Fr (fun q => (r0 ≤ q ∧ q < r0 + 7) ∨ N ≤ q) w g w178 g178) FUEL ?_ ?_
                · exact ⟨(runtimepm_Manager.mk (upd (upd m0_0.devices m0_1 ({ x100 with delay := x56.Delay } : runtimepm_device)) m0_1 ({ x110 with suppliers := r94 } : runtimepm_device)) m0_0.links ([] : List Int) m0_0.now), 0, g157, hs40, A41, cap42, H, hS.re ⟨rfl, rfl, rfl, rfl, rfl, rfl, rfl, rfl, rfl, trivial⟩, h170, h17, h23, h43, hp0, hF⟩
                · clear H
                  clear hp0 h17 h23 h43 h170 hF
                  clear hS
                  rintro k183 a w178 ⟨m1_0, m1_1, g178, hs179, A180, cap181, hpre0, hS, h170, h17, h23, h182, hp0, hF⟩
                  have H := hpre0
                  clear hpre0
                  cases k183 with
                  | zero => exact absurd H (by simp [runtimepm_New.l1])
                  | succ k183 =>
                    rw [runtimepm_New.l1] at H
                    refine c_pure [(4, .int .i64 (p0.length : Int)), (5, .pointer (some ⟨b22, 0, none⟩)), (6, .int .i64 m0_1), (20, .slice A0 p0.length cap0), (21, .int .i64 (p0.length : Int)), (22, .int .i64 m0_1), (60, .slice A168 x163.suppliers.length cap169), (61, .int .i64 (x163.suppliers.length : Int)), (62, .int .i64 m1_1), (63, .bool (decide (m1_1 < (x163.suppliers.length : Int))))] (fun R hR => st_val hS rfl rfl rfl (r_bin hS rfl rfl rfl b_lss) fun a184 hS184 => wpList_nil (hR _ (hS184.re ⟨rfl, rfl, rfl, rfl, rfl, rfl, rfl, rfl, rfl, rfl, trivial⟩))) ?_
                    clear hS
                    clear a
                    intro a hS
                    refine c_if hS rfl (fun hb185 => ?_) (fun hb185 => ?_)
                    · replace H := ite_t hb185 H
                      refine wp_skip ?_
                      change Code.wp _ _ _ _ _
                      refine wp_seq ?_
                      refine wp_block ?_
                      obtain ⟨x186, hx187, H⟩ := bind_el H
                      refine c_pure [(4, .int .i64 (p0.length : Int)), (5, .pointer (some ⟨b22, 0, none⟩)), (6, .int .i64 m0_1), (9, .int .i64 x186), (20, .slice A0 p0.length cap0), (21, .int .i64 (p0.length : Int)), (22, .int .i64 m0_1), (60, .slice A168 x163.suppliers.length cap169), (61, .int .i64 (x163.suppliers.length : Int)), (62, .int .i64 m1_1)] (fun R hR => st_val hS rfl rfl rfl (r_index (e := 3) (sz := 1) (by_ := 8) hS rfl rfl rfl (by kernel_rfl) (RdS.some_ h170 hx187) (idx_lo hx187) (idx_hi hx187)) fun a188 hS188 => st_val hS188 rfl rfl rfl (r_load1 (n := 1) hS188 rfl rfl (by kernel_rfl) (RdS.cell (i := m1_1) (sz := 1) (j := 0) h170 hx187 rfl)) fun a189 hS189 => st_val hS189 rfl rfl rfl (r_assign hS189 rfl rfl) fun a190 hS190 => wpList_nil (hR _ (hS190.re ⟨rfl, rfl, rfl, rfl, rfl, rfl, rfl, rfl, rfl, rfl, trivial⟩))) ?_
                      clear hS
                      clear a
                      intro a hS
                      refine wp_seq ?_
                      refine c_region (fun K hK => ?_)
                      refine st_val hS rfl rfl rfl (r_move hS rfl rfl) fun a191 hS191 => st_val hS191 rfl rfl rfl (r_bin hS191 rfl rfl rfl b_lss) fun a192 hS192 => st_val hS192 rfl rfl rfl (r_move hS192 rfl rfl) fun a193 hS193 => ?_
                      refine g_join (N := 122) 4 [(4, .int .i64 (p0.length : Int)), (5, .pointer (some ⟨b22, 0, none⟩)), (6, .int .i64 m0_1), (9, .int .i64 x186), (20, .slice A0 p0.length cap0), (21, .int .i64 (p0.length : Int)), (22, .int .i64 m0_1), (60, .slice A168 x163.suppliers.length cap169), (61, .int .i64 (x163.suppliers.length : Int)), (62, .int .i64 m1_1), (72, .bool ((decide (x186 < 0)) || (decide ((p0.length : Int) ≤ x186))))] ?_ (fun hk => ?_)
                      rotate_left
                      · rcases Bool.eq_false_or_eq_true (decide (x186 < 0)) with hb194 | hb194
                        · refine st_off hS193 (want_off hS193 rfl rfl rfl hb194) rfl rfl fun a198 hS198 => st_off hS198 (want_off hS198 rfl rfl rfl hb194) rfl rfl fun a199 hS199 => st_off hS199 (want_off hS199 rfl rfl rfl hb194) rfl rfl fun a200 hS200 => st_val hS200 rfl rfl rfl (r_pickT hS200 rfl rfl rfl hb194) fun a201 hS201 => hk _ (hS201.re ⟨rfl, rfl, rfl, rfl, rfl, rfl, rfl, rfl, rfl, rfl, (by rw [hb194]; rfl), trivial⟩)
                        · refine st_valW hS193 (want_on hS193 rfl rfl rfl hb194) rfl rfl (r_move hS193 rfl rfl) fun a202 hS202 => st_valW hS202 (want_on hS202 rfl rfl rfl hb194) rfl rfl (r_move hS202 rfl rfl) fun a203 hS203 => st_valW hS203 (want_on hS203 rfl rfl rfl hb194) rfl rfl (r_bin hS203 rfl rfl rfl b_geq) fun a204 hS204 => st_val hS204 rfl rfl rfl (r_pickF hS204 rfl rfl rfl hb194) fun a205 hS205 => hk _ (hS205.re ⟨rfl, rfl, rfl, rfl, rfl, rfl, rfl, rfl, rfl, rfl, (by rw [hb194]; rfl), trivial⟩)
                      intro a206 hS206
                      refine wpList_nil (hK _ _ ?_)
                      replace hS : Sl 122 _ [(4, .int .i64 (p0.length : Int)), (5, .pointer (some ⟨b22, 0, none⟩)), (6, .int .i64 m0_1), (9, .int .i64 x186), (20, .slice A0 p0.length cap0), (21, .int .i64 (p0.length : Int)), (22, .int .i64 m0_1), (60, .slice A168 x163.suppliers.length cap169), (61, .int .i64 (x163.suppliers.length : Int)), (62, .int .i64 m1_1), (72, .bool ((decide (x186 < 0)) || (decide ((p0.length : Int) ≤ x186))))] := hS206.re ⟨rfl, rfl, rfl, rfl, rfl, rfl, rfl, rfl, rfl, rfl, rfl, trivial⟩
                      clear hK K
                      try clear hS191 hS192 hS193 hS206
                      obtain ⟨a, ha⟩ : ∃ a', a' = a206 := ⟨_, rfl⟩
                      rw [← ha] at hS ⊢; clear ha
                      refine c_cond hS rfl (fun hb207 => ?_) (fun hb207 => ?_)
                      · replace H := ite_t hb207 H
                        refine c_pure [(2, .pointer none), (3, .int .i64 1)] (fun R hR => st_val hS rfl rfl rfl (r_assign hS rfl rfl) fun a208 hS208 => st_val hS208 rfl rfl rfl (r_assign hS208 rfl rfl) fun a209 hS209 => wpList_nil (hR _ (hS209.re ⟨rfl, rfl, trivial⟩))) ?_
                        clear hS
                        clear a
                        intro a hS
                        refine wp_ret ?_
                        have e := Option.some.inj H
                        subst e
                        replace H := Fl.go_out Hl54
                        have e := Option.some.inj H
                        subst e
                        replace H := Fl.go_out Hl35
                        have e := Option.some.inj H
                        subst e
                        repeat (with_reducible first | refine then_ret ?_ | refine inBlock_ret ?_)
                        exact c_ret2 hS Try.results19 rfl rfl ⟨_, rfl, g178, none, rfl, rfl, hF⟩
                      · replace H := ite_f hb207 H
                        refine wp_skip ?_
                        change Code.wp _ _ _ _ _
                        obtain ⟨y223, hy224, H⟩ := bind_el H
                        refine c_region (fun K hK => ?_)
                        refine st_val hS rfl rfl rfl (r_move hS rfl rfl) fun a210 hS210 => st_val hS210 rfl rfl rfl (r_move hS210 rfl rfl) fun a211 hS211 => st_val hS211 rfl rfl rfl (r_nil hS211 rfl rfl) fun a212 hS212 => st_val hS212 rfl rfl rfl (r_fieldB (off := 1) hS212 rfl rfl (by kernel_rfl)) fun a213 hS213 => st_val hS213 rfl rfl rfl (r_load1 (n := 1) hS213 rfl rfl (by kernel_rfl) (Bx.cell h23 rfl)) fun a214 hS214 => st_val hS214 rfl rfl rfl (r_move hS214 rfl rfl) fun a215 hS215 => st_val hS215 rfl rfl rfl (r_move hS215 rfl rfl) fun a216 hS216 => st_val hS216 rfl rfl rfl (r_build (parts := [(0, .int .i64 m0_1), (1, .int .i64 x186)]) (u := .agg #[.int .i64 m0_1, .int .i64 x186]) hS216 rfl rfl (fun _ => by kernel_rfl)) fun a217 hS217 => ?_
                        refine st_eff hS217 rfl rfl rfl (e_lit (e := 67) (parts := [(0, .agg #[.int .i64 m0_1, .int .i64 x186])]) (cs := [.int .i64 m0_1, .int .i64 x186]) kd_api_Link [(api_Link.mk m0_1 x186)] (N + 15) g178 hS217 rfl rfl (fun _ => by kernel_rfl) rfl (by decide) (Rows.cons (cs := [.int .i64 m0_1, .int .i64 x186]) rfl Rows.nil)) ?_
                        rintro _ a221 w222 g222 ⟨⟨A218, rfl, h219⟩, F222⟩ hS221
                        replace h170 := RdS.fr h170 F222 (by decide) (fun _ _ h => h)
                        replace h17 := OwN.fr h17 F222 (fun h => h) (fun h => h) (fun h => h) (fun h => h)
                        replace h23 := h23.fr F222 (fun h => h)
                        replace h182 := OwS.fr h182 F222 (fun _ _ h => h)
                        replace hp0 := RdS.fr hp0 F222 (by decide) (fun _ _ h => h)
                        replace hF := hF.trans F222 (fun _ h => h.elim)
                        refine st_eff hS221 rfl rfl rfl (e_append (e := 67) (sz := 2) (by_ := 16) (z := [.int .i64 0, .int .i64 0]) (kd := kd_api_Link) g222 hS221 rfl rfl rfl rfl (by kernel_rfl) (by kernel_rfl) rfl rfl rfl rfl h182 (OwD.rdx h219) (fun _ _ _ h => h) hy224) ?_
                        rintro _ a229 w230 g230 ⟨⟨A225, cap226, rfl, h227⟩, F230⟩ hS229
                        replace h170 := RdS.fr h170 F230 (by decide) (fun q (hq : q = N + 0 + 1) (hm : q = N + 17) => by omega)
                        replace h17 := OwN.fr h17 F230 (fun (hm : N + 0 = N + 17) => by omega) (fun (hm : N + 0 + 1 = N + 17) => by omega) (fun (hm : N + 0 + 2 = N + 17) => by omega) (fun (hm : N + 0 + 3 = N + 17) => by omega)
                        replace h219 := OwS.fr h219 F230 (fun c' hc (hm : c' = N + 17) => by omega)
                        replace h23 := h23.fr F230 (fun (hm : N + 4 = N + 17) => by omega)
                        replace hp0 := RdS.fr hp0 F230 (by decide) (fun q (hq : C0 q) (hm : q = N + 17) => by have := hC0 q hq; omega)
                        replace hF := hF.trans F230 (fun c' (hm : c' = N + 17) => by show (r0 ≤ c' ∧ c' < r0 + 7) ∨ N ≤ c'; omega)
                        refine st_val hS229 rfl rfl rfl (r_nil hS229 rfl rfl) fun a231 hS231 => st_val hS231 rfl rfl rfl (r_fieldB (off := 1) hS231 rfl rfl (by kernel_rfl)) fun a232 hS232 => ?_
                        refine st_effS hS232 rfl rfl (e_storeB (n := 1) (bb := false) (cs' := [.slice A14 m1_0.devices.length cap15, .slice A225 y223.length cap226, .slice none 0 0, .int .u64 m1_0.now]) g230 hS232 rfl rfl rfl (by kernel_rfl) rfl rfl rfl h23 rfl rfl) ?_
                        rintro a233 w234 g234 ⟨h23, F234⟩ hS233
                        replace h170 := RdS.fr h170 F234 (by decide) (fun q (hq : q = N + 0 + 1) (hm : q = N + 4) => by omega)
                        replace h17 := OwN.fr h17 F234 (fun (hm : N + 0 = N + 4) => by omega) (fun (hm : N + 0 + 1 = N + 4) => by omega) (fun (hm : N + 0 + 2 = N + 4) => by omega) (fun (hm : N + 0 + 3 = N + 4) => by omega)
                        replace h219 := OwS.fr h219 F234 (fun c' hc (hm : c' = N + 4) => by omega)
                        replace h227 := OwS.fr h227 F234 (fun c' hc (hm : c' = N + 4) => by omega)
                        replace hp0 := RdS.fr hp0 F234 (by decide) (fun q (hq : C0 q) (hm : q = N + 4) => by have := hC0 q hq; omega)
                        replace hF := hF.trans F234 (fun c' (hm : c' = N + 4) => by show (r0 ≤ c' ∧ c' < r0 + 7) ∨ N ≤ c'; omega)
                        refine wpList_nil (hK _ _ ?_)
                        replace hS : Sl 122 _ [(4, .int .i64 (p0.length : Int)), (5, .pointer (some ⟨b22, 0, none⟩)), (6, .int .i64 m0_1), (9, .int .i64 x186), (20, .slice A0 p0.length cap0), (21, .int .i64 (p0.length : Int)), (22, .int .i64 m0_1), (60, .slice A168 x163.suppliers.length cap169), (61, .int .i64 (x163.suppliers.length : Int)), (62, .int .i64 m1_1)] := hS233.re ⟨rfl, rfl, rfl, rfl, rfl, rfl, rfl, rfl, rfl, rfl, trivial⟩
                        clear hK K
                        try clear hS210 hS211 hS212 hS213 hS214 hS215 hS216 hS217 hS221 hS229 hS231 hS232 hS233
                        obtain ⟨a, ha⟩ : ∃ a', a' = a233 := ⟨_, rfl⟩
                        rw [← ha] at hS ⊢; clear ha
                        obtain ⟨x235, hx236, H⟩ := bind_el H
                        obtain ⟨h237, hh238⟩ := OwN.hd h17 hx236
                        obtain ⟨y252, hy253, H⟩ := bind_el H
                        obtain ⟨hN249, hm250, F251⟩ := OwN.take (fun _ _ _ _ _ _ _ _ h => h) h17 hx236 hh238 (N + 21) ⟨by omega, by omega, by omega⟩
                        clear h17
                        replace h170 := RdS.fr h170 F251 (by decide) (fun q (hq : q = N + 0 + 1) (hm : q = N + 0 + 2) => by omega)
                        replace h227 := OwS.fr h227 F251 (fun c' hc (hm : c' = N + 0 + 2) => by omega)
                        replace h23 := h23.fr F251 (fun (hm : N + 4 = N + 0 + 2) => by omega)
                        replace hp0 := RdS.fr hp0 F251 (by decide) (fun q (hq : C0 q) (hm : q = N + 0 + 2) => by have := hC0 q hq; omega)
                        replace hF := hF.trans F251 (fun c' (hm : c' = N + 0 + 2) => by show (r0 ≤ c' ∧ c' < r0 + 7) ∨ N ≤ c'; omega)
                        refine c_draw1 (fun K hK => d_start (fun q => q = N + 21) (dyeA g234 h237.1 (N + 21)) [18] 19 #[false, false, false, false, false, false, false, false, false, false, false, false, false, false, false, false, false, false, false] (by kernel_rfl) rfl rfl (fun w264 hw264 => ?_))
                        have F264 : Fr (fun _ => False) w234 (dyeA g234 h237.1 (N + 21)) w264 (dyeA g234 h237.1 (N + 21)) := by rw [hw264]; exact Fr.drew _ _ _
                        replace h170 := RdS.fr h170 F264 (by decide) (fun _ _ h => h)
                        replace hm250 := OwN.fr hm250 F264 (fun h => h) (fun h => h) (fun h => h) (fun h => h)
                        replace h227 := OwS.fr h227 F264 (fun _ _ h => h)
                        replace h23 := h23.fr F264 (fun h => h)
                        replace hN249 := OwS.fr hN249 F264 (fun _ _ h => h)
                        replace hp0 := RdS.fr hp0 F264 (by decide) (fun _ _ h => h)
                        replace hF := hF.trans F264 (fun _ h => h.elim)
                        have hC : Fr (fun q => q = N + 21) w264 (dyeA g234 h237.1 (N + 21)) w264 (dyeA g234 h237.1 (N + 21)) := Fr.refl _ _ _
                        refine d_pure hS 0 #[true, false, false, false, false, false, false, false, false, false, false, false, false, false, false, false, false, false, false] rfl rfl rfl rfl (by kernel_rfl) (fun _ _ _ h => h) (fun _ => (r_move hS rfl rfl)) fun a265 hS265 => d_pure hS265 1 #[true, true, false, false, false, false, false, false, false, false, false, false, false, false, false, false, false, false, false] rfl rfl rfl rfl (by kernel_rfl) (fun _ _ _ h => h) (fun _ => (r_nil hS265 rfl rfl)) fun a266 hS266 => d_pure hS266 2 #[true, true, true, false, false, false, false, false, false, false, false, false, false, false, false, false, false, false, false] rfl rfl rfl rfl (by kernel_rfl) (fun _ _ _ h => h) (fun _ => (r_fieldB (off := 0) hS266 rfl rfl (by kernel_rfl))) fun a267 hS267 => d_take hS267 3 #[true, true, true, true, false, false, false, false, false, false, false, false, false, false, false, false, false, false, false] rfl rfl rfl rfl (by kernel_rfl) (fun _ _ _ h => h) ⟨_, hC⟩ (fun w' g' Fz => (r_load1 (n := 1) hS267 rfl rfl (by kernel_rfl) (Bx.cell (h23.fr Fz (fun (hm : N + 4 = N + 21) => by omega)) rfl))) fun a268 hS268 => d_pure hS268 4 #[true, true, true, true, true, false, false, false, false, false, false, false, false, false, false, false, false, false, false] rfl rfl rfl rfl (by kernel_rfl) (fun _ _ _ h => h) (fun _ => (r_move hS268 rfl rfl)) fun a269 hS269 => d_pure hS269 5 #[true, true, true, true, true, true, false, false, false, false, false, false, false, false, false, false, false, false, false] rfl rfl rfl rfl (by kernel_rfl) (fun _ _ _ h => h) (fun _ => (r_move hS269 rfl rfl)) fun a270 hS270 => d_pure hS270 6 #[true, true, true, true, true, true, true, false, false, false, false, false, false, false, false, false, false, false, false] rfl rfl rfl rfl (by kernel_rfl) (fun _ _ _ h => h) (fun _ => (r_nil hS270 rfl rfl)) fun a271 hS271 => d_pure hS271 7 #[true, true, true, true, true, true, true, true, false, false, false, false, false, false, false, false, false, false, false] rfl rfl rfl rfl (by kernel_rfl) (fun _ _ _ h => h) (fun _ => (r_fieldB (off := 0) hS271 rfl rfl (by kernel_rfl))) fun a272 hS272 => d_take hS272 8 #[true, true, true, true, true, true, true, true, true, false, false, false, false, false, false, false, false, false, false] rfl rfl rfl rfl (by kernel_rfl) (fun _ _ _ h => h) ⟨_, hC⟩ (fun w' g' Fz => (r_load1 (n := 1) hS272 rfl rfl (by kernel_rfl) (Bx.cell (h23.fr Fz (fun (hm : N + 4 = N + 21) => by omega)) rfl))) fun a273 hS273 => d_pure hS273 9 #[true, true, true, true, true, true, true, true, true, true, false, false, false, false, false, false, false, false, false] rfl rfl rfl rfl (by kernel_rfl) (fun _ _ _ h => h) (fun _ => (r_move hS273 rfl rfl)) fun a274 hS274 => ?_
                        obtain ⟨_, ⟨A276, cap277, rfl, h278⟩, hel275⟩ := OwN.el hm250 hx236 hh238 (by decide)
                        replace hel275 : El w264 (dyeA g234 h237.1 (N + 21)) (fun q => q = N + 0) A14 (x186.toNat * 6) [.int .u64 x235.delay, .slice A276 x235.suppliers.length cap277, .slice h237.1 x235.consumers.length h237.2, .bool x235.active, .int .i64 x235.count, .int .u64 x235.idle] := hel275
                        refine d_pure hS274 10 #[true, true, true, true, true, true, true, true, true, true, true, false, false, false, false, false, false, false, false] rfl rfl rfl rfl (by kernel_rfl) (fun _ _ _ h => h) (fun _ => (r_index (e := 88) (sz := 6) (by_ := 80) hS274 rfl rfl rfl (by kernel_rfl) (OwN.some_ hm250 hx236) (idx_lo hx236) (idx_hi hx236))) fun a281 hS281 => d_pure hS281 11 #[true, true, true, true, true, true, true, true, true, true, true, true, false, false, false, false, false, false, false] rfl rfl rfl rfl (by kernel_rfl) (fun _ _ _ h => h) (fun _ => (r_fieldE (off := 2) hS281 rfl rfl (by kernel_rfl))) fun a282 hS282 => d_take hS282 12 #[true, true, true, true, true, true, true, true, true, true, true, true, true, false, false, false, false, false, false] rfl rfl rfl rfl (by kernel_rfl) (fun _ _ _ h => h) ⟨_, hC⟩ (fun w' g' Fz => (r_load1 (n := 1) hS282 rfl rfl (by kernel_rfl) (El.cell (j := 2) (hel275.fr Fz (fun q (hq : q = N + 0) (hm : q = N + 21) => by omega)) rfl))) fun a283 hS283 => d_pure hS283 13 #[true, true, true, true, true, true, true, true, true, true, true, true, true, true, false, false, false, false, false] rfl rfl rfl rfl (by kernel_rfl) (fun _ _ _ h => h) (fun _ => (r_move hS283 rfl rfl)) fun a284 hS284 => ?_
                        refine d_one 14 #[true, true, true, true, true, true, true, true, true, true, true, true, true, true, true, false, false, false, false] rfl (by kernel_rfl) (arm_eff hS284 rfl rfl rfl (e_lit (e := 3) (parts := [(0, .int .i64 m0_1)]) (cs := [.int .i64 m0_1]) (kint .i64) [m0_1] (N + 19) (dyeA g234 h237.1 (N + 21)) hS284 rfl rfl (fun _ => by kernel_rfl) rfl (by decide) (Rows.cons (cs := [.int .i64 m0_1]) rfl Rows.nil)) (fun _ _ g' hR _ => ⟨g', hC.trans hR.2 (fun _ h => h.elim)⟩) ?_)
                        rintro _ a288 w289 g289 ⟨⟨A285, rfl, h286⟩, F289⟩ hS288
                        have hC289 := hC.trans F289 (fun _ h => h.elim)
                        replace h170 := RdS.fr h170 F289 (by decide) (fun _ _ h => h)
                        replace hm250 := OwN.fr hm250 F289 (fun h => h) (fun h => h) (fun h => h) (fun h => h)
                        replace h227 := OwS.fr h227 F289 (fun _ _ h => h)
                        replace h23 := h23.fr F289 (fun h => h)
                        replace hN249 := OwS.fr hN249 F289 (fun _ _ h => h)
                        replace h278 := RdS.fr h278 F289 (by decide) (fun _ _ h => h)
                        replace hel275 := hel275.fr F289 (fun _ _ h => h)
                        replace hp0 := RdS.fr hp0 F289 (by decide) (fun _ _ h => h)
                        replace hF := hF.trans F289 (fun _ h => h.elim)
                        refine d_one 15 #[true, true, true, true, true, true, true, true, true, true, true, true, true, true, true, true, false, false, false] rfl (by kernel_rfl) (arm_eff hS288 rfl rfl rfl (e_append (e := 3) (sz := 1) (by_ := 8) (z := [.int .i64 0]) (kd := (kint .i64)) g289 hS288 rfl rfl rfl rfl (by kernel_rfl) (by kernel_rfl) rfl rfl rfl rfl hN249 (OwD.rdx h286) (fun _ _ _ h => h) hy253) (fun _ _ g' hR _ => ⟨g', hC289.trans hR.2 (fun c' (hm : c' = N + 21) => by show c' = N + 21; omega)⟩) ?_)
                        rintro _ a294 w295 g295 ⟨⟨A290, cap291, rfl, h292⟩, F295⟩ hS294
                        have hC295 := hC289.trans F295 (fun c' (hm : c' = N + 21) => by show c' = N + 21; omega)
                        replace h170 := RdS.fr h170 F295 (by decide) (fun q (hq : q = N + 0 + 1) (hm : q = N + 21) => by omega)
                        replace hm250 := OwN.fr hm250 F295 (fun (hm : N + 0 = N + 21) => by omega) (fun (hm : N + 0 + 1 = N + 21) => by omega) (fun (hm : N + 0 + 2 = N + 21) => by omega) (fun (hm : N + 0 + 3 = N + 21) => by omega)
                        replace h227 := OwS.fr h227 F295 (fun c' hc (hm : c' = N + 21) => by omega)
                        replace h23 := h23.fr F295 (fun (hm : N + 4 = N + 21) => by omega)
                        replace h278 := RdS.fr h278 F295 (by decide) (fun q (hq : q = N + 0 + 1) (hm : q = N + 21) => by omega)
                        replace hel275 := hel275.fr F295 (fun q (hq : q = N + 0) (hm : q = N + 21) => by omega)
                        replace h286 := OwS.fr h286 F295 (fun c' hc (hm : c' = N + 21) => by omega)
                        replace hp0 := RdS.fr hp0 F295 (by decide) (fun q (hq : C0 q) (hm : q = N + 21) => by have := hC0 q hq; omega)
                        replace hF := hF.trans F295 (fun c' (hm : c' = N + 21) => by show (r0 ≤ c' ∧ c' < r0 + 7) ∨ N ≤ c'; omega)
                        refine d_pure hS294 16 #[true, true, true, true, true, true, true, true, true, true, true, true, true, true, true, true, true, false, false] rfl rfl rfl rfl (by kernel_rfl) (fun _ _ _ h => h) (fun _ => (r_index (e := 88) (sz := 6) (by_ := 80) hS294 rfl rfl rfl (by kernel_rfl) (OwN.some_ hm250 hx236) (idx_lo hx236) (idx_hi hx236))) fun a296 hS296 => d_pure hS296 17 #[true, true, true, true, true, true, true, true, true, true, true, true, true, true, true, true, true, true, false] rfl rfl rfl rfl (by kernel_rfl) (fun _ _ _ h => h) (fun _ => (r_fieldE (off := 2) hS296 rfl rfl (by kernel_rfl))) fun a297 hS297 => ?_
                        refine d_one 18 #[true, true, true, true, true, true, true, true, true, true, true, true, true, true, true, true, true, true, true] rfl (by kernel_rfl) (arm_effS hS297 rfl rfl (e_storeNH (k := (kint .i64)) (j := 2) (x' := ({ x235 with consumers := y252 } : runtimepm_device)) (ys := y252) (fun _ _ _ _ _ _ _ _ h => h) g295 hS297 rfl rfl rfl rfl (by kernel_rfl) rfl hm250 hx236 hh238 rfl h292 ⟨by omega, by omega, by omega⟩ rfl (fun cs hR => by obtain ⟨A0, cap0, rfl, h0⟩ := hR; exact ⟨A0, cap0, rfl, h0⟩)) (.inl (by decide)) ?_)
                        rintro a298 w299 g299 ⟨hm250, F299⟩ hS298
                        replace h170 := RdS.fr h170 F299 (by decide) (fun q (hq : q = N + 0 + 1) (hm : q = N + 0 ∨ q = N + 21) => by omega)
                        replace h227 := OwS.fr h227 F299 (fun c' hc (hm : c' = N + 0 ∨ c' = N + 21) => by omega)
                        replace h23 := h23.fr F299 (fun (hm : N + 4 = N + 0 ∨ N + 4 = N + 21) => by omega)
                        replace h278 := RdS.fr h278 F299 (by decide) (fun q (hq : q = N + 0 + 1) (hm : q = N + 0 ∨ q = N + 21) => by omega)
                        replace h286 := OwS.fr h286 F299 (fun c' hc (hm : c' = N + 0 ∨ c' = N + 21) => by omega)
                        replace hp0 := RdS.fr hp0 F299 (by decide) (fun q (hq : C0 q) (hm : q = N + 0 ∨ q = N + 21) => by have := hC0 q hq; omega)
                        replace hF := hF.trans F299 (fun c' (hm : c' = N + 0 ∨ c' = N + 21) => by show (r0 ≤ c' ∧ c' < r0 + 7) ∨ N ≤ c'; omega)
                        replace h23 : Bx w299 g299 (N + 4) b22 85 [.slice A14 (upd m1_0.devices x186 ({ x235 with consumers := y252 } : runtimepm_device)).length cap15, .slice A225 y223.length cap226, .slice none 0 0, .int .u64 m1_0.now] := by simpa only [upd_length] using h23
                        refine d_done (by kernel_rfl) (hK _ _ ?_)
                        replace hS : Sl 122 _ [(4, .int .i64 (p0.length : Int)), (5, .pointer (some ⟨b22, 0, none⟩)), (6, .int .i64 m0_1), (20, .slice A0 p0.length cap0), (21, .int .i64 (p0.length : Int)), (22, .int .i64 m0_1), (60, .slice A168 x163.suppliers.length cap169), (61, .int .i64 (x163.suppliers.length : Int)), (62, .int .i64 m1_1)] := hS298.re ⟨rfl, rfl, rfl, rfl, rfl, rfl, rfl, rfl, rfl, trivial⟩
                        clear hK K hC
                        try clear hS265 hS266 hS267 hS268 hS269 hS270 hS271 hS272 hS273 hS274 hS281 hS282 hS283 hS284 hS288 hS294 hS296 hS297 hS298
                        obtain ⟨a, ha⟩ : ∃ a', a' = a298 := ⟨_, rfl⟩
                        rw [← ha] at hS ⊢; clear ha
                        change Code.wp _ _ _ _ _
                        refine c_pure1 [(4, .int .i64 (p0.length : Int)), (5, .pointer (some ⟨b22, 0, none⟩)), (6, .int .i64 m0_1), (20, .slice A0 p0.length cap0), (21, .int .i64 (p0.length : Int)), (22, .int .i64 m0_1), (60, .slice A168 x163.suppliers.length cap169), (61, .int .i64 (x163.suppliers.length : Int)), (62, .int .i64 (wi (m1_1 + 1)))] (fun R hR => st_val hS rfl rfl rfl (r_bin hS rfl rfl rfl b_add) fun a300 hS300 => st_val hS300 rfl rfl rfl (r_move hS300 rfl rfl) fun a301 hS301 => wpList_nil (hR _ (hS301.re ⟨rfl, rfl, rfl, rfl, rfl, rfl, rfl, rfl, rfl, trivial⟩))) ?_
                        clear hS
                        clear a
                        intro a hS
                        refine ⟨k183, Nat.lt_succ_self _, ?_⟩
                        exact ⟨(runtimepm_Manager.mk (upd m1_0.devices x186 ({ x235 with consumers := y252 } : runtimepm_device)) y223 ([] : List Int) m1_0.now), wi (m1_1 + 1), g299, (upd hs179 x186 (A290, cap291)), A225, cap226, H, hS.re ⟨rfl, rfl, rfl, rfl, rfl, rfl, rfl, rfl, rfl, trivial⟩, h170, hm250, h23, h227, hp0, hF⟩
                    · replace H := ite_f hb185 H
                      refine wp_exit ?_
                      have e := Option.some.inj H
                      exact ⟨(runtimepm_Manager.mk m1_0.devices m1_0.links ([] : List Int) m1_0.now), g178, hs179, A180, cap181, e.symm, hS.re ⟨rfl, rfl, rfl, rfl, rfl, trivial⟩, h17, h23, h182, hp0, hF⟩
            · clear H
              clear hp0 h17 h23 h43 hF
              clear hS
              rintro a w47 ⟨v52, g47, hs48, A49, cap50, hpre0, hS, h17, h23, h51, hp0, hF⟩
              subst hpre0
              have H := Fl.go_nxt Hl54
              clear Hl54
              refine c_pure1 [(4, .int .i64 (p0.length : Int)), (5, .pointer (some ⟨b22, 0, none⟩)), (20, .slice A0 p0.length cap0), (21, .int .i64 (p0.length : Int)), (22, .int .i64 (wi (m0_1 + 1)))] (fun R hR => st_val hS rfl rfl rfl (r_bin hS rfl rfl rfl b_add) fun a302 hS302 => st_val hS302 rfl rfl rfl (r_move hS302 rfl rfl) fun a303 hS303 => wpList_nil (hR _ (hS303.re ⟨rfl, rfl, rfl, rfl, rfl, trivial⟩))) ?_
              clear hS
              clear a
              intro a hS
              refine ⟨k44, Nat.lt_succ_self _, ?_⟩
              exact ⟨(runtimepm_Manager.mk v52.devices v52.links ([] : List Int) v52.now), wi (m0_1 + 1), g47, hs48, A49, cap50, H, hS.re ⟨rfl, rfl, rfl, rfl, rfl, trivial⟩, h17, h23, h51, hp0, hF⟩
          · replace H := ite_f hb46 H
            refine wp_exit ?_
            have e := Option.some.inj H
            exact ⟨(runtimepm_Manager.mk m0_0.devices m0_0.links ([] : List Int) m0_0.now), g39, hs40, A41, cap42, e.symm, hS.re ⟨rfl, rfl, trivial⟩, h17, h23, h43, hF⟩
    · clear H
      clear hp0 h17 h23 hF
      clear hS
      rintro a w28 ⟨v33, g28, hs29, A30, cap31, hpre0, hS, h17, h23, h32, hF⟩
      subst hpre0
      have H := Fl.go_nxt Hl35
      clear Hl35
      obtain ⟨r309, hr310, H⟩ := bind_el H
      refine c_region (fun K hK => ?_)
      refine st_val hS rfl rfl rfl (r_move hS rfl rfl) fun a304 hS304 => st_val hS304 rfl rfl rfl (r_move hS304 rfl rfl) fun a305 hS305 => st_val hS305 rfl rfl rfl (r_nil hS305 rfl rfl) fun a306 hS306 => st_val hS306 rfl rfl rfl (r_fieldB (off := 1) hS306 rfl rfl (by kernel_rfl)) fun a307 hS307 => st_val hS307 rfl rfl rfl (r_load1 (n := 1) hS307 rfl rfl (by kernel_rfl) (Bx.cell h23 rfl)) fun a308 hS308 => ?_
      refine st_enter hS308 rfl rfl rfl (r_call hS308 rfl rfl (by kernel_rfl)) (depgraph_Order.calls (C1 := (fun q => q = N + 17)) (p0 := (p0.length : Int)) (p1 := v33.links) (g := g28) (N + 25) (N + 23) (OwD.rdf (fun _ _ _ _ _ _ h => h) h32) (fun q (hq : q = N + 17) => by omega) (by omega) hr310) ?_
      rintro _ a315 w316 ⟨g316, A311, cap312, rfl, h313, F316⟩ hS315
      replace h17 := OwN.fr h17 F316 (fun (hm : (N + 23 ≤ N + 0 ∧ N + 0 < N + 23 + 2) ∨ N + 25 ≤ N + 0) => by omega) (fun (hm : (N + 23 ≤ N + 0 + 1 ∧ N + 0 + 1 < N + 23 + 2) ∨ N + 25 ≤ N + 0 + 1) => by omega) (fun (hm : (N + 23 ≤ N + 0 + 2 ∧ N + 0 + 2 < N + 23 + 2) ∨ N + 25 ≤ N + 0 + 2) => by omega) (fun (hm : (N + 23 ≤ N + 0 + 3 ∧ N + 0 + 3 < N + 23 + 2) ∨ N + 25 ≤ N + 0 + 3) => by omega)
      replace h23 := h23.fr F316 (fun (hm : (N + 23 ≤ N + 4 ∧ N + 4 < N + 23 + 2) ∨ N + 25 ≤ N + 4) => by omega)
      replace h32 := OwS.fr h32 F316 (fun c' hc (hm : (N + 23 ≤ c' ∧ c' < N + 23 + 2) ∨ N + 25 ≤ c') => by omega)
      replace hF := hF.trans F316 (fun c' (hm : (N + 23 ≤ c' ∧ c' < N + 23 + 2) ∨ N + 25 ≤ c') => by show (r0 ≤ c' ∧ c' < r0 + 7) ∨ N ≤ c'; omega)
      refine st_val hS315 rfl rfl rfl (r_move hS315 rfl rfl) fun a317 hS317 => st_val hS317 rfl rfl rfl (r_extract hS317 rfl rfl rfl) fun a318 hS318 => st_val hS318 rfl rfl rfl (r_extract hS318 rfl rfl rfl) fun a319 hS319 => st_val hS319 rfl rfl rfl (r_assign hS319 rfl rfl) fun a320 hS320 => st_val hS320 rfl rfl rfl (r_assign hS320 rfl rfl) fun a321 hS321 => wpList_nil (hK _ _ ?_)
      replace hS : Sl 122 _ [(5, .pointer (some ⟨b22, 0, none⟩)), (10, .slice A311 r309.1.length cap312), (11, .int .i64 r309.2)] := hS321.re ⟨rfl, rfl, rfl, trivial⟩
      clear hK K
      try clear hS304 hS305 hS306 hS307 hS308 hS315 hS317 hS318 hS319 hS320 hS321
      obtain ⟨a, ha⟩ : ∃ a', a' = a321 := ⟨_, rfl⟩
      rw [← ha] at hS ⊢; clear ha
      refine wp_seq ?_
      refine c_pure [(5, .pointer (some ⟨b22, 0, none⟩)), (10, .slice A311 r309.1.length cap312), (11, .int .i64 r309.2), (115, .bool (r309.2 != 0))] (fun R hR => st_val hS rfl rfl rfl (r_move hS rfl rfl) fun a322 hS322 => st_val hS322 rfl rfl rfl (r_bin hS322 rfl rfl rfl b_neq) fun a323 hS323 => wpList_nil (hR _ (hS323.re ⟨rfl, rfl, rfl, rfl, trivial⟩))) ?_
      clear hS
      clear a
      intro a hS
      refine c_cond hS rfl (fun hb324 => ?_) (fun hb324 => ?_)
      · replace H := ite_t hb324 H
        refine c_pure [(2, .pointer none), (3, .int .i64 r309.2)] (fun R hR => st_val hS rfl rfl rfl (r_move hS rfl rfl) fun a325 hS325 => st_val hS325 rfl rfl rfl (r_assign hS325 rfl rfl) fun a326 hS326 => st_val hS326 rfl rfl rfl (r_assign hS326 rfl rfl) fun a327 hS327 => wpList_nil (hR _ (hS327.re ⟨rfl, rfl, trivial⟩))) ?_
        clear hS
        clear a
        intro a hS
        refine wp_ret ?_
        have e := Option.some.inj H
        subst e
        repeat (with_reducible first | refine then_ret ?_ | refine inBlock_ret ?_)
        exact c_ret2 hS Try.results19 rfl rfl ⟨_, rfl, g316, none, rfl, rfl, hF⟩
      · replace H := ite_f hb324 H
        refine wp_skip ?_
        change Code.wp _ _ _ _ _
        refine c_region (fun K hK => ?_)
        refine st_val hS rfl rfl rfl (r_move hS rfl rfl) fun a328 hS328 => st_val hS328 rfl rfl rfl (r_move hS328 rfl rfl) fun a329 hS329 => st_val hS329 rfl rfl rfl (r_nil hS329 rfl rfl) fun a330 hS330 => st_val hS330 rfl rfl rfl (r_fieldB (off := 2) hS330 rfl rfl (by kernel_rfl)) fun a331 hS331 => ?_
        refine st_effS hS331 rfl rfl (e_storeB (n := 1) (bb := false) (cs' := [.slice A14 v33.devices.length cap15, .slice A30 v33.links.length cap31, .slice A311 r309.1.length cap312, .int .u64 v33.now]) g316 hS331 rfl rfl rfl (by kernel_rfl) rfl rfl rfl h23 rfl rfl) ?_
        rintro a332 w333 g333 ⟨h23, F333⟩ hS332
        replace h17 := OwN.fr h17 F333 (fun (hm : N + 0 = N + 4) => by omega) (fun (hm : N + 0 + 1 = N + 4) => by omega) (fun (hm : N + 0 + 2 = N + 4) => by omega) (fun (hm : N + 0 + 3 = N + 4) => by omega)
        replace h313 := OwS.fr h313 F333 (fun c' hc (hm : c' = N + 4) => by omega)
        replace h32 := OwS.fr h32 F333 (fun c' hc (hm : c' = N + 4) => by omega)
        replace hF := hF.trans F333 (fun c' (hm : c' = N + 4) => by show (r0 ≤ c' ∧ c' < r0 + 7) ∨ N ≤ c'; omega)
        refine wpList_nil (hK _ _ ?_)
        replace hS : Sl 122 _ [(5, .pointer (some ⟨b22, 0, none⟩))] := hS332.re ⟨rfl, trivial⟩
        clear hK K
        try clear hS328 hS329 hS330 hS331 hS332
        obtain ⟨a, ha⟩ : ∃ a', a' = a332 := ⟨_, rfl⟩
        rw [← ha] at hS ⊢; clear ha
        refine c_pure [(2, .pointer (some ⟨b22, 0, none⟩)), (3, .int .i64 0)] (fun R hR => st_val hS rfl rfl rfl (r_move hS rfl rfl) fun a334 hS334 => st_val hS334 rfl rfl rfl (r_assign hS334 rfl rfl) fun a335 hS335 => st_val hS335 rfl rfl rfl (r_assign hS335 rfl rfl) fun a336 hS336 => wpList_nil (hR _ (hS336.re ⟨rfl, rfl, trivial⟩))) ?_
        clear hS
        clear a
        intro a hS
        refine wp_ret ?_
        have e := Option.some.inj H
        subst e
        have F337 : Fr (fun q => q = N + 4) w333 g333 w333 (recol g333 (N + 4) r0) := Fr.recol w333 g333 (N + 4) r0 rfl
        replace h23 := Bx.recol h23 r0
        replace h17 := OwN.fr h17 F337 (fun (hm : N + 0 = N + 4) => by omega) (fun (hm : N + 0 + 1 = N + 4) => by omega) (fun (hm : N + 0 + 2 = N + 4) => by omega) (fun (hm : N + 0 + 3 = N + 4) => by omega)
        replace h313 := OwS.fr h313 F337 (fun c' hc (hm : c' = N + 4) => by omega)
        replace h32 := OwS.fr h32 F337 (fun c' hc (hm : c' = N + 4) => by omega)
        replace hF := hF.trans F337 (fun c' (hm : c' = N + 4) => by show (r0 ≤ c' ∧ c' < r0 + 7) ∨ N ≤ c'; omega)
        have F338 : Fr (fun q => q = N + 0 + 2) w333 (recol g333 (N + 4) r0) w333 (recol (recol g333 (N + 4) r0) (N + 0 + 2) (N + 0 + 1)) := Fr.recol w333 (recol g333 (N + 4) r0) (N + 0 + 2) (N + 0 + 1) rfl
        replace h17 : OwS kd_runtimepm_device 88 w333 (recol (recol g333 (N + 4) r0) (N + 0 + 2) (N + 0 + 1)) (N + 0) A14 cap15 v33.devices := OwN.toS (fun _ _ _ _ _ _ _ _ h => h) rfl (by decide) kz_runtimepm_device_to h17
        replace h23 := h23.fr F338 (fun (hm : r0 = N + 0 + 2) => by omega)
        replace h313 := OwS.fr h313 F338 (fun c' hc (hm : c' = N + 0 + 2) => by omega)
        replace h32 := OwS.fr h32 F338 (fun c' hc (hm : c' = N + 0 + 2) => by omega)
        replace hF := hF.trans F338 (fun c' (hm : c' = N + 0 + 2) => by show (r0 ≤ c' ∧ c' < r0 + 7) ∨ N ≤ c'; omega)
        have F339 := Fr.recol2 w333 (recol (recol g333 (N + 4) r0) (N + 0 + 2) (N + 0 + 1)) (N + 0) (r0 + 1)
        replace h17 := h17.recol2 (r0 + 1)
        replace h23 := h23.fr F339 (fun (hm : r0 = N + 0 ∨ r0 = N + 0 + 1) => by omega)
        replace h313 := OwS.fr h313 F339 (fun c' hc (hm : c' = N + 0 ∨ c' = N + 0 + 1) => by omega)
        replace h32 := OwS.fr h32 F339 (fun c' hc (hm : c' = N + 0 ∨ c' = N + 0 + 1) => by omega)
        replace hF := hF.trans F339 (fun c' (hm : c' = N + 0 ∨ c' = N + 0 + 1) => by show (r0 ≤ c' ∧ c' < r0 + 7) ∨ N ≤ c'; omega)
        have F340 := Fr.recol2 w333 (recol2 (recol (recol g333 (N + 4) r0) (N + 0 + 2) (N + 0 + 1)) (N + 0) (r0 + 1)) (N + 17) (r0 + 3)
        replace h32 := h32.recol2 (r0 + 3)
        replace h17 := OwS.fr h17 F340 (fun c' hc (hm : c' = N + 17 ∨ c' = N + 17 + 1) => by omega)
        replace h23 := h23.fr F340 (fun (hm : r0 = N + 17 ∨ r0 = N + 17 + 1) => by omega)
        replace h313 := OwS.fr h313 F340 (fun c' hc (hm : c' = N + 17 ∨ c' = N + 17 + 1) => by omega)
        replace hF := hF.trans F340 (fun c' (hm : c' = N + 17 ∨ c' = N + 17 + 1) => by show (r0 ≤ c' ∧ c' < r0 + 7) ∨ N ≤ c'; omega)
        have F341 := Fr.recol2 w333 (recol2 (recol2 (recol (recol g333 (N + 4) r0) (N + 0 + 2) (N + 0 + 1)) (N + 0) (r0 + 1)) (N + 17) (r0 + 3)) (N + 23) (r0 + 5)
        replace h313 := h313.recol2 (r0 + 5)
        replace h17 := OwS.fr h17 F341 (fun c' hc (hm : c' = N + 23 ∨ c' = N + 23 + 1) => by omega)
        replace h23 := h23.fr F341 (fun (hm : r0 = N + 23 ∨ r0 = N + 23 + 1) => by omega)
        replace h32 := OwS.fr h32 F341 (fun c' hc (hm : c' = N + 23 ∨ c' = N + 23 + 1) => by omega)
        replace hF := hF.trans F341 (fun c' (hm : c' = N + 23 ∨ c' = N + 23 + 1) => by show (r0 ≤ c' ∧ c' < r0 + 7) ∨ N ≤ c'; omega)
        repeat (with_reducible first | refine then_ret ?_ | refine inBlock_ret ?_)
        exact c_ret2 hS Try.results19 rfl rfl ⟨_, rfl, (recol2 (recol2 (recol2 (recol (recol g333 (N + 4) r0) (N + 0 + 2) (N + 0 + 1)) (N + 0) (r0 + 1)) (N + 17) (r0 + 3)) (N + 23) (r0 + 5)), (some ⟨b22, 0, none⟩), rfl, ⟨b22, A14, cap15, A30, cap31, A311, cap312, rfl, h23, h17, h32, h313⟩, hF⟩


end Go.Proofs.Ytcfcffbjdjacfaa.Sim
