/-
  Texts of this session, part 6 of 8: the words of the walk, plain functions with the same answers as the Go functions and the proofs of it, plain lemmas. No condition.
  They are, one behind the other: LwDeviceHierarchy.
-/
import Derived.Test.YtfhhklkmbcnhnaaZDeviceHierarchy5

namespace Go.Proofs.Ytfhhklkmbcnhnaa.Sim
open Go
set_option linter.unusedVariables false
set_option linter.unusedSimpArgs false

/-! ### law27_DeviceHierarchy: function 8 -/
def law27_DeviceHierarchy.l0 (r54 : (List api_PowerDevice)) (st122 : device_Tree) : Nat → (List Int) → Int → Option ((List api_PowerDevice) × (List Int) × (List rails_rail) × Int × Int × (List Int))
  | 0, _, _ => none
  | k144 + 1, m0_0, m0_1 => if decide (m0_1 < (r54.length : Int)) = true then ((idx m0_0 m0_1).bind fun x152 => law27_DeviceHierarchy.l0 r54 st122 k144 (upd m0_0 m0_1 4) (wi (m0_1 + 1))) else (some (st122.devices, st122.state, st122.rails.list, st122.rails.now, st122.now, m0_0))
def law27_DeviceHierarchy.l2 (r54 : (List api_PowerDevice)) (r225 : device_Tree × (List api_RailOp) × Int) (v239 : Int × (List Int)) : Nat → Int → Option (Fl (Fl (Bool) (Unit)) (device_Tree × rails_Rails × Int × (List Int)))
  | 0, _ => none
  | k257 + 1, m2_0 => if decide (m2_0 < (r54.length : Int)) = true then ((idx v239.2 m2_0).bind fun x268 => (device_Tree_State.f r225.1 m2_0).bind fun r272 => (if (r272 != x268) = true then some true else (idx r54 m2_0).bind fun x282 => (if decide (0 ≤ x282.Parent) = true then (idx v239.2 x282.Parent).bind fun x318 => some (decide (x268 < x318)) else some false).bind fun t323 => some t323).bind fun t358 => if t358 = true then (some (.out (.out false))) else (law27_DeviceHierarchy.l2 r54 r225 v239 k257 (wi (m2_0 + 1)))) else (some (.nxt (r225.1, r225.1.rails, v239.1, v239.2)))
def law27_DeviceHierarchy.l1 (p2 : List law27_Call) (r54 : (List api_PowerDevice)) : Nat → device_Tree → rails_Rails → Int → (List Int) → Int → Option (Fl (Bool) (Unit))
  | 0, _, _, _, _, _ => none
  | k166 + 1, m1_0, m1_1, m1_2, m1_3, m1_4 => if ((decide (m1_4 < (p2.length : Int))) && (decide (0 < (r54.length : Int)))) = true then (((idx p2 m1_4).bind fun x192 => (law27_Call_at.f (law27_Call.mk x192.Device x192.State x192.Wait false) (r54.length : Int) m1_2).bind fun r210 => (device_Tree_Set.f (device_Tree.mk m1_0.devices m1_0.state m1_1 m1_0.now) r210.1 r210.2.1 r210.2.2).bind fun r225 => (if (r225.2.2 == 0) = true then ((idx m1_3 r210.1).bind fun x249 => some (r210.2.2, (upd m1_3 r210.1 r210.2.1))) else (some (m1_2, m1_3)) : Option (Int × (List Int))).bind fun v239 => law27_DeviceHierarchy.l2 r54 r225 v239 FUEL 0 : Option (Fl (Fl (Bool) (Unit)) (device_Tree × rails_Rails × Int × (List Int)))).bind fun o188 => o188.go fun v187 => law27_DeviceHierarchy.l1 p2 r54 k166 (device_Tree.mk v187.1.devices v187.1.state v187.2.1 v187.1.now) v187.2.1 v187.2.2.1 v187.2.2.2 (wi (m1_4 + 1))) else (some (.nxt ()))
def law27_DeviceHierarchy.f (p0 : List api_PowerDevice) (p1 : List api_Rail) (p2 : List law27_Call) : Option (Bool) := (law27_large.f p0).bind fun r3 => if ((r3 || (decide (20 < (p1.length : Int)))) || (decide (40 < (p2.length : Int)))) = true then ((law27_awake.f ).bind fun r36 => some r36) else ((law25_Some.f p1).bind fun r42 => (law27_Some.f p0 (r42.length : Int)).bind fun r54 => (device_New.f r54 r42).bind fun r65 => if ((r65.2 != 0) || r65.1.isNone) = true then (some false) else ((mk (r54.length : Int) 0).bind fun y95 => ((r65.1).bind fun st122 => law27_DeviceHierarchy.l0 r54 st122 FUEL y95 0 : Option ((List api_PowerDevice) × (List Int) × (List rails_rail) × Int × Int × (List Int))).bind fun v118 => (law27_DeviceHierarchy.l1 p2 r54 FUEL (device_Tree.mk v118.1 v118.2.1 (rails_Rails.mk v118.2.2.1 v118.2.2.2.1) v118.2.2.2.2.1) (rails_Rails.mk v118.2.2.1 v118.2.2.2.1) 0 v118.2.2.2.2.2 0 : Option (Fl (Bool) (Unit))).bind fun o162 => o162.go fun _ => (law27_awake.f ).bind fun r472 => some r472))
set_option maxRecDepth 100000 in
set_option maxHeartbeats 4000000 in
theorem law27_DeviceHierarchy.calls {p0 : List api_PowerDevice} {A0 : Option Addr} {cap0 : Nat} {C0 : Nat → Prop} {p1 : List api_Rail} {A1 : Option Addr} {cap1 : Nat} {C1 : Nat → Prop} {p2 : List law27_Call} {A2 : Option Addr} {cap2 : Nat} {C2 : Nat → Prop} {w : World} {g : Nat → Nat} {out : Bool} (N : Nat) (hp0 : RdS kd_api_PowerDevice w g C0 A0 cap0 p0) (hC0 : ∀ c, C0 c → c < N) (hp1 : RdS kd_api_Rail w g C1 A1 cap1 p1) (hC1 : ∀ c, C1 c → c < N) (hp2 : RdS kd_law27_Call w g C2 A2 cap2 p2) (hC2 : ∀ c, C2 c → c < N) (H : law27_DeviceHierarchy.f p0 p1 p2 = some out) :
    Calls Try.prog 8 #[.slice A0 p0.length cap0, .slice A1 p1.length cap1, .slice A2 p2.length cap2] w (fun e w' => ∃ v, e = .returned v ∧ ∃ (g' : Nat → Nat), v = .bool out ∧ Fr (fun q => N ≤ q) w g w' g') := by
  unfold law27_DeviceHierarchy.f at H
  refine calls_enter Try.func8 rfl Try.ntmps8 rfl (fun a hS => ?_)
  replace hS : Sl 143 a [(0, .slice A0 p0.length cap0), (1, .slice A1 p1.length cap1), (2, .slice A2 p2.length cap2)] := hS
  have hF : Fr (fun q => N ≤ q) w g w g := Fr.refl _ _ _
  refine c_pure [(0, .slice A0 p0.length cap0), (1, .slice A1 p1.length cap1), (2, .slice A2 p2.length cap2)] (fun R hR => st_val hS rfl rfl rfl (r_assign hS rfl rfl) fun a1 hS1 => wpList_nil (hR _ (hS1.re ⟨rfl, rfl, rfl, trivial⟩))) ?_
  clear hS
  clear a
  intro a hS
  refine wp_seq ?_
  obtain ⟨r3, hr4, H⟩ := bind_el H
  refine c_region (fun K hK => ?_)
  refine st_val hS rfl rfl rfl (r_move hS rfl rfl) fun a2 hS2 => ?_
  refine st_enter hS2 rfl rfl rfl (r_call hS2 rfl rfl (by kernel_rfl)) (law27_large.calls (C0 := C0) (p0 := p0) (g := g) (N + 18)  hp0 (fun q (hq : C0 q) => by have := hC0 q hq; omega) hr4) ?_
  rintro _ a5 w6 ⟨g6, rfl, F6⟩ hS5
  replace hp0 := RdS.fr hp0 F6 (by decide) (fun q (hq : C0 q) (hm : N + 18 ≤ q) => by have := hC0 q hq; omega)
  replace hp1 := RdS.fr hp1 F6 (by decide) (fun q (hq : C1 q) (hm : N + 18 ≤ q) => by have := hC1 q hq; omega)
  replace hp2 := RdS.fr hp2 F6 (by decide) (fun q (hq : C2 q) (hm : N + 18 ≤ q) => by have := hC2 q hq; omega)
  replace hF := hF.trans F6 (fun c' (hm : N + 18 ≤ c') => by show N ≤ c'; omega)
  refine st_val hS5 rfl rfl rfl (r_move hS5 rfl rfl) fun a7 hS7 => ?_
  refine g_join (N := 143) 4 [(0, .slice A0 p0.length cap0), (1, .slice A1 p1.length cap1), (2, .slice A2 p2.length cap2), (28, .bool (r3 || (decide (20 < (p1.length : Int)))))] ?_ (fun hk => ?_)
  rotate_left
  · rcases Bool.eq_false_or_eq_true (r3) with hb8 | hb8
    · refine st_off hS7 (want_off hS7 rfl rfl rfl hb8) rfl rfl fun a12 hS12 => st_off hS12 (want_off hS12 rfl rfl rfl hb8) rfl rfl fun a13 hS13 => st_off hS13 (want_off hS13 rfl rfl rfl hb8) rfl rfl fun a14 hS14 => st_val hS14 rfl rfl rfl (r_pickT hS14 rfl rfl rfl hb8) fun a15 hS15 => hk _ (hS15.re ⟨rfl, rfl, rfl, (by rw [hb8]; rfl), trivial⟩)
    · refine st_valW hS7 (want_on hS7 rfl rfl rfl hb8) rfl rfl (r_move hS7 rfl rfl) fun a16 hS16 => st_valW hS16 (want_on hS16 rfl rfl rfl hb8) rfl rfl (r_len (e := 64) (sz := 3) (by_ := 24) hS16 rfl rfl (by kernel_rfl)) fun a17 hS17 => st_valW hS17 (want_on hS17 rfl rfl rfl hb8) rfl rfl (r_bin hS17 rfl rfl rfl b_gtr) fun a18 hS18 => st_val hS18 rfl rfl rfl (r_pickF hS18 rfl rfl rfl hb8) fun a19 hS19 => hk _ (hS19.re ⟨rfl, rfl, rfl, (by rw [hb8]; rfl), trivial⟩)
  intro a20 hS20
  refine st_val hS20 rfl rfl rfl (r_move hS20 rfl rfl) fun a21 hS21 => ?_
  refine g_join (N := 143) 4 [(0, .slice A0 p0.length cap0), (1, .slice A1 p1.length cap1), (2, .slice A2 p2.length cap2), (33, .bool ((r3 || (decide (20 < (p1.length : Int)))) || (decide (40 < (p2.length : Int)))))] ?_ (fun hk => ?_)
  rotate_left
  · rcases Bool.eq_false_or_eq_true ((r3 || (decide (20 < (p1.length : Int))))) with hb22 | hb22
    · refine st_off hS21 (want_off hS21 rfl rfl rfl hb22) rfl rfl fun a26 hS26 => st_off hS26 (want_off hS26 rfl rfl rfl hb22) rfl rfl fun a27 hS27 => st_off hS27 (want_off hS27 rfl rfl rfl hb22) rfl rfl fun a28 hS28 => st_val hS28 rfl rfl rfl (r_pickT hS28 rfl rfl rfl hb22) fun a29 hS29 => hk _ (hS29.re ⟨rfl, rfl, rfl, (by rw [hb22]; rfl), trivial⟩)
    · refine st_valW hS21 (want_on hS21 rfl rfl rfl hb22) rfl rfl (r_move hS21 rfl rfl) fun a30 hS30 => st_valW hS30 (want_on hS30 rfl rfl rfl hb22) rfl rfl (r_len (e := 55) (sz := 4) (by_ := 32) hS30 rfl rfl (by kernel_rfl)) fun a31 hS31 => st_valW hS31 (want_on hS31 rfl rfl rfl hb22) rfl rfl (r_bin hS31 rfl rfl rfl b_gtr) fun a32 hS32 => st_val hS32 rfl rfl rfl (r_pickF hS32 rfl rfl rfl hb22) fun a33 hS33 => hk _ (hS33.re ⟨rfl, rfl, rfl, (by rw [hb22]; rfl), trivial⟩)
  intro a34 hS34
  refine wpList_nil (hK _ _ ?_)
  replace hS : Sl 143 _ [(0, .slice A0 p0.length cap0), (1, .slice A1 p1.length cap1), (2, .slice A2 p2.length cap2), (33, .bool ((r3 || (decide (20 < (p1.length : Int)))) || (decide (40 < (p2.length : Int)))))] := hS34.re ⟨rfl, rfl, rfl, rfl, trivial⟩
  clear hK K
  try clear hS2 hS5 hS7 hS20 hS21 hS34
  obtain ⟨a, ha⟩ : ∃ a', a' = a34 := ⟨_, rfl⟩
  rw [← ha] at hS ⊢; clear ha
  refine c_cond hS rfl (fun hb35 => ?_) (fun hb35 => ?_)
  · replace H := ite_t hb35 H
    obtain ⟨r36, hr37, H⟩ := bind_el H
    refine c_region (fun K hK => ?_)
    refine st_enter hS rfl rfl rfl (r_call hS rfl rfl (by kernel_rfl)) (law27_awake.calls (g := g6) (N + 18)   hr37) ?_
    rintro _ a38 w39 ⟨g39, rfl, F39⟩ hS38
    replace hp0 := RdS.fr hp0 F39 (by decide) (fun q (hq : C0 q) (hm : N + 18 ≤ q) => by have := hC0 q hq; omega)
    replace hp1 := RdS.fr hp1 F39 (by decide) (fun q (hq : C1 q) (hm : N + 18 ≤ q) => by have := hC1 q hq; omega)
    replace hp2 := RdS.fr hp2 F39 (by decide) (fun q (hq : C2 q) (hm : N + 18 ≤ q) => by have := hC2 q hq; omega)
    replace hF := hF.trans F39 (fun c' (hm : N + 18 ≤ c') => by show N ≤ c'; omega)
    refine st_val hS38 rfl rfl rfl (r_assign hS38 rfl rfl) fun a40 hS40 => wpList_nil (hK _ _ ?_)
    replace hS : Sl 143 _ [(6, .bool r36)] := hS40.re ⟨rfl, trivial⟩
    clear hK K
    try clear hS38 hS40
    obtain ⟨a, ha⟩ : ∃ a', a' = a40 := ⟨_, rfl⟩
    rw [← ha] at hS ⊢; clear ha
    refine wp_ret ?_
    have e := Option.some.inj H
    subst e
    repeat (with_reducible first | refine then_ret ?_ | refine inBlock_ret ?_)
    exact c_ret1 hS Try.results8 rfl ⟨_, rfl, g39, rfl, hF⟩
  · replace H := ite_f hb35 H
    refine wp_skip ?_
    change Code.wp _ _ _ _ _
    obtain ⟨r42, hr43, H⟩ := bind_el H
    refine c_region (fun K hK => ?_)
    refine st_val hS rfl rfl rfl (r_move hS rfl rfl) fun a41 hS41 => ?_
    refine st_enter hS41 rfl rfl rfl (r_call hS41 rfl rfl (by kernel_rfl)) (law25_Some.calls (C0 := C1) (p0 := p1) (g := g6) (N + 18) (N + 0) hp1 (fun q (hq : C1 q) => by have := hC1 q hq; omega) (by omega) hr43) ?_
    rintro _ a48 w49 ⟨g49, A44, cap45, rfl, h46, F49⟩ hS48
    replace hp0 := RdS.fr hp0 F49 (by decide) (fun q (hq : C0 q) (hm : (N + 0 ≤ q ∧ q < N + 0 + 2) ∨ N + 18 ≤ q) => by have := hC0 q hq; omega)
    replace hp1 := RdS.fr hp1 F49 (by decide) (fun q (hq : C1 q) (hm : (N + 0 ≤ q ∧ q < N + 0 + 2) ∨ N + 18 ≤ q) => by have := hC1 q hq; omega)
    replace hp2 := RdS.fr hp2 F49 (by decide) (fun q (hq : C2 q) (hm : (N + 0 ≤ q ∧ q < N + 0 + 2) ∨ N + 18 ≤ q) => by have := hC2 q hq; omega)
    replace hF := hF.trans F49 (fun c' (hm : (N + 0 ≤ c' ∧ c' < N + 0 + 2) ∨ N + 18 ≤ c') => by show N ≤ c'; omega)
    refine st_val hS48 rfl rfl rfl (r_assign hS48 rfl rfl) fun a50 hS50 => wpList_nil (hK _ _ ?_)
    replace hS : Sl 143 _ [(0, .slice A0 p0.length cap0), (2, .slice A2 p2.length cap2), (7, .slice A44 r42.length cap45)] := hS50.re ⟨rfl, rfl, rfl, trivial⟩
    clear hK K
    try clear hS41 hS48 hS50
    obtain ⟨a, ha⟩ : ∃ a', a' = a50 := ⟨_, rfl⟩
    rw [← ha] at hS ⊢; clear ha
    obtain ⟨r54, hr55, H⟩ := bind_el H
    refine c_region (fun K hK => ?_)
    refine st_val hS rfl rfl rfl (r_move hS rfl rfl) fun a51 hS51 => st_val hS51 rfl rfl rfl (r_move hS51 rfl rfl) fun a52 hS52 => st_val hS52 rfl rfl rfl (r_len (e := 64) (sz := 3) (by_ := 24) hS52 rfl rfl (by kernel_rfl)) fun a53 hS53 => ?_
    refine st_enter hS53 rfl rfl rfl (r_call hS53 rfl rfl (by kernel_rfl)) (law27_Some.calls (C0 := C0) (p0 := p0) (p1 := (r42.length : Int)) (g := g49) (N + 18) (N + 2) hp0 (fun q (hq : C0 q) => by have := hC0 q hq; omega) (by omega) hr55) ?_
    rintro _ a60 w61 ⟨g61, A56, cap57, rfl, h58, F61⟩ hS60
    replace h46 := OwS.fr h46 F61 (fun c' hc (hm : (N + 2 ≤ c' ∧ c' < N + 2 + 2) ∨ N + 18 ≤ c') => by omega)
    replace hp0 := RdS.fr hp0 F61 (by decide) (fun q (hq : C0 q) (hm : (N + 2 ≤ q ∧ q < N + 2 + 2) ∨ N + 18 ≤ q) => by have := hC0 q hq; omega)
    replace hp2 := RdS.fr hp2 F61 (by decide) (fun q (hq : C2 q) (hm : (N + 2 ≤ q ∧ q < N + 2 + 2) ∨ N + 18 ≤ q) => by have := hC2 q hq; omega)
    replace hF := hF.trans F61 (fun c' (hm : (N + 2 ≤ c' ∧ c' < N + 2 + 2) ∨ N + 18 ≤ c') => by show N ≤ c'; omega)
    refine st_val hS60 rfl rfl rfl (r_assign hS60 rfl rfl) fun a62 hS62 => wpList_nil (hK _ _ ?_)
    replace hS : Sl 143 _ [(2, .slice A2 p2.length cap2), (7, .slice A44 r42.length cap45), (8, .slice A56 r54.length cap57)] := hS62.re ⟨rfl, rfl, rfl, trivial⟩
    clear hK K
    try clear hS51 hS52 hS53 hS60 hS62
    obtain ⟨a, ha⟩ : ∃ a', a' = a62 := ⟨_, rfl⟩
    rw [← ha] at hS ⊢; clear ha
    obtain ⟨r65, hr66, H⟩ := bind_el H
    refine c_region (fun K hK => ?_)
    refine st_val hS rfl rfl rfl (r_move hS rfl rfl) fun a63 hS63 => st_val hS63 rfl rfl rfl (r_move hS63 rfl rfl) fun a64 hS64 => ?_
    refine st_enter hS64 rfl rfl rfl (r_call hS64 rfl rfl (by kernel_rfl)) (device_New.calls (C0 := (fun q => q = N + 2 ∨ q = N + 2 + 1)) (C1 := (fun q => q = N + 0)) (p0 := r54) (p1 := r42) (g := g61) (N + 18) (N + 4) (OwS.rd h58) (fun q (hq : q = N + 2 ∨ q = N + 2 + 1) => by rcases hq with hq | hq; all_goals first | (omega; done) | (omega; done)) (OwD.rdf (fun _ _ _ _ _ _ h => h) h46) (fun q (hq : q = N + 0) => by omega) (by omega) hr66) ?_
    rintro _ a70 w71 ⟨g71, p67, rfl, h68, F71⟩ hS70
    replace h46 := OwS.fr h46 F71 (fun c' hc (hm : (N + 4 ≤ c' ∧ c' < N + 4 + 8) ∨ N + 18 ≤ c') => by omega)
    replace h58 := OwS.fr h58 F71 (fun c' hc (hm : (N + 4 ≤ c' ∧ c' < N + 4 + 8) ∨ N + 18 ≤ c') => by omega)
    replace hp2 := RdS.fr hp2 F71 (by decide) (fun q (hq : C2 q) (hm : (N + 4 ≤ q ∧ q < N + 4 + 8) ∨ N + 18 ≤ q) => by have := hC2 q hq; omega)
    replace hF := hF.trans F71 (fun c' (hm : (N + 4 ≤ c' ∧ c' < N + 4 + 8) ∨ N + 18 ≤ c') => by show N ≤ c'; omega)
    refine st_val hS70 rfl rfl rfl (r_move hS70 rfl rfl) fun a72 hS72 => st_val hS72 rfl rfl rfl (r_extract hS72 rfl rfl rfl) fun a73 hS73 => st_val hS73 rfl rfl rfl (r_extract hS73 rfl rfl rfl) fun a74 hS74 => st_val hS74 rfl rfl rfl (r_assign hS74 rfl rfl) fun a75 hS75 => st_val hS75 rfl rfl rfl (r_assign hS75 rfl rfl) fun a76 hS76 => wpList_nil (hK _ _ ?_)
    replace hS : Sl 143 _ [(2, .slice A2 p2.length cap2), (8, .slice A56 r54.length cap57), (9, .pointer p67), (10, .int .i64 r65.2)] := hS76.re ⟨rfl, rfl, rfl, rfl, trivial⟩
    clear hK K
    try clear hS63 hS64 hS70 hS72 hS73 hS74 hS75 hS76
    obtain ⟨a, ha⟩ : ∃ a', a' = a76 := ⟨_, rfl⟩
    rw [← ha] at hS ⊢; clear ha
    refine wp_seq ?_
    refine c_region (fun K hK => ?_)
    refine st_val hS rfl rfl rfl (r_move hS rfl rfl) fun a77 hS77 => st_val hS77 rfl rfl rfl (r_bin hS77 rfl rfl rfl b_neq) fun a78 hS78 => st_val hS78 rfl rfl rfl (r_move hS78 rfl rfl) fun a79 hS79 => ?_
    refine g_join (N := 143) 3 [(2, .slice A2 p2.length cap2), (8, .slice A56 r54.length cap57), (9, .pointer p67), (52, .bool ((r65.2 != 0) || r65.1.isNone))] ?_ (fun hk => ?_)
    rotate_left
    · rcases Bool.eq_false_or_eq_true ((r65.2 != 0)) with hb80 | hb80
      · refine st_off hS79 (want_off hS79 rfl rfl rfl hb80) rfl rfl fun a83 hS83 => st_off hS83 (want_off hS83 rfl rfl rfl hb80) rfl rfl fun a84 hS84 => st_val hS84 rfl rfl rfl (r_pickT hS84 rfl rfl rfl hb80) fun a85 hS85 => hk _ (hS85.re ⟨rfl, rfl, rfl, (by rw [hb80]; rfl), trivial⟩)
      · refine st_valW hS79 (want_on hS79 rfl rfl rfl hb80) rfl rfl (r_move hS79 rfl rfl) fun a86 hS86 => st_valW hS86 (want_on hS86 rfl rfl rfl hb80) rfl rfl (r_optEq hS86 rfl rfl (by kernel_rfl) (device_Tree_Opt.isNone h68)) fun a87 hS87 => st_val hS87 rfl rfl rfl (r_pickF hS87 rfl rfl rfl hb80) fun a88 hS88 => hk _ (hS88.re ⟨rfl, rfl, rfl, (by rw [hb80]; rfl), trivial⟩)
    intro a89 hS89
    refine wpList_nil (hK _ _ ?_)
    replace hS : Sl 143 _ [(2, .slice A2 p2.length cap2), (8, .slice A56 r54.length cap57), (9, .pointer p67), (52, .bool ((r65.2 != 0) || r65.1.isNone))] := hS89.re ⟨rfl, rfl, rfl, rfl, trivial⟩
    clear hK K
    try clear hS77 hS78 hS79 hS89
    obtain ⟨a, ha⟩ : ∃ a', a' = a89 := ⟨_, rfl⟩
    rw [← ha] at hS ⊢; clear ha
    refine c_cond hS rfl (fun hb90 => ?_) (fun hb90 => ?_)
    · replace H := ite_t hb90 H
      refine c_pure [(6, .bool false)] (fun R hR => st_val hS rfl rfl rfl (r_assign hS rfl rfl) fun a91 hS91 => wpList_nil (hR _ (hS91.re ⟨rfl, trivial⟩))) ?_
      clear hS
      clear a
      intro a hS
      refine wp_ret ?_
      have e := Option.some.inj H
      subst e
      repeat (with_reducible first | refine then_ret ?_ | refine inBlock_ret ?_)
      exact c_ret1 hS Try.results8 rfl ⟨_, rfl, g71, rfl, hF⟩
    · replace H := ite_f hb90 H
      refine wp_skip ?_
      change Code.wp _ _ _ _ _
      refine c_pure [(2, .slice A2 p2.length cap2), (8, .slice A56 r54.length cap57), (9, .pointer p67), (11, .int .u64 0)] (fun R hR => st_val hS rfl rfl rfl (r_assign hS rfl rfl) fun a92 hS92 => wpList_nil (hR _ (hS92.re ⟨rfl, rfl, rfl, rfl, trivial⟩))) ?_
      clear hS
      clear a
      intro a hS
      obtain ⟨y95, hy96, H⟩ := bind_el H
      refine c_region (fun K hK => ?_)
      refine st_val hS rfl rfl rfl (r_move hS rfl rfl) fun a93 hS93 => st_val hS93 rfl rfl rfl (r_len (e := 33) (sz := 13) (by_ := 168) hS93 rfl rfl (by kernel_rfl)) fun a94 hS94 => ?_
      refine st_eff hS94 rfl rfl rfl (e_make (e := 3) (sz := 1) (by_ := 8) (z := [.int .i64 0]) (kd := (kint .i64)) (N + 12) g71 hS94 rfl rfl (by kernel_rfl) (by kernel_rfl) rfl rfl rfl (fun _ _ _ => by exact rfl) hy96) ?_
      rintro _ a101 w102 g102 ⟨⟨A97, cap98, rfl, h99⟩, F102⟩ hS101
      replace h58 := OwS.fr h58 F102 (fun _ _ h => h)
      replace h68 := device_Tree_Opt.fr h68 F102 (fun _ _ _ h => h) (fun _ _ h => h)
      replace hp2 := RdS.fr hp2 F102 (by decide) (fun _ _ h => h)
      replace hF := hF.trans F102 (fun _ h => h.elim)
      refine st_val hS101 rfl rfl rfl (r_assign hS101 rfl rfl) fun a103 hS103 => wpList_nil (hK _ _ ?_)
      replace hS : Sl 143 _ [(2, .slice A2 p2.length cap2), (8, .slice A56 r54.length cap57), (9, .pointer p67), (11, .int .u64 0), (12, .slice A97 y95.length cap98)] := hS103.re ⟨rfl, rfl, rfl, rfl, rfl, trivial⟩
      clear hK K
      try clear hS93 hS94 hS101 hS103
      obtain ⟨a, ha⟩ : ∃ a', a' = a103 := ⟨_, rfl⟩
      rw [← ha] at hS ⊢; clear ha
      obtain ⟨v118, H, Hl120⟩ := bind_el H
      refine c_cut (fun a w104 => ∃ (g104 : Nat → Nat), ∃ (b105 : Nat), ∃ (A107 : Option Addr), ∃ (cap108 : Nat), ∃ (A110 : Option Addr), ∃ (cap111 : Nat), ∃ (b113 : Nat), ∃ (A115 : Option Addr), ∃ (cap116 : Nat), Sl 143 a [(2, .slice A2 p2.length cap2), (8, .slice A56 r54.length cap57), (9, .pointer (some ⟨b105, 0, none⟩)), (11, .int .u64 0), (12, .slice A97 v118.2.2.2.2.2.length cap98)] ∧ OwS (kint .i64) 3 w104 g104 (N + 12) A97 cap98 v118.2.2.2.2.2 ∧ OwS kd_api_PowerDevice 33 w104 g104 (N + 2) A56 cap57 r54 ∧ OwS kd_rails_rail 105 w104 g104 (N + 4 + 3 + 1) A115 cap116 v118.2.2.1 ∧ RdS kd_api_PowerDevice w104 g104 (fun q => (fun q => q = N + 2 ∨ q = N + 2 + 1) q ∨ q = N + 4 + 6 ∨ q = N + 4 + 6 + 1) A107 cap108 v118.1 ∧ OwS (kint .i64) 3 w104 g104 (N + 4 + 1) A110 cap111 v118.2.1 ∧ Bx w104 g104 (N + 4 + 3) b113 100 [.slice A115 v118.2.2.1.length cap116, .int .u64 v118.2.2.2.1] ∧ Bx w104 g104 (N + 4) b105 90 [.slice A107 v118.1.length cap108, .slice A110 v118.2.1.length cap111, .pointer (some ⟨b113, 0, none⟩), .int .u64 v118.2.2.2.2.1] ∧ RdS kd_law27_Call w104 g104 C2 A2 cap2 p2 ∧ Fr (fun q => N ≤ q) w g w104 g104) ?_ ?_
      · refine c_pure [(2, .slice A2 p2.length cap2), (8, .slice A56 r54.length cap57), (9, .pointer p67), (11, .int .u64 0), (12, .slice A97 y95.length cap98), (13, .int .i64 0)] (fun R hR => st_val hS rfl rfl rfl (r_assign hS rfl rfl) fun a121 hS121 => wpList_nil (hR _ (hS121.re ⟨rfl, rfl, rfl, rfl, rfl, rfl, trivial⟩))) ?_
        clear hS
        clear a
        intro a hS
        refine wp_block ?_
        obtain ⟨st122, hst123, H⟩ := bind_el H
        rw [hst123] at h68
        obtain ⟨b125, A128, cap129, A132, cap133, b136, A139, cap140, hp124, h126, h130, h134, ⟨h137, h141⟩⟩ := h68
        subst hp124
        refine wp_loop_ghost (fun kq => fun a w143 => ∃ (m0_0 : List Int), ∃ (m0_1 : Int), ∃ (g143 : Nat → Nat), law27_DeviceHierarchy.l0 r54 st122 kq m0_0 m0_1 = some v118 ∧ Sl 143 a [(2, .slice A2 p2.length cap2), (8, .slice A56 r54.length cap57), (9, .pointer (some ⟨b125, 0, none⟩)), (11, .int .u64 0), (12, .slice A97 m0_0.length cap98), (13, .int .i64 m0_1)] ∧ OwS (kint .i64) 3 w143 g143 (N + 12) A97 cap98 m0_0 ∧ Bx w143 g143 (N + 4) b125 90 [.slice A128 st122.devices.length cap129, .slice A132 st122.state.length cap133, .pointer (some ⟨b136, 0, none⟩), .int .u64 st122.now] ∧ RdS kd_api_PowerDevice w143 g143 (fun q => (fun q => q = N + 2 ∨ q = N + 2 + 1) q ∨ q = N + 4 + 6 ∨ q = N + 4 + 6 + 1) A128 cap129 st122.devices ∧ OwS (kint .i64) 3 w143 g143 (N + 4 + 1) A132 cap133 st122.state ∧ Bx w143 g143 (N + 4 + 3) b136 100 [.slice A139 st122.rails.list.length cap140, .int .u64 st122.rails.now] ∧ OwS kd_rails_rail 105 w143 g143 (N + 4 + 3 + 1) A139 cap140 st122.rails.list ∧ OwS kd_api_PowerDevice 33 w143 g143 (N + 2) A56 cap57 r54 ∧ RdS kd_law27_Call w143 g143 C2 A2 cap2 p2 ∧ Fr (fun q => N ≤ q) w g w143 g143) FUEL ?_ ?_
        · exact ⟨y95, 0, g102, H, hS.re ⟨rfl, rfl, rfl, rfl, rfl, rfl, trivial⟩, h99, h126, h130, h134, h137, h141, h58, hp2, hF⟩
        · clear H
          clear hp2 h58 h99 h130 h134 h141 h137 h126 hF
          clear hS
          rintro k144 a w143 ⟨m0_0, m0_1, g143, hpre0, hS, h99, h126, h130, h134, h137, h141, h58, hp2, hF⟩
          have H := hpre0
          clear hpre0
          cases k144 with
          | zero => exact absurd H (by simp [law27_DeviceHierarchy.l0])
          | succ k144 =>
            rw [law27_DeviceHierarchy.l0] at H
            refine wp_seq ?_
            refine c_pure [(2, .slice A2 p2.length cap2), (8, .slice A56 r54.length cap57), (9, .pointer (some ⟨b125, 0, none⟩)), (11, .int .u64 0), (12, .slice A97 m0_0.length cap98), (13, .int .i64 m0_1), (59, .bool (decide (m0_1 < (r54.length : Int))))] (fun R hR => st_val hS rfl rfl rfl (r_move hS rfl rfl) fun a145 hS145 => st_val hS145 rfl rfl rfl (r_move hS145 rfl rfl) fun a146 hS146 => st_val hS146 rfl rfl rfl (r_len (e := 33) (sz := 13) (by_ := 168) hS146 rfl rfl (by kernel_rfl)) fun a147 hS147 => st_val hS147 rfl rfl rfl (r_bin hS147 rfl rfl rfl b_lss) fun a148 hS148 => wpList_nil (hR _ (hS148.re ⟨rfl, rfl, rfl, rfl, rfl, rfl, rfl, trivial⟩))) ?_
            clear hS
            clear a
            intro a hS
            refine c_cond hS rfl (fun hb149 => ?_) (fun hb149 => ?_)
            · replace H := ite_t hb149 H
              refine wp_skip ?_
              change Code.wp _ _ _ _ _
              refine wp_seq ?_
              refine wp_block ?_
              obtain ⟨x152, hx153, H⟩ := bind_el H
              refine c_region1 (fun K hK => ?_)
              refine st_val hS rfl rfl rfl (r_move hS rfl rfl) fun a150 hS150 => st_val hS150 rfl rfl rfl (r_move hS150 rfl rfl) fun a151 hS151 => st_val hS151 rfl rfl rfl (r_index (e := 3) (sz := 1) (by_ := 8) hS151 rfl rfl rfl (by kernel_rfl) (RdS.some_ (OwS.rd h99) hx153) (idx_lo hx153) (idx_hi hx153)) fun a154 hS154 => ?_
              refine st_effS hS154 rfl rfl (e_storeE (n := 1) (bb := false) (kd := (kint .i64)) (j := 0) (x' := 4) (us := [.int .i64 4]) g143 hS154 rfl rfl rfl rfl (by kernel_rfl) rfl rfl (by intro v hv; simp only [List.mem_cons, List.not_mem_nil, or_false] at hv; rcases hv with rfl <;> rfl) h99 hx153 rfl (fun _ _ cs hR => by rw [show cs = _ from hR]; rfl)) ?_
              rintro a155 w156 g156 ⟨h99, F156⟩ hS155
              replace h126 := h126.fr F156 (fun (hm : N + 4 = N + 12) => by omega)
              replace h130 := RdS.fr h130 F156 (by decide) (fun q (hq : (fun q => q = N + 2 ∨ q = N + 2 + 1) q ∨ q = N + 4 + 6 ∨ q = N + 4 + 6 + 1) (hm : q = N + 12) => by rcases hq with hq | hq | hq; all_goals first | (have := (fun q (h : q = N + 2 ∨ q = N + 2 + 1) => h) q hq; omega; done) | (omega; done) | (omega; done))
              replace h134 := OwS.fr h134 F156 (fun c' hc (hm : c' = N + 12) => by omega)
              replace h137 := h137.fr F156 (fun (hm : N + 4 + 3 = N + 12) => by omega)
              replace h141 := OwS.fr h141 F156 (fun c' hc (hm : c' = N + 12) => by omega)
              replace h58 := OwS.fr h58 F156 (fun c' hc (hm : c' = N + 12) => by omega)
              replace hp2 := RdS.fr hp2 F156 (by decide) (fun q (hq : C2 q) (hm : q = N + 12) => by have := hC2 q hq; omega)
              replace hF := hF.trans F156 (fun c' (hm : c' = N + 12) => by show N ≤ c'; omega)
              have hT : Sl 143 a155 [(2, .slice A2 p2.length cap2), (8, .slice A56 r54.length cap57), (9, .pointer (some ⟨b125, 0, none⟩)), (11, .int .u64 0), (12, .slice A97 m0_0.length cap98), (13, .int .i64 m0_1)] := hS155.re ⟨rfl, rfl, rfl, rfl, rfl, rfl, trivial⟩
              replace hS155 : Sl 143 a155 [(2, .slice A2 p2.length cap2), (8, .slice A56 r54.length cap57), (9, .pointer (some ⟨b125, 0, none⟩)), (11, .int .u64 0), (12, .slice A97 (upd m0_0 m0_1 4).length cap98), (13, .int .i64 m0_1)] := by simpa only [upd_length] using hT
              clear hT
              refine wpList_nil (hK _ _ ?_)
              replace hS : Sl 143 _ [(2, .slice A2 p2.length cap2), (8, .slice A56 r54.length cap57), (9, .pointer (some ⟨b125, 0, none⟩)), (11, .int .u64 0), (12, .slice A97 (upd m0_0 m0_1 4).length cap98), (13, .int .i64 m0_1)] := hS155.re ⟨rfl, rfl, rfl, rfl, rfl, rfl, trivial⟩
              clear hK K
              try clear hS150 hS151 hS154 hS155
              obtain ⟨a, ha⟩ : ∃ a', a' = a155 := ⟨_, rfl⟩
              rw [← ha] at hS ⊢; clear ha
              change Code.wp _ _ _ _ _
              refine c_pure1 [(2, .slice A2 p2.length cap2), (8, .slice A56 r54.length cap57), (9, .pointer (some ⟨b125, 0, none⟩)), (11, .int .u64 0), (12, .slice A97 (upd m0_0 m0_1 4).length cap98), (13, .int .i64 (wi (m0_1 + 1)))] (fun R hR => st_val hS rfl rfl rfl (r_move hS rfl rfl) fun a157 hS157 => st_val hS157 rfl rfl rfl (r_bin hS157 rfl rfl rfl b_add) fun a158 hS158 => st_val hS158 rfl rfl rfl (r_assign hS158 rfl rfl) fun a159 hS159 => wpList_nil (hR _ (hS159.re ⟨rfl, rfl, rfl, rfl, rfl, rfl, trivial⟩))) ?_
              clear hS
              clear a
              intro a hS
              refine ⟨k144, Nat.lt_succ_self _, ?_⟩
              exact ⟨(upd m0_0 m0_1 4), wi (m0_1 + 1), g156, H, hS.re ⟨rfl, rfl, rfl, rfl, rfl, rfl, trivial⟩, h99, h126, h130, h134, h137, h141, h58, hp2, hF⟩
            · replace H := ite_f hb149 H
              refine wp_exit ?_
              have e := Option.some.inj H
              subst e
              exact ⟨g143, b125, A128, cap129, A132, cap133, b136, A139, cap140, hS.re ⟨rfl, rfl, rfl, rfl, rfl, trivial⟩, h99, h58, h141, h130, h134, h137, h126, hp2, hF⟩
      · clear H
        clear hp2 h58 h68 h99 hF
        clear hS
        rintro a w104 ⟨g104, b105, A107, cap108, A110, cap111, b113, A115, cap116, hS, h99, h58, h117, h109, h112, h114, h106, hp2, hF⟩
        have H := Hl120
        clear Hl120
        obtain ⟨o162, H, Hl163⟩ := bind_el H
        refine c_cut (fun a w160 => ∃ (g160 : Nat → Nat), o162 = .nxt () ∧ Sl 143 a [] ∧ Fr (fun q => N ≤ q) w g w160 g160) ?_ ?_
        · refine c_pure [(2, .slice A2 p2.length cap2), (8, .slice A56 r54.length cap57), (9, .pointer (some ⟨b105, 0, none⟩)), (11, .int .u64 0), (12, .slice A97 v118.2.2.2.2.2.length cap98), (14, .int .i64 0)] (fun R hR => st_val hS rfl rfl rfl (r_assign hS rfl rfl) fun a164 hS164 => wpList_nil (hR _ (hS164.re ⟨rfl, rfl, rfl, rfl, rfl, rfl, trivial⟩))) ?_
          clear hS
          clear a
          intro a hS
          refine wp_block ?_
          refine wp_loop_ghost (fun kq => fun a w165 => ∃ (m1_0 : device_Tree), ∃ (m1_1 : rails_Rails), ∃ (m1_2 : Int), ∃ (m1_3 : List Int), ∃ (m1_4 : Int), ∃ (g165 : Nat → Nat), law27_DeviceHierarchy.l1 p2 r54 kq m1_0 m1_1 m1_2 m1_3 m1_4 = some o162 ∧ Sl 143 a [(2, .slice A2 p2.length cap2), (8, .slice A56 r54.length cap57), (9, .pointer (some ⟨b105, 0, none⟩)), (11, .int .u64 m1_2), (12, .slice A97 m1_3.length cap98), (14, .int .i64 m1_4)] ∧ OwS (kint .i64) 3 w165 g165 (N + 12) A97 cap98 m1_3 ∧ OwS kd_api_PowerDevice 33 w165 g165 (N + 2) A56 cap57 r54 ∧ OwS kd_rails_rail 105 w165 g165 (N + 4 + 3 + 1) A115 cap116 m1_1.list ∧ RdS kd_api_PowerDevice w165 g165 (fun q => (fun q => q = N + 2 ∨ q = N + 2 + 1) q ∨ q = N + 4 + 6 ∨ q = N + 4 + 6 + 1) A107 cap108 m1_0.devices ∧ OwS (kint .i64) 3 w165 g165 (N + 4 + 1) A110 cap111 m1_0.state ∧ Bx w165 g165 (N + 4 + 3) b113 100 [.slice A115 m1_1.list.length cap116, .int .u64 m1_1.now] ∧ Bx w165 g165 (N + 4) b105 90 [.slice A107 m1_0.devices.length cap108, .slice A110 m1_0.state.length cap111, .pointer (some ⟨b113, 0, none⟩), .int .u64 m1_0.now] ∧ RdS kd_law27_Call w165 g165 C2 A2 cap2 p2 ∧ Fr (fun q => N ≤ q) w g w165 g165) FUEL ?_ ?_
          · exact ⟨(device_Tree.mk v118.1 v118.2.1 (rails_Rails.mk v118.2.2.1 v118.2.2.2.1) v118.2.2.2.2.1), (rails_Rails.mk v118.2.2.1 v118.2.2.2.1), 0, v118.2.2.2.2.2, 0, g104, H, hS.re ⟨rfl, rfl, rfl, rfl, rfl, rfl, trivial⟩, h99, h58, h117, h109, h112, h114, h106, hp2, hF⟩
          · clear H
            clear hp2 h58 h99 h109 h112 h117 h114 h106 hF
            clear hS
            rintro k166 a w165 ⟨m1_0, m1_1, m1_2, m1_3, m1_4, g165, hpre0, hS, h99, h58, h117, h109, h112, h114, h106, hp2, hF⟩
            have H := hpre0
            clear hpre0
            cases k166 with
            | zero => exact absurd H (by simp [law27_DeviceHierarchy.l1])
            | succ k166 =>
              rw [law27_DeviceHierarchy.l1] at H
              refine wp_seq ?_
              refine c_region (fun K hK => ?_)
              refine st_val hS rfl rfl rfl (r_move hS rfl rfl) fun a167 hS167 => st_val hS167 rfl rfl rfl (r_move hS167 rfl rfl) fun a168 hS168 => st_val hS168 rfl rfl rfl (r_len (e := 55) (sz := 4) (by_ := 32) hS168 rfl rfl (by kernel_rfl)) fun a169 hS169 => st_val hS169 rfl rfl rfl (r_bin hS169 rfl rfl rfl b_lss) fun a170 hS170 => st_val hS170 rfl rfl rfl (r_move hS170 rfl rfl) fun a171 hS171 => ?_
              refine g_join (N := 143) 4 [(2, .slice A2 p2.length cap2), (8, .slice A56 r54.length cap57), (9, .pointer (some ⟨b105, 0, none⟩)), (11, .int .u64 m1_2), (12, .slice A97 m1_3.length cap98), (14, .int .i64 m1_4), (73, .bool ((decide (m1_4 < (p2.length : Int))) && (decide (0 < (r54.length : Int)))))] ?_ (fun hk => ?_)
              rotate_left
              · rcases Bool.eq_false_or_eq_true (decide (m1_4 < (p2.length : Int))) with hb172 | hb172
                · refine st_valW hS171 (want_on hS171 rfl rfl rfl hb172) rfl rfl (r_move hS171 rfl rfl) fun a176 hS176 => st_valW hS176 (want_on hS176 rfl rfl rfl hb172) rfl rfl (r_len (e := 33) (sz := 13) (by_ := 168) hS176 rfl rfl (by kernel_rfl)) fun a177 hS177 => st_valW hS177 (want_on hS177 rfl rfl rfl hb172) rfl rfl (r_bin hS177 rfl rfl rfl b_gtr) fun a178 hS178 => st_val hS178 rfl rfl rfl (r_pickT hS178 rfl rfl rfl hb172) fun a179 hS179 => hk _ (hS179.re ⟨rfl, rfl, rfl, rfl, rfl, rfl, (by rw [hb172]; rfl), trivial⟩)
                · refine st_off hS171 (want_off hS171 rfl rfl rfl hb172) rfl rfl fun a180 hS180 => st_off hS180 (want_off hS180 rfl rfl rfl hb172) rfl rfl fun a181 hS181 => st_off hS181 (want_off hS181 rfl rfl rfl hb172) rfl rfl fun a182 hS182 => st_val hS182 rfl rfl rfl (r_pickF hS182 rfl rfl rfl hb172) fun a183 hS183 => hk _ (hS183.re ⟨rfl, rfl, rfl, rfl, rfl, rfl, (by rw [hb172]; rfl), trivial⟩)
              intro a184 hS184
              refine wpList_nil (hK _ _ ?_)
              replace hS : Sl 143 _ [(2, .slice A2 p2.length cap2), (8, .slice A56 r54.length cap57), (9, .pointer (some ⟨b105, 0, none⟩)), (11, .int .u64 m1_2), (12, .slice A97 m1_3.length cap98), (14, .int .i64 m1_4), (73, .bool ((decide (m1_4 < (p2.length : Int))) && (decide (0 < (r54.length : Int)))))] := hS184.re ⟨rfl, rfl, rfl, rfl, rfl, rfl, rfl, trivial⟩
              clear hK K
              try clear hS167 hS168 hS169 hS170 hS171 hS184
              obtain ⟨a, ha⟩ : ∃ a', a' = a184 := ⟨_, rfl⟩
              rw [← ha] at hS ⊢; clear ha
              refine c_cond hS rfl (fun hb185 => ?_) (fun hb185 => ?_)
              · replace H := ite_t hb185 H
                refine wp_skip ?_
                change Code.wp _ _ _ _ _
                obtain ⟨o188, H, Hl189⟩ := bind_el H
                refine c_cut (fun a w186 => ∃ (v187 : device_Tree × rails_Rails × Int × (List Int)), ∃ (g186 : Nat → Nat), o188 = .nxt v187 ∧ Sl 143 a [(2, .slice A2 p2.length cap2), (8, .slice A56 r54.length cap57), (9, .pointer (some ⟨b105, 0, none⟩)), (11, .int .u64 v187.2.2.1), (12, .slice A97 v187.2.2.2.length cap98), (14, .int .i64 m1_4)] ∧ OwS (kint .i64) 3 w186 g186 (N + 12) A97 cap98 v187.2.2.2 ∧ OwS kd_api_PowerDevice 33 w186 g186 (N + 2) A56 cap57 r54 ∧ OwS kd_rails_rail 105 w186 g186 (N + 4 + 3 + 1) A115 cap116 v187.2.1.list ∧ RdS kd_api_PowerDevice w186 g186 (fun q => (fun q => q = N + 2 ∨ q = N + 2 + 1) q ∨ q = N + 4 + 6 ∨ q = N + 4 + 6 + 1) A107 cap108 v187.1.devices ∧ OwS (kint .i64) 3 w186 g186 (N + 4 + 1) A110 cap111 v187.1.state ∧ Bx w186 g186 (N + 4 + 3) b113 100 [.slice A115 v187.2.1.list.length cap116, .int .u64 v187.2.1.now] ∧ Bx w186 g186 (N + 4) b105 90 [.slice A107 v187.1.devices.length cap108, .slice A110 v187.1.state.length cap111, .pointer (some ⟨b113, 0, none⟩), .int .u64 v187.1.now] ∧ RdS kd_law27_Call w186 g186 C2 A2 cap2 p2 ∧ Fr (fun q => N ≤ q) w g w186 g186) ?_ ?_
                · refine wp_block ?_
                  obtain ⟨x192, hx193, H⟩ := bind_el H
                  refine c_region (fun K hK => ?_)
                  refine st_val hS rfl rfl rfl (r_move hS rfl rfl) fun a190 hS190 => st_val hS190 rfl rfl rfl (r_move hS190 rfl rfl) fun a191 hS191 => st_val hS191 rfl rfl rfl (r_index (e := 55) (sz := 4) (by_ := 32) hS191 rfl rfl rfl (by kernel_rfl) (RdS.some_ hp2 hx193) (idx_lo hx193) (idx_hi hx193)) fun a194 hS194 => st_val hS194 rfl rfl rfl (r_loadN (n := 4) (cs := [.int .i64 x192.Device, .int .i64 x192.State, .int .u64 x192.Wait, .bool x192.Raw]) hS194 rfl rfl (by kernel_rfl) rfl (RdS.cells_off hp2 hx193 0 4)) fun a195 hS195 => ?_
                  refine st_eff hS195 rfl rfl rfl (e_alloc (cs := [.int .i64 0, .int .i64 0, .int .u64 0, .bool false]) (N + 14) g165 hS195 rfl (by kernel_rfl)) ?_
                  rintro _ a199 w200 g200 ⟨⟨b196, rfl, h197⟩, F200⟩ hS199
                  replace h99 := OwS.fr h99 F200 (fun _ _ h => h)
                  replace h58 := OwS.fr h58 F200 (fun _ _ h => h)
                  replace h117 := OwS.fr h117 F200 (fun _ _ h => h)
                  replace h109 := RdS.fr h109 F200 (by decide) (fun _ _ h => h)
                  replace h112 := OwS.fr h112 F200 (fun _ _ h => h)
                  replace h114 := h114.fr F200 (fun h => h)
                  replace h106 := h106.fr F200 (fun h => h)
                  replace hp2 := RdS.fr hp2 F200 (by decide) (fun _ _ h => h)
                  replace hF := hF.trans F200 (fun _ h => h.elim)
                  refine st_effS hS199 rfl rfl (e_storeB (n := 4) (bb := true) (cs' := [.int .i64 x192.Device, .int .i64 x192.State, .int .u64 x192.Wait, .bool x192.Raw]) g200 hS199 rfl rfl rfl (by kernel_rfl) rfl rfl rfl h197 rfl rfl) ?_
                  rintro a201 w202 g202 ⟨h197, F202⟩ hS201
                  replace h99 := OwS.fr h99 F202 (fun c' hc (hm : c' = N + 14) => by omega)
                  replace h58 := OwS.fr h58 F202 (fun c' hc (hm : c' = N + 14) => by omega)
                  replace h117 := OwS.fr h117 F202 (fun c' hc (hm : c' = N + 14) => by omega)
                  replace h109 := RdS.fr h109 F202 (by decide) (fun q (hq : (fun q => q = N + 2 ∨ q = N + 2 + 1) q ∨ q = N + 4 + 6 ∨ q = N + 4 + 6 + 1) (hm : q = N + 14) => by rcases hq with hq | hq | hq; all_goals first | (have := (fun q (h : q = N + 2 ∨ q = N + 2 + 1) => h) q hq; omega; done) | (omega; done) | (omega; done))
                  replace h112 := OwS.fr h112 F202 (fun c' hc (hm : c' = N + 14) => by omega)
                  replace h114 := h114.fr F202 (fun (hm : N + 4 + 3 = N + 14) => by omega)
                  replace h106 := h106.fr F202 (fun (hm : N + 4 = N + 14) => by omega)
                  replace hp2 := RdS.fr hp2 F202 (by decide) (fun q (hq : C2 q) (hm : q = N + 14) => by have := hC2 q hq; omega)
                  replace hF := hF.trans F202 (fun c' (hm : c' = N + 14) => by show N ≤ c'; omega)
                  refine wpList_nil (hK _ _ ?_)
                  replace hS : Sl 143 _ [(2, .slice A2 p2.length cap2), (8, .slice A56 r54.length cap57), (9, .pointer (some ⟨b105, 0, none⟩)), (11, .int .u64 m1_2), (12, .slice A97 m1_3.length cap98), (14, .int .i64 m1_4), (15, .pointer (some ⟨b196, 0, none⟩))] := hS201.re ⟨rfl, rfl, rfl, rfl, rfl, rfl, rfl, trivial⟩
                  clear hK K
                  try clear hS190 hS191 hS194 hS195 hS199 hS201
                  obtain ⟨a, ha⟩ : ∃ a', a' = a201 := ⟨_, rfl⟩
                  rw [← ha] at hS ⊢; clear ha
                  refine c_region (fun K hK => ?_)
                  refine st_val hS rfl rfl rfl (r_fieldB (off := 3) hS rfl rfl (by kernel_rfl)) fun a203 hS203 => ?_
                  refine st_effS hS203 rfl rfl (e_storeB (n := 1) (bb := false) (cs' := [.int .i64 x192.Device, .int .i64 x192.State, .int .u64 x192.Wait, .bool false]) g202 hS203 rfl rfl rfl (by kernel_rfl) rfl rfl rfl h197 rfl rfl) ?_
                  rintro a204 w205 g205 ⟨h197, F205⟩ hS204
                  replace h99 := OwS.fr h99 F205 (fun c' hc (hm : c' = N + 14) => by omega)
                  replace h58 := OwS.fr h58 F205 (fun c' hc (hm : c' = N + 14) => by omega)
                  replace h117 := OwS.fr h117 F205 (fun c' hc (hm : c' = N + 14) => by omega)
                  replace h109 := RdS.fr h109 F205 (by decide) (fun q (hq : (fun q => q = N + 2 ∨ q = N + 2 + 1) q ∨ q = N + 4 + 6 ∨ q = N + 4 + 6 + 1) (hm : q = N + 14) => by rcases hq with hq | hq | hq; all_goals first | (have := (fun q (h : q = N + 2 ∨ q = N + 2 + 1) => h) q hq; omega; done) | (omega; done) | (omega; done))
                  replace h112 := OwS.fr h112 F205 (fun c' hc (hm : c' = N + 14) => by omega)
                  replace h114 := h114.fr F205 (fun (hm : N + 4 + 3 = N + 14) => by omega)
                  replace h106 := h106.fr F205 (fun (hm : N + 4 = N + 14) => by omega)
                  replace hp2 := RdS.fr hp2 F205 (by decide) (fun q (hq : C2 q) (hm : q = N + 14) => by have := hC2 q hq; omega)
                  replace hF := hF.trans F205 (fun c' (hm : c' = N + 14) => by show N ≤ c'; omega)
                  refine wpList_nil (hK _ _ ?_)
                  replace hS : Sl 143 _ [(2, .slice A2 p2.length cap2), (8, .slice A56 r54.length cap57), (9, .pointer (some ⟨b105, 0, none⟩)), (11, .int .u64 m1_2), (12, .slice A97 m1_3.length cap98), (14, .int .i64 m1_4), (15, .pointer (some ⟨b196, 0, none⟩))] := hS204.re ⟨rfl, rfl, rfl, rfl, rfl, rfl, rfl, trivial⟩
                  clear hK K
                  try clear hS203 hS204
                  obtain ⟨a, ha⟩ : ∃ a', a' = a204 := ⟨_, rfl⟩
                  rw [← ha] at hS ⊢; clear ha
                  obtain ⟨r210, hr211, H⟩ := bind_el H
                  refine c_region (fun K hK => ?_)
                  refine st_val hS rfl rfl rfl (r_loadN (n := 4) (cs := [.int .i64 x192.Device, .int .i64 x192.State, .int .u64 x192.Wait, .bool false]) hS rfl rfl (by kernel_rfl) rfl (Bx.cells_off h197 0 4)) fun a206 hS206 => st_val hS206 rfl rfl rfl (r_move hS206 rfl rfl) fun a207 hS207 => st_val hS207 rfl rfl rfl (r_len (e := 33) (sz := 13) (by_ := 168) hS207 rfl rfl (by kernel_rfl)) fun a208 hS208 => st_val hS208 rfl rfl rfl (r_move hS208 rfl rfl) fun a209 hS209 => ?_
                  refine st_enter hS209 rfl rfl rfl (r_call hS209 rfl rfl (by kernel_rfl)) (law27_Call_at.calls (p0 := (law27_Call.mk x192.Device x192.State x192.Wait false)) (p1 := (r54.length : Int)) (p2 := m1_2) (g := g205) (N + 18)   hr211) ?_
                  rintro _ a212 w213 ⟨g213, rfl, F213⟩ hS212
                  replace h99 := OwS.fr h99 F213 (fun c' hc (hm : N + 18 ≤ c') => by omega)
                  replace h197 := h197.fr F213 (fun (hm : N + 18 ≤ N + 14) => by omega)
                  replace h58 := OwS.fr h58 F213 (fun c' hc (hm : N + 18 ≤ c') => by omega)
                  replace h117 := OwS.fr h117 F213 (fun c' hc (hm : N + 18 ≤ c') => by omega)
                  replace h109 := RdS.fr h109 F213 (by decide) (fun q (hq : (fun q => q = N + 2 ∨ q = N + 2 + 1) q ∨ q = N + 4 + 6 ∨ q = N + 4 + 6 + 1) (hm : N + 18 ≤ q) => by rcases hq with hq | hq | hq; all_goals first | (have := (fun q (h : q = N + 2 ∨ q = N + 2 + 1) => h) q hq; omega; done) | (omega; done) | (omega; done))
                  replace h112 := OwS.fr h112 F213 (fun c' hc (hm : N + 18 ≤ c') => by omega)
                  replace h114 := h114.fr F213 (fun (hm : N + 18 ≤ N + 4 + 3) => by omega)
                  replace h106 := h106.fr F213 (fun (hm : N + 18 ≤ N + 4) => by omega)
                  replace hp2 := RdS.fr hp2 F213 (by decide) (fun q (hq : C2 q) (hm : N + 18 ≤ q) => by have := hC2 q hq; omega)
                  replace hF := hF.trans F213 (fun c' (hm : N + 18 ≤ c') => by show N ≤ c'; omega)
                  refine st_val hS212 rfl rfl rfl (r_move hS212 rfl rfl) fun a214 hS214 => st_val hS214 rfl rfl rfl (r_extract hS214 rfl rfl rfl) fun a215 hS215 => st_val hS215 rfl rfl rfl (r_extract hS215 rfl rfl rfl) fun a216 hS216 => st_val hS216 rfl rfl rfl (r_extract hS216 rfl rfl rfl) fun a217 hS217 => st_val hS217 rfl rfl rfl (r_assign hS217 rfl rfl) fun a218 hS218 => st_val hS218 rfl rfl rfl (r_assign hS218 rfl rfl) fun a219 hS219 => st_val hS219 rfl rfl rfl (r_assign hS219 rfl rfl) fun a220 hS220 => wpList_nil (hK _ _ ?_)
                  replace hS : Sl 143 _ [(2, .slice A2 p2.length cap2), (8, .slice A56 r54.length cap57), (9, .pointer (some ⟨b105, 0, none⟩)), (11, .int .u64 m1_2), (12, .slice A97 m1_3.length cap98), (14, .int .i64 m1_4), (16, .int .i64 r210.1), (17, .int .i64 r210.2.1), (18, .int .u64 r210.2.2)] := hS220.re ⟨rfl, rfl, rfl, rfl, rfl, rfl, rfl, rfl, rfl, trivial⟩
                  clear hK K
                  try clear hS206 hS207 hS208 hS209 hS212 hS214 hS215 hS216 hS217 hS218 hS219 hS220
                  obtain ⟨a, ha⟩ : ∃ a', a' = a220 := ⟨_, rfl⟩
                  rw [← ha] at hS ⊢; clear ha
                  obtain ⟨r225, hr226, H⟩ := bind_el H
                  refine c_region (fun K hK => ?_)
                  refine st_val hS rfl rfl rfl (r_move hS rfl rfl) fun a221 hS221 => st_val hS221 rfl rfl rfl (r_move hS221 rfl rfl) fun a222 hS222 => st_val hS222 rfl rfl rfl (r_move hS222 rfl rfl) fun a223 hS223 => st_val hS223 rfl rfl rfl (r_move hS223 rfl rfl) fun a224 hS224 => ?_
                  refine st_enter hS224 rfl rfl rfl (r_call hS224 rfl rfl (by kernel_rfl)) (device_Tree_Set.calls (c0 := N + 4) (b_p0 := b105) (A_devices_p0 := A107) (cap_devices_p0 := cap108) (C_devices_p0 := (fun q => (fun q => q = N + 2 ∨ q = N + 2 + 1) q ∨ q = N + 4 + 6 ∨ q = N + 4 + 6 + 1)) (A_state_p0 := A110) (cap_state_p0 := cap111) (b_rails_p0 := b113) (A_rails_list_p0 := A115) (cap_rails_list_p0 := cap116) (p0 := (device_Tree.mk m1_0.devices m1_0.state m1_1 m1_0.now)) (p1 := r210.1) (p2 := r210.2.1) (p3 := r210.2.2) (g := g213) (N + 18) (N + 16) ⟨h106, h109, h112, ⟨h114, h117⟩⟩ (by omega) (fun q (hq : (fun q => q = N + 2 ∨ q = N + 2 + 1) q ∨ q = N + 4 + 6 ∨ q = N + 4 + 6 + 1) => by rcases hq with hq | hq | hq; all_goals first | (have := (fun q (h : q = N + 2 ∨ q = N + 2 + 1) => h) q hq; omega; done) | (omega; done) | (omega; done)) (by omega) (by omega) hr226) ?_
                  rintro _ a231 w232 ⟨g232, A227, cap228, rfl, ⟨h106, h109, h112, ⟨h114, h117⟩⟩, h229, F232⟩ hS231
                  replace h99 := OwS.fr h99 F232 (fun c' hc (hm : (N + 4 ≤ c' ∧ c' < N + 4 + 6) ∨ (N + 16 ≤ c' ∧ c' < N + 16 + 2) ∨ N + 18 ≤ c') => by omega)
                  replace h58 := OwS.fr h58 F232 (fun c' hc (hm : (N + 4 ≤ c' ∧ c' < N + 4 + 6) ∨ (N + 16 ≤ c' ∧ c' < N + 16 + 2) ∨ N + 18 ≤ c') => by omega)
                  replace hp2 := RdS.fr hp2 F232 (by decide) (fun q (hq : C2 q) (hm : (N + 4 ≤ q ∧ q < N + 4 + 6) ∨ (N + 16 ≤ q ∧ q < N + 16 + 2) ∨ N + 18 ≤ q) => by have := hC2 q hq; omega)
                  replace hF := hF.trans F232 (fun c' (hm : (N + 4 ≤ c' ∧ c' < N + 4 + 6) ∨ (N + 16 ≤ c' ∧ c' < N + 16 + 2) ∨ N + 18 ≤ c') => by show N ≤ c'; omega)
                  refine st_val hS231 rfl rfl rfl (r_move hS231 rfl rfl) fun a233 hS233 => st_val hS233 rfl rfl rfl (r_extract hS233 rfl rfl rfl) fun a234 hS234 => st_val hS234 rfl rfl rfl (r_extract hS234 rfl rfl rfl) fun a235 hS235 => st_val hS235 rfl rfl rfl (r_assign hS235 rfl rfl) fun a236 hS236 => st_val hS236 rfl rfl rfl (r_assign hS236 rfl rfl) fun a237 hS237 => wpList_nil (hK _ _ ?_)
                  replace hS : Sl 143 _ [(2, .slice A2 p2.length cap2), (8, .slice A56 r54.length cap57), (9, .pointer (some ⟨b105, 0, none⟩)), (11, .int .u64 m1_2), (12, .slice A97 m1_3.length cap98), (14, .int .i64 m1_4), (16, .int .i64 r210.1), (17, .int .i64 r210.2.1), (18, .int .u64 r210.2.2), (20, .int .i64 r225.2.2)] := hS237.re ⟨rfl, rfl, rfl, rfl, rfl, rfl, rfl, rfl, rfl, rfl, trivial⟩
                  clear hK K
                  try clear hS221 hS222 hS223 hS224 hS231 hS233 hS234 hS235 hS236 hS237
                  obtain ⟨a, ha⟩ : ∃ a', a' = a237 := ⟨_, rfl⟩
                  rw [← ha] at hS ⊢; clear ha
                  obtain ⟨v239, H, Hl241⟩ := bind_el H
                  refine c_cut (fun a w238 => ∃ (g238 : Nat → Nat), Sl 143 a [(2, .slice A2 p2.length cap2), (8, .slice A56 r54.length cap57), (9, .pointer (some ⟨b105, 0, none⟩)), (11, .int .u64 v239.1), (12, .slice A97 v239.2.length cap98), (14, .int .i64 m1_4)] ∧ OwS (kint .i64) 3 w238 g238 (N + 12) A97 cap98 v239.2 ∧ OwS kd_api_PowerDevice 33 w238 g238 (N + 2) A56 cap57 r54 ∧ OwS kd_rails_rail 105 w238 g238 (N + 4 + 3 + 1) A115 cap116 r225.1.rails.list ∧ RdS kd_api_PowerDevice w238 g238 (fun q => (fun q => q = N + 2 ∨ q = N + 2 + 1) q ∨ q = N + 4 + 6 ∨ q = N + 4 + 6 + 1) A107 cap108 r225.1.devices ∧ OwS (kint .i64) 3 w238 g238 (N + 4 + 1) A110 cap111 r225.1.state ∧ Bx w238 g238 (N + 4 + 3) b113 100 [.slice A115 r225.1.rails.list.length cap116, .int .u64 r225.1.rails.now] ∧ Bx w238 g238 (N + 4) b105 90 [.slice A107 r225.1.devices.length cap108, .slice A110 r225.1.state.length cap111, .pointer (some ⟨b113, 0, none⟩), .int .u64 r225.1.now] ∧ RdS kd_law27_Call w238 g238 C2 A2 cap2 p2 ∧ Fr (fun q => N ≤ q) w g w238 g238) ?_ ?_
                  · refine c_pure [(2, .slice A2 p2.length cap2), (8, .slice A56 r54.length cap57), (9, .pointer (some ⟨b105, 0, none⟩)), (11, .int .u64 m1_2), (12, .slice A97 m1_3.length cap98), (14, .int .i64 m1_4), (16, .int .i64 r210.1), (17, .int .i64 r210.2.1), (18, .int .u64 r210.2.2), (99, .bool (r225.2.2 == 0))] (fun R hR => st_val hS rfl rfl rfl (r_move hS rfl rfl) fun a242 hS242 => st_val hS242 rfl rfl rfl (r_bin hS242 rfl rfl rfl b_eql) fun a243 hS243 => wpList_nil (hR _ (hS243.re ⟨rfl, rfl, rfl, rfl, rfl, rfl, rfl, rfl, rfl, rfl, trivial⟩))) ?_
                    clear hS
                    clear a
                    intro a hS
                    refine c_cond hS rfl (fun hb244 => ?_) (fun hb244 => ?_)
                    · replace H := ite_t hb244 H
                      obtain ⟨x249, hx250, H⟩ := bind_el H
                      refine c_region1 (fun K hK => ?_)
                      refine st_val hS rfl rfl rfl (r_move hS rfl rfl) fun a245 hS245 => st_val hS245 rfl rfl rfl (r_move hS245 rfl rfl) fun a246 hS246 => st_val hS246 rfl rfl rfl (r_move hS246 rfl rfl) fun a247 hS247 => st_val hS247 rfl rfl rfl (r_move hS247 rfl rfl) fun a248 hS248 => st_val hS248 rfl rfl rfl (r_index (e := 3) (sz := 1) (by_ := 8) hS248 rfl rfl rfl (by kernel_rfl) (RdS.some_ (OwS.rd h99) hx250) (idx_lo hx250) (idx_hi hx250)) fun a251 hS251 => ?_
                      refine st_effS hS251 rfl rfl (e_storeE (n := 1) (bb := false) (kd := (kint .i64)) (j := 0) (x' := r210.2.1) (us := [.int .i64 r210.2.1]) g232 hS251 rfl rfl rfl rfl (by kernel_rfl) rfl rfl (by intro v hv; simp only [List.mem_cons, List.not_mem_nil, or_false] at hv; rcases hv with rfl <;> rfl) h99 hx250 rfl (fun _ _ cs hR => by rw [show cs = _ from hR]; rfl)) ?_
                      rintro a252 w253 g253 ⟨h99, F253⟩ hS252
                      replace h58 := OwS.fr h58 F253 (fun c' hc (hm : c' = N + 12) => by omega)
                      replace h117 := OwS.fr h117 F253 (fun c' hc (hm : c' = N + 12) => by omega)
                      replace h109 := RdS.fr h109 F253 (by decide) (fun q (hq : (fun q => q = N + 2 ∨ q = N + 2 + 1) q ∨ q = N + 4 + 6 ∨ q = N + 4 + 6 + 1) (hm : q = N + 12) => by rcases hq with hq | hq | hq; all_goals first | (have := (fun q (h : q = N + 2 ∨ q = N + 2 + 1) => h) q hq; omega; done) | (omega; done) | (omega; done))
                      replace h112 := OwS.fr h112 F253 (fun c' hc (hm : c' = N + 12) => by omega)
                      replace h114 := h114.fr F253 (fun (hm : N + 4 + 3 = N + 12) => by omega)
                      replace h106 := h106.fr F253 (fun (hm : N + 4 = N + 12) => by omega)
                      replace hp2 := RdS.fr hp2 F253 (by decide) (fun q (hq : C2 q) (hm : q = N + 12) => by have := hC2 q hq; omega)
                      replace hF := hF.trans F253 (fun c' (hm : c' = N + 12) => by show N ≤ c'; omega)
                      have hT : Sl 143 a252 [(2, .slice A2 p2.length cap2), (8, .slice A56 r54.length cap57), (9, .pointer (some ⟨b105, 0, none⟩)), (11, .int .u64 m1_2), (12, .slice A97 m1_3.length cap98), (14, .int .i64 m1_4), (103, .int .u64 r210.2.2)] := hS252.re ⟨rfl, rfl, rfl, rfl, rfl, rfl, rfl, trivial⟩
                      replace hS252 : Sl 143 a252 [(2, .slice A2 p2.length cap2), (8, .slice A56 r54.length cap57), (9, .pointer (some ⟨b105, 0, none⟩)), (11, .int .u64 m1_2), (12, .slice A97 (upd m1_3 r210.1 r210.2.1).length cap98), (14, .int .i64 m1_4), (103, .int .u64 r210.2.2)] := by simpa only [upd_length] using hT
                      clear hT
                      refine st_val hS252 rfl rfl rfl (r_assign hS252 rfl rfl) fun a254 hS254 => wpList_nil (hK _ _ ?_)
                      replace hS : Sl 143 _ [(2, .slice A2 p2.length cap2), (8, .slice A56 r54.length cap57), (9, .pointer (some ⟨b105, 0, none⟩)), (11, .int .u64 r210.2.2), (12, .slice A97 (upd m1_3 r210.1 r210.2.1).length cap98), (14, .int .i64 m1_4)] := hS254.re ⟨rfl, rfl, rfl, rfl, rfl, rfl, trivial⟩
                      clear hK K
                      try clear hS245 hS246 hS247 hS248 hS251 hS252 hS254
                      obtain ⟨a, ha⟩ : ∃ a', a' = a254 := ⟨_, rfl⟩
                      rw [← ha] at hS ⊢; clear ha
                      have e := Option.some.inj H
                      subst e
                      exact ⟨g253, hS.re ⟨rfl, rfl, rfl, rfl, rfl, rfl, trivial⟩, h99, h58, h117, h109, h112, h114, h106, hp2, hF⟩
                    · replace H := ite_f hb244 H
                      refine wp_skip ?_
                      have e := Option.some.inj H
                      subst e
                      exact ⟨g232, hS.re ⟨rfl, rfl, rfl, rfl, rfl, rfl, trivial⟩, h99, h58, h117, h109, h112, h114, h106, hp2, hF⟩
                  · clear H
                    clear hp2 h58 h99 h109 h112 h117 h114 h106 hF
                    clear hS
                    rintro a w238 ⟨g238, hS, h99, h58, h117, h109, h112, h114, h106, hp2, hF⟩
                    have H := Hl241
                    clear Hl241
                    refine c_pure [(2, .slice A2 p2.length cap2), (8, .slice A56 r54.length cap57), (9, .pointer (some ⟨b105, 0, none⟩)), (11, .int .u64 v239.1), (12, .slice A97 v239.2.length cap98), (14, .int .i64 m1_4), (21, .int .i64 0)] (fun R hR => st_val hS rfl rfl rfl (r_assign hS rfl rfl) fun a255 hS255 => wpList_nil (hR _ (hS255.re ⟨rfl, rfl, rfl, rfl, rfl, rfl, rfl, trivial⟩))) ?_
                    clear hS
                    clear a
                    intro a hS
                    refine wp_block ?_
                    refine wp_loop_ghost (fun kq => fun a w256 => ∃ (m2_0 : Int), ∃ (g256 : Nat → Nat), law27_DeviceHierarchy.l2 r54 r225 v239 kq m2_0 = some o188 ∧ Sl 143 a [(2, .slice A2 p2.length cap2), (8, .slice A56 r54.length cap57), (9, .pointer (some ⟨b105, 0, none⟩)), (11, .int .u64 v239.1), (12, .slice A97 v239.2.length cap98), (14, .int .i64 m1_4), (21, .int .i64 m2_0)] ∧ OwS (kint .i64) 3 w256 g256 (N + 12) A97 cap98 v239.2 ∧ OwS kd_api_PowerDevice 33 w256 g256 (N + 2) A56 cap57 r54 ∧ OwS kd_rails_rail 105 w256 g256 (N + 4 + 3 + 1) A115 cap116 r225.1.rails.list ∧ RdS kd_api_PowerDevice w256 g256 (fun q => (fun q => q = N + 2 ∨ q = N + 2 + 1) q ∨ q = N + 4 + 6 ∨ q = N + 4 + 6 + 1) A107 cap108 r225.1.devices ∧ OwS (kint .i64) 3 w256 g256 (N + 4 + 1) A110 cap111 r225.1.state ∧ Bx w256 g256 (N + 4 + 3) b113 100 [.slice A115 r225.1.rails.list.length cap116, .int .u64 r225.1.rails.now] ∧ Bx w256 g256 (N + 4) b105 90 [.slice A107 r225.1.devices.length cap108, .slice A110 r225.1.state.length cap111, .pointer (some ⟨b113, 0, none⟩), .int .u64 r225.1.now] ∧ RdS kd_law27_Call w256 g256 C2 A2 cap2 p2 ∧ Fr (fun q => N ≤ q) w g w256 g256) FUEL ?_ ?_
                    · exact ⟨0, g238, H, hS.re ⟨rfl, rfl, rfl, rfl, rfl, rfl, rfl, trivial⟩, h99, h58, h117, h109, h112, h114, h106, hp2, hF⟩
                    · clear H
                      clear hp2 h58 h99 h109 h112 h117 h114 h106 hF
                      clear hS
                      rintro k257 a w256 ⟨m2_0, g256, hpre0, hS, h99, h58, h117, h109, h112, h114, h106, hp2, hF⟩
                      have H := hpre0
                      clear hpre0
                      cases k257 with
                      | zero => exact absurd H (by simp [law27_DeviceHierarchy.l2])
                      | succ k257 =>
                        rw [law27_DeviceHierarchy.l2] at H
                        refine wp_seq ?_
                        refine c_pure [(2, .slice A2 p2.length cap2), (8, .slice A56 r54.length cap57), (9, .pointer (some ⟨b105, 0, none⟩)), (11, .int .u64 v239.1), (12, .slice A97 v239.2.length cap98), (14, .int .i64 m1_4), (21, .int .i64 m2_0), (108, .bool (decide (m2_0 < (r54.length : Int))))] (fun R hR => st_val hS rfl rfl rfl (r_move hS rfl rfl) fun a258 hS258 => st_val hS258 rfl rfl rfl (r_move hS258 rfl rfl) fun a259 hS259 => st_val hS259 rfl rfl rfl (r_len (e := 33) (sz := 13) (by_ := 168) hS259 rfl rfl (by kernel_rfl)) fun a260 hS260 => st_val hS260 rfl rfl rfl (r_bin hS260 rfl rfl rfl b_lss) fun a261 hS261 => wpList_nil (hR _ (hS261.re ⟨rfl, rfl, rfl, rfl, rfl, rfl, rfl, rfl, trivial⟩))) ?_
                        clear hS
                        clear a
                        intro a hS
                        refine c_cond hS rfl (fun hb262 => ?_) (fun hb262 => ?_)
                        · replace H := ite_t hb262 H
                          refine wp_skip ?_
                          change Code.wp _ _ _ _ _
                          refine wp_seq ?_
                          refine wp_block ?_
                          obtain ⟨x268, hx269, H⟩ := bind_el H
                          obtain ⟨r272, hr273, H⟩ := bind_el H
                          obtain ⟨t358, ht359, H⟩ := bind_el H
                          refine c_draw (fun K hK => d_start (fun q => N + 18 ≤ q) g256 [] 31 #[false, false, false, false, false, false, false, false, false, false, false, false, false, false, false, false, false, false, false, false, false, false, false, false, false, false, false, false, false, false, false] (by kernel_rfl) rfl rfl (fun w263 hw263 => ?_))
                          have F263 : Fr (fun _ => False) w256 g256 w263 g256 := by rw [hw263]; exact Fr.drew _ _ _
                          replace h99 := OwS.fr h99 F263 (fun _ _ h => h)
                          replace h58 := OwS.fr h58 F263 (fun _ _ h => h)
                          replace h117 := OwS.fr h117 F263 (fun _ _ h => h)
                          replace h109 := RdS.fr h109 F263 (by decide) (fun _ _ h => h)
                          replace h112 := OwS.fr h112 F263 (fun _ _ h => h)
                          replace h114 := h114.fr F263 (fun h => h)
                          replace h106 := h106.fr F263 (fun h => h)
                          replace hp2 := RdS.fr hp2 F263 (by decide) (fun _ _ h => h)
                          replace hF := hF.trans F263 (fun _ h => h.elim)
                          have hC : Fr (fun q => N + 18 ≤ q) w263 g256 w263 g256 := Fr.refl _ _ _
                          refine d_pure hS 0 #[true, false, false, false, false, false, false, false, false, false, false, false, false, false, false, false, false, false, false, false, false, false, false, false, false, false, false, false, false, false, false] rfl rfl rfl rfl (by kernel_rfl) (fun _ _ _ h => h) (fun _ => (r_move hS rfl rfl)) fun a264 hS264 => d_pure hS264 1 #[true, true, false, false, false, false, false, false, false, false, false, false, false, false, false, false, false, false, false, false, false, false, false, false, false, false, false, false, false, false, false] rfl rfl rfl rfl (by kernel_rfl) (fun _ _ _ h => h) (fun _ => (r_move hS264 rfl rfl)) fun a265 hS265 => d_pure hS265 3 #[true, true, false, true, false, false, false, false, false, false, false, false, false, false, false, false, false, false, false, false, false, false, false, false, false, false, false, false, false, false, false] rfl rfl rfl rfl (by kernel_rfl) (fun _ _ _ h => h) (fun _ => (r_move hS265 rfl rfl)) fun a266 hS266 => d_pure hS266 4 #[true, true, false, true, true, false, false, false, false, false, false, false, false, false, false, false, false, false, false, false, false, false, false, false, false, false, false, false, false, false, false] rfl rfl rfl rfl (by kernel_rfl) (fun _ _ _ h => h) (fun _ => (r_move hS266 rfl rfl)) fun a267 hS267 => d_pure hS267 5 #[true, true, false, true, true, true, false, false, false, false, false, false, false, false, false, false, false, false, false, false, false, false, false, false, false, false, false, false, false, false, false] rfl rfl rfl rfl (by kernel_rfl) (fun _ _ _ h => h) (fun _ => (r_index (e := 3) (sz := 1) (by_ := 8) hS267 rfl rfl rfl (by kernel_rfl) (RdS.some_ (OwS.rd h99) hx269) (idx_lo hx269) (idx_hi hx269))) fun a270 hS270 => d_take hS270 6 #[true, true, false, true, true, true, true, false, false, false, false, false, false, false, false, false, false, false, false, false, false, false, false, false, false, false, false, false, false, false, false] rfl rfl rfl rfl (by kernel_rfl) (fun _ _ _ h => h) ⟨_, hC⟩ (fun w' g' Fz => (r_load1 (n := 1) hS270 rfl rfl (by kernel_rfl) (RdS.cell (i := m2_0) (sz := 1) (j := 0) (OwS.rd (OwS.fr h99 Fz (fun c' hc (hm : N + 18 ≤ c') => by omega))) hx269 rfl))) fun a271 hS271 => ?_
                          refine d_one 2 #[true, true, true, true, true, true, true, false, false, false, false, false, false, false, false, false, false, false, false, false, false, false, false, false, false, false, false, false, false, false, false] rfl (by kernel_rfl) (arm_call hS271 rfl rfl rfl (r_call hS271 rfl rfl (by kernel_rfl)) (device_Tree_State.calls (c0 := N + 4) (b_p0 := b105) (A_devices_p0 := A107) (cap_devices_p0 := cap108) (C_devices_p0 := (fun q => (fun q => q = N + 2 ∨ q = N + 2 + 1) q ∨ q = N + 4 + 6 ∨ q = N + 4 + 6 + 1)) (A_state_p0 := A110) (cap_state_p0 := cap111) (b_rails_p0 := b113) (A_rails_list_p0 := A115) (cap_rails_list_p0 := cap116) (p0 := r225.1) (p1 := m2_0) (g := g256) (N + 18)  ⟨h106, h109, h112, ⟨h114, h117⟩⟩ (by omega) (fun q (hq : (fun q => q = N + 2 ∨ q = N + 2 + 1) q ∨ q = N + 4 + 6 ∨ q = N + 4 + 6 + 1) => by rcases hq with hq | hq | hq; all_goals first | (have := (fun q (h : q = N + 2 ∨ q = N + 2 + 1) => h) q hq; omega; done) | (omega; done) | (omega; done)) hr273) (fun _ _ ⟨g', _, Fz⟩ _ => ⟨g', hC.trans Fz (fun c' (hm : N + 18 ≤ c') => by show N + 18 ≤ c'; omega)⟩) ?_)
                          rintro _ a274 w275 ⟨g275, rfl, F275⟩ hS274
                          have hC275 := hC.trans F275 (fun c' (hm : N + 18 ≤ c') => by show N + 18 ≤ c'; omega)
                          clear hC
                          replace h99 := OwS.fr h99 F275 (fun c' hc (hm : N + 18 ≤ c') => by omega)
                          replace h58 := OwS.fr h58 F275 (fun c' hc (hm : N + 18 ≤ c') => by omega)
                          replace h117 := OwS.fr h117 F275 (fun c' hc (hm : N + 18 ≤ c') => by omega)
                          replace h109 := RdS.fr h109 F275 (by decide) (fun q (hq : (fun q => q = N + 2 ∨ q = N + 2 + 1) q ∨ q = N + 4 + 6 ∨ q = N + 4 + 6 + 1) (hm : N + 18 ≤ q) => by rcases hq with hq | hq | hq; all_goals first | (have := (fun q (h : q = N + 2 ∨ q = N + 2 + 1) => h) q hq; omega; done) | (omega; done) | (omega; done))
                          replace h112 := OwS.fr h112 F275 (fun c' hc (hm : N + 18 ≤ c') => by omega)
                          replace h114 := h114.fr F275 (fun (hm : N + 18 ≤ N + 4 + 3) => by omega)
                          replace h106 := h106.fr F275 (fun (hm : N + 18 ≤ N + 4) => by omega)
                          replace hp2 := RdS.fr hp2 F275 (by decide) (fun q (hq : C2 q) (hm : N + 18 ≤ q) => by have := hC2 q hq; omega)
                          replace hF := hF.trans F275 (fun c' (hm : N + 18 ≤ c') => by show N ≤ c'; omega)
                          refine d_pure hS274 7 #[true, true, true, true, true, true, true, true, false, false, false, false, false, false, false, false, false, false, false, false, false, false, false, false, false, false, false, false, false, false, false] rfl rfl rfl rfl (by kernel_rfl) (fun _ _ _ h => h) (fun _ => (r_bin hS274 rfl rfl rfl b_neq)) fun a276 hS276 => d_pure hS276 8 #[true, true, true, true, true, true, true, true, true, false, false, false, false, false, false, false, false, false, false, false, false, false, false, false, false, false, false, false, false, false, false] rfl rfl rfl rfl (by kernel_rfl) (fun _ _ _ h => h) (fun _ => (r_move hS276 rfl rfl)) fun a277 hS277 => ?_
                          refine d_rebase (M2 := fun q => N + 18 ≤ q) (w2 := w275) (g2 := g275) (fun _ ⟨g', Fz⟩ => ⟨g', hC275.trans Fz (fun _ h => h)⟩) ⟨_, Fr.refl _ _ _⟩ ?_
                          clear hC275
                          have hC278 : Fr (fun q => N + 18 ≤ q) w275 g275 w275 g275 := Fr.refl _ _ _
                          refine d_join (N := 143) 0 #[true, true, true, true, true, true, true, true, true, true, true, true, true, true, true, true, true, true, true, true, true, true, true, true, true, true, true, true, true, true, true] [(2, .slice A2 p2.length cap2), (8, .slice A56 r54.length cap57), (9, .pointer (some ⟨b105, 0, none⟩)), (11, .int .u64 v239.1), (12, .slice A97 v239.2.length cap98), (14, .int .i64 m1_4), (21, .int .i64 m2_0), (141, .bool t358)] ?_ (fun hk => ?_)
                          rotate_left
                          · rcases Bool.eq_false_or_eq_true ((r272 != x268)) with hb279 | hb279
                            · have H := ite_t hb279 ht359
                              have e360 := Option.some.inj H
                              refine d_off hS277 9 #[true, true, true, true, true, true, true, true, true, true, false, false, false, false, false, false, false, false, false, false, false, false, false, false, false, false, false, false, false, false, false] rfl (want_off hS277 rfl rfl rfl hb279) rfl rfl (by kernel_rfl) (fun _ _ _ h => h) fun a361 hS361 => d_off hS361 10 #[true, true, true, true, true, true, true, true, true, true, true, false, false, false, false, false, false, false, false, false, false, false, false, false, false, false, false, false, false, false, false] rfl (want_off hS361 rfl rfl rfl hb279) rfl rfl (by kernel_rfl) (fun _ _ _ h => h) fun a362 hS362 => d_off hS362 11 #[true, true, true, true, true, true, true, true, true, true, true, true, false, false, false, false, false, false, false, false, false, false, false, false, false, false, false, false, false, false, false] rfl (want_off hS362 rfl rfl rfl hb279) rfl rfl (by kernel_rfl) (fun _ _ _ h => h) fun a363 hS363 => d_off hS363 12 #[true, true, true, true, true, true, true, true, true, true, true, true, true, false, false, false, false, false, false, false, false, false, false, false, false, false, false, false, false, false, false] rfl (want_off hS363 rfl rfl rfl hb279) rfl rfl (by kernel_rfl) (fun _ _ _ h => h) fun a364 hS364 => d_off hS364 13 #[true, true, true, true, true, true, true, true, true, true, true, true, true, true, false, false, false, false, false, false, false, false, false, false, false, false, false, false, false, false, false] rfl (want_off hS364 rfl rfl rfl hb279) rfl rfl (by kernel_rfl) (fun _ _ _ h => h) fun a365 hS365 => d_off hS365 14 #[true, true, true, true, true, true, true, true, true, true, true, true, true, true, true, false, false, false, false, false, false, false, false, false, false, false, false, false, false, false, false] rfl (want_off hS365 rfl rfl rfl hb279) rfl rfl (by kernel_rfl) (fun _ _ _ h => h) fun a366 hS366 => d_off hS366 15 #[true, true, true, true, true, true, true, true, true, true, true, true, true, true, true, true, false, false, false, false, false, false, false, false, false, false, false, false, false, false, false] rfl (want_off hS366 rfl rfl rfl hb279) rfl rfl (by kernel_rfl) (fun _ _ _ h => h) fun a367 hS367 => d_off hS367 16 #[true, true, true, true, true, true, true, true, true, true, true, true, true, true, true, true, true, false, false, false, false, false, false, false, false, false, false, false, false, false, false] rfl (want_un hS367 rfl rfl rfl) rfl rfl (by kernel_rfl) (fun _ _ _ h => h) fun a368 hS368 => d_off hS368 17 #[true, true, true, true, true, true, true, true, true, true, true, true, true, true, true, true, true, true, false, false, false, false, false, false, false, false, false, false, false, false, false] rfl (want_un hS368 rfl rfl rfl) rfl rfl (by kernel_rfl) (fun _ _ _ h => h) fun a369 hS369 => d_off hS369 18 #[true, true, true, true, true, true, true, true, true, true, true, true, true, true, true, true, true, true, true, false, false, false, false, false, false, false, false, false, false, false, false] rfl (want_un hS369 rfl rfl rfl) rfl rfl (by kernel_rfl) (fun _ _ _ h => h) fun a370 hS370 => d_off hS370 19 #[true, true, true, true, true, true, true, true, true, true, true, true, true, true, true, true, true, true, true, true, false, false, false, false, false, false, false, false, false, false, false] rfl (want_un hS370 rfl rfl rfl) rfl rfl (by kernel_rfl) (fun _ _ _ h => h) fun a371 hS371 => d_off hS371 20 #[true, true, true, true, true, true, true, true, true, true, true, true, true, true, true, true, true, true, true, true, true, false, false, false, false, false, false, false, false, false, false] rfl (want_un hS371 rfl rfl rfl) rfl rfl (by kernel_rfl) (fun _ _ _ h => h) fun a372 hS372 => d_off hS372 21 #[true, true, true, true, true, true, true, true, true, true, true, true, true, true, true, true, true, true, true, true, true, true, false, false, false, false, false, false, false, false, false] rfl (want_un hS372 rfl rfl rfl) rfl rfl (by kernel_rfl) (fun _ _ _ h => h) fun a373 hS373 => d_off hS373 22 #[true, true, true, true, true, true, true, true, true, true, true, true, true, true, true, true, true, true, true, true, true, true, true, false, false, false, false, false, false, false, false] rfl (want_un hS373 rfl rfl rfl) rfl rfl (by kernel_rfl) (fun _ _ _ h => h) fun a374 hS374 => d_off hS374 23 #[true, true, true, true, true, true, true, true, true, true, true, true, true, true, true, true, true, true, true, true, true, true, true, true, false, false, false, false, false, false, false] rfl (want_un hS374 rfl rfl rfl) rfl rfl (by kernel_rfl) (fun _ _ _ h => h) fun a375 hS375 => d_off hS375 24 #[true, true, true, true, true, true, true, true, true, true, true, true, true, true, true, true, true, true, true, true, true, true, true, true, true, false, false, false, false, false, false] rfl (want_un hS375 rfl rfl rfl) rfl rfl (by kernel_rfl) (fun _ _ _ h => h) fun a376 hS376 => d_off hS376 25 #[true, true, true, true, true, true, true, true, true, true, true, true, true, true, true, true, true, true, true, true, true, true, true, true, true, true, false, false, false, false, false] rfl (want_un hS376 rfl rfl rfl) rfl rfl (by kernel_rfl) (fun _ _ _ h => h) fun a377 hS377 => d_off hS377 26 #[true, true, true, true, true, true, true, true, true, true, true, true, true, true, true, true, true, true, true, true, true, true, true, true, true, true, true, false, false, false, false] rfl (want_un hS377 rfl rfl rfl) rfl rfl (by kernel_rfl) (fun _ _ _ h => h) fun a378 hS378 => d_off hS378 27 #[true, true, true, true, true, true, true, true, true, true, true, true, true, true, true, true, true, true, true, true, true, true, true, true, true, true, true, true, false, false, false] rfl (want_un hS378 rfl rfl rfl) rfl rfl (by kernel_rfl) (fun _ _ _ h => h) fun a379 hS379 => d_off hS379 28 #[true, true, true, true, true, true, true, true, true, true, true, true, true, true, true, true, true, true, true, true, true, true, true, true, true, true, true, true, true, false, false] rfl (want_un hS379 rfl rfl rfl) rfl rfl (by kernel_rfl) (fun _ _ _ h => h) fun a380 hS380 => d_off hS380 29 #[true, true, true, true, true, true, true, true, true, true, true, true, true, true, true, true, true, true, true, true, true, true, true, true, true, true, true, true, true, true, false] rfl (want_off hS380 rfl rfl rfl hb279) rfl rfl (by kernel_rfl) (fun _ _ _ h => h) fun a381 hS381 => d_pure hS381 30 #[true, true, true, true, true, true, true, true, true, true, true, true, true, true, true, true, true, true, true, true, true, true, true, true, true, true, true, true, true, true, true] rfl rfl rfl rfl (by kernel_rfl) (fun _ _ _ h => h) (fun _ => (r_pickT hS381 rfl rfl rfl hb279)) fun a382 hS382 => hk _ (hS382.re ⟨rfl, rfl, rfl, rfl, rfl, rfl, rfl, (by rw [← e360]; rfl), trivial⟩)
                            · have H := ite_f hb279 ht359
                              obtain ⟨x385, hx386, H⟩ := bind_el H
                              obtain ⟨t426, ht427, H⟩ := bind_el H
                              have e461 := Option.some.inj H
                              refine d_pureW hS277 9 #[true, true, true, true, true, true, true, true, true, true, false, false, false, false, false, false, false, false, false, false, false, false, false, false, false, false, false, false, false, false, false] rfl (want_on hS277 rfl rfl rfl hb279) rfl rfl (by kernel_rfl) (fun _ _ _ h => h) (fun _ => (r_move hS277 rfl rfl)) fun a383 hS383 => d_pureW hS383 10 #[true, true, true, true, true, true, true, true, true, true, true, false, false, false, false, false, false, false, false, false, false, false, false, false, false, false, false, false, false, false, false] rfl (want_on hS383 rfl rfl rfl hb279) rfl rfl (by kernel_rfl) (fun _ _ _ h => h) (fun _ => (r_move hS383 rfl rfl)) fun a384 hS384 => ?_
                              obtain ⟨_, ⟨A388, cap389, A392, cap393, A396, cap397, A400, cap401, rfl, h390, h394, h398, h402⟩, hel387⟩ := El.of (OwD.rdx h58) hx386 (by decide)
                              replace hel387 : El w275 g275 (fun q => q = N + 2) A56 (m2_0.toNat * 13) [.int .i64 x385.Parent, .slice A388 x385.Rails.a0.length cap389, .slice A392 x385.Rails.a1.length cap393, .slice A396 x385.Rails.a2.length cap397, .slice A400 x385.Rails.a3.length cap401, .int .i64 x385.Deepest.a0, .int .i64 x385.Deepest.a1, .int .i64 x385.Deepest.a2, .int .i64 x385.Deepest.a3, .int .i64 x385.Deepest.a4, .int .i64 x385.Deepest.a5, .int .i64 x385.WakeDevice, .int .i64 x385.WakeSystem] := hel387
                              refine d_pureW hS384 11 #[true, true, true, true, true, true, true, true, true, true, true, true, false, false, false, false, false, false, false, false, false, false, false, false, false, false, false, false, false, false, false] rfl (want_on hS384 rfl rfl rfl hb279) rfl rfl (by kernel_rfl) (fun _ _ _ h => h) (fun _ => (r_index (e := 33) (sz := 13) (by_ := 168) hS384 rfl rfl rfl (by kernel_rfl) (RdS.some_ (OwS.rd h58) hx386) (idx_lo hx386) (idx_hi hx386))) fun a405 hS405 => d_pureW hS405 12 #[true, true, true, true, true, true, true, true, true, true, true, true, true, false, false, false, false, false, false, false, false, false, false, false, false, false, false, false, false, false, false] rfl (want_on hS405 rfl rfl rfl hb279) rfl rfl (by kernel_rfl) (fun _ _ _ h => h) (fun _ => (r_fieldE (off := 0) hS405 rfl rfl (by kernel_rfl))) fun a406 hS406 => d_takeW hS406 13 #[true, true, true, true, true, true, true, true, true, true, true, true, true, true, false, false, false, false, false, false, false, false, false, false, false, false, false, false, false, false, false] rfl (want_on hS406 rfl rfl rfl hb279) rfl rfl (by kernel_rfl) (fun _ _ _ h => h) ⟨_, hC278⟩ (fun w' g' Fz => (r_load1 (n := 1) hS406 rfl rfl (by kernel_rfl) (El.cell (j := 0) (hel387.fr Fz (fun q (hq : q = N + 2) (hm : N + 18 ≤ q) => by omega)) rfl))) fun a407 hS407 => d_pureW hS407 14 #[true, true, true, true, true, true, true, true, true, true, true, true, true, true, true, false, false, false, false, false, false, false, false, false, false, false, false, false, false, false, false] rfl (want_on hS407 rfl rfl rfl hb279) rfl rfl (by kernel_rfl) (fun _ _ _ h => h) (fun _ => (r_bin hS407 rfl rfl rfl b_geq)) fun a408 hS408 => d_pureW hS408 15 #[true, true, true, true, true, true, true, true, true, true, true, true, true, true, true, true, false, false, false, false, false, false, false, false, false, false, false, false, false, false, false] rfl (want_on hS408 rfl rfl rfl hb279) rfl rfl (by kernel_rfl) (fun _ _ _ h => h) (fun _ => (r_move hS408 rfl rfl)) fun a409 hS409 => ?_
                              refine d_join (N := 143) 1 #[true, true, true, true, true, true, true, true, true, true, true, true, true, true, true, true, true, true, true, true, true, true, true, true, true, true, true, true, true, true, false] [(2, .slice A2 p2.length cap2), (8, .slice A56 r54.length cap57), (9, .pointer (some ⟨b105, 0, none⟩)), (11, .int .u64 v239.1), (12, .slice A97 v239.2.length cap98), (14, .int .i64 m1_4), (21, .int .i64 m2_0), (119, .bool (r272 != x268)), (120, .slice A56 r54.length cap57), (121, .int .i64 m2_0), (122, .pointer (some (ea A56 (m2_0.toNat * 13)))), (123, .pointer (some (ea A56 (m2_0.toNat * 13)))), (124, .int .i64 x385.Parent), (125, .bool (decide (0 ≤ x385.Parent))), (126, .bool (decide (0 ≤ x385.Parent))), (140, .bool t426)] ?_ (fun hk => ?_)
                              rotate_left
                              · rcases Bool.eq_false_or_eq_true (decide (0 ≤ x385.Parent)) with hb410 | hb410
                                · have H := ite_t hb410 ht427
                                  obtain ⟨x438, hx439, H⟩ := bind_el H
                                  have e443 := Option.some.inj H
                                  refine d_pureW hS409 16 #[true, true, true, true, true, true, true, true, true, true, true, true, true, true, true, true, true, false, false, false, false, false, false, false, false, false, false, false, false, false, false] rfl (want_on hS409 rfl rfl rfl hb410) rfl rfl (by kernel_rfl) (fun _ _ _ h => h) (fun _ => (r_move hS409 rfl rfl)) fun a428 hS428 => d_pureW hS428 17 #[true, true, true, true, true, true, true, true, true, true, true, true, true, true, true, true, true, true, false, false, false, false, false, false, false, false, false, false, false, false, false] rfl (want_on hS428 rfl rfl rfl hb410) rfl rfl (by kernel_rfl) (fun _ _ _ h => h) (fun _ => (r_move hS428 rfl rfl)) fun a429 hS429 => d_pureW hS429 18 #[true, true, true, true, true, true, true, true, true, true, true, true, true, true, true, true, true, true, true, false, false, false, false, false, false, false, false, false, false, false, false] rfl (want_on hS429 rfl rfl rfl hb410) rfl rfl (by kernel_rfl) (fun _ _ _ h => h) (fun _ => (r_index (e := 3) (sz := 1) (by_ := 8) hS429 rfl rfl rfl (by kernel_rfl) (RdS.some_ (OwS.rd h99) hx269) (idx_lo hx269) (idx_hi hx269))) fun a430 hS430 => d_takeW hS430 19 #[true, true, true, true, true, true, true, true, true, true, true, true, true, true, true, true, true, true, true, true, false, false, false, false, false, false, false, false, false, false, false] rfl (want_on hS430 rfl rfl rfl hb410) rfl rfl (by kernel_rfl) (fun _ _ _ h => h) ⟨_, hC278⟩ (fun w' g' Fz => (r_load1 (n := 1) hS430 rfl rfl (by kernel_rfl) (RdS.cell (i := m2_0) (sz := 1) (j := 0) (OwS.rd (OwS.fr h99 Fz (fun c' hc (hm : N + 18 ≤ c') => by omega))) hx269 rfl))) fun a431 hS431 => d_pureW hS431 20 #[true, true, true, true, true, true, true, true, true, true, true, true, true, true, true, true, true, true, true, true, true, false, false, false, false, false, false, false, false, false, false] rfl (want_on hS431 rfl rfl rfl hb410) rfl rfl (by kernel_rfl) (fun _ _ _ h => h) (fun _ => (r_move hS431 rfl rfl)) fun a432 hS432 => d_pureW hS432 21 #[true, true, true, true, true, true, true, true, true, true, true, true, true, true, true, true, true, true, true, true, true, true, false, false, false, false, false, false, false, false, false] rfl (want_on hS432 rfl rfl rfl hb410) rfl rfl (by kernel_rfl) (fun _ _ _ h => h) (fun _ => (r_move hS432 rfl rfl)) fun a433 hS433 => d_pureW hS433 22 #[true, true, true, true, true, true, true, true, true, true, true, true, true, true, true, true, true, true, true, true, true, true, true, false, false, false, false, false, false, false, false] rfl (want_on hS433 rfl rfl rfl hb410) rfl rfl (by kernel_rfl) (fun _ _ _ h => h) (fun _ => (r_move hS433 rfl rfl)) fun a434 hS434 => d_pureW hS434 23 #[true, true, true, true, true, true, true, true, true, true, true, true, true, true, true, true, true, true, true, true, true, true, true, true, false, false, false, false, false, false, false] rfl (want_on hS434 rfl rfl rfl hb410) rfl rfl (by kernel_rfl) (fun _ _ _ h => h) (fun _ => (r_index (e := 33) (sz := 13) (by_ := 168) hS434 rfl rfl rfl (by kernel_rfl) (RdS.some_ (OwS.rd h58) hx386) (idx_lo hx386) (idx_hi hx386))) fun a435 hS435 => d_pureW hS435 24 #[true, true, true, true, true, true, true, true, true, true, true, true, true, true, true, true, true, true, true, true, true, true, true, true, true, false, false, false, false, false, false] rfl (want_on hS435 rfl rfl rfl hb410) rfl rfl (by kernel_rfl) (fun _ _ _ h => h) (fun _ => (r_fieldE (off := 0) hS435 rfl rfl (by kernel_rfl))) fun a436 hS436 => d_takeW hS436 25 #[true, true, true, true, true, true, true, true, true, true, true, true, true, true, true, true, true, true, true, true, true, true, true, true, true, true, false, false, false, false, false] rfl (want_on hS436 rfl rfl rfl hb410) rfl rfl (by kernel_rfl) (fun _ _ _ h => h) ⟨_, hC278⟩ (fun w' g' Fz => (r_load1 (n := 1) hS436 rfl rfl (by kernel_rfl) (El.cell (j := 0) (hel387.fr Fz (fun q (hq : q = N + 2) (hm : N + 18 ≤ q) => by omega)) rfl))) fun a437 hS437 => d_pureW hS437 26 #[true, true, true, true, true, true, true, true, true, true, true, true, true, true, true, true, true, true, true, true, true, true, true, true, true, true, true, false, false, false, false] rfl (want_on hS437 rfl rfl rfl hb410) rfl rfl (by kernel_rfl) (fun _ _ _ h => h) (fun _ => (r_index (e := 3) (sz := 1) (by_ := 8) hS437 rfl rfl rfl (by kernel_rfl) (RdS.some_ (OwS.rd h99) hx439) (idx_lo hx439) (idx_hi hx439))) fun a440 hS440 => d_takeW hS440 27 #[true, true, true, true, true, true, true, true, true, true, true, true, true, true, true, true, true, true, true, true, true, true, true, true, true, true, true, true, false, false, false] rfl (want_on hS440 rfl rfl rfl hb410) rfl rfl (by kernel_rfl) (fun _ _ _ h => h) ⟨_, hC278⟩ (fun w' g' Fz => (r_load1 (n := 1) hS440 rfl rfl (by kernel_rfl) (RdS.cell (i := x385.Parent) (sz := 1) (j := 0) (OwS.rd (OwS.fr h99 Fz (fun c' hc (hm : N + 18 ≤ c') => by omega))) hx439 rfl))) fun a441 hS441 => d_pureW hS441 28 #[true, true, true, true, true, true, true, true, true, true, true, true, true, true, true, true, true, true, true, true, true, true, true, true, true, true, true, true, true, false, false] rfl (want_on hS441 rfl rfl rfl hb410) rfl rfl (by kernel_rfl) (fun _ _ _ h => h) (fun _ => (r_bin hS441 rfl rfl rfl b_lss)) fun a442 hS442 => d_pureW hS442 29 #[true, true, true, true, true, true, true, true, true, true, true, true, true, true, true, true, true, true, true, true, true, true, true, true, true, true, true, true, true, true, false] rfl (want_on hS442 rfl rfl rfl hb279) rfl rfl (by kernel_rfl) (fun _ _ _ h => h) (fun _ => (r_pickT hS442 rfl rfl rfl hb410)) fun a444 hS444 => hk _ (hS444.re ⟨rfl, rfl, rfl, rfl, rfl, rfl, rfl, rfl, rfl, rfl, rfl, rfl, rfl, rfl, rfl, (by rw [← e443]; rfl), trivial⟩)
                                · have H := ite_f hb410 ht427
                                  have e445 := Option.some.inj H
                                  refine d_off hS409 16 #[true, true, true, true, true, true, true, true, true, true, true, true, true, true, true, true, true, false, false, false, false, false, false, false, false, false, false, false, false, false, false] rfl (want_off hS409 rfl rfl rfl hb410) rfl rfl (by kernel_rfl) (fun _ _ _ h => h) fun a446 hS446 => d_off hS446 17 #[true, true, true, true, true, true, true, true, true, true, true, true, true, true, true, true, true, true, false, false, false, false, false, false, false, false, false, false, false, false, false] rfl (want_off hS446 rfl rfl rfl hb410) rfl rfl (by kernel_rfl) (fun _ _ _ h => h) fun a447 hS447 => d_off hS447 18 #[true, true, true, true, true, true, true, true, true, true, true, true, true, true, true, true, true, true, true, false, false, false, false, false, false, false, false, false, false, false, false] rfl (want_off hS447 rfl rfl rfl hb410) rfl rfl (by kernel_rfl) (fun _ _ _ h => h) fun a448 hS448 => d_off hS448 19 #[true, true, true, true, true, true, true, true, true, true, true, true, true, true, true, true, true, true, true, true, false, false, false, false, false, false, false, false, false, false, false] rfl (want_off hS448 rfl rfl rfl hb410) rfl rfl (by kernel_rfl) (fun _ _ _ h => h) fun a449 hS449 => d_off hS449 20 #[true, true, true, true, true, true, true, true, true, true, true, true, true, true, true, true, true, true, true, true, true, false, false, false, false, false, false, false, false, false, false] rfl (want_off hS449 rfl rfl rfl hb410) rfl rfl (by kernel_rfl) (fun _ _ _ h => h) fun a450 hS450 => d_off hS450 21 #[true, true, true, true, true, true, true, true, true, true, true, true, true, true, true, true, true, true, true, true, true, true, false, false, false, false, false, false, false, false, false] rfl (want_off hS450 rfl rfl rfl hb410) rfl rfl (by kernel_rfl) (fun _ _ _ h => h) fun a451 hS451 => d_off hS451 22 #[true, true, true, true, true, true, true, true, true, true, true, true, true, true, true, true, true, true, true, true, true, true, true, false, false, false, false, false, false, false, false] rfl (want_off hS451 rfl rfl rfl hb410) rfl rfl (by kernel_rfl) (fun _ _ _ h => h) fun a452 hS452 => d_off hS452 23 #[true, true, true, true, true, true, true, true, true, true, true, true, true, true, true, true, true, true, true, true, true, true, true, true, false, false, false, false, false, false, false] rfl (want_off hS452 rfl rfl rfl hb410) rfl rfl (by kernel_rfl) (fun _ _ _ h => h) fun a453 hS453 => d_off hS453 24 #[true, true, true, true, true, true, true, true, true, true, true, true, true, true, true, true, true, true, true, true, true, true, true, true, true, false, false, false, false, false, false] rfl (want_off hS453 rfl rfl rfl hb410) rfl rfl (by kernel_rfl) (fun _ _ _ h => h) fun a454 hS454 => d_off hS454 25 #[true, true, true, true, true, true, true, true, true, true, true, true, true, true, true, true, true, true, true, true, true, true, true, true, true, true, false, false, false, false, false] rfl (want_off hS454 rfl rfl rfl hb410) rfl rfl (by kernel_rfl) (fun _ _ _ h => h) fun a455 hS455 => d_off hS455 26 #[true, true, true, true, true, true, true, true, true, true, true, true, true, true, true, true, true, true, true, true, true, true, true, true, true, true, true, false, false, false, false] rfl (want_off hS455 rfl rfl rfl hb410) rfl rfl (by kernel_rfl) (fun _ _ _ h => h) fun a456 hS456 => d_off hS456 27 #[true, true, true, true, true, true, true, true, true, true, true, true, true, true, true, true, true, true, true, true, true, true, true, true, true, true, true, true, false, false, false] rfl (want_off hS456 rfl rfl rfl hb410) rfl rfl (by kernel_rfl) (fun _ _ _ h => h) fun a457 hS457 => d_off hS457 28 #[true, true, true, true, true, true, true, true, true, true, true, true, true, true, true, true, true, true, true, true, true, true, true, true, true, true, true, true, true, false, false] rfl (want_off hS457 rfl rfl rfl hb410) rfl rfl (by kernel_rfl) (fun _ _ _ h => h) fun a458 hS458 => d_pureW hS458 29 #[true, true, true, true, true, true, true, true, true, true, true, true, true, true, true, true, true, true, true, true, true, true, true, true, true, true, true, true, true, true, false] rfl (want_on hS458 rfl rfl rfl hb279) rfl rfl (by kernel_rfl) (fun _ _ _ h => h) (fun _ => (r_pickF hS458 rfl rfl rfl hb410)) fun a459 hS459 => hk _ (hS459.re ⟨rfl, rfl, rfl, rfl, rfl, rfl, rfl, rfl, rfl, rfl, rfl, rfl, rfl, rfl, rfl, (by rw [← e445]; rfl), trivial⟩)
                              intro a460 hS460
                              refine d_pure hS460 30 #[true, true, true, true, true, true, true, true, true, true, true, true, true, true, true, true, true, true, true, true, true, true, true, true, true, true, true, true, true, true, true] rfl rfl rfl rfl (by kernel_rfl) (fun _ _ _ h => h) (fun _ => (r_pickF hS460 rfl rfl rfl hb279)) fun a462 hS462 => hk _ (hS462.re ⟨rfl, rfl, rfl, rfl, rfl, rfl, rfl, (by rw [← e461]; rfl), trivial⟩)
                          intro a463 hS463
                          refine d_done (by kernel_rfl) (hK _ _ ?_)
                          replace hS : Sl 143 _ [(2, .slice A2 p2.length cap2), (8, .slice A56 r54.length cap57), (9, .pointer (some ⟨b105, 0, none⟩)), (11, .int .u64 v239.1), (12, .slice A97 v239.2.length cap98), (14, .int .i64 m1_4), (21, .int .i64 m2_0), (141, .bool t358)] := hS463.re ⟨rfl, rfl, rfl, rfl, rfl, rfl, rfl, rfl, trivial⟩
                          clear hK K hC278
                          try clear hS264 hS265 hS266 hS267 hS270 hS271 hS274 hS276 hS277 hS463
                          obtain ⟨a, ha⟩ : ∃ a', a' = a463 := ⟨_, rfl⟩
                          rw [← ha] at hS ⊢; clear ha
                          refine c_cond hS rfl (fun hb464 => ?_) (fun hb464 => ?_)
                          · replace H := ite_t hb464 H
                            refine c_pure [(6, .bool false)] (fun R hR => st_val hS rfl rfl rfl (r_assign hS rfl rfl) fun a465 hS465 => wpList_nil (hR _ (hS465.re ⟨rfl, trivial⟩))) ?_
                            clear hS
                            clear a
                            intro a hS
                            refine wp_ret ?_
                            have e := Option.some.inj H
                            subst e
                            replace H := Fl.go_out Hl189
                            have e := Option.some.inj H
                            subst e
                            replace H := Fl.go_out Hl163
                            have e := Option.some.inj H
                            subst e
                            repeat (with_reducible first | refine then_ret ?_ | refine inBlock_ret ?_)
                            exact c_ret1 hS Try.results8 rfl ⟨_, rfl, g275, rfl, hF⟩
                          · replace H := ite_f hb464 H
                            refine wp_skip ?_
                            change Code.wp _ _ _ _ _
                            refine c_pure1 [(2, .slice A2 p2.length cap2), (8, .slice A56 r54.length cap57), (9, .pointer (some ⟨b105, 0, none⟩)), (11, .int .u64 v239.1), (12, .slice A97 v239.2.length cap98), (14, .int .i64 m1_4), (21, .int .i64 (wi (m2_0 + 1)))] (fun R hR => st_val hS rfl rfl rfl (r_move hS rfl rfl) fun a466 hS466 => st_val hS466 rfl rfl rfl (r_bin hS466 rfl rfl rfl b_add) fun a467 hS467 => st_val hS467 rfl rfl rfl (r_assign hS467 rfl rfl) fun a468 hS468 => wpList_nil (hR _ (hS468.re ⟨rfl, rfl, rfl, rfl, rfl, rfl, rfl, trivial⟩))) ?_
                            clear hS
                            clear a
                            intro a hS
                            refine ⟨k257, Nat.lt_succ_self _, ?_⟩
                            exact ⟨wi (m2_0 + 1), g275, H, hS.re ⟨rfl, rfl, rfl, rfl, rfl, rfl, rfl, trivial⟩, h99, h58, h117, h109, h112, h114, h106, hp2, hF⟩
                        · replace H := ite_f hb262 H
                          refine wp_exit ?_
                          have e := Option.some.inj H
                          exact ⟨(r225.1, r225.1.rails, v239.1, v239.2), g256, e.symm, hS.re ⟨rfl, rfl, rfl, rfl, rfl, rfl, trivial⟩, h99, h58, h117, h109, h112, h114, h106, hp2, hF⟩
                · clear H
                  clear hp2 h58 h99 h109 h112 h117 h114 h106 hF
                  clear hS
                  rintro a w186 ⟨v187, g186, hpre0, hS, h99, h58, h117, h109, h112, h114, h106, hp2, hF⟩
                  subst hpre0
                  have H := Fl.go_nxt Hl189
                  clear Hl189
                  refine c_pure1 [(2, .slice A2 p2.length cap2), (8, .slice A56 r54.length cap57), (9, .pointer (some ⟨b105, 0, none⟩)), (11, .int .u64 v187.2.2.1), (12, .slice A97 v187.2.2.2.length cap98), (14, .int .i64 (wi (m1_4 + 1)))] (fun R hR => st_val hS rfl rfl rfl (r_move hS rfl rfl) fun a469 hS469 => st_val hS469 rfl rfl rfl (r_bin hS469 rfl rfl rfl b_add) fun a470 hS470 => st_val hS470 rfl rfl rfl (r_assign hS470 rfl rfl) fun a471 hS471 => wpList_nil (hR _ (hS471.re ⟨rfl, rfl, rfl, rfl, rfl, rfl, trivial⟩))) ?_
                  clear hS
                  clear a
                  intro a hS
                  refine ⟨k166, Nat.lt_succ_self _, ?_⟩
                  exact ⟨(device_Tree.mk v187.1.devices v187.1.state v187.2.1 v187.1.now), v187.2.1, v187.2.2.1, v187.2.2.2, wi (m1_4 + 1), g186, H, hS.re ⟨rfl, rfl, rfl, rfl, rfl, rfl, trivial⟩, h99, h58, h117, h109, h112, h114, h106, hp2, hF⟩
              · replace H := ite_f hb185 H
                refine wp_exit ?_
                have e := Option.some.inj H
                exact ⟨g165, e.symm, hS.re trivial, hF⟩
        · clear H
          clear hp2 h58 h99 h109 h112 h117 h114 h106 hF
          clear hS
          rintro a w160 ⟨g160, hpre0, hS, hF⟩
          subst hpre0
          have H := Fl.go_nxt Hl163
          clear Hl163
          obtain ⟨r472, hr473, H⟩ := bind_el H
          refine c_region (fun K hK => ?_)
          refine st_enter hS rfl rfl rfl (r_call hS rfl rfl (by kernel_rfl)) (law27_awake.calls (g := g160) (N + 18)   hr473) ?_
          rintro _ a474 w475 ⟨g475, rfl, F475⟩ hS474
          replace hF := hF.trans F475 (fun c' (hm : N + 18 ≤ c') => by show N ≤ c'; omega)
          refine st_val hS474 rfl rfl rfl (r_assign hS474 rfl rfl) fun a476 hS476 => wpList_nil (hK _ _ ?_)
          replace hS : Sl 143 _ [(6, .bool r472)] := hS476.re ⟨rfl, trivial⟩
          clear hK K
          try clear hS474 hS476
          obtain ⟨a, ha⟩ : ∃ a', a' = a476 := ⟨_, rfl⟩
          rw [← ha] at hS ⊢; clear ha
          refine wp_ret ?_
          have e := Option.some.inj H
          subst e
          repeat (with_reducible first | refine then_ret ?_ | refine inBlock_ret ?_)
          exact c_ret1 hS Try.results8 rfl ⟨_, rfl, g475, rfl, hF⟩

/-- What is left of law27_DeviceHierarchy: about plain values alone. -/
def law27_DeviceHierarchy.Pure : Prop := ∀ (p0 : List api_PowerDevice) (p1 : List api_Rail) (p2 : List law27_Call), (p0.length ≤ maxLen ∧ ∀ p0' ∈ p0, Wf_api_PowerDevice p0') → (p1.length ≤ maxLen ∧ ∀ p1' ∈ p1, Wf_api_Rail p1') → (p2.length ≤ maxLen ∧ ∀ p2' ∈ p2, Wf_law27_Call p2') → law27_DeviceHierarchy.f p0 p1 p2 = some true

end Go.Proofs.Ytfhhklkmbcnhnaa.Sim
