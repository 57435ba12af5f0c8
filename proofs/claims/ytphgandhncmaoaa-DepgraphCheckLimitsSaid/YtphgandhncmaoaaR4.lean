/-
  Printed by a program of this session (wip/tools): plain functions with the same answers as the Go functions, and the proofs of it.
-/
import Derived.Test.YtphgandhncmaoaaProg
import Derived.Test.YtphgandhncmaoaaR3
namespace Go.Proofs.Ytphgandhncmaoaa.Sim
open Go
set_option linter.unusedVariables false
set_option linter.unusedSimpArgs false

/-! ### ref24_closure: function 47 -/
def ref24_closure.l0 (p0 : Int) (p2 : List Int) : Nat → (List Bool) → Int → Option (Fl ((List Int) × Int) ((List Bool)))
  | 0, _, _ => none
  | k32 + 1, m0_0, m0_1 => if decide (m0_1 < (p2.length : Int)) = true then ((idx p2 m0_1).bind fun x40 => if ((decide (x40 < 0)) || (decide (p0 ≤ x40))) = true then (some (.out ([], 1))) else ((idx m0_0 x40).bind fun x76 => ref24_closure.l0 p0 p2 k32 (upd m0_0 x40 true) (wi (m0_1 + 1)))) else (some (.nxt m0_0))
def ref24_closure.l2 (p1 : List api_Link) (p3 : Bool) : Nat → (List Bool) → Int → Option ((List Bool))
  | 0, _, _ => none
  | k101 + 1, m2_0, m2_1 => if decide (m2_1 < (p1.length : Int)) = true then (((idx p1 m2_1).bind fun x114 => ((if p3 = true then (idx m2_0 x114.Consumer).bind fun x135 => some x135 else some false).bind fun t139 => if t139 = true then ((idx m2_0 x114.Supplier).bind fun x159 => some (upd m2_0 x114.Supplier true)) else (some m2_0) : Option ((List Bool))).bind fun v127 => (if (!p3) = true then (idx v127 x114.Supplier).bind fun x170 => some x170 else some false).bind fun t174 => if t174 = true then ((idx v127 x114.Consumer).bind fun x194 => some (upd v127 x114.Consumer true)) else (some v127) : Option ((List Bool))).bind fun v108 => ref24_closure.l2 p1 p3 k101 v108 (wi (m2_1 + 1))) else (some m2_0)
def ref24_closure.l1 (p0 : Int) (p1 : List api_Link) (p3 : Bool) : Nat → (List Bool) → Int → Option ((List Bool))
  | 0, _, _ => none
  | k90 + 1, m1_0, m1_1 => if decide (m1_1 < p0) = true then ((ref24_closure.l2 p1 p3 FUEL m1_0 0 : Option ((List Bool))).bind fun v96 => ref24_closure.l1 p0 p1 p3 k90 v96 (wi (m1_1 + 1))) else (some m1_0)
def ref24_closure.l3 (p0 : Int) (v85 : (List Bool)) : Nat → (List Int) → Int → Option ((List Int))
  | 0, _, _ => none
  | k218 + 1, m3_0, m3_1 => if decide (m3_1 < p0) = true then (((idx v85 m3_1).bind fun x232 => if x232 = true then ((app m3_0 [m3_1]).bind fun y244 => some y244) else (some m3_0) : Option ((List Int))).bind fun v227 => ref24_closure.l3 p0 v85 k218 v227 (wi (m3_1 + 1))) else (some m3_0)
def ref24_closure.f (p0 : Int) (p1 : List api_Link) (p2 : List Int) (p3 : Bool) : Option ((List Int) × Int) := (ref24_Basic.f p0 p1).bind fun r5 => if (r5 != 0) = true then (some ([], r5)) else ((mk p0 false).bind fun y17 => (ref24_closure.l0 p0 p2 FUEL y17 0 : Option (Fl ((List Int) × Int) ((List Bool)))).bind fun o28 => o28.go fun v27 => (ref24_closure.l1 p0 p1 p3 FUEL v27 0 : Option ((List Bool))).bind fun v85 => (ref24_closure.l3 p0 v85 FUEL [] 0 : Option ((List Int))).bind fun v210 => some (v210, 0))
set_option maxRecDepth 100000 in
set_option maxHeartbeats 4000000 in
theorem ref24_closure.calls {p0 : Int} {p1 : List api_Link} {A1 : Option Addr} {cap1 : Nat} {C1 : Nat → Prop} {p2 : List Int} {A2 : Option Addr} {cap2 : Nat} {C2 : Nat → Prop} {p3 : Bool} {w : World} {g : Nat → Nat} {out : (List Int) × Int} (N : Nat) (r0 : Nat) (hp1 : RdS kd_api_Link w g C1 A1 cap1 p1) (hC1 : ∀ c, C1 c → c < N) (hp2 : RdS (kint .i64) w g C2 A2 cap2 p2) (hC2 : ∀ c, C2 c → c < N) (hr0 : r0 + 2 ≤ N) (H : ref24_closure.f p0 p1 p2 p3 = some out) :
    Calls Try.prog 47 #[.int .i64 p0, .slice A1 p1.length cap1, .slice A2 p2.length cap2, .bool p3] w (fun e w' => ∃ v, e = .returned v ∧ ∃ (g' : Nat → Nat) (A_r0 : Option Addr) (cap_r0 : Nat), v = .tuple #[.slice A_r0 out.1.length cap_r0, .int .i64 out.2] ∧ OwS (kint .i64) 3 w' g' r0 A_r0 cap_r0 out.1 ∧ Fr (fun q => (r0 ≤ q ∧ q < r0 + 2) ∨ N ≤ q) w g w' g') := by
  unfold ref24_closure.f at H
  refine calls_enter Try.func47 rfl Try.ntmps47 rfl (fun a hS => ?_)
  replace hS : Sl 108 a [(0, .int .i64 p0), (1, .slice A1 p1.length cap1), (2, .slice A2 p2.length cap2), (3, .bool p3)] := hS
  have hF : Fr (fun q => (r0 ≤ q ∧ q < r0 + 2) ∨ N ≤ q) w g w g := Fr.refl _ _ _
  refine c_pure [(0, .int .i64 p0), (1, .slice A1 p1.length cap1), (2, .slice A2 p2.length cap2), (3, .bool p3)] (fun R hR => st_val hS rfl rfl rfl (r_assign hS rfl rfl) fun a1 hS1 => st_val hS1 rfl rfl rfl (r_assign hS1 rfl rfl) fun a2 hS2 => wpList_nil (hR _ (hS2.re ⟨rfl, rfl, rfl, rfl, trivial⟩))) ?_
  clear hS
  clear a
  intro a hS
  refine wp_seq ?_
  obtain ⟨r5, hr6, H⟩ := bind_el H
  refine c_region (fun K hK => ?_)
  refine st_val hS rfl rfl rfl (r_move hS rfl rfl) fun a3 hS3 => st_val hS3 rfl rfl rfl (r_move hS3 rfl rfl) fun a4 hS4 => ?_
  refine st_enter hS4 rfl rfl rfl (r_call hS4 rfl rfl (by kernel_rfl)) (ref24_Basic.calls (C1 := C1) (p0 := p0) (p1 := p1) (g := g) (N + 6)  hp1 (fun q (hq : C1 q) => by have := hC1 q hq; omega) hr6) ?_
  rintro _ a7 w8 ⟨g8, rfl, F8⟩ hS7
  replace hp1 := RdS.fr hp1 F8 (by decide) (fun q (hq : C1 q) (hm : N + 6 ≤ q) => by have := hC1 q hq; omega)
  replace hp2 := RdS.fr hp2 F8 (by decide) (fun q (hq : C2 q) (hm : N + 6 ≤ q) => by have := hC2 q hq; omega)
  replace hF := hF.trans F8 (fun c' (hm : N + 6 ≤ c') => by show (r0 ≤ c' ∧ c' < r0 + 2) ∨ N ≤ c'; omega)
  refine st_val hS7 rfl rfl rfl (r_assign hS7 rfl rfl) fun a9 hS9 => wpList_nil (hK _ _ ?_)
  replace hS : Sl 108 _ [(0, .int .i64 p0), (1, .slice A1 p1.length cap1), (2, .slice A2 p2.length cap2), (3, .bool p3), (10, .int .i64 r5)] := hS9.re ⟨rfl, rfl, rfl, rfl, rfl, trivial⟩
  clear hK K
  try clear hS3 hS4 hS7 hS9
  obtain ⟨a, ha⟩ : ∃ a', a' = a9 := ⟨_, rfl⟩
  rw [← ha] at hS ⊢; clear ha
  refine c_pure [(0, .int .i64 p0), (1, .slice A1 p1.length cap1), (2, .slice A2 p2.length cap2), (3, .bool p3), (10, .int .i64 r5), (23, .bool (r5 != 0))] (fun R hR => st_val hS rfl rfl rfl (r_move hS rfl rfl) fun a10 hS10 => st_val hS10 rfl rfl rfl (r_bin hS10 rfl rfl rfl b_neq) fun a11 hS11 => wpList_nil (hR _ (hS11.re ⟨rfl, rfl, rfl, rfl, rfl, rfl, trivial⟩))) ?_
  clear hS
  clear a
  intro a hS
  refine c_cond hS rfl (fun hb12 => ?_) (fun hb12 => ?_)
  · replace H := ite_t hb12 H
    refine c_pure [(8, .slice none 0 0), (9, .int .i64 r5)] (fun R hR => st_val hS rfl rfl rfl (r_move hS rfl rfl) fun a13 hS13 => st_val hS13 rfl rfl rfl (r_assign hS13 rfl rfl) fun a14 hS14 => st_val hS14 rfl rfl rfl (r_assign hS14 rfl rfl) fun a15 hS15 => wpList_nil (hR _ (hS15.re ⟨rfl, rfl, trivial⟩))) ?_
    clear hS
    clear a
    intro a hS
    refine wp_ret ?_
    have e := Option.some.inj H
    subst e
    repeat (with_reducible first | refine then_ret ?_ | refine inBlock_ret ?_)
    exact c_ret2 hS Try.results47 rfl rfl ⟨_, rfl, g8, none, 0, rfl, OwS.nil (kint .i64) 3 w8 g8 r0, hF⟩
  · replace H := ite_f hb12 H
    refine wp_skip ?_
    change Code.wp _ _ _ _ _
    obtain ⟨y17, hy18, H⟩ := bind_el H
    refine c_region (fun K hK => ?_)
    refine st_val hS rfl rfl rfl (r_move hS rfl rfl) fun a16 hS16 => ?_
    refine st_eff hS16 rfl rfl rfl (e_make (e := 4) (sz := 1) (by_ := 1) (z := [.bool false]) (kd := kbool) (N + 0) g8 hS16 rfl rfl (by kernel_rfl) (by kernel_rfl) rfl rfl rfl (fun _ _ _ => rfl) hy18) ?_
    rintro _ a23 w24 g24 ⟨⟨A19, cap20, rfl, h21⟩, F24⟩ hS23
    replace hp1 := RdS.fr hp1 F24 (by decide) (fun _ _ h => h)
    replace hp2 := RdS.fr hp2 F24 (by decide) (fun _ _ h => h)
    replace hF := hF.trans F24 (fun _ h => h.elim)
    refine st_val hS23 rfl rfl rfl (r_assign hS23 rfl rfl) fun a25 hS25 => wpList_nil (hK _ _ ?_)
    replace hS : Sl 108 _ [(0, .int .i64 p0), (1, .slice A1 p1.length cap1), (2, .slice A2 p2.length cap2), (3, .bool p3), (11, .slice A19 y17.length cap20)] := hS25.re ⟨rfl, rfl, rfl, rfl, rfl, trivial⟩
    clear hK K
    try clear hS16 hS23 hS25
    obtain ⟨a, ha⟩ : ∃ a', a' = a25 := ⟨_, rfl⟩
    rw [← ha] at hS ⊢; clear ha
    obtain ⟨o28, H, Hl29⟩ := bind_el H
    refine c_cut (fun a w26 => ∃ (v27 : (List Bool)), ∃ (g26 : Nat → Nat), o28 = .nxt v27 ∧ Sl 108 a [(0, .int .i64 p0), (1, .slice A1 p1.length cap1), (3, .bool p3), (11, .slice A19 v27.length cap20)] ∧ OwS kbool 4 w26 g26 (N + 0) A19 cap20 v27 ∧ RdS kd_api_Link w26 g26 C1 A1 cap1 p1 ∧ Fr (fun q => (r0 ≤ q ∧ q < r0 + 2) ∨ N ≤ q) w g w26 g26) ?_ ?_
    · refine c_pure [(0, .int .i64 p0), (1, .slice A1 p1.length cap1), (2, .slice A2 p2.length cap2), (3, .bool p3), (11, .slice A19 y17.length cap20), (12, .int .i64 0)] (fun R hR => st_val hS rfl rfl rfl (r_assign hS rfl rfl) fun a30 hS30 => wpList_nil (hR _ (hS30.re ⟨rfl, rfl, rfl, rfl, rfl, rfl, trivial⟩))) ?_
      clear hS
      clear a
      intro a hS
      refine wp_block ?_
      refine wp_loop_ghost (fun kq => fun a w31 => ∃ (m0_0 : List Bool), ∃ (m0_1 : Int), ∃ (g31 : Nat → Nat), ref24_closure.l0 p0 p2 kq m0_0 m0_1 = some o28 ∧ Sl 108 a [(0, .int .i64 p0), (1, .slice A1 p1.length cap1), (2, .slice A2 p2.length cap2), (3, .bool p3), (11, .slice A19 m0_0.length cap20), (12, .int .i64 m0_1)] ∧ OwS kbool 4 w31 g31 (N + 0) A19 cap20 m0_0 ∧ RdS kd_api_Link w31 g31 C1 A1 cap1 p1 ∧ RdS (kint .i64) w31 g31 C2 A2 cap2 p2 ∧ Fr (fun q => (r0 ≤ q ∧ q < r0 + 2) ∨ N ≤ q) w g w31 g31) FUEL ?_ ?_
      · exact ⟨y17, 0, g24, H, hS.re ⟨rfl, rfl, rfl, rfl, rfl, rfl, trivial⟩, h21, hp1, hp2, hF⟩
      · clear H
        clear hp1 hp2 h21 hF
        clear hS
        rintro k32 a w31 ⟨m0_0, m0_1, g31, hpre0, hS, h21, hp1, hp2, hF⟩
        have H := hpre0
        clear hpre0
        cases k32 with
        | zero => exact absurd H (by simp [ref24_closure.l0])
        | succ k32 =>
          rw [ref24_closure.l0] at H
          refine wp_seq ?_
          refine c_pure [(0, .int .i64 p0), (1, .slice A1 p1.length cap1), (2, .slice A2 p2.length cap2), (3, .bool p3), (11, .slice A19 m0_0.length cap20), (12, .int .i64 m0_1), (30, .bool (decide (m0_1 < (p2.length : Int))))] (fun R hR => st_val hS rfl rfl rfl (r_move hS rfl rfl) fun a33 hS33 => st_val hS33 rfl rfl rfl (r_move hS33 rfl rfl) fun a34 hS34 => st_val hS34 rfl rfl rfl (r_len (e := 3) (sz := 1) (by_ := 8) hS34 rfl rfl (by kernel_rfl)) fun a35 hS35 => st_val hS35 rfl rfl rfl (r_bin hS35 rfl rfl rfl b_lss) fun a36 hS36 => wpList_nil (hR _ (hS36.re ⟨rfl, rfl, rfl, rfl, rfl, rfl, rfl, trivial⟩))) ?_
          clear hS
          clear a
          intro a hS
          refine c_cond hS rfl (fun hb37 => ?_) (fun hb37 => ?_)
          · replace H := ite_t hb37 H
            refine wp_skip ?_
            change Code.wp _ _ _ _ _
            refine wp_seq ?_
            refine wp_block ?_
            refine wp_seq ?_
            obtain ⟨x40, hx41, H⟩ := bind_el H
            refine c_region (fun K hK => ?_)
            refine st_val hS rfl rfl rfl (r_move hS rfl rfl) fun a38 hS38 => st_val hS38 rfl rfl rfl (r_move hS38 rfl rfl) fun a39 hS39 => st_val hS39 rfl rfl rfl (r_index (e := 3) (sz := 1) (by_ := 8) hS39 rfl rfl rfl (by kernel_rfl) (RdS.some_ hp2 hx41) (idx_lo hx41) (idx_hi hx41)) fun a42 hS42 => st_val hS42 rfl rfl rfl (r_load1 (n := 1) hS42 rfl rfl (by kernel_rfl) (RdS.cell (i := m0_1) (sz := 1) (j := 0) hp2 hx41 rfl)) fun a43 hS43 => st_val hS43 rfl rfl rfl (r_bin hS43 rfl rfl rfl b_lss) fun a44 hS44 => st_val hS44 rfl rfl rfl (r_move hS44 rfl rfl) fun a45 hS45 => ?_
            refine g_join (N := 108) 7 [(0, .int .i64 p0), (1, .slice A1 p1.length cap1), (2, .slice A2 p2.length cap2), (3, .bool p3), (11, .slice A19 m0_0.length cap20), (12, .int .i64 m0_1), (45, .bool ((decide (x40 < 0)) || (decide (p0 ≤ x40))))] ?_ (fun hk => ?_)
            rotate_left
            · rcases Bool.eq_false_or_eq_true (decide (x40 < 0)) with hb46 | hb46
              · refine st_off hS45 (want_off hS45 rfl rfl rfl hb46) rfl rfl fun a53 hS53 => st_off hS53 (want_off hS53 rfl rfl rfl hb46) rfl rfl fun a54 hS54 => st_off hS54 (want_off hS54 rfl rfl rfl hb46) rfl rfl fun a55 hS55 => st_off hS55 (want_off hS55 rfl rfl rfl hb46) rfl rfl fun a56 hS56 => st_off hS56 (want_off hS56 rfl rfl rfl hb46) rfl rfl fun a57 hS57 => st_off hS57 (want_off hS57 rfl rfl rfl hb46) rfl rfl fun a58 hS58 => st_val hS58 rfl rfl rfl (r_pickT hS58 rfl rfl rfl hb46) fun a59 hS59 => hk _ (hS59.re ⟨rfl, rfl, rfl, rfl, rfl, rfl, (by rw [hb46]; rfl), trivial⟩)
              · refine st_valW hS45 (want_on hS45 rfl rfl rfl hb46) rfl rfl (r_move hS45 rfl rfl) fun a60 hS60 => st_valW hS60 (want_on hS60 rfl rfl rfl hb46) rfl rfl (r_move hS60 rfl rfl) fun a61 hS61 => st_valW hS61 (want_on hS61 rfl rfl rfl hb46) rfl rfl (r_index (e := 3) (sz := 1) (by_ := 8) hS61 rfl rfl rfl (by kernel_rfl) (RdS.some_ hp2 hx41) (idx_lo hx41) (idx_hi hx41)) fun a62 hS62 => st_valW hS62 (want_on hS62 rfl rfl rfl hb46) rfl rfl (r_load1 (n := 1) hS62 rfl rfl (by kernel_rfl) (RdS.cell (i := m0_1) (sz := 1) (j := 0) hp2 hx41 rfl)) fun a63 hS63 => st_valW hS63 (want_on hS63 rfl rfl rfl hb46) rfl rfl (r_move hS63 rfl rfl) fun a64 hS64 => st_valW hS64 (want_on hS64 rfl rfl rfl hb46) rfl rfl (r_bin hS64 rfl rfl rfl b_geq) fun a65 hS65 => st_val hS65 rfl rfl rfl (r_pickF hS65 rfl rfl rfl hb46) fun a66 hS66 => hk _ (hS66.re ⟨rfl, rfl, rfl, rfl, rfl, rfl, (by rw [hb46]; rfl), trivial⟩)
            intro a67 hS67
            refine wpList_nil (hK _ _ ?_)
            replace hS : Sl 108 _ [(0, .int .i64 p0), (1, .slice A1 p1.length cap1), (2, .slice A2 p2.length cap2), (3, .bool p3), (11, .slice A19 m0_0.length cap20), (12, .int .i64 m0_1), (45, .bool ((decide (x40 < 0)) || (decide (p0 ≤ x40))))] := hS67.re ⟨rfl, rfl, rfl, rfl, rfl, rfl, rfl, trivial⟩
            clear hK K
            try clear hS38 hS39 hS42 hS43 hS44 hS45 hS67
            obtain ⟨a, ha⟩ : ∃ a', a' = a67 := ⟨_, rfl⟩
            rw [← ha] at hS ⊢; clear ha
            refine c_cond hS rfl (fun hb68 => ?_) (fun hb68 => ?_)
            · replace H := ite_t hb68 H
              refine c_pure [(8, .slice none 0 0), (9, .int .i64 1)] (fun R hR => st_val hS rfl rfl rfl (r_assign hS rfl rfl) fun a69 hS69 => st_val hS69 rfl rfl rfl (r_assign hS69 rfl rfl) fun a70 hS70 => wpList_nil (hR _ (hS70.re ⟨rfl, rfl, trivial⟩))) ?_
              clear hS
              clear a
              intro a hS
              refine wp_ret ?_
              have e := Option.some.inj H
              subst e
              replace H := Fl.go_out Hl29
              have e := Option.some.inj H
              subst e
              repeat (with_reducible first | refine then_ret ?_ | refine inBlock_ret ?_)
              exact c_ret2 hS Try.results47 rfl rfl ⟨_, rfl, g31, none, 0, rfl, OwS.nil (kint .i64) 3 w31 g31 r0, hF⟩
            · replace H := ite_f hb68 H
              refine wp_skip ?_
              change Code.wp _ _ _ _ _
              obtain ⟨x76, hx77, H⟩ := bind_el H
              refine c_region1 (fun K hK => ?_)
              refine st_val hS rfl rfl rfl (r_move hS rfl rfl) fun a71 hS71 => st_val hS71 rfl rfl rfl (r_move hS71 rfl rfl) fun a72 hS72 => st_val hS72 rfl rfl rfl (r_move hS72 rfl rfl) fun a73 hS73 => st_val hS73 rfl rfl rfl (r_index (e := 3) (sz := 1) (by_ := 8) hS73 rfl rfl rfl (by kernel_rfl) (RdS.some_ hp2 hx41) (idx_lo hx41) (idx_hi hx41)) fun a74 hS74 => st_val hS74 rfl rfl rfl (r_load1 (n := 1) hS74 rfl rfl (by kernel_rfl) (RdS.cell (i := m0_1) (sz := 1) (j := 0) hp2 hx41 rfl)) fun a75 hS75 => st_val hS75 rfl rfl rfl (r_index (e := 4) (sz := 1) (by_ := 1) hS75 rfl rfl rfl (by kernel_rfl) (RdS.some_ (OwS.rd h21) hx77) (idx_lo hx77) (idx_hi hx77)) fun a78 hS78 => ?_
              refine st_effS hS78 rfl rfl (e_storeE (n := 1) (bb := false) (kd := kbool) (j := 0) (x' := true) (us := [.bool true]) g31 hS78 rfl rfl rfl rfl (by kernel_rfl) rfl rfl (by intro v hv; simp only [List.mem_cons, List.not_mem_nil, or_false] at hv; rcases hv with rfl <;> rfl) h21 hx77 rfl (fun _ _ cs hR => by rw [show cs = _ from hR]; rfl)) ?_
              rintro a79 w80 g80 ⟨h21, F80⟩ hS79
              replace hp1 := RdS.fr hp1 F80 (by decide) (fun q (hq : C1 q) (hm : q = N + 0) => by have := hC1 q hq; omega)
              replace hp2 := RdS.fr hp2 F80 (by decide) (fun q (hq : C2 q) (hm : q = N + 0) => by have := hC2 q hq; omega)
              replace hF := hF.trans F80 (fun c' (hm : c' = N + 0) => by show (r0 ≤ c' ∧ c' < r0 + 2) ∨ N ≤ c'; omega)
              have hT : Sl 108 a79 [(0, .int .i64 p0), (1, .slice A1 p1.length cap1), (2, .slice A2 p2.length cap2), (3, .bool p3), (11, .slice A19 m0_0.length cap20), (12, .int .i64 m0_1)] := hS79.re ⟨rfl, rfl, rfl, rfl, rfl, rfl, trivial⟩
              replace hS79 : Sl 108 a79 [(0, .int .i64 p0), (1, .slice A1 p1.length cap1), (2, .slice A2 p2.length cap2), (3, .bool p3), (11, .slice A19 (upd m0_0 x40 true).length cap20), (12, .int .i64 m0_1)] := by simpa only [upd_length] using hT
              clear hT
              refine wpList_nil (hK _ _ ?_)
              replace hS : Sl 108 _ [(0, .int .i64 p0), (1, .slice A1 p1.length cap1), (2, .slice A2 p2.length cap2), (3, .bool p3), (11, .slice A19 (upd m0_0 x40 true).length cap20), (12, .int .i64 m0_1)] := hS79.re ⟨rfl, rfl, rfl, rfl, rfl, rfl, trivial⟩
              clear hK K
              try clear hS71 hS72 hS73 hS74 hS75 hS78 hS79
              obtain ⟨a, ha⟩ : ∃ a', a' = a79 := ⟨_, rfl⟩
              rw [← ha] at hS ⊢; clear ha
              change Code.wp _ _ _ _ _
              refine c_pure1 [(0, .int .i64 p0), (1, .slice A1 p1.length cap1), (2, .slice A2 p2.length cap2), (3, .bool p3), (11, .slice A19 (upd m0_0 x40 true).length cap20), (12, .int .i64 (wi (m0_1 + 1)))] (fun R hR => st_val hS rfl rfl rfl (r_move hS rfl rfl) fun a81 hS81 => st_val hS81 rfl rfl rfl (r_bin hS81 rfl rfl rfl b_add) fun a82 hS82 => st_val hS82 rfl rfl rfl (r_assign hS82 rfl rfl) fun a83 hS83 => wpList_nil (hR _ (hS83.re ⟨rfl, rfl, rfl, rfl, rfl, rfl, trivial⟩))) ?_
              clear hS
              clear a
              intro a hS
              refine ⟨k32, Nat.lt_succ_self _, ?_⟩
              exact ⟨(upd m0_0 x40 true), wi (m0_1 + 1), g80, H, hS.re ⟨rfl, rfl, rfl, rfl, rfl, rfl, trivial⟩, h21, hp1, hp2, hF⟩
          · replace H := ite_f hb37 H
            refine wp_exit ?_
            have e := Option.some.inj H
            exact ⟨m0_0, g31, e.symm, hS.re ⟨rfl, rfl, rfl, rfl, trivial⟩, h21, hp1, hF⟩
    · clear H
      clear hp1 hp2 h21 hF
      clear hS
      rintro a w26 ⟨v27, g26, hpre0, hS, h21, hp1, hF⟩
      subst hpre0
      have H := Fl.go_nxt Hl29
      clear Hl29
      obtain ⟨v85, H, Hl87⟩ := bind_el H
      refine c_cut (fun a w84 => ∃ (g84 : Nat → Nat), Sl 108 a [(0, .int .i64 p0), (11, .slice A19 v85.length cap20)] ∧ OwS kbool 4 w84 g84 (N + 0) A19 cap20 v85 ∧ Fr (fun q => (r0 ≤ q ∧ q < r0 + 2) ∨ N ≤ q) w g w84 g84) ?_ ?_
      · refine c_pure [(0, .int .i64 p0), (1, .slice A1 p1.length cap1), (3, .bool p3), (11, .slice A19 v27.length cap20), (13, .int .i64 0)] (fun R hR => st_val hS rfl rfl rfl (r_assign hS rfl rfl) fun a88 hS88 => wpList_nil (hR _ (hS88.re ⟨rfl, rfl, rfl, rfl, rfl, trivial⟩))) ?_
        clear hS
        clear a
        intro a hS
        refine wp_block ?_
        refine wp_loop_ghost (fun kq => fun a w89 => ∃ (m1_0 : List Bool), ∃ (m1_1 : Int), ∃ (g89 : Nat → Nat), ref24_closure.l1 p0 p1 p3 kq m1_0 m1_1 = some v85 ∧ Sl 108 a [(0, .int .i64 p0), (1, .slice A1 p1.length cap1), (3, .bool p3), (11, .slice A19 m1_0.length cap20), (13, .int .i64 m1_1)] ∧ OwS kbool 4 w89 g89 (N + 0) A19 cap20 m1_0 ∧ RdS kd_api_Link w89 g89 C1 A1 cap1 p1 ∧ Fr (fun q => (r0 ≤ q ∧ q < r0 + 2) ∨ N ≤ q) w g w89 g89) FUEL ?_ ?_
        · exact ⟨v27, 0, g26, H, hS.re ⟨rfl, rfl, rfl, rfl, rfl, trivial⟩, h21, hp1, hF⟩
        · clear H
          clear hp1 h21 hF
          clear hS
          rintro k90 a w89 ⟨m1_0, m1_1, g89, hpre0, hS, h21, hp1, hF⟩
          have H := hpre0
          clear hpre0
          cases k90 with
          | zero => exact absurd H (by simp [ref24_closure.l1])
          | succ k90 =>
            rw [ref24_closure.l1] at H
            refine wp_seq ?_
            refine c_pure [(0, .int .i64 p0), (1, .slice A1 p1.length cap1), (3, .bool p3), (11, .slice A19 m1_0.length cap20), (13, .int .i64 m1_1), (54, .bool (decide (m1_1 < p0)))] (fun R hR => st_val hS rfl rfl rfl (r_move hS rfl rfl) fun a91 hS91 => st_val hS91 rfl rfl rfl (r_move hS91 rfl rfl) fun a92 hS92 => st_val hS92 rfl rfl rfl (r_bin hS92 rfl rfl rfl b_lss) fun a93 hS93 => wpList_nil (hR _ (hS93.re ⟨rfl, rfl, rfl, rfl, rfl, rfl, trivial⟩))) ?_
            clear hS
            clear a
            intro a hS
            refine c_cond hS rfl (fun hb94 => ?_) (fun hb94 => ?_)
            · replace H := ite_t hb94 H
              refine wp_skip ?_
              change Code.wp _ _ _ _ _
              obtain ⟨v96, H, Hl98⟩ := bind_el H
              refine c_cut (fun a w95 => ∃ (g95 : Nat → Nat), Sl 108 a [(0, .int .i64 p0), (1, .slice A1 p1.length cap1), (3, .bool p3), (11, .slice A19 v96.length cap20), (13, .int .i64 m1_1)] ∧ OwS kbool 4 w95 g95 (N + 0) A19 cap20 v96 ∧ RdS kd_api_Link w95 g95 C1 A1 cap1 p1 ∧ Fr (fun q => (r0 ≤ q ∧ q < r0 + 2) ∨ N ≤ q) w g w95 g95) ?_ ?_
              · refine wp_block ?_
                refine c_pure [(0, .int .i64 p0), (1, .slice A1 p1.length cap1), (3, .bool p3), (11, .slice A19 m1_0.length cap20), (13, .int .i64 m1_1), (14, .int .i64 0)] (fun R hR => st_val hS rfl rfl rfl (r_assign hS rfl rfl) fun a99 hS99 => wpList_nil (hR _ (hS99.re ⟨rfl, rfl, rfl, rfl, rfl, rfl, trivial⟩))) ?_
                clear hS
                clear a
                intro a hS
                refine wp_block ?_
                refine wp_loop_ghost (fun kq => fun a w100 => ∃ (m2_0 : List Bool), ∃ (m2_1 : Int), ∃ (g100 : Nat → Nat), ref24_closure.l2 p1 p3 kq m2_0 m2_1 = some v96 ∧ Sl 108 a [(0, .int .i64 p0), (1, .slice A1 p1.length cap1), (3, .bool p3), (11, .slice A19 m2_0.length cap20), (13, .int .i64 m1_1), (14, .int .i64 m2_1)] ∧ OwS kbool 4 w100 g100 (N + 0) A19 cap20 m2_0 ∧ RdS kd_api_Link w100 g100 C1 A1 cap1 p1 ∧ Fr (fun q => (r0 ≤ q ∧ q < r0 + 2) ∨ N ≤ q) w g w100 g100) FUEL ?_ ?_
                · exact ⟨m1_0, 0, g89, H, hS.re ⟨rfl, rfl, rfl, rfl, rfl, rfl, trivial⟩, h21, hp1, hF⟩
                · clear H
                  clear hp1 h21 hF
                  clear hS
                  rintro k101 a w100 ⟨m2_0, m2_1, g100, hpre0, hS, h21, hp1, hF⟩
                  have H := hpre0
                  clear hpre0
                  cases k101 with
                  | zero => exact absurd H (by simp [ref24_closure.l2])
                  | succ k101 =>
                    rw [ref24_closure.l2] at H
                    refine wp_seq ?_
                    refine c_pure [(0, .int .i64 p0), (1, .slice A1 p1.length cap1), (3, .bool p3), (11, .slice A19 m2_0.length cap20), (13, .int .i64 m1_1), (14, .int .i64 m2_1), (60, .bool (decide (m2_1 < (p1.length : Int))))] (fun R hR => st_val hS rfl rfl rfl (r_move hS rfl rfl) fun a102 hS102 => st_val hS102 rfl rfl rfl (r_move hS102 rfl rfl) fun a103 hS103 => st_val hS103 rfl rfl rfl (r_len (e := 34) (sz := 2) (by_ := 16) hS103 rfl rfl (by kernel_rfl)) fun a104 hS104 => st_val hS104 rfl rfl rfl (r_bin hS104 rfl rfl rfl b_lss) fun a105 hS105 => wpList_nil (hR _ (hS105.re ⟨rfl, rfl, rfl, rfl, rfl, rfl, rfl, trivial⟩))) ?_
                    clear hS
                    clear a
                    intro a hS
                    refine c_cond hS rfl (fun hb106 => ?_) (fun hb106 => ?_)
                    · replace H := ite_t hb106 H
                      refine wp_skip ?_
                      change Code.wp _ _ _ _ _
                      obtain ⟨v108, H, Hl110⟩ := bind_el H
                      refine c_cut (fun a w107 => ∃ (g107 : Nat → Nat), Sl 108 a [(0, .int .i64 p0), (1, .slice A1 p1.length cap1), (3, .bool p3), (11, .slice A19 v108.length cap20), (13, .int .i64 m1_1), (14, .int .i64 m2_1)] ∧ OwS kbool 4 w107 g107 (N + 0) A19 cap20 v108 ∧ RdS kd_api_Link w107 g107 C1 A1 cap1 p1 ∧ Fr (fun q => (r0 ≤ q ∧ q < r0 + 2) ∨ N ≤ q) w g w107 g107) ?_ ?_
                      · refine wp_block ?_
                        obtain ⟨x114, hx115, H⟩ := bind_el H
                        refine c_draw (fun K hK => d_start (fun q => False) g100 [] 12 #[false, false, false, false, false, false, false, false, false, false, false, false] (by kernel_rfl) rfl rfl (fun w111 hw111 => ?_))
                        have F111 : Fr (fun _ => False) w100 g100 w111 g100 := by rw [hw111]; exact Fr.drew _ _ _
                        replace h21 := OwS.fr h21 F111 (fun _ _ h => h)
                        replace hp1 := RdS.fr hp1 F111 (by decide) (fun _ _ h => h)
                        replace hF := hF.trans F111 (fun _ h => h.elim)
                        have hC : Fr (fun q => False) w111 g100 w111 g100 := Fr.refl _ _ _
                        refine d_pure hS 0 #[true, false, false, false, false, false, false, false, false, false, false, false] rfl rfl rfl rfl (by kernel_rfl) (fun _ _ _ h => h) (fun _ => (r_move hS rfl rfl)) fun a112 hS112 => d_pure hS112 1 #[true, true, false, false, false, false, false, false, false, false, false, false] rfl rfl rfl rfl (by kernel_rfl) (fun _ _ _ h => h) (fun _ => (r_move hS112 rfl rfl)) fun a113 hS113 => d_pure hS113 2 #[true, true, true, false, false, false, false, false, false, false, false, false] rfl rfl rfl rfl (by kernel_rfl) (fun _ _ _ h => h) (fun _ => (r_index (e := 34) (sz := 2) (by_ := 16) hS113 rfl rfl rfl (by kernel_rfl) (RdS.some_ hp1 hx115) (idx_lo hx115) (idx_hi hx115))) fun a116 hS116 => d_pure hS116 3 #[true, true, true, true, false, false, false, false, false, false, false, false] rfl rfl rfl rfl (by kernel_rfl) (fun _ _ _ h => h) (fun _ => (r_fieldE (off := 0) hS116 rfl rfl (by kernel_rfl))) fun a117 hS117 => d_take hS117 4 #[true, true, true, true, true, false, false, false, false, false, false, false] rfl rfl rfl rfl (by kernel_rfl) (fun _ _ _ h => h) ⟨_, hC⟩ (fun w' g' Fz => (r_load1 (n := 1) hS117 rfl rfl (by kernel_rfl) (RdS.cell (i := m2_1) (sz := 2) (j := 0) (RdS.fr hp1 Fz (by decide) (fun _ _ h => h)) hx115 rfl))) fun a118 hS118 => d_pure hS118 5 #[true, true, true, true, true, true, false, false, false, false, false, false] rfl rfl rfl rfl (by kernel_rfl) (fun _ _ _ h => h) (fun _ => (r_move hS118 rfl rfl)) fun a119 hS119 => d_pure hS119 6 #[true, true, true, true, true, true, true, false, false, false, false, false] rfl rfl rfl rfl (by kernel_rfl) (fun _ _ _ h => h) (fun _ => (r_move hS119 rfl rfl)) fun a120 hS120 => d_pure hS120 7 #[true, true, true, true, true, true, true, true, false, false, false, false] rfl rfl rfl rfl (by kernel_rfl) (fun _ _ _ h => h) (fun _ => (r_index (e := 34) (sz := 2) (by_ := 16) hS120 rfl rfl rfl (by kernel_rfl) (RdS.some_ hp1 hx115) (idx_lo hx115) (idx_hi hx115))) fun a121 hS121 => d_pure hS121 8 #[true, true, true, true, true, true, true, true, true, false, false, false] rfl rfl rfl rfl (by kernel_rfl) (fun _ _ _ h => h) (fun _ => (r_fieldE (off := 1) hS121 rfl rfl (by kernel_rfl))) fun a122 hS122 => d_take hS122 9 #[true, true, true, true, true, true, true, true, true, true, false, false] rfl rfl rfl rfl (by kernel_rfl) (fun _ _ _ h => h) ⟨_, hC⟩ (fun w' g' Fz => (r_load1 (n := 1) hS122 rfl rfl (by kernel_rfl) (RdS.cell (i := m2_1) (sz := 2) (j := 1) (RdS.fr hp1 Fz (by decide) (fun _ _ h => h)) hx115 rfl))) fun a123 hS123 => d_pure hS123 10 #[true, true, true, true, true, true, true, true, true, true, true, false] rfl rfl rfl rfl (by kernel_rfl) (fun _ _ _ h => h) (fun _ => (r_assign hS123 rfl rfl)) fun a124 hS124 => d_pure hS124 11 #[true, true, true, true, true, true, true, true, true, true, true, true] rfl rfl rfl rfl (by kernel_rfl) (fun _ _ _ h => h) (fun _ => (r_assign hS124 rfl rfl)) fun a125 hS125 => d_done (by kernel_rfl) (hK _ _ ?_)
                        replace hS : Sl 108 _ [(0, .int .i64 p0), (1, .slice A1 p1.length cap1), (3, .bool p3), (11, .slice A19 m2_0.length cap20), (13, .int .i64 m1_1), (14, .int .i64 m2_1), (15, .int .i64 x114.Consumer), (16, .int .i64 x114.Supplier)] := hS125.re ⟨rfl, rfl, rfl, rfl, rfl, rfl, rfl, rfl, trivial⟩
                        clear hK K hC
                        try clear hS112 hS113 hS116 hS117 hS118 hS119 hS120 hS121 hS122 hS123 hS124 hS125
                        obtain ⟨a, ha⟩ : ∃ a', a' = a125 := ⟨_, rfl⟩
                        rw [← ha] at hS ⊢; clear ha
                        obtain ⟨v127, H, Hl129⟩ := bind_el H
                        refine c_cut (fun a w126 => ∃ (g126 : Nat → Nat), Sl 108 a [(0, .int .i64 p0), (1, .slice A1 p1.length cap1), (3, .bool p3), (11, .slice A19 v127.length cap20), (13, .int .i64 m1_1), (14, .int .i64 m2_1), (15, .int .i64 x114.Consumer), (16, .int .i64 x114.Supplier)] ∧ OwS kbool 4 w126 g126 (N + 0) A19 cap20 v127 ∧ RdS kd_api_Link w126 g126 C1 A1 cap1 p1 ∧ Fr (fun q => (r0 ≤ q ∧ q < r0 + 2) ∨ N ≤ q) w g w126 g126) ?_ ?_
                        · obtain ⟨t139, ht140, H⟩ := bind_el H
                          refine c_region (fun K hK => ?_)
                          refine st_val hS rfl rfl rfl (r_move hS rfl rfl) fun a130 hS130 => st_val hS130 rfl rfl rfl (r_move hS130 rfl rfl) fun a131 hS131 => ?_
                          refine g_join (N := 108) 5 [(0, .int .i64 p0), (1, .slice A1 p1.length cap1), (3, .bool p3), (11, .slice A19 m2_0.length cap20), (13, .int .i64 m1_1), (14, .int .i64 m2_1), (15, .int .i64 x114.Consumer), (16, .int .i64 x114.Supplier), (79, .bool t139)] ?_ (fun hk => ?_)
                          rotate_left
                          · rcases Bool.eq_false_or_eq_true (p3) with hb132 | hb132
                            · have H := ite_t hb132 ht140
                              obtain ⟨x143, hx144, H⟩ := bind_el H
                              have e147 := Option.some.inj H
                              refine st_valW hS131 (want_on hS131 rfl rfl rfl hb132) rfl rfl (r_move hS131 rfl rfl) fun a141 hS141 => st_valW hS141 (want_on hS141 rfl rfl rfl hb132) rfl rfl (r_move hS141 rfl rfl) fun a142 hS142 => st_valW hS142 (want_on hS142 rfl rfl rfl hb132) rfl rfl (r_index (e := 4) (sz := 1) (by_ := 1) hS142 rfl rfl rfl (by kernel_rfl) (RdS.some_ (OwS.rd h21) hx144) (idx_lo hx144) (idx_hi hx144)) fun a145 hS145 => st_valW hS145 (want_on hS145 rfl rfl rfl hb132) rfl rfl (r_load1 (n := 1) hS145 rfl rfl (by kernel_rfl) (RdS.cell (i := x114.Consumer) (sz := 1) (j := 0) (OwS.rd h21) hx144 rfl)) fun a146 hS146 => st_val hS146 rfl rfl rfl (r_pickT hS146 rfl rfl rfl hb132) fun a148 hS148 => hk _ (hS148.re ⟨rfl, rfl, rfl, rfl, rfl, rfl, rfl, rfl, (by rw [← e147]; rfl), trivial⟩)
                            · have H := ite_f hb132 ht140
                              have e149 := Option.some.inj H
                              refine st_off hS131 (want_off hS131 rfl rfl rfl hb132) rfl rfl fun a150 hS150 => st_off hS150 (want_off hS150 rfl rfl rfl hb132) rfl rfl fun a151 hS151 => st_off hS151 (want_off hS151 rfl rfl rfl hb132) rfl rfl fun a152 hS152 => st_off hS152 (want_off hS152 rfl rfl rfl hb132) rfl rfl fun a153 hS153 => st_val hS153 rfl rfl rfl (r_pickF hS153 rfl rfl rfl hb132) fun a154 hS154 => hk _ (hS154.re ⟨rfl, rfl, rfl, rfl, rfl, rfl, rfl, rfl, (by rw [← e149]; rfl), trivial⟩)
                          intro a155 hS155
                          refine wpList_nil (hK _ _ ?_)
                          replace hS : Sl 108 _ [(0, .int .i64 p0), (1, .slice A1 p1.length cap1), (3, .bool p3), (11, .slice A19 m2_0.length cap20), (13, .int .i64 m1_1), (14, .int .i64 m2_1), (15, .int .i64 x114.Consumer), (16, .int .i64 x114.Supplier), (79, .bool t139)] := hS155.re ⟨rfl, rfl, rfl, rfl, rfl, rfl, rfl, rfl, rfl, trivial⟩
                          clear hK K
                          try clear hS130 hS131 hS155
                          obtain ⟨a, ha⟩ : ∃ a', a' = a155 := ⟨_, rfl⟩
                          rw [← ha] at hS ⊢; clear ha
                          refine c_cond hS rfl (fun hb156 => ?_) (fun hb156 => ?_)
                          · replace H := ite_t hb156 H
                            obtain ⟨x159, hx160, H⟩ := bind_el H
                            refine c_region1 (fun K hK => ?_)
                            refine st_val hS rfl rfl rfl (r_move hS rfl rfl) fun a157 hS157 => st_val hS157 rfl rfl rfl (r_move hS157 rfl rfl) fun a158 hS158 => st_val hS158 rfl rfl rfl (r_index (e := 4) (sz := 1) (by_ := 1) hS158 rfl rfl rfl (by kernel_rfl) (RdS.some_ (OwS.rd h21) hx160) (idx_lo hx160) (idx_hi hx160)) fun a161 hS161 => ?_
                            refine st_effS hS161 rfl rfl (e_storeE (n := 1) (bb := false) (kd := kbool) (j := 0) (x' := true) (us := [.bool true]) g100 hS161 rfl rfl rfl rfl (by kernel_rfl) rfl rfl (by intro v hv; simp only [List.mem_cons, List.not_mem_nil, or_false] at hv; rcases hv with rfl <;> rfl) h21 hx160 rfl (fun _ _ cs hR => by rw [show cs = _ from hR]; rfl)) ?_
                            rintro a162 w163 g163 ⟨h21, F163⟩ hS162
                            replace hp1 := RdS.fr hp1 F163 (by decide) (fun q (hq : C1 q) (hm : q = N + 0) => by have := hC1 q hq; omega)
                            replace hF := hF.trans F163 (fun c' (hm : c' = N + 0) => by show (r0 ≤ c' ∧ c' < r0 + 2) ∨ N ≤ c'; omega)
                            have hT : Sl 108 a162 [(0, .int .i64 p0), (1, .slice A1 p1.length cap1), (3, .bool p3), (11, .slice A19 m2_0.length cap20), (13, .int .i64 m1_1), (14, .int .i64 m2_1), (15, .int .i64 x114.Consumer), (16, .int .i64 x114.Supplier)] := hS162.re ⟨rfl, rfl, rfl, rfl, rfl, rfl, rfl, rfl, trivial⟩
                            replace hS162 : Sl 108 a162 [(0, .int .i64 p0), (1, .slice A1 p1.length cap1), (3, .bool p3), (11, .slice A19 (upd m2_0 x114.Supplier true).length cap20), (13, .int .i64 m1_1), (14, .int .i64 m2_1), (15, .int .i64 x114.Consumer), (16, .int .i64 x114.Supplier)] := by simpa only [upd_length] using hT
                            clear hT
                            refine wpList_nil (hK _ _ ?_)
                            replace hS : Sl 108 _ [(0, .int .i64 p0), (1, .slice A1 p1.length cap1), (3, .bool p3), (11, .slice A19 (upd m2_0 x114.Supplier true).length cap20), (13, .int .i64 m1_1), (14, .int .i64 m2_1), (15, .int .i64 x114.Consumer), (16, .int .i64 x114.Supplier)] := hS162.re ⟨rfl, rfl, rfl, rfl, rfl, rfl, rfl, rfl, trivial⟩
                            clear hK K
                            try clear hS157 hS158 hS161 hS162
                            obtain ⟨a, ha⟩ : ∃ a', a' = a162 := ⟨_, rfl⟩
                            rw [← ha] at hS ⊢; clear ha
                            have e := Option.some.inj H
                            subst e
                            exact ⟨g163, hS.re ⟨rfl, rfl, rfl, rfl, rfl, rfl, rfl, rfl, trivial⟩, h21, hp1, hF⟩
                          · replace H := ite_f hb156 H
                            refine wp_skip ?_
                            have e := Option.some.inj H
                            subst e
                            exact ⟨g100, hS.re ⟨rfl, rfl, rfl, rfl, rfl, rfl, rfl, rfl, trivial⟩, h21, hp1, hF⟩
                        · clear H
                          clear hp1 h21 hF
                          clear hS
                          rintro a w126 ⟨g126, hS, h21, hp1, hF⟩
                          have H := Hl129
                          clear Hl129
                          obtain ⟨t174, ht175, H⟩ := bind_el H
                          refine c_region (fun K hK => ?_)
                          refine st_val hS rfl rfl rfl (r_move hS rfl rfl) fun a164 hS164 => st_val hS164 rfl rfl rfl (r_not hS164 rfl rfl) fun a165 hS165 => st_val hS165 rfl rfl rfl (r_move hS165 rfl rfl) fun a166 hS166 => ?_
                          refine g_join (N := 108) 5 [(0, .int .i64 p0), (1, .slice A1 p1.length cap1), (3, .bool p3), (11, .slice A19 v127.length cap20), (13, .int .i64 m1_1), (14, .int .i64 m2_1), (15, .int .i64 x114.Consumer), (90, .bool t174)] ?_ (fun hk => ?_)
                          rotate_left
                          · rcases Bool.eq_false_or_eq_true ((!p3)) with hb167 | hb167
                            · have H := ite_t hb167 ht175
                              obtain ⟨x178, hx179, H⟩ := bind_el H
                              have e182 := Option.some.inj H
                              refine st_valW hS166 (want_on hS166 rfl rfl rfl hb167) rfl rfl (r_move hS166 rfl rfl) fun a176 hS176 => st_valW hS176 (want_on hS176 rfl rfl rfl hb167) rfl rfl (r_move hS176 rfl rfl) fun a177 hS177 => st_valW hS177 (want_on hS177 rfl rfl rfl hb167) rfl rfl (r_index (e := 4) (sz := 1) (by_ := 1) hS177 rfl rfl rfl (by kernel_rfl) (RdS.some_ (OwS.rd h21) hx179) (idx_lo hx179) (idx_hi hx179)) fun a180 hS180 => st_valW hS180 (want_on hS180 rfl rfl rfl hb167) rfl rfl (r_load1 (n := 1) hS180 rfl rfl (by kernel_rfl) (RdS.cell (i := x114.Supplier) (sz := 1) (j := 0) (OwS.rd h21) hx179 rfl)) fun a181 hS181 => st_val hS181 rfl rfl rfl (r_pickT hS181 rfl rfl rfl hb167) fun a183 hS183 => hk _ (hS183.re ⟨rfl, rfl, rfl, rfl, rfl, rfl, rfl, (by rw [← e182]; rfl), trivial⟩)
                            · have H := ite_f hb167 ht175
                              have e184 := Option.some.inj H
                              refine st_off hS166 (want_off hS166 rfl rfl rfl hb167) rfl rfl fun a185 hS185 => st_off hS185 (want_off hS185 rfl rfl rfl hb167) rfl rfl fun a186 hS186 => st_off hS186 (want_off hS186 rfl rfl rfl hb167) rfl rfl fun a187 hS187 => st_off hS187 (want_off hS187 rfl rfl rfl hb167) rfl rfl fun a188 hS188 => st_val hS188 rfl rfl rfl (r_pickF hS188 rfl rfl rfl hb167) fun a189 hS189 => hk _ (hS189.re ⟨rfl, rfl, rfl, rfl, rfl, rfl, rfl, (by rw [← e184]; rfl), trivial⟩)
                          intro a190 hS190
                          refine wpList_nil (hK _ _ ?_)
                          replace hS : Sl 108 _ [(0, .int .i64 p0), (1, .slice A1 p1.length cap1), (3, .bool p3), (11, .slice A19 v127.length cap20), (13, .int .i64 m1_1), (14, .int .i64 m2_1), (15, .int .i64 x114.Consumer), (90, .bool t174)] := hS190.re ⟨rfl, rfl, rfl, rfl, rfl, rfl, rfl, rfl, trivial⟩
                          clear hK K
                          try clear hS164 hS165 hS166 hS190
                          obtain ⟨a, ha⟩ : ∃ a', a' = a190 := ⟨_, rfl⟩
                          rw [← ha] at hS ⊢; clear ha
                          refine c_cond hS rfl (fun hb191 => ?_) (fun hb191 => ?_)
                          · replace H := ite_t hb191 H
                            obtain ⟨x194, hx195, H⟩ := bind_el H
                            refine c_region1 (fun K hK => ?_)
                            refine st_val hS rfl rfl rfl (r_move hS rfl rfl) fun a192 hS192 => st_val hS192 rfl rfl rfl (r_move hS192 rfl rfl) fun a193 hS193 => st_val hS193 rfl rfl rfl (r_index (e := 4) (sz := 1) (by_ := 1) hS193 rfl rfl rfl (by kernel_rfl) (RdS.some_ (OwS.rd h21) hx195) (idx_lo hx195) (idx_hi hx195)) fun a196 hS196 => ?_
                            refine st_effS hS196 rfl rfl (e_storeE (n := 1) (bb := false) (kd := kbool) (j := 0) (x' := true) (us := [.bool true]) g126 hS196 rfl rfl rfl rfl (by kernel_rfl) rfl rfl (by intro v hv; simp only [List.mem_cons, List.not_mem_nil, or_false] at hv; rcases hv with rfl <;> rfl) h21 hx195 rfl (fun _ _ cs hR => by rw [show cs = _ from hR]; rfl)) ?_
                            rintro a197 w198 g198 ⟨h21, F198⟩ hS197
                            replace hp1 := RdS.fr hp1 F198 (by decide) (fun q (hq : C1 q) (hm : q = N + 0) => by have := hC1 q hq; omega)
                            replace hF := hF.trans F198 (fun c' (hm : c' = N + 0) => by show (r0 ≤ c' ∧ c' < r0 + 2) ∨ N ≤ c'; omega)
                            have hT : Sl 108 a197 [(0, .int .i64 p0), (1, .slice A1 p1.length cap1), (3, .bool p3), (11, .slice A19 v127.length cap20), (13, .int .i64 m1_1), (14, .int .i64 m2_1)] := hS197.re ⟨rfl, rfl, rfl, rfl, rfl, rfl, trivial⟩
                            replace hS197 : Sl 108 a197 [(0, .int .i64 p0), (1, .slice A1 p1.length cap1), (3, .bool p3), (11, .slice A19 (upd v127 x114.Consumer true).length cap20), (13, .int .i64 m1_1), (14, .int .i64 m2_1)] := by simpa only [upd_length] using hT
                            clear hT
                            refine wpList_nil (hK _ _ ?_)
                            replace hS : Sl 108 _ [(0, .int .i64 p0), (1, .slice A1 p1.length cap1), (3, .bool p3), (11, .slice A19 (upd v127 x114.Consumer true).length cap20), (13, .int .i64 m1_1), (14, .int .i64 m2_1)] := hS197.re ⟨rfl, rfl, rfl, rfl, rfl, rfl, trivial⟩
                            clear hK K
                            try clear hS192 hS193 hS196 hS197
                            obtain ⟨a, ha⟩ : ∃ a', a' = a197 := ⟨_, rfl⟩
                            rw [← ha] at hS ⊢; clear ha
                            have e := Option.some.inj H
                            subst e
                            exact ⟨g198, hS.re ⟨rfl, rfl, rfl, rfl, rfl, rfl, trivial⟩, h21, hp1, hF⟩
                          · replace H := ite_f hb191 H
                            refine wp_skip ?_
                            have e := Option.some.inj H
                            subst e
                            exact ⟨g126, hS.re ⟨rfl, rfl, rfl, rfl, rfl, rfl, trivial⟩, h21, hp1, hF⟩
                      · clear H
                        clear hp1 h21 hF
                        clear hS
                        rintro a w107 ⟨g107, hS, h21, hp1, hF⟩
                        have H := Hl110
                        clear Hl110
                        refine c_pure1 [(0, .int .i64 p0), (1, .slice A1 p1.length cap1), (3, .bool p3), (11, .slice A19 v108.length cap20), (13, .int .i64 m1_1), (14, .int .i64 (wi (m2_1 + 1)))] (fun R hR => st_val hS rfl rfl rfl (r_move hS rfl rfl) fun a199 hS199 => st_val hS199 rfl rfl rfl (r_bin hS199 rfl rfl rfl b_add) fun a200 hS200 => st_val hS200 rfl rfl rfl (r_assign hS200 rfl rfl) fun a201 hS201 => wpList_nil (hR _ (hS201.re ⟨rfl, rfl, rfl, rfl, rfl, rfl, trivial⟩))) ?_
                        clear hS
                        clear a
                        intro a hS
                        refine ⟨k101, Nat.lt_succ_self _, ?_⟩
                        exact ⟨v108, wi (m2_1 + 1), g107, H, hS.re ⟨rfl, rfl, rfl, rfl, rfl, rfl, trivial⟩, h21, hp1, hF⟩
                    · replace H := ite_f hb106 H
                      refine wp_exit ?_
                      have e := Option.some.inj H
                      subst e
                      exact ⟨g100, hS.re ⟨rfl, rfl, rfl, rfl, rfl, trivial⟩, h21, hp1, hF⟩
              · clear H
                clear hp1 h21 hF
                clear hS
                rintro a w95 ⟨g95, hS, h21, hp1, hF⟩
                have H := Hl98
                clear Hl98
                refine c_pure1 [(0, .int .i64 p0), (1, .slice A1 p1.length cap1), (3, .bool p3), (11, .slice A19 v96.length cap20), (13, .int .i64 (wi (m1_1 + 1)))] (fun R hR => st_val hS rfl rfl rfl (r_move hS rfl rfl) fun a202 hS202 => st_val hS202 rfl rfl rfl (r_bin hS202 rfl rfl rfl b_add) fun a203 hS203 => st_val hS203 rfl rfl rfl (r_assign hS203 rfl rfl) fun a204 hS204 => wpList_nil (hR _ (hS204.re ⟨rfl, rfl, rfl, rfl, rfl, trivial⟩))) ?_
                clear hS
                clear a
                intro a hS
                refine ⟨k90, Nat.lt_succ_self _, ?_⟩
                exact ⟨v96, wi (m1_1 + 1), g95, H, hS.re ⟨rfl, rfl, rfl, rfl, rfl, trivial⟩, h21, hp1, hF⟩
            · replace H := ite_f hb94 H
              refine wp_exit ?_
              have e := Option.some.inj H
              subst e
              exact ⟨g89, hS.re ⟨rfl, rfl, trivial⟩, h21, hF⟩
      · clear H
        clear hp1 h21 hF
        clear hS
        rintro a w84 ⟨g84, hS, h21, hF⟩
        have H := Hl87
        clear Hl87
        refine c_pure [(0, .int .i64 p0), (11, .slice A19 v85.length cap20), (17, .slice none 0 0)] (fun R hR => st_val hS rfl rfl rfl (r_assign hS rfl rfl) fun a205 hS205 => wpList_nil (hR _ (hS205.re ⟨rfl, rfl, rfl, trivial⟩))) ?_
        clear hS
        clear a
        intro a hS
        obtain ⟨v210, H, Hl212⟩ := bind_el H
        refine c_cut (fun a w206 => ∃ (g206 : Nat → Nat), ∃ (A207 : Option Addr), ∃ (cap208 : Nat), Sl 108 a [(17, .slice A207 v210.length cap208)] ∧ OwS (kint .i64) 3 w206 g206 (N + 4) A207 cap208 v210 ∧ Fr (fun q => (r0 ≤ q ∧ q < r0 + 2) ∨ N ≤ q) w g w206 g206) ?_ ?_
        · refine c_pure [(0, .int .i64 p0), (11, .slice A19 v85.length cap20), (17, .slice none 0 0), (18, .int .i64 0)] (fun R hR => st_val hS rfl rfl rfl (r_assign hS rfl rfl) fun a213 hS213 => wpList_nil (hR _ (hS213.re ⟨rfl, rfl, rfl, rfl, trivial⟩))) ?_
          clear hS
          clear a
          intro a hS
          refine wp_block ?_
          refine wp_loop_ghost (fun kq => fun a w214 => ∃ (m3_0 : List Int), ∃ (m3_1 : Int), ∃ (g214 : Nat → Nat), ∃ (A215 : Option Addr), ∃ (cap216 : Nat), ref24_closure.l3 p0 v85 kq m3_0 m3_1 = some v210 ∧ Sl 108 a [(0, .int .i64 p0), (11, .slice A19 v85.length cap20), (17, .slice A215 m3_0.length cap216), (18, .int .i64 m3_1)] ∧ OwS kbool 4 w214 g214 (N + 0) A19 cap20 v85 ∧ OwS (kint .i64) 3 w214 g214 (N + 4) A215 cap216 m3_0 ∧ Fr (fun q => (r0 ≤ q ∧ q < r0 + 2) ∨ N ≤ q) w g w214 g214) FUEL ?_ ?_
          · exact ⟨[], 0, g84, none, 0, H, hS.re ⟨rfl, rfl, rfl, rfl, trivial⟩, h21, OwS.nil (kint .i64) 3 w84 g84 (N + 4), hF⟩
          · clear H
            clear h21 hF
            clear hS
            rintro k218 a w214 ⟨m3_0, m3_1, g214, A215, cap216, hpre0, hS, h21, h217, hF⟩
            have H := hpre0
            clear hpre0
            cases k218 with
            | zero => exact absurd H (by simp [ref24_closure.l3])
            | succ k218 =>
              rw [ref24_closure.l3] at H
              refine wp_seq ?_
              refine c_pure [(0, .int .i64 p0), (11, .slice A19 v85.length cap20), (17, .slice A215 m3_0.length cap216), (18, .int .i64 m3_1), (96, .bool (decide (m3_1 < p0)))] (fun R hR => st_val hS rfl rfl rfl (r_move hS rfl rfl) fun a219 hS219 => st_val hS219 rfl rfl rfl (r_move hS219 rfl rfl) fun a220 hS220 => st_val hS220 rfl rfl rfl (r_bin hS220 rfl rfl rfl b_lss) fun a221 hS221 => wpList_nil (hR _ (hS221.re ⟨rfl, rfl, rfl, rfl, rfl, trivial⟩))) ?_
              clear hS
              clear a
              intro a hS
              refine c_cond hS rfl (fun hb222 => ?_) (fun hb222 => ?_)
              · replace H := ite_t hb222 H
                refine wp_skip ?_
                change Code.wp _ _ _ _ _
                obtain ⟨v227, H, Hl229⟩ := bind_el H
                refine c_cut (fun a w223 => ∃ (g223 : Nat → Nat), ∃ (A224 : Option Addr), ∃ (cap225 : Nat), Sl 108 a [(0, .int .i64 p0), (11, .slice A19 v85.length cap20), (17, .slice A224 v227.length cap225), (18, .int .i64 m3_1)] ∧ OwS kbool 4 w223 g223 (N + 0) A19 cap20 v85 ∧ OwS (kint .i64) 3 w223 g223 (N + 4) A224 cap225 v227 ∧ Fr (fun q => (r0 ≤ q ∧ q < r0 + 2) ∨ N ≤ q) w g w223 g223) ?_ ?_
                · refine wp_block ?_
                  obtain ⟨x232, hx233, H⟩ := bind_el H
                  refine c_pure [(0, .int .i64 p0), (11, .slice A19 v85.length cap20), (17, .slice A215 m3_0.length cap216), (18, .int .i64 m3_1), (102, .bool x232)] (fun R hR => st_val hS rfl rfl rfl (r_move hS rfl rfl) fun a230 hS230 => st_val hS230 rfl rfl rfl (r_move hS230 rfl rfl) fun a231 hS231 => st_val hS231 rfl rfl rfl (r_index (e := 4) (sz := 1) (by_ := 1) hS231 rfl rfl rfl (by kernel_rfl) (RdS.some_ (OwS.rd h21) hx233) (idx_lo hx233) (idx_hi hx233)) fun a234 hS234 => st_val hS234 rfl rfl rfl (r_load1 (n := 1) hS234 rfl rfl (by kernel_rfl) (RdS.cell (i := m3_1) (sz := 1) (j := 0) (OwS.rd h21) hx233 rfl)) fun a235 hS235 => wpList_nil (hR _ (hS235.re ⟨rfl, rfl, rfl, rfl, rfl, trivial⟩))) ?_
                  clear hS
                  clear a
                  intro a hS
                  refine c_cond hS rfl (fun hb236 => ?_) (fun hb236 => ?_)
                  · replace H := ite_t hb236 H
                    obtain ⟨y244, hy245, H⟩ := bind_el H
                    refine c_region1 (fun K hK => ?_)
                    refine st_val hS rfl rfl rfl (r_move hS rfl rfl) fun a237 hS237 => st_val hS237 rfl rfl rfl (r_move hS237 rfl rfl) fun a238 hS238 => ?_
                    refine st_eff hS238 rfl rfl rfl (e_lit (e := 3) (parts := [(0, .int .i64 m3_1)]) (cs := [.int .i64 m3_1]) (kint .i64) [m3_1] (N + 2) g214 hS238 rfl rfl (fun _ => by kernel_rfl) rfl (by decide) (Rows.cons (cs := [.int .i64 m3_1]) rfl Rows.nil)) ?_
                    rintro _ a242 w243 g243 ⟨⟨A239, rfl, h240⟩, F243⟩ hS242
                    replace h21 := OwS.fr h21 F243 (fun _ _ h => h)
                    replace h217 := OwS.fr h217 F243 (fun _ _ h => h)
                    replace hF := hF.trans F243 (fun _ h => h.elim)
                    refine st_eff hS242 rfl rfl rfl (e_append (e := 3) (sz := 1) (by_ := 8) (z := [.int .i64 0]) (kd := (kint .i64)) g243 hS242 rfl rfl rfl rfl (by kernel_rfl) (by kernel_rfl) rfl rfl rfl rfl h217 (OwD.rdx h240) (fun _ _ _ h => h) hy245) ?_
                    rintro _ a250 w251 g251 ⟨⟨A246, cap247, rfl, h248⟩, F251⟩ hS250
                    replace h21 := OwS.fr h21 F251 (fun c' hc (hm : c' = N + 4) => by omega)
                    replace h240 := OwS.fr h240 F251 (fun c' hc (hm : c' = N + 4) => by omega)
                    replace hF := hF.trans F251 (fun c' (hm : c' = N + 4) => by show (r0 ≤ c' ∧ c' < r0 + 2) ∨ N ≤ c'; omega)
                    refine st_val hS250 rfl rfl rfl (r_assign hS250 rfl rfl) fun a252 hS252 => wpList_nil (hK _ _ ?_)
                    replace hS : Sl 108 _ [(0, .int .i64 p0), (11, .slice A19 v85.length cap20), (17, .slice A246 y244.length cap247), (18, .int .i64 m3_1)] := hS252.re ⟨rfl, rfl, rfl, rfl, trivial⟩
                    clear hK K
                    try clear hS237 hS238 hS242 hS250 hS252
                    obtain ⟨a, ha⟩ : ∃ a', a' = a252 := ⟨_, rfl⟩
                    rw [← ha] at hS ⊢; clear ha
                    have e := Option.some.inj H
                    subst e
                    exact ⟨g251, A246, cap247, hS.re ⟨rfl, rfl, rfl, rfl, trivial⟩, h21, h248, hF⟩
                  · replace H := ite_f hb236 H
                    refine wp_skip ?_
                    have e := Option.some.inj H
                    subst e
                    exact ⟨g214, A215, cap216, hS.re ⟨rfl, rfl, rfl, rfl, trivial⟩, h21, h217, hF⟩
                · clear H
                  clear h21 h217 hF
                  clear hS
                  rintro a w223 ⟨g223, A224, cap225, hS, h21, h226, hF⟩
                  have H := Hl229
                  clear Hl229
                  refine c_pure1 [(0, .int .i64 p0), (11, .slice A19 v85.length cap20), (17, .slice A224 v227.length cap225), (18, .int .i64 (wi (m3_1 + 1)))] (fun R hR => st_val hS rfl rfl rfl (r_move hS rfl rfl) fun a253 hS253 => st_val hS253 rfl rfl rfl (r_bin hS253 rfl rfl rfl b_add) fun a254 hS254 => st_val hS254 rfl rfl rfl (r_assign hS254 rfl rfl) fun a255 hS255 => wpList_nil (hR _ (hS255.re ⟨rfl, rfl, rfl, rfl, trivial⟩))) ?_
                  clear hS
                  clear a
                  intro a hS
                  refine ⟨k218, Nat.lt_succ_self _, ?_⟩
                  exact ⟨v227, wi (m3_1 + 1), g223, A224, cap225, H, hS.re ⟨rfl, rfl, rfl, rfl, trivial⟩, h21, h226, hF⟩
              · replace H := ite_f hb222 H
                refine wp_exit ?_
                have e := Option.some.inj H
                subst e
                exact ⟨g214, A215, cap216, hS.re ⟨rfl, trivial⟩, h217, hF⟩
        · clear H
          clear h21 hF
          clear hS
          rintro a w206 ⟨g206, A207, cap208, hS, h209, hF⟩
          have H := Hl212
          clear Hl212
          refine c_pure [(8, .slice A207 v210.length cap208), (9, .int .i64 0)] (fun R hR => st_val hS rfl rfl rfl (r_move hS rfl rfl) fun a256 hS256 => st_val hS256 rfl rfl rfl (r_assign hS256 rfl rfl) fun a257 hS257 => st_val hS257 rfl rfl rfl (r_assign hS257 rfl rfl) fun a258 hS258 => wpList_nil (hR _ (hS258.re ⟨rfl, rfl, trivial⟩))) ?_
          clear hS
          clear a
          intro a hS
          refine wp_ret ?_
          have e := Option.some.inj H
          subst e
          have F259 := Fr.recol2 w206 g206 (N + 4) r0
          replace h209 := h209.recol2 r0
          replace hF := hF.trans F259 (fun c' (hm : c' = N + 4 ∨ c' = N + 4 + 1) => by show (r0 ≤ c' ∧ c' < r0 + 2) ∨ N ≤ c'; omega)
          repeat (with_reducible first | refine then_ret ?_ | refine inBlock_ret ?_)
          exact c_ret2 hS Try.results47 rfl rfl ⟨_, rfl, (recol2 g206 (N + 4) r0), A207, cap208, rfl, h209, hF⟩

/-! ### ref24_Suppliers: function 29 -/
def ref24_Suppliers.f (p0 : Int) (p1 : List api_Link) (p2 : List Int) : Option ((List Int) × Int) := (ref24_closure.f p0 p1 p2 true).bind fun r6 => some (r6.1, r6.2)
set_option maxRecDepth 100000 in
set_option maxHeartbeats 4000000 in
theorem ref24_Suppliers.calls {p0 : Int} {p1 : List api_Link} {A1 : Option Addr} {cap1 : Nat} {C1 : Nat → Prop} {p2 : List Int} {A2 : Option Addr} {cap2 : Nat} {C2 : Nat → Prop} {w : World} {g : Nat → Nat} {out : (List Int) × Int} (N : Nat) (r0 : Nat) (hp1 : RdS kd_api_Link w g C1 A1 cap1 p1) (hC1 : ∀ c, C1 c → c < N) (hp2 : RdS (kint .i64) w g C2 A2 cap2 p2) (hC2 : ∀ c, C2 c → c < N) (hr0 : r0 + 2 ≤ N) (H : ref24_Suppliers.f p0 p1 p2 = some out) :
    Calls Try.prog 29 #[.int .i64 p0, .slice A1 p1.length cap1, .slice A2 p2.length cap2] w (fun e w' => ∃ v, e = .returned v ∧ ∃ (g' : Nat → Nat) (A_r0 : Option Addr) (cap_r0 : Nat), v = .tuple #[.slice A_r0 out.1.length cap_r0, .int .i64 out.2] ∧ OwS (kint .i64) 3 w' g' r0 A_r0 cap_r0 out.1 ∧ Fr (fun q => (r0 ≤ q ∧ q < r0 + 2) ∨ N ≤ q) w g w' g') := by
  unfold ref24_Suppliers.f at H
  refine calls_enter Try.func29 rfl Try.ntmps29 rfl (fun a hS => ?_)
  replace hS : Sl 14 a [(0, .int .i64 p0), (1, .slice A1 p1.length cap1), (2, .slice A2 p2.length cap2)] := hS
  have hF : Fr (fun q => (r0 ≤ q ∧ q < r0 + 2) ∨ N ≤ q) w g w g := Fr.refl _ _ _
  refine c_pure [(0, .int .i64 p0), (1, .slice A1 p1.length cap1), (2, .slice A2 p2.length cap2)] (fun R hR => st_val hS rfl rfl rfl (r_assign hS rfl rfl) fun a1 hS1 => st_val hS1 rfl rfl rfl (r_assign hS1 rfl rfl) fun a2 hS2 => wpList_nil (hR _ (hS2.re ⟨rfl, rfl, rfl, trivial⟩))) ?_
  clear hS
  clear a
  intro a hS
  obtain ⟨r6, hr7, H⟩ := bind_el H
  refine c_region (fun K hK => ?_)
  refine st_val hS rfl rfl rfl (r_move hS rfl rfl) fun a3 hS3 => st_val hS3 rfl rfl rfl (r_move hS3 rfl rfl) fun a4 hS4 => st_val hS4 rfl rfl rfl (r_move hS4 rfl rfl) fun a5 hS5 => ?_
  refine st_enter hS5 rfl rfl rfl (r_call hS5 rfl rfl (by kernel_rfl)) (ref24_closure.calls (C1 := C1) (C2 := C2) (p0 := p0) (p1 := p1) (p2 := p2) (p3 := true) (g := g) (N + 2) (N + 0) hp1 (fun q (hq : C1 q) => by have := hC1 q hq; omega) hp2 (fun q (hq : C2 q) => by have := hC2 q hq; omega) (by omega) hr7) ?_
  rintro _ a12 w13 ⟨g13, A8, cap9, rfl, h10, F13⟩ hS12
  replace hp1 := RdS.fr hp1 F13 (by decide) (fun q (hq : C1 q) (hm : (N + 0 ≤ q ∧ q < N + 0 + 2) ∨ N + 2 ≤ q) => by have := hC1 q hq; omega)
  replace hp2 := RdS.fr hp2 F13 (by decide) (fun q (hq : C2 q) (hm : (N + 0 ≤ q ∧ q < N + 0 + 2) ∨ N + 2 ≤ q) => by have := hC2 q hq; omega)
  replace hF := hF.trans F13 (fun c' (hm : (N + 0 ≤ c' ∧ c' < N + 0 + 2) ∨ N + 2 ≤ c') => by show (r0 ≤ c' ∧ c' < r0 + 2) ∨ N ≤ c'; omega)
  refine st_val hS12 rfl rfl rfl (r_extract hS12 rfl rfl rfl) fun a14 hS14 => st_val hS14 rfl rfl rfl (r_extract hS14 rfl rfl rfl) fun a15 hS15 => st_val hS15 rfl rfl rfl (r_assign hS15 rfl rfl) fun a16 hS16 => st_val hS16 rfl rfl rfl (r_assign hS16 rfl rfl) fun a17 hS17 => wpList_nil (hK _ _ ?_)
  replace hS : Sl 14 _ [(6, .slice A8 r6.1.length cap9), (7, .int .i64 r6.2)] := hS17.re ⟨rfl, rfl, trivial⟩
  clear hK K
  try clear hS3 hS4 hS5 hS12 hS14 hS15 hS16 hS17
  obtain ⟨a, ha⟩ : ∃ a', a' = a17 := ⟨_, rfl⟩
  rw [← ha] at hS ⊢; clear ha
  refine wp_ret ?_
  have e := Option.some.inj H
  subst e
  have F18 := Fr.recol2 w13 g13 (N + 0) r0
  replace h10 := h10.recol2 r0
  replace hF := hF.trans F18 (fun c' (hm : c' = N + 0 ∨ c' = N + 0 + 1) => by show (r0 ≤ c' ∧ c' < r0 + 2) ∨ N ≤ c'; omega)
  repeat (with_reducible first | refine then_ret ?_ | refine inBlock_ret ?_)
  exact c_ret2 hS Try.results29 rfl rfl ⟨_, rfl, (recol2 g13 (N + 0) r0), A8, cap9, rfl, h10, hF⟩

/-! ### ref24_Consumers: function 31 -/
def ref24_Consumers.f (p0 : Int) (p1 : List api_Link) (p2 : List Int) : Option ((List Int) × Int) := (ref24_closure.f p0 p1 p2 false).bind fun r6 => some (r6.1, r6.2)
set_option maxRecDepth 100000 in
set_option maxHeartbeats 4000000 in
theorem ref24_Consumers.calls {p0 : Int} {p1 : List api_Link} {A1 : Option Addr} {cap1 : Nat} {C1 : Nat → Prop} {p2 : List Int} {A2 : Option Addr} {cap2 : Nat} {C2 : Nat → Prop} {w : World} {g : Nat → Nat} {out : (List Int) × Int} (N : Nat) (r0 : Nat) (hp1 : RdS kd_api_Link w g C1 A1 cap1 p1) (hC1 : ∀ c, C1 c → c < N) (hp2 : RdS (kint .i64) w g C2 A2 cap2 p2) (hC2 : ∀ c, C2 c → c < N) (hr0 : r0 + 2 ≤ N) (H : ref24_Consumers.f p0 p1 p2 = some out) :
    Calls Try.prog 31 #[.int .i64 p0, .slice A1 p1.length cap1, .slice A2 p2.length cap2] w (fun e w' => ∃ v, e = .returned v ∧ ∃ (g' : Nat → Nat) (A_r0 : Option Addr) (cap_r0 : Nat), v = .tuple #[.slice A_r0 out.1.length cap_r0, .int .i64 out.2] ∧ OwS (kint .i64) 3 w' g' r0 A_r0 cap_r0 out.1 ∧ Fr (fun q => (r0 ≤ q ∧ q < r0 + 2) ∨ N ≤ q) w g w' g') := by
  unfold ref24_Consumers.f at H
  refine calls_enter Try.func31 rfl Try.ntmps31 rfl (fun a hS => ?_)
  replace hS : Sl 14 a [(0, .int .i64 p0), (1, .slice A1 p1.length cap1), (2, .slice A2 p2.length cap2)] := hS
  have hF : Fr (fun q => (r0 ≤ q ∧ q < r0 + 2) ∨ N ≤ q) w g w g := Fr.refl _ _ _
  refine c_pure [(0, .int .i64 p0), (1, .slice A1 p1.length cap1), (2, .slice A2 p2.length cap2)] (fun R hR => st_val hS rfl rfl rfl (r_assign hS rfl rfl) fun a1 hS1 => st_val hS1 rfl rfl rfl (r_assign hS1 rfl rfl) fun a2 hS2 => wpList_nil (hR _ (hS2.re ⟨rfl, rfl, rfl, trivial⟩))) ?_
  clear hS
  clear a
  intro a hS
  obtain ⟨r6, hr7, H⟩ := bind_el H
  refine c_region (fun K hK => ?_)
  refine st_val hS rfl rfl rfl (r_move hS rfl rfl) fun a3 hS3 => st_val hS3 rfl rfl rfl (r_move hS3 rfl rfl) fun a4 hS4 => st_val hS4 rfl rfl rfl (r_move hS4 rfl rfl) fun a5 hS5 => ?_
  refine st_enter hS5 rfl rfl rfl (r_call hS5 rfl rfl (by kernel_rfl)) (ref24_closure.calls (C1 := C1) (C2 := C2) (p0 := p0) (p1 := p1) (p2 := p2) (p3 := false) (g := g) (N + 2) (N + 0) hp1 (fun q (hq : C1 q) => by have := hC1 q hq; omega) hp2 (fun q (hq : C2 q) => by have := hC2 q hq; omega) (by omega) hr7) ?_
  rintro _ a12 w13 ⟨g13, A8, cap9, rfl, h10, F13⟩ hS12
  replace hp1 := RdS.fr hp1 F13 (by decide) (fun q (hq : C1 q) (hm : (N + 0 ≤ q ∧ q < N + 0 + 2) ∨ N + 2 ≤ q) => by have := hC1 q hq; omega)
  replace hp2 := RdS.fr hp2 F13 (by decide) (fun q (hq : C2 q) (hm : (N + 0 ≤ q ∧ q < N + 0 + 2) ∨ N + 2 ≤ q) => by have := hC2 q hq; omega)
  replace hF := hF.trans F13 (fun c' (hm : (N + 0 ≤ c' ∧ c' < N + 0 + 2) ∨ N + 2 ≤ c') => by show (r0 ≤ c' ∧ c' < r0 + 2) ∨ N ≤ c'; omega)
  refine st_val hS12 rfl rfl rfl (r_extract hS12 rfl rfl rfl) fun a14 hS14 => st_val hS14 rfl rfl rfl (r_extract hS14 rfl rfl rfl) fun a15 hS15 => st_val hS15 rfl rfl rfl (r_assign hS15 rfl rfl) fun a16 hS16 => st_val hS16 rfl rfl rfl (r_assign hS16 rfl rfl) fun a17 hS17 => wpList_nil (hK _ _ ?_)
  replace hS : Sl 14 _ [(6, .slice A8 r6.1.length cap9), (7, .int .i64 r6.2)] := hS17.re ⟨rfl, rfl, trivial⟩
  clear hK K
  try clear hS3 hS4 hS5 hS12 hS14 hS15 hS16 hS17
  obtain ⟨a, ha⟩ : ∃ a', a' = a17 := ⟨_, rfl⟩
  rw [← ha] at hS ⊢; clear ha
  refine wp_ret ?_
  have e := Option.some.inj H
  subst e
  have F18 := Fr.recol2 w13 g13 (N + 0) r0
  replace h10 := h10.recol2 r0
  replace hF := hF.trans F18 (fun c' (hm : c' = N + 0 ∨ c' = N + 0 + 1) => by show (r0 ≤ c' ∧ c' < r0 + 2) ∨ N ≤ c'; omega)
  repeat (with_reducible first | refine then_ret ?_ | refine inBlock_ret ?_)
  exact c_ret2 hS Try.results31 rfl rfl ⟨_, rfl, (recol2 g13 (N + 0) r0), A8, cap9, rfl, h10, hF⟩

/-! ### help_Equal_int: function 19 -/
def help_Equal_int.l0 (p0 : List Int) (p1 : List Int) : Nat → Int → Option (Fl (Bool) (Unit))
  | 0, _ => none
  | k15 + 1, m0_0 => if decide (m0_0 < (p0.length : Int)) = true then ((idx p0 m0_0).bind fun x24 => (idx p1 m0_0).bind fun x30 => if (x24 != x30) = true then (some (.out false)) else (help_Equal_int.l0 p0 p1 k15 (wi (m0_0 + 1)))) else (some (.nxt ()))
def help_Equal_int.f (p0 : List Int) (p1 : List Int) : Option (Bool) := if ((p0.length : Int) != (p1.length : Int)) = true then (some false) else ((help_Equal_int.l0 p0 p1 FUEL 0 : Option (Fl (Bool) (Unit))).bind fun o11 => o11.go fun _ => some true)
set_option maxRecDepth 100000 in
set_option maxHeartbeats 4000000 in
theorem help_Equal_int.calls {p0 : List Int} {A0 : Option Addr} {cap0 : Nat} {C0 : Nat → Prop} {p1 : List Int} {A1 : Option Addr} {cap1 : Nat} {C1 : Nat → Prop} {w : World} {g : Nat → Nat} {out : Bool} (N : Nat) (hp0 : RdS (kint .i64) w g C0 A0 cap0 p0) (hC0 : ∀ c, C0 c → c < N) (hp1 : RdS (kint .i64) w g C1 A1 cap1 p1) (hC1 : ∀ c, C1 c → c < N) (H : help_Equal_int.f p0 p1 = some out) :
    Calls Try.prog 19 #[.slice A0 p0.length cap0, .slice A1 p1.length cap1] w (fun e w' => ∃ v, e = .returned v ∧ ∃ (g' : Nat → Nat), v = .bool out ∧ Fr (fun q => N ≤ q) w g w' g') := by
  unfold help_Equal_int.f at H
  refine calls_enter Try.func19 rfl Try.ntmps19 rfl (fun a hS => ?_)
  replace hS : Sl 26 a [(0, .slice A0 p0.length cap0), (1, .slice A1 p1.length cap1)] := hS
  have hF : Fr (fun q => N ≤ q) w g w g := Fr.refl _ _ _
  refine c_pure [(0, .slice A0 p0.length cap0), (1, .slice A1 p1.length cap1)] (fun R hR => st_val hS rfl rfl rfl (r_assign hS rfl rfl) fun a1 hS1 => wpList_nil (hR _ (hS1.re ⟨rfl, rfl, trivial⟩))) ?_
  clear hS
  clear a
  intro a hS
  refine wp_seq ?_
  refine c_pure [(0, .slice A0 p0.length cap0), (1, .slice A1 p1.length cap1), (10, .bool ((p0.length : Int) != (p1.length : Int)))] (fun R hR => st_val hS rfl rfl rfl (r_move hS rfl rfl) fun a2 hS2 => st_val hS2 rfl rfl rfl (r_len (e := 3) (sz := 1) (by_ := 8) hS2 rfl rfl (by kernel_rfl)) fun a3 hS3 => st_val hS3 rfl rfl rfl (r_move hS3 rfl rfl) fun a4 hS4 => st_val hS4 rfl rfl rfl (r_len (e := 3) (sz := 1) (by_ := 8) hS4 rfl rfl (by kernel_rfl)) fun a5 hS5 => st_val hS5 rfl rfl rfl (r_bin hS5 rfl rfl rfl b_neq) fun a6 hS6 => wpList_nil (hR _ (hS6.re ⟨rfl, rfl, rfl, trivial⟩))) ?_
  clear hS
  clear a
  intro a hS
  refine c_cond hS rfl (fun hb7 => ?_) (fun hb7 => ?_)
  · replace H := ite_t hb7 H
    refine c_pure [(4, .bool false)] (fun R hR => st_val hS rfl rfl rfl (r_assign hS rfl rfl) fun a8 hS8 => wpList_nil (hR _ (hS8.re ⟨rfl, trivial⟩))) ?_
    clear hS
    clear a
    intro a hS
    refine wp_ret ?_
    have e := Option.some.inj H
    subst e
    repeat (with_reducible first | refine then_ret ?_ | refine inBlock_ret ?_)
    exact c_ret1 hS Try.results19 rfl ⟨_, rfl, g, rfl, hF⟩
  · replace H := ite_f hb7 H
    refine wp_skip ?_
    change Code.wp _ _ _ _ _
    obtain ⟨o11, H, Hl12⟩ := bind_el H
    refine c_cut (fun a w9 => ∃ (g9 : Nat → Nat), o11 = .nxt () ∧ Sl 26 a [] ∧ Fr (fun q => N ≤ q) w g w9 g9) ?_ ?_
    · refine c_pure [(0, .slice A0 p0.length cap0), (1, .slice A1 p1.length cap1), (5, .int .i64 0)] (fun R hR => st_val hS rfl rfl rfl (r_assign hS rfl rfl) fun a13 hS13 => wpList_nil (hR _ (hS13.re ⟨rfl, rfl, rfl, trivial⟩))) ?_
      clear hS
      clear a
      intro a hS
      refine wp_block ?_
      refine wp_loop_ghost (fun kq => fun a w14 => ∃ (m0_0 : Int), ∃ (g14 : Nat → Nat), help_Equal_int.l0 p0 p1 kq m0_0 = some o11 ∧ Sl 26 a [(0, .slice A0 p0.length cap0), (1, .slice A1 p1.length cap1), (5, .int .i64 m0_0)] ∧ RdS (kint .i64) w14 g14 C0 A0 cap0 p0 ∧ RdS (kint .i64) w14 g14 C1 A1 cap1 p1 ∧ Fr (fun q => N ≤ q) w g w14 g14) FUEL ?_ ?_
      · exact ⟨0, g, H, hS.re ⟨rfl, rfl, rfl, trivial⟩, hp0, hp1, hF⟩
      · clear H
        clear hp0 hp1 hF
        clear hS
        rintro k15 a w14 ⟨m0_0, g14, hpre0, hS, hp0, hp1, hF⟩
        have H := hpre0
        clear hpre0
        cases k15 with
        | zero => exact absurd H (by simp [help_Equal_int.l0])
        | succ k15 =>
          rw [help_Equal_int.l0] at H
          refine wp_seq ?_
          refine c_pure [(0, .slice A0 p0.length cap0), (1, .slice A1 p1.length cap1), (5, .int .i64 m0_0), (14, .bool (decide (m0_0 < (p0.length : Int))))] (fun R hR => st_val hS rfl rfl rfl (r_move hS rfl rfl) fun a16 hS16 => st_val hS16 rfl rfl rfl (r_move hS16 rfl rfl) fun a17 hS17 => st_val hS17 rfl rfl rfl (r_len (e := 3) (sz := 1) (by_ := 8) hS17 rfl rfl (by kernel_rfl)) fun a18 hS18 => st_val hS18 rfl rfl rfl (r_bin hS18 rfl rfl rfl b_lss) fun a19 hS19 => wpList_nil (hR _ (hS19.re ⟨rfl, rfl, rfl, rfl, trivial⟩))) ?_
          clear hS
          clear a
          intro a hS
          refine c_cond hS rfl (fun hb20 => ?_) (fun hb20 => ?_)
          · replace H := ite_t hb20 H
            refine wp_skip ?_
            change Code.wp _ _ _ _ _
            refine wp_seq ?_
            refine wp_block ?_
            obtain ⟨x24, hx25, H⟩ := bind_el H
            obtain ⟨x30, hx31, H⟩ := bind_el H
            refine c_draw (fun K hK => d_start (fun q => False) g14 [] 9 #[false, false, false, false, false, false, false, false, false] (by kernel_rfl) rfl rfl (fun w21 hw21 => ?_))
            have F21 : Fr (fun _ => False) w14 g14 w21 g14 := by rw [hw21]; exact Fr.drew _ _ _
            replace hp0 := RdS.fr hp0 F21 (by decide) (fun _ _ h => h)
            replace hp1 := RdS.fr hp1 F21 (by decide) (fun _ _ h => h)
            replace hF := hF.trans F21 (fun _ h => h.elim)
            have hC : Fr (fun q => False) w21 g14 w21 g14 := Fr.refl _ _ _
            refine d_pure hS 0 #[true, false, false, false, false, false, false, false, false] rfl rfl rfl rfl (by kernel_rfl) (fun _ _ _ h => h) (fun _ => (r_move hS rfl rfl)) fun a22 hS22 => d_pure hS22 1 #[true, true, false, false, false, false, false, false, false] rfl rfl rfl rfl (by kernel_rfl) (fun _ _ _ h => h) (fun _ => (r_move hS22 rfl rfl)) fun a23 hS23 => d_pure hS23 2 #[true, true, true, false, false, false, false, false, false] rfl rfl rfl rfl (by kernel_rfl) (fun _ _ _ h => h) (fun _ => (r_index (e := 3) (sz := 1) (by_ := 8) hS23 rfl rfl rfl (by kernel_rfl) (RdS.some_ hp0 hx25) (idx_lo hx25) (idx_hi hx25))) fun a26 hS26 => d_take hS26 3 #[true, true, true, true, false, false, false, false, false] rfl rfl rfl rfl (by kernel_rfl) (fun _ _ _ h => h) ⟨_, hC⟩ (fun w' g' Fz => (r_load1 (n := 1) hS26 rfl rfl (by kernel_rfl) (RdS.cell (i := m0_0) (sz := 1) (j := 0) (RdS.fr hp0 Fz (by decide) (fun _ _ h => h)) hx25 rfl))) fun a27 hS27 => d_pure hS27 4 #[true, true, true, true, true, false, false, false, false] rfl rfl rfl rfl (by kernel_rfl) (fun _ _ _ h => h) (fun _ => (r_move hS27 rfl rfl)) fun a28 hS28 => d_pure hS28 5 #[true, true, true, true, true, true, false, false, false] rfl rfl rfl rfl (by kernel_rfl) (fun _ _ _ h => h) (fun _ => (r_move hS28 rfl rfl)) fun a29 hS29 => d_pure hS29 6 #[true, true, true, true, true, true, true, false, false] rfl rfl rfl rfl (by kernel_rfl) (fun _ _ _ h => h) (fun _ => (r_index (e := 3) (sz := 1) (by_ := 8) hS29 rfl rfl rfl (by kernel_rfl) (RdS.some_ hp1 hx31) (idx_lo hx31) (idx_hi hx31))) fun a32 hS32 => d_take hS32 7 #[true, true, true, true, true, true, true, true, false] rfl rfl rfl rfl (by kernel_rfl) (fun _ _ _ h => h) ⟨_, hC⟩ (fun w' g' Fz => (r_load1 (n := 1) hS32 rfl rfl (by kernel_rfl) (RdS.cell (i := m0_0) (sz := 1) (j := 0) (RdS.fr hp1 Fz (by decide) (fun _ _ h => h)) hx31 rfl))) fun a33 hS33 => d_pure hS33 8 #[true, true, true, true, true, true, true, true, true] rfl rfl rfl rfl (by kernel_rfl) (fun _ _ _ h => h) (fun _ => (r_bin hS33 rfl rfl rfl b_neq)) fun a34 hS34 => d_done (by kernel_rfl) (hK _ _ ?_)
            replace hS : Sl 26 _ [(0, .slice A0 p0.length cap0), (1, .slice A1 p1.length cap1), (5, .int .i64 m0_0), (25, .bool (x24 != x30))] := hS34.re ⟨rfl, rfl, rfl, rfl, trivial⟩
            clear hK K hC
            try clear hS22 hS23 hS26 hS27 hS28 hS29 hS32 hS33 hS34
            obtain ⟨a, ha⟩ : ∃ a', a' = a34 := ⟨_, rfl⟩
            rw [← ha] at hS ⊢; clear ha
            refine c_cond hS rfl (fun hb35 => ?_) (fun hb35 => ?_)
            · replace H := ite_t hb35 H
              refine c_pure [(4, .bool false)] (fun R hR => st_val hS rfl rfl rfl (r_assign hS rfl rfl) fun a36 hS36 => wpList_nil (hR _ (hS36.re ⟨rfl, trivial⟩))) ?_
              clear hS
              clear a
              intro a hS
              refine wp_ret ?_
              have e := Option.some.inj H
              subst e
              replace H := Fl.go_out Hl12
              have e := Option.some.inj H
              subst e
              repeat (with_reducible first | refine then_ret ?_ | refine inBlock_ret ?_)
              exact c_ret1 hS Try.results19 rfl ⟨_, rfl, g14, rfl, hF⟩
            · replace H := ite_f hb35 H
              refine wp_skip ?_
              change Code.wp _ _ _ _ _
              refine c_pure1 [(0, .slice A0 p0.length cap0), (1, .slice A1 p1.length cap1), (5, .int .i64 (wi (m0_0 + 1)))] (fun R hR => st_val hS rfl rfl rfl (r_move hS rfl rfl) fun a37 hS37 => st_val hS37 rfl rfl rfl (r_bin hS37 rfl rfl rfl b_add) fun a38 hS38 => st_val hS38 rfl rfl rfl (r_assign hS38 rfl rfl) fun a39 hS39 => wpList_nil (hR _ (hS39.re ⟨rfl, rfl, rfl, trivial⟩))) ?_
              clear hS
              clear a
              intro a hS
              refine ⟨k15, Nat.lt_succ_self _, ?_⟩
              exact ⟨wi (m0_0 + 1), g14, H, hS.re ⟨rfl, rfl, rfl, trivial⟩, hp0, hp1, hF⟩
          · replace H := ite_f hb20 H
            refine wp_exit ?_
            have e := Option.some.inj H
            exact ⟨g14, e.symm, hS.re trivial, hF⟩
    · clear H
      clear hp0 hp1 hF
      clear hS
      rintro a w9 ⟨g9, hpre0, hS, hF⟩
      subst hpre0
      have H := Fl.go_nxt Hl12
      clear Hl12
      refine c_pure [(4, .bool true)] (fun R hR => st_val hS rfl rfl rfl (r_assign hS rfl rfl) fun a40 hS40 => wpList_nil (hR _ (hS40.re ⟨rfl, trivial⟩))) ?_
      clear hS
      clear a
      intro a hS
      refine wp_ret ?_
      have e := Option.some.inj H
      subst e
      repeat (with_reducible first | refine then_ret ?_ | refine inBlock_ret ?_)
      exact c_ret1 hS Try.results19 rfl ⟨_, rfl, g9, rfl, hF⟩

/-! ### law24_linked: function 22 -/
def law24_linked.l0 (p0 : List api_Link) (p1 : Int) (p2 : Int) : Nat → Int → Option (Fl (Bool) (Unit))
  | 0, _ => none
  | k6 + 1, m0_0 => if decide (m0_0 < (p0.length : Int)) = true then ((idx p0 m0_0).bind fun x14 => if ((x14.Consumer == p1) && (x14.Supplier == p2)) = true then (some (.out true)) else (law24_linked.l0 p0 p1 p2 k6 (wi (m0_0 + 1)))) else (some (.nxt ()))
def law24_linked.f (p0 : List api_Link) (p1 : Int) (p2 : Int) : Option (Bool) := (law24_linked.l0 p0 p1 p2 FUEL 0 : Option (Fl (Bool) (Unit))).bind fun o3 => o3.go fun _ => some false
set_option maxRecDepth 100000 in
set_option maxHeartbeats 4000000 in
theorem law24_linked.calls {p0 : List api_Link} {A0 : Option Addr} {cap0 : Nat} {C0 : Nat → Prop} {p1 : Int} {p2 : Int} {w : World} {g : Nat → Nat} {out : Bool} (N : Nat) (hp0 : RdS kd_api_Link w g C0 A0 cap0 p0) (hC0 : ∀ c, C0 c → c < N) (H : law24_linked.f p0 p1 p2 = some out) :
    Calls Try.prog 22 #[.slice A0 p0.length cap0, .int .i64 p1, .int .i64 p2] w (fun e w' => ∃ v, e = .returned v ∧ ∃ (g' : Nat → Nat), v = .bool out ∧ Fr (fun q => N ≤ q) w g w' g') := by
  unfold law24_linked.f at H
  refine calls_enter Try.func22 rfl Try.ntmps22 rfl (fun a hS => ?_)
  replace hS : Sl 30 a [(0, .slice A0 p0.length cap0), (1, .int .i64 p1), (2, .int .i64 p2)] := hS
  have hF : Fr (fun q => N ≤ q) w g w g := Fr.refl _ _ _
  refine c_pure [(0, .slice A0 p0.length cap0), (1, .int .i64 p1), (2, .int .i64 p2)] (fun R hR => st_val hS rfl rfl rfl (r_assign hS rfl rfl) fun a1 hS1 => wpList_nil (hR _ (hS1.re ⟨rfl, rfl, rfl, trivial⟩))) ?_
  clear hS
  clear a
  intro a hS
  obtain ⟨o3, H, Hl4⟩ := bind_el H
  refine c_cut (fun a w' => o3 = .nxt () ∧ w = w' ∧ Sl 30 a []) ?_ ?_
  · refine c_pure [(0, .slice A0 p0.length cap0), (1, .int .i64 p1), (2, .int .i64 p2), (7, .int .i64 0)] (fun R hR => st_val hS rfl rfl rfl (r_assign hS rfl rfl) fun a5 hS5 => wpList_nil (hR _ (hS5.re ⟨rfl, rfl, rfl, rfl, trivial⟩))) ?_
    clear hS
    clear a
    intro a hS
    refine wp_block ?_
    refine wp_loop_ghost (fun kq => fun a w' => ∃ (m0_0 : Int), law24_linked.l0 p0 p1 p2 kq m0_0 = some o3 ∧ w = w' ∧ Sl 30 a [(0, .slice A0 p0.length cap0), (1, .int .i64 p1), (2, .int .i64 p2), (7, .int .i64 m0_0)]) FUEL ?_ ?_
    · exact ⟨0, H, rfl, hS.re ⟨rfl, rfl, rfl, rfl, trivial⟩⟩
    · clear H
      clear hS
      rintro k6 a w' ⟨m0_0, hpre0, hw, hS⟩
      subst hw
      have H := hpre0
      clear hpre0
      cases k6 with
      | zero => exact absurd H (by simp [law24_linked.l0])
      | succ k6 =>
        rw [law24_linked.l0] at H
        refine wp_seq ?_
        refine c_pure [(0, .slice A0 p0.length cap0), (1, .int .i64 p1), (2, .int .i64 p2), (7, .int .i64 m0_0), (11, .bool (decide (m0_0 < (p0.length : Int))))] (fun R hR => st_val hS rfl rfl rfl (r_move hS rfl rfl) fun a7 hS7 => st_val hS7 rfl rfl rfl (r_move hS7 rfl rfl) fun a8 hS8 => st_val hS8 rfl rfl rfl (r_len (e := 34) (sz := 2) (by_ := 16) hS8 rfl rfl (by kernel_rfl)) fun a9 hS9 => st_val hS9 rfl rfl rfl (r_bin hS9 rfl rfl rfl b_lss) fun a10 hS10 => wpList_nil (hR _ (hS10.re ⟨rfl, rfl, rfl, rfl, rfl, trivial⟩))) ?_
        clear hS
        clear a
        intro a hS
        refine c_cond hS rfl (fun hb11 => ?_) (fun hb11 => ?_)
        · replace H := ite_t hb11 H
          refine wp_skip ?_
          change Code.wp _ _ _ _ _
          refine wp_seq ?_
          refine wp_block ?_
          obtain ⟨x14, hx15, H⟩ := bind_el H
          refine c_region (fun K hK => ?_)
          refine st_val hS rfl rfl rfl (r_move hS rfl rfl) fun a12 hS12 => st_val hS12 rfl rfl rfl (r_move hS12 rfl rfl) fun a13 hS13 => st_val hS13 rfl rfl rfl (r_index (e := 34) (sz := 2) (by_ := 16) hS13 rfl rfl rfl (by kernel_rfl) (RdS.some_ hp0 hx15) (idx_lo hx15) (idx_hi hx15)) fun a16 hS16 => st_val hS16 rfl rfl rfl (r_fieldE (off := 0) hS16 rfl rfl (by kernel_rfl)) fun a17 hS17 => st_val hS17 rfl rfl rfl (r_load1 (n := 1) hS17 rfl rfl (by kernel_rfl) (RdS.cell (i := m0_0) (sz := 2) (j := 0) hp0 hx15 rfl)) fun a18 hS18 => st_val hS18 rfl rfl rfl (r_move hS18 rfl rfl) fun a19 hS19 => st_val hS19 rfl rfl rfl (r_bin hS19 rfl rfl rfl b_eql) fun a20 hS20 => st_val hS20 rfl rfl rfl (r_move hS20 rfl rfl) fun a21 hS21 => ?_
          refine g_join (N := 30) 8 [(0, .slice A0 p0.length cap0), (1, .int .i64 p1), (2, .int .i64 p2), (7, .int .i64 m0_0), (29, .bool ((x14.Consumer == p1) && (x14.Supplier == p2)))] ?_ (fun hk => ?_)
          rotate_left
          · rcases Bool.eq_false_or_eq_true ((x14.Consumer == p1)) with hb22 | hb22
            · refine st_valW hS21 (want_on hS21 rfl rfl rfl hb22) rfl rfl (r_move hS21 rfl rfl) fun a30 hS30 => st_valW hS30 (want_on hS30 rfl rfl rfl hb22) rfl rfl (r_move hS30 rfl rfl) fun a31 hS31 => st_valW hS31 (want_on hS31 rfl rfl rfl hb22) rfl rfl (r_index (e := 34) (sz := 2) (by_ := 16) hS31 rfl rfl rfl (by kernel_rfl) (RdS.some_ hp0 hx15) (idx_lo hx15) (idx_hi hx15)) fun a32 hS32 => st_valW hS32 (want_on hS32 rfl rfl rfl hb22) rfl rfl (r_fieldE (off := 1) hS32 rfl rfl (by kernel_rfl)) fun a33 hS33 => st_valW hS33 (want_on hS33 rfl rfl rfl hb22) rfl rfl (r_load1 (n := 1) hS33 rfl rfl (by kernel_rfl) (RdS.cell (i := m0_0) (sz := 2) (j := 1) hp0 hx15 rfl)) fun a34 hS34 => st_valW hS34 (want_on hS34 rfl rfl rfl hb22) rfl rfl (r_move hS34 rfl rfl) fun a35 hS35 => st_valW hS35 (want_on hS35 rfl rfl rfl hb22) rfl rfl (r_bin hS35 rfl rfl rfl b_eql) fun a36 hS36 => st_val hS36 rfl rfl rfl (r_pickT hS36 rfl rfl rfl hb22) fun a37 hS37 => hk _ (hS37.re ⟨rfl, rfl, rfl, rfl, (by rw [hb22]; rfl), trivial⟩)
            · refine st_off hS21 (want_off hS21 rfl rfl rfl hb22) rfl rfl fun a38 hS38 => st_off hS38 (want_off hS38 rfl rfl rfl hb22) rfl rfl fun a39 hS39 => st_off hS39 (want_off hS39 rfl rfl rfl hb22) rfl rfl fun a40 hS40 => st_off hS40 (want_off hS40 rfl rfl rfl hb22) rfl rfl fun a41 hS41 => st_off hS41 (want_off hS41 rfl rfl rfl hb22) rfl rfl fun a42 hS42 => st_off hS42 (want_off hS42 rfl rfl rfl hb22) rfl rfl fun a43 hS43 => st_off hS43 (want_off hS43 rfl rfl rfl hb22) rfl rfl fun a44 hS44 => st_val hS44 rfl rfl rfl (r_pickF hS44 rfl rfl rfl hb22) fun a45 hS45 => hk _ (hS45.re ⟨rfl, rfl, rfl, rfl, (by rw [hb22]; rfl), trivial⟩)
          intro a46 hS46
          refine wpList_nil (hK _ _ ?_)
          replace hS : Sl 30 _ [(0, .slice A0 p0.length cap0), (1, .int .i64 p1), (2, .int .i64 p2), (7, .int .i64 m0_0), (29, .bool ((x14.Consumer == p1) && (x14.Supplier == p2)))] := hS46.re ⟨rfl, rfl, rfl, rfl, rfl, trivial⟩
          clear hK K
          try clear hS12 hS13 hS16 hS17 hS18 hS19 hS20 hS21 hS46
          obtain ⟨a, ha⟩ : ∃ a', a' = a46 := ⟨_, rfl⟩
          rw [← ha] at hS ⊢; clear ha
          refine c_cond hS rfl (fun hb47 => ?_) (fun hb47 => ?_)
          · replace H := ite_t hb47 H
            refine c_pure [(6, .bool true)] (fun R hR => st_val hS rfl rfl rfl (r_assign hS rfl rfl) fun a48 hS48 => wpList_nil (hR _ (hS48.re ⟨rfl, trivial⟩))) ?_
            clear hS
            clear a
            intro a hS
            refine wp_ret ?_
            have e := Option.some.inj H
            subst e
            replace H := Fl.go_out Hl4
            have e := Option.some.inj H
            subst e
            repeat (with_reducible first | refine then_ret ?_ | refine inBlock_ret ?_)
            exact c_ret1 hS Try.results22 rfl ⟨_, rfl, g, rfl, hF⟩
          · replace H := ite_f hb47 H
            refine wp_skip ?_
            change Code.wp _ _ _ _ _
            refine c_pure1 [(0, .slice A0 p0.length cap0), (1, .int .i64 p1), (2, .int .i64 p2), (7, .int .i64 (wi (m0_0 + 1)))] (fun R hR => st_val hS rfl rfl rfl (r_move hS rfl rfl) fun a49 hS49 => st_val hS49 rfl rfl rfl (r_bin hS49 rfl rfl rfl b_add) fun a50 hS50 => st_val hS50 rfl rfl rfl (r_assign hS50 rfl rfl) fun a51 hS51 => wpList_nil (hR _ (hS51.re ⟨rfl, rfl, rfl, rfl, trivial⟩))) ?_
            clear hS
            clear a
            intro a hS
            refine ⟨k6, Nat.lt_succ_self _, ?_⟩
            exact ⟨wi (m0_0 + 1), H, rfl, hS.re ⟨rfl, rfl, rfl, rfl, trivial⟩⟩
        · replace H := ite_f hb11 H
          refine wp_exit ?_
          have e := Option.some.inj H
          exact ⟨e.symm, rfl, hS.re trivial⟩
  · clear H
    clear hS
    rintro a w' ⟨hpre0, hw, hS⟩
    subst hpre0
    subst hw
    have H := Fl.go_nxt Hl4
    clear Hl4
    refine c_pure [(6, .bool false)] (fun R hR => st_val hS rfl rfl rfl (r_assign hS rfl rfl) fun a52 hS52 => wpList_nil (hR _ (hS52.re ⟨rfl, trivial⟩))) ?_
    clear hS
    clear a
    intro a hS
    refine wp_ret ?_
    have e := Option.some.inj H
    subst e
    repeat (with_reducible first | refine then_ret ?_ | refine inBlock_ret ?_)
    exact c_ret1 hS Try.results22 rfl ⟨_, rfl, g, rfl, hF⟩

/-! ### law24_contains: function 32 -/
def law24_contains.l0 (p0 : List Int) (p1 : Int) : Nat → Int → Option (Fl (Bool) (Unit))
  | 0, _ => none
  | k6 + 1, m0_0 => if decide (m0_0 < (p0.length : Int)) = true then ((idx p0 m0_0).bind fun x14 => if (x14 == p1) = true then (some (.out true)) else (law24_contains.l0 p0 p1 k6 (wi (m0_0 + 1)))) else (some (.nxt ()))
def law24_contains.f (p0 : List Int) (p1 : Int) : Option (Bool) := (law24_contains.l0 p0 p1 FUEL 0 : Option (Fl (Bool) (Unit))).bind fun o3 => o3.go fun _ => some false
set_option maxRecDepth 100000 in
set_option maxHeartbeats 4000000 in
theorem law24_contains.calls {p0 : List Int} {A0 : Option Addr} {cap0 : Nat} {C0 : Nat → Prop} {p1 : Int} {w : World} {g : Nat → Nat} {out : Bool} (N : Nat) (hp0 : RdS (kint .i64) w g C0 A0 cap0 p0) (hC0 : ∀ c, C0 c → c < N) (H : law24_contains.f p0 p1 = some out) :
    Calls Try.prog 32 #[.slice A0 p0.length cap0, .int .i64 p1] w (fun e w' => ∃ v, e = .returned v ∧ ∃ (g' : Nat → Nat), v = .bool out ∧ Fr (fun q => N ≤ q) w g w' g') := by
  unfold law24_contains.f at H
  refine calls_enter Try.func32 rfl Try.ntmps32 rfl (fun a hS => ?_)
  replace hS : Sl 18 a [(0, .slice A0 p0.length cap0), (1, .int .i64 p1)] := hS
  have hF : Fr (fun q => N ≤ q) w g w g := Fr.refl _ _ _
  refine c_pure [(0, .slice A0 p0.length cap0), (1, .int .i64 p1)] (fun R hR => st_val hS rfl rfl rfl (r_assign hS rfl rfl) fun a1 hS1 => wpList_nil (hR _ (hS1.re ⟨rfl, rfl, trivial⟩))) ?_
  clear hS
  clear a
  intro a hS
  obtain ⟨o3, H, Hl4⟩ := bind_el H
  refine c_cut (fun a w' => o3 = .nxt () ∧ w = w' ∧ Sl 18 a []) ?_ ?_
  · refine c_pure [(0, .slice A0 p0.length cap0), (1, .int .i64 p1), (5, .int .i64 0)] (fun R hR => st_val hS rfl rfl rfl (r_assign hS rfl rfl) fun a5 hS5 => wpList_nil (hR _ (hS5.re ⟨rfl, rfl, rfl, trivial⟩))) ?_
    clear hS
    clear a
    intro a hS
    refine wp_block ?_
    refine wp_loop_ghost (fun kq => fun a w' => ∃ (m0_0 : Int), law24_contains.l0 p0 p1 kq m0_0 = some o3 ∧ w = w' ∧ Sl 18 a [(0, .slice A0 p0.length cap0), (1, .int .i64 p1), (5, .int .i64 m0_0)]) FUEL ?_ ?_
    · exact ⟨0, H, rfl, hS.re ⟨rfl, rfl, rfl, trivial⟩⟩
    · clear H
      clear hS
      rintro k6 a w' ⟨m0_0, hpre0, hw, hS⟩
      subst hw
      have H := hpre0
      clear hpre0
      cases k6 with
      | zero => exact absurd H (by simp [law24_contains.l0])
      | succ k6 =>
        rw [law24_contains.l0] at H
        refine wp_seq ?_
        refine c_pure [(0, .slice A0 p0.length cap0), (1, .int .i64 p1), (5, .int .i64 m0_0), (9, .bool (decide (m0_0 < (p0.length : Int))))] (fun R hR => st_val hS rfl rfl rfl (r_move hS rfl rfl) fun a7 hS7 => st_val hS7 rfl rfl rfl (r_move hS7 rfl rfl) fun a8 hS8 => st_val hS8 rfl rfl rfl (r_len (e := 3) (sz := 1) (by_ := 8) hS8 rfl rfl (by kernel_rfl)) fun a9 hS9 => st_val hS9 rfl rfl rfl (r_bin hS9 rfl rfl rfl b_lss) fun a10 hS10 => wpList_nil (hR _ (hS10.re ⟨rfl, rfl, rfl, rfl, trivial⟩))) ?_
        clear hS
        clear a
        intro a hS
        refine c_cond hS rfl (fun hb11 => ?_) (fun hb11 => ?_)
        · replace H := ite_t hb11 H
          refine wp_skip ?_
          change Code.wp _ _ _ _ _
          refine wp_seq ?_
          refine wp_block ?_
          obtain ⟨x14, hx15, H⟩ := bind_el H
          refine c_pure [(0, .slice A0 p0.length cap0), (1, .int .i64 p1), (5, .int .i64 m0_0), (17, .bool (x14 == p1))] (fun R hR => st_val hS rfl rfl rfl (r_move hS rfl rfl) fun a12 hS12 => st_val hS12 rfl rfl rfl (r_move hS12 rfl rfl) fun a13 hS13 => st_val hS13 rfl rfl rfl (r_index (e := 3) (sz := 1) (by_ := 8) hS13 rfl rfl rfl (by kernel_rfl) (RdS.some_ hp0 hx15) (idx_lo hx15) (idx_hi hx15)) fun a16 hS16 => st_val hS16 rfl rfl rfl (r_load1 (n := 1) hS16 rfl rfl (by kernel_rfl) (RdS.cell (i := m0_0) (sz := 1) (j := 0) hp0 hx15 rfl)) fun a17 hS17 => st_val hS17 rfl rfl rfl (r_move hS17 rfl rfl) fun a18 hS18 => st_val hS18 rfl rfl rfl (r_bin hS18 rfl rfl rfl b_eql) fun a19 hS19 => wpList_nil (hR _ (hS19.re ⟨rfl, rfl, rfl, rfl, trivial⟩))) ?_
          clear hS
          clear a
          intro a hS
          refine c_cond hS rfl (fun hb20 => ?_) (fun hb20 => ?_)
          · replace H := ite_t hb20 H
            refine c_pure [(4, .bool true)] (fun R hR => st_val hS rfl rfl rfl (r_assign hS rfl rfl) fun a21 hS21 => wpList_nil (hR _ (hS21.re ⟨rfl, trivial⟩))) ?_
            clear hS
            clear a
            intro a hS
            refine wp_ret ?_
            have e := Option.some.inj H
            subst e
            replace H := Fl.go_out Hl4
            have e := Option.some.inj H
            subst e
            repeat (with_reducible first | refine then_ret ?_ | refine inBlock_ret ?_)
            exact c_ret1 hS Try.results32 rfl ⟨_, rfl, g, rfl, hF⟩
          · replace H := ite_f hb20 H
            refine wp_skip ?_
            change Code.wp _ _ _ _ _
            refine c_pure1 [(0, .slice A0 p0.length cap0), (1, .int .i64 p1), (5, .int .i64 (wi (m0_0 + 1)))] (fun R hR => st_val hS rfl rfl rfl (r_move hS rfl rfl) fun a22 hS22 => st_val hS22 rfl rfl rfl (r_bin hS22 rfl rfl rfl b_add) fun a23 hS23 => st_val hS23 rfl rfl rfl (r_assign hS23 rfl rfl) fun a24 hS24 => wpList_nil (hR _ (hS24.re ⟨rfl, rfl, rfl, trivial⟩))) ?_
            clear hS
            clear a
            intro a hS
            refine ⟨k6, Nat.lt_succ_self _, ?_⟩
            exact ⟨wi (m0_0 + 1), H, rfl, hS.re ⟨rfl, rfl, rfl, trivial⟩⟩
        · replace H := ite_f hb11 H
          refine wp_exit ?_
          have e := Option.some.inj H
          exact ⟨e.symm, rfl, hS.re trivial⟩
  · clear H
    clear hS
    rintro a w' ⟨hpre0, hw, hS⟩
    subst hpre0
    subst hw
    have H := Fl.go_nxt Hl4
    clear Hl4
    refine c_pure [(4, .bool false)] (fun R hR => st_val hS rfl rfl rfl (r_assign hS rfl rfl) fun a25 hS25 => wpList_nil (hR _ (hS25.re ⟨rfl, trivial⟩))) ?_
    clear hS
    clear a
    intro a hS
    refine wp_ret ?_
    have e := Option.some.inj H
    subst e
    repeat (with_reducible first | refine then_ret ?_ | refine inBlock_ret ?_)
    exact c_ret1 hS Try.results32 rfl ⟨_, rfl, g, rfl, hF⟩

/-! ### law24_awake: function 15 -/
def law24_awake.f  : Option (Bool) := (depgraph_Order.f 3 [(api_Link.mk 2 0), (api_Link.mk 0 1), (api_Link.mk 2 1)]).bind fun r12 => (depgraph_Levels.f 3 [(api_Link.mk 2 0), (api_Link.mk 0 1), (api_Link.mk 2 1)]).bind fun r26 => (depgraph_Cycle.f 2 [(api_Link.mk 0 1), (api_Link.mk 1 0)]).bind fun r46 => (if (((r12.2 == 0) && (r26.2 == 0)) && (r46.2 == 0)) = true then (help_Equal_int.f r12.1 [1, 0, 2]).bind fun r91 => some r91 else some false).bind fun t95 => (if t95 = true then (help_Equal_int.f r26.1 [1, 0, 2]).bind fun r124 => some r124 else some false).bind fun t128 => (if t128 = true then (help_Equal_int.f r46.1 [0, 1]).bind fun r157 => some r157 else some false).bind fun t161 => some t161
set_option maxRecDepth 100000 in
set_option maxHeartbeats 4000000 in
theorem law24_awake.calls  {w : World} {g : Nat → Nat} {out : Bool} (N : Nat)  (H : law24_awake.f  = some out) :
    Calls Try.prog 15 #[] w (fun e w' => ∃ v, e = .returned v ∧ ∃ (g' : Nat → Nat), v = .bool out ∧ Fr (fun q => N ≤ q) w g w' g') := by
  unfold law24_awake.f at H
  refine calls_enter Try.func15 rfl Try.ntmps15 rfl (fun a hS => ?_)
  replace hS : Sl 54 a [] := hS
  have hF : Fr (fun q => N ≤ q) w g w g := Fr.refl _ _ _
  refine c_pure [] (fun R hR => st_val hS rfl rfl rfl (r_assign hS rfl rfl) fun a1 hS1 => wpList_nil (hR _ (hS1.re trivial))) ?_
  clear hS
  clear a
  intro a hS
  refine c_region (fun K hK => ?_)
  refine st_val hS rfl rfl rfl (r_build (parts := [(0, .int .i64 2), (1, .int .i64 0)]) (u := .agg #[.int .i64 2, .int .i64 0]) hS rfl rfl (fun _ => by kernel_rfl)) fun a2 hS2 => st_val hS2 rfl rfl rfl (r_build (parts := [(0, .int .i64 0), (1, .int .i64 1)]) (u := .agg #[.int .i64 0, .int .i64 1]) hS2 rfl rfl (fun _ => by kernel_rfl)) fun a3 hS3 => st_val hS3 rfl rfl rfl (r_build (parts := [(0, .int .i64 2), (1, .int .i64 1)]) (u := .agg #[.int .i64 2, .int .i64 1]) hS3 rfl rfl (fun _ => by kernel_rfl)) fun a4 hS4 => ?_
  refine st_eff hS4 rfl rfl rfl (e_lit (e := 34) (parts := [(0, .agg #[.int .i64 2, .int .i64 0]), (1, .agg #[.int .i64 0, .int .i64 1]), (2, .agg #[.int .i64 2, .int .i64 1])]) (cs := [.int .i64 2, .int .i64 0, .int .i64 0, .int .i64 1, .int .i64 2, .int .i64 1]) kd_api_Link [(api_Link.mk 2 0), (api_Link.mk 0 1), (api_Link.mk 2 1)] (N + 0) g hS4 rfl rfl (fun _ => by kernel_rfl) rfl (by decide) (Rows.cons (cs := [.int .i64 2, .int .i64 0]) rfl (Rows.cons (cs := [.int .i64 0, .int .i64 1]) rfl (Rows.cons (cs := [.int .i64 2, .int .i64 1]) rfl Rows.nil)))) ?_
  rintro _ a8 w9 g9 ⟨⟨A5, rfl, h6⟩, F9⟩ hS8
  replace hF := hF.trans F9 (fun _ h => h.elim)
  refine st_val hS8 rfl rfl rfl (r_assign hS8 rfl rfl) fun a10 hS10 => wpList_nil (hK _ _ ?_)
  replace hS : Sl 54 _ [(1, .slice A5 [(api_Link.mk 2 0), (api_Link.mk 0 1), (api_Link.mk 2 1)].length 3)] := hS10.re ⟨rfl, trivial⟩
  clear hK K
  try clear hS2 hS3 hS4 hS8 hS10
  obtain ⟨a, ha⟩ : ∃ a', a' = a10 := ⟨_, rfl⟩
  rw [← ha] at hS ⊢; clear ha
  obtain ⟨r12, hr13, H⟩ := bind_el H
  refine c_region (fun K hK => ?_)
  refine st_val hS rfl rfl rfl (r_move hS rfl rfl) fun a11 hS11 => ?_
  refine st_enter hS11 rfl rfl rfl (r_call hS11 rfl rfl (by kernel_rfl)) (depgraph_Order.calls (C1 := (fun q => q = N + 0)) (p0 := 3) (p1 := [(api_Link.mk 2 0), (api_Link.mk 0 1), (api_Link.mk 2 1)]) (g := g9) (N + 16) (N + 2) (OwD.rdf (fun _ _ _ _ _ _ h => h) h6) (fun q (hq : q = N + 0) => by omega) (by omega) hr13) ?_
  rintro _ a18 w19 ⟨g19, A14, cap15, rfl, h16, F19⟩ hS18
  replace h6 := OwS.fr h6 F19 (fun c' hc (hm : (N + 2 ≤ c' ∧ c' < N + 2 + 2) ∨ N + 16 ≤ c') => by omega)
  replace hF := hF.trans F19 (fun c' (hm : (N + 2 ≤ c' ∧ c' < N + 2 + 2) ∨ N + 16 ≤ c') => by show N ≤ c'; omega)
  refine st_val hS18 rfl rfl rfl (r_move hS18 rfl rfl) fun a20 hS20 => st_val hS20 rfl rfl rfl (r_extract hS20 rfl rfl rfl) fun a21 hS21 => st_val hS21 rfl rfl rfl (r_extract hS21 rfl rfl rfl) fun a22 hS22 => st_val hS22 rfl rfl rfl (r_assign hS22 rfl rfl) fun a23 hS23 => st_val hS23 rfl rfl rfl (r_assign hS23 rfl rfl) fun a24 hS24 => wpList_nil (hK _ _ ?_)
  replace hS : Sl 54 _ [(1, .slice A5 [(api_Link.mk 2 0), (api_Link.mk 0 1), (api_Link.mk 2 1)].length 3), (2, .slice A14 r12.1.length cap15), (3, .int .i64 r12.2)] := hS24.re ⟨rfl, rfl, rfl, trivial⟩
  clear hK K
  try clear hS11 hS18 hS20 hS21 hS22 hS23 hS24
  obtain ⟨a, ha⟩ : ∃ a', a' = a24 := ⟨_, rfl⟩
  rw [← ha] at hS ⊢; clear ha
  obtain ⟨r26, hr27, H⟩ := bind_el H
  refine c_region (fun K hK => ?_)
  refine st_val hS rfl rfl rfl (r_move hS rfl rfl) fun a25 hS25 => ?_
  refine st_enter hS25 rfl rfl rfl (r_call hS25 rfl rfl (by kernel_rfl)) (depgraph_Levels.calls (C1 := (fun q => q = N + 0)) (p0 := 3) (p1 := [(api_Link.mk 2 0), (api_Link.mk 0 1), (api_Link.mk 2 1)]) (g := g19) (N + 16) (N + 4) (OwD.rdf (fun _ _ _ _ _ _ h => h) h6) (fun q (hq : q = N + 0) => by omega) (by omega) hr27) ?_
  rintro _ a32 w33 ⟨g33, A28, cap29, rfl, h30, F33⟩ hS32
  replace h16 := OwS.fr h16 F33 (fun c' hc (hm : (N + 4 ≤ c' ∧ c' < N + 4 + 2) ∨ N + 16 ≤ c') => by omega)
  replace h6 := OwS.fr h6 F33 (fun c' hc (hm : (N + 4 ≤ c' ∧ c' < N + 4 + 2) ∨ N + 16 ≤ c') => by omega)
  replace hF := hF.trans F33 (fun c' (hm : (N + 4 ≤ c' ∧ c' < N + 4 + 2) ∨ N + 16 ≤ c') => by show N ≤ c'; omega)
  refine st_val hS32 rfl rfl rfl (r_move hS32 rfl rfl) fun a34 hS34 => st_val hS34 rfl rfl rfl (r_extract hS34 rfl rfl rfl) fun a35 hS35 => st_val hS35 rfl rfl rfl (r_extract hS35 rfl rfl rfl) fun a36 hS36 => st_val hS36 rfl rfl rfl (r_assign hS36 rfl rfl) fun a37 hS37 => st_val hS37 rfl rfl rfl (r_assign hS37 rfl rfl) fun a38 hS38 => wpList_nil (hK _ _ ?_)
  replace hS : Sl 54 _ [(2, .slice A14 r12.1.length cap15), (3, .int .i64 r12.2), (4, .slice A28 r26.1.length cap29), (5, .int .i64 r26.2)] := hS38.re ⟨rfl, rfl, rfl, rfl, trivial⟩
  clear hK K
  try clear hS25 hS32 hS34 hS35 hS36 hS37 hS38
  obtain ⟨a, ha⟩ : ∃ a', a' = a38 := ⟨_, rfl⟩
  rw [← ha] at hS ⊢; clear ha
  obtain ⟨r46, hr47, H⟩ := bind_el H
  refine c_region (fun K hK => ?_)
  refine st_val hS rfl rfl rfl (r_build (parts := [(0, .int .i64 0), (1, .int .i64 1)]) (u := .agg #[.int .i64 0, .int .i64 1]) hS rfl rfl (fun _ => by kernel_rfl)) fun a39 hS39 => st_val hS39 rfl rfl rfl (r_build (parts := [(0, .int .i64 1), (1, .int .i64 0)]) (u := .agg #[.int .i64 1, .int .i64 0]) hS39 rfl rfl (fun _ => by kernel_rfl)) fun a40 hS40 => ?_
  refine st_eff hS40 rfl rfl rfl (e_lit (e := 34) (parts := [(0, .agg #[.int .i64 0, .int .i64 1]), (1, .agg #[.int .i64 1, .int .i64 0])]) (cs := [.int .i64 0, .int .i64 1, .int .i64 1, .int .i64 0]) kd_api_Link [(api_Link.mk 0 1), (api_Link.mk 1 0)] (N + 6) g33 hS40 rfl rfl (fun _ => by kernel_rfl) rfl (by decide) (Rows.cons (cs := [.int .i64 0, .int .i64 1]) rfl (Rows.cons (cs := [.int .i64 1, .int .i64 0]) rfl Rows.nil))) ?_
  rintro _ a44 w45 g45 ⟨⟨A41, rfl, h42⟩, F45⟩ hS44
  replace h16 := OwS.fr h16 F45 (fun _ _ h => h)
  replace h30 := OwS.fr h30 F45 (fun _ _ h => h)
  replace hF := hF.trans F45 (fun _ h => h.elim)
  refine st_enter hS44 rfl rfl rfl (r_call hS44 rfl rfl (by kernel_rfl)) (depgraph_Cycle.calls (C1 := (fun q => q = N + 6)) (p0 := 2) (p1 := [(api_Link.mk 0 1), (api_Link.mk 1 0)]) (g := g45) (N + 16) (N + 8) (OwD.rdf (fun _ _ _ _ _ _ h => h) h42) (fun q (hq : q = N + 6) => by omega) (by omega) hr47) ?_
  rintro _ a52 w53 ⟨g53, A48, cap49, rfl, h50, F53⟩ hS52
  replace h16 := OwS.fr h16 F53 (fun c' hc (hm : (N + 8 ≤ c' ∧ c' < N + 8 + 2) ∨ N + 16 ≤ c') => by omega)
  replace h30 := OwS.fr h30 F53 (fun c' hc (hm : (N + 8 ≤ c' ∧ c' < N + 8 + 2) ∨ N + 16 ≤ c') => by omega)
  replace h42 := OwS.fr h42 F53 (fun c' hc (hm : (N + 8 ≤ c' ∧ c' < N + 8 + 2) ∨ N + 16 ≤ c') => by omega)
  replace hF := hF.trans F53 (fun c' (hm : (N + 8 ≤ c' ∧ c' < N + 8 + 2) ∨ N + 16 ≤ c') => by show N ≤ c'; omega)
  refine st_val hS52 rfl rfl rfl (r_move hS52 rfl rfl) fun a54 hS54 => st_val hS54 rfl rfl rfl (r_extract hS54 rfl rfl rfl) fun a55 hS55 => st_val hS55 rfl rfl rfl (r_extract hS55 rfl rfl rfl) fun a56 hS56 => st_val hS56 rfl rfl rfl (r_assign hS56 rfl rfl) fun a57 hS57 => st_val hS57 rfl rfl rfl (r_assign hS57 rfl rfl) fun a58 hS58 => wpList_nil (hK _ _ ?_)
  replace hS : Sl 54 _ [(2, .slice A14 r12.1.length cap15), (3, .int .i64 r12.2), (4, .slice A28 r26.1.length cap29), (5, .int .i64 r26.2), (6, .slice A48 r46.1.length cap49), (7, .int .i64 r46.2)] := hS58.re ⟨rfl, rfl, rfl, rfl, rfl, rfl, trivial⟩
  clear hK K
  try clear hS39 hS40 hS44 hS52 hS54 hS55 hS56 hS57 hS58
  obtain ⟨a, ha⟩ : ∃ a', a' = a58 := ⟨_, rfl⟩
  rw [← ha] at hS ⊢; clear ha
  obtain ⟨t95, ht96, H⟩ := bind_el H
  obtain ⟨t128, ht129, H⟩ := bind_el H
  obtain ⟨t161, ht162, H⟩ := bind_el H
  refine c_region (fun K hK => ?_)
  refine st_val hS rfl rfl rfl (r_move hS rfl rfl) fun a59 hS59 => st_val hS59 rfl rfl rfl (r_bin hS59 rfl rfl rfl b_eql) fun a60 hS60 => st_val hS60 rfl rfl rfl (r_move hS60 rfl rfl) fun a61 hS61 => ?_
  refine g_join (N := 54) 3 [(2, .slice A14 r12.1.length cap15), (4, .slice A28 r26.1.length cap29), (6, .slice A48 r46.1.length cap49), (7, .int .i64 r46.2), (34, .bool ((r12.2 == 0) && (r26.2 == 0)))] ?_ (fun hk => ?_)
  rotate_left
  · rcases Bool.eq_false_or_eq_true ((r12.2 == 0)) with hb62 | hb62
    · refine st_valW hS61 (want_on hS61 rfl rfl rfl hb62) rfl rfl (r_move hS61 rfl rfl) fun a65 hS65 => st_valW hS65 (want_on hS65 rfl rfl rfl hb62) rfl rfl (r_bin hS65 rfl rfl rfl b_eql) fun a66 hS66 => st_val hS66 rfl rfl rfl (r_pickT hS66 rfl rfl rfl hb62) fun a67 hS67 => hk _ (hS67.re ⟨rfl, rfl, rfl, rfl, (by rw [hb62]; rfl), trivial⟩)
    · refine st_off hS61 (want_off hS61 rfl rfl rfl hb62) rfl rfl fun a68 hS68 => st_off hS68 (want_off hS68 rfl rfl rfl hb62) rfl rfl fun a69 hS69 => st_val hS69 rfl rfl rfl (r_pickF hS69 rfl rfl rfl hb62) fun a70 hS70 => hk _ (hS70.re ⟨rfl, rfl, rfl, rfl, (by rw [hb62]; rfl), trivial⟩)
  intro a71 hS71
  refine st_val hS71 rfl rfl rfl (r_move hS71 rfl rfl) fun a72 hS72 => ?_
  refine g_join (N := 54) 3 [(2, .slice A14 r12.1.length cap15), (4, .slice A28 r26.1.length cap29), (6, .slice A48 r46.1.length cap49), (38, .bool (((r12.2 == 0) && (r26.2 == 0)) && (r46.2 == 0)))] ?_ (fun hk => ?_)
  rotate_left
  · rcases Bool.eq_false_or_eq_true (((r12.2 == 0) && (r26.2 == 0))) with hb73 | hb73
    · refine st_valW hS72 (want_on hS72 rfl rfl rfl hb73) rfl rfl (r_move hS72 rfl rfl) fun a76 hS76 => st_valW hS76 (want_on hS76 rfl rfl rfl hb73) rfl rfl (r_bin hS76 rfl rfl rfl b_eql) fun a77 hS77 => st_val hS77 rfl rfl rfl (r_pickT hS77 rfl rfl rfl hb73) fun a78 hS78 => hk _ (hS78.re ⟨rfl, rfl, rfl, (by rw [hb73]; rfl), trivial⟩)
    · refine st_off hS72 (want_off hS72 rfl rfl rfl hb73) rfl rfl fun a79 hS79 => st_off hS79 (want_off hS79 rfl rfl rfl hb73) rfl rfl fun a80 hS80 => st_val hS80 rfl rfl rfl (r_pickF hS80 rfl rfl rfl hb73) fun a81 hS81 => hk _ (hS81.re ⟨rfl, rfl, rfl, (by rw [hb73]; rfl), trivial⟩)
  intro a82 hS82
  refine st_val hS82 rfl rfl rfl (r_move hS82 rfl rfl) fun a83 hS83 => ?_
  refine g_joinR 4 (fun a w97 => ∃ (g97 : Nat → Nat), Sl 54 a [(4, .slice A28 r26.1.length cap29), (6, .slice A48 r46.1.length cap49), (43, .bool t95)] ∧ OwS (kint .i64) 3 w97 g97 (N + 4) A28 cap29 r26.1 ∧ OwS (kint .i64) 3 w97 g97 (N + 8) A48 cap49 r46.1 ∧ Fr (fun q => N ≤ q) w g w97 g97) ?_ (fun hk => ?_)
  rotate_left
  · rcases Bool.eq_false_or_eq_true ((((r12.2 == 0) && (r26.2 == 0)) && (r46.2 == 0))) with hb84 | hb84
    · have H := ite_t hb84 ht96
      obtain ⟨r104, hr105, H⟩ := bind_el H
      have e108 := Option.some.inj H
      refine st_valW hS83 (want_on hS83 rfl rfl rfl hb84) rfl rfl (r_move hS83 rfl rfl) fun a98 hS98 => ?_
      refine st_effW hS98 (want_on hS98 rfl rfl rfl hb84) rfl rfl (e_lit (e := 3) (parts := [(0, .int .i64 1), (1, .int .i64 0), (2, .int .i64 2)]) (cs := [.int .i64 1, .int .i64 0, .int .i64 2]) (kint .i64) [1, 0, 2] (N + 10) g53 hS98 rfl rfl (fun _ => by kernel_rfl) rfl (by decide) (Rows.cons (cs := [.int .i64 1]) rfl (Rows.cons (cs := [.int .i64 0]) rfl (Rows.cons (cs := [.int .i64 2]) rfl Rows.nil)))) ?_
      rintro _ a102 w103 g103 ⟨⟨A99, rfl, h100⟩, F103⟩ hS102
      replace h16 := OwS.fr h16 F103 (fun _ _ h => h)
      replace h30 := OwS.fr h30 F103 (fun _ _ h => h)
      replace h50 := OwS.fr h50 F103 (fun _ _ h => h)
      replace hF := hF.trans F103 (fun _ h => h.elim)
      refine st_enterW hS102 (want_on hS102 rfl rfl rfl hb84) rfl rfl (r_call hS102 rfl rfl (by kernel_rfl)) (help_Equal_int.calls (C0 := (fun q => q = N + 2)) (C1 := (fun q => q = N + 10)) (p0 := r12.1) (p1 := [1, 0, 2]) (g := g103) (N + 16)  (OwD.rdf (fun _ _ _ _ _ _ h => h) h16) (fun q (hq : q = N + 2) => by omega) (OwD.rdf (fun _ _ _ _ _ _ h => h) h100) (fun q (hq : q = N + 10) => by omega) hr105) ?_
      rintro _ a106 w107 ⟨g107, rfl, F107⟩ hS106
      replace h100 := OwS.fr h100 F107 (fun c' hc (hm : N + 16 ≤ c') => by omega)
      replace h16 := OwS.fr h16 F107 (fun c' hc (hm : N + 16 ≤ c') => by omega)
      replace h30 := OwS.fr h30 F107 (fun c' hc (hm : N + 16 ≤ c') => by omega)
      replace h50 := OwS.fr h50 F107 (fun c' hc (hm : N + 16 ≤ c') => by omega)
      replace hF := hF.trans F107 (fun c' (hm : N + 16 ≤ c') => by show N ≤ c'; omega)
      refine st_val hS106 rfl rfl rfl (r_pickT hS106 rfl rfl rfl hb84) fun a109 hS109 => hk _ _ ?_
      exact ⟨g107, hS109.re ⟨rfl, rfl, (by rw [← e108]; rfl), trivial⟩, h30, h50, hF⟩
    · have H := ite_f hb84 ht96
      have e110 := Option.some.inj H
      refine st_off hS83 (want_off hS83 rfl rfl rfl hb84) rfl rfl fun a111 hS111 => st_off hS111 (want_off hS111 rfl rfl rfl hb84) rfl rfl fun a112 hS112 => st_off hS112 (want_off hS112 rfl rfl rfl hb84) rfl rfl fun a113 hS113 => st_val hS113 rfl rfl rfl (r_pickF hS113 rfl rfl rfl hb84) fun a114 hS114 => hk _ _ ?_
      exact ⟨g53, hS114.re ⟨rfl, rfl, (by rw [← e110]; rfl), trivial⟩, h30, h50, hF⟩
  rintro a115 w97 ⟨g97, hS115, h30, h50, hF⟩
  refine st_val hS115 rfl rfl rfl (r_move hS115 rfl rfl) fun a116 hS116 => ?_
  refine g_joinR 4 (fun a w130 => ∃ (g130 : Nat → Nat), Sl 54 a [(6, .slice A48 r46.1.length cap49), (48, .bool t128)] ∧ OwS (kint .i64) 3 w130 g130 (N + 8) A48 cap49 r46.1 ∧ Fr (fun q => N ≤ q) w g w130 g130) ?_ (fun hk => ?_)
  rotate_left
  · rcases Bool.eq_false_or_eq_true (t95) with hb117 | hb117
    · have H := ite_t hb117 ht129
      obtain ⟨r137, hr138, H⟩ := bind_el H
      have e141 := Option.some.inj H
      refine st_valW hS116 (want_on hS116 rfl rfl rfl hb117) rfl rfl (r_move hS116 rfl rfl) fun a131 hS131 => ?_
      refine st_effW hS131 (want_on hS131 rfl rfl rfl hb117) rfl rfl (e_lit (e := 3) (parts := [(0, .int .i64 1), (1, .int .i64 0), (2, .int .i64 2)]) (cs := [.int .i64 1, .int .i64 0, .int .i64 2]) (kint .i64) [1, 0, 2] (N + 12) g97 hS131 rfl rfl (fun _ => by kernel_rfl) rfl (by decide) (Rows.cons (cs := [.int .i64 1]) rfl (Rows.cons (cs := [.int .i64 0]) rfl (Rows.cons (cs := [.int .i64 2]) rfl Rows.nil)))) ?_
      rintro _ a135 w136 g136 ⟨⟨A132, rfl, h133⟩, F136⟩ hS135
      replace h30 := OwS.fr h30 F136 (fun _ _ h => h)
      replace h50 := OwS.fr h50 F136 (fun _ _ h => h)
      replace hF := hF.trans F136 (fun _ h => h.elim)
      refine st_enterW hS135 (want_on hS135 rfl rfl rfl hb117) rfl rfl (r_call hS135 rfl rfl (by kernel_rfl)) (help_Equal_int.calls (C0 := (fun q => q = N + 4)) (C1 := (fun q => q = N + 12)) (p0 := r26.1) (p1 := [1, 0, 2]) (g := g136) (N + 16)  (OwD.rdf (fun _ _ _ _ _ _ h => h) h30) (fun q (hq : q = N + 4) => by omega) (OwD.rdf (fun _ _ _ _ _ _ h => h) h133) (fun q (hq : q = N + 12) => by omega) hr138) ?_
      rintro _ a139 w140 ⟨g140, rfl, F140⟩ hS139
      replace h133 := OwS.fr h133 F140 (fun c' hc (hm : N + 16 ≤ c') => by omega)
      replace h30 := OwS.fr h30 F140 (fun c' hc (hm : N + 16 ≤ c') => by omega)
      replace h50 := OwS.fr h50 F140 (fun c' hc (hm : N + 16 ≤ c') => by omega)
      replace hF := hF.trans F140 (fun c' (hm : N + 16 ≤ c') => by show N ≤ c'; omega)
      refine st_val hS139 rfl rfl rfl (r_pickT hS139 rfl rfl rfl hb117) fun a142 hS142 => hk _ _ ?_
      exact ⟨g140, hS142.re ⟨rfl, (by rw [← e141]; rfl), trivial⟩, h50, hF⟩
    · have H := ite_f hb117 ht129
      have e143 := Option.some.inj H
      refine st_off hS116 (want_off hS116 rfl rfl rfl hb117) rfl rfl fun a144 hS144 => st_off hS144 (want_off hS144 rfl rfl rfl hb117) rfl rfl fun a145 hS145 => st_off hS145 (want_off hS145 rfl rfl rfl hb117) rfl rfl fun a146 hS146 => st_val hS146 rfl rfl rfl (r_pickF hS146 rfl rfl rfl hb117) fun a147 hS147 => hk _ _ ?_
      exact ⟨g97, hS147.re ⟨rfl, (by rw [← e143]; rfl), trivial⟩, h50, hF⟩
  rintro a148 w130 ⟨g130, hS148, h50, hF⟩
  refine st_val hS148 rfl rfl rfl (r_move hS148 rfl rfl) fun a149 hS149 => ?_
  refine g_joinR 4 (fun a w163 => ∃ (g163 : Nat → Nat), Sl 54 a [(53, .bool t161)] ∧ Fr (fun q => N ≤ q) w g w163 g163) ?_ (fun hk => ?_)
  rotate_left
  · rcases Bool.eq_false_or_eq_true (t128) with hb150 | hb150
    · have H := ite_t hb150 ht162
      obtain ⟨r170, hr171, H⟩ := bind_el H
      have e174 := Option.some.inj H
      refine st_valW hS149 (want_on hS149 rfl rfl rfl hb150) rfl rfl (r_move hS149 rfl rfl) fun a164 hS164 => ?_
      refine st_effW hS164 (want_on hS164 rfl rfl rfl hb150) rfl rfl (e_lit (e := 3) (parts := [(0, .int .i64 0), (1, .int .i64 1)]) (cs := [.int .i64 0, .int .i64 1]) (kint .i64) [0, 1] (N + 14) g130 hS164 rfl rfl (fun _ => by kernel_rfl) rfl (by decide) (Rows.cons (cs := [.int .i64 0]) rfl (Rows.cons (cs := [.int .i64 1]) rfl Rows.nil))) ?_
      rintro _ a168 w169 g169 ⟨⟨A165, rfl, h166⟩, F169⟩ hS168
      replace h50 := OwS.fr h50 F169 (fun _ _ h => h)
      replace hF := hF.trans F169 (fun _ h => h.elim)
      refine st_enterW hS168 (want_on hS168 rfl rfl rfl hb150) rfl rfl (r_call hS168 rfl rfl (by kernel_rfl)) (help_Equal_int.calls (C0 := (fun q => q = N + 8)) (C1 := (fun q => q = N + 14)) (p0 := r46.1) (p1 := [0, 1]) (g := g169) (N + 16)  (OwD.rdf (fun _ _ _ _ _ _ h => h) h50) (fun q (hq : q = N + 8) => by omega) (OwD.rdf (fun _ _ _ _ _ _ h => h) h166) (fun q (hq : q = N + 14) => by omega) hr171) ?_
      rintro _ a172 w173 ⟨g173, rfl, F173⟩ hS172
      replace h166 := OwS.fr h166 F173 (fun c' hc (hm : N + 16 ≤ c') => by omega)
      replace h50 := OwS.fr h50 F173 (fun c' hc (hm : N + 16 ≤ c') => by omega)
      replace hF := hF.trans F173 (fun c' (hm : N + 16 ≤ c') => by show N ≤ c'; omega)
      refine st_val hS172 rfl rfl rfl (r_pickT hS172 rfl rfl rfl hb150) fun a175 hS175 => hk _ _ ?_
      exact ⟨g173, hS175.re ⟨(by rw [← e174]; rfl), trivial⟩, hF⟩
    · have H := ite_f hb150 ht162
      have e176 := Option.some.inj H
      refine st_off hS149 (want_off hS149 rfl rfl rfl hb150) rfl rfl fun a177 hS177 => st_off hS177 (want_off hS177 rfl rfl rfl hb150) rfl rfl fun a178 hS178 => st_off hS178 (want_off hS178 rfl rfl rfl hb150) rfl rfl fun a179 hS179 => st_val hS179 rfl rfl rfl (r_pickF hS179 rfl rfl rfl hb150) fun a180 hS180 => hk _ _ ?_
      exact ⟨g130, hS180.re ⟨(by rw [← e176]; rfl), trivial⟩, hF⟩
  rintro a181 w163 ⟨g163, hS181, hF⟩
  refine st_val hS181 rfl rfl rfl (r_assign hS181 rfl rfl) fun a182 hS182 => wpList_nil (hK _ _ ?_)
  replace hS : Sl 54 _ [(0, .bool t161)] := hS182.re ⟨rfl, trivial⟩
  clear hK K
  try clear hS59 hS60 hS61 hS71 hS72 hS82 hS83 hS115 hS116 hS148 hS149 hS181 hS182
  obtain ⟨a, ha⟩ : ∃ a', a' = a182 := ⟨_, rfl⟩
  rw [← ha] at hS ⊢; clear ha
  refine wp_ret ?_
  have e := Option.some.inj H
  subst e
  repeat (with_reducible first | refine then_ret ?_ | refine inBlock_ret ?_)
  exact c_ret1 hS Try.results15 rfl ⟨_, rfl, g163, rfl, hF⟩


end Go.Proofs.Ytphgandhncmaoaa.Sim
