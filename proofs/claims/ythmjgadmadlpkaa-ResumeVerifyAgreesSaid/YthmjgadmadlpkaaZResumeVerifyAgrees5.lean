/-
  Texts of this session, part 5 of 6: the words of the walk, plain functions with the same answers as the Go functions and the proofs of it, plain lemmas. No condition.
  They are, one behind the other: QRef31Shaped QRef31Verify Op LwResumeVerifyAgrees RowResumeVerifyAgrees G0 G1.
-/
import Derived.Test.YthmjgadmadlpkaaProg
import Derived.Test.YthmjgadmadlpkaaRows
import Derived.Test.YthmjgadmadlpkaaZResumeVerifyAgrees4

namespace Go.Proofs.Ythmjgadmadlpkaa.Sim
open Go
set_option linter.unusedVariables false
set_option linter.unusedSimpArgs false

/-! ### ref31_shaped: function 46 -/
def ref31_shaped.l0 (p0 : Int) (p1 : List Int) (p2 : Int) (p3 : List api_Slot) : Nat → (List Bool) → Int → Option (Fl (Bool) (Unit))
 | 0, _, _ => none
 | k24 + 1, m0_0, m0_1 => if decide (m0_1 < p0) = true then ((idx p3 m0_1).bind fun x31 => (if ((((decide (x31.Device < 0)) || (decide (p0 ≤ x31.Device))) || (decide (x31.Worker < 0))) || (decide (p2 ≤ x31.Worker))) = true then some true else (idx m0_0 x31.Device).bind fun x99 => some x99).bind fun t103 => (if (t103 || (decide (x31.End < x31.Start))) = true then some true else (idx p1 x31.Device).bind fun x152 => some ((wu (x31.End - x31.Start)) != x152)).bind fun t157 => if t157 = true then (some (.out false)) else ((idx m0_0 x31.Device).bind fun x193 => ref31_shaped.l0 p0 p1 p2 p3 k24 (upd m0_0 x31.Device true) (wi (m0_1 + 1)))) else (some (.nxt ()))
def ref31_shaped.f (p0 : Int) (p1 : List Int) (p2 : Int) (p3 : List api_Slot) : Option (Bool) := if ((p3.length : Int) != p0) = true then (some false) else ((mk p0 false).bind fun y9 => (ref31_shaped.l0 p0 p1 p2 p3 FUEL y9 0 : Option (Fl (Bool) (Unit))).bind fun o20 => o20.go fun _ => some true)
set_option maxRecDepth 100000 in
set_option maxHeartbeats 4000000 in
theorem ref31_shaped.calls {p0 : Int} {p1 : List Int} {A1 : Option Addr} {cap1 : Nat} {C1 : Nat → Prop} {p2 : Int} {p3 : List api_Slot} {A3 : Option Addr} {cap3 : Nat} {C3 : Nat → Prop} {w : World} {g : Nat → Nat} {out : Bool} (N : Nat) (hp1 : RdS (kint .u64) w g C1 A1 cap1 p1) (hC1 : ∀ c, C1 c → c < N) (hp3 : RdS kd_api_Slot w g C3 A3 cap3 p3) (hC3 : ∀ c, C3 c → c < N) (H : ref31_shaped.f p0 p1 p2 p3 = some out) :
  Calls Try.prog 46 #[.int .i64 p0, .slice A1 p1.length cap1, .int .i64 p2, .slice A3 p3.length cap3] w (fun e w' => ∃ v, e = .returned v ∧ ∃ (g' : Nat → Nat), v = .bool out ∧ Fr (fun q => N ≤ q) w g w' g') := by
 unfold ref31_shaped.f at H
 refine calls_enter Try.func46 rfl Try.ntmps46 rfl (fun a hS => ?_)
 replace hS : Sl 78 a [(0, .int .i64 p0), (1, .slice A1 p1.length cap1), (2, .int .i64 p2), (3, .slice A3 p3.length cap3)] := hS
 have hF : Fr (fun q => N ≤ q) w g w g := Fr.refl _ _ _
 refine c_pure [(0, .int .i64 p0), (1, .slice A1 p1.length cap1), (2, .int .i64 p2), (3, .slice A3 p3.length cap3)] (fun R hR => st_val hS rfl rfl rfl (r_assign hS rfl rfl) fun a1 hS1 => wpList_nil (hR _ (hS1.re ⟨rfl, rfl, rfl, rfl, trivial⟩))) ?_
 clear hS
 clear a
 intro a hS
 refine wp_seq ?_
 refine c_pure [(0, .int .i64 p0), (1, .slice A1 p1.length cap1), (2, .int .i64 p2), (3, .slice A3 p3.length cap3), (15, .bool ((p3.length : Int) != p0))] (fun R hR => st_val hS rfl rfl rfl (r_move hS rfl rfl) fun a2 hS2 => st_val hS2 rfl rfl rfl (r_len (e := 38) (sz := 4) (by_ := 32) hS2 rfl rfl (by kernel_rfl)) fun a3 hS3 => st_val hS3 rfl rfl rfl (r_move hS3 rfl rfl) fun a4 hS4 => st_val hS4 rfl rfl rfl (r_bin hS4 rfl rfl rfl b_neq) fun a5 hS5 => wpList_nil (hR _ (hS5.re ⟨rfl, rfl, rfl, rfl, rfl, trivial⟩))) ?_
 clear hS
 clear a
 intro a hS
 refine c_cond hS rfl (fun hb6 => ?_) (fun hb6 => ?_)
 ·replace H := ite_t hb6 H
  refine c_pure [(8, .bool false)] (fun R hR => st_val hS rfl rfl rfl (r_assign hS rfl rfl) fun a7 hS7 => wpList_nil (hR _ (hS7.re ⟨rfl, trivial⟩))) ?_
  clear hS
  clear a
  intro a hS
  refine wp_ret ?_
  have e := Option.some.inj H
  subst e
  repeat (with_reducible first | refine then_ret ?_ | refine inBlock_ret ?_)
  exact c_ret1 hS Try.results46 rfl ⟨_, rfl, g, rfl, hF⟩
 ·replace H := ite_f hb6 H
  refine wp_skip ?_
  change Code.wp _ _ _ _ _
  obtain ⟨y9, hy10, H⟩ := bind_el H
  refine c_region (fun K hK => ?_)
  refine st_val hS rfl rfl rfl (r_move hS rfl rfl) fun a8 hS8 => ?_
  refine st_eff hS8 rfl rfl rfl (e_make (e := 4) (sz := 1) (by_ := 1) (z := [.bool false]) (kd := kbool) (N + 0) g hS8 rfl rfl (by kernel_rfl) (by kernel_rfl) rfl rfl rfl (fun _ _ _ => by exact rfl) hy10) ?_
  rintro _ a15 w16 g16 ⟨⟨A11, cap12, rfl, h13⟩, F16⟩ hS15
  replace hp1 := RdS.fr hp1 F16 (by decide) (fun _ _ h => h)
  replace hp3 := RdS.fr hp3 F16 (by decide) (fun _ _ h => h)
  replace hF := hF.trans F16 (fun _ h => h.elim)
  refine st_val hS15 rfl rfl rfl (r_assign hS15 rfl rfl) fun a17 hS17 => wpList_nil (hK _ _ ?_)
  replace hS : Sl 78 _ [(0, .int .i64 p0), (1, .slice A1 p1.length cap1), (2, .int .i64 p2), (3, .slice A3 p3.length cap3), (9, .slice A11 y9.length cap12)] := hS17.re ⟨rfl, rfl, rfl, rfl, rfl, trivial⟩
  clear hK K
  try clear hS8 hS15 hS17
  obtain ⟨a, ha⟩ : ∃ a', a' = a17 := ⟨_, rfl⟩
  rw [← ha] at hS ⊢; clear ha
  obtain ⟨o20, H, Hl21⟩ := bind_el H
  refine c_cut (fun a w18 => ∃ (g18 : Nat → Nat), o20 = .nxt () ∧ Sl 78 a [] ∧ Fr (fun q => N ≤ q) w g w18 g18) ?_ ?_
  ·refine c_pure [(0, .int .i64 p0), (1, .slice A1 p1.length cap1), (2, .int .i64 p2), (3, .slice A3 p3.length cap3), (9, .slice A11 y9.length cap12), (10, .int .i64 0)] (fun R hR => st_val hS rfl rfl rfl (r_assign hS rfl rfl) fun a22 hS22 => wpList_nil (hR _ (hS22.re ⟨rfl, rfl, rfl, rfl, rfl, rfl, trivial⟩))) ?_
   clear hS
   clear a
   intro a hS
   refine wp_block ?_
   refine wp_loop_ghost (fun kq => fun a w23 => ∃ (m0_0 : List Bool), ∃ (m0_1 : Int), ∃ (g23 : Nat → Nat), ref31_shaped.l0 p0 p1 p2 p3 kq m0_0 m0_1 = some o20 ∧ Sl 78 a [(0, .int .i64 p0), (1, .slice A1 p1.length cap1), (2, .int .i64 p2), (3, .slice A3 p3.length cap3), (9, .slice A11 m0_0.length cap12), (10, .int .i64 m0_1)] ∧ OwS kbool 4 w23 g23 (N + 0) A11 cap12 m0_0 ∧ RdS (kint .u64) w23 g23 C1 A1 cap1 p1 ∧ RdS kd_api_Slot w23 g23 C3 A3 cap3 p3 ∧ Fr (fun q => N ≤ q) w g w23 g23) FUEL ?_ ?_
   ·exact ⟨y9, 0, g16, H, hS.re ⟨rfl, rfl, rfl, rfl, rfl, rfl, trivial⟩, h13, hp1, hp3, hF⟩
   ·clear H
    clear hp1 hp3 h13 hF
    clear hS
    rintro k24 a w23 ⟨m0_0, m0_1, g23, hpre0, hS, h13, hp1, hp3, hF⟩
    have H := hpre0
    clear hpre0
    cases k24 with
    | zero => exact absurd H (by simp [ref31_shaped.l0])
    | succ k24 =>
     rw [ref31_shaped.l0] at H
     refine wp_seq ?_
     refine c_pure [(0, .int .i64 p0), (1, .slice A1 p1.length cap1), (2, .int .i64 p2), (3, .slice A3 p3.length cap3), (9, .slice A11 m0_0.length cap12), (10, .int .i64 m0_1), (20, .bool (decide (m0_1 < p0)))] (fun R hR => st_val hS rfl rfl rfl (r_move hS rfl rfl) fun a25 hS25 => st_val hS25 rfl rfl rfl (r_move hS25 rfl rfl) fun a26 hS26 => st_val hS26 rfl rfl rfl (r_bin hS26 rfl rfl rfl b_lss) fun a27 hS27 => wpList_nil (hR _ (hS27.re ⟨rfl, rfl, rfl, rfl, rfl, rfl, rfl, trivial⟩))) ?_
     clear hS
     clear a
     intro a hS
     refine c_cond hS rfl (fun hb28 => ?_) (fun hb28 => ?_)
     ·replace H := ite_t hb28 H
      refine wp_skip ?_
      change Code.wp _ _ _ _ _
      refine wp_seq ?_
      refine wp_block ?_
      obtain ⟨x31, hx32, H⟩ := bind_el H
      refine c_region (fun K hK => ?_)
      refine st_val hS rfl rfl rfl (r_move hS rfl rfl) fun a29 hS29 => st_val hS29 rfl rfl rfl (r_move hS29 rfl rfl) fun a30 hS30 => st_val hS30 rfl rfl rfl (r_index (e := 38) (sz := 4) (by_ := 32) hS30 rfl rfl rfl (by kernel_rfl) (RdS.some_ hp3 hx32) (idx_lo hx32) (idx_hi hx32)) fun a33 hS33 => st_val hS33 rfl rfl rfl (r_loadN (n := 4) (cs := [.int .i64 x31.Device, .int .i64 x31.Worker, .int .u64 x31.Start, .int .u64 x31.End]) hS33 rfl rfl (by kernel_rfl) rfl (RdS.cells_off hp3 hx32 0 4)) fun a34 hS34 => ?_
      refine st_eff hS34 rfl rfl rfl (e_alloc (cs := [.int .i64 0, .int .i64 0, .int .u64 0, .int .u64 0]) (N + 2) g23 hS34 rfl (by kernel_rfl)) ?_
      rintro _ a38 w39 g39 ⟨⟨b35, rfl, h36⟩, F39⟩ hS38
      replace h13 := OwS.fr h13 F39 (fun _ _ h => h)
      replace hp1 := RdS.fr hp1 F39 (by decide) (fun _ _ h => h)
      replace hp3 := RdS.fr hp3 F39 (by decide) (fun _ _ h => h)
      replace hF := hF.trans F39 (fun _ h => h.elim)
      refine st_effS hS38 rfl rfl (e_storeB (n := 4) (bb := true) (cs' := [.int .i64 x31.Device, .int .i64 x31.Worker, .int .u64 x31.Start, .int .u64 x31.End]) g39 hS38 rfl rfl rfl (by kernel_rfl) rfl rfl rfl h36 rfl rfl) ?_
      rintro a40 w41 g41 ⟨h36, F41⟩ hS40
      replace h13 := OwS.fr h13 F41 (fun c' hc (hm : c' = N + 2) => by omega)
      replace hp1 := RdS.fr hp1 F41 (by decide) (fun q (hq : C1 q) (hm : q = N + 2) => by have := hC1 q hq; omega)
      replace hp3 := RdS.fr hp3 F41 (by decide) (fun q (hq : C3 q) (hm : q = N + 2) => by have := hC3 q hq; omega)
      replace hF := hF.trans F41 (fun c' (hm : c' = N + 2) => by show N ≤ c'; omega)
      refine wpList_nil (hK _ _ ?_)
      replace hS : Sl 78 _ [(0, .int .i64 p0), (1, .slice A1 p1.length cap1), (2, .int .i64 p2), (3, .slice A3 p3.length cap3), (9, .slice A11 m0_0.length cap12), (10, .int .i64 m0_1), (11, .pointer (some ⟨b35, 0, none⟩))] := hS40.re ⟨rfl, rfl, rfl, rfl, rfl, rfl, rfl, trivial⟩
      clear hK K
      try clear hS29 hS30 hS33 hS34 hS38 hS40
      obtain ⟨a, ha⟩ : ∃ a', a' = a40 := ⟨_, rfl⟩
      rw [← ha] at hS ⊢; clear ha
      refine wp_seq ?_
      obtain ⟨t103, ht104, H⟩ := bind_el H
      obtain ⟨t157, ht158, H⟩ := bind_el H
      refine c_draw (fun K hK => d_start (fun q => False) g41 [] 47 #[false, false, false, false, false, false, false, false, false, false, false, false, false, false, false, false, false, false, false, false, false, false, false, false, false, false, false, false, false, false, false, false, false, false, false, false, false, false, false, false, false, false, false, false, false, false, false] (by kernel_rfl) rfl rfl (fun w42 hw42 => ?_))
      have F42 : Fr (fun _ => False) w41 g41 w42 g41 := by rw [hw42]; exact Fr.drew _ _ _
      replace h13 := OwS.fr h13 F42 (fun _ _ h => h)
      replace h36 := h36.fr F42 (fun h => h)
      replace hp1 := RdS.fr hp1 F42 (by decide) (fun _ _ h => h)
      replace hp3 := RdS.fr hp3 F42 (by decide) (fun _ _ h => h)
      replace hF := hF.trans F42 (fun _ h => h.elim)
      have hC : Fr (fun q => False) w42 g41 w42 g41 := Fr.refl _ _ _
      refine d_pure hS 0 #[true, false, false, false, false, false, false, false, false, false, false, false, false, false, false, false, false, false, false, false, false, false, false, false, false, false, false, false, false, false, false, false, false, false, false, false, false, false, false, false, false, false, false, false, false, false, false] rfl rfl rfl rfl (by kernel_rfl) (fun _ _ _ h => h) (fun _ => (r_fieldB (off := 0) hS rfl rfl (by kernel_rfl))) fun a43 hS43 => d_take hS43 1 #[true, true, false, false, false, false, false, false, false, false, false, false, false, false, false, false, false, false, false, false, false, false, false, false, false, false, false, false, false, false, false, false, false, false, false, false, false, false, false, false, false, false, false, false, false, false, false] rfl rfl rfl rfl (by kernel_rfl) (fun _ _ _ h => h) ⟨_, hC⟩ (fun w' g' Fz => (r_load1 (n := 1) hS43 rfl rfl (by kernel_rfl) (Bx.cell (h36.fr Fz (fun h => h)) rfl))) fun a44 hS44 => d_pure hS44 2 #[true, true, true, false, false, false, false, false, false, false, false, false, false, false, false, false, false, false, false, false, false, false, false, false, false, false, false, false, false, false, false, false, false, false, false, false, false, false, false, false, false, false, false, false, false, false, false] rfl rfl rfl rfl (by kernel_rfl) (fun _ _ _ h => h) (fun _ => (r_bin hS44 rfl rfl rfl b_lss)) fun a45 hS45 => d_pure hS45 3 #[true, true, true, true, false, false, false, false, false, false, false, false, false, false, false, false, false, false, false, false, false, false, false, false, false, false, false, false, false, false, false, false, false, false, false, false, false, false, false, false, false, false, false, false, false, false, false] rfl rfl rfl rfl (by kernel_rfl) (fun _ _ _ h => h) (fun _ => (r_move hS45 rfl rfl)) fun a46 hS46 => ?_
      refine d_join (N := 78) 38 #[true, true, true, true, true, true, true, true, true, false, false, false, false, false, false, false, false, false, false, false, false, false, false, false, false, false, false, false, false, false, false, false, false, false, false, false, false, false, false, false, false, false, false, false, false, false, false] [(0, .int .i64 p0), (1, .slice A1 p1.length cap1), (2, .int .i64 p2), (3, .slice A3 p3.length cap3), (9, .slice A11 m0_0.length cap12), (10, .int .i64 m0_1), (11, .pointer (some ⟨b35, 0, none⟩)), (35, .bool ((decide (x31.Device < 0)) || (decide (p0 ≤ x31.Device))))] ?_ (fun hk => ?_)
      rotate_left
      ·rcases Bool.eq_false_or_eq_true (decide (x31.Device < 0)) with hb47 | hb47
       ·refine d_off hS46 4 #[true, true, true, true, true, false, false, false, false, false, false, false, false, false, false, false, false, false, false, false, false, false, false, false, false, false, false, false, false, false, false, false, false, false, false, false, false, false, false, false, false, false, false, false, false, false, false] rfl (want_off hS46 rfl rfl rfl hb47) rfl rfl (by kernel_rfl) (fun _ _ _ h => h) fun a52 hS52 => d_off hS52 5 #[true, true, true, true, true, true, false, false, false, false, false, false, false, false, false, false, false, false, false, false, false, false, false, false, false, false, false, false, false, false, false, false, false, false, false, false, false, false, false, false, false, false, false, false, false, false, false] rfl (want_off hS52 rfl rfl rfl hb47) rfl rfl (by kernel_rfl) (fun _ _ _ h => h) fun a53 hS53 => d_off hS53 6 #[true, true, true, true, true, true, true, false, false, false, false, false, false, false, false, false, false, false, false, false, false, false, false, false, false, false, false, false, false, false, false, false, false, false, false, false, false, false, false, false, false, false, false, false, false, false, false] rfl (want_off hS53 rfl rfl rfl hb47) rfl rfl (by kernel_rfl) (fun _ _ _ h => h) fun a54 hS54 => d_off hS54 7 #[true, true, true, true, true, true, true, true, false, false, false, false, false, false, false, false, false, false, false, false, false, false, false, false, false, false, false, false, false, false, false, false, false, false, false, false, false, false, false, false, false, false, false, false, false, false, false] rfl (want_off hS54 rfl rfl rfl hb47) rfl rfl (by kernel_rfl) (fun _ _ _ h => h) fun a55 hS55 => d_pure hS55 8 #[true, true, true, true, true, true, true, true, true, false, false, false, false, false, false, false, false, false, false, false, false, false, false, false, false, false, false, false, false, false, false, false, false, false, false, false, false, false, false, false, false, false, false, false, false, false, false] rfl rfl rfl rfl (by kernel_rfl) (fun _ _ _ h => h) (fun _ => (r_pickT hS55 rfl rfl rfl hb47)) fun a56 hS56 => hk _ (hS56.re ⟨rfl, rfl, rfl, rfl, rfl, rfl, rfl, (by rw [hb47]; rfl), trivial⟩)
       ·refine d_pureW hS46 4 #[true, true, true, true, true, false, false, false, false, false, false, false, false, false, false, false, false, false, false, false, false, false, false, false, false, false, false, false, false, false, false, false, false, false, false, false, false, false, false, false, false, false, false, false, false, false, false] rfl (want_on hS46 rfl rfl rfl hb47) rfl rfl (by kernel_rfl) (fun _ _ _ h => h) (fun _ => (r_fieldB (off := 0) hS46 rfl rfl (by kernel_rfl))) fun a57 hS57 => d_takeW hS57 5 #[true, true, true, true, true, true, false, false, false, false, false, false, false, false, false, false, false, false, false, false, false, false, false, false, false, false, false, false, false, false, false, false, false, false, false, false, false, false, false, false, false, false, false, false, false, false, false] rfl (want_on hS57 rfl rfl rfl hb47) rfl rfl (by kernel_rfl) (fun _ _ _ h => h) ⟨_, hC⟩ (fun w' g' Fz => (r_load1 (n := 1) hS57 rfl rfl (by kernel_rfl) (Bx.cell (h36.fr Fz (fun h => h)) rfl))) fun a58 hS58 => d_pureW hS58 6 #[true, true, true, true, true, true, true, false, false, false, false, false, false, false, false, false, false, false, false, false, false, false, false, false, false, false, false, false, false, false, false, false, false, false, false, false, false, false, false, false, false, false, false, false, false, false, false] rfl (want_on hS58 rfl rfl rfl hb47) rfl rfl (by kernel_rfl) (fun _ _ _ h => h) (fun _ => (r_move hS58 rfl rfl)) fun a59 hS59 => d_pureW hS59 7 #[true, true, true, true, true, true, true, true, false, false, false, false, false, false, false, false, false, false, false, false, false, false, false, false, false, false, false, false, false, false, false, false, false, false, false, false, false, false, false, false, false, false, false, false, false, false, false] rfl (want_on hS59 rfl rfl rfl hb47) rfl rfl (by kernel_rfl) (fun _ _ _ h => h) (fun _ => (r_bin hS59 rfl rfl rfl b_geq)) fun a60 hS60 => d_pure hS60 8 #[true, true, true, true, true, true, true, true, true, false, false, false, false, false, false, false, false, false, false, false, false, false, false, false, false, false, false, false, false, false, false, false, false, false, false, false, false, false, false, false, false, false, false, false, false, false, false] rfl rfl rfl rfl (by kernel_rfl) (fun _ _ _ h => h) (fun _ => (r_pickF hS60 rfl rfl rfl hb47)) fun a61 hS61 => hk _ (hS61.re ⟨rfl, rfl, rfl, rfl, rfl, rfl, rfl, (by rw [hb47]; rfl), trivial⟩)
      intro a62 hS62
      refine d_pure hS62 9 #[true, true, true, true, true, true, true, true, true, true, false, false, false, false, false, false, false, false, false, false, false, false, false, false, false, false, false, false, false, false, false, false, false, false, false, false, false, false, false, false, false, false, false, false, false, false, false] rfl rfl rfl rfl (by kernel_rfl) (fun _ _ _ h => h) (fun _ => (r_move hS62 rfl rfl)) fun a63 hS63 => ?_
      refine d_join (N := 78) 33 #[true, true, true, true, true, true, true, true, true, true, true, true, true, true, false, false, false, false, false, false, false, false, false, false, false, false, false, false, false, false, false, false, false, false, false, false, false, false, false, false, false, false, false, false, false, false, false] [(0, .int .i64 p0), (1, .slice A1 p1.length cap1), (2, .int .i64 p2), (3, .slice A3 p3.length cap3), (9, .slice A11 m0_0.length cap12), (10, .int .i64 m0_1), (11, .pointer (some ⟨b35, 0, none⟩)), (40, .bool (((decide (x31.Device < 0)) || (decide (p0 ≤ x31.Device))) || (decide (x31.Worker < 0))))] ?_ (fun hk => ?_)
      rotate_left
      ·rcases Bool.eq_false_or_eq_true (((decide (x31.Device < 0)) || (decide (p0 ≤ x31.Device)))) with hb64 | hb64
       ·refine d_off hS63 10 #[true, true, true, true, true, true, true, true, true, true, true, false, false, false, false, false, false, false, false, false, false, false, false, false, false, false, false, false, false, false, false, false, false, false, false, false, false, false, false, false, false, false, false, false, false, false, false] rfl (want_off hS63 rfl rfl rfl hb64) rfl rfl (by kernel_rfl) (fun _ _ _ h => h) fun a68 hS68 => d_off hS68 11 #[true, true, true, true, true, true, true, true, true, true, true, true, false, false, false, false, false, false, false, false, false, false, false, false, false, false, false, false, false, false, false, false, false, false, false, false, false, false, false, false, false, false, false, false, false, false, false] rfl (want_off hS68 rfl rfl rfl hb64) rfl rfl (by kernel_rfl) (fun _ _ _ h => h) fun a69 hS69 => d_off hS69 12 #[true, true, true, true, true, true, true, true, true, true, true, true, true, false, false, false, false, false, false, false, false, false, false, false, false, false, false, false, false, false, false, false, false, false, false, false, false, false, false, false, false, false, false, false, false, false, false] rfl (want_off hS69 rfl rfl rfl hb64) rfl rfl (by kernel_rfl) (fun _ _ _ h => h) fun a70 hS70 => d_pure hS70 13 #[true, true, true, true, true, true, true, true, true, true, true, true, true, true, false, false, false, false, false, false, false, false, false, false, false, false, false, false, false, false, false, false, false, false, false, false, false, false, false, false, false, false, false, false, false, false, false] rfl rfl rfl rfl (by kernel_rfl) (fun _ _ _ h => h) (fun _ => (r_pickT hS70 rfl rfl rfl hb64)) fun a71 hS71 => hk _ (hS71.re ⟨rfl, rfl, rfl, rfl, rfl, rfl, rfl, (by rw [hb64]; rfl), trivial⟩)
       ·refine d_pureW hS63 10 #[true, true, true, true, true, true, true, true, true, true, true, false, false, false, false, false, false, false, false, false, false, false, false, false, false, false, false, false, false, false, false, false, false, false, false, false, false, false, false, false, false, false, false, false, false, false, false] rfl (want_on hS63 rfl rfl rfl hb64) rfl rfl (by kernel_rfl) (fun _ _ _ h => h) (fun _ => (r_fieldB (off := 1) hS63 rfl rfl (by kernel_rfl))) fun a72 hS72 => d_takeW hS72 11 #[true, true, true, true, true, true, true, true, true, true, true, true, false, false, false, false, false, false, false, false, false, false, false, false, false, false, false, false, false, false, false, false, false, false, false, false, false, false, false, false, false, false, false, false, false, false, false] rfl (want_on hS72 rfl rfl rfl hb64) rfl rfl (by kernel_rfl) (fun _ _ _ h => h) ⟨_, hC⟩ (fun w' g' Fz => (r_load1 (n := 1) hS72 rfl rfl (by kernel_rfl) (Bx.cell (h36.fr Fz (fun h => h)) rfl))) fun a73 hS73 => d_pureW hS73 12 #[true, true, true, true, true, true, true, true, true, true, true, true, true, false, false, false, false, false, false, false, false, false, false, false, false, false, false, false, false, false, false, false, false, false, false, false, false, false, false, false, false, false, false, false, false, false, false] rfl (want_on hS73 rfl rfl rfl hb64) rfl rfl (by kernel_rfl) (fun _ _ _ h => h) (fun _ => (r_bin hS73 rfl rfl rfl b_lss)) fun a74 hS74 => d_pure hS74 13 #[true, true, true, true, true, true, true, true, true, true, true, true, true, true, false, false, false, false, false, false, false, false, false, false, false, false, false, false, false, false, false, false, false, false, false, false, false, false, false, false, false, false, false, false, false, false, false] rfl rfl rfl rfl (by kernel_rfl) (fun _ _ _ h => h) (fun _ => (r_pickF hS74 rfl rfl rfl hb64)) fun a75 hS75 => hk _ (hS75.re ⟨rfl, rfl, rfl, rfl, rfl, rfl, rfl, (by rw [hb64]; rfl), trivial⟩)
      intro a76 hS76
      refine d_pure hS76 14 #[true, true, true, true, true, true, true, true, true, true, true, true, true, true, true, false, false, false, false, false, false, false, false, false, false, false, false, false, false, false, false, false, false, false, false, false, false, false, false, false, false, false, false, false, false, false, false] rfl rfl rfl rfl (by kernel_rfl) (fun _ _ _ h => h) (fun _ => (r_move hS76 rfl rfl)) fun a77 hS77 => ?_
      refine d_join (N := 78) 27 #[true, true, true, true, true, true, true, true, true, true, true, true, true, true, true, true, true, true, true, true, false, false, false, false, false, false, false, false, false, false, false, false, false, false, false, false, false, false, false, false, false, false, false, false, false, false, false] [(0, .int .i64 p0), (1, .slice A1 p1.length cap1), (2, .int .i64 p2), (3, .slice A3 p3.length cap3), (9, .slice A11 m0_0.length cap12), (10, .int .i64 m0_1), (11, .pointer (some ⟨b35, 0, none⟩)), (46, .bool ((((decide (x31.Device < 0)) || (decide (p0 ≤ x31.Device))) || (decide (x31.Worker < 0))) || (decide (p2 ≤ x31.Worker))))] ?_ (fun hk => ?_)
      rotate_left
      ·rcases Bool.eq_false_or_eq_true ((((decide (x31.Device < 0)) || (decide (p0 ≤ x31.Device))) || (decide (x31.Worker < 0)))) with hb78 | hb78
       ·refine d_off hS77 15 #[true, true, true, true, true, true, true, true, true, true, true, true, true, true, true, true, false, false, false, false, false, false, false, false, false, false, false, false, false, false, false, false, false, false, false, false, false, false, false, false, false, false, false, false, false, false, false] rfl (want_off hS77 rfl rfl rfl hb78) rfl rfl (by kernel_rfl) (fun _ _ _ h => h) fun a83 hS83 => d_off hS83 16 #[true, true, true, true, true, true, true, true, true, true, true, true, true, true, true, true, true, false, false, false, false, false, false, false, false, false, false, false, false, false, false, false, false, false, false, false, false, false, false, false, false, false, false, false, false, false, false] rfl (want_off hS83 rfl rfl rfl hb78) rfl rfl (by kernel_rfl) (fun _ _ _ h => h) fun a84 hS84 => d_off hS84 17 #[true, true, true, true, true, true, true, true, true, true, true, true, true, true, true, true, true, true, false, false, false, false, false, false, false, false, false, false, false, false, false, false, false, false, false, false, false, false, false, false, false, false, false, false, false, false, false] rfl (want_off hS84 rfl rfl rfl hb78) rfl rfl (by kernel_rfl) (fun _ _ _ h => h) fun a85 hS85 => d_off hS85 18 #[true, true, true, true, true, true, true, true, true, true, true, true, true, true, true, true, true, true, true, false, false, false, false, false, false, false, false, false, false, false, false, false, false, false, false, false, false, false, false, false, false, false, false, false, false, false, false] rfl (want_off hS85 rfl rfl rfl hb78) rfl rfl (by kernel_rfl) (fun _ _ _ h => h) fun a86 hS86 => d_pure hS86 19 #[true, true, true, true, true, true, true, true, true, true, true, true, true, true, true, true, true, true, true, true, false, false, false, false, false, false, false, false, false, false, false, false, false, false, false, false, false, false, false, false, false, false, false, false, false, false, false] rfl rfl rfl rfl (by kernel_rfl) (fun _ _ _ h => h) (fun _ => (r_pickT hS86 rfl rfl rfl hb78)) fun a87 hS87 => hk _ (hS87.re ⟨rfl, rfl, rfl, rfl, rfl, rfl, rfl, (by rw [hb78]; rfl), trivial⟩)
       ·refine d_pureW hS77 15 #[true, true, true, true, true, true, true, true, true, true, true, true, true, true, true, true, false, false, false, false, false, false, false, false, false, false, false, false, false, false, false, false, false, false, false, false, false, false, false, false, false, false, false, false, false, false, false] rfl (want_on hS77 rfl rfl rfl hb78) rfl rfl (by kernel_rfl) (fun _ _ _ h => h) (fun _ => (r_fieldB (off := 1) hS77 rfl rfl (by kernel_rfl))) fun a88 hS88 => d_takeW hS88 16 #[true, true, true, true, true, true, true, true, true, true, true, true, true, true, true, true, true, false, false, false, false, false, false, false, false, false, false, false, false, false, false, false, false, false, false, false, false, false, false, false, false, false, false, false, false, false, false] rfl (want_on hS88 rfl rfl rfl hb78) rfl rfl (by kernel_rfl) (fun _ _ _ h => h) ⟨_, hC⟩ (fun w' g' Fz => (r_load1 (n := 1) hS88 rfl rfl (by kernel_rfl) (Bx.cell (h36.fr Fz (fun h => h)) rfl))) fun a89 hS89 => d_pureW hS89 17 #[true, true, true, true, true, true, true, true, true, true, true, true, true, true, true, true, true, true, false, false, false, false, false, false, false, false, false, false, false, false, false, false, false, false, false, false, false, false, false, false, false, false, false, false, false, false, false] rfl (want_on hS89 rfl rfl rfl hb78) rfl rfl (by kernel_rfl) (fun _ _ _ h => h) (fun _ => (r_move hS89 rfl rfl)) fun a90 hS90 => d_pureW hS90 18 #[true, true, true, true, true, true, true, true, true, true, true, true, true, true, true, true, true, true, true, false, false, false, false, false, false, false, false, false, false, false, false, false, false, false, false, false, false, false, false, false, false, false, false, false, false, false, false] rfl (want_on hS90 rfl rfl rfl hb78) rfl rfl (by kernel_rfl) (fun _ _ _ h => h) (fun _ => (r_bin hS90 rfl rfl rfl b_geq)) fun a91 hS91 => d_pure hS91 19 #[true, true, true, true, true, true, true, true, true, true, true, true, true, true, true, true, true, true, true, true, false, false, false, false, false, false, false, false, false, false, false, false, false, false, false, false, false, false, false, false, false, false, false, false, false, false, false] rfl rfl rfl rfl (by kernel_rfl) (fun _ _ _ h => h) (fun _ => (r_pickF hS91 rfl rfl rfl hb78)) fun a92 hS92 => hk _ (hS92.re ⟨rfl, rfl, rfl, rfl, rfl, rfl, rfl, (by rw [hb78]; rfl), trivial⟩)
      intro a93 hS93
      refine d_pure hS93 20 #[true, true, true, true, true, true, true, true, true, true, true, true, true, true, true, true, true, true, true, true, true, false, false, false, false, false, false, false, false, false, false, false, false, false, false, false, false, false, false, false, false, false, false, false, false, false, false] rfl rfl rfl rfl (by kernel_rfl) (fun _ _ _ h => h) (fun _ => (r_move hS93 rfl rfl)) fun a94 hS94 => ?_
      refine d_join (N := 78) 20 #[true, true, true, true, true, true, true, true, true, true, true, true, true, true, true, true, true, true, true, true, true, true, true, true, true, true, true, false, false, false, false, false, false, false, false, false, false, false, false, false, false, false, false, false, false, false, false] [(0, .int .i64 p0), (1, .slice A1 p1.length cap1), (2, .int .i64 p2), (3, .slice A3 p3.length cap3), (9, .slice A11 m0_0.length cap12), (10, .int .i64 m0_1), (11, .pointer (some ⟨b35, 0, none⟩)), (53, .bool t103)] ?_ (fun hk => ?_)
      rotate_left
      ·rcases Bool.eq_false_or_eq_true (((((decide (x31.Device < 0)) || (decide (p0 ≤ x31.Device))) || (decide (x31.Worker < 0))) || (decide (p2 ≤ x31.Worker)))) with hb95 | hb95
       ·have H := ite_t hb95 ht104
        have e105 := Option.some.inj H
        refine d_off hS94 21 #[true, true, true, true, true, true, true, true, true, true, true, true, true, true, true, true, true, true, true, true, true, true, false, false, false, false, false, false, false, false, false, false, false, false, false, false, false, false, false, false, false, false, false, false, false, false, false] rfl (want_off hS94 rfl rfl rfl hb95) rfl rfl (by kernel_rfl) (fun _ _ _ h => h) fun a106 hS106 => d_off hS106 22 #[true, true, true, true, true, true, true, true, true, true, true, true, true, true, true, true, true, true, true, true, true, true, true, false, false, false, false, false, false, false, false, false, false, false, false, false, false, false, false, false, false, false, false, false, false, false, false] rfl (want_off hS106 rfl rfl rfl hb95) rfl rfl (by kernel_rfl) (fun _ _ _ h => h) fun a107 hS107 => d_off hS107 23 #[true, true, true, true, true, true, true, true, true, true, true, true, true, true, true, true, true, true, true, true, true, true, true, true, false, false, false, false, false, false, false, false, false, false, false, false, false, false, false, false, false, false, false, false, false, false, false] rfl (want_off hS107 rfl rfl rfl hb95) rfl rfl (by kernel_rfl) (fun _ _ _ h => h) fun a108 hS108 => d_off hS108 24 #[true, true, true, true, true, true, true, true, true, true, true, true, true, true, true, true, true, true, true, true, true, true, true, true, true, false, false, false, false, false, false, false, false, false, false, false, false, false, false, false, false, false, false, false, false, false, false] rfl (want_off hS108 rfl rfl rfl hb95) rfl rfl (by kernel_rfl) (fun _ _ _ h => h) fun a109 hS109 => d_off hS109 25 #[true, true, true, true, true, true, true, true, true, true, true, true, true, true, true, true, true, true, true, true, true, true, true, true, true, true, false, false, false, false, false, false, false, false, false, false, false, false, false, false, false, false, false, false, false, false, false] rfl (want_off hS109 rfl rfl rfl hb95) rfl rfl (by kernel_rfl) (fun _ _ _ h => h) fun a110 hS110 => d_pure hS110 26 #[true, true, true, true, true, true, true, true, true, true, true, true, true, true, true, true, true, true, true, true, true, true, true, true, true, true, true, false, false, false, false, false, false, false, false, false, false, false, false, false, false, false, false, false, false, false, false] rfl rfl rfl rfl (by kernel_rfl) (fun _ _ _ h => h) (fun _ => (r_pickT hS110 rfl rfl rfl hb95)) fun a111 hS111 => hk _ (hS111.re ⟨rfl, rfl, rfl, rfl, rfl, rfl, rfl, (by rw [← e105]; rfl), trivial⟩)
       ·have H := ite_f hb95 ht104
        obtain ⟨x115, hx116, H⟩ := bind_el H
        have e119 := Option.some.inj H
        refine d_pureW hS94 21 #[true, true, true, true, true, true, true, true, true, true, true, true, true, true, true, true, true, true, true, true, true, true, false, false, false, false, false, false, false, false, false, false, false, false, false, false, false, false, false, false, false, false, false, false, false, false, false] rfl (want_on hS94 rfl rfl rfl hb95) rfl rfl (by kernel_rfl) (fun _ _ _ h => h) (fun _ => (r_move hS94 rfl rfl)) fun a112 hS112 => d_pureW hS112 22 #[true, true, true, true, true, true, true, true, true, true, true, true, true, true, true, true, true, true, true, true, true, true, true, false, false, false, false, false, false, false, false, false, false, false, false, false, false, false, false, false, false, false, false, false, false, false, false] rfl (want_on hS112 rfl rfl rfl hb95) rfl rfl (by kernel_rfl) (fun _ _ _ h => h) (fun _ => (r_fieldB (off := 0) hS112 rfl rfl (by kernel_rfl))) fun a113 hS113 => d_takeW hS113 23 #[true, true, true, true, true, true, true, true, true, true, true, true, true, true, true, true, true, true, true, true, true, true, true, true, false, false, false, false, false, false, false, false, false, false, false, false, false, false, false, false, false, false, false, false, false, false, false] rfl (want_on hS113 rfl rfl rfl hb95) rfl rfl (by kernel_rfl) (fun _ _ _ h => h) ⟨_, hC⟩ (fun w' g' Fz => (r_load1 (n := 1) hS113 rfl rfl (by kernel_rfl) (Bx.cell (h36.fr Fz (fun h => h)) rfl))) fun a114 hS114 => d_pureW hS114 24 #[true, true, true, true, true, true, true, true, true, true, true, true, true, true, true, true, true, true, true, true, true, true, true, true, true, false, false, false, false, false, false, false, false, false, false, false, false, false, false, false, false, false, false, false, false, false, false] rfl (want_on hS114 rfl rfl rfl hb95) rfl rfl (by kernel_rfl) (fun _ _ _ h => h) (fun _ => (r_index (e := 4) (sz := 1) (by_ := 1) hS114 rfl rfl rfl (by kernel_rfl) (RdS.some_ (OwS.rd h13) hx116) (idx_lo hx116) (idx_hi hx116))) fun a117 hS117 => d_takeW hS117 25 #[true, true, true, true, true, true, true, true, true, true, true, true, true, true, true, true, true, true, true, true, true, true, true, true, true, true, false, false, false, false, false, false, false, false, false, false, false, false, false, false, false, false, false, false, false, false, false] rfl (want_on hS117 rfl rfl rfl hb95) rfl rfl (by kernel_rfl) (fun _ _ _ h => h) ⟨_, hC⟩ (fun w' g' Fz => (r_load1 (n := 1) hS117 rfl rfl (by kernel_rfl) (RdS.cell (i := x31.Device) (sz := 1) (j := 0) (OwS.rd (OwS.fr h13 Fz (fun _ _ h => h))) hx116 rfl))) fun a118 hS118 => d_pure hS118 26 #[true, true, true, true, true, true, true, true, true, true, true, true, true, true, true, true, true, true, true, true, true, true, true, true, true, true, true, false, false, false, false, false, false, false, false, false, false, false, false, false, false, false, false, false, false, false, false] rfl rfl rfl rfl (by kernel_rfl) (fun _ _ _ h => h) (fun _ => (r_pickF hS118 rfl rfl rfl hb95)) fun a120 hS120 => hk _ (hS120.re ⟨rfl, rfl, rfl, rfl, rfl, rfl, rfl, (by rw [← e119]; rfl), trivial⟩)
      intro a121 hS121
      refine d_pure hS121 27 #[true, true, true, true, true, true, true, true, true, true, true, true, true, true, true, true, true, true, true, true, true, true, true, true, true, true, true, true, false, false, false, false, false, false, false, false, false, false, false, false, false, false, false, false, false, false, false] rfl rfl rfl rfl (by kernel_rfl) (fun _ _ _ h => h) (fun _ => (r_move hS121 rfl rfl)) fun a122 hS122 => ?_
      refine d_join (N := 78) 13 #[true, true, true, true, true, true, true, true, true, true, true, true, true, true, true, true, true, true, true, true, true, true, true, true, true, true, true, true, true, true, true, true, true, true, false, false, false, false, false, false, false, false, false, false, false, false, false] [(0, .int .i64 p0), (1, .slice A1 p1.length cap1), (2, .int .i64 p2), (3, .slice A3 p3.length cap3), (9, .slice A11 m0_0.length cap12), (10, .int .i64 m0_1), (11, .pointer (some ⟨b35, 0, none⟩)), (60, .bool (t103 || (decide (x31.End < x31.Start))))] ?_ (fun hk => ?_)
      rotate_left
      ·rcases Bool.eq_false_or_eq_true (t103) with hb123 | hb123
       ·refine d_off hS122 28 #[true, true, true, true, true, true, true, true, true, true, true, true, true, true, true, true, true, true, true, true, true, true, true, true, true, true, true, true, true, false, false, false, false, false, false, false, false, false, false, false, false, false, false, false, false, false, false] rfl (want_off hS122 rfl rfl rfl hb123) rfl rfl (by kernel_rfl) (fun _ _ _ h => h) fun a129 hS129 => d_off hS129 29 #[true, true, true, true, true, true, true, true, true, true, true, true, true, true, true, true, true, true, true, true, true, true, true, true, true, true, true, true, true, true, false, false, false, false, false, false, false, false, false, false, false, false, false, false, false, false, false] rfl (want_off hS129 rfl rfl rfl hb123) rfl rfl (by kernel_rfl) (fun _ _ _ h => h) fun a130 hS130 => d_off hS130 30 #[true, true, true, true, true, true, true, true, true, true, true, true, true, true, true, true, true, true, true, true, true, true, true, true, true, true, true, true, true, true, true, false, false, false, false, false, false, false, false, false, false, false, false, false, false, false, false] rfl (want_off hS130 rfl rfl rfl hb123) rfl rfl (by kernel_rfl) (fun _ _ _ h => h) fun a131 hS131 => d_off hS131 31 #[true, true, true, true, true, true, true, true, true, true, true, true, true, true, true, true, true, true, true, true, true, true, true, true, true, true, true, true, true, true, true, true, false, false, false, false, false, false, false, false, false, false, false, false, false, false, false] rfl (want_off hS131 rfl rfl rfl hb123) rfl rfl (by kernel_rfl) (fun _ _ _ h => h) fun a132 hS132 => d_off hS132 32 #[true, true, true, true, true, true, true, true, true, true, true, true, true, true, true, true, true, true, true, true, true, true, true, true, true, true, true, true, true, true, true, true, true, false, false, false, false, false, false, false, false, false, false, false, false, false, false] rfl (want_off hS132 rfl rfl rfl hb123) rfl rfl (by kernel_rfl) (fun _ _ _ h => h) fun a133 hS133 => d_pure hS133 33 #[true, true, true, true, true, true, true, true, true, true, true, true, true, true, true, true, true, true, true, true, true, true, true, true, true, true, true, true, true, true, true, true, true, true, false, false, false, false, false, false, false, false, false, false, false, false, false] rfl rfl rfl rfl (by kernel_rfl) (fun _ _ _ h => h) (fun _ => (r_pickT hS133 rfl rfl rfl hb123)) fun a134 hS134 => hk _ (hS134.re ⟨rfl, rfl, rfl, rfl, rfl, rfl, rfl, (by rw [hb123]; rfl), trivial⟩)
       ·refine d_pureW hS122 28 #[true, true, true, true, true, true, true, true, true, true, true, true, true, true, true, true, true, true, true, true, true, true, true, true, true, true, true, true, true, false, false, false, false, false, false, false, false, false, false, false, false, false, false, false, false, false, false] rfl (want_on hS122 rfl rfl rfl hb123) rfl rfl (by kernel_rfl) (fun _ _ _ h => h) (fun _ => (r_fieldB (off := 3) hS122 rfl rfl (by kernel_rfl))) fun a135 hS135 => d_takeW hS135 29 #[true, true, true, true, true, true, true, true, true, true, true, true, true, true, true, true, true, true, true, true, true, true, true, true, true, true, true, true, true, true, false, false, false, false, false, false, false, false, false, false, false, false, false, false, false, false, false] rfl (want_on hS135 rfl rfl rfl hb123) rfl rfl (by kernel_rfl) (fun _ _ _ h => h) ⟨_, hC⟩ (fun w' g' Fz => (r_load1 (n := 1) hS135 rfl rfl (by kernel_rfl) (Bx.cell (h36.fr Fz (fun h => h)) rfl))) fun a136 hS136 => d_pureW hS136 30 #[true, true, true, true, true, true, true, true, true, true, true, true, true, true, true, true, true, true, true, true, true, true, true, true, true, true, true, true, true, true, true, false, false, false, false, false, false, false, false, false, false, false, false, false, false, false, false] rfl (want_on hS136 rfl rfl rfl hb123) rfl rfl (by kernel_rfl) (fun _ _ _ h => h) (fun _ => (r_fieldB (off := 2) hS136 rfl rfl (by kernel_rfl))) fun a137 hS137 => d_takeW hS137 31 #[true, true, true, true, true, true, true, true, true, true, true, true, true, true, true, true, true, true, true, true, true, true, true, true, true, true, true, true, true, true, true, true, false, false, false, false, false, false, false, false, false, false, false, false, false, false, false] rfl (want_on hS137 rfl rfl rfl hb123) rfl rfl (by kernel_rfl) (fun _ _ _ h => h) ⟨_, hC⟩ (fun w' g' Fz => (r_load1 (n := 1) hS137 rfl rfl (by kernel_rfl) (Bx.cell (h36.fr Fz (fun h => h)) rfl))) fun a138 hS138 => d_pureW hS138 32 #[true, true, true, true, true, true, true, true, true, true, true, true, true, true, true, true, true, true, true, true, true, true, true, true, true, true, true, true, true, true, true, true, true, false, false, false, false, false, false, false, false, false, false, false, false, false, false] rfl (want_on hS138 rfl rfl rfl hb123) rfl rfl (by kernel_rfl) (fun _ _ _ h => h) (fun _ => (r_bin hS138 rfl rfl rfl b_lss)) fun a139 hS139 => d_pure hS139 33 #[true, true, true, true, true, true, true, true, true, true, true, true, true, true, true, true, true, true, true, true, true, true, true, true, true, true, true, true, true, true, true, true, true, true, false, false, false, false, false, false, false, false, false, false, false, false, false] rfl rfl rfl rfl (by kernel_rfl) (fun _ _ _ h => h) (fun _ => (r_pickF hS139 rfl rfl rfl hb123)) fun a140 hS140 => hk _ (hS140.re ⟨rfl, rfl, rfl, rfl, rfl, rfl, rfl, (by rw [hb123]; rfl), trivial⟩)
      intro a141 hS141
      refine d_pure hS141 34 #[true, true, true, true, true, true, true, true, true, true, true, true, true, true, true, true, true, true, true, true, true, true, true, true, true, true, true, true, true, true, true, true, true, true, true, false, false, false, false, false, false, false, false, false, false, false, false] rfl rfl rfl rfl (by kernel_rfl) (fun _ _ _ h => h) (fun _ => (r_move hS141 rfl rfl)) fun a142 hS142 => ?_
      refine d_join (N := 78) 0 #[true, true, true, true, true, true, true, true, true, true, true, true, true, true, true, true, true, true, true, true, true, true, true, true, true, true, true, true, true, true, true, true, true, true, true, true, true, true, true, true, true, true, true, true, true, true, true] [(0, .int .i64 p0), (1, .slice A1 p1.length cap1), (2, .int .i64 p2), (3, .slice A3 p3.length cap3), (9, .slice A11 m0_0.length cap12), (10, .int .i64 m0_1), (11, .pointer (some ⟨b35, 0, none⟩)), (73, .bool t157)] ?_ (fun hk => ?_)
      rotate_left
      ·rcases Bool.eq_false_or_eq_true ((t103 || (decide (x31.End < x31.Start)))) with hb143 | hb143
       ·have H := ite_t hb143 ht158
        have e159 := Option.some.inj H
        refine d_off hS142 35 #[true, true, true, true, true, true, true, true, true, true, true, true, true, true, true, true, true, true, true, true, true, true, true, true, true, true, true, true, true, true, true, true, true, true, true, true, false, false, false, false, false, false, false, false, false, false, false] rfl (want_off hS142 rfl rfl rfl hb143) rfl rfl (by kernel_rfl) (fun _ _ _ h => h) fun a160 hS160 => d_off hS160 36 #[true, true, true, true, true, true, true, true, true, true, true, true, true, true, true, true, true, true, true, true, true, true, true, true, true, true, true, true, true, true, true, true, true, true, true, true, true, false, false, false, false, false, false, false, false, false, false] rfl (want_off hS160 rfl rfl rfl hb143) rfl rfl (by kernel_rfl) (fun _ _ _ h => h) fun a161 hS161 => d_off hS161 37 #[true, true, true, true, true, true, true, true, true, true, true, true, true, true, true, true, true, true, true, true, true, true, true, true, true, true, true, true, true, true, true, true, true, true, true, true, true, true, false, false, false, false, false, false, false, false, false] rfl (want_off hS161 rfl rfl rfl hb143) rfl rfl (by kernel_rfl) (fun _ _ _ h => h) fun a162 hS162 => d_off hS162 38 #[true, true, true, true, true, true, true, true, true, true, true, true, true, true, true, true, true, true, true, true, true, true, true, true, true, true, true, true, true, true, true, true, true, true, true, true, true, true, true, false, false, false, false, false, false, false, false] rfl (want_off hS162 rfl rfl rfl hb143) rfl rfl (by kernel_rfl) (fun _ _ _ h => h) fun a163 hS163 => d_off hS163 39 #[true, true, true, true, true, true, true, true, true, true, true, true, true, true, true, true, true, true, true, true, true, true, true, true, true, true, true, true, true, true, true, true, true, true, true, true, true, true, true, true, false, false, false, false, false, false, false] rfl (want_off hS163 rfl rfl rfl hb143) rfl rfl (by kernel_rfl) (fun _ _ _ h => h) fun a164 hS164 => d_off hS164 40 #[true, true, true, true, true, true, true, true, true, true, true, true, true, true, true, true, true, true, true, true, true, true, true, true, true, true, true, true, true, true, true, true, true, true, true, true, true, true, true, true, true, false, false, false, false, false, false] rfl (want_off hS164 rfl rfl rfl hb143) rfl rfl (by kernel_rfl) (fun _ _ _ h => h) fun a165 hS165 => d_off hS165 41 #[true, true, true, true, true, true, true, true, true, true, true, true, true, true, true, true, true, true, true, true, true, true, true, true, true, true, true, true, true, true, true, true, true, true, true, true, true, true, true, true, true, true, false, false, false, false, false] rfl (want_off hS165 rfl rfl rfl hb143) rfl rfl (by kernel_rfl) (fun _ _ _ h => h) fun a166 hS166 => d_off hS166 42 #[true, true, true, true, true, true, true, true, true, true, true, true, true, true, true, true, true, true, true, true, true, true, true, true, true, true, true, true, true, true, true, true, true, true, true, true, true, true, true, true, true, true, true, false, false, false, false] rfl (want_off hS166 rfl rfl rfl hb143) rfl rfl (by kernel_rfl) (fun _ _ _ h => h) fun a167 hS167 => d_off hS167 43 #[true, true, true, true, true, true, true, true, true, true, true, true, true, true, true, true, true, true, true, true, true, true, true, true, true, true, true, true, true, true, true, true, true, true, true, true, true, true, true, true, true, true, true, true, false, false, false] rfl (want_off hS167 rfl rfl rfl hb143) rfl rfl (by kernel_rfl) (fun _ _ _ h => h) fun a168 hS168 => d_off hS168 44 #[true, true, true, true, true, true, true, true, true, true, true, true, true, true, true, true, true, true, true, true, true, true, true, true, true, true, true, true, true, true, true, true, true, true, true, true, true, true, true, true, true, true, true, true, true, false, false] rfl (want_off hS168 rfl rfl rfl hb143) rfl rfl (by kernel_rfl) (fun _ _ _ h => h) fun a169 hS169 => d_off hS169 45 #[true, true, true, true, true, true, true, true, true, true, true, true, true, true, true, true, true, true, true, true, true, true, true, true, true, true, true, true, true, true, true, true, true, true, true, true, true, true, true, true, true, true, true, true, true, true, false] rfl (want_off hS169 rfl rfl rfl hb143) rfl rfl (by kernel_rfl) (fun _ _ _ h => h) fun a170 hS170 => d_pure hS170 46 #[true, true, true, true, true, true, true, true, true, true, true, true, true, true, true, true, true, true, true, true, true, true, true, true, true, true, true, true, true, true, true, true, true, true, true, true, true, true, true, true, true, true, true, true, true, true, true] rfl rfl rfl rfl (by kernel_rfl) (fun _ _ _ h => h) (fun _ => (r_pickT hS170 rfl rfl rfl hb143)) fun a171 hS171 => hk _ (hS171.re ⟨rfl, rfl, rfl, rfl, rfl, rfl, rfl, (by rw [← e159]; rfl), trivial⟩)
       ·have H := ite_f hb143 ht158
        obtain ⟨x180, hx181, H⟩ := bind_el H
        have e185 := Option.some.inj H
        refine d_pureW hS142 35 #[true, true, true, true, true, true, true, true, true, true, true, true, true, true, true, true, true, true, true, true, true, true, true, true, true, true, true, true, true, true, true, true, true, true, true, true, false, false, false, false, false, false, false, false, false, false, false] rfl (want_on hS142 rfl rfl rfl hb143) rfl rfl (by kernel_rfl) (fun _ _ _ h => h) (fun _ => (r_fieldB (off := 3) hS142 rfl rfl (by kernel_rfl))) fun a172 hS172 => d_takeW hS172 36 #[true, true, true, true, true, true, true, true, true, true, true, true, true, true, true, true, true, true, true, true, true, true, true, true, true, true, true, true, true, true, true, true, true, true, true, true, true, false, false, false, false, false, false, false, false, false, false] rfl (want_on hS172 rfl rfl rfl hb143) rfl rfl (by kernel_rfl) (fun _ _ _ h => h) ⟨_, hC⟩ (fun w' g' Fz => (r_load1 (n := 1) hS172 rfl rfl (by kernel_rfl) (Bx.cell (h36.fr Fz (fun h => h)) rfl))) fun a173 hS173 => d_pureW hS173 37 #[true, true, true, true, true, true, true, true, true, true, true, true, true, true, true, true, true, true, true, true, true, true, true, true, true, true, true, true, true, true, true, true, true, true, true, true, true, true, false, false, false, false, false, false, false, false, false] rfl (want_on hS173 rfl rfl rfl hb143) rfl rfl (by kernel_rfl) (fun _ _ _ h => h) (fun _ => (r_fieldB (off := 2) hS173 rfl rfl (by kernel_rfl))) fun a174 hS174 => d_takeW hS174 38 #[true, true, true, true, true, true, true, true, true, true, true, true, true, true, true, true, true, true, true, true, true, true, true, true, true, true, true, true, true, true, true, true, true, true, true, true, true, true, true, false, false, false, false, false, false, false, false] rfl (want_on hS174 rfl rfl rfl hb143) rfl rfl (by kernel_rfl) (fun _ _ _ h => h) ⟨_, hC⟩ (fun w' g' Fz => (r_load1 (n := 1) hS174 rfl rfl (by kernel_rfl) (Bx.cell (h36.fr Fz (fun h => h)) rfl))) fun a175 hS175 => d_pureW hS175 39 #[true, true, true, true, true, true, true, true, true, true, true, true, true, true, true, true, true, true, true, true, true, true, true, true, true, true, true, true, true, true, true, true, true, true, true, true, true, true, true, true, false, false, false, false, false, false, false] rfl (want_on hS175 rfl rfl rfl hb143) rfl rfl (by kernel_rfl) (fun _ _ _ h => h) (fun _ => (r_bin hS175 rfl rfl rfl b_sub)) fun a176 hS176 => d_pureW hS176 40 #[true, true, true, true, true, true, true, true, true, true, true, true, true, true, true, true, true, true, true, true, true, true, true, true, true, true, true, true, true, true, true, true, true, true, true, true, true, true, true, true, true, false, false, false, false, false, false] rfl (want_on hS176 rfl rfl rfl hb143) rfl rfl (by kernel_rfl) (fun _ _ _ h => h) (fun _ => (r_move hS176 rfl rfl)) fun a177 hS177 => d_pureW hS177 41 #[true, true, true, true, true, true, true, true, true, true, true, true, true, true, true, true, true, true, true, true, true, true, true, true, true, true, true, true, true, true, true, true, true, true, true, true, true, true, true, true, true, true, false, false, false, false, false] rfl (want_on hS177 rfl rfl rfl hb143) rfl rfl (by kernel_rfl) (fun _ _ _ h => h) (fun _ => (r_fieldB (off := 0) hS177 rfl rfl (by kernel_rfl))) fun a178 hS178 => d_takeW hS178 42 #[true, true, true, true, true, true, true, true, true, true, true, true, true, true, true, true, true, true, true, true, true, true, true, true, true, true, true, true, true, true, true, true, true, true, true, true, true, true, true, true, true, true, true, false, false, false, false] rfl (want_on hS178 rfl rfl rfl hb143) rfl rfl (by kernel_rfl) (fun _ _ _ h => h) ⟨_, hC⟩ (fun w' g' Fz => (r_load1 (n := 1) hS178 rfl rfl (by kernel_rfl) (Bx.cell (h36.fr Fz (fun h => h)) rfl))) fun a179 hS179 => d_pureW hS179 43 #[true, true, true, true, true, true, true, true, true, true, true, true, true, true, true, true, true, true, true, true, true, true, true, true, true, true, true, true, true, true, true, true, true, true, true, true, true, true, true, true, true, true, true, true, false, false, false] rfl (want_on hS179 rfl rfl rfl hb143) rfl rfl (by kernel_rfl) (fun _ _ _ h => h) (fun _ => (r_index (e := 33) (sz := 1) (by_ := 8) hS179 rfl rfl rfl (by kernel_rfl) (RdS.some_ hp1 hx181) (idx_lo hx181) (idx_hi hx181))) fun a182 hS182 => d_takeW hS182 44 #[true, true, true, true, true, true, true, true, true, true, true, true, true, true, true, true, true, true, true, true, true, true, true, true, true, true, true, true, true, true, true, true, true, true, true, true, true, true, true, true, true, true, true, true, true, false, false] rfl (want_on hS182 rfl rfl rfl hb143) rfl rfl (by kernel_rfl) (fun _ _ _ h => h) ⟨_, hC⟩ (fun w' g' Fz => (r_load1 (n := 1) hS182 rfl rfl (by kernel_rfl) (RdS.cell (i := x31.Device) (sz := 1) (j := 0) (RdS.fr hp1 Fz (by decide) (fun _ _ h => h)) hx181 rfl))) fun a183 hS183 => d_pureW hS183 45 #[true, true, true, true, true, true, true, true, true, true, true, true, true, true, true, true, true, true, true, true, true, true, true, true, true, true, true, true, true, true, true, true, true, true, true, true, true, true, true, true, true, true, true, true, true, true, false] rfl (want_on hS183 rfl rfl rfl hb143) rfl rfl (by kernel_rfl) (fun _ _ _ h => h) (fun _ => (r_bin hS183 rfl rfl rfl b_neq)) fun a184 hS184 => d_pure hS184 46 #[true, true, true, true, true, true, true, true, true, true, true, true, true, true, true, true, true, true, true, true, true, true, true, true, true, true, true, true, true, true, true, true, true, true, true, true, true, true, true, true, true, true, true, true, true, true, true] rfl rfl rfl rfl (by kernel_rfl) (fun _ _ _ h => h) (fun _ => (r_pickF hS184 rfl rfl rfl hb143)) fun a186 hS186 => hk _ (hS186.re ⟨rfl, rfl, rfl, rfl, rfl, rfl, rfl, (by rw [← e185]; rfl), trivial⟩)
      intro a187 hS187
      refine d_done (by kernel_rfl) (hK _ _ ?_)
      replace hS : Sl 78 _ [(0, .int .i64 p0), (1, .slice A1 p1.length cap1), (2, .int .i64 p2), (3, .slice A3 p3.length cap3), (9, .slice A11 m0_0.length cap12), (10, .int .i64 m0_1), (11, .pointer (some ⟨b35, 0, none⟩)), (73, .bool t157)] := hS187.re ⟨rfl, rfl, rfl, rfl, rfl, rfl, rfl, rfl, trivial⟩
      clear hK K hC
      try clear hS43 hS44 hS45 hS46 hS62 hS63 hS76 hS77 hS93 hS94 hS121 hS122 hS141 hS142 hS187
      obtain ⟨a, ha⟩ : ∃ a', a' = a187 := ⟨_, rfl⟩
      rw [← ha] at hS ⊢; clear ha
      refine c_cond hS rfl (fun hb188 => ?_) (fun hb188 => ?_)
      ·replace H := ite_t hb188 H
       refine c_pure [(8, .bool false)] (fun R hR => st_val hS rfl rfl rfl (r_assign hS rfl rfl) fun a189 hS189 => wpList_nil (hR _ (hS189.re ⟨rfl, trivial⟩))) ?_
       clear hS
       clear a
       intro a hS
       refine wp_ret ?_
       have e := Option.some.inj H
       subst e
       replace H := Fl.go_out Hl21
       have e := Option.some.inj H
       subst e
       repeat (with_reducible first | refine then_ret ?_ | refine inBlock_ret ?_)
       exact c_ret1 hS Try.results46 rfl ⟨_, rfl, g41, rfl, hF⟩
      ·replace H := ite_f hb188 H
       refine wp_skip ?_
       change Code.wp _ _ _ _ _
       obtain ⟨x193, hx194, H⟩ := bind_el H
       refine c_region1 (fun K hK => ?_)
       refine st_val hS rfl rfl rfl (r_move hS rfl rfl) fun a190 hS190 => st_val hS190 rfl rfl rfl (r_fieldB (off := 0) hS190 rfl rfl (by kernel_rfl)) fun a191 hS191 => st_val hS191 rfl rfl rfl (r_load1 (n := 1) hS191 rfl rfl (by kernel_rfl) (Bx.cell h36 rfl)) fun a192 hS192 => st_val hS192 rfl rfl rfl (r_index (e := 4) (sz := 1) (by_ := 1) hS192 rfl rfl rfl (by kernel_rfl) (RdS.some_ (OwS.rd h13) hx194) (idx_lo hx194) (idx_hi hx194)) fun a195 hS195 => ?_
       refine st_effS hS195 rfl rfl (e_storeE (n := 1) (bb := false) (kd := kbool) (j := 0) (x' := true) (us := [.bool true]) g41 hS195 rfl rfl rfl rfl (by kernel_rfl) rfl rfl (by intro v hv; simp only [List.mem_cons, List.not_mem_nil, or_false] at hv; rcases hv with rfl <;> rfl) h13 hx194 rfl (fun _ _ cs hR => by rw [show cs = _ from hR]; rfl)) ?_
       rintro a196 w197 g197 ⟨h13, F197⟩ hS196
       replace h36 := h36.fr F197 (fun (hm : N + 2 = N + 0) => by omega)
       replace hp1 := RdS.fr hp1 F197 (by decide) (fun q (hq : C1 q) (hm : q = N + 0) => by have := hC1 q hq; omega)
       replace hp3 := RdS.fr hp3 F197 (by decide) (fun q (hq : C3 q) (hm : q = N + 0) => by have := hC3 q hq; omega)
       replace hF := hF.trans F197 (fun c' (hm : c' = N + 0) => by show N ≤ c'; omega)
       have hT : Sl 78 a196 [(0, .int .i64 p0), (1, .slice A1 p1.length cap1), (2, .int .i64 p2), (3, .slice A3 p3.length cap3), (9, .slice A11 m0_0.length cap12), (10, .int .i64 m0_1)] := hS196.re ⟨rfl, rfl, rfl, rfl, rfl, rfl, trivial⟩
       replace hS196 : Sl 78 a196 [(0, .int .i64 p0), (1, .slice A1 p1.length cap1), (2, .int .i64 p2), (3, .slice A3 p3.length cap3), (9, .slice A11 (upd m0_0 x31.Device true).length cap12), (10, .int .i64 m0_1)] := by simpa only [upd_length] using hT
       clear hT
       refine wpList_nil (hK _ _ ?_)
       replace hS : Sl 78 _ [(0, .int .i64 p0), (1, .slice A1 p1.length cap1), (2, .int .i64 p2), (3, .slice A3 p3.length cap3), (9, .slice A11 (upd m0_0 x31.Device true).length cap12), (10, .int .i64 m0_1)] := hS196.re ⟨rfl, rfl, rfl, rfl, rfl, rfl, trivial⟩
       clear hK K
       try clear hS190 hS191 hS192 hS195 hS196
       obtain ⟨a, ha⟩ : ∃ a', a' = a196 := ⟨_, rfl⟩
       rw [← ha] at hS ⊢; clear ha
       change Code.wp _ _ _ _ _
       refine c_pure1 [(0, .int .i64 p0), (1, .slice A1 p1.length cap1), (2, .int .i64 p2), (3, .slice A3 p3.length cap3), (9, .slice A11 (upd m0_0 x31.Device true).length cap12), (10, .int .i64 (wi (m0_1 + 1)))] (fun R hR => st_val hS rfl rfl rfl (r_move hS rfl rfl) fun a198 hS198 => st_val hS198 rfl rfl rfl (r_bin hS198 rfl rfl rfl b_add) fun a199 hS199 => st_val hS199 rfl rfl rfl (r_assign hS199 rfl rfl) fun a200 hS200 => wpList_nil (hR _ (hS200.re ⟨rfl, rfl, rfl, rfl, rfl, rfl, trivial⟩))) ?_
       clear hS
       clear a
       intro a hS
       refine ⟨k24, Nat.lt_succ_self _, ?_⟩
       exact ⟨(upd m0_0 x31.Device true), wi (m0_1 + 1), g197, H, hS.re ⟨rfl, rfl, rfl, rfl, rfl, rfl, trivial⟩, h13, hp1, hp3, hF⟩
     ·replace H := ite_f hb28 H
      refine wp_exit ?_
      have e := Option.some.inj H
      exact ⟨g23, e.symm, hS.re trivial, hF⟩
  ·clear H
   clear hp1 hp3 h13 hF
   clear hS
   rintro a w18 ⟨g18, hpre0, hS, hF⟩
   subst hpre0
   have H := Fl.go_nxt Hl21
   clear Hl21
   refine c_pure [(8, .bool true)] (fun R hR => st_val hS rfl rfl rfl (r_assign hS rfl rfl) fun a201 hS201 => wpList_nil (hR _ (hS201.re ⟨rfl, trivial⟩))) ?_
   clear hS
   clear a
   intro a hS
   refine wp_ret ?_
   have e := Option.some.inj H
   subst e
   repeat (with_reducible first | refine then_ret ?_ | refine inBlock_ret ?_)
   exact c_ret1 hS Try.results46 rfl ⟨_, rfl, g18, rfl, hF⟩


end Go.Proofs.Ythmjgadmadlpkaa.Sim

namespace Go.Proofs.Ythmjgadmadlpkaa.Sim
open Go
set_option linter.unusedVariables false
set_option linter.unusedSimpArgs false

/-! ### ref31_Verify: function 27 -/
def ref31_Verify.l1 (p0 : Int) (p4 : List api_Slot) (m0_0 : Int) : Nat → Int → Option (Fl (Fl (Int) (Unit)) (Unit))
 | 0, _ => none
 | k71 + 1, m1_0 => if decide (m1_0 < p0) = true then ((idx p4 m0_0).bind fun x76 => (idx p4 m1_0).bind fun x78 => if ((((m0_0 != m1_0) && (x76.Worker == x78.Worker)) && (decide (x76.Start < x78.End))) && (decide (x78.Start < x76.End))) = true then (some (.out (.out 17))) else (ref31_Verify.l1 p0 p4 m0_0 k71 (wi (m1_0 + 1)))) else (some (.nxt ()))
def ref31_Verify.l0 (p0 : Int) (p4 : List api_Slot) : Nat → Int → Option (Fl (Int) (Unit))
 | 0, _ => none
 | k60 + 1, m0_0 => if decide (m0_0 < p0) = true then ((ref31_Verify.l1 p0 p4 m0_0 FUEL 0 : Option (Fl (Fl (Int) (Unit)) (Unit))).bind fun o67 => o67.go fun _ => ref31_Verify.l0 p0 p4 k60 (wi (m0_0 + 1))) else (some (.nxt ()))
def ref31_Verify.l4 (p0 : Int) (p1 : List api_Link) (p4 : List api_Slot) (m2_0 : Int) (m3_0 : Int) : Nat → Int → Option (Fl (Fl (Fl (Int) (Unit)) (Unit)) (Unit))
 | 0, _ => none
 | k265 + 1, m4_0 => if decide (m4_0 < p0) = true then ((idx p4 m3_0).bind fun x273 => (idx p1 m2_0).bind fun x280 => (if (x273.Device == x280.Consumer) = true then (idx p4 m4_0).bind fun x290 => some (x290.Device == x280.Supplier) else some false).bind fun t301 => (if t301 = true then (idx p4 m4_0).bind fun x341 => some (decide (x273.Start < x341.End)) else some false).bind fun t347 => if t347 = true then (some (.out (.out (.out 9)))) else (ref31_Verify.l4 p0 p1 p4 m2_0 m3_0 k265 (wi (m4_0 + 1)))) else (some (.nxt ()))
def ref31_Verify.l3 (p0 : Int) (p1 : List api_Link) (p4 : List api_Slot) (m2_0 : Int) : Nat → Int → Option (Fl (Fl (Int) (Unit)) (Unit))
 | 0, _ => none
 | k254 + 1, m3_0 => if decide (m3_0 < p0) = true then ((ref31_Verify.l4 p0 p1 p4 m2_0 m3_0 FUEL 0 : Option (Fl (Fl (Fl (Int) (Unit)) (Unit)) (Unit))).bind fun o261 => o261.go fun _ => ref31_Verify.l3 p0 p1 p4 m2_0 k254 (wi (m3_0 + 1))) else (some (.nxt ()))
def ref31_Verify.l2 (p0 : Int) (p1 : List api_Link) (p4 : List api_Slot) : Nat → Int → Option (Fl (Int) (Unit))
 | 0, _ => none
 | k242 + 1, m2_0 => if decide (m2_0 < (p1.length : Int)) = true then ((ref31_Verify.l3 p0 p1 p4 m2_0 FUEL 0 : Option (Fl (Fl (Int) (Unit)) (Unit))).bind fun o250 => o250.go fun _ => ref31_Verify.l2 p0 p1 p4 k242 (wi (m2_0 + 1))) else (some (.nxt ()))
def ref31_Verify.f (p0 : Int) (p1 : List api_Link) (p2 : List Int) (p3 : Int) (p4 : List api_Slot) : Option (Int) := (ref31_input.f p0 p1 p2 p3).bind fun r6 => if (r6 != 0) = true then (some r6) else ((if (p3 == 0) = true then some true else (ref31_shaped.f p0 p2 p3 p4).bind fun r24 => some (!r24)).bind fun t29 => if t29 = true then (some 1) else ((ref31_Verify.l0 p0 p4 FUEL 0 : Option (Fl (Int) (Unit))).bind fun o56 => o56.go fun _ => (ref31_Verify.l2 p0 p1 p4 FUEL 0 : Option (Fl (Int) (Unit))).bind fun o238 => o238.go fun _ => some 0))
set_option maxRecDepth 100000 in
set_option maxHeartbeats 4000000 in
theorem ref31_Verify.calls {p0 : Int} {p1 : List api_Link} {A1 : Option Addr} {cap1 : Nat} {C1 : Nat → Prop} {p2 : List Int} {A2 : Option Addr} {cap2 : Nat} {C2 : Nat → Prop} {p3 : Int} {p4 : List api_Slot} {A4 : Option Addr} {cap4 : Nat} {C4 : Nat → Prop} {w : World} {g : Nat → Nat} {out : Int} (N : Nat) (hp1 : RdS kd_api_Link w g C1 A1 cap1 p1) (hC1 : ∀ c, C1 c → c < N) (hp2 : RdS (kint .u64) w g C2 A2 cap2 p2) (hC2 : ∀ c, C2 c → c < N) (hp4 : RdS kd_api_Slot w g C4 A4 cap4 p4) (hC4 : ∀ c, C4 c → c < N) (H : ref31_Verify.f p0 p1 p2 p3 p4 = some out) :
  Calls Try.prog 27 #[.int .i64 p0, .slice A1 p1.length cap1, .slice A2 p2.length cap2, .int .i64 p3, .slice A4 p4.length cap4] w (fun e w' => ∃ v, e = .returned v ∧ ∃ (g' : Nat → Nat), v = .int .i64 out ∧ Fr (fun q => N ≤ q) w g w' g') := by
 unfold ref31_Verify.f at H
 refine calls_enter Try.func27 rfl Try.ntmps27 rfl (fun a hS => ?_)
 replace hS : Sl 132 a [(0, .int .i64 p0), (1, .slice A1 p1.length cap1), (2, .slice A2 p2.length cap2), (3, .int .i64 p3), (4, .slice A4 p4.length cap4)] := hS
 have hF : Fr (fun q => N ≤ q) w g w g := Fr.refl _ _ _
 refine c_pure [(0, .int .i64 p0), (1, .slice A1 p1.length cap1), (2, .slice A2 p2.length cap2), (3, .int .i64 p3), (4, .slice A4 p4.length cap4)] (fun R hR => st_val hS rfl rfl rfl (r_assign hS rfl rfl) fun a1 hS1 => wpList_nil (hR _ (hS1.re ⟨rfl, rfl, rfl, rfl, rfl, trivial⟩))) ?_
 clear hS
 clear a
 intro a hS
 refine wp_seq ?_
 obtain ⟨r6, hr7, H⟩ := bind_el H
 refine c_region (fun K hK => ?_)
 refine st_val hS rfl rfl rfl (r_move hS rfl rfl) fun a2 hS2 => st_val hS2 rfl rfl rfl (r_move hS2 rfl rfl) fun a3 hS3 => st_val hS3 rfl rfl rfl (r_move hS3 rfl rfl) fun a4 hS4 => st_val hS4 rfl rfl rfl (r_move hS4 rfl rfl) fun a5 hS5 => ?_
 refine st_enter hS5 rfl rfl rfl (r_call hS5 rfl rfl (by kernel_rfl)) (ref31_input.calls (C1 := C1) (C2 := C2) (p0 := p0) (p1 := p1) (p2 := p2) (p3 := p3) (g := g) (N + 4)  hp1 (fun q (hq : C1 q) => by have := hC1 q hq; omega) hp2 (fun q (hq : C2 q) => by have := hC2 q hq; omega) hr7) ?_
 rintro _ a8 w9 ⟨g9, rfl, F9⟩ hS8
 replace hp1 := RdS.fr hp1 F9 (by decide) (fun q (hq : C1 q) (hm : N + 4 ≤ q) => by have := hC1 q hq; omega)
 replace hp2 := RdS.fr hp2 F9 (by decide) (fun q (hq : C2 q) (hm : N + 4 ≤ q) => by have := hC2 q hq; omega)
 replace hp4 := RdS.fr hp4 F9 (by decide) (fun q (hq : C4 q) (hm : N + 4 ≤ q) => by have := hC4 q hq; omega)
 replace hF := hF.trans F9 (fun c' (hm : N + 4 ≤ c') => by show N ≤ c'; omega)
 refine st_val hS8 rfl rfl rfl (r_assign hS8 rfl rfl) fun a10 hS10 => wpList_nil (hK _ _ ?_)
 replace hS : Sl 132 _ [(0, .int .i64 p0), (1, .slice A1 p1.length cap1), (2, .slice A2 p2.length cap2), (3, .int .i64 p3), (4, .slice A4 p4.length cap4), (11, .int .i64 r6)] := hS10.re ⟨rfl, rfl, rfl, rfl, rfl, rfl, trivial⟩
 clear hK K
 try clear hS2 hS3 hS4 hS5 hS8 hS10
 obtain ⟨a, ha⟩ : ∃ a', a' = a10 := ⟨_, rfl⟩
 rw [← ha] at hS ⊢; clear ha
 refine c_pure [(0, .int .i64 p0), (1, .slice A1 p1.length cap1), (2, .slice A2 p2.length cap2), (3, .int .i64 p3), (4, .slice A4 p4.length cap4), (11, .int .i64 r6), (25, .bool (r6 != 0))] (fun R hR => st_val hS rfl rfl rfl (r_move hS rfl rfl) fun a11 hS11 => st_val hS11 rfl rfl rfl (r_bin hS11 rfl rfl rfl b_neq) fun a12 hS12 => wpList_nil (hR _ (hS12.re ⟨rfl, rfl, rfl, rfl, rfl, rfl, rfl, trivial⟩))) ?_
 clear hS
 clear a
 intro a hS
 refine c_cond hS rfl (fun hb13 => ?_) (fun hb13 => ?_)
 ·replace H := ite_t hb13 H
  refine c_pure [(10, .int .i64 r6)] (fun R hR => st_val hS rfl rfl rfl (r_move hS rfl rfl) fun a14 hS14 => st_val hS14 rfl rfl rfl (r_assign hS14 rfl rfl) fun a15 hS15 => wpList_nil (hR _ (hS15.re ⟨rfl, trivial⟩))) ?_
  clear hS
  clear a
  intro a hS
  refine wp_ret ?_
  have e := Option.some.inj H
  subst e
  repeat (with_reducible first | refine then_ret ?_ | refine inBlock_ret ?_)
  exact c_ret1 hS Try.results27 rfl ⟨_, rfl, g9, rfl, hF⟩
 ·replace H := ite_f hb13 H
  refine wp_skip ?_
  change Code.wp _ _ _ _ _
  refine wp_seq ?_
  obtain ⟨t29, ht30, H⟩ := bind_el H
  refine c_region (fun K hK => ?_)
  refine st_val hS rfl rfl rfl (r_move hS rfl rfl) fun a16 hS16 => st_val hS16 rfl rfl rfl (r_bin hS16 rfl rfl rfl b_eql) fun a17 hS17 => st_val hS17 rfl rfl rfl (r_move hS17 rfl rfl) fun a18 hS18 => ?_
  refine g_joinR 7 (fun a w31 => ∃ (g31 : Nat → Nat), Sl 132 a [(0, .int .i64 p0), (1, .slice A1 p1.length cap1), (4, .slice A4 p4.length cap4), (36, .bool t29)] ∧ RdS kd_api_Link w31 g31 C1 A1 cap1 p1 ∧ RdS kd_api_Slot w31 g31 C4 A4 cap4 p4 ∧ Fr (fun q => N ≤ q) w g w31 g31) ?_ (fun hk => ?_)
  rotate_left
  ·rcases Bool.eq_false_or_eq_true ((p3 == 0)) with hb19 | hb19
   ·have H := ite_t hb19 ht30
    have e32 := Option.some.inj H
    refine st_off hS18 (want_off hS18 rfl rfl rfl hb19) rfl rfl fun a33 hS33 => st_off hS33 (want_off hS33 rfl rfl rfl hb19) rfl rfl fun a34 hS34 => st_off hS34 (want_off hS34 rfl rfl rfl hb19) rfl rfl fun a35 hS35 => st_off hS35 (want_off hS35 rfl rfl rfl hb19) rfl rfl fun a36 hS36 => st_off hS36 (want_off hS36 rfl rfl rfl hb19) rfl rfl fun a37 hS37 => st_off hS37 (want_off hS37 rfl rfl rfl hb19) rfl rfl fun a38 hS38 => st_val hS38 rfl rfl rfl (r_pickT hS38 rfl rfl rfl hb19) fun a39 hS39 => hk _ _ ?_
    exact ⟨g9, hS39.re ⟨rfl, rfl, rfl, (by rw [← e32]; rfl), trivial⟩, hp1, hp4, hF⟩
   ·have H := ite_f hb19 ht30
    obtain ⟨r44, hr45, H⟩ := bind_el H
    have e49 := Option.some.inj H
    refine st_valW hS18 (want_on hS18 rfl rfl rfl hb19) rfl rfl (r_move hS18 rfl rfl) fun a40 hS40 => st_valW hS40 (want_on hS40 rfl rfl rfl hb19) rfl rfl (r_move hS40 rfl rfl) fun a41 hS41 => st_valW hS41 (want_on hS41 rfl rfl rfl hb19) rfl rfl (r_move hS41 rfl rfl) fun a42 hS42 => st_valW hS42 (want_on hS42 rfl rfl rfl hb19) rfl rfl (r_move hS42 rfl rfl) fun a43 hS43 => ?_
    refine st_enterW hS43 (want_on hS43 rfl rfl rfl hb19) rfl rfl (r_call hS43 rfl rfl (by kernel_rfl)) (ref31_shaped.calls (C1 := C2) (C3 := C4) (p0 := p0) (p1 := p2) (p2 := p3) (p3 := p4) (g := g9) (N + 4)  hp2 (fun q (hq : C2 q) => by have := hC2 q hq; omega) hp4 (fun q (hq : C4 q) => by have := hC4 q hq; omega) hr45) ?_
    rintro _ a46 w47 ⟨g47, rfl, F47⟩ hS46
    replace hp1 := RdS.fr hp1 F47 (by decide) (fun q (hq : C1 q) (hm : N + 4 ≤ q) => by have := hC1 q hq; omega)
    replace hp2 := RdS.fr hp2 F47 (by decide) (fun q (hq : C2 q) (hm : N + 4 ≤ q) => by have := hC2 q hq; omega)
    replace hp4 := RdS.fr hp4 F47 (by decide) (fun q (hq : C4 q) (hm : N + 4 ≤ q) => by have := hC4 q hq; omega)
    replace hF := hF.trans F47 (fun c' (hm : N + 4 ≤ c') => by show N ≤ c'; omega)
    refine st_valW hS46 (want_on hS46 rfl rfl rfl hb19) rfl rfl (r_not hS46 rfl rfl) fun a48 hS48 => ?_
    refine st_val hS48 rfl rfl rfl (r_pickF hS48 rfl rfl rfl hb19) fun a50 hS50 => hk _ _ ?_
    exact ⟨g47, hS50.re ⟨rfl, rfl, rfl, (by rw [← e49]; rfl), trivial⟩, hp1, hp4, hF⟩
  rintro a51 w31 ⟨g31, hS51, hp1, hp4, hF⟩
  refine wpList_nil (hK _ _ ?_)
  replace hS : Sl 132 _ [(0, .int .i64 p0), (1, .slice A1 p1.length cap1), (4, .slice A4 p4.length cap4), (36, .bool t29)] := hS51.re ⟨rfl, rfl, rfl, rfl, trivial⟩
  clear hK K
  try clear hS16 hS17 hS18 hS51
  obtain ⟨a, ha⟩ : ∃ a', a' = a51 := ⟨_, rfl⟩
  rw [← ha] at hS ⊢; clear ha
  refine c_cond hS rfl (fun hb52 => ?_) (fun hb52 => ?_)
  ·replace H := ite_t hb52 H
   refine c_pure [(10, .int .i64 1)] (fun R hR => st_val hS rfl rfl rfl (r_assign hS rfl rfl) fun a53 hS53 => wpList_nil (hR _ (hS53.re ⟨rfl, trivial⟩))) ?_
   clear hS
   clear a
   intro a hS
   refine wp_ret ?_
   have e := Option.some.inj H
   subst e
   repeat (with_reducible first | refine then_ret ?_ | refine inBlock_ret ?_)
   exact c_ret1 hS Try.results27 rfl ⟨_, rfl, g31, rfl, hF⟩
  ·replace H := ite_f hb52 H
   refine wp_skip ?_
   change Code.wp _ _ _ _ _
   obtain ⟨o56, H, Hl57⟩ := bind_el H
   refine c_cut (fun a w54 => ∃ (g54 : Nat → Nat), o56 = .nxt () ∧ Sl 132 a [(0, .int .i64 p0), (1, .slice A1 p1.length cap1), (4, .slice A4 p4.length cap4)] ∧ RdS kd_api_Link w54 g54 C1 A1 cap1 p1 ∧ RdS kd_api_Slot w54 g54 C4 A4 cap4 p4 ∧ Fr (fun q => N ≤ q) w g w54 g54) ?_ ?_
   ·refine c_pure [(0, .int .i64 p0), (1, .slice A1 p1.length cap1), (4, .slice A4 p4.length cap4), (12, .int .i64 0)] (fun R hR => st_val hS rfl rfl rfl (r_assign hS rfl rfl) fun a58 hS58 => wpList_nil (hR _ (hS58.re ⟨rfl, rfl, rfl, rfl, trivial⟩))) ?_
    clear hS
    clear a
    intro a hS
    refine wp_block ?_
    refine wp_loop_ghost (fun kq => fun a w59 => ∃ (m0_0 : Int), ∃ (g59 : Nat → Nat), ref31_Verify.l0 p0 p4 kq m0_0 = some o56 ∧ Sl 132 a [(0, .int .i64 p0), (1, .slice A1 p1.length cap1), (4, .slice A4 p4.length cap4), (12, .int .i64 m0_0)] ∧ RdS kd_api_Link w59 g59 C1 A1 cap1 p1 ∧ RdS kd_api_Slot w59 g59 C4 A4 cap4 p4 ∧ Fr (fun q => N ≤ q) w g w59 g59) FUEL ?_ ?_
    ·exact ⟨0, g31, H, hS.re ⟨rfl, rfl, rfl, rfl, trivial⟩, hp1, hp4, hF⟩
    ·clear H
     clear hp1 hp4 hF
     clear hS
     rintro k60 a w59 ⟨m0_0, g59, hpre0, hS, hp1, hp4, hF⟩
     have H := hpre0
     clear hpre0
     cases k60 with
     | zero => exact absurd H (by simp [ref31_Verify.l0])
     | succ k60 =>
      rw [ref31_Verify.l0] at H
      refine wp_seq ?_
      refine c_pure [(0, .int .i64 p0), (1, .slice A1 p1.length cap1), (4, .slice A4 p4.length cap4), (12, .int .i64 m0_0), (39, .bool (decide (m0_0 < p0)))] (fun R hR => st_val hS rfl rfl rfl (r_move hS rfl rfl) fun a61 hS61 => st_val hS61 rfl rfl rfl (r_move hS61 rfl rfl) fun a62 hS62 => st_val hS62 rfl rfl rfl (r_bin hS62 rfl rfl rfl b_lss) fun a63 hS63 => wpList_nil (hR _ (hS63.re ⟨rfl, rfl, rfl, rfl, rfl, trivial⟩))) ?_
      clear hS
      clear a
      intro a hS
      refine c_cond hS rfl (fun hb64 => ?_) (fun hb64 => ?_)
      ·replace H := ite_t hb64 H
       refine wp_skip ?_
       change Code.wp _ _ _ _ _
       obtain ⟨o67, H, Hl68⟩ := bind_el H
       refine c_cut (fun a w65 => ∃ (g65 : Nat → Nat), o67 = .nxt () ∧ Sl 132 a [(0, .int .i64 p0), (1, .slice A1 p1.length cap1), (4, .slice A4 p4.length cap4), (12, .int .i64 m0_0)] ∧ RdS kd_api_Link w65 g65 C1 A1 cap1 p1 ∧ RdS kd_api_Slot w65 g65 C4 A4 cap4 p4 ∧ Fr (fun q => N ≤ q) w g w65 g65) ?_ ?_
       ·refine wp_block ?_
        refine c_pure [(0, .int .i64 p0), (1, .slice A1 p1.length cap1), (4, .slice A4 p4.length cap4), (12, .int .i64 m0_0), (13, .int .i64 0)] (fun R hR => st_val hS rfl rfl rfl (r_assign hS rfl rfl) fun a69 hS69 => wpList_nil (hR _ (hS69.re ⟨rfl, rfl, rfl, rfl, rfl, trivial⟩))) ?_
        clear hS
        clear a
        intro a hS
        refine wp_block ?_
        refine wp_loop_ghost (fun kq => fun a w70 => ∃ (m1_0 : Int), ∃ (g70 : Nat → Nat), ref31_Verify.l1 p0 p4 m0_0 kq m1_0 = some o67 ∧ Sl 132 a [(0, .int .i64 p0), (1, .slice A1 p1.length cap1), (4, .slice A4 p4.length cap4), (12, .int .i64 m0_0), (13, .int .i64 m1_0)] ∧ RdS kd_api_Link w70 g70 C1 A1 cap1 p1 ∧ RdS kd_api_Slot w70 g70 C4 A4 cap4 p4 ∧ Fr (fun q => N ≤ q) w g w70 g70) FUEL ?_ ?_
        ·exact ⟨0, g59, H, hS.re ⟨rfl, rfl, rfl, rfl, rfl, trivial⟩, hp1, hp4, hF⟩
        ·clear H
         clear hp1 hp4 hF
         clear hS
         rintro k71 a w70 ⟨m1_0, g70, hpre0, hS, hp1, hp4, hF⟩
         have H := hpre0
         clear hpre0
         cases k71 with
         | zero => exact absurd H (by simp [ref31_Verify.l1])
         | succ k71 =>
          rw [ref31_Verify.l1] at H
          refine wp_seq ?_
          refine c_pure [(0, .int .i64 p0), (1, .slice A1 p1.length cap1), (4, .slice A4 p4.length cap4), (12, .int .i64 m0_0), (13, .int .i64 m1_0), (44, .bool (decide (m1_0 < p0)))] (fun R hR => st_val hS rfl rfl rfl (r_move hS rfl rfl) fun a72 hS72 => st_val hS72 rfl rfl rfl (r_move hS72 rfl rfl) fun a73 hS73 => st_val hS73 rfl rfl rfl (r_bin hS73 rfl rfl rfl b_lss) fun a74 hS74 => wpList_nil (hR _ (hS74.re ⟨rfl, rfl, rfl, rfl, rfl, rfl, trivial⟩))) ?_
          clear hS
          clear a
          intro a hS
          refine c_cond hS rfl (fun hb75 => ?_) (fun hb75 => ?_)
          ·replace H := ite_t hb75 H
           refine wp_skip ?_
           change Code.wp _ _ _ _ _
           refine wp_seq ?_
           refine wp_block ?_
           obtain ⟨x76, hx77, H⟩ := bind_el H
           obtain ⟨x78, hx79, H⟩ := bind_el H
           refine c_cut (fun a w123 => ∃ (g123 : Nat → Nat), ∃ (b124 : Nat), ∃ (b126 : Nat), Sl 132 a [(0, .int .i64 p0), (1, .slice A1 p1.length cap1), (4, .slice A4 p4.length cap4), (12, .int .i64 m0_0), (13, .int .i64 m1_0), (14, .pointer (some ⟨b124, 0, none⟩)), (15, .pointer (some ⟨b126, 0, none⟩))] ∧ Bx w123 g123 (N + 0) b124 38 [.int .i64 x76.Device, .int .i64 x76.Worker, .int .u64 x76.Start, .int .u64 x76.End] ∧ Bx w123 g123 (N + 2) b126 38 [.int .i64 x78.Device, .int .i64 x78.Worker, .int .u64 x78.Start, .int .u64 x78.End] ∧ RdS kd_api_Link w123 g123 C1 A1 cap1 p1 ∧ RdS kd_api_Slot w123 g123 C4 A4 cap4 p4 ∧ Fr (fun q => N ≤ q) w g w123 g123) (d_start (fun q => q = N + 0) g70 [11] 12 #[false, false, false, false, false, false, false, false, false, false, false, false] (by kernel_rfl) rfl rfl (fun w128 hw128 => ?_)) ?_
           ·have F128 : Fr (fun _ => False) w70 g70 w128 g70 := by rw [hw128]; exact Fr.drew _ _ _
            replace hp1 := RdS.fr hp1 F128 (by decide) (fun _ _ h => h)
            replace hp4 := RdS.fr hp4 F128 (by decide) (fun _ _ h => h)
            replace hF := hF.trans F128 (fun _ h => h.elim)
            have hC : Fr (fun q => q = N + 0) w128 g70 w128 g70 := Fr.refl _ _ _
            refine d_pure hS 0 #[true, false, false, false, false, false, false, false, false, false, false, false] rfl rfl rfl rfl (by kernel_rfl) (fun _ _ _ h => h) (fun _ => (r_move hS rfl rfl)) fun a129 hS129 => d_pure hS129 1 #[true, true, false, false, false, false, false, false, false, false, false, false] rfl rfl rfl rfl (by kernel_rfl) (fun _ _ _ h => h) (fun _ => (r_move hS129 rfl rfl)) fun a130 hS130 => d_pure hS130 2 #[true, true, true, false, false, false, false, false, false, false, false, false] rfl rfl rfl rfl (by kernel_rfl) (fun _ _ _ h => h) (fun _ => (r_index (e := 38) (sz := 4) (by_ := 32) hS130 rfl rfl rfl (by kernel_rfl) (RdS.some_ hp4 hx77) (idx_lo hx77) (idx_hi hx77))) fun a131 hS131 => d_take hS131 3 #[true, true, true, true, false, false, false, false, false, false, false, false] rfl rfl rfl rfl (by kernel_rfl) (fun _ _ _ h => h) ⟨_, hC⟩ (fun w' g' Fz => (r_loadN (n := 4) (cs := [.int .i64 x76.Device, .int .i64 x76.Worker, .int .u64 x76.Start, .int .u64 x76.End]) hS131 rfl rfl (by kernel_rfl) rfl (RdS.cells_off (RdS.fr hp4 Fz (by decide) (fun q (hq : C4 q) (hm : q = N + 0) => by have := hC4 q hq; omega)) hx77 0 4))) fun a132 hS132 => d_pure hS132 4 #[true, true, true, true, true, false, false, false, false, false, false, false] rfl rfl rfl rfl (by kernel_rfl) (fun _ _ _ h => h) (fun _ => (r_move hS132 rfl rfl)) fun a133 hS133 => d_pure hS133 5 #[true, true, true, true, true, true, false, false, false, false, false, false] rfl rfl rfl rfl (by kernel_rfl) (fun _ _ _ h => h) (fun _ => (r_move hS133 rfl rfl)) fun a134 hS134 => d_pure hS134 6 #[true, true, true, true, true, true, true, false, false, false, false, false] rfl rfl rfl rfl (by kernel_rfl) (fun _ _ _ h => h) (fun _ => (r_index (e := 38) (sz := 4) (by_ := 32) hS134 rfl rfl rfl (by kernel_rfl) (RdS.some_ hp4 hx79) (idx_lo hx79) (idx_hi hx79))) fun a135 hS135 => d_take hS135 7 #[true, true, true, true, true, true, true, true, false, false, false, false] rfl rfl rfl rfl (by kernel_rfl) (fun _ _ _ h => h) ⟨_, hC⟩ (fun w' g' Fz => (r_loadN (n := 4) (cs := [.int .i64 x78.Device, .int .i64 x78.Worker, .int .u64 x78.Start, .int .u64 x78.End]) hS135 rfl rfl (by kernel_rfl) rfl (RdS.cells_off (RdS.fr hp4 Fz (by decide) (fun q (hq : C4 q) (hm : q = N + 0) => by have := hC4 q hq; omega)) hx79 0 4))) fun a136 hS136 => ?_
            refine d_two 8 9 #[true, true, true, true, true, true, true, true, true, false, false, false] #[true, true, true, true, true, true, true, true, false, true, false, false] rfl rfl (by kernel_rfl) (arm_eff hS136 rfl rfl rfl (e_alloc (cs := [.int .i64 0, .int .i64 0, .int .u64 0, .int .u64 0]) (N + 0) g70 hS136 rfl (by kernel_rfl)) (fun _ _ g' hR _ => ⟨g', hC.trans hR.2 (fun _ h => h.elim)⟩) ?_) (arm_eff hS136 rfl rfl rfl (e_alloc (cs := [.int .i64 0, .int .i64 0, .int .u64 0, .int .u64 0]) (N + 2) g70 hS136 rfl (by kernel_rfl)) (fun _ _ g' hR _ => ⟨g', hC.trans hR.2 (fun _ h => h.elim)⟩) ?_)
            ·rintro _ a140 w141 g141 ⟨⟨b137, rfl, h138⟩, F141⟩ hS140
             have hC141 := hC.trans F141 (fun _ h => h.elim)
             replace hp1 := RdS.fr hp1 F141 (by decide) (fun _ _ h => h)
             replace hp4 := RdS.fr hp4 F141 (by decide) (fun _ _ h => h)
             replace hF := hF.trans F141 (fun _ h => h.elim)
             refine d_one 9 #[true, true, true, true, true, true, true, true, true, true, false, false] rfl (by kernel_rfl) (arm_eff hS140 rfl rfl rfl (e_alloc (cs := [.int .i64 0, .int .i64 0, .int .u64 0, .int .u64 0]) (N + 2) g141 hS140 rfl (by kernel_rfl)) (fun _ _ g' hR _ => ⟨g', hC141.trans hR.2 (fun _ h => h.elim)⟩) ?_)
             rintro _ a145 w146 g146 ⟨⟨b142, rfl, h143⟩, F146⟩ hS145
             have hC146 := hC141.trans F146 (fun _ h => h.elim)
             replace h138 := h138.fr F146 (fun h => h)
             replace hp1 := RdS.fr hp1 F146 (by decide) (fun _ _ h => h)
             replace hp4 := RdS.fr hp4 F146 (by decide) (fun _ _ h => h)
             replace hF := hF.trans F146 (fun _ h => h.elim)
             refine d_one 10 #[true, true, true, true, true, true, true, true, true, true, true, false] rfl (by kernel_rfl) (arm_effS hS145 rfl rfl (e_storeB (n := 4) (bb := true) (cs' := [.int .i64 x76.Device, .int .i64 x76.Worker, .int .u64 x76.Start, .int .u64 x76.End]) g146 hS145 rfl rfl rfl (by kernel_rfl) rfl rfl rfl h138 rfl rfl) (.inr (fun _ g' hR _ => ⟨g', hC146.trans hR.2 (fun c' (hm : c' = N + 0) => by show c' = N + 0; omega)⟩)) ?_)
             rintro a147 w148 g148 ⟨h138, F148⟩ hS147
             have hC148 := hC146.trans F148 (fun c' (hm : c' = N + 0) => by show c' = N + 0; omega)
             replace h143 := h143.fr F148 (fun (hm : N + 2 = N + 0) => by omega)
             replace hp1 := RdS.fr hp1 F148 (by decide) (fun q (hq : C1 q) (hm : q = N + 0) => by have := hC1 q hq; omega)
             replace hp4 := RdS.fr hp4 F148 (by decide) (fun q (hq : C4 q) (hm : q = N + 0) => by have := hC4 q hq; omega)
             replace hF := hF.trans F148 (fun c' (hm : c' = N + 0) => by show N ≤ c'; omega)
             refine d_one 11 #[true, true, true, true, true, true, true, true, true, true, true, true] rfl (by kernel_rfl) (arm_effS hS147 rfl rfl (e_storeB (n := 4) (bb := true) (cs' := [.int .i64 x78.Device, .int .i64 x78.Worker, .int .u64 x78.Start, .int .u64 x78.End]) g148 hS147 rfl rfl rfl (by kernel_rfl) rfl rfl rfl h143 rfl rfl) (.inl (by decide)) ?_)
             rintro a149 w150 g150 ⟨h143, F150⟩ hS149
             replace h138 := h138.fr F150 (fun (hm : N + 0 = N + 2) => by omega)
             replace hp1 := RdS.fr hp1 F150 (by decide) (fun q (hq : C1 q) (hm : q = N + 2) => by have := hC1 q hq; omega)
             replace hp4 := RdS.fr hp4 F150 (by decide) (fun q (hq : C4 q) (hm : q = N + 2) => by have := hC4 q hq; omega)
             replace hF := hF.trans F150 (fun c' (hm : c' = N + 2) => by show N ≤ c'; omega)
             refine d_done (by kernel_rfl) ?_
             exact ⟨g150, b137, b142, hS149.re ⟨rfl, rfl, rfl, rfl, rfl, rfl, rfl, trivial⟩, h138, h143, hp1, hp4, hF⟩
            ·rintro _ a154 w155 g155 ⟨⟨b151, rfl, h152⟩, F155⟩ hS154
             have hC155 := hC.trans F155 (fun _ h => h.elim)
             replace hp1 := RdS.fr hp1 F155 (by decide) (fun _ _ h => h)
             replace hp4 := RdS.fr hp4 F155 (by decide) (fun _ _ h => h)
             replace hF := hF.trans F155 (fun _ h => h.elim)
             refine d_one 8 #[true, true, true, true, true, true, true, true, true, true, false, false] rfl (by kernel_rfl) (arm_eff hS154 rfl rfl rfl (e_alloc (cs := [.int .i64 0, .int .i64 0, .int .u64 0, .int .u64 0]) (N + 0) g155 hS154 rfl (by kernel_rfl)) (fun _ _ g' hR _ => ⟨g', hC155.trans hR.2 (fun _ h => h.elim)⟩) ?_)
             rintro _ a159 w160 g160 ⟨⟨b156, rfl, h157⟩, F160⟩ hS159
             have hC160 := hC155.trans F160 (fun _ h => h.elim)
             replace h152 := h152.fr F160 (fun h => h)
             replace hp1 := RdS.fr hp1 F160 (by decide) (fun _ _ h => h)
             replace hp4 := RdS.fr hp4 F160 (by decide) (fun _ _ h => h)
             replace hF := hF.trans F160 (fun _ h => h.elim)
             refine d_one 10 #[true, true, true, true, true, true, true, true, true, true, true, false] rfl (by kernel_rfl) (arm_effS hS159 rfl rfl (e_storeB (n := 4) (bb := true) (cs' := [.int .i64 x76.Device, .int .i64 x76.Worker, .int .u64 x76.Start, .int .u64 x76.End]) g160 hS159 rfl rfl rfl (by kernel_rfl) rfl rfl rfl h157 rfl rfl) (.inr (fun _ g' hR _ => ⟨g', hC160.trans hR.2 (fun c' (hm : c' = N + 0) => by show c' = N + 0; omega)⟩)) ?_)
             rintro a161 w162 g162 ⟨h157, F162⟩ hS161
             have hC162 := hC160.trans F162 (fun c' (hm : c' = N + 0) => by show c' = N + 0; omega)
             replace h152 := h152.fr F162 (fun (hm : N + 2 = N + 0) => by omega)
             replace hp1 := RdS.fr hp1 F162 (by decide) (fun q (hq : C1 q) (hm : q = N + 0) => by have := hC1 q hq; omega)
             replace hp4 := RdS.fr hp4 F162 (by decide) (fun q (hq : C4 q) (hm : q = N + 0) => by have := hC4 q hq; omega)
             replace hF := hF.trans F162 (fun c' (hm : c' = N + 0) => by show N ≤ c'; omega)
             refine d_one 11 #[true, true, true, true, true, true, true, true, true, true, true, true] rfl (by kernel_rfl) (arm_effS hS161 rfl rfl (e_storeB (n := 4) (bb := true) (cs' := [.int .i64 x78.Device, .int .i64 x78.Worker, .int .u64 x78.Start, .int .u64 x78.End]) g162 hS161 rfl rfl rfl (by kernel_rfl) rfl rfl rfl h152 rfl rfl) (.inl (by decide)) ?_)
             rintro a163 w164 g164 ⟨h152, F164⟩ hS163
             replace h157 := h157.fr F164 (fun (hm : N + 0 = N + 2) => by omega)
             replace hp1 := RdS.fr hp1 F164 (by decide) (fun q (hq : C1 q) (hm : q = N + 2) => by have := hC1 q hq; omega)
             replace hp4 := RdS.fr hp4 F164 (by decide) (fun q (hq : C4 q) (hm : q = N + 2) => by have := hC4 q hq; omega)
             replace hF := hF.trans F164 (fun c' (hm : c' = N + 2) => by show N ≤ c'; omega)
             refine d_done (by kernel_rfl) ?_
             exact ⟨g164, b156, b151, hS163.re ⟨rfl, rfl, rfl, rfl, rfl, rfl, rfl, trivial⟩, h157, h152, hp1, hp4, hF⟩
           clear hp1 hp4 hF
           clear hS
           rintro a w123 ⟨g123, b124, b126, hS, h125, h127, hp1, hp4, hF⟩
           refine c_region (fun K hK => ?_)
           refine st_val hS rfl rfl rfl (r_move hS rfl rfl) fun a165 hS165 => st_val hS165 rfl rfl rfl (r_move hS165 rfl rfl) fun a166 hS166 => st_val hS166 rfl rfl rfl (r_bin hS166 rfl rfl rfl b_neq) fun a167 hS167 => st_val hS167 rfl rfl rfl (r_move hS167 rfl rfl) fun a168 hS168 => ?_
           refine g_join (N := 132) 6 [(0, .int .i64 p0), (1, .slice A1 p1.length cap1), (4, .slice A4 p4.length cap4), (12, .int .i64 m0_0), (13, .int .i64 m1_0), (14, .pointer (some ⟨b124, 0, none⟩)), (15, .pointer (some ⟨b126, 0, none⟩)), (64, .bool ((m0_0 != m1_0) && (x76.Worker == x78.Worker)))] ?_ (fun hk => ?_)
           rotate_left
           ·rcases Bool.eq_false_or_eq_true ((m0_0 != m1_0)) with hb169 | hb169
            ·refine st_valW hS168 (want_on hS168 rfl rfl rfl hb169) rfl rfl (r_fieldB (off := 1) hS168 rfl rfl (by kernel_rfl)) fun a175 hS175 => st_valW hS175 (want_on hS175 rfl rfl rfl hb169) rfl rfl (r_load1 (n := 1) hS175 rfl rfl (by kernel_rfl) (Bx.cell h125 rfl)) fun a176 hS176 => st_valW hS176 (want_on hS176 rfl rfl rfl hb169) rfl rfl (r_fieldB (off := 1) hS176 rfl rfl (by kernel_rfl)) fun a177 hS177 => st_valW hS177 (want_on hS177 rfl rfl rfl hb169) rfl rfl (r_load1 (n := 1) hS177 rfl rfl (by kernel_rfl) (Bx.cell h127 rfl)) fun a178 hS178 => st_valW hS178 (want_on hS178 rfl rfl rfl hb169) rfl rfl (r_bin hS178 rfl rfl rfl b_eql) fun a179 hS179 => st_val hS179 rfl rfl rfl (r_pickT hS179 rfl rfl rfl hb169) fun a180 hS180 => hk _ (hS180.re ⟨rfl, rfl, rfl, rfl, rfl, rfl, rfl, (by rw [hb169]; rfl), trivial⟩)
            ·refine st_off hS168 (want_off hS168 rfl rfl rfl hb169) rfl rfl fun a181 hS181 => st_off hS181 (want_off hS181 rfl rfl rfl hb169) rfl rfl fun a182 hS182 => st_off hS182 (want_off hS182 rfl rfl rfl hb169) rfl rfl fun a183 hS183 => st_off hS183 (want_off hS183 rfl rfl rfl hb169) rfl rfl fun a184 hS184 => st_off hS184 (want_off hS184 rfl rfl rfl hb169) rfl rfl fun a185 hS185 => st_val hS185 rfl rfl rfl (r_pickF hS185 rfl rfl rfl hb169) fun a186 hS186 => hk _ (hS186.re ⟨rfl, rfl, rfl, rfl, rfl, rfl, rfl, (by rw [hb169]; rfl), trivial⟩)
           intro a187 hS187
           refine st_val hS187 rfl rfl rfl (r_move hS187 rfl rfl) fun a188 hS188 => ?_
           refine g_join (N := 132) 6 [(0, .int .i64 p0), (1, .slice A1 p1.length cap1), (4, .slice A4 p4.length cap4), (12, .int .i64 m0_0), (13, .int .i64 m1_0), (14, .pointer (some ⟨b124, 0, none⟩)), (15, .pointer (some ⟨b126, 0, none⟩)), (71, .bool (((m0_0 != m1_0) && (x76.Worker == x78.Worker)) && (decide (x76.Start < x78.End))))] ?_ (fun hk => ?_)
           rotate_left
           ·rcases Bool.eq_false_or_eq_true (((m0_0 != m1_0) && (x76.Worker == x78.Worker))) with hb189 | hb189
            ·refine st_valW hS188 (want_on hS188 rfl rfl rfl hb189) rfl rfl (r_fieldB (off := 2) hS188 rfl rfl (by kernel_rfl)) fun a195 hS195 => st_valW hS195 (want_on hS195 rfl rfl rfl hb189) rfl rfl (r_load1 (n := 1) hS195 rfl rfl (by kernel_rfl) (Bx.cell h125 rfl)) fun a196 hS196 => st_valW hS196 (want_on hS196 rfl rfl rfl hb189) rfl rfl (r_fieldB (off := 3) hS196 rfl rfl (by kernel_rfl)) fun a197 hS197 => st_valW hS197 (want_on hS197 rfl rfl rfl hb189) rfl rfl (r_load1 (n := 1) hS197 rfl rfl (by kernel_rfl) (Bx.cell h127 rfl)) fun a198 hS198 => st_valW hS198 (want_on hS198 rfl rfl rfl hb189) rfl rfl (r_bin hS198 rfl rfl rfl b_lss) fun a199 hS199 => st_val hS199 rfl rfl rfl (r_pickT hS199 rfl rfl rfl hb189) fun a200 hS200 => hk _ (hS200.re ⟨rfl, rfl, rfl, rfl, rfl, rfl, rfl, (by rw [hb189]; rfl), trivial⟩)
            ·refine st_off hS188 (want_off hS188 rfl rfl rfl hb189) rfl rfl fun a201 hS201 => st_off hS201 (want_off hS201 rfl rfl rfl hb189) rfl rfl fun a202 hS202 => st_off hS202 (want_off hS202 rfl rfl rfl hb189) rfl rfl fun a203 hS203 => st_off hS203 (want_off hS203 rfl rfl rfl hb189) rfl rfl fun a204 hS204 => st_off hS204 (want_off hS204 rfl rfl rfl hb189) rfl rfl fun a205 hS205 => st_val hS205 rfl rfl rfl (r_pickF hS205 rfl rfl rfl hb189) fun a206 hS206 => hk _ (hS206.re ⟨rfl, rfl, rfl, rfl, rfl, rfl, rfl, (by rw [hb189]; rfl), trivial⟩)
           intro a207 hS207
           refine st_val hS207 rfl rfl rfl (r_move hS207 rfl rfl) fun a208 hS208 => ?_
           refine g_join (N := 132) 6 [(0, .int .i64 p0), (1, .slice A1 p1.length cap1), (4, .slice A4 p4.length cap4), (12, .int .i64 m0_0), (13, .int .i64 m1_0), (78, .bool ((((m0_0 != m1_0) && (x76.Worker == x78.Worker)) && (decide (x76.Start < x78.End))) && (decide (x78.Start < x76.End))))] ?_ (fun hk => ?_)
           rotate_left
           ·rcases Bool.eq_false_or_eq_true ((((m0_0 != m1_0) && (x76.Worker == x78.Worker)) && (decide (x76.Start < x78.End)))) with hb209 | hb209
            ·refine st_valW hS208 (want_on hS208 rfl rfl rfl hb209) rfl rfl (r_fieldB (off := 2) hS208 rfl rfl (by kernel_rfl)) fun a215 hS215 => st_valW hS215 (want_on hS215 rfl rfl rfl hb209) rfl rfl (r_load1 (n := 1) hS215 rfl rfl (by kernel_rfl) (Bx.cell h127 rfl)) fun a216 hS216 => st_valW hS216 (want_on hS216 rfl rfl rfl hb209) rfl rfl (r_fieldB (off := 3) hS216 rfl rfl (by kernel_rfl)) fun a217 hS217 => st_valW hS217 (want_on hS217 rfl rfl rfl hb209) rfl rfl (r_load1 (n := 1) hS217 rfl rfl (by kernel_rfl) (Bx.cell h125 rfl)) fun a218 hS218 => st_valW hS218 (want_on hS218 rfl rfl rfl hb209) rfl rfl (r_bin hS218 rfl rfl rfl b_lss) fun a219 hS219 => st_val hS219 rfl rfl rfl (r_pickT hS219 rfl rfl rfl hb209) fun a220 hS220 => hk _ (hS220.re ⟨rfl, rfl, rfl, rfl, rfl, (by rw [hb209]; rfl), trivial⟩)
            ·refine st_off hS208 (want_off hS208 rfl rfl rfl hb209) rfl rfl fun a221 hS221 => st_off hS221 (want_off hS221 rfl rfl rfl hb209) rfl rfl fun a222 hS222 => st_off hS222 (want_off hS222 rfl rfl rfl hb209) rfl rfl fun a223 hS223 => st_off hS223 (want_off hS223 rfl rfl rfl hb209) rfl rfl fun a224 hS224 => st_off hS224 (want_off hS224 rfl rfl rfl hb209) rfl rfl fun a225 hS225 => st_val hS225 rfl rfl rfl (r_pickF hS225 rfl rfl rfl hb209) fun a226 hS226 => hk _ (hS226.re ⟨rfl, rfl, rfl, rfl, rfl, (by rw [hb209]; rfl), trivial⟩)
           intro a227 hS227
           refine wpList_nil (hK _ _ ?_)
           replace hS : Sl 132 _ [(0, .int .i64 p0), (1, .slice A1 p1.length cap1), (4, .slice A4 p4.length cap4), (12, .int .i64 m0_0), (13, .int .i64 m1_0), (78, .bool ((((m0_0 != m1_0) && (x76.Worker == x78.Worker)) && (decide (x76.Start < x78.End))) && (decide (x78.Start < x76.End))))] := hS227.re ⟨rfl, rfl, rfl, rfl, rfl, rfl, trivial⟩
           clear hK K
           try clear hS165 hS166 hS167 hS168 hS187 hS188 hS207 hS208 hS227
           obtain ⟨a, ha⟩ : ∃ a', a' = a227 := ⟨_, rfl⟩
           rw [← ha] at hS ⊢; clear ha
           refine c_cond hS rfl (fun hb228 => ?_) (fun hb228 => ?_)
           ·replace H := ite_t hb228 H
            refine c_pure [(10, .int .i64 17)] (fun R hR => st_val hS rfl rfl rfl (r_assign hS rfl rfl) fun a229 hS229 => wpList_nil (hR _ (hS229.re ⟨rfl, trivial⟩))) ?_
            clear hS
            clear a
            intro a hS
            refine wp_ret ?_
            have e := Option.some.inj H
            subst e
            replace H := Fl.go_out Hl68
            have e := Option.some.inj H
            subst e
            replace H := Fl.go_out Hl57
            have e := Option.some.inj H
            subst e
            repeat (with_reducible first | refine then_ret ?_ | refine inBlock_ret ?_)
            exact c_ret1 hS Try.results27 rfl ⟨_, rfl, g123, rfl, hF⟩
           ·replace H := ite_f hb228 H
            refine wp_skip ?_
            change Code.wp _ _ _ _ _
            refine c_pure1 [(0, .int .i64 p0), (1, .slice A1 p1.length cap1), (4, .slice A4 p4.length cap4), (12, .int .i64 m0_0), (13, .int .i64 (wi (m1_0 + 1)))] (fun R hR => st_val hS rfl rfl rfl (r_move hS rfl rfl) fun a230 hS230 => st_val hS230 rfl rfl rfl (r_bin hS230 rfl rfl rfl b_add) fun a231 hS231 => st_val hS231 rfl rfl rfl (r_assign hS231 rfl rfl) fun a232 hS232 => wpList_nil (hR _ (hS232.re ⟨rfl, rfl, rfl, rfl, rfl, trivial⟩))) ?_
            clear hS
            clear a
            intro a hS
            refine ⟨k71, Nat.lt_succ_self _, ?_⟩
            exact ⟨wi (m1_0 + 1), g123, H, hS.re ⟨rfl, rfl, rfl, rfl, rfl, trivial⟩, hp1, hp4, hF⟩
          ·replace H := ite_f hb75 H
           refine wp_exit ?_
           have e := Option.some.inj H
           exact ⟨g70, e.symm, hS.re ⟨rfl, rfl, rfl, rfl, trivial⟩, hp1, hp4, hF⟩
       ·clear H
        clear hp1 hp4 hF
        clear hS
        rintro a w65 ⟨g65, hpre0, hS, hp1, hp4, hF⟩
        subst hpre0
        have H := Fl.go_nxt Hl68
        clear Hl68
        refine c_pure1 [(0, .int .i64 p0), (1, .slice A1 p1.length cap1), (4, .slice A4 p4.length cap4), (12, .int .i64 (wi (m0_0 + 1)))] (fun R hR => st_val hS rfl rfl rfl (r_move hS rfl rfl) fun a233 hS233 => st_val hS233 rfl rfl rfl (r_bin hS233 rfl rfl rfl b_add) fun a234 hS234 => st_val hS234 rfl rfl rfl (r_assign hS234 rfl rfl) fun a235 hS235 => wpList_nil (hR _ (hS235.re ⟨rfl, rfl, rfl, rfl, trivial⟩))) ?_
        clear hS
        clear a
        intro a hS
        refine ⟨k60, Nat.lt_succ_self _, ?_⟩
        exact ⟨wi (m0_0 + 1), g65, H, hS.re ⟨rfl, rfl, rfl, rfl, trivial⟩, hp1, hp4, hF⟩
      ·replace H := ite_f hb64 H
       refine wp_exit ?_
       have e := Option.some.inj H
       exact ⟨g59, e.symm, hS.re ⟨rfl, rfl, rfl, trivial⟩, hp1, hp4, hF⟩
   ·clear H
    clear hp1 hp4 hF
    clear hS
    rintro a w54 ⟨g54, hpre0, hS, hp1, hp4, hF⟩
    subst hpre0
    have H := Fl.go_nxt Hl57
    clear Hl57
    obtain ⟨o238, H, Hl239⟩ := bind_el H
    refine c_cut (fun a w236 => ∃ (g236 : Nat → Nat), o238 = .nxt () ∧ Sl 132 a [] ∧ Fr (fun q => N ≤ q) w g w236 g236) ?_ ?_
    ·refine c_pure [(0, .int .i64 p0), (1, .slice A1 p1.length cap1), (4, .slice A4 p4.length cap4), (16, .int .i64 0)] (fun R hR => st_val hS rfl rfl rfl (r_assign hS rfl rfl) fun a240 hS240 => wpList_nil (hR _ (hS240.re ⟨rfl, rfl, rfl, rfl, trivial⟩))) ?_
     clear hS
     clear a
     intro a hS
     refine wp_block ?_
     refine wp_loop_ghost (fun kq => fun a w241 => ∃ (m2_0 : Int), ∃ (g241 : Nat → Nat), ref31_Verify.l2 p0 p1 p4 kq m2_0 = some o238 ∧ Sl 132 a [(0, .int .i64 p0), (1, .slice A1 p1.length cap1), (4, .slice A4 p4.length cap4), (16, .int .i64 m2_0)] ∧ RdS kd_api_Link w241 g241 C1 A1 cap1 p1 ∧ RdS kd_api_Slot w241 g241 C4 A4 cap4 p4 ∧ Fr (fun q => N ≤ q) w g w241 g241) FUEL ?_ ?_
     ·exact ⟨0, g54, H, hS.re ⟨rfl, rfl, rfl, rfl, trivial⟩, hp1, hp4, hF⟩
     ·clear H
      clear hp1 hp4 hF
      clear hS
      rintro k242 a w241 ⟨m2_0, g241, hpre0, hS, hp1, hp4, hF⟩
      have H := hpre0
      clear hpre0
      cases k242 with
      | zero => exact absurd H (by simp [ref31_Verify.l2])
      | succ k242 =>
       rw [ref31_Verify.l2] at H
       refine wp_seq ?_
       refine c_pure [(0, .int .i64 p0), (1, .slice A1 p1.length cap1), (4, .slice A4 p4.length cap4), (16, .int .i64 m2_0), (82, .bool (decide (m2_0 < (p1.length : Int))))] (fun R hR => st_val hS rfl rfl rfl (r_move hS rfl rfl) fun a243 hS243 => st_val hS243 rfl rfl rfl (r_move hS243 rfl rfl) fun a244 hS244 => st_val hS244 rfl rfl rfl (r_len (e := 43) (sz := 2) (by_ := 16) hS244 rfl rfl (by kernel_rfl)) fun a245 hS245 => st_val hS245 rfl rfl rfl (r_bin hS245 rfl rfl rfl b_lss) fun a246 hS246 => wpList_nil (hR _ (hS246.re ⟨rfl, rfl, rfl, rfl, rfl, trivial⟩))) ?_
       clear hS
       clear a
       intro a hS
       refine c_cond hS rfl (fun hb247 => ?_) (fun hb247 => ?_)
       ·replace H := ite_t hb247 H
        refine wp_skip ?_
        change Code.wp _ _ _ _ _
        obtain ⟨o250, H, Hl251⟩ := bind_el H
        refine c_cut (fun a w248 => ∃ (g248 : Nat → Nat), o250 = .nxt () ∧ Sl 132 a [(0, .int .i64 p0), (1, .slice A1 p1.length cap1), (4, .slice A4 p4.length cap4), (16, .int .i64 m2_0)] ∧ RdS kd_api_Link w248 g248 C1 A1 cap1 p1 ∧ RdS kd_api_Slot w248 g248 C4 A4 cap4 p4 ∧ Fr (fun q => N ≤ q) w g w248 g248) ?_ ?_
        ·refine wp_block ?_
         refine c_pure [(0, .int .i64 p0), (1, .slice A1 p1.length cap1), (4, .slice A4 p4.length cap4), (16, .int .i64 m2_0), (17, .int .i64 0)] (fun R hR => st_val hS rfl rfl rfl (r_assign hS rfl rfl) fun a252 hS252 => wpList_nil (hR _ (hS252.re ⟨rfl, rfl, rfl, rfl, rfl, trivial⟩))) ?_
         clear hS
         clear a
         intro a hS
         refine wp_block ?_
         refine wp_loop_ghost (fun kq => fun a w253 => ∃ (m3_0 : Int), ∃ (g253 : Nat → Nat), ref31_Verify.l3 p0 p1 p4 m2_0 kq m3_0 = some o250 ∧ Sl 132 a [(0, .int .i64 p0), (1, .slice A1 p1.length cap1), (4, .slice A4 p4.length cap4), (16, .int .i64 m2_0), (17, .int .i64 m3_0)] ∧ RdS kd_api_Link w253 g253 C1 A1 cap1 p1 ∧ RdS kd_api_Slot w253 g253 C4 A4 cap4 p4 ∧ Fr (fun q => N ≤ q) w g w253 g253) FUEL ?_ ?_
         ·exact ⟨0, g241, H, hS.re ⟨rfl, rfl, rfl, rfl, rfl, trivial⟩, hp1, hp4, hF⟩
         ·clear H
          clear hp1 hp4 hF
          clear hS
          rintro k254 a w253 ⟨m3_0, g253, hpre0, hS, hp1, hp4, hF⟩
          have H := hpre0
          clear hpre0
          cases k254 with
          | zero => exact absurd H (by simp [ref31_Verify.l3])
          | succ k254 =>
           rw [ref31_Verify.l3] at H
           refine wp_seq ?_
           refine c_pure [(0, .int .i64 p0), (1, .slice A1 p1.length cap1), (4, .slice A4 p4.length cap4), (16, .int .i64 m2_0), (17, .int .i64 m3_0), (87, .bool (decide (m3_0 < p0)))] (fun R hR => st_val hS rfl rfl rfl (r_move hS rfl rfl) fun a255 hS255 => st_val hS255 rfl rfl rfl (r_move hS255 rfl rfl) fun a256 hS256 => st_val hS256 rfl rfl rfl (r_bin hS256 rfl rfl rfl b_lss) fun a257 hS257 => wpList_nil (hR _ (hS257.re ⟨rfl, rfl, rfl, rfl, rfl, rfl, trivial⟩))) ?_
           clear hS
           clear a
           intro a hS
           refine c_cond hS rfl (fun hb258 => ?_) (fun hb258 => ?_)
           ·replace H := ite_t hb258 H
            refine wp_skip ?_
            change Code.wp _ _ _ _ _
            obtain ⟨o261, H, Hl262⟩ := bind_el H
            refine c_cut (fun a w259 => ∃ (g259 : Nat → Nat), o261 = .nxt () ∧ Sl 132 a [(0, .int .i64 p0), (1, .slice A1 p1.length cap1), (4, .slice A4 p4.length cap4), (16, .int .i64 m2_0), (17, .int .i64 m3_0)] ∧ RdS kd_api_Link w259 g259 C1 A1 cap1 p1 ∧ RdS kd_api_Slot w259 g259 C4 A4 cap4 p4 ∧ Fr (fun q => N ≤ q) w g w259 g259) ?_ ?_
            ·refine wp_block ?_
             refine c_pure [(0, .int .i64 p0), (1, .slice A1 p1.length cap1), (4, .slice A4 p4.length cap4), (16, .int .i64 m2_0), (17, .int .i64 m3_0), (18, .int .i64 0)] (fun R hR => st_val hS rfl rfl rfl (r_assign hS rfl rfl) fun a263 hS263 => wpList_nil (hR _ (hS263.re ⟨rfl, rfl, rfl, rfl, rfl, rfl, trivial⟩))) ?_
             clear hS
             clear a
             intro a hS
             refine wp_block ?_
             refine wp_loop_ghost (fun kq => fun a w264 => ∃ (m4_0 : Int), ∃ (g264 : Nat → Nat), ref31_Verify.l4 p0 p1 p4 m2_0 m3_0 kq m4_0 = some o261 ∧ Sl 132 a [(0, .int .i64 p0), (1, .slice A1 p1.length cap1), (4, .slice A4 p4.length cap4), (16, .int .i64 m2_0), (17, .int .i64 m3_0), (18, .int .i64 m4_0)] ∧ RdS kd_api_Link w264 g264 C1 A1 cap1 p1 ∧ RdS kd_api_Slot w264 g264 C4 A4 cap4 p4 ∧ Fr (fun q => N ≤ q) w g w264 g264) FUEL ?_ ?_
             ·exact ⟨0, g253, H, hS.re ⟨rfl, rfl, rfl, rfl, rfl, rfl, trivial⟩, hp1, hp4, hF⟩
             ·clear H
              clear hp1 hp4 hF
              clear hS
              rintro k265 a w264 ⟨m4_0, g264, hpre0, hS, hp1, hp4, hF⟩
              have H := hpre0
              clear hpre0
              cases k265 with
              | zero => exact absurd H (by simp [ref31_Verify.l4])
              | succ k265 =>
               rw [ref31_Verify.l4] at H
               refine wp_seq ?_
               refine c_pure [(0, .int .i64 p0), (1, .slice A1 p1.length cap1), (4, .slice A4 p4.length cap4), (16, .int .i64 m2_0), (17, .int .i64 m3_0), (18, .int .i64 m4_0), (92, .bool (decide (m4_0 < p0)))] (fun R hR => st_val hS rfl rfl rfl (r_move hS rfl rfl) fun a266 hS266 => st_val hS266 rfl rfl rfl (r_move hS266 rfl rfl) fun a267 hS267 => st_val hS267 rfl rfl rfl (r_bin hS267 rfl rfl rfl b_lss) fun a268 hS268 => wpList_nil (hR _ (hS268.re ⟨rfl, rfl, rfl, rfl, rfl, rfl, rfl, trivial⟩))) ?_
               clear hS
               clear a
               intro a hS
               refine c_cond hS rfl (fun hb269 => ?_) (fun hb269 => ?_)
               ·replace H := ite_t hb269 H
                refine wp_skip ?_
                change Code.wp _ _ _ _ _
                refine wp_seq ?_
                refine wp_block ?_
                obtain ⟨x273, hx274, H⟩ := bind_el H
                obtain ⟨x280, hx281, H⟩ := bind_el H
                obtain ⟨t301, ht302, H⟩ := bind_el H
                obtain ⟨t347, ht348, H⟩ := bind_el H
                refine c_draw (fun K hK => d_start (fun q => False) g264 [] 37 #[false, false, false, false, false, false, false, false, false, false, false, false, false, false, false, false, false, false, false, false, false, false, false, false, false, false, false, false, false, false, false, false, false, false, false, false, false] (by kernel_rfl) rfl rfl (fun w270 hw270 => ?_))
                have F270 : Fr (fun _ => False) w264 g264 w270 g264 := by rw [hw270]; exact Fr.drew _ _ _
                replace hp1 := RdS.fr hp1 F270 (by decide) (fun _ _ h => h)
                replace hp4 := RdS.fr hp4 F270 (by decide) (fun _ _ h => h)
                replace hF := hF.trans F270 (fun _ h => h.elim)
                have hC : Fr (fun q => False) w270 g264 w270 g264 := Fr.refl _ _ _
                refine d_pure hS 0 #[true, false, false, false, false, false, false, false, false, false, false, false, false, false, false, false, false, false, false, false, false, false, false, false, false, false, false, false, false, false, false, false, false, false, false, false, false] rfl rfl rfl rfl (by kernel_rfl) (fun _ _ _ h => h) (fun _ => (r_move hS rfl rfl)) fun a271 hS271 => d_pure hS271 1 #[true, true, false, false, false, false, false, false, false, false, false, false, false, false, false, false, false, false, false, false, false, false, false, false, false, false, false, false, false, false, false, false, false, false, false, false, false] rfl rfl rfl rfl (by kernel_rfl) (fun _ _ _ h => h) (fun _ => (r_move hS271 rfl rfl)) fun a272 hS272 => d_pure hS272 2 #[true, true, true, false, false, false, false, false, false, false, false, false, false, false, false, false, false, false, false, false, false, false, false, false, false, false, false, false, false, false, false, false, false, false, false, false, false] rfl rfl rfl rfl (by kernel_rfl) (fun _ _ _ h => h) (fun _ => (r_index (e := 38) (sz := 4) (by_ := 32) hS272 rfl rfl rfl (by kernel_rfl) (RdS.some_ hp4 hx274) (idx_lo hx274) (idx_hi hx274))) fun a275 hS275 => d_pure hS275 3 #[true, true, true, true, false, false, false, false, false, false, false, false, false, false, false, false, false, false, false, false, false, false, false, false, false, false, false, false, false, false, false, false, false, false, false, false, false] rfl rfl rfl rfl (by kernel_rfl) (fun _ _ _ h => h) (fun _ => (r_fieldE (off := 0) hS275 rfl rfl (by kernel_rfl))) fun a276 hS276 => d_take hS276 4 #[true, true, true, true, true, false, false, false, false, false, false, false, false, false, false, false, false, false, false, false, false, false, false, false, false, false, false, false, false, false, false, false, false, false, false, false, false] rfl rfl rfl rfl (by kernel_rfl) (fun _ _ _ h => h) ⟨_, hC⟩ (fun w' g' Fz => (r_load1 (n := 1) hS276 rfl rfl (by kernel_rfl) (RdS.cell (i := m3_0) (sz := 4) (j := 0) (RdS.fr hp4 Fz (by decide) (fun _ _ h => h)) hx274 rfl))) fun a277 hS277 => d_pure hS277 5 #[true, true, true, true, true, true, false, false, false, false, false, false, false, false, false, false, false, false, false, false, false, false, false, false, false, false, false, false, false, false, false, false, false, false, false, false, false] rfl rfl rfl rfl (by kernel_rfl) (fun _ _ _ h => h) (fun _ => (r_move hS277 rfl rfl)) fun a278 hS278 => d_pure hS278 6 #[true, true, true, true, true, true, true, false, false, false, false, false, false, false, false, false, false, false, false, false, false, false, false, false, false, false, false, false, false, false, false, false, false, false, false, false, false] rfl rfl rfl rfl (by kernel_rfl) (fun _ _ _ h => h) (fun _ => (r_move hS278 rfl rfl)) fun a279 hS279 => d_pure hS279 7 #[true, true, true, true, true, true, true, true, false, false, false, false, false, false, false, false, false, false, false, false, false, false, false, false, false, false, false, false, false, false, false, false, false, false, false, false, false] rfl rfl rfl rfl (by kernel_rfl) (fun _ _ _ h => h) (fun _ => (r_index (e := 43) (sz := 2) (by_ := 16) hS279 rfl rfl rfl (by kernel_rfl) (RdS.some_ hp1 hx281) (idx_lo hx281) (idx_hi hx281))) fun a282 hS282 => d_pure hS282 8 #[true, true, true, true, true, true, true, true, true, false, false, false, false, false, false, false, false, false, false, false, false, false, false, false, false, false, false, false, false, false, false, false, false, false, false, false, false] rfl rfl rfl rfl (by kernel_rfl) (fun _ _ _ h => h) (fun _ => (r_fieldE (off := 0) hS282 rfl rfl (by kernel_rfl))) fun a283 hS283 => d_take hS283 9 #[true, true, true, true, true, true, true, true, true, true, false, false, false, false, false, false, false, false, false, false, false, false, false, false, false, false, false, false, false, false, false, false, false, false, false, false, false] rfl rfl rfl rfl (by kernel_rfl) (fun _ _ _ h => h) ⟨_, hC⟩ (fun w' g' Fz => (r_load1 (n := 1) hS283 rfl rfl (by kernel_rfl) (RdS.cell (i := m2_0) (sz := 2) (j := 0) (RdS.fr hp1 Fz (by decide) (fun _ _ h => h)) hx281 rfl))) fun a284 hS284 => d_pure hS284 10 #[true, true, true, true, true, true, true, true, true, true, true, false, false, false, false, false, false, false, false, false, false, false, false, false, false, false, false, false, false, false, false, false, false, false, false, false, false] rfl rfl rfl rfl (by kernel_rfl) (fun _ _ _ h => h) (fun _ => (r_bin hS284 rfl rfl rfl b_eql)) fun a285 hS285 => d_pure hS285 11 #[true, true, true, true, true, true, true, true, true, true, true, true, false, false, false, false, false, false, false, false, false, false, false, false, false, false, false, false, false, false, false, false, false, false, false, false, false] rfl rfl rfl rfl (by kernel_rfl) (fun _ _ _ h => h) (fun _ => (r_move hS285 rfl rfl)) fun a286 hS286 => ?_
                refine d_join (N := 132) 13 #[true, true, true, true, true, true, true, true, true, true, true, true, true, true, true, true, true, true, true, true, true, true, true, true, false, false, false, false, false, false, false, false, false, false, false, false, false] [(0, .int .i64 p0), (1, .slice A1 p1.length cap1), (4, .slice A4 p4.length cap4), (16, .int .i64 m2_0), (17, .int .i64 m3_0), (18, .int .i64 m4_0), (118, .bool t301)] ?_ (fun hk => ?_)
                rotate_left
                ·rcases Bool.eq_false_or_eq_true ((x273.Device == x280.Consumer)) with hb287 | hb287
                 ·have H := ite_t hb287 ht302
                  obtain ⟨x305, hx306, H⟩ := bind_el H
                  have e316 := Option.some.inj H
                  refine d_pureW hS286 12 #[true, true, true, true, true, true, true, true, true, true, true, true, true, false, false, false, false, false, false, false, false, false, false, false, false, false, false, false, false, false, false, false, false, false, false, false, false] rfl (want_on hS286 rfl rfl rfl hb287) rfl rfl (by kernel_rfl) (fun _ _ _ h => h) (fun _ => (r_move hS286 rfl rfl)) fun a303 hS303 => d_pureW hS303 13 #[true, true, true, true, true, true, true, true, true, true, true, true, true, true, false, false, false, false, false, false, false, false, false, false, false, false, false, false, false, false, false, false, false, false, false, false, false] rfl (want_on hS303 rfl rfl rfl hb287) rfl rfl (by kernel_rfl) (fun _ _ _ h => h) (fun _ => (r_move hS303 rfl rfl)) fun a304 hS304 => d_pureW hS304 14 #[true, true, true, true, true, true, true, true, true, true, true, true, true, true, true, false, false, false, false, false, false, false, false, false, false, false, false, false, false, false, false, false, false, false, false, false, false] rfl (want_on hS304 rfl rfl rfl hb287) rfl rfl (by kernel_rfl) (fun _ _ _ h => h) (fun _ => (r_index (e := 38) (sz := 4) (by_ := 32) hS304 rfl rfl rfl (by kernel_rfl) (RdS.some_ hp4 hx306) (idx_lo hx306) (idx_hi hx306))) fun a307 hS307 => d_pureW hS307 15 #[true, true, true, true, true, true, true, true, true, true, true, true, true, true, true, true, false, false, false, false, false, false, false, false, false, false, false, false, false, false, false, false, false, false, false, false, false] rfl (want_on hS307 rfl rfl rfl hb287) rfl rfl (by kernel_rfl) (fun _ _ _ h => h) (fun _ => (r_fieldE (off := 0) hS307 rfl rfl (by kernel_rfl))) fun a308 hS308 => d_takeW hS308 16 #[true, true, true, true, true, true, true, true, true, true, true, true, true, true, true, true, true, false, false, false, false, false, false, false, false, false, false, false, false, false, false, false, false, false, false, false, false] rfl (want_on hS308 rfl rfl rfl hb287) rfl rfl (by kernel_rfl) (fun _ _ _ h => h) ⟨_, hC⟩ (fun w' g' Fz => (r_load1 (n := 1) hS308 rfl rfl (by kernel_rfl) (RdS.cell (i := m4_0) (sz := 4) (j := 0) (RdS.fr hp4 Fz (by decide) (fun _ _ h => h)) hx306 rfl))) fun a309 hS309 => d_pureW hS309 17 #[true, true, true, true, true, true, true, true, true, true, true, true, true, true, true, true, true, true, false, false, false, false, false, false, false, false, false, false, false, false, false, false, false, false, false, false, false] rfl (want_on hS309 rfl rfl rfl hb287) rfl rfl (by kernel_rfl) (fun _ _ _ h => h) (fun _ => (r_move hS309 rfl rfl)) fun a310 hS310 => d_pureW hS310 18 #[true, true, true, true, true, true, true, true, true, true, true, true, true, true, true, true, true, true, true, false, false, false, false, false, false, false, false, false, false, false, false, false, false, false, false, false, false] rfl (want_on hS310 rfl rfl rfl hb287) rfl rfl (by kernel_rfl) (fun _ _ _ h => h) (fun _ => (r_move hS310 rfl rfl)) fun a311 hS311 => d_pureW hS311 19 #[true, true, true, true, true, true, true, true, true, true, true, true, true, true, true, true, true, true, true, true, false, false, false, false, false, false, false, false, false, false, false, false, false, false, false, false, false] rfl (want_on hS311 rfl rfl rfl hb287) rfl rfl (by kernel_rfl) (fun _ _ _ h => h) (fun _ => (r_index (e := 43) (sz := 2) (by_ := 16) hS311 rfl rfl rfl (by kernel_rfl) (RdS.some_ hp1 hx281) (idx_lo hx281) (idx_hi hx281))) fun a312 hS312 => d_pureW hS312 20 #[true, true, true, true, true, true, true, true, true, true, true, true, true, true, true, true, true, true, true, true, true, false, false, false, false, false, false, false, false, false, false, false, false, false, false, false, false] rfl (want_on hS312 rfl rfl rfl hb287) rfl rfl (by kernel_rfl) (fun _ _ _ h => h) (fun _ => (r_fieldE (off := 1) hS312 rfl rfl (by kernel_rfl))) fun a313 hS313 => d_takeW hS313 21 #[true, true, true, true, true, true, true, true, true, true, true, true, true, true, true, true, true, true, true, true, true, true, false, false, false, false, false, false, false, false, false, false, false, false, false, false, false] rfl (want_on hS313 rfl rfl rfl hb287) rfl rfl (by kernel_rfl) (fun _ _ _ h => h) ⟨_, hC⟩ (fun w' g' Fz => (r_load1 (n := 1) hS313 rfl rfl (by kernel_rfl) (RdS.cell (i := m2_0) (sz := 2) (j := 1) (RdS.fr hp1 Fz (by decide) (fun _ _ h => h)) hx281 rfl))) fun a314 hS314 => d_pureW hS314 22 #[true, true, true, true, true, true, true, true, true, true, true, true, true, true, true, true, true, true, true, true, true, true, true, false, false, false, false, false, false, false, false, false, false, false, false, false, false] rfl (want_on hS314 rfl rfl rfl hb287) rfl rfl (by kernel_rfl) (fun _ _ _ h => h) (fun _ => (r_bin hS314 rfl rfl rfl b_eql)) fun a315 hS315 => d_pure hS315 23 #[true, true, true, true, true, true, true, true, true, true, true, true, true, true, true, true, true, true, true, true, true, true, true, true, false, false, false, false, false, false, false, false, false, false, false, false, false] rfl rfl rfl rfl (by kernel_rfl) (fun _ _ _ h => h) (fun _ => (r_pickT hS315 rfl rfl rfl hb287)) fun a317 hS317 => hk _ (hS317.re ⟨rfl, rfl, rfl, rfl, rfl, rfl, (by rw [← e316]; rfl), trivial⟩)
                 ·have H := ite_f hb287 ht302
                  have e318 := Option.some.inj H
                  refine d_off hS286 12 #[true, true, true, true, true, true, true, true, true, true, true, true, true, false, false, false, false, false, false, false, false, false, false, false, false, false, false, false, false, false, false, false, false, false, false, false, false] rfl (want_off hS286 rfl rfl rfl hb287) rfl rfl (by kernel_rfl) (fun _ _ _ h => h) fun a319 hS319 => d_off hS319 13 #[true, true, true, true, true, true, true, true, true, true, true, true, true, true, false, false, false, false, false, false, false, false, false, false, false, false, false, false, false, false, false, false, false, false, false, false, false] rfl (want_off hS319 rfl rfl rfl hb287) rfl rfl (by kernel_rfl) (fun _ _ _ h => h) fun a320 hS320 => d_off hS320 14 #[true, true, true, true, true, true, true, true, true, true, true, true, true, true, true, false, false, false, false, false, false, false, false, false, false, false, false, false, false, false, false, false, false, false, false, false, false] rfl (want_off hS320 rfl rfl rfl hb287) rfl rfl (by kernel_rfl) (fun _ _ _ h => h) fun a321 hS321 => d_off hS321 15 #[true, true, true, true, true, true, true, true, true, true, true, true, true, true, true, true, false, false, false, false, false, false, false, false, false, false, false, false, false, false, false, false, false, false, false, false, false] rfl (want_off hS321 rfl rfl rfl hb287) rfl rfl (by kernel_rfl) (fun _ _ _ h => h) fun a322 hS322 => d_off hS322 16 #[true, true, true, true, true, true, true, true, true, true, true, true, true, true, true, true, true, false, false, false, false, false, false, false, false, false, false, false, false, false, false, false, false, false, false, false, false] rfl (want_off hS322 rfl rfl rfl hb287) rfl rfl (by kernel_rfl) (fun _ _ _ h => h) fun a323 hS323 => d_off hS323 17 #[true, true, true, true, true, true, true, true, true, true, true, true, true, true, true, true, true, true, false, false, false, false, false, false, false, false, false, false, false, false, false, false, false, false, false, false, false] rfl (want_off hS323 rfl rfl rfl hb287) rfl rfl (by kernel_rfl) (fun _ _ _ h => h) fun a324 hS324 => d_off hS324 18 #[true, true, true, true, true, true, true, true, true, true, true, true, true, true, true, true, true, true, true, false, false, false, false, false, false, false, false, false, false, false, false, false, false, false, false, false, false] rfl (want_off hS324 rfl rfl rfl hb287) rfl rfl (by kernel_rfl) (fun _ _ _ h => h) fun a325 hS325 => d_off hS325 19 #[true, true, true, true, true, true, true, true, true, true, true, true, true, true, true, true, true, true, true, true, false, false, false, false, false, false, false, false, false, false, false, false, false, false, false, false, false] rfl (want_off hS325 rfl rfl rfl hb287) rfl rfl (by kernel_rfl) (fun _ _ _ h => h) fun a326 hS326 => d_off hS326 20 #[true, true, true, true, true, true, true, true, true, true, true, true, true, true, true, true, true, true, true, true, true, false, false, false, false, false, false, false, false, false, false, false, false, false, false, false, false] rfl (want_off hS326 rfl rfl rfl hb287) rfl rfl (by kernel_rfl) (fun _ _ _ h => h) fun a327 hS327 => d_off hS327 21 #[true, true, true, true, true, true, true, true, true, true, true, true, true, true, true, true, true, true, true, true, true, true, false, false, false, false, false, false, false, false, false, false, false, false, false, false, false] rfl (want_off hS327 rfl rfl rfl hb287) rfl rfl (by kernel_rfl) (fun _ _ _ h => h) fun a328 hS328 => d_off hS328 22 #[true, true, true, true, true, true, true, true, true, true, true, true, true, true, true, true, true, true, true, true, true, true, true, false, false, false, false, false, false, false, false, false, false, false, false, false, false] rfl (want_off hS328 rfl rfl rfl hb287) rfl rfl (by kernel_rfl) (fun _ _ _ h => h) fun a329 hS329 => d_pure hS329 23 #[true, true, true, true, true, true, true, true, true, true, true, true, true, true, true, true, true, true, true, true, true, true, true, true, false, false, false, false, false, false, false, false, false, false, false, false, false] rfl rfl rfl rfl (by kernel_rfl) (fun _ _ _ h => h) (fun _ => (r_pickF hS329 rfl rfl rfl hb287)) fun a330 hS330 => hk _ (hS330.re ⟨rfl, rfl, rfl, rfl, rfl, rfl, (by rw [← e318]; rfl), trivial⟩)
                intro a331 hS331
                refine d_pure hS331 24 #[true, true, true, true, true, true, true, true, true, true, true, true, true, true, true, true, true, true, true, true, true, true, true, true, true, false, false, false, false, false, false, false, false, false, false, false, false] rfl rfl rfl rfl (by kernel_rfl) (fun _ _ _ h => h) (fun _ => (r_move hS331 rfl rfl)) fun a332 hS332 => ?_
                refine d_join (N := 132) 0 #[true, true, true, true, true, true, true, true, true, true, true, true, true, true, true, true, true, true, true, true, true, true, true, true, true, true, true, true, true, true, true, true, true, true, true, true, true] [(0, .int .i64 p0), (1, .slice A1 p1.length cap1), (4, .slice A4 p4.length cap4), (16, .int .i64 m2_0), (17, .int .i64 m3_0), (18, .int .i64 m4_0), (131, .bool t347)] ?_ (fun hk => ?_)
                rotate_left
                ·rcases Bool.eq_false_or_eq_true (t301) with hb333 | hb333
                 ·have H := ite_t hb333 ht348
                  obtain ⟨x356, hx357, H⟩ := bind_el H
                  have e362 := Option.some.inj H
                  refine d_pureW hS332 25 #[true, true, true, true, true, true, true, true, true, true, true, true, true, true, true, true, true, true, true, true, true, true, true, true, true, true, false, false, false, false, false, false, false, false, false, false, false] rfl (want_on hS332 rfl rfl rfl hb333) rfl rfl (by kernel_rfl) (fun _ _ _ h => h) (fun _ => (r_move hS332 rfl rfl)) fun a349 hS349 => d_pureW hS349 26 #[true, true, true, true, true, true, true, true, true, true, true, true, true, true, true, true, true, true, true, true, true, true, true, true, true, true, true, false, false, false, false, false, false, false, false, false, false] rfl (want_on hS349 rfl rfl rfl hb333) rfl rfl (by kernel_rfl) (fun _ _ _ h => h) (fun _ => (r_move hS349 rfl rfl)) fun a350 hS350 => d_pureW hS350 27 #[true, true, true, true, true, true, true, true, true, true, true, true, true, true, true, true, true, true, true, true, true, true, true, true, true, true, true, true, false, false, false, false, false, false, false, false, false] rfl (want_on hS350 rfl rfl rfl hb333) rfl rfl (by kernel_rfl) (fun _ _ _ h => h) (fun _ => (r_index (e := 38) (sz := 4) (by_ := 32) hS350 rfl rfl rfl (by kernel_rfl) (RdS.some_ hp4 hx274) (idx_lo hx274) (idx_hi hx274))) fun a351 hS351 => d_pureW hS351 28 #[true, true, true, true, true, true, true, true, true, true, true, true, true, true, true, true, true, true, true, true, true, true, true, true, true, true, true, true, true, false, false, false, false, false, false, false, false] rfl (want_on hS351 rfl rfl rfl hb333) rfl rfl (by kernel_rfl) (fun _ _ _ h => h) (fun _ => (r_fieldE (off := 2) hS351 rfl rfl (by kernel_rfl))) fun a352 hS352 => d_takeW hS352 29 #[true, true, true, true, true, true, true, true, true, true, true, true, true, true, true, true, true, true, true, true, true, true, true, true, true, true, true, true, true, true, false, false, false, false, false, false, false] rfl (want_on hS352 rfl rfl rfl hb333) rfl rfl (by kernel_rfl) (fun _ _ _ h => h) ⟨_, hC⟩ (fun w' g' Fz => (r_load1 (n := 1) hS352 rfl rfl (by kernel_rfl) (RdS.cell (i := m3_0) (sz := 4) (j := 2) (RdS.fr hp4 Fz (by decide) (fun _ _ h => h)) hx274 rfl))) fun a353 hS353 => d_pureW hS353 30 #[true, true, true, true, true, true, true, true, true, true, true, true, true, true, true, true, true, true, true, true, true, true, true, true, true, true, true, true, true, true, true, false, false, false, false, false, false] rfl (want_on hS353 rfl rfl rfl hb333) rfl rfl (by kernel_rfl) (fun _ _ _ h => h) (fun _ => (r_move hS353 rfl rfl)) fun a354 hS354 => d_pureW hS354 31 #[true, true, true, true, true, true, true, true, true, true, true, true, true, true, true, true, true, true, true, true, true, true, true, true, true, true, true, true, true, true, true, true, false, false, false, false, false] rfl (want_on hS354 rfl rfl rfl hb333) rfl rfl (by kernel_rfl) (fun _ _ _ h => h) (fun _ => (r_move hS354 rfl rfl)) fun a355 hS355 => d_pureW hS355 32 #[true, true, true, true, true, true, true, true, true, true, true, true, true, true, true, true, true, true, true, true, true, true, true, true, true, true, true, true, true, true, true, true, true, false, false, false, false] rfl (want_on hS355 rfl rfl rfl hb333) rfl rfl (by kernel_rfl) (fun _ _ _ h => h) (fun _ => (r_index (e := 38) (sz := 4) (by_ := 32) hS355 rfl rfl rfl (by kernel_rfl) (RdS.some_ hp4 hx357) (idx_lo hx357) (idx_hi hx357))) fun a358 hS358 => d_pureW hS358 33 #[true, true, true, true, true, true, true, true, true, true, true, true, true, true, true, true, true, true, true, true, true, true, true, true, true, true, true, true, true, true, true, true, true, true, false, false, false] rfl (want_on hS358 rfl rfl rfl hb333) rfl rfl (by kernel_rfl) (fun _ _ _ h => h) (fun _ => (r_fieldE (off := 3) hS358 rfl rfl (by kernel_rfl))) fun a359 hS359 => d_takeW hS359 34 #[true, true, true, true, true, true, true, true, true, true, true, true, true, true, true, true, true, true, true, true, true, true, true, true, true, true, true, true, true, true, true, true, true, true, true, false, false] rfl (want_on hS359 rfl rfl rfl hb333) rfl rfl (by kernel_rfl) (fun _ _ _ h => h) ⟨_, hC⟩ (fun w' g' Fz => (r_load1 (n := 1) hS359 rfl rfl (by kernel_rfl) (RdS.cell (i := m4_0) (sz := 4) (j := 3) (RdS.fr hp4 Fz (by decide) (fun _ _ h => h)) hx357 rfl))) fun a360 hS360 => d_pureW hS360 35 #[true, true, true, true, true, true, true, true, true, true, true, true, true, true, true, true, true, true, true, true, true, true, true, true, true, true, true, true, true, true, true, true, true, true, true, true, false] rfl (want_on hS360 rfl rfl rfl hb333) rfl rfl (by kernel_rfl) (fun _ _ _ h => h) (fun _ => (r_bin hS360 rfl rfl rfl b_lss)) fun a361 hS361 => d_pure hS361 36 #[true, true, true, true, true, true, true, true, true, true, true, true, true, true, true, true, true, true, true, true, true, true, true, true, true, true, true, true, true, true, true, true, true, true, true, true, true] rfl rfl rfl rfl (by kernel_rfl) (fun _ _ _ h => h) (fun _ => (r_pickT hS361 rfl rfl rfl hb333)) fun a363 hS363 => hk _ (hS363.re ⟨rfl, rfl, rfl, rfl, rfl, rfl, (by rw [← e362]; rfl), trivial⟩)
                 ·have H := ite_f hb333 ht348
                  have e364 := Option.some.inj H
                  refine d_off hS332 25 #[true, true, true, true, true, true, true, true, true, true, true, true, true, true, true, true, true, true, true, true, true, true, true, true, true, true, false, false, false, false, false, false, false, false, false, false, false] rfl (want_off hS332 rfl rfl rfl hb333) rfl rfl (by kernel_rfl) (fun _ _ _ h => h) fun a365 hS365 => d_off hS365 26 #[true, true, true, true, true, true, true, true, true, true, true, true, true, true, true, true, true, true, true, true, true, true, true, true, true, true, true, false, false, false, false, false, false, false, false, false, false] rfl (want_off hS365 rfl rfl rfl hb333) rfl rfl (by kernel_rfl) (fun _ _ _ h => h) fun a366 hS366 => d_off hS366 27 #[true, true, true, true, true, true, true, true, true, true, true, true, true, true, true, true, true, true, true, true, true, true, true, true, true, true, true, true, false, false, false, false, false, false, false, false, false] rfl (want_off hS366 rfl rfl rfl hb333) rfl rfl (by kernel_rfl) (fun _ _ _ h => h) fun a367 hS367 => d_off hS367 28 #[true, true, true, true, true, true, true, true, true, true, true, true, true, true, true, true, true, true, true, true, true, true, true, true, true, true, true, true, true, false, false, false, false, false, false, false, false] rfl (want_off hS367 rfl rfl rfl hb333) rfl rfl (by kernel_rfl) (fun _ _ _ h => h) fun a368 hS368 => d_off hS368 29 #[true, true, true, true, true, true, true, true, true, true, true, true, true, true, true, true, true, true, true, true, true, true, true, true, true, true, true, true, true, true, false, false, false, false, false, false, false] rfl (want_off hS368 rfl rfl rfl hb333) rfl rfl (by kernel_rfl) (fun _ _ _ h => h) fun a369 hS369 => d_off hS369 30 #[true, true, true, true, true, true, true, true, true, true, true, true, true, true, true, true, true, true, true, true, true, true, true, true, true, true, true, true, true, true, true, false, false, false, false, false, false] rfl (want_off hS369 rfl rfl rfl hb333) rfl rfl (by kernel_rfl) (fun _ _ _ h => h) fun a370 hS370 => d_off hS370 31 #[true, true, true, true, true, true, true, true, true, true, true, true, true, true, true, true, true, true, true, true, true, true, true, true, true, true, true, true, true, true, true, true, false, false, false, false, false] rfl (want_off hS370 rfl rfl rfl hb333) rfl rfl (by kernel_rfl) (fun _ _ _ h => h) fun a371 hS371 => d_off hS371 32 #[true, true, true, true, true, true, true, true, true, true, true, true, true, true, true, true, true, true, true, true, true, true, true, true, true, true, true, true, true, true, true, true, true, false, false, false, false] rfl (want_off hS371 rfl rfl rfl hb333) rfl rfl (by kernel_rfl) (fun _ _ _ h => h) fun a372 hS372 => d_off hS372 33 #[true, true, true, true, true, true, true, true, true, true, true, true, true, true, true, true, true, true, true, true, true, true, true, true, true, true, true, true, true, true, true, true, true, true, false, false, false] rfl (want_off hS372 rfl rfl rfl hb333) rfl rfl (by kernel_rfl) (fun _ _ _ h => h) fun a373 hS373 => d_off hS373 34 #[true, true, true, true, true, true, true, true, true, true, true, true, true, true, true, true, true, true, true, true, true, true, true, true, true, true, true, true, true, true, true, true, true, true, true, false, false] rfl (want_off hS373 rfl rfl rfl hb333) rfl rfl (by kernel_rfl) (fun _ _ _ h => h) fun a374 hS374 => d_off hS374 35 #[true, true, true, true, true, true, true, true, true, true, true, true, true, true, true, true, true, true, true, true, true, true, true, true, true, true, true, true, true, true, true, true, true, true, true, true, false] rfl (want_off hS374 rfl rfl rfl hb333) rfl rfl (by kernel_rfl) (fun _ _ _ h => h) fun a375 hS375 => d_pure hS375 36 #[true, true, true, true, true, true, true, true, true, true, true, true, true, true, true, true, true, true, true, true, true, true, true, true, true, true, true, true, true, true, true, true, true, true, true, true, true] rfl rfl rfl rfl (by kernel_rfl) (fun _ _ _ h => h) (fun _ => (r_pickF hS375 rfl rfl rfl hb333)) fun a376 hS376 => hk _ (hS376.re ⟨rfl, rfl, rfl, rfl, rfl, rfl, (by rw [← e364]; rfl), trivial⟩)
                intro a377 hS377
                refine d_done (by kernel_rfl) (hK _ _ ?_)
                replace hS : Sl 132 _ [(0, .int .i64 p0), (1, .slice A1 p1.length cap1), (4, .slice A4 p4.length cap4), (16, .int .i64 m2_0), (17, .int .i64 m3_0), (18, .int .i64 m4_0), (131, .bool t347)] := hS377.re ⟨rfl, rfl, rfl, rfl, rfl, rfl, rfl, trivial⟩
                clear hK K hC
                try clear hS271 hS272 hS275 hS276 hS277 hS278 hS279 hS282 hS283 hS284 hS285 hS286 hS331 hS332 hS377
                obtain ⟨a, ha⟩ : ∃ a', a' = a377 := ⟨_, rfl⟩
                rw [← ha] at hS ⊢; clear ha
                refine c_cond hS rfl (fun hb378 => ?_) (fun hb378 => ?_)
                ·replace H := ite_t hb378 H
                 refine c_pure [(10, .int .i64 9)] (fun R hR => st_val hS rfl rfl rfl (r_assign hS rfl rfl) fun a379 hS379 => wpList_nil (hR _ (hS379.re ⟨rfl, trivial⟩))) ?_
                 clear hS
                 clear a
                 intro a hS
                 refine wp_ret ?_
                 have e := Option.some.inj H
                 subst e
                 replace H := Fl.go_out Hl262
                 have e := Option.some.inj H
                 subst e
                 replace H := Fl.go_out Hl251
                 have e := Option.some.inj H
                 subst e
                 replace H := Fl.go_out Hl239
                 have e := Option.some.inj H
                 subst e
                 repeat (with_reducible first | refine then_ret ?_ | refine inBlock_ret ?_)
                 exact c_ret1 hS Try.results27 rfl ⟨_, rfl, g264, rfl, hF⟩
                ·replace H := ite_f hb378 H
                 refine wp_skip ?_
                 change Code.wp _ _ _ _ _
                 refine c_pure1 [(0, .int .i64 p0), (1, .slice A1 p1.length cap1), (4, .slice A4 p4.length cap4), (16, .int .i64 m2_0), (17, .int .i64 m3_0), (18, .int .i64 (wi (m4_0 + 1)))] (fun R hR => st_val hS rfl rfl rfl (r_move hS rfl rfl) fun a380 hS380 => st_val hS380 rfl rfl rfl (r_bin hS380 rfl rfl rfl b_add) fun a381 hS381 => st_val hS381 rfl rfl rfl (r_assign hS381 rfl rfl) fun a382 hS382 => wpList_nil (hR _ (hS382.re ⟨rfl, rfl, rfl, rfl, rfl, rfl, trivial⟩))) ?_
                 clear hS
                 clear a
                 intro a hS
                 refine ⟨k265, Nat.lt_succ_self _, ?_⟩
                 exact ⟨wi (m4_0 + 1), g264, H, hS.re ⟨rfl, rfl, rfl, rfl, rfl, rfl, trivial⟩, hp1, hp4, hF⟩
               ·replace H := ite_f hb269 H
                refine wp_exit ?_
                have e := Option.some.inj H
                exact ⟨g264, e.symm, hS.re ⟨rfl, rfl, rfl, rfl, rfl, trivial⟩, hp1, hp4, hF⟩
            ·clear H
             clear hp1 hp4 hF
             clear hS
             rintro a w259 ⟨g259, hpre0, hS, hp1, hp4, hF⟩
             subst hpre0
             have H := Fl.go_nxt Hl262
             clear Hl262
             refine c_pure1 [(0, .int .i64 p0), (1, .slice A1 p1.length cap1), (4, .slice A4 p4.length cap4), (16, .int .i64 m2_0), (17, .int .i64 (wi (m3_0 + 1)))] (fun R hR => st_val hS rfl rfl rfl (r_move hS rfl rfl) fun a383 hS383 => st_val hS383 rfl rfl rfl (r_bin hS383 rfl rfl rfl b_add) fun a384 hS384 => st_val hS384 rfl rfl rfl (r_assign hS384 rfl rfl) fun a385 hS385 => wpList_nil (hR _ (hS385.re ⟨rfl, rfl, rfl, rfl, rfl, trivial⟩))) ?_
             clear hS
             clear a
             intro a hS
             refine ⟨k254, Nat.lt_succ_self _, ?_⟩
             exact ⟨wi (m3_0 + 1), g259, H, hS.re ⟨rfl, rfl, rfl, rfl, rfl, trivial⟩, hp1, hp4, hF⟩
           ·replace H := ite_f hb258 H
            refine wp_exit ?_
            have e := Option.some.inj H
            exact ⟨g253, e.symm, hS.re ⟨rfl, rfl, rfl, rfl, trivial⟩, hp1, hp4, hF⟩
        ·clear H
         clear hp1 hp4 hF
         clear hS
         rintro a w248 ⟨g248, hpre0, hS, hp1, hp4, hF⟩
         subst hpre0
         have H := Fl.go_nxt Hl251
         clear Hl251
         refine c_pure1 [(0, .int .i64 p0), (1, .slice A1 p1.length cap1), (4, .slice A4 p4.length cap4), (16, .int .i64 (wi (m2_0 + 1)))] (fun R hR => st_val hS rfl rfl rfl (r_move hS rfl rfl) fun a386 hS386 => st_val hS386 rfl rfl rfl (r_bin hS386 rfl rfl rfl b_add) fun a387 hS387 => st_val hS387 rfl rfl rfl (r_assign hS387 rfl rfl) fun a388 hS388 => wpList_nil (hR _ (hS388.re ⟨rfl, rfl, rfl, rfl, trivial⟩))) ?_
         clear hS
         clear a
         intro a hS
         refine ⟨k242, Nat.lt_succ_self _, ?_⟩
         exact ⟨wi (m2_0 + 1), g248, H, hS.re ⟨rfl, rfl, rfl, rfl, trivial⟩, hp1, hp4, hF⟩
       ·replace H := ite_f hb247 H
        refine wp_exit ?_
        have e := Option.some.inj H
        exact ⟨g241, e.symm, hS.re trivial, hF⟩
    ·clear H
     clear hp1 hp4 hF
     clear hS
     rintro a w236 ⟨g236, hpre0, hS, hF⟩
     subst hpre0
     have H := Fl.go_nxt Hl239
     clear Hl239
     refine c_pure [(10, .int .i64 0)] (fun R hR => st_val hS rfl rfl rfl (r_assign hS rfl rfl) fun a389 hS389 => wpList_nil (hR _ (hS389.re ⟨rfl, trivial⟩))) ?_
     clear hS
     clear a
     intro a hS
     refine wp_ret ?_
     have e := Option.some.inj H
     subst e
     repeat (with_reducible first | refine then_ret ?_ | refine inBlock_ret ?_)
     exact c_ret1 hS Try.results27 rfl ⟨_, rfl, g236, rfl, hF⟩


end Go.Proofs.Ythmjgadmadlpkaa.Sim

namespace Go.Proofs.Ythmjgadmadlpkaa.Sim
open Go
set_option linter.unusedVariables false
set_option linter.unusedSimpArgs false

def Wf_api_Link (x : api_Link) : Prop := (Lit.int .i64 x.Consumer).wf = true ∧ (Lit.int .i64 x.Supplier).wf = true
theorem opens_api_Link : Opens Try.prog 43 kd_api_Link Wf_api_Link := by
  intro H enc w held fuel cs x h
  have hl : cs.length = 2 := by
    obtain ⟨_, _, _, _, hl, _⟩ := DataW.trod_struct Try.underlying43 h
    rw [hl]; kernel_rfl
  match cs, hl with
  | [c0, c1], _ =>
    obtain ⟨ys0, m0, _, _, _, hlen0, hf0⟩ := DataW.trod_struct Try.underlying43 h
    obtain ⟨y0_0, h0_0⟩ := trod_field hf0 hlen0 0 rfl (n := 1) (by kernel_rfl)
    obtain ⟨n1, r1, w1⟩ := (Opens.int Try.underlying3) enc w held _ _ _ h0_0
    injection (show [c0] = [.int .i64 n1] from r1) with e1; subst e1
    obtain ⟨y0_1, h0_1⟩ := trod_field hf0 hlen0 1 rfl (n := 1) (by kernel_rfl)
    obtain ⟨n2, r2, w2⟩ := (Opens.int Try.underlying3) enc w held _ _ _ h0_1
    injection (show [c1] = [.int .i64 n2] from r2) with e2; subst e2
    exact ⟨(api_Link.mk n1 n2), rfl, ⟨w1, w2⟩⟩

def Wf_api_Slot (x : api_Slot) : Prop := (Lit.int .i64 x.Device).wf = true ∧ (Lit.int .i64 x.Worker).wf = true ∧ (Lit.int .u64 x.Start).wf = true ∧ (Lit.int .u64 x.End).wf = true
theorem opens_api_Slot : Opens Try.prog 38 kd_api_Slot Wf_api_Slot := by
  intro H enc w held fuel cs x h
  have hl : cs.length = 4 := by
    obtain ⟨_, _, _, _, hl, _⟩ := DataW.trod_struct Try.underlying38 h
    rw [hl]; kernel_rfl
  match cs, hl with
  | [c0, c1, c2, c3], _ =>
    obtain ⟨ys0, m0, _, _, _, hlen0, hf0⟩ := DataW.trod_struct Try.underlying38 h
    obtain ⟨y0_0, h0_0⟩ := trod_field hf0 hlen0 0 rfl (n := 1) (by kernel_rfl)
    obtain ⟨n1, r1, w1⟩ := (Opens.int Try.underlying3) enc w held _ _ _ h0_0
    injection (show [c0] = [.int .i64 n1] from r1) with e1; subst e1
    obtain ⟨y0_1, h0_1⟩ := trod_field hf0 hlen0 1 rfl (n := 1) (by kernel_rfl)
    obtain ⟨n2, r2, w2⟩ := (Opens.int Try.underlying3) enc w held _ _ _ h0_1
    injection (show [c1] = [.int .i64 n2] from r2) with e2; subst e2
    obtain ⟨y0_2, h0_2⟩ := trod_field hf0 hlen0 2 rfl (n := 1) (by kernel_rfl)
    obtain ⟨n3, r3, w3⟩ := (Opens.int Try.underlying33) enc w held _ _ _ h0_2
    injection (show [c2] = [.int .u64 n3] from r3) with e3; subst e3
    obtain ⟨y0_3, h0_3⟩ := trod_field hf0 hlen0 3 rfl (n := 1) (by kernel_rfl)
    obtain ⟨n4, r4, w4⟩ := (Opens.int Try.underlying33) enc w held _ _ _ h0_3
    injection (show [c3] = [.int .u64 n4] from r4) with e4; subst e4
    exact ⟨(api_Slot.mk n1 n2 n3 n4), rfl, ⟨w1, w2, w3, w4⟩⟩


end Go.Proofs.Ythmjgadmadlpkaa.Sim

namespace Go.Proofs.Ythmjgadmadlpkaa.Sim
open Go
set_option linter.unusedVariables false
set_option linter.unusedSimpArgs false

/-! ### law31_ResumeVerifyAgrees: function 8 -/
def law31_ResumeVerifyAgrees.f (p0 : Int) (p1 : List api_Link) (p2 : List Int) (p3 : Int) (p4 : List api_Slot) (p5 : Int) (p6 : Int) (p7 : Int) : Option (Bool) := if ((decide (40 < (p1.length : Int))) || (decide (20 < (p4.length : Int)))) = true then ((law31_awake.f ).bind fun r20 => some r20) else ((law24_Graph.f p0 p1 true).bind fun r27 => (help_Mod.f p3 4).bind fun r41 => (law31_durations.f r27.1 p2).bind fun r49 => (resume_Verify.f r27.1 r27.2 r49 (wi (1 + r41)) p4).bind fun r63 => (ref31_Verify.f r27.1 r27.2 r49 (wi (1 + r41)) p4).bind fun r72 => (if (r63 != r72) = true then some true else (resume_Verify.f p0 p1 p2 p3 p4).bind fun r84 => (ref31_Verify.f p0 p1 p2 p3 p4).bind fun r93 => some (r84 != r93)).bind fun t98 => if t98 = true then (some false) else ((ref31_Schedule.f r27.1 r27.2 r49 (wi (1 + r41))).bind fun r144 => if ((r144.1.length : Int) == 0) = true then ((law31_awake.f ).bind fun r161 => some r161) else ((help_Mod.f p5 (r144.1.length : Int)).bind fun r169 => (if ((Int.tmod p7 6) == 0) = true then ((help_Mod.f (wi ((Int.tmod p6 8))) (wi ((wi (1 + r41)) + 1))).bind fun r193 => (idx r144.1 r169).bind fun x197 => some (upd r144.1 r169 ({ x197 with Worker := r193 } : api_Slot))) else (if ((Int.tmod p7 6) == 1) = true then ((idx r144.1 r169).bind fun x206 => (idx (upd r144.1 r169 ({ x206 with Start := wu (x206.Start + (Int.tmod p6 4)) } : api_Slot)) r169).bind fun x208 => some (upd (upd r144.1 r169 ({ x206 with Start := wu (x206.Start + (Int.tmod p6 4)) } : api_Slot)) r169 ({ x208 with End := wu (x206.End + (Int.tmod p6 4)) } : api_Slot))) else (if ((Int.tmod p7 6) == 2) = true then ((idx r144.1 r169).bind fun x248 => some (upd r144.1 r169 ({ x248 with Device := wi ((wi ((Int.tmod p6 15))) - 1) } : api_Slot))) else (if ((Int.tmod p7 6) == 3) = true then ((idx r144.1 r169).bind fun x261 => some (upd r144.1 r169 ({ x261 with End := wu (x261.End + (Int.tmod p6 3)) } : api_Slot))) else (if ((Int.tmod p7 6) == 4) = true then ((idx r144.1 r169).bind fun x276 => (idx (upd r144.1 r169 ({ x276 with Start := wu (x276.Start - (Int.tmod p6 3)) } : api_Slot)) r169).bind fun x278 => some (upd (upd r144.1 r169 ({ x276 with Start := wu (x276.Start - (Int.tmod p6 3)) } : api_Slot)) r169 ({ x278 with End := wu (x276.End - (Int.tmod p6 3)) } : api_Slot))) else ((slc r144.1 1 (r144.1.length : Int)).bind fun y310 => some y310))))) : Option ((List api_Slot))).bind fun v178 => (resume_Verify.f r27.1 r27.2 r49 (wi (1 + r41)) v178).bind fun r321 => (ref31_Verify.f r27.1 r27.2 r49 (wi (1 + r41)) v178).bind fun r330 => (if (r321 == r330) = true then (law31_awake.f ).bind fun r337 => some r337 else some false).bind fun t341 => some t341)))
set_option maxRecDepth 100000 in
set_option maxHeartbeats 4000000 in
theorem law31_ResumeVerifyAgrees.calls {p0 : Int} {p1 : List api_Link} {A1 : Option Addr} {cap1 : Nat} {C1 : Nat → Prop} {p2 : List Int} {A2 : Option Addr} {cap2 : Nat} {C2 : Nat → Prop} {p3 : Int} {p4 : List api_Slot} {A4 : Option Addr} {cap4 : Nat} {C4 : Nat → Prop} {p5 : Int} {p6 : Int} {p7 : Int} {w : World} {g : Nat → Nat} {out : Bool} (N : Nat) (hp1 : RdS kd_api_Link w g C1 A1 cap1 p1) (hC1 : ∀ c, C1 c → c < N) (hp2 : RdS (kint .u64) w g C2 A2 cap2 p2) (hC2 : ∀ c, C2 c → c < N) (hp4 : RdS kd_api_Slot w g C4 A4 cap4 p4) (hC4 : ∀ c, C4 c → c < N) (H : law31_ResumeVerifyAgrees.f p0 p1 p2 p3 p4 p5 p6 p7 = some out) :
  Calls Try.prog 8 #[.int .i64 p0, .slice A1 p1.length cap1, .slice A2 p2.length cap2, .int .i64 p3, .slice A4 p4.length cap4, .int .i64 p5, .int .u64 p6, .int .u8 p7] w (fun e w' => ∃ v, e = .returned v ∧ ∃ (g' : Nat → Nat), v = .bool out ∧ Fr (fun q => N ≤ q) w g w' g') := by
 unfold law31_ResumeVerifyAgrees.f at H
 refine calls_enter Try.func8 rfl Try.ntmps8 rfl (fun a hS => ?_)
 replace hS : Sl 197 a [(0, .int .i64 p0), (1, .slice A1 p1.length cap1), (2, .slice A2 p2.length cap2), (3, .int .i64 p3), (4, .slice A4 p4.length cap4), (5, .int .i64 p5), (6, .int .u64 p6), (7, .int .u8 p7)] := hS
 have hF : Fr (fun q => N ≤ q) w g w g := Fr.refl _ _ _
 refine c_pure [(0, .int .i64 p0), (1, .slice A1 p1.length cap1), (2, .slice A2 p2.length cap2), (3, .int .i64 p3), (4, .slice A4 p4.length cap4), (5, .int .i64 p5), (6, .int .u64 p6), (7, .int .u8 p7)] (fun R hR => st_val hS rfl rfl rfl (r_assign hS rfl rfl) fun a1 hS1 => wpList_nil (hR _ (hS1.re ⟨rfl, rfl, rfl, rfl, rfl, rfl, rfl, rfl, trivial⟩))) ?_
 clear hS
 clear a
 intro a hS
 refine wp_seq ?_
 refine c_region (fun K hK => ?_)
 refine st_val hS rfl rfl rfl (r_move hS rfl rfl) fun a2 hS2 => st_val hS2 rfl rfl rfl (r_len (e := 43) (sz := 2) (by_ := 16) hS2 rfl rfl (by kernel_rfl)) fun a3 hS3 => st_val hS3 rfl rfl rfl (r_bin hS3 rfl rfl rfl b_gtr) fun a4 hS4 => st_val hS4 rfl rfl rfl (r_move hS4 rfl rfl) fun a5 hS5 => ?_
 refine g_join (N := 197) 4 [(0, .int .i64 p0), (1, .slice A1 p1.length cap1), (2, .slice A2 p2.length cap2), (3, .int .i64 p3), (4, .slice A4 p4.length cap4), (5, .int .i64 p5), (6, .int .u64 p6), (7, .int .u8 p7), (31, .bool ((decide (40 < (p1.length : Int))) || (decide (20 < (p4.length : Int)))))] ?_ (fun hk => ?_)
 rotate_left
 ·rcases Bool.eq_false_or_eq_true (decide (40 < (p1.length : Int))) with hb6 | hb6
  ·refine st_off hS5 (want_off hS5 rfl rfl rfl hb6) rfl rfl fun a10 hS10 => st_off hS10 (want_off hS10 rfl rfl rfl hb6) rfl rfl fun a11 hS11 => st_off hS11 (want_off hS11 rfl rfl rfl hb6) rfl rfl fun a12 hS12 => st_val hS12 rfl rfl rfl (r_pickT hS12 rfl rfl rfl hb6) fun a13 hS13 => hk _ (hS13.re ⟨rfl, rfl, rfl, rfl, rfl, rfl, rfl, rfl, (by rw [hb6]; rfl), trivial⟩)
  ·refine st_valW hS5 (want_on hS5 rfl rfl rfl hb6) rfl rfl (r_move hS5 rfl rfl) fun a14 hS14 => st_valW hS14 (want_on hS14 rfl rfl rfl hb6) rfl rfl (r_len (e := 38) (sz := 4) (by_ := 32) hS14 rfl rfl (by kernel_rfl)) fun a15 hS15 => st_valW hS15 (want_on hS15 rfl rfl rfl hb6) rfl rfl (r_bin hS15 rfl rfl rfl b_gtr) fun a16 hS16 => st_val hS16 rfl rfl rfl (r_pickF hS16 rfl rfl rfl hb6) fun a17 hS17 => hk _ (hS17.re ⟨rfl, rfl, rfl, rfl, rfl, rfl, rfl, rfl, (by rw [hb6]; rfl), trivial⟩)
 intro a18 hS18
 refine wpList_nil (hK _ _ ?_)
 replace hS : Sl 197 _ [(0, .int .i64 p0), (1, .slice A1 p1.length cap1), (2, .slice A2 p2.length cap2), (3, .int .i64 p3), (4, .slice A4 p4.length cap4), (5, .int .i64 p5), (6, .int .u64 p6), (7, .int .u8 p7), (31, .bool ((decide (40 < (p1.length : Int))) || (decide (20 < (p4.length : Int)))))] := hS18.re ⟨rfl, rfl, rfl, rfl, rfl, rfl, rfl, rfl, rfl, trivial⟩
 clear hK K
 try clear hS2 hS3 hS4 hS5 hS18
 obtain ⟨a, ha⟩ : ∃ a', a' = a18 := ⟨_, rfl⟩
 rw [← ha] at hS ⊢; clear ha
 refine c_cond hS rfl (fun hb19 => ?_) (fun hb19 => ?_)
 ·replace H := ite_t hb19 H
  obtain ⟨r20, hr21, H⟩ := bind_el H
  refine c_region (fun K hK => ?_)
  refine st_enter hS rfl rfl rfl (r_call hS rfl rfl (by kernel_rfl)) (law31_awake.calls (g := g) (N + 6)   hr21) ?_
  rintro _ a22 w23 ⟨g23, rfl, F23⟩ hS22
  replace hp1 := RdS.fr hp1 F23 (by decide) (fun q (hq : C1 q) (hm : N + 6 ≤ q) => by have := hC1 q hq; omega)
  replace hp2 := RdS.fr hp2 F23 (by decide) (fun q (hq : C2 q) (hm : N + 6 ≤ q) => by have := hC2 q hq; omega)
  replace hp4 := RdS.fr hp4 F23 (by decide) (fun q (hq : C4 q) (hm : N + 6 ≤ q) => by have := hC4 q hq; omega)
  replace hF := hF.trans F23 (fun c' (hm : N + 6 ≤ c') => by show N ≤ c'; omega)
  refine st_val hS22 rfl rfl rfl (r_assign hS22 rfl rfl) fun a24 hS24 => wpList_nil (hK _ _ ?_)
  replace hS : Sl 197 _ [(16, .bool r20)] := hS24.re ⟨rfl, trivial⟩
  clear hK K
  try clear hS22 hS24
  obtain ⟨a, ha⟩ : ∃ a', a' = a24 := ⟨_, rfl⟩
  rw [← ha] at hS ⊢; clear ha
  refine wp_ret ?_
  have e := Option.some.inj H
  subst e
  repeat (with_reducible first | refine then_ret ?_ | refine inBlock_ret ?_)
  exact c_ret1 hS Try.results8 rfl ⟨_, rfl, g23, rfl, hF⟩
 ·replace H := ite_f hb19 H
  refine wp_skip ?_
  change Code.wp _ _ _ _ _
  obtain ⟨r27, hr28, H⟩ := bind_el H
  refine c_region (fun K hK => ?_)
  refine st_val hS rfl rfl rfl (r_move hS rfl rfl) fun a25 hS25 => st_val hS25 rfl rfl rfl (r_move hS25 rfl rfl) fun a26 hS26 => ?_
  refine st_enter hS26 rfl rfl rfl (r_call hS26 rfl rfl (by kernel_rfl)) (law24_Graph.calls (C1 := C1) (p0 := p0) (p1 := p1) (p2 := true) (g := g) (N + 6) (N + 0) hp1 (fun q (hq : C1 q) => by have := hC1 q hq; omega) (by omega) hr28) ?_
  rintro _ a33 w34 ⟨g34, A29, cap30, rfl, h31, F34⟩ hS33
  replace hp1 := RdS.fr hp1 F34 (by decide) (fun q (hq : C1 q) (hm : (N + 0 ≤ q ∧ q < N + 0 + 2) ∨ N + 6 ≤ q) => by have := hC1 q hq; omega)
  replace hp2 := RdS.fr hp2 F34 (by decide) (fun q (hq : C2 q) (hm : (N + 0 ≤ q ∧ q < N + 0 + 2) ∨ N + 6 ≤ q) => by have := hC2 q hq; omega)
  replace hp4 := RdS.fr hp4 F34 (by decide) (fun q (hq : C4 q) (hm : (N + 0 ≤ q ∧ q < N + 0 + 2) ∨ N + 6 ≤ q) => by have := hC4 q hq; omega)
  replace hF := hF.trans F34 (fun c' (hm : (N + 0 ≤ c' ∧ c' < N + 0 + 2) ∨ N + 6 ≤ c') => by show N ≤ c'; omega)
  refine st_val hS33 rfl rfl rfl (r_move hS33 rfl rfl) fun a35 hS35 => st_val hS35 rfl rfl rfl (r_extract hS35 rfl rfl rfl) fun a36 hS36 => st_val hS36 rfl rfl rfl (r_extract hS36 rfl rfl rfl) fun a37 hS37 => st_val hS37 rfl rfl rfl (r_assign hS37 rfl rfl) fun a38 hS38 => st_val hS38 rfl rfl rfl (r_assign hS38 rfl rfl) fun a39 hS39 => wpList_nil (hK _ _ ?_)
  replace hS : Sl 197 _ [(0, .int .i64 p0), (1, .slice A1 p1.length cap1), (2, .slice A2 p2.length cap2), (3, .int .i64 p3), (4, .slice A4 p4.length cap4), (5, .int .i64 p5), (6, .int .u64 p6), (7, .int .u8 p7), (17, .int .i64 r27.1), (18, .slice A29 r27.2.length cap30)] := hS39.re ⟨rfl, rfl, rfl, rfl, rfl, rfl, rfl, rfl, rfl, rfl, trivial⟩
  clear hK K
  try clear hS25 hS26 hS33 hS35 hS36 hS37 hS38 hS39
  obtain ⟨a, ha⟩ : ∃ a', a' = a39 := ⟨_, rfl⟩
  rw [← ha] at hS ⊢; clear ha
  obtain ⟨r41, hr42, H⟩ := bind_el H
  refine c_region (fun K hK => ?_)
  refine st_val hS rfl rfl rfl (r_move hS rfl rfl) fun a40 hS40 => ?_
  refine st_enter hS40 rfl rfl rfl (r_call hS40 rfl rfl (by kernel_rfl)) (help_Mod.calls (p0 := p3) (p1 := 4) (g := g34) (N + 6)   hr42) ?_
  rintro _ a43 w44 ⟨g44, rfl, F44⟩ hS43
  replace h31 := OwS.fr h31 F44 (fun c' hc (hm : N + 6 ≤ c') => by omega)
  replace hp1 := RdS.fr hp1 F44 (by decide) (fun q (hq : C1 q) (hm : N + 6 ≤ q) => by have := hC1 q hq; omega)
  replace hp2 := RdS.fr hp2 F44 (by decide) (fun q (hq : C2 q) (hm : N + 6 ≤ q) => by have := hC2 q hq; omega)
  replace hp4 := RdS.fr hp4 F44 (by decide) (fun q (hq : C4 q) (hm : N + 6 ≤ q) => by have := hC4 q hq; omega)
  replace hF := hF.trans F44 (fun c' (hm : N + 6 ≤ c') => by show N ≤ c'; omega)
  refine st_val hS43 rfl rfl rfl (r_bin hS43 rfl rfl rfl b_add) fun a45 hS45 => st_val hS45 rfl rfl rfl (r_assign hS45 rfl rfl) fun a46 hS46 => wpList_nil (hK _ _ ?_)
  replace hS : Sl 197 _ [(0, .int .i64 p0), (1, .slice A1 p1.length cap1), (2, .slice A2 p2.length cap2), (3, .int .i64 p3), (4, .slice A4 p4.length cap4), (5, .int .i64 p5), (6, .int .u64 p6), (7, .int .u8 p7), (17, .int .i64 r27.1), (18, .slice A29 r27.2.length cap30), (19, .int .i64 (wi (1 + r41)))] := hS46.re ⟨rfl, rfl, rfl, rfl, rfl, rfl, rfl, rfl, rfl, rfl, rfl, trivial⟩
  clear hK K
  try clear hS40 hS43 hS45 hS46
  obtain ⟨a, ha⟩ : ∃ a', a' = a46 := ⟨_, rfl⟩
  rw [← ha] at hS ⊢; clear ha
  obtain ⟨r49, hr50, H⟩ := bind_el H
  refine c_region (fun K hK => ?_)
  refine st_val hS rfl rfl rfl (r_move hS rfl rfl) fun a47 hS47 => st_val hS47 rfl rfl rfl (r_move hS47 rfl rfl) fun a48 hS48 => ?_
  refine st_enter hS48 rfl rfl rfl (r_call hS48 rfl rfl (by kernel_rfl)) (law31_durations.calls (C1 := C2) (p0 := r27.1) (p1 := p2) (g := g44) (N + 6) (N + 2) hp2 (fun q (hq : C2 q) => by have := hC2 q hq; omega) (by omega) hr50) ?_
  rintro _ a55 w56 ⟨g56, A51, cap52, rfl, h53, F56⟩ hS55
  replace h31 := OwS.fr h31 F56 (fun c' hc (hm : (N + 2 ≤ c' ∧ c' < N + 2 + 2) ∨ N + 6 ≤ c') => by omega)
  replace hp1 := RdS.fr hp1 F56 (by decide) (fun q (hq : C1 q) (hm : (N + 2 ≤ q ∧ q < N + 2 + 2) ∨ N + 6 ≤ q) => by have := hC1 q hq; omega)
  replace hp2 := RdS.fr hp2 F56 (by decide) (fun q (hq : C2 q) (hm : (N + 2 ≤ q ∧ q < N + 2 + 2) ∨ N + 6 ≤ q) => by have := hC2 q hq; omega)
  replace hp4 := RdS.fr hp4 F56 (by decide) (fun q (hq : C4 q) (hm : (N + 2 ≤ q ∧ q < N + 2 + 2) ∨ N + 6 ≤ q) => by have := hC4 q hq; omega)
  replace hF := hF.trans F56 (fun c' (hm : (N + 2 ≤ c' ∧ c' < N + 2 + 2) ∨ N + 6 ≤ c') => by show N ≤ c'; omega)
  refine st_val hS55 rfl rfl rfl (r_assign hS55 rfl rfl) fun a57 hS57 => wpList_nil (hK _ _ ?_)
  replace hS : Sl 197 _ [(0, .int .i64 p0), (1, .slice A1 p1.length cap1), (2, .slice A2 p2.length cap2), (3, .int .i64 p3), (4, .slice A4 p4.length cap4), (5, .int .i64 p5), (6, .int .u64 p6), (7, .int .u8 p7), (17, .int .i64 r27.1), (18, .slice A29 r27.2.length cap30), (19, .int .i64 (wi (1 + r41))), (20, .slice A51 r49.length cap52)] := hS57.re ⟨rfl, rfl, rfl, rfl, rfl, rfl, rfl, rfl, rfl, rfl, rfl, rfl, trivial⟩
  clear hK K
  try clear hS47 hS48 hS55 hS57
  obtain ⟨a, ha⟩ : ∃ a', a' = a57 := ⟨_, rfl⟩
  rw [← ha] at hS ⊢; clear ha
  refine wp_seq ?_
  obtain ⟨r63, hr64, H⟩ := bind_el H
  obtain ⟨r72, hr73, H⟩ := bind_el H
  obtain ⟨t98, ht99, H⟩ := bind_el H
  refine c_region (fun K hK => ?_)
  refine st_val hS rfl rfl rfl (r_move hS rfl rfl) fun a58 hS58 => st_val hS58 rfl rfl rfl (r_move hS58 rfl rfl) fun a59 hS59 => st_val hS59 rfl rfl rfl (r_move hS59 rfl rfl) fun a60 hS60 => st_val hS60 rfl rfl rfl (r_move hS60 rfl rfl) fun a61 hS61 => st_val hS61 rfl rfl rfl (r_move hS61 rfl rfl) fun a62 hS62 => ?_
  refine st_enter hS62 rfl rfl rfl (r_call hS62 rfl rfl (by kernel_rfl)) (resume_Verify.calls (C1 := (fun q => q = N + 0)) (C2 := (fun q => q = N + 2)) (C4 := C4) (p0 := r27.1) (p1 := r27.2) (p2 := r49) (p3 := (wi (1 + r41))) (p4 := p4) (g := g56) (N + 6)  (OwD.rdf (fun _ _ _ _ _ _ h => h) h31) (fun q (hq : q = N + 0) => by omega) (OwD.rdf (fun _ _ _ _ _ _ h => h) h53) (fun q (hq : q = N + 2) => by omega) hp4 (fun q (hq : C4 q) => by have := hC4 q hq; omega) hr64) ?_
  rintro _ a65 w66 ⟨g66, rfl, F66⟩ hS65
  replace h31 := OwS.fr h31 F66 (fun c' hc (hm : N + 6 ≤ c') => by omega)
  replace h53 := OwS.fr h53 F66 (fun c' hc (hm : N + 6 ≤ c') => by omega)
  replace hp1 := RdS.fr hp1 F66 (by decide) (fun q (hq : C1 q) (hm : N + 6 ≤ q) => by have := hC1 q hq; omega)
  replace hp2 := RdS.fr hp2 F66 (by decide) (fun q (hq : C2 q) (hm : N + 6 ≤ q) => by have := hC2 q hq; omega)
  replace hp4 := RdS.fr hp4 F66 (by decide) (fun q (hq : C4 q) (hm : N + 6 ≤ q) => by have := hC4 q hq; omega)
  replace hF := hF.trans F66 (fun c' (hm : N + 6 ≤ c') => by show N ≤ c'; omega)
  refine st_val hS65 rfl rfl rfl (r_move hS65 rfl rfl) fun a67 hS67 => st_val hS67 rfl rfl rfl (r_move hS67 rfl rfl) fun a68 hS68 => st_val hS68 rfl rfl rfl (r_move hS68 rfl rfl) fun a69 hS69 => st_val hS69 rfl rfl rfl (r_move hS69 rfl rfl) fun a70 hS70 => st_val hS70 rfl rfl rfl (r_move hS70 rfl rfl) fun a71 hS71 => ?_
  refine st_enter hS71 rfl rfl rfl (r_call hS71 rfl rfl (by kernel_rfl)) (ref31_Verify.calls (C1 := (fun q => q = N + 0)) (C2 := (fun q => q = N + 2)) (C4 := C4) (p0 := r27.1) (p1 := r27.2) (p2 := r49) (p3 := (wi (1 + r41))) (p4 := p4) (g := g66) (N + 6)  (OwD.rdf (fun _ _ _ _ _ _ h => h) h31) (fun q (hq : q = N + 0) => by omega) (OwD.rdf (fun _ _ _ _ _ _ h => h) h53) (fun q (hq : q = N + 2) => by omega) hp4 (fun q (hq : C4 q) => by have := hC4 q hq; omega) hr73) ?_
  rintro _ a74 w75 ⟨g75, rfl, F75⟩ hS74
  replace h31 := OwS.fr h31 F75 (fun c' hc (hm : N + 6 ≤ c') => by omega)
  replace h53 := OwS.fr h53 F75 (fun c' hc (hm : N + 6 ≤ c') => by omega)
  replace hp1 := RdS.fr hp1 F75 (by decide) (fun q (hq : C1 q) (hm : N + 6 ≤ q) => by have := hC1 q hq; omega)
  replace hp2 := RdS.fr hp2 F75 (by decide) (fun q (hq : C2 q) (hm : N + 6 ≤ q) => by have := hC2 q hq; omega)
  replace hp4 := RdS.fr hp4 F75 (by decide) (fun q (hq : C4 q) (hm : N + 6 ≤ q) => by have := hC4 q hq; omega)
  replace hF := hF.trans F75 (fun c' (hm : N + 6 ≤ c') => by show N ≤ c'; omega)
  refine st_val hS74 rfl rfl rfl (r_bin hS74 rfl rfl rfl b_neq) fun a76 hS76 => st_val hS76 rfl rfl rfl (r_move hS76 rfl rfl) fun a77 hS77 => ?_
  refine g_joinR 14 (fun a w100 => ∃ (g100 : Nat → Nat), Sl 197 a [(5, .int .i64 p5), (6, .int .u64 p6), (7, .int .u8 p7), (17, .int .i64 r27.1), (18, .slice A29 r27.2.length cap30), (19, .int .i64 (wi (1 + r41))), (20, .slice A51 r49.length cap52), (72, .bool t98)] ∧ OwS kd_api_Link 43 w100 g100 (N + 0) A29 cap30 r27.2 ∧ OwS (kint .u64) 33 w100 g100 (N + 2) A51 cap52 r49 ∧ Fr (fun q => N ≤ q) w g w100 g100) ?_ (fun hk => ?_)
  rotate_left
  ·rcases Bool.eq_false_or_eq_true ((r63 != r72)) with hb78 | hb78
   ·have H := ite_t hb78 ht99
    have e101 := Option.some.inj H
    refine st_off hS77 (want_off hS77 rfl rfl rfl hb78) rfl rfl fun a102 hS102 => st_off hS102 (want_off hS102 rfl rfl rfl hb78) rfl rfl fun a103 hS103 => st_off hS103 (want_off hS103 rfl rfl rfl hb78) rfl rfl fun a104 hS104 => st_off hS104 (want_off hS104 rfl rfl rfl hb78) rfl rfl fun a105 hS105 => st_off hS105 (want_off hS105 rfl rfl rfl hb78) rfl rfl fun a106 hS106 => st_off hS106 (want_off hS106 rfl rfl rfl hb78) rfl rfl fun a107 hS107 => st_off hS107 (want_off hS107 rfl rfl rfl hb78) rfl rfl fun a108 hS108 => st_off hS108 (want_off hS108 rfl rfl rfl hb78) rfl rfl fun a109 hS109 => st_off hS109 (want_off hS109 rfl rfl rfl hb78) rfl rfl fun a110 hS110 => st_off hS110 (want_off hS110 rfl rfl rfl hb78) rfl rfl fun a111 hS111 => st_off hS111 (want_off hS111 rfl rfl rfl hb78) rfl rfl fun a112 hS112 => st_off hS112 (want_off hS112 rfl rfl rfl hb78) rfl rfl fun a113 hS113 => st_off hS113 (want_off hS113 rfl rfl rfl hb78) rfl rfl fun a114 hS114 => st_val hS114 rfl rfl rfl (r_pickT hS114 rfl rfl rfl hb78) fun a115 hS115 => hk _ _ ?_
    exact ⟨g75, hS115.re ⟨rfl, rfl, rfl, rfl, rfl, rfl, rfl, (by rw [← e101]; rfl), trivial⟩, h31, h53, hF⟩
   ·have H := ite_f hb78 ht99
    obtain ⟨r121, hr122, H⟩ := bind_el H
    obtain ⟨r130, hr131, H⟩ := bind_el H
    have e135 := Option.some.inj H
    refine st_valW hS77 (want_on hS77 rfl rfl rfl hb78) rfl rfl (r_move hS77 rfl rfl) fun a116 hS116 => st_valW hS116 (want_on hS116 rfl rfl rfl hb78) rfl rfl (r_move hS116 rfl rfl) fun a117 hS117 => st_valW hS117 (want_on hS117 rfl rfl rfl hb78) rfl rfl (r_move hS117 rfl rfl) fun a118 hS118 => st_valW hS118 (want_on hS118 rfl rfl rfl hb78) rfl rfl (r_move hS118 rfl rfl) fun a119 hS119 => st_valW hS119 (want_on hS119 rfl rfl rfl hb78) rfl rfl (r_move hS119 rfl rfl) fun a120 hS120 => ?_
    refine st_enterW hS120 (want_on hS120 rfl rfl rfl hb78) rfl rfl (r_call hS120 rfl rfl (by kernel_rfl)) (resume_Verify.calls (C1 := C1) (C2 := C2) (C4 := C4) (p0 := p0) (p1 := p1) (p2 := p2) (p3 := p3) (p4 := p4) (g := g75) (N + 6)  hp1 (fun q (hq : C1 q) => by have := hC1 q hq; omega) hp2 (fun q (hq : C2 q) => by have := hC2 q hq; omega) hp4 (fun q (hq : C4 q) => by have := hC4 q hq; omega) hr122) ?_
    rintro _ a123 w124 ⟨g124, rfl, F124⟩ hS123
    replace h31 := OwS.fr h31 F124 (fun c' hc (hm : N + 6 ≤ c') => by omega)
    replace h53 := OwS.fr h53 F124 (fun c' hc (hm : N + 6 ≤ c') => by omega)
    replace hp1 := RdS.fr hp1 F124 (by decide) (fun q (hq : C1 q) (hm : N + 6 ≤ q) => by have := hC1 q hq; omega)
    replace hp2 := RdS.fr hp2 F124 (by decide) (fun q (hq : C2 q) (hm : N + 6 ≤ q) => by have := hC2 q hq; omega)
    replace hp4 := RdS.fr hp4 F124 (by decide) (fun q (hq : C4 q) (hm : N + 6 ≤ q) => by have := hC4 q hq; omega)
    replace hF := hF.trans F124 (fun c' (hm : N + 6 ≤ c') => by show N ≤ c'; omega)
    refine st_valW hS123 (want_on hS123 rfl rfl rfl hb78) rfl rfl (r_move hS123 rfl rfl) fun a125 hS125 => st_valW hS125 (want_on hS125 rfl rfl rfl hb78) rfl rfl (r_move hS125 rfl rfl) fun a126 hS126 => st_valW hS126 (want_on hS126 rfl rfl rfl hb78) rfl rfl (r_move hS126 rfl rfl) fun a127 hS127 => st_valW hS127 (want_on hS127 rfl rfl rfl hb78) rfl rfl (r_move hS127 rfl rfl) fun a128 hS128 => st_valW hS128 (want_on hS128 rfl rfl rfl hb78) rfl rfl (r_move hS128 rfl rfl) fun a129 hS129 => ?_
    refine st_enterW hS129 (want_on hS129 rfl rfl rfl hb78) rfl rfl (r_call hS129 rfl rfl (by kernel_rfl)) (ref31_Verify.calls (C1 := C1) (C2 := C2) (C4 := C4) (p0 := p0) (p1 := p1) (p2 := p2) (p3 := p3) (p4 := p4) (g := g124) (N + 6)  hp1 (fun q (hq : C1 q) => by have := hC1 q hq; omega) hp2 (fun q (hq : C2 q) => by have := hC2 q hq; omega) hp4 (fun q (hq : C4 q) => by have := hC4 q hq; omega) hr131) ?_
    rintro _ a132 w133 ⟨g133, rfl, F133⟩ hS132
    replace h31 := OwS.fr h31 F133 (fun c' hc (hm : N + 6 ≤ c') => by omega)
    replace h53 := OwS.fr h53 F133 (fun c' hc (hm : N + 6 ≤ c') => by omega)
    replace hp1 := RdS.fr hp1 F133 (by decide) (fun q (hq : C1 q) (hm : N + 6 ≤ q) => by have := hC1 q hq; omega)
    replace hp2 := RdS.fr hp2 F133 (by decide) (fun q (hq : C2 q) (hm : N + 6 ≤ q) => by have := hC2 q hq; omega)
    replace hp4 := RdS.fr hp4 F133 (by decide) (fun q (hq : C4 q) (hm : N + 6 ≤ q) => by have := hC4 q hq; omega)
    replace hF := hF.trans F133 (fun c' (hm : N + 6 ≤ c') => by show N ≤ c'; omega)
    refine st_valW hS132 (want_on hS132 rfl rfl rfl hb78) rfl rfl (r_bin hS132 rfl rfl rfl b_neq) fun a134 hS134 => ?_
    refine st_val hS134 rfl rfl rfl (r_pickF hS134 rfl rfl rfl hb78) fun a136 hS136 => hk _ _ ?_
    exact ⟨g133, hS136.re ⟨rfl, rfl, rfl, rfl, rfl, rfl, rfl, (by rw [← e135]; rfl), trivial⟩, h31, h53, hF⟩
  rintro a137 w100 ⟨g100, hS137, h31, h53, hF⟩
  refine wpList_nil (hK _ _ ?_)
  replace hS : Sl 197 _ [(5, .int .i64 p5), (6, .int .u64 p6), (7, .int .u8 p7), (17, .int .i64 r27.1), (18, .slice A29 r27.2.length cap30), (19, .int .i64 (wi (1 + r41))), (20, .slice A51 r49.length cap52), (72, .bool t98)] := hS137.re ⟨rfl, rfl, rfl, rfl, rfl, rfl, rfl, rfl, trivial⟩
  clear hK K
  try clear hS58 hS59 hS60 hS61 hS62 hS65 hS67 hS68 hS69 hS70 hS71 hS74 hS76 hS77 hS137
  obtain ⟨a, ha⟩ : ∃ a', a' = a137 := ⟨_, rfl⟩
  rw [← ha] at hS ⊢; clear ha
  refine c_cond hS rfl (fun hb138 => ?_) (fun hb138 => ?_)
  ·replace H := ite_t hb138 H
   refine c_pure [(16, .bool false)] (fun R hR => st_val hS rfl rfl rfl (r_assign hS rfl rfl) fun a139 hS139 => wpList_nil (hR _ (hS139.re ⟨rfl, trivial⟩))) ?_
   clear hS
   clear a
   intro a hS
   refine wp_ret ?_
   have e := Option.some.inj H
   subst e
   repeat (with_reducible first | refine then_ret ?_ | refine inBlock_ret ?_)
   exact c_ret1 hS Try.results8 rfl ⟨_, rfl, g100, rfl, hF⟩
  ·replace H := ite_f hb138 H
   refine wp_skip ?_
   change Code.wp _ _ _ _ _
   obtain ⟨r144, hr145, H⟩ := bind_el H
   refine c_region (fun K hK => ?_)
   refine st_val hS rfl rfl rfl (r_move hS rfl rfl) fun a140 hS140 => st_val hS140 rfl rfl rfl (r_move hS140 rfl rfl) fun a141 hS141 => st_val hS141 rfl rfl rfl (r_move hS141 rfl rfl) fun a142 hS142 => st_val hS142 rfl rfl rfl (r_move hS142 rfl rfl) fun a143 hS143 => ?_
   refine st_enter hS143 rfl rfl rfl (r_call hS143 rfl rfl (by kernel_rfl)) (ref31_Schedule.calls (C1 := (fun q => q = N + 0)) (C2 := (fun q => q = N + 2)) (p0 := r27.1) (p1 := r27.2) (p2 := r49) (p3 := (wi (1 + r41))) (g := g100) (N + 6) (N + 4) (OwD.rdf (fun _ _ _ _ _ _ h => h) h31) (fun q (hq : q = N + 0) => by omega) (OwD.rdf (fun _ _ _ _ _ _ h => h) h53) (fun q (hq : q = N + 2) => by omega) (by omega) hr145) ?_
   rintro _ a150 w151 ⟨g151, A146, cap147, rfl, h148, F151⟩ hS150
   replace h31 := OwS.fr h31 F151 (fun c' hc (hm : (N + 4 ≤ c' ∧ c' < N + 4 + 2) ∨ N + 6 ≤ c') => by omega)
   replace h53 := OwS.fr h53 F151 (fun c' hc (hm : (N + 4 ≤ c' ∧ c' < N + 4 + 2) ∨ N + 6 ≤ c') => by omega)
   replace hF := hF.trans F151 (fun c' (hm : (N + 4 ≤ c' ∧ c' < N + 4 + 2) ∨ N + 6 ≤ c') => by show N ≤ c'; omega)
   refine st_val hS150 rfl rfl rfl (r_move hS150 rfl rfl) fun a152 hS152 => st_val hS152 rfl rfl rfl (r_extract hS152 rfl rfl rfl) fun a153 hS153 => st_val hS153 rfl rfl rfl (r_extract hS153 rfl rfl rfl) fun a154 hS154 => st_val hS154 rfl rfl rfl (r_assign hS154 rfl rfl) fun a155 hS155 => st_val hS155 rfl rfl rfl (r_assign hS155 rfl rfl) fun a156 hS156 => wpList_nil (hK _ _ ?_)
   replace hS : Sl 197 _ [(5, .int .i64 p5), (6, .int .u64 p6), (7, .int .u8 p7), (17, .int .i64 r27.1), (18, .slice A29 r27.2.length cap30), (19, .int .i64 (wi (1 + r41))), (20, .slice A51 r49.length cap52), (21, .slice A146 r144.1.length cap147)] := hS156.re ⟨rfl, rfl, rfl, rfl, rfl, rfl, rfl, rfl, trivial⟩
   clear hK K
   try clear hS140 hS141 hS142 hS143 hS150 hS152 hS153 hS154 hS155 hS156
   obtain ⟨a, ha⟩ : ∃ a', a' = a156 := ⟨_, rfl⟩
   rw [← ha] at hS ⊢; clear ha
   refine wp_seq ?_
   refine c_pure [(5, .int .i64 p5), (6, .int .u64 p6), (7, .int .u8 p7), (17, .int .i64 r27.1), (18, .slice A29 r27.2.length cap30), (19, .int .i64 (wi (1 + r41))), (20, .slice A51 r49.length cap52), (21, .slice A146 r144.1.length cap147), (83, .bool ((r144.1.length : Int) == 0))] (fun R hR => st_val hS rfl rfl rfl (r_move hS rfl rfl) fun a157 hS157 => st_val hS157 rfl rfl rfl (r_len (e := 38) (sz := 4) (by_ := 32) hS157 rfl rfl (by kernel_rfl)) fun a158 hS158 => st_val hS158 rfl rfl rfl (r_bin hS158 rfl rfl rfl b_eql) fun a159 hS159 => wpList_nil (hR _ (hS159.re ⟨rfl, rfl, rfl, rfl, rfl, rfl, rfl, rfl, rfl, trivial⟩))) ?_
   clear hS
   clear a
   intro a hS
   refine c_cond hS rfl (fun hb160 => ?_) (fun hb160 => ?_)
   ·replace H := ite_t hb160 H
    obtain ⟨r161, hr162, H⟩ := bind_el H
    refine c_region (fun K hK => ?_)
    refine st_enter hS rfl rfl rfl (r_call hS rfl rfl (by kernel_rfl)) (law31_awake.calls (g := g151) (N + 6)   hr162) ?_
    rintro _ a163 w164 ⟨g164, rfl, F164⟩ hS163
    replace h148 := OwS.fr h148 F164 (fun c' hc (hm : N + 6 ≤ c') => by omega)
    replace h31 := OwS.fr h31 F164 (fun c' hc (hm : N + 6 ≤ c') => by omega)
    replace h53 := OwS.fr h53 F164 (fun c' hc (hm : N + 6 ≤ c') => by omega)
    replace hF := hF.trans F164 (fun c' (hm : N + 6 ≤ c') => by show N ≤ c'; omega)
    refine st_val hS163 rfl rfl rfl (r_assign hS163 rfl rfl) fun a165 hS165 => wpList_nil (hK _ _ ?_)
    replace hS : Sl 197 _ [(16, .bool r161)] := hS165.re ⟨rfl, trivial⟩
    clear hK K
    try clear hS163 hS165
    obtain ⟨a, ha⟩ : ∃ a', a' = a165 := ⟨_, rfl⟩
    rw [← ha] at hS ⊢; clear ha
    refine wp_ret ?_
    have e := Option.some.inj H
    subst e
    repeat (with_reducible first | refine then_ret ?_ | refine inBlock_ret ?_)
    exact c_ret1 hS Try.results8 rfl ⟨_, rfl, g164, rfl, hF⟩
   ·replace H := ite_f hb160 H
    refine wp_skip ?_
    change Code.wp _ _ _ _ _
    obtain ⟨r169, hr170, H⟩ := bind_el H
    refine c_region (fun K hK => ?_)
    refine st_val hS rfl rfl rfl (r_move hS rfl rfl) fun a166 hS166 => st_val hS166 rfl rfl rfl (r_move hS166 rfl rfl) fun a167 hS167 => st_val hS167 rfl rfl rfl (r_len (e := 38) (sz := 4) (by_ := 32) hS167 rfl rfl (by kernel_rfl)) fun a168 hS168 => ?_
    refine st_enter hS168 rfl rfl rfl (r_call hS168 rfl rfl (by kernel_rfl)) (help_Mod.calls (p0 := p5) (p1 := (r144.1.length : Int)) (g := g151) (N + 6)   hr170) ?_
    rintro _ a171 w172 ⟨g172, rfl, F172⟩ hS171
    replace h148 := OwS.fr h148 F172 (fun c' hc (hm : N + 6 ≤ c') => by omega)
    replace h31 := OwS.fr h31 F172 (fun c' hc (hm : N + 6 ≤ c') => by omega)
    replace h53 := OwS.fr h53 F172 (fun c' hc (hm : N + 6 ≤ c') => by omega)
    replace hF := hF.trans F172 (fun c' (hm : N + 6 ≤ c') => by show N ≤ c'; omega)
    refine st_val hS171 rfl rfl rfl (r_assign hS171 rfl rfl) fun a173 hS173 => wpList_nil (hK _ _ ?_)
    replace hS : Sl 197 _ [(6, .int .u64 p6), (7, .int .u8 p7), (17, .int .i64 r27.1), (18, .slice A29 r27.2.length cap30), (19, .int .i64 (wi (1 + r41))), (20, .slice A51 r49.length cap52), (21, .slice A146 r144.1.length cap147), (23, .int .i64 r169)] := hS173.re ⟨rfl, rfl, rfl, rfl, rfl, rfl, rfl, rfl, trivial⟩
    clear hK K
    try clear hS166 hS167 hS168 hS171 hS173
    obtain ⟨a, ha⟩ : ∃ a', a' = a173 := ⟨_, rfl⟩
    rw [← ha] at hS ⊢; clear ha
    obtain ⟨v178, H, Hl180⟩ := bind_el H
    refine c_cut (fun a w174 => ∃ (g174 : Nat → Nat), ∃ (A175 : Option Addr), ∃ (cap176 : Nat), Sl 197 a [(17, .int .i64 r27.1), (18, .slice A29 r27.2.length cap30), (19, .int .i64 (wi (1 + r41))), (20, .slice A51 r49.length cap52), (21, .slice A175 v178.length cap176)] ∧ OwS kd_api_Link 43 w174 g174 (N + 0) A29 cap30 r27.2 ∧ OwS (kint .u64) 33 w174 g174 (N + 2) A51 cap52 r49 ∧ RdS kd_api_Slot w174 g174 (fun q => q = N + 4 ∨ q = N + 4 + 1) A175 cap176 v178 ∧ Fr (fun q => N ≤ q) w g w174 g174) ?_ ?_
    ·refine c_pure [(6, .int .u64 p6), (17, .int .i64 r27.1), (18, .slice A29 r27.2.length cap30), (19, .int .i64 (wi (1 + r41))), (20, .slice A51 r49.length cap52), (21, .slice A146 r144.1.length cap147), (23, .int .i64 r169), (90, .int .u8 (Int.tmod p7 6))] (fun R hR => st_val hS rfl rfl rfl (r_move hS rfl rfl) fun a181 hS181 => st_val hS181 rfl rfl rfl (r_bin hS181 rfl rfl rfl (b_rem (by decide))) fun a182 hS182 => wpList_nil (hR _ (hS182.re ⟨rfl, rfl, rfl, rfl, rfl, rfl, rfl, rfl, trivial⟩))) ?_
     clear hS
     clear a
     intro a hS
     refine wp_block ?_
     refine c_pure [(6, .int .u64 p6), (17, .int .i64 r27.1), (18, .slice A29 r27.2.length cap30), (19, .int .i64 (wi (1 + r41))), (20, .slice A51 r49.length cap52), (21, .slice A146 r144.1.length cap147), (23, .int .i64 r169), (90, .int .u8 (Int.tmod p7 6)), (93, .bool ((Int.tmod p7 6) == 0))] (fun R hR => st_val hS rfl rfl rfl (r_bin hS rfl rfl rfl b_eql) fun a183 hS183 => st_val hS183 rfl rfl rfl (r_assign hS183 rfl rfl) fun a184 hS184 => wpList_nil (hR _ (hS184.re ⟨rfl, rfl, rfl, rfl, rfl, rfl, rfl, rfl, rfl, trivial⟩))) ?_
     clear hS
     clear a
     intro a hS
     refine c_cond hS rfl (fun hb185 => ?_) (fun hb185 => ?_)
     ·replace H := ite_t hb185 H
      obtain ⟨r193, hr194, H⟩ := bind_el H
      obtain ⟨x197, hx198, H⟩ := bind_el H
      refine c_region1 (fun K hK => ?_)
      refine st_val hS rfl rfl rfl (r_move hS rfl rfl) fun a186 hS186 => st_val hS186 rfl rfl rfl (r_move hS186 rfl rfl) fun a187 hS187 => st_val hS187 rfl rfl rfl (r_move hS187 rfl rfl) fun a188 hS188 => st_val hS188 rfl rfl rfl (r_bin hS188 rfl rfl rfl (b_rem (by decide))) fun a189 hS189 => st_val hS189 rfl rfl rfl (r_convert (k' := .i64) hS189 rfl rfl (by kernel_rfl)) fun a190 hS190 => st_val hS190 rfl rfl rfl (r_move hS190 rfl rfl) fun a191 hS191 => st_val hS191 rfl rfl rfl (r_bin hS191 rfl rfl rfl b_add) fun a192 hS192 => ?_
      refine st_enter hS192 rfl rfl rfl (r_call hS192 rfl rfl (by kernel_rfl)) (help_Mod.calls (p0 := (wi ((Int.tmod p6 8)))) (p1 := (wi ((wi (1 + r41)) + 1))) (g := g172) (N + 6)   hr194) ?_
      rintro _ a195 w196 ⟨g196, rfl, F196⟩ hS195
      replace h148 := OwS.fr h148 F196 (fun c' hc (hm : N + 6 ≤ c') => by omega)
      replace h31 := OwS.fr h31 F196 (fun c' hc (hm : N + 6 ≤ c') => by omega)
      replace h53 := OwS.fr h53 F196 (fun c' hc (hm : N + 6 ≤ c') => by omega)
      replace hF := hF.trans F196 (fun c' (hm : N + 6 ≤ c') => by show N ≤ c'; omega)
      refine st_val hS195 rfl rfl rfl (r_index (e := 38) (sz := 4) (by_ := 32) hS195 rfl rfl rfl (by kernel_rfl) (RdS.some_ (OwS.rd h148) hx198) (idx_lo hx198) (idx_hi hx198)) fun a199 hS199 => st_val hS199 rfl rfl rfl (r_fieldE (off := 1) hS199 rfl rfl (by kernel_rfl)) fun a200 hS200 => ?_
      refine st_effS hS200 rfl rfl (e_storeE (n := 1) (bb := false) (kd := kd_api_Slot) (j := 1) (x' := ({ x197 with Worker := r193 } : api_Slot)) (us := [.int .i64 r193]) g196 hS200 rfl rfl rfl rfl (by kernel_rfl) rfl rfl (by intro v hv; simp only [List.mem_cons, List.not_mem_nil, or_false] at hv; rcases hv with rfl <;> rfl) h148 hx198 rfl (fun _ _ cs hR => by rw [show cs = _ from hR]; rfl)) ?_
      rintro a201 w202 g202 ⟨h148, F202⟩ hS201
      replace h31 := OwS.fr h31 F202 (fun c' hc (hm : c' = N + 4) => by omega)
      replace h53 := OwS.fr h53 F202 (fun c' hc (hm : c' = N + 4) => by omega)
      replace hF := hF.trans F202 (fun c' (hm : c' = N + 4) => by show N ≤ c'; omega)
      have hT : Sl 197 a201 [(17, .int .i64 r27.1), (18, .slice A29 r27.2.length cap30), (19, .int .i64 (wi (1 + r41))), (20, .slice A51 r49.length cap52), (21, .slice A146 r144.1.length cap147)] := hS201.re ⟨rfl, rfl, rfl, rfl, rfl, trivial⟩
      replace hS201 : Sl 197 a201 [(17, .int .i64 r27.1), (18, .slice A29 r27.2.length cap30), (19, .int .i64 (wi (1 + r41))), (20, .slice A51 r49.length cap52), (21, .slice A146 (upd r144.1 r169 ({ x197 with Worker := r193 } : api_Slot)).length cap147)] := by simpa only [upd_length] using hT
      clear hT
      refine wpList_nil (hK _ _ ?_)
      replace hS : Sl 197 _ [(17, .int .i64 r27.1), (18, .slice A29 r27.2.length cap30), (19, .int .i64 (wi (1 + r41))), (20, .slice A51 r49.length cap52), (21, .slice A146 (upd r144.1 r169 ({ x197 with Worker := r193 } : api_Slot)).length cap147)] := hS201.re ⟨rfl, rfl, rfl, rfl, rfl, trivial⟩
      clear hK K
      try clear hS186 hS187 hS188 hS189 hS190 hS191 hS192 hS195 hS199 hS200 hS201
      obtain ⟨a, ha⟩ : ∃ a', a' = a201 := ⟨_, rfl⟩
      rw [← ha] at hS ⊢; clear ha
      have e := Option.some.inj H
      subst e
      exact ⟨g202, A146, cap147, hS.re ⟨rfl, rfl, rfl, rfl, rfl, trivial⟩, h31, h53, (RdS.weak (OwD.rdf (fun _ _ _ _ _ _ h => h) h148) (fun _ h => (Or.inl h))), hF⟩
     ·replace H := ite_f hb185 H
      refine c_pure [(6, .int .u64 p6), (17, .int .i64 r27.1), (18, .slice A29 r27.2.length cap30), (19, .int .i64 (wi (1 + r41))), (20, .slice A51 r49.length cap52), (21, .slice A146 r144.1.length cap147), (23, .int .i64 r169), (90, .int .u8 (Int.tmod p7 6)), (105, .bool ((Int.tmod p7 6) == 1))] (fun R hR => st_val hS rfl rfl rfl (r_bin hS rfl rfl rfl b_eql) fun a203 hS203 => st_val hS203 rfl rfl rfl (r_assign hS203 rfl rfl) fun a204 hS204 => wpList_nil (hR _ (hS204.re ⟨rfl, rfl, rfl, rfl, rfl, rfl, rfl, rfl, rfl, trivial⟩))) ?_
      clear hS
      clear a
      intro a hS
      refine c_cond hS rfl (fun hb205 => ?_) (fun hb205 => ?_)
      ·replace H := ite_t hb205 H
       obtain ⟨x206, hx207, H⟩ := bind_el H
       obtain ⟨x208, hx209, H⟩ := bind_el H
       refine c_draw1 (fun K hK => d_start (fun q => False) g172 [22, 25] 26 #[false, false, false, false, false, false, false, false, false, false, false, false, false, false, false, false, false, false, false, false, false, false, false, false, false, false] (by kernel_rfl) rfl rfl (fun w210 hw210 => ?_))
       have F210 : Fr (fun _ => False) w172 g172 w210 g172 := by rw [hw210]; exact Fr.drew _ _ _
       replace h148 := OwS.fr h148 F210 (fun _ _ h => h)
       replace h31 := OwS.fr h31 F210 (fun _ _ h => h)
       replace h53 := OwS.fr h53 F210 (fun _ _ h => h)
       replace hF := hF.trans F210 (fun _ h => h.elim)
       have hC : Fr (fun q => False) w210 g172 w210 g172 := Fr.refl _ _ _
       refine d_pure hS 0 #[true, false, false, false, false, false, false, false, false, false, false, false, false, false, false, false, false, false, false, false, false, false, false, false, false, false] rfl rfl rfl rfl (by kernel_rfl) (fun _ _ _ h => h) (fun _ => (r_move hS rfl rfl)) fun a211 hS211 => d_pure hS211 1 #[true, true, false, false, false, false, false, false, false, false, false, false, false, false, false, false, false, false, false, false, false, false, false, false, false, false] rfl rfl rfl rfl (by kernel_rfl) (fun _ _ _ h => h) (fun _ => (r_move hS211 rfl rfl)) fun a212 hS212 => d_pure hS212 2 #[true, true, true, false, false, false, false, false, false, false, false, false, false, false, false, false, false, false, false, false, false, false, false, false, false, false] rfl rfl rfl rfl (by kernel_rfl) (fun _ _ _ h => h) (fun _ => (r_move hS212 rfl rfl)) fun a213 hS213 => d_pure hS213 3 #[true, true, true, true, false, false, false, false, false, false, false, false, false, false, false, false, false, false, false, false, false, false, false, false, false, false] rfl rfl rfl rfl (by kernel_rfl) (fun _ _ _ h => h) (fun _ => (r_move hS213 rfl rfl)) fun a214 hS214 => d_pure hS214 4 #[true, true, true, true, true, false, false, false, false, false, false, false, false, false, false, false, false, false, false, false, false, false, false, false, false, false] rfl rfl rfl rfl (by kernel_rfl) (fun _ _ _ h => h) (fun _ => (r_move hS214 rfl rfl)) fun a215 hS215 => d_pure hS215 5 #[true, true, true, true, true, true, false, false, false, false, false, false, false, false, false, false, false, false, false, false, false, false, false, false, false, false] rfl rfl rfl rfl (by kernel_rfl) (fun _ _ _ h => h) (fun _ => (r_move hS215 rfl rfl)) fun a216 hS216 => d_pure hS216 6 #[true, true, true, true, true, true, true, false, false, false, false, false, false, false, false, false, false, false, false, false, false, false, false, false, false, false] rfl rfl rfl rfl (by kernel_rfl) (fun _ _ _ h => h) (fun _ => (r_index (e := 38) (sz := 4) (by_ := 32) hS216 rfl rfl rfl (by kernel_rfl) (RdS.some_ (OwS.rd h148) hx207) (idx_lo hx207) (idx_hi hx207))) fun a217 hS217 => d_pure hS217 7 #[true, true, true, true, true, true, true, true, false, false, false, false, false, false, false, false, false, false, false, false, false, false, false, false, false, false] rfl rfl rfl rfl (by kernel_rfl) (fun _ _ _ h => h) (fun _ => (r_fieldE (off := 2) hS217 rfl rfl (by kernel_rfl))) fun a218 hS218 => d_take hS218 8 #[true, true, true, true, true, true, true, true, true, false, false, false, false, false, false, false, false, false, false, false, false, false, false, false, false, false] rfl rfl rfl rfl (by kernel_rfl) (fun _ _ _ h => h) ⟨_, hC⟩ (fun w' g' Fz => (r_load1 (n := 1) hS218 rfl rfl (by kernel_rfl) (RdS.cell (i := r169) (sz := 4) (j := 2) (OwS.rd (OwS.fr h148 Fz (fun _ _ h => h))) hx207 rfl))) fun a219 hS219 => d_pure hS219 9 #[true, true, true, true, true, true, true, true, true, true, false, false, false, false, false, false, false, false, false, false, false, false, false, false, false, false] rfl rfl rfl rfl (by kernel_rfl) (fun _ _ _ h => h) (fun _ => (r_move hS219 rfl rfl)) fun a220 hS220 => d_pure hS220 10 #[true, true, true, true, true, true, true, true, true, true, true, false, false, false, false, false, false, false, false, false, false, false, false, false, false, false] rfl rfl rfl rfl (by kernel_rfl) (fun _ _ _ h => h) (fun _ => (r_bin hS220 rfl rfl rfl (b_rem (by decide)))) fun a221 hS221 => d_pure hS221 11 #[true, true, true, true, true, true, true, true, true, true, true, true, false, false, false, false, false, false, false, false, false, false, false, false, false, false] rfl rfl rfl rfl (by kernel_rfl) (fun _ _ _ h => h) (fun _ => (r_bin hS221 rfl rfl rfl b_add)) fun a222 hS222 => d_pure hS222 12 #[true, true, true, true, true, true, true, true, true, true, true, true, true, false, false, false, false, false, false, false, false, false, false, false, false, false] rfl rfl rfl rfl (by kernel_rfl) (fun _ _ _ h => h) (fun _ => (r_move hS222 rfl rfl)) fun a223 hS223 => d_pure hS223 13 #[true, true, true, true, true, true, true, true, true, true, true, true, true, true, false, false, false, false, false, false, false, false, false, false, false, false] rfl rfl rfl rfl (by kernel_rfl) (fun _ _ _ h => h) (fun _ => (r_move hS223 rfl rfl)) fun a224 hS224 => d_pure hS224 14 #[true, true, true, true, true, true, true, true, true, true, true, true, true, true, true, false, false, false, false, false, false, false, false, false, false, false] rfl rfl rfl rfl (by kernel_rfl) (fun _ _ _ h => h) (fun _ => (r_index (e := 38) (sz := 4) (by_ := 32) hS224 rfl rfl rfl (by kernel_rfl) (RdS.some_ (OwS.rd h148) hx207) (idx_lo hx207) (idx_hi hx207))) fun a225 hS225 => d_pure hS225 15 #[true, true, true, true, true, true, true, true, true, true, true, true, true, true, true, true, false, false, false, false, false, false, false, false, false, false] rfl rfl rfl rfl (by kernel_rfl) (fun _ _ _ h => h) (fun _ => (r_fieldE (off := 3) hS225 rfl rfl (by kernel_rfl))) fun a226 hS226 => d_take hS226 16 #[true, true, true, true, true, true, true, true, true, true, true, true, true, true, true, true, true, false, false, false, false, false, false, false, false, false] rfl rfl rfl rfl (by kernel_rfl) (fun _ _ _ h => h) ⟨_, hC⟩ (fun w' g' Fz => (r_load1 (n := 1) hS226 rfl rfl (by kernel_rfl) (RdS.cell (i := r169) (sz := 4) (j := 3) (OwS.rd (OwS.fr h148 Fz (fun _ _ h => h))) hx207 rfl))) fun a227 hS227 => d_pure hS227 17 #[true, true, true, true, true, true, true, true, true, true, true, true, true, true, true, true, true, true, false, false, false, false, false, false, false, false] rfl rfl rfl rfl (by kernel_rfl) (fun _ _ _ h => h) (fun _ => (r_move hS227 rfl rfl)) fun a228 hS228 => d_pure hS228 18 #[true, true, true, true, true, true, true, true, true, true, true, true, true, true, true, true, true, true, true, false, false, false, false, false, false, false] rfl rfl rfl rfl (by kernel_rfl) (fun _ _ _ h => h) (fun _ => (r_bin hS228 rfl rfl rfl (b_rem (by decide)))) fun a229 hS229 => d_pure hS229 19 #[true, true, true, true, true, true, true, true, true, true, true, true, true, true, true, true, true, true, true, true, false, false, false, false, false, false] rfl rfl rfl rfl (by kernel_rfl) (fun _ _ _ h => h) (fun _ => (r_bin hS229 rfl rfl rfl b_add)) fun a230 hS230 => d_pure hS230 20 #[true, true, true, true, true, true, true, true, true, true, true, true, true, true, true, true, true, true, true, true, true, false, false, false, false, false] rfl rfl rfl rfl (by kernel_rfl) (fun _ _ _ h => h) (fun _ => (r_index (e := 38) (sz := 4) (by_ := 32) hS230 rfl rfl rfl (by kernel_rfl) (RdS.some_ (OwS.rd h148) hx207) (idx_lo hx207) (idx_hi hx207))) fun a231 hS231 => d_pure hS231 21 #[true, true, true, true, true, true, true, true, true, true, true, true, true, true, true, true, true, true, true, true, true, true, false, false, false, false] rfl rfl rfl rfl (by kernel_rfl) (fun _ _ _ h => h) (fun _ => (r_fieldE (off := 2) hS231 rfl rfl (by kernel_rfl))) fun a232 hS232 => ?_
       refine d_one 22 #[true, true, true, true, true, true, true, true, true, true, true, true, true, true, true, true, true, true, true, true, true, true, true, false, false, false] rfl (by kernel_rfl) (arm_effS hS232 rfl rfl (e_storeE (n := 1) (bb := false) (kd := kd_api_Slot) (j := 2) (x' := ({ x206 with Start := wu (x206.Start + (Int.tmod p6 4)) } : api_Slot)) (us := [.int .u64 (wu (x206.Start + (Int.tmod p6 4)))]) g172 hS232 rfl rfl rfl rfl (by kernel_rfl) rfl rfl (by intro v hv; simp only [List.mem_cons, List.not_mem_nil, or_false] at hv; rcases hv with rfl <;> rfl) h148 hx207 rfl (fun _ _ cs hR => by rw [show cs = _ from hR]; rfl)) (.inl (by decide)) ?_)
       rintro a233 w234 g234 ⟨h148, F234⟩ hS233
       replace h31 := OwS.fr h31 F234 (fun c' hc (hm : c' = N + 4) => by omega)
       replace h53 := OwS.fr h53 F234 (fun c' hc (hm : c' = N + 4) => by omega)
       replace hF := hF.trans F234 (fun c' (hm : c' = N + 4) => by show N ≤ c'; omega)
       have hT : Sl 197 a233 [(17, .int .i64 r27.1), (18, .slice A29 r27.2.length cap30), (19, .int .i64 (wi (1 + r41))), (20, .slice A51 r49.length cap52), (21, .slice A146 r144.1.length cap147), (109, .slice A146 r144.1.length cap147), (110, .int .i64 r169), (126, .int .u64 (wu (x206.End + (Int.tmod p6 4))))] := hS233.re ⟨rfl, rfl, rfl, rfl, rfl, rfl, rfl, rfl, trivial⟩
       replace hS233 : Sl 197 a233 [(17, .int .i64 r27.1), (18, .slice A29 r27.2.length cap30), (19, .int .i64 (wi (1 + r41))), (20, .slice A51 r49.length cap52), (21, .slice A146 (upd r144.1 r169 ({ x206 with Start := wu (x206.Start + (Int.tmod p6 4)) } : api_Slot)).length cap147), (109, .slice A146 (upd r144.1 r169 ({ x206 with Start := wu (x206.Start + (Int.tmod p6 4)) } : api_Slot)).length cap147), (110, .int .i64 r169), (126, .int .u64 (wu (x206.End + (Int.tmod p6 4))))] := by simpa only [upd_length] using hT
       clear hT
       refine d_pure hS233 23 #[true, true, true, true, true, true, true, true, true, true, true, true, true, true, true, true, true, true, true, true, true, true, true, true, false, false] rfl rfl rfl rfl (by kernel_rfl) (fun _ _ _ h => h) (fun _ => (r_index (e := 38) (sz := 4) (by_ := 32) hS233 rfl rfl rfl (by kernel_rfl) (RdS.some_ (OwS.rd h148) hx209) (idx_lo hx209) (idx_hi hx209))) fun a235 hS235 => d_pure hS235 24 #[true, true, true, true, true, true, true, true, true, true, true, true, true, true, true, true, true, true, true, true, true, true, true, true, true, false] rfl rfl rfl rfl (by kernel_rfl) (fun _ _ _ h => h) (fun _ => (r_fieldE (off := 3) hS235 rfl rfl (by kernel_rfl))) fun a236 hS236 => ?_
       refine d_one 25 #[true, true, true, true, true, true, true, true, true, true, true, true, true, true, true, true, true, true, true, true, true, true, true, true, true, true] rfl (by kernel_rfl) (arm_effS hS236 rfl rfl (e_storeE (n := 1) (bb := false) (kd := kd_api_Slot) (j := 3) (x' := ({ x208 with End := wu (x206.End + (Int.tmod p6 4)) } : api_Slot)) (us := [.int .u64 (wu (x206.End + (Int.tmod p6 4)))]) g234 hS236 rfl rfl rfl rfl (by kernel_rfl) rfl rfl (by intro v hv; simp only [List.mem_cons, List.not_mem_nil, or_false] at hv; rcases hv with rfl <;> rfl) h148 hx209 rfl (fun _ _ cs hR => by rw [show cs = _ from hR]; rfl)) (.inl (by decide)) ?_)
       rintro a237 w238 g238 ⟨h148, F238⟩ hS237
       replace h31 := OwS.fr h31 F238 (fun c' hc (hm : c' = N + 4) => by omega)
       replace h53 := OwS.fr h53 F238 (fun c' hc (hm : c' = N + 4) => by omega)
       replace hF := hF.trans F238 (fun c' (hm : c' = N + 4) => by show N ≤ c'; omega)
       have hT : Sl 197 a237 [(17, .int .i64 r27.1), (18, .slice A29 r27.2.length cap30), (19, .int .i64 (wi (1 + r41))), (20, .slice A51 r49.length cap52), (21, .slice A146 (upd r144.1 r169 ({ x206 with Start := wu (x206.Start + (Int.tmod p6 4)) } : api_Slot)).length cap147)] := hS237.re ⟨rfl, rfl, rfl, rfl, rfl, trivial⟩
       replace hS237 : Sl 197 a237 [(17, .int .i64 r27.1), (18, .slice A29 r27.2.length cap30), (19, .int .i64 (wi (1 + r41))), (20, .slice A51 r49.length cap52), (21, .slice A146 (upd (upd r144.1 r169 ({ x206 with Start := wu (x206.Start + (Int.tmod p6 4)) } : api_Slot)) r169 ({ x208 with End := wu (x206.End + (Int.tmod p6 4)) } : api_Slot)).length cap147)] := by simpa only [upd_length] using hT
       clear hT
       refine d_done (by kernel_rfl) (hK _ _ ?_)
       replace hS : Sl 197 _ [(17, .int .i64 r27.1), (18, .slice A29 r27.2.length cap30), (19, .int .i64 (wi (1 + r41))), (20, .slice A51 r49.length cap52), (21, .slice A146 (upd (upd r144.1 r169 ({ x206 with Start := wu (x206.Start + (Int.tmod p6 4)) } : api_Slot)) r169 ({ x208 with End := wu (x206.End + (Int.tmod p6 4)) } : api_Slot)).length cap147)] := hS237.re ⟨rfl, rfl, rfl, rfl, rfl, trivial⟩
       clear hK K hC
       try clear hS211 hS212 hS213 hS214 hS215 hS216 hS217 hS218 hS219 hS220 hS221 hS222 hS223 hS224 hS225 hS226 hS227 hS228 hS229 hS230 hS231 hS232 hS233 hS235 hS236 hS237
       obtain ⟨a, ha⟩ : ∃ a', a' = a237 := ⟨_, rfl⟩
       rw [← ha] at hS ⊢; clear ha
       have e := Option.some.inj H
       subst e
       exact ⟨g238, A146, cap147, hS.re ⟨rfl, rfl, rfl, rfl, rfl, trivial⟩, h31, h53, (RdS.weak (OwD.rdf (fun _ _ _ _ _ _ h => h) h148) (fun _ h => (Or.inl h))), hF⟩
      ·replace H := ite_f hb205 H
       refine c_pure [(6, .int .u64 p6), (17, .int .i64 r27.1), (18, .slice A29 r27.2.length cap30), (19, .int .i64 (wi (1 + r41))), (20, .slice A51 r49.length cap52), (21, .slice A146 r144.1.length cap147), (23, .int .i64 r169), (90, .int .u8 (Int.tmod p7 6)), (131, .bool ((Int.tmod p7 6) == 2))] (fun R hR => st_val hS rfl rfl rfl (r_bin hS rfl rfl rfl b_eql) fun a239 hS239 => st_val hS239 rfl rfl rfl (r_assign hS239 rfl rfl) fun a240 hS240 => wpList_nil (hR _ (hS240.re ⟨rfl, rfl, rfl, rfl, rfl, rfl, rfl, rfl, rfl, trivial⟩))) ?_
       clear hS
       clear a
       intro a hS
       refine c_cond hS rfl (fun hb241 => ?_) (fun hb241 => ?_)
       ·replace H := ite_t hb241 H
        obtain ⟨x248, hx249, H⟩ := bind_el H
        refine c_region1 (fun K hK => ?_)
        refine st_val hS rfl rfl rfl (r_move hS rfl rfl) fun a242 hS242 => st_val hS242 rfl rfl rfl (r_move hS242 rfl rfl) fun a243 hS243 => st_val hS243 rfl rfl rfl (r_move hS243 rfl rfl) fun a244 hS244 => st_val hS244 rfl rfl rfl (r_bin hS244 rfl rfl rfl (b_rem (by decide))) fun a245 hS245 => st_val hS245 rfl rfl rfl (r_convert (k' := .i64) hS245 rfl rfl (by kernel_rfl)) fun a246 hS246 => st_val hS246 rfl rfl rfl (r_bin hS246 rfl rfl rfl b_sub) fun a247 hS247 => st_val hS247 rfl rfl rfl (r_index (e := 38) (sz := 4) (by_ := 32) hS247 rfl rfl rfl (by kernel_rfl) (RdS.some_ (OwS.rd h148) hx249) (idx_lo hx249) (idx_hi hx249)) fun a250 hS250 => st_val hS250 rfl rfl rfl (r_fieldE (off := 0) hS250 rfl rfl (by kernel_rfl)) fun a251 hS251 => ?_
        refine st_effS hS251 rfl rfl (e_storeE (n := 1) (bb := false) (kd := kd_api_Slot) (j := 0) (x' := ({ x248 with Device := wi ((wi ((Int.tmod p6 15))) - 1) } : api_Slot)) (us := [.int .i64 (wi ((wi ((Int.tmod p6 15))) - 1))]) g172 hS251 rfl rfl rfl rfl (by kernel_rfl) rfl rfl (by intro v hv; simp only [List.mem_cons, List.not_mem_nil, or_false] at hv; rcases hv with rfl <;> rfl) h148 hx249 rfl (fun _ _ cs hR => by rw [show cs = _ from hR]; rfl)) ?_
        rintro a252 w253 g253 ⟨h148, F253⟩ hS252
        replace h31 := OwS.fr h31 F253 (fun c' hc (hm : c' = N + 4) => by omega)
        replace h53 := OwS.fr h53 F253 (fun c' hc (hm : c' = N + 4) => by omega)
        replace hF := hF.trans F253 (fun c' (hm : c' = N + 4) => by show N ≤ c'; omega)
        have hT : Sl 197 a252 [(17, .int .i64 r27.1), (18, .slice A29 r27.2.length cap30), (19, .int .i64 (wi (1 + r41))), (20, .slice A51 r49.length cap52), (21, .slice A146 r144.1.length cap147)] := hS252.re ⟨rfl, rfl, rfl, rfl, rfl, trivial⟩
        replace hS252 : Sl 197 a252 [(17, .int .i64 r27.1), (18, .slice A29 r27.2.length cap30), (19, .int .i64 (wi (1 + r41))), (20, .slice A51 r49.length cap52), (21, .slice A146 (upd r144.1 r169 ({ x248 with Device := wi ((wi ((Int.tmod p6 15))) - 1) } : api_Slot)).length cap147)] := by simpa only [upd_length] using hT
        clear hT
        refine wpList_nil (hK _ _ ?_)
        replace hS : Sl 197 _ [(17, .int .i64 r27.1), (18, .slice A29 r27.2.length cap30), (19, .int .i64 (wi (1 + r41))), (20, .slice A51 r49.length cap52), (21, .slice A146 (upd r144.1 r169 ({ x248 with Device := wi ((wi ((Int.tmod p6 15))) - 1) } : api_Slot)).length cap147)] := hS252.re ⟨rfl, rfl, rfl, rfl, rfl, trivial⟩
        clear hK K
        try clear hS242 hS243 hS244 hS245 hS246 hS247 hS250 hS251 hS252
        obtain ⟨a, ha⟩ : ∃ a', a' = a252 := ⟨_, rfl⟩
        rw [← ha] at hS ⊢; clear ha
        have e := Option.some.inj H
        subst e
        exact ⟨g253, A146, cap147, hS.re ⟨rfl, rfl, rfl, rfl, rfl, trivial⟩, h31, h53, (RdS.weak (OwD.rdf (fun _ _ _ _ _ _ h => h) h148) (fun _ h => (Or.inl h))), hF⟩
       ·replace H := ite_f hb241 H
        refine c_pure [(6, .int .u64 p6), (17, .int .i64 r27.1), (18, .slice A29 r27.2.length cap30), (19, .int .i64 (wi (1 + r41))), (20, .slice A51 r49.length cap52), (21, .slice A146 r144.1.length cap147), (23, .int .i64 r169), (90, .int .u8 (Int.tmod p7 6)), (141, .bool ((Int.tmod p7 6) == 3))] (fun R hR => st_val hS rfl rfl rfl (r_bin hS rfl rfl rfl b_eql) fun a254 hS254 => st_val hS254 rfl rfl rfl (r_assign hS254 rfl rfl) fun a255 hS255 => wpList_nil (hR _ (hS255.re ⟨rfl, rfl, rfl, rfl, rfl, rfl, rfl, rfl, rfl, trivial⟩))) ?_
        clear hS
        clear a
        intro a hS
        refine c_cond hS rfl (fun hb256 => ?_) (fun hb256 => ?_)
        ·replace H := ite_t hb256 H
         obtain ⟨x261, hx262, H⟩ := bind_el H
         refine c_region1 (fun K hK => ?_)
         refine st_val hS rfl rfl rfl (r_move hS rfl rfl) fun a257 hS257 => st_val hS257 rfl rfl rfl (r_move hS257 rfl rfl) fun a258 hS258 => st_val hS258 rfl rfl rfl (r_move hS258 rfl rfl) fun a259 hS259 => st_val hS259 rfl rfl rfl (r_move hS259 rfl rfl) fun a260 hS260 => st_val hS260 rfl rfl rfl (r_index (e := 38) (sz := 4) (by_ := 32) hS260 rfl rfl rfl (by kernel_rfl) (RdS.some_ (OwS.rd h148) hx262) (idx_lo hx262) (idx_hi hx262)) fun a263 hS263 => st_val hS263 rfl rfl rfl (r_fieldE (off := 3) hS263 rfl rfl (by kernel_rfl)) fun a264 hS264 => st_val hS264 rfl rfl rfl (r_load1 (n := 1) hS264 rfl rfl (by kernel_rfl) (RdS.cell (i := r169) (sz := 4) (j := 3) (OwS.rd h148) hx262 rfl)) fun a265 hS265 => st_val hS265 rfl rfl rfl (r_move hS265 rfl rfl) fun a266 hS266 => st_val hS266 rfl rfl rfl (r_bin hS266 rfl rfl rfl (b_rem (by decide))) fun a267 hS267 => st_val hS267 rfl rfl rfl (r_bin hS267 rfl rfl rfl b_add) fun a268 hS268 => st_val hS268 rfl rfl rfl (r_index (e := 38) (sz := 4) (by_ := 32) hS268 rfl rfl rfl (by kernel_rfl) (RdS.some_ (OwS.rd h148) hx262) (idx_lo hx262) (idx_hi hx262)) fun a269 hS269 => st_val hS269 rfl rfl rfl (r_fieldE (off := 3) hS269 rfl rfl (by kernel_rfl)) fun a270 hS270 => ?_
         refine st_effS hS270 rfl rfl (e_storeE (n := 1) (bb := false) (kd := kd_api_Slot) (j := 3) (x' := ({ x261 with End := wu (x261.End + (Int.tmod p6 3)) } : api_Slot)) (us := [.int .u64 (wu (x261.End + (Int.tmod p6 3)))]) g172 hS270 rfl rfl rfl rfl (by kernel_rfl) rfl rfl (by intro v hv; simp only [List.mem_cons, List.not_mem_nil, or_false] at hv; rcases hv with rfl <;> rfl) h148 hx262 rfl (fun _ _ cs hR => by rw [show cs = _ from hR]; rfl)) ?_
         rintro a271 w272 g272 ⟨h148, F272⟩ hS271
         replace h31 := OwS.fr h31 F272 (fun c' hc (hm : c' = N + 4) => by omega)
         replace h53 := OwS.fr h53 F272 (fun c' hc (hm : c' = N + 4) => by omega)
         replace hF := hF.trans F272 (fun c' (hm : c' = N + 4) => by show N ≤ c'; omega)
         have hT : Sl 197 a271 [(17, .int .i64 r27.1), (18, .slice A29 r27.2.length cap30), (19, .int .i64 (wi (1 + r41))), (20, .slice A51 r49.length cap52), (21, .slice A146 r144.1.length cap147)] := hS271.re ⟨rfl, rfl, rfl, rfl, rfl, trivial⟩
         replace hS271 : Sl 197 a271 [(17, .int .i64 r27.1), (18, .slice A29 r27.2.length cap30), (19, .int .i64 (wi (1 + r41))), (20, .slice A51 r49.length cap52), (21, .slice A146 (upd r144.1 r169 ({ x261 with End := wu (x261.End + (Int.tmod p6 3)) } : api_Slot)).length cap147)] := by simpa only [upd_length] using hT
         clear hT
         refine wpList_nil (hK _ _ ?_)
         replace hS : Sl 197 _ [(17, .int .i64 r27.1), (18, .slice A29 r27.2.length cap30), (19, .int .i64 (wi (1 + r41))), (20, .slice A51 r49.length cap52), (21, .slice A146 (upd r144.1 r169 ({ x261 with End := wu (x261.End + (Int.tmod p6 3)) } : api_Slot)).length cap147)] := hS271.re ⟨rfl, rfl, rfl, rfl, rfl, trivial⟩
         clear hK K
         try clear hS257 hS258 hS259 hS260 hS263 hS264 hS265 hS266 hS267 hS268 hS269 hS270 hS271
         obtain ⟨a, ha⟩ : ∃ a', a' = a271 := ⟨_, rfl⟩
         rw [← ha] at hS ⊢; clear ha
         have e := Option.some.inj H
         subst e
         exact ⟨g272, A146, cap147, hS.re ⟨rfl, rfl, rfl, rfl, rfl, trivial⟩, h31, h53, (RdS.weak (OwD.rdf (fun _ _ _ _ _ _ h => h) h148) (fun _ h => (Or.inl h))), hF⟩
        ·replace H := ite_f hb256 H
         refine c_pure [(6, .int .u64 p6), (17, .int .i64 r27.1), (18, .slice A29 r27.2.length cap30), (19, .int .i64 (wi (1 + r41))), (20, .slice A51 r49.length cap52), (21, .slice A146 r144.1.length cap147), (23, .int .i64 r169), (155, .bool ((Int.tmod p7 6) == 4))] (fun R hR => st_val hS rfl rfl rfl (r_bin hS rfl rfl rfl b_eql) fun a273 hS273 => st_val hS273 rfl rfl rfl (r_assign hS273 rfl rfl) fun a274 hS274 => wpList_nil (hR _ (hS274.re ⟨rfl, rfl, rfl, rfl, rfl, rfl, rfl, rfl, trivial⟩))) ?_
         clear hS
         clear a
         intro a hS
         refine c_cond hS rfl (fun hb275 => ?_) (fun hb275 => ?_)
         ·replace H := ite_t hb275 H
          obtain ⟨x276, hx277, H⟩ := bind_el H
          obtain ⟨x278, hx279, H⟩ := bind_el H
          refine c_draw1 (fun K hK => d_start (fun q => False) g172 [22, 25] 26 #[false, false, false, false, false, false, false, false, false, false, false, false, false, false, false, false, false, false, false, false, false, false, false, false, false, false] (by kernel_rfl) rfl rfl (fun w280 hw280 => ?_))
          have F280 : Fr (fun _ => False) w172 g172 w280 g172 := by rw [hw280]; exact Fr.drew _ _ _
          replace h148 := OwS.fr h148 F280 (fun _ _ h => h)
          replace h31 := OwS.fr h31 F280 (fun _ _ h => h)
          replace h53 := OwS.fr h53 F280 (fun _ _ h => h)
          replace hF := hF.trans F280 (fun _ h => h.elim)
          have hC : Fr (fun q => False) w280 g172 w280 g172 := Fr.refl _ _ _
          refine d_pure hS 0 #[true, false, false, false, false, false, false, false, false, false, false, false, false, false, false, false, false, false, false, false, false, false, false, false, false, false] rfl rfl rfl rfl (by kernel_rfl) (fun _ _ _ h => h) (fun _ => (r_move hS rfl rfl)) fun a281 hS281 => d_pure hS281 1 #[true, true, false, false, false, false, false, false, false, false, false, false, false, false, false, false, false, false, false, false, false, false, false, false, false, false] rfl rfl rfl rfl (by kernel_rfl) (fun _ _ _ h => h) (fun _ => (r_move hS281 rfl rfl)) fun a282 hS282 => d_pure hS282 2 #[true, true, true, false, false, false, false, false, false, false, false, false, false, false, false, false, false, false, false, false, false, false, false, false, false, false] rfl rfl rfl rfl (by kernel_rfl) (fun _ _ _ h => h) (fun _ => (r_move hS282 rfl rfl)) fun a283 hS283 => d_pure hS283 3 #[true, true, true, true, false, false, false, false, false, false, false, false, false, false, false, false, false, false, false, false, false, false, false, false, false, false] rfl rfl rfl rfl (by kernel_rfl) (fun _ _ _ h => h) (fun _ => (r_move hS283 rfl rfl)) fun a284 hS284 => d_pure hS284 4 #[true, true, true, true, true, false, false, false, false, false, false, false, false, false, false, false, false, false, false, false, false, false, false, false, false, false] rfl rfl rfl rfl (by kernel_rfl) (fun _ _ _ h => h) (fun _ => (r_move hS284 rfl rfl)) fun a285 hS285 => d_pure hS285 5 #[true, true, true, true, true, true, false, false, false, false, false, false, false, false, false, false, false, false, false, false, false, false, false, false, false, false] rfl rfl rfl rfl (by kernel_rfl) (fun _ _ _ h => h) (fun _ => (r_move hS285 rfl rfl)) fun a286 hS286 => d_pure hS286 6 #[true, true, true, true, true, true, true, false, false, false, false, false, false, false, false, false, false, false, false, false, false, false, false, false, false, false] rfl rfl rfl rfl (by kernel_rfl) (fun _ _ _ h => h) (fun _ => (r_index (e := 38) (sz := 4) (by_ := 32) hS286 rfl rfl rfl (by kernel_rfl) (RdS.some_ (OwS.rd h148) hx277) (idx_lo hx277) (idx_hi hx277))) fun a287 hS287 => d_pure hS287 7 #[true, true, true, true, true, true, true, true, false, false, false, false, false, false, false, false, false, false, false, false, false, false, false, false, false, false] rfl rfl rfl rfl (by kernel_rfl) (fun _ _ _ h => h) (fun _ => (r_fieldE (off := 2) hS287 rfl rfl (by kernel_rfl))) fun a288 hS288 => d_take hS288 8 #[true, true, true, true, true, true, true, true, true, false, false, false, false, false, false, false, false, false, false, false, false, false, false, false, false, false] rfl rfl rfl rfl (by kernel_rfl) (fun _ _ _ h => h) ⟨_, hC⟩ (fun w' g' Fz => (r_load1 (n := 1) hS288 rfl rfl (by kernel_rfl) (RdS.cell (i := r169) (sz := 4) (j := 2) (OwS.rd (OwS.fr h148 Fz (fun _ _ h => h))) hx277 rfl))) fun a289 hS289 => d_pure hS289 9 #[true, true, true, true, true, true, true, true, true, true, false, false, false, false, false, false, false, false, false, false, false, false, false, false, false, false] rfl rfl rfl rfl (by kernel_rfl) (fun _ _ _ h => h) (fun _ => (r_move hS289 rfl rfl)) fun a290 hS290 => d_pure hS290 10 #[true, true, true, true, true, true, true, true, true, true, true, false, false, false, false, false, false, false, false, false, false, false, false, false, false, false] rfl rfl rfl rfl (by kernel_rfl) (fun _ _ _ h => h) (fun _ => (r_bin hS290 rfl rfl rfl (b_rem (by decide)))) fun a291 hS291 => d_pure hS291 11 #[true, true, true, true, true, true, true, true, true, true, true, true, false, false, false, false, false, false, false, false, false, false, false, false, false, false] rfl rfl rfl rfl (by kernel_rfl) (fun _ _ _ h => h) (fun _ => (r_bin hS291 rfl rfl rfl b_sub)) fun a292 hS292 => d_pure hS292 12 #[true, true, true, true, true, true, true, true, true, true, true, true, true, false, false, false, false, false, false, false, false, false, false, false, false, false] rfl rfl rfl rfl (by kernel_rfl) (fun _ _ _ h => h) (fun _ => (r_move hS292 rfl rfl)) fun a293 hS293 => d_pure hS293 13 #[true, true, true, true, true, true, true, true, true, true, true, true, true, true, false, false, false, false, false, false, false, false, false, false, false, false] rfl rfl rfl rfl (by kernel_rfl) (fun _ _ _ h => h) (fun _ => (r_move hS293 rfl rfl)) fun a294 hS294 => d_pure hS294 14 #[true, true, true, true, true, true, true, true, true, true, true, true, true, true, true, false, false, false, false, false, false, false, false, false, false, false] rfl rfl rfl rfl (by kernel_rfl) (fun _ _ _ h => h) (fun _ => (r_index (e := 38) (sz := 4) (by_ := 32) hS294 rfl rfl rfl (by kernel_rfl) (RdS.some_ (OwS.rd h148) hx277) (idx_lo hx277) (idx_hi hx277))) fun a295 hS295 => d_pure hS295 15 #[true, true, true, true, true, true, true, true, true, true, true, true, true, true, true, true, false, false, false, false, false, false, false, false, false, false] rfl rfl rfl rfl (by kernel_rfl) (fun _ _ _ h => h) (fun _ => (r_fieldE (off := 3) hS295 rfl rfl (by kernel_rfl))) fun a296 hS296 => d_take hS296 16 #[true, true, true, true, true, true, true, true, true, true, true, true, true, true, true, true, true, false, false, false, false, false, false, false, false, false] rfl rfl rfl rfl (by kernel_rfl) (fun _ _ _ h => h) ⟨_, hC⟩ (fun w' g' Fz => (r_load1 (n := 1) hS296 rfl rfl (by kernel_rfl) (RdS.cell (i := r169) (sz := 4) (j := 3) (OwS.rd (OwS.fr h148 Fz (fun _ _ h => h))) hx277 rfl))) fun a297 hS297 => d_pure hS297 17 #[true, true, true, true, true, true, true, true, true, true, true, true, true, true, true, true, true, true, false, false, false, false, false, false, false, false] rfl rfl rfl rfl (by kernel_rfl) (fun _ _ _ h => h) (fun _ => (r_move hS297 rfl rfl)) fun a298 hS298 => d_pure hS298 18 #[true, true, true, true, true, true, true, true, true, true, true, true, true, true, true, true, true, true, true, false, false, false, false, false, false, false] rfl rfl rfl rfl (by kernel_rfl) (fun _ _ _ h => h) (fun _ => (r_bin hS298 rfl rfl rfl (b_rem (by decide)))) fun a299 hS299 => d_pure hS299 19 #[true, true, true, true, true, true, true, true, true, true, true, true, true, true, true, true, true, true, true, true, false, false, false, false, false, false] rfl rfl rfl rfl (by kernel_rfl) (fun _ _ _ h => h) (fun _ => (r_bin hS299 rfl rfl rfl b_sub)) fun a300 hS300 => d_pure hS300 20 #[true, true, true, true, true, true, true, true, true, true, true, true, true, true, true, true, true, true, true, true, true, false, false, false, false, false] rfl rfl rfl rfl (by kernel_rfl) (fun _ _ _ h => h) (fun _ => (r_index (e := 38) (sz := 4) (by_ := 32) hS300 rfl rfl rfl (by kernel_rfl) (RdS.some_ (OwS.rd h148) hx277) (idx_lo hx277) (idx_hi hx277))) fun a301 hS301 => d_pure hS301 21 #[true, true, true, true, true, true, true, true, true, true, true, true, true, true, true, true, true, true, true, true, true, true, false, false, false, false] rfl rfl rfl rfl (by kernel_rfl) (fun _ _ _ h => h) (fun _ => (r_fieldE (off := 2) hS301 rfl rfl (by kernel_rfl))) fun a302 hS302 => ?_
          refine d_one 22 #[true, true, true, true, true, true, true, true, true, true, true, true, true, true, true, true, true, true, true, true, true, true, true, false, false, false] rfl (by kernel_rfl) (arm_effS hS302 rfl rfl (e_storeE (n := 1) (bb := false) (kd := kd_api_Slot) (j := 2) (x' := ({ x276 with Start := wu (x276.Start - (Int.tmod p6 3)) } : api_Slot)) (us := [.int .u64 (wu (x276.Start - (Int.tmod p6 3)))]) g172 hS302 rfl rfl rfl rfl (by kernel_rfl) rfl rfl (by intro v hv; simp only [List.mem_cons, List.not_mem_nil, or_false] at hv; rcases hv with rfl <;> rfl) h148 hx277 rfl (fun _ _ cs hR => by rw [show cs = _ from hR]; rfl)) (.inl (by decide)) ?_)
          rintro a303 w304 g304 ⟨h148, F304⟩ hS303
          replace h31 := OwS.fr h31 F304 (fun c' hc (hm : c' = N + 4) => by omega)
          replace h53 := OwS.fr h53 F304 (fun c' hc (hm : c' = N + 4) => by omega)
          replace hF := hF.trans F304 (fun c' (hm : c' = N + 4) => by show N ≤ c'; omega)
          have hT : Sl 197 a303 [(17, .int .i64 r27.1), (18, .slice A29 r27.2.length cap30), (19, .int .i64 (wi (1 + r41))), (20, .slice A51 r49.length cap52), (21, .slice A146 r144.1.length cap147), (159, .slice A146 r144.1.length cap147), (160, .int .i64 r169), (176, .int .u64 (wu (x276.End - (Int.tmod p6 3))))] := hS303.re ⟨rfl, rfl, rfl, rfl, rfl, rfl, rfl, rfl, trivial⟩
          replace hS303 : Sl 197 a303 [(17, .int .i64 r27.1), (18, .slice A29 r27.2.length cap30), (19, .int .i64 (wi (1 + r41))), (20, .slice A51 r49.length cap52), (21, .slice A146 (upd r144.1 r169 ({ x276 with Start := wu (x276.Start - (Int.tmod p6 3)) } : api_Slot)).length cap147), (159, .slice A146 (upd r144.1 r169 ({ x276 with Start := wu (x276.Start - (Int.tmod p6 3)) } : api_Slot)).length cap147), (160, .int .i64 r169), (176, .int .u64 (wu (x276.End - (Int.tmod p6 3))))] := by simpa only [upd_length] using hT
          clear hT
          refine d_pure hS303 23 #[true, true, true, true, true, true, true, true, true, true, true, true, true, true, true, true, true, true, true, true, true, true, true, true, false, false] rfl rfl rfl rfl (by kernel_rfl) (fun _ _ _ h => h) (fun _ => (r_index (e := 38) (sz := 4) (by_ := 32) hS303 rfl rfl rfl (by kernel_rfl) (RdS.some_ (OwS.rd h148) hx279) (idx_lo hx279) (idx_hi hx279))) fun a305 hS305 => d_pure hS305 24 #[true, true, true, true, true, true, true, true, true, true, true, true, true, true, true, true, true, true, true, true, true, true, true, true, true, false] rfl rfl rfl rfl (by kernel_rfl) (fun _ _ _ h => h) (fun _ => (r_fieldE (off := 3) hS305 rfl rfl (by kernel_rfl))) fun a306 hS306 => ?_
          refine d_one 25 #[true, true, true, true, true, true, true, true, true, true, true, true, true, true, true, true, true, true, true, true, true, true, true, true, true, true] rfl (by kernel_rfl) (arm_effS hS306 rfl rfl (e_storeE (n := 1) (bb := false) (kd := kd_api_Slot) (j := 3) (x' := ({ x278 with End := wu (x276.End - (Int.tmod p6 3)) } : api_Slot)) (us := [.int .u64 (wu (x276.End - (Int.tmod p6 3)))]) g304 hS306 rfl rfl rfl rfl (by kernel_rfl) rfl rfl (by intro v hv; simp only [List.mem_cons, List.not_mem_nil, or_false] at hv; rcases hv with rfl <;> rfl) h148 hx279 rfl (fun _ _ cs hR => by rw [show cs = _ from hR]; rfl)) (.inl (by decide)) ?_)
          rintro a307 w308 g308 ⟨h148, F308⟩ hS307
          replace h31 := OwS.fr h31 F308 (fun c' hc (hm : c' = N + 4) => by omega)
          replace h53 := OwS.fr h53 F308 (fun c' hc (hm : c' = N + 4) => by omega)
          replace hF := hF.trans F308 (fun c' (hm : c' = N + 4) => by show N ≤ c'; omega)
          have hT : Sl 197 a307 [(17, .int .i64 r27.1), (18, .slice A29 r27.2.length cap30), (19, .int .i64 (wi (1 + r41))), (20, .slice A51 r49.length cap52), (21, .slice A146 (upd r144.1 r169 ({ x276 with Start := wu (x276.Start - (Int.tmod p6 3)) } : api_Slot)).length cap147)] := hS307.re ⟨rfl, rfl, rfl, rfl, rfl, trivial⟩
          replace hS307 : Sl 197 a307 [(17, .int .i64 r27.1), (18, .slice A29 r27.2.length cap30), (19, .int .i64 (wi (1 + r41))), (20, .slice A51 r49.length cap52), (21, .slice A146 (upd (upd r144.1 r169 ({ x276 with Start := wu (x276.Start - (Int.tmod p6 3)) } : api_Slot)) r169 ({ x278 with End := wu (x276.End - (Int.tmod p6 3)) } : api_Slot)).length cap147)] := by simpa only [upd_length] using hT
          clear hT
          refine d_done (by kernel_rfl) (hK _ _ ?_)
          replace hS : Sl 197 _ [(17, .int .i64 r27.1), (18, .slice A29 r27.2.length cap30), (19, .int .i64 (wi (1 + r41))), (20, .slice A51 r49.length cap52), (21, .slice A146 (upd (upd r144.1 r169 ({ x276 with Start := wu (x276.Start - (Int.tmod p6 3)) } : api_Slot)) r169 ({ x278 with End := wu (x276.End - (Int.tmod p6 3)) } : api_Slot)).length cap147)] := hS307.re ⟨rfl, rfl, rfl, rfl, rfl, trivial⟩
          clear hK K hC
          try clear hS281 hS282 hS283 hS284 hS285 hS286 hS287 hS288 hS289 hS290 hS291 hS292 hS293 hS294 hS295 hS296 hS297 hS298 hS299 hS300 hS301 hS302 hS303 hS305 hS306 hS307
          obtain ⟨a, ha⟩ : ∃ a', a' = a307 := ⟨_, rfl⟩
          rw [← ha] at hS ⊢; clear ha
          have e := Option.some.inj H
          subst e
          exact ⟨g308, A146, cap147, hS.re ⟨rfl, rfl, rfl, rfl, rfl, trivial⟩, h31, h53, (RdS.weak (OwD.rdf (fun _ _ _ _ _ _ h => h) h148) (fun _ h => (Or.inl h))), hF⟩
         ·replace H := ite_f hb275 H
          obtain ⟨y310, hy311, H⟩ := bind_el H
          refine c_region1 (fun K hK => ?_)
          refine st_val hS rfl rfl rfl (r_move hS rfl rfl) fun a309 hS309 => ?_
          have h312 := RdS.slc (OwS.rd h148) hy311
          refine st_val hS309 rfl rfl rfl (r_slice (e := 38) (sz := 4) (by_ := 32) (l := 1) (h := (r144.1.length : Int)) hS309 rfl rfl (by kernel_rfl) rfl rfl hy311 (OwS.rd h148).1) fun a314 hS314 => st_val hS314 rfl rfl rfl (r_assign hS314 rfl rfl) fun a315 hS315 => wpList_nil (hK _ _ ?_)
          replace hS : Sl 197 _ [(17, .int .i64 r27.1), (18, .slice A29 r27.2.length cap30), (19, .int .i64 (wi (1 + r41))), (20, .slice A51 r49.length cap52), (21, .slice (slA A146 cap147 (1 : Int).toNat 4) y310.length (cap147 - (1 : Int).toNat))] := hS315.re ⟨rfl, rfl, rfl, rfl, rfl, trivial⟩
          clear hK K
          try clear hS309 hS314 hS315
          obtain ⟨a, ha⟩ : ∃ a', a' = a315 := ⟨_, rfl⟩
          rw [← ha] at hS ⊢; clear ha
          have e := Option.some.inj H
          subst e
          exact ⟨g172, (slA A146 cap147 (1 : Int).toNat 4), (cap147 - (1 : Int).toNat), hS.re ⟨rfl, rfl, rfl, rfl, rfl, trivial⟩, h31, h53, h312, hF⟩
    ·clear H
     clear h31 h53 h148 hF
     clear hS
     rintro a w174 ⟨g174, A175, cap176, hS, h31, h53, h177, hF⟩
     have H := Hl180
     clear Hl180
     obtain ⟨r321, hr322, H⟩ := bind_el H
     obtain ⟨r330, hr331, H⟩ := bind_el H
     obtain ⟨t341, ht342, H⟩ := bind_el H
     refine c_region (fun K hK => ?_)
     refine st_val hS rfl rfl rfl (r_move hS rfl rfl) fun a316 hS316 => st_val hS316 rfl rfl rfl (r_move hS316 rfl rfl) fun a317 hS317 => st_val hS317 rfl rfl rfl (r_move hS317 rfl rfl) fun a318 hS318 => st_val hS318 rfl rfl rfl (r_move hS318 rfl rfl) fun a319 hS319 => st_val hS319 rfl rfl rfl (r_move hS319 rfl rfl) fun a320 hS320 => ?_
     refine st_enter hS320 rfl rfl rfl (r_call hS320 rfl rfl (by kernel_rfl)) (resume_Verify.calls (C1 := (fun q => q = N + 0)) (C2 := (fun q => q = N + 2)) (C4 := (fun q => q = N + 4 ∨ q = N + 4 + 1)) (p0 := r27.1) (p1 := r27.2) (p2 := r49) (p3 := (wi (1 + r41))) (p4 := v178) (g := g174) (N + 6)  (OwD.rdf (fun _ _ _ _ _ _ h => h) h31) (fun q (hq : q = N + 0) => by omega) (OwD.rdf (fun _ _ _ _ _ _ h => h) h53) (fun q (hq : q = N + 2) => by omega) h177 (fun q (hq : q = N + 4 ∨ q = N + 4 + 1) => by rcases hq with hq | hq; all_goals first | (omega; done) | (omega; done)) hr322) ?_
     rintro _ a323 w324 ⟨g324, rfl, F324⟩ hS323
     replace h31 := OwS.fr h31 F324 (fun c' hc (hm : N + 6 ≤ c') => by omega)
     replace h53 := OwS.fr h53 F324 (fun c' hc (hm : N + 6 ≤ c') => by omega)
     replace h177 := RdS.fr h177 F324 (by decide) (fun q (hq : q = N + 4 ∨ q = N + 4 + 1) (hm : N + 6 ≤ q) => by rcases hq with hq | hq; all_goals first | (omega; done) | (omega; done))
     replace hF := hF.trans F324 (fun c' (hm : N + 6 ≤ c') => by show N ≤ c'; omega)
     refine st_val hS323 rfl rfl rfl (r_move hS323 rfl rfl) fun a325 hS325 => st_val hS325 rfl rfl rfl (r_move hS325 rfl rfl) fun a326 hS326 => st_val hS326 rfl rfl rfl (r_move hS326 rfl rfl) fun a327 hS327 => st_val hS327 rfl rfl rfl (r_move hS327 rfl rfl) fun a328 hS328 => st_val hS328 rfl rfl rfl (r_move hS328 rfl rfl) fun a329 hS329 => ?_
     refine st_enter hS329 rfl rfl rfl (r_call hS329 rfl rfl (by kernel_rfl)) (ref31_Verify.calls (C1 := (fun q => q = N + 0)) (C2 := (fun q => q = N + 2)) (C4 := (fun q => q = N + 4 ∨ q = N + 4 + 1)) (p0 := r27.1) (p1 := r27.2) (p2 := r49) (p3 := (wi (1 + r41))) (p4 := v178) (g := g324) (N + 6)  (OwD.rdf (fun _ _ _ _ _ _ h => h) h31) (fun q (hq : q = N + 0) => by omega) (OwD.rdf (fun _ _ _ _ _ _ h => h) h53) (fun q (hq : q = N + 2) => by omega) h177 (fun q (hq : q = N + 4 ∨ q = N + 4 + 1) => by rcases hq with hq | hq; all_goals first | (omega; done) | (omega; done)) hr331) ?_
     rintro _ a332 w333 ⟨g333, rfl, F333⟩ hS332
     replace h31 := OwS.fr h31 F333 (fun c' hc (hm : N + 6 ≤ c') => by omega)
     replace h53 := OwS.fr h53 F333 (fun c' hc (hm : N + 6 ≤ c') => by omega)
     replace h177 := RdS.fr h177 F333 (by decide) (fun q (hq : q = N + 4 ∨ q = N + 4 + 1) (hm : N + 6 ≤ q) => by rcases hq with hq | hq; all_goals first | (omega; done) | (omega; done))
     replace hF := hF.trans F333 (fun c' (hm : N + 6 ≤ c') => by show N ≤ c'; omega)
     refine st_val hS332 rfl rfl rfl (r_bin hS332 rfl rfl rfl b_eql) fun a334 hS334 => st_val hS334 rfl rfl rfl (r_move hS334 rfl rfl) fun a335 hS335 => ?_
     refine g_joinR 2 (fun a w343 => ∃ (g343 : Nat → Nat), Sl 197 a [(196, .bool t341)] ∧ Fr (fun q => N ≤ q) w g w343 g343) ?_ (fun hk => ?_)
     rotate_left
     ·rcases Bool.eq_false_or_eq_true ((r321 == r330)) with hb336 | hb336
      ·have H := ite_t hb336 ht342
       obtain ⟨r344, hr345, H⟩ := bind_el H
       have e348 := Option.some.inj H
       refine st_enterW hS335 (want_on hS335 rfl rfl rfl hb336) rfl rfl (r_call hS335 rfl rfl (by kernel_rfl)) (law31_awake.calls (g := g333) (N + 6)   hr345) ?_
       rintro _ a346 w347 ⟨g347, rfl, F347⟩ hS346
       replace h31 := OwS.fr h31 F347 (fun c' hc (hm : N + 6 ≤ c') => by omega)
       replace h53 := OwS.fr h53 F347 (fun c' hc (hm : N + 6 ≤ c') => by omega)
       replace h177 := RdS.fr h177 F347 (by decide) (fun q (hq : q = N + 4 ∨ q = N + 4 + 1) (hm : N + 6 ≤ q) => by rcases hq with hq | hq; all_goals first | (omega; done) | (omega; done))
       replace hF := hF.trans F347 (fun c' (hm : N + 6 ≤ c') => by show N ≤ c'; omega)
       refine st_val hS346 rfl rfl rfl (r_pickT hS346 rfl rfl rfl hb336) fun a349 hS349 => hk _ _ ?_
       exact ⟨g347, hS349.re ⟨(by rw [← e348]; rfl), trivial⟩, hF⟩
      ·have H := ite_f hb336 ht342
       have e350 := Option.some.inj H
       refine st_off hS335 (want_off hS335 rfl rfl rfl hb336) rfl rfl fun a351 hS351 => st_val hS351 rfl rfl rfl (r_pickF hS351 rfl rfl rfl hb336) fun a352 hS352 => hk _ _ ?_
       exact ⟨g333, hS352.re ⟨(by rw [← e350]; rfl), trivial⟩, hF⟩
     rintro a353 w343 ⟨g343, hS353, hF⟩
     refine st_val hS353 rfl rfl rfl (r_assign hS353 rfl rfl) fun a354 hS354 => wpList_nil (hK _ _ ?_)
     replace hS : Sl 197 _ [(16, .bool t341)] := hS354.re ⟨rfl, trivial⟩
     clear hK K
     try clear hS316 hS317 hS318 hS319 hS320 hS323 hS325 hS326 hS327 hS328 hS329 hS332 hS334 hS335 hS353 hS354
     obtain ⟨a, ha⟩ : ∃ a', a' = a354 := ⟨_, rfl⟩
     rw [← ha] at hS ⊢; clear ha
     refine wp_ret ?_
     have e := Option.some.inj H
     subst e
     repeat (with_reducible first | refine then_ret ?_ | refine inBlock_ret ?_)
     exact c_ret1 hS Try.results8 rfl ⟨_, rfl, g343, rfl, hF⟩

/-- What is left of law31_ResumeVerifyAgrees: about plain values alone. -/
def law31_ResumeVerifyAgrees.Pure : Prop := ∀ (p0 : Int) (p1 : List api_Link) (p2 : List Int) (p3 : Int) (p4 : List api_Slot) (p5 : Int) (p6 : Int) (p7 : Int), (Lit.int .i64 p0).wf = true → (p1.length ≤ maxLen ∧ ∀ p1' ∈ p1, Wf_api_Link p1') → (p2.length ≤ maxLen ∧ ∀ p2' ∈ p2, (Lit.int .u64 p2').wf = true) → (Lit.int .i64 p3).wf = true → (p4.length ≤ maxLen ∧ ∀ p4' ∈ p4, Wf_api_Slot p4') → (Lit.int .i64 p5).wf = true → (Lit.int .u64 p6).wf = true → (Lit.int .u8 p7).wf = true → law31_ResumeVerifyAgrees.f p0 p1 p2 p3 p4 p5 p6 p7 = some true

end Go.Proofs.Ythmjgadmadlpkaa.Sim

namespace Go.Proofs.Ythmjgadmadlpkaa.Sim
open Go
set_option linter.unusedVariables false
set_option linter.unusedSimpArgs false

open Go.ChangeShapes Go.WideShapes Go.ChangeAt Go.RowKit
namespace RowResumeVerifyAgrees
theorem own : ownKnob Try.prog.godebug = none := by kernel_rfl
theorem laidOut : laidOutB Try.prog = true := by kernel_rfl
set_option maxRecDepth 100000 in
theorem lifted (PU : law31_ResumeVerifyAgrees.Pure) (os : Os) (started : os.Started) (H : Type) (enc : TypeId × Value → H) :
    ReturnsInHanded {} Try.checked os 8 .any (Rows.resumeVerifyAgreesSpec.pre6 enc Try.prog Try.f8 Rows.resumeVerifyAgreesRow.domain false) (Rows.resumeVerifyAgreesSpec.post enc Try.prog Try.f8 false true false false) := by
  refine returnsInHanded_of_change (C := Try.checked) own started (by kernel_rfl) Try.func8
    (ChangeSpec.witness6 (enc := enc) (C := Try.checked) false ⟨#[], #[.int .i64 0, .slice none 0 0, .slice none 0 0, .int .i64 0, .slice none 0 0, .int .i64 0, .int .u64 0, .int .u8 0], []⟩ 8 (by kernel_rfl) (by kernel_rfl) (by kernel_rfl) (by kernel_rfl)) ?_
  intro W base args ds gs before hval0 hW hcnd _
  have hval : ∀ (j : Nat) t v, Try.f8.params[j]? = some t → args[j]? = some v → Value.okWide Try.prog W .any base t v := hval0
  have hW' := hW
  obtain ⟨p, q, hA0, hV, rfl, hfz, hnd⟩ := hW
  have hA : DataW.TrodAll enc Try.prog W 0 (fun _ => true) true Try.f8.params.toList args.toList ds p := hA0
  rw [Try.params8] at hA hval
  obtain ⟨v0, vs0, d0, ds0, q0, q0b, hargs, rfl, rfl, h0, r0⟩ := trodAll_cons hA
  obtain ⟨v1, vs1, d1, ds1, q1, q1b, rfl, rfl, rfl, h1, r1⟩ := trodAll_cons r0
  obtain ⟨v2, vs2, d2, ds2, q2, q2b, rfl, rfl, rfl, h2, r2⟩ := trodAll_cons r1
  obtain ⟨v3, vs3, d3, ds3, q3, q3b, rfl, rfl, rfl, h3, r3⟩ := trodAll_cons r2
  obtain ⟨v4, vs4, d4, ds4, q4, q4b, rfl, rfl, rfl, h4, r4⟩ := trodAll_cons r3
  obtain ⟨v5, vs5, d5, ds5, q5, q5b, rfl, rfl, rfl, h5, r5⟩ := trodAll_cons r4
  obtain ⟨v6, vs6, d6, ds6, q6, q6b, rfl, rfl, rfl, h6, r6⟩ := trodAll_cons r5
  obtain ⟨v7, vs7, d7, ds7, q7, q7b, rfl, rfl, rfl, h7, r7⟩ := trodAll_cons r6
  obtain ⟨rfl, rfl, rfl⟩ := trodAll_nil r7
  obtain rfl : args = #[v0, v1, v2, v3, v4, v5, v6, v7] := by cases args; simp_all
  obtain ⟨rfl, rfl⟩ := trodVars_none hV
  have k0 := h0
  have lt0 : ∀ x ∈ q0, x.block < W.heap.size := by obtain ⟨m, hm⟩ := k0; exact DataW.trod_lt m _ _ _ hm
  obtain ⟨a0, rfl, _, _, w0⟩ := open_int Try.underlying3 (hval 0 3 v0 rfl rfl) h0
  have k1 := h1
  have lt1 : ∀ x ∈ q1, x.block < W.heap.size := by obtain ⟨m, hm⟩ := k1; exact DataW.trod_lt m _ _ _ hm
  obtain ⟨b1, len1, cap1, rfl⟩ := okWide_slice Try.underlying22 (hval 1 22 v1 rfl rfl)
  obtain ⟨fu1, hf1⟩ := h1
  obtain ⟨a1, ⟨B1, c1, e1, R1⟩, w1⟩ := (Opens.slice Try.underlying22 (by decide) (by kernel_rfl) opens_api_Link) enc W true _ _ _ hf1
  injection e1 with e1; injection e1 with e1a e1b e1c; subst e1a; subst e1b; subst e1c
  have k2 := h2
  have lt2 : ∀ x ∈ q2, x.block < W.heap.size := by obtain ⟨m, hm⟩ := k2; exact DataW.trod_lt m _ _ _ hm
  obtain ⟨b2, len2, cap2, rfl⟩ := okWide_slice Try.underlying23 (hval 2 23 v2 rfl rfl)
  obtain ⟨fu2, hf2⟩ := h2
  obtain ⟨a2, ⟨B2, c2, e2, R2⟩, w2⟩ := (Opens.slice Try.underlying23 (by decide) (by kernel_rfl) (Opens.int Try.underlying33)) enc W true _ _ _ hf2
  injection e2 with e2; injection e2 with e2a e2b e2c; subst e2a; subst e2b; subst e2c
  have k3 := h3
  have lt3 : ∀ x ∈ q3, x.block < W.heap.size := by obtain ⟨m, hm⟩ := k3; exact DataW.trod_lt m _ _ _ hm
  obtain ⟨a3, rfl, _, _, w3⟩ := open_int Try.underlying3 (hval 3 3 v3 rfl rfl) h3
  have k4 := h4
  have lt4 : ∀ x ∈ q4, x.block < W.heap.size := by obtain ⟨m, hm⟩ := k4; exact DataW.trod_lt m _ _ _ hm
  obtain ⟨b4, len4, cap4, rfl⟩ := okWide_slice Try.underlying29 (hval 4 29 v4 rfl rfl)
  obtain ⟨fu4, hf4⟩ := h4
  obtain ⟨a4, ⟨B4, c4, e4, R4⟩, w4⟩ := (Opens.slice Try.underlying29 (by decide) (by kernel_rfl) opens_api_Slot) enc W true _ _ _ hf4
  injection e4 with e4; injection e4 with e4a e4b e4c; subst e4a; subst e4b; subst e4c
  have k5 := h5
  have lt5 : ∀ x ∈ q5, x.block < W.heap.size := by obtain ⟨m, hm⟩ := k5; exact DataW.trod_lt m _ _ _ hm
  obtain ⟨a5, rfl, _, _, w5⟩ := open_int Try.underlying3 (hval 5 3 v5 rfl rfl) h5
  have k6 := h6
  have lt6 : ∀ x ∈ q6, x.block < W.heap.size := by obtain ⟨m, hm⟩ := k6; exact DataW.trod_lt m _ _ _ hm
  obtain ⟨a6, rfl, _, _, w6⟩ := open_int Try.underlying33 (hval 6 33 v6 rfl rfl) h6
  have k7 := h7
  have lt7 : ∀ x ∈ q7, x.block < W.heap.size := by obtain ⟨m, hm⟩ := k7; exact DataW.trod_lt m _ _ _ hm
  obtain ⟨a7, rfl, _, _, w7⟩ := open_int Try.underlying5 (hval 7 5 v7 rfl rfl) h7
  clear hA0 hval0
  have H := PU a0 a1 a2 a3 a4 a5 a6 a7 w0 w1 w2 w3 w4 w5 w6 w7
  refine (law31_ResumeVerifyAgrees.calls (p0 := a0) (p1 := a1) (p2 := a2) (p3 := a3) (p4 := a4) (p5 := a5) (p6 := a6) (p7 := a7) (w := W) (g := fun _ => 0) 1 R1 (fun c (hc : c = 0) => by omega) R2 (fun c (hc : c = 0) => by omega) R4 (fun c (hc : c = 0) => by omega) H).mono fun e W' he => ?_
  obtain ⟨v, rfl, g', rfl, F⟩ := he
  have bel := F.below
  exact ⟨_, rfl, _, _, _, [], _, [], hW', trodAll_mk1 (shut_bool Try.underlying4 _), (trodAll_cons_mk (Below.trod laidOut (by kernel_rfl) (of_decide_eq_true (by kernel_rfl)) k0 bel lt0) (trodAll_cons_mk (Below.trod laidOut (by kernel_rfl) (of_decide_eq_true (by kernel_rfl)) k1 bel lt1) (trodAll_cons_mk (Below.trod laidOut (by kernel_rfl) (of_decide_eq_true (by kernel_rfl)) k2 bel lt2) (trodAll_cons_mk (Below.trod laidOut (by kernel_rfl) (of_decide_eq_true (by kernel_rfl)) k3 bel lt3) (trodAll_cons_mk (Below.trod laidOut (by kernel_rfl) (of_decide_eq_true (by kernel_rfl)) k4 bel lt4) (trodAll_cons_mk (Below.trod laidOut (by kernel_rfl) (of_decide_eq_true (by kernel_rfl)) k5 bel lt5) (trodAll_cons_mk (Below.trod laidOut (by kernel_rfl) (of_decide_eq_true (by kernel_rfl)) k6 bel lt6) (trodAll_cons_mk (Below.trod laidOut (by kernel_rfl) (of_decide_eq_true (by kernel_rfl)) k7 bel lt7) trodAll_mk0)))))))), rfl, bel.frame _, fun h => by cases h⟩
theorem over (PU : law31_ResumeVerifyAgrees.Pure) : Rows.resumeVerifyAgreesRow.holds Try.pinned (OpenSpec.ofChange Rows.resumeVerifyAgreesSpec) :=
  OpenClaim.holds_of_wide 8 Try.f8 rfl rfl rfl rfl rfl rfl rfl ⟨rfl, rfl, rfl, rfl, rfl⟩ rfl rfl rfl rfl rfl (by kernel_rfl) Try.func8 (by kernel_rfl)
    (of_decide_eq_true (by kernel_rfl)) (by unfold Func.isWrapper; first | (rw [if_pos (by decide +kernel)]; kernel_rfl) | (rw [if_neg (by decide +kernel)]; exact ⟨rfl, rfl⟩))
    (fun os started H enc _ => lifted PU os started H enc)
end RowResumeVerifyAgrees

end Go.Proofs.Ythmjgadmadlpkaa.Sim

namespace Go.Proofs.Ythmjgadmadlpkaa.Sim
open Go
set_option linter.unusedVariables false

/-! ### loops -/

theorem loop_m {σ ρ : Type} {L : Nat → σ → Option ρ} (I : σ → Prop) (μ : σ → Nat) (Q : Option ρ → Prop)
    (step : ∀ k s, I s → (∃ s', I s' ∧ μ s' < μ s ∧ L (k + 1) s = L k s') ∨ Q (L (k + 1) s)) : ∀ (fuel : Nat) (s : σ), I s → μ s < fuel → Q (L fuel s)
  | 0, s, _, h => absurd h (by omega)
  | k + 1, s, hi, h => by
    rcases step k s hi with ⟨s', h1, h2, h3⟩ | h1
    · rw [h3]; exact loop_m I μ Q step k s' h1 (by omega)
    · exact h1

/-- A loop that counts up to n. -/
theorem loop_c {σ ρ : Type} {L : Nat → σ → Int → Option ρ} (n : Nat) (I : Nat → σ → Prop) (Q : Option ρ → Prop)
    (step : ∀ k s i, i < n → I i s → (∃ s', I (i + 1) s' ∧ L (k + 1) s (i : Int) = L k s' ((i + 1 : Nat) : Int)) ∨ Q (L (k + 1) s (i : Int)))
    (fin : ∀ k s, I n s → Q (L (k + 1) s (n : Int))) : ∀ (fuel i : Nat) (s : σ), i ≤ n → n - i < fuel → I i s → Q (L fuel s (i : Int))
  | 0, i, s, _, h, _ => absurd h (by omega)
  | k + 1, i, s, h0, h, hi => by
    rcases Nat.lt_or_ge i n with hl | hl
    · rcases step k s i hl hi with ⟨s', h1, h3⟩ | h1
      · rw [h3]; exact loop_c n I Q step fin k (i + 1) s' hl (by omega) h1
      · exact h1
    · have : i = n := by omega
      subst this
      exact fin k s hi

theorem FUEL_pos {n : Nat} (h : n ≤ 9223372036854775807) : n < FUEL := by unfold FUEL; omega

/-! ### numbers -/

theorem wi_id {x : Int} (h0 : -9223372036854775808 ≤ x) (h1 : x < 9223372036854775808) : wi x = x := by
  unfold wi; simp only [IntKind.wrap, IntKind.bits, IntKind.signed, Bool.true_and]; split <;> rename_i h <;> simp at h <;> omega
theorem wu_eq (x : Int) : wu x = x % 18446744073709551616 := by
  unfold wu; simp only [IntKind.wrap, IntKind.bits, IntKind.signed, Bool.false_and]; rfl
theorem wu_id {x : Int} (h0 : 0 ≤ x) (h1 : x < 18446744073709551616) : wu x = x := by rw [wu_eq]; omega
theorem wu_range (x : Int) : 0 ≤ wu x ∧ wu x < 18446744073709551616 := by rw [wu_eq]; omega
theorem maxLen_eq : maxLen = 9223372036854775807 := rfl
theorem wi_succ {i : Nat} (h : i < 9223372036854775807) : wi ((i : Int) + 1) = ((i + 1 : Nat) : Int) := by rw [wi_id (by omega) (by omega)]; rfl

/-! ### lists -/

theorem idx_get {α : Type} {xs : List α} {i : Nat} (h : i < xs.length) : idx xs (i : Int) = some xs[i] := by
  unfold idx; rw [if_pos (by omega)]; simp [h]
theorem idx_nat {α : Type} {xs : List α} {i : Int} (h0 : 0 ≤ i) : idx xs i = xs[i.toNat]? := by
  unfold idx; rw [if_pos h0]
theorem idx_of {α : Type} {xs : List α} {i : Int} (h0 : 0 ≤ i) (h1 : i < (xs.length : Int)) : ∃ x, idx xs i = some x ∧ x ∈ xs := by
  obtain ⟨n, rfl⟩ := Int.eq_ofNat_of_zero_le h0
  have hn : n < xs.length := by omega
  exact ⟨xs[n], idx_get hn, List.getElem_mem hn⟩
theorem idx_upd {α : Type} {xs : List α} {i j : Int} {x : α} (hi : 0 ≤ i) (hj : 0 ≤ j) (hl : j < (xs.length : Int)) : idx (upd xs i x) j = if i = j then some x else idx xs j := by
  rw [idx_nat hj, idx_nat hj]
  unfold upd
  rw [List.getElem?_set]
  by_cases e : i = j
  · subst e; rw [if_pos rfl, if_pos rfl, if_pos (by omega)]
  · rw [if_neg e, if_neg (by omega)]
theorem idx_upd_some {α : Type} {xs : List α} {i j : Int} {x y : α} (hi : 0 ≤ i) (h : idx xs j = some y) : idx (upd xs i x) j = some (if i = j then x else y) := by
  rw [idx_upd hi (idx_lo h) (idx_hi h)]
  split <;> simp [h]

theorem app_ok {α : Type} {xs ys : List α} (h : xs.length + ys.length ≤ 4294967296) : app xs ys = some (xs ++ ys) := by
  unfold app; rw [if_pos h]
theorem mk_ok {α : Type} {n : Nat} {x : α} (h : n ≤ 4294967296) : mk (n : Int) x = some (List.replicate n x) := by
  unfold mk; rw [if_pos (by omega)]; rfl
theorem idx_replicate {α : Type} {n : Nat} {x : α} {i : Int} (h0 : 0 ≤ i) (h1 : i < (n : Int)) : idx (List.replicate n x) i = some x := by
  rw [idx_nat h0, List.getElem?_replicate, if_pos (by omega)]
theorem slc_front {α : Type} {xs : List α} {h : Nat} (hh : h ≤ xs.length) : slc xs 0 (h : Int) = some (xs.take h) := by
  unfold slc; rw [if_pos (by omega)]; simp
theorem slc_back {α : Type} {xs : List α} {l : Nat} (hl : l ≤ xs.length) : slc xs (l : Int) (xs.length : Int) = some (xs.drop l) := by
  unfold slc; rw [if_pos (by omega)]; simp

/-- A list without repetitions inside another one is not longer. -/
theorem nodup_le {α : Type} [DecidableEq α] : ∀ {l s : List α}, l.Nodup → (∀ x ∈ l, x ∈ s) → l.length ≤ s.length
  | [], _, _, _ => by simp
  | a :: t, s, hn, hs => by
    have ha := hs a (List.mem_cons_self ..)
    rw [List.nodup_cons] at hn
    have := nodup_le (l := t) (s := s.erase a) hn.2 (fun x hx => by
      have : x ≠ a := fun e => hn.1 (e ▸ hx)
      exact (List.mem_erase_of_ne this).2 (hs x (List.mem_cons_of_mem _ hx)))
    rw [List.length_erase_of_mem ha] at this
    have : 0 < s.length := List.length_pos_of_mem ha
    simp only [List.length_cons]; omega

/-- The numbers below n. -/
def below (n : Nat) : List Int := (List.range n).map (fun (i : Nat) => (i : Int))
theorem mem_below {n : Nat} {x : Int} : x ∈ below n ↔ 0 ≤ x ∧ x < n := by
  unfold below
  simp only [List.mem_map, List.mem_range]
  constructor
  · rintro ⟨a, h, rfl⟩; omega
  · rintro ⟨h0, h1⟩; exact ⟨x.toNat, by omega, by omega⟩
theorem below_length (n : Nat) : (below n).length = n := by simp [below]
theorem below_succ (n : Nat) : below (n + 1) = below n ++ [(n : Int)] := by simp [below, List.range_succ]
theorem below_nodup (n : Nat) : (below n).Nodup := by
  induction n with
  | zero => simp [below]
  | succ n ih =>
    rw [below_succ, List.nodup_append]
    refine ⟨ih, by simp, fun a ha b hb => ?_⟩
    have := (mem_below.1 ha).2
    simp only [List.mem_singleton] at hb
    omega

end Go.Proofs.Ythmjgadmadlpkaa.Sim

namespace Go.Proofs.Ythmjgadmadlpkaa.Sim
open Go
set_option linter.unusedVariables false

def hf (q : List Int) (i : Nat) : Int := q.getD i 0
theorem hf_get {q : List Int} {i : Nat} (h : i < q.length) : hf q i = q[i] := by simp [hf, h]
theorem idx_hf {q : List Int} {i : Nat} (h : i < q.length) : idx q (i : Int) = some (hf q i) := by rw [idx_get h, hf_get h]

def sw (q : List Int) (i j : Nat) : List Int := (q.set i (hf q j)).set j (hf q i)
theorem sw_length (q : List Int) (i j : Nat) : (sw q i j).length = q.length := by simp [sw]
theorem hf_sw {q : List Int} {i j : Nat} (hi : i < q.length) (hj : j < q.length) (k : Nat) : hf (sw q i j) k = if k = j then hf q i else if k = i then hf q j else hf q k := by
  unfold sw
  simp only [hf, List.getD_eq_getElem?_getD, List.getElem?_set, List.length_set]
  by_cases e1 : k = j
  · subst e1; simp [hj]
  · rw [if_neg (fun h => e1 h.symm), if_neg e1]
    by_cases e2 : k = i
    · subst e2; simp [hi]
    · rw [if_neg (fun h => e2 h.symm), if_neg e2]
theorem sw_perm {q : List Int} {i j : Nat} (hi : i < q.length) (hj : j < q.length) : (sw q i j).Perm q := by
  unfold sw
  rw [hf_get hi, hf_get hj]
  exact List.set_set_perm hi hj

theorem swap_ok {q : List Int} {i j : Nat} (hi : i < q.length) (hj : j < q.length) : depgraph_queue_Swap.f q (i : Int) (j : Int) = some (sw q i j) := by
  unfold depgraph_queue_Swap.f
  rw [idx_hf hj, idx_hf hi]
  simp only [Option.bind_some]
  have : (upd q (i : Int) (hf q j)).length = q.length := upd_length _ _ _
  rw [idx_get (by omega)]
  rfl
theorem less_ok {q : List Int} {i j : Nat} (hi : i < q.length) (hj : j < q.length) : depgraph_queue_Less.f q (i : Int) (j : Int) = some (decide (hf q i < hf q j)) := by
  unfold depgraph_queue_Less.f
  rw [idx_hf hj, idx_hf hi]
  rfl

/-- A heap on the first n places. -/
def Heap (q : List Int) (n : Nat) : Prop := ∀ k, 0 < k → k < n → hf q ((k - 1) / 2) ≤ hf q k

theorem Heap.min {q : List Int} {n : Nat} (h : Heap q n) : ∀ k, k < n → hf q 0 ≤ hf q k := by
  intro k
  induction k using Nat.strongRecOn with
  | _ k ih =>
    intro hk
    rcases Nat.eq_zero_or_pos k with rfl | h0
    · omega
    · have h1 := ih ((k - 1) / 2) (by omega) (by omega)
      have h2 := h k h0 hk
      omega

structure UpI (q : List Int) (j : Nat) : Prop where
  lt : j < q.length
  a : ∀ k, 0 < k → k < q.length → k ≠ j → hf q ((k - 1) / 2) ≤ hf q k
  b : ∀ k, 0 < k → k < q.length → (k - 1) / 2 = j → 0 < j → hf q ((j - 1) / 2) ≤ hf q k

theorem up_par {j : Nat} (h : j < 4294967296) : wi (Int.tdiv (wi ((j : Int) - 1)) 2) = (((j - 1) / 2 : Nat) : Int) := by
  rw [wi_id (x := (j : Int) - 1) (by omega) (by omega)]
  rcases Nat.eq_zero_or_pos j with rfl | h0
  · rw [show Int.tdiv (((0 : Nat) : Int) - 1) 2 = 0 from by decide]; exact wi_id (by omega) (by omega)
  · rw [Int.tdiv_eq_ediv_of_nonneg (by omega), wi_id (by omega) (by omega)]; omega

theorem up_ok (q : List Int) (j : Nat) (hl : q.length ≤ 4294967296) (h : UpI q j) : ∃ q', heap_up.f ⟨q⟩ (j : Int) = some ⟨q'⟩ ∧ q'.Perm q ∧ Heap q' q'.length := by
  unfold heap_up.f
  show ∃ q', (fun k (s : List Int × Nat) => heap_up.l0 k s.1 (s.2 : Int)) FUEL (q, j) = some ⟨q'⟩ ∧ _
  refine loop_m (L := fun k (s : List Int × Nat) => heap_up.l0 k s.1 (s.2 : Int)) (fun s => UpI s.1 s.2 ∧ s.1.Perm q) (fun s => s.2) (fun o => ∃ q', o = some ⟨q'⟩ ∧ q'.Perm q ∧ Heap q' q'.length) ?_ FUEL (q, j) ⟨h, List.Perm.refl _⟩ (FUEL_pos (by have := h.lt; show j ≤ _; omega))
  rintro k ⟨q1, j⟩ ⟨hi, hp⟩
  simp only at hi hp ⊢
  have hlen := hp.length_eq
  have hjl := hi.lt
  rw [heap_up.l0, up_par (by omega)]
  by_cases e : (j - 1) / 2 = j
  · have hj0 : j = 0 := by omega
    subst hj0
    refine .inr ⟨q1, by simp, hp, fun k h0 h1 => hi.a k h0 h1 (by omega)⟩
  · have hj0 : 0 < j := by omega
    rw [if_neg (by simp; omega), less_ok (by omega) (by omega)]
    simp only [Option.bind_some]
    by_cases hc : hf q1 j < hf q1 ((j - 1) / 2)
    · refine .inl ⟨(sw q1 ((j - 1) / 2) j, (j - 1) / 2), ⟨?_, (sw_perm (by omega) (by omega)).trans hp⟩, by show (j - 1) / 2 < j; omega, ?_⟩
      · have hs := fun k => hf_sw (q := q1) (i := (j - 1) / 2) (j := j) (by omega) (by omega) k
        refine ⟨by rw [sw_length]; omega, fun k h0 h1 hk => ?_, fun k h0 h1 hk hp0 => ?_⟩
        · rw [sw_length] at h1
          simp only at hk
          rw [hs, hs]
          by_cases e1 : k = j
          · subst e1
            rw [if_neg (by omega), if_pos rfl, if_pos rfl]; omega
          · rw [if_neg e1, if_neg hk]
            by_cases e2 : (k - 1) / 2 = j
            · rw [if_pos e2]; exact hi.b k h0 h1 e2 hj0
            · rw [if_neg e2]
              by_cases e3 : (k - 1) / 2 = (j - 1) / 2
              · rw [if_pos e3]
                have := hi.a k h0 h1 e1
                rw [e3] at this; omega
              · rw [if_neg e3]; exact hi.a k h0 h1 e1
        · rw [sw_length] at h1
          simp only at hk hp0 ⊢
          rw [hs, hs, if_neg (by omega), if_neg (by omega)]
          have hpar := hi.a ((j - 1) / 2) hp0 (by omega) (by omega)
          by_cases e1 : k = j
          · rw [if_pos e1]; exact hpar
          · rw [if_neg e1, if_neg (by omega)]
            have := hi.a k h0 h1 e1
            rw [hk] at this; omega
      · rw [decide_eq_true hc]
        simp only [Bool.not_true, Bool.false_eq_true, if_false]
        rw [swap_ok (by omega) (by omega)]
        rfl
    · refine .inr ⟨q1, ?_, hp, fun k h0 h1 => ?_⟩
      · rw [decide_eq_false hc]; simp
      · by_cases e1 : k = j
        · subst e1; omega
        · exact hi.a k h0 h1 e1

theorem push_ok (q : List Int) (x : Int) (hl : q.length < 4294967296) (h : Heap q q.length) : ∃ q', heap_Push.f ⟨q⟩ x = some ⟨q'⟩ ∧ q'.Perm (x :: q) ∧ Heap q' q'.length := by
  unfold heap_Push.f depgraph_queue_Push.f depgraph_queue_Len.f
  rw [app_ok (by simp; omega)]
  simp only [Option.bind_some]
  have hlen : (q ++ [x]).length = q.length + 1 := by simp
  have e : wi (((q ++ [x]).length : Int) - 1) = ((q.length : Nat) : Int) := by rw [hlen, wi_id (by omega) (by omega)]; omega
  rw [e]
  have hh : ∀ k, k < q.length → hf (q ++ [x]) k = hf q k := by
    intro k hk; rw [hf_get hk, hf_get (by omega)]; simp [hk]
  obtain ⟨q', h1, h2, h3⟩ := up_ok (q ++ [x]) q.length (by omega) ⟨by omega, fun k h0 h1 hk => by
    rw [hh k (by omega), hh _ (by omega)]; exact h k h0 (by omega), fun k h0 h1 hk _ => by omega⟩
  rw [h1]
  exact ⟨q', rfl, h2.trans (List.perm_append_singleton x q), h3⟩

structure DownI (q : List Int) (n i : Nat) : Prop where
  le : n ≤ q.length
  a : ∀ k, 0 < k → k < n → (k - 1) / 2 ≠ i → hf q ((k - 1) / 2) ≤ hf q k
  b : ∀ k, 0 < k → k < n → (k - 1) / 2 = i → 0 < i → hf q ((i - 1) / 2) ≤ hf q k

theorem down_ok (q : List Int) (n : Nat) (hl : q.length ≤ 4294967296) (h : DownI q n 0) : ∃ q' i, heap_down.l0 (n : Int) FUEL q 0 = some (i, q') ∧ q'.Perm q ∧ Heap q' n ∧ ∀ k, n ≤ k → hf q' k = hf q k := by
  show ∃ q' i, (fun k (s : List Int × Nat) => heap_down.l0 (n : Int) k s.1 (s.2 : Int)) FUEL (q, 0) = some (i, q') ∧ _
  refine loop_m (L := fun k (s : List Int × Nat) => heap_down.l0 (n : Int) k s.1 (s.2 : Int)) (fun s => DownI s.1 n s.2 ∧ s.1.Perm q ∧ (s.2 < n ∨ s.2 = 0) ∧ ∀ k, n ≤ k → hf s.1 k = hf q k) (fun s => n - s.2)
    (fun o => ∃ q' i, o = some (i, q') ∧ q'.Perm q ∧ Heap q' n ∧ ∀ k, n ≤ k → hf q' k = hf q k) ?_ FUEL (q, 0) ⟨h, List.Perm.refl _, .inr rfl, fun _ _ => rfl⟩ (FUEL_pos (by have := h.le; show n - 0 ≤ _; omega))
  rintro k ⟨q1, i⟩ ⟨hi, hp, hin, hk⟩
  simp only at hi hp hin hk ⊢
  have hlen := hp.length_eq
  have hle := hi.le
  rw [heap_down.l0]
  have e1 : wi (2 * (i : Int)) = ((2 * i : Nat) : Int) := by rw [wi_id (by omega) (by omega)]; omega
  have e2 : wi (((2 * i : Nat) : Int) + 1) = ((2 * i + 1 : Nat) : Int) := wi_succ (by omega)
  have e3 : wi (((2 * i + 1 : Nat) : Int) + 1) = ((2 * i + 2 : Nat) : Int) := wi_succ (by omega)
  rw [e1, e2, e3]
  by_cases hc : n ≤ 2 * i + 1
  · rw [if_pos (by simp; omega)]
    refine .inr ⟨q1, _, rfl, hp, fun k h0 h1 => ?_, hk⟩
    exact hi.a k h0 h1 (by omega)
  · rw [if_neg (by simp; omega)]
    -- the smaller child
    have hj : ∃ j, (j = 2 * i + 1 ∨ j = 2 * i + 2) ∧ j < n ∧ (∀ k, 0 < k → k < n → (k - 1) / 2 = i → hf q1 j ≤ hf q1 k) ∧
        ((if decide (((2 * i + 2 : Nat) : Int) < (n : Int)) = true then (depgraph_queue_Less.f q1 ((2 * i + 2 : Nat) : Int) ((2 * i + 1 : Nat) : Int)).bind fun r46 => some r46 else some false).bind fun t50 => if t50 = true then (some ((2 * i + 2 : Nat) : Int)) else (some ((2 * i + 1 : Nat) : Int)) : Option Int) = some (j : Int) := by
      by_cases h2 : 2 * i + 2 < n
      · rw [if_pos (by simp; omega), less_ok (by omega) (by omega)]
        simp only [Option.bind_some]
        by_cases h3 : hf q1 (2 * i + 2) < hf q1 (2 * i + 1)
        · refine ⟨2 * i + 2, .inr rfl, h2, fun k h0 h1 hk => ?_, by rw [decide_eq_true h3]; rfl⟩
          have : k = 2 * i + 1 ∨ k = 2 * i + 2 := by omega
          rcases this with rfl | rfl <;> omega
        · refine ⟨2 * i + 1, .inl rfl, by omega, fun k h0 h1 hk => ?_, by rw [decide_eq_false h3]; rfl⟩
          have : k = 2 * i + 1 ∨ k = 2 * i + 2 := by omega
          rcases this with rfl | rfl <;> omega
      · rw [if_neg (by simp; omega)]
        refine ⟨2 * i + 1, .inl rfl, by omega, fun k h0 h1 hk => ?_, rfl⟩
        have : k = 2 * i + 1 := by omega
        subst this; omega
    obtain ⟨j, hj1, hj2, hj3, hj4⟩ := hj
    rw [hj4]
    simp only [Option.bind_some]
    rw [less_ok (by omega) (by omega)]
    simp only [Option.bind_some]
    by_cases h5 : hf q1 j < hf q1 i
    · refine .inl ⟨(sw q1 i j, j), ⟨?_, (sw_perm (by omega) (by omega)).trans hp, .inl hj2, fun k hk' => ?_⟩, by show n - j < n - i; omega, ?_⟩
      · have hs := fun k => hf_sw (q := q1) (i := i) (j := j) (by omega) (by omega) k
        refine ⟨by rw [sw_length]; exact hle, fun k h0 h1 hk' => ?_, fun k h0 h1 hk' _ => ?_⟩
        · simp only at hk'
          rw [hs, hs, if_neg hk']
          by_cases e4 : (k - 1) / 2 = i
          · rw [if_pos e4]
            by_cases e5 : k = j
            · rw [if_pos e5]; omega
            · rw [if_neg e5, if_neg (by omega)]; exact hj3 k h0 h1 e4
          · rw [if_neg e4]
            by_cases e5 : k = j
            · omega
            · rw [if_neg e5]
              by_cases e6 : k = i
              · rw [if_pos e6]; subst e6
                exact hi.b j (by omega) hj2 (by omega) h0
              · rw [if_neg e6]; exact hi.a k h0 h1 e4
        · simp only at hk' ⊢
          rw [hs, hs, if_neg (by omega), if_pos (by omega), if_neg (by omega), if_neg (by omega)]
          have := hi.a k h0 h1 (by omega)
          rw [hk'] at this; exact this
      · simp only
        rw [hf_sw (by omega) (by omega), if_neg (by omega), if_neg (by omega)]; exact hk k hk'
      · rw [decide_eq_true h5]
        simp only [Bool.not_true, Bool.false_eq_true, if_false]
        rw [swap_ok (by omega) (by omega)]
        rfl
    · rw [decide_eq_false h5]
      refine .inr ⟨q1, _, rfl, hp, fun k h0 h1 => ?_, hk⟩
      by_cases e4 : (k - 1) / 2 = i
      · rw [e4]; have := hj3 k h0 h1 e4; omega
      · exact hi.a k h0 h1 e4

theorem pop_ok (q : List Int) (hl : q.length ≤ 4294967296) (h0 : 0 < q.length) (h : Heap q q.length) : ∃ q' x, heap_Pop.f ⟨q⟩ = some (⟨q'⟩, x) ∧ (x :: q').Perm q ∧ Heap q' q'.length ∧ ∀ y ∈ q, x ≤ y := by
  unfold heap_Pop.f depgraph_queue_Len.f heap_down.f depgraph_queue_Pop.f
  simp only [Option.bind_some]
  obtain ⟨n, hn⟩ : ∃ n, q.length = n + 1 := ⟨q.length - 1, by omega⟩
  have e : wi ((q.length : Int) - 1) = ((n : Nat) : Int) := by rw [wi_id (by omega) (by omega)]; omega
  rw [e, show (0 : Int) = ((0 : Nat) : Int) from rfl, swap_ok (by omega) (by omega)]
  simp only [Option.bind_some]
  have hs := fun k => hf_sw (q := q) (i := 0) (j := n) (by omega) (by omega) k
  obtain ⟨q', i, h1, h2, h3, h4⟩ := down_ok (sw q 0 n) n (by rw [sw_length]; exact hl) ⟨by rw [sw_length]; omega, fun k k0 k1 hk => by
    rw [hs, hs, if_neg (by omega), if_neg hk, if_neg (by omega), if_neg (by omega)]; exact h k k0 (by omega), fun k _ _ _ hh => by omega⟩
  have hlen : q'.length = n + 1 := by rw [h2.length_eq, sw_length]; exact hn
  simp only [Int.natCast_zero] at h1 ⊢
  rw [h1]
  simp only [Option.bind_some]
  have e2 : wi ((q'.length : Int) - 1) = ((n : Nat) : Int) := by rw [hlen, wi_id (by omega) (by omega)]; omega
  rw [e2, idx_hf (by omega)]
  have := slc_front (xs := q') (h := n) (by omega)
  rw [this]
  simp only [Option.bind_some]
  have hx : hf q' n = hf q 0 := by rw [h4 n (Nat.le_refl _), hs, if_pos rfl]
  have hdec : q' = q'.take n ++ [hf q' n] := by
    rw [hf_get (by omega)]
    have := List.take_append_drop n q'
    rw [List.drop_eq_getElem_cons (by omega), List.drop_of_length_le (by omega)] at this
    exact this.symm
  refine ⟨_, _, rfl, ?_, ?_, ?_⟩
  · have hp := h2.trans (sw_perm (q := q) (i := 0) (j := n) (by omega) (by omega))
    refine (List.perm_append_singleton _ _).symm.trans ?_
    rw [← hdec]; exact hp
  · intro k k0 k1
    rw [List.length_take, Nat.min_eq_left (by omega)] at k1
    have hh : ∀ k, k < n → hf (q'.take n) k = hf q' k := by
      intro k hk; rw [hf_get (by rw [List.length_take]; omega), hf_get (by omega)]; simp
    rw [hh _ (by omega), hh _ k1]
    exact h3 k k0 k1
  · intro y hy
    rw [hx]
    obtain ⟨k, hk, rfl⟩ := List.getElem_of_mem hy
    rw [← hf_get hk]
    exact h.min k hk

end Go.Proofs.Ythmjgadmadlpkaa.Sim
