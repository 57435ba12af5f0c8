/-
  Printed by a program of this session (wip/tools): plain functions with the same answers as the Go functions, and the proofs of it.
-/
import Derived.Test.YtfiodhdldleocaaProg
import Derived.Test.YtfiodhdldleocaaR1
namespace Go.Proofs.Ytfiodhdldleocaa.Sim
open Go
set_option linter.unusedVariables false
set_option linter.unusedSimpArgs false

/-! ### rails_Rails_on: function 39 -/
def rails_Rails_on.r : Nat → rails_Rails → Int → Int → Option (rails_Rails × (List api_RailOp))
  | 0, _, _, _ => none
  | kr + 1, p0, p1, p2 => (idx p0.list p1).bind fun x7 => (idx (upd p0.list p1 ({ x7 with count := wi (x7.count + 1) } : rails_rail)) p1).bind fun x23 => if decide (1 < x23.count) = true then (some ((rails_Rails.mk (upd p0.list p1 ({ x7 with count := wi (x7.count + 1) } : rails_rail)) p0.now), [])) else ((if decide (0 ≤ x23.Rail.Supply) = true then ((rails_Rails_on.r kr (rails_Rails.mk (upd p0.list p1 ({ x7 with count := wi (x7.count + 1) } : rails_rail)) p0.now) x23.Rail.Supply p2).bind fun r58 => (idx r58.1.list p1).bind fun x77 => (idx r58.1.list x77.Rail.Supply).bind fun x80 => some (r58.1.list, r58.2, (max (max p2 x23.done) x80.done), r58.1)) else (some ((upd p0.list p1 ({ x7 with count := wi (x7.count + 1) } : rails_rail)), [], (max p2 x23.done), (rails_Rails.mk (upd p0.list p1 ({ x7 with count := wi (x7.count + 1) } : rails_rail)) p0.now))) : Option ((List rails_rail) × (List api_RailOp) × Int × rails_Rails)).bind fun v41 => (idx v41.1 p1).bind fun x93 => (idx (upd v41.1 p1 ({ x93 with done := wu (v41.2.2.1 + x93.Rail.RampUp) } : rails_rail)) p1).bind fun x107 => (app v41.2.1 [(api_RailOp.mk p1 true v41.2.2.1 x107.done)]).bind fun y116 => some ((rails_Rails.mk (upd v41.1 p1 ({ x93 with done := wu (v41.2.2.1 + x93.Rail.RampUp) } : rails_rail)) v41.2.2.2.now), y116))
def rails_Rails_on.f (p0 : rails_Rails) (p1 : Int) (p2 : Int) : Option (rails_Rails × (List api_RailOp)) := rails_Rails_on.r FUEL p0 p1 p2
set_option maxRecDepth 100000 in
set_option maxHeartbeats 4000000 in
theorem rails_Rails_on.calls_r : ∀ (kr : Nat) {p0 : rails_Rails} {c0 : Nat}  {b_p0 : Nat} {A_list_p0 : Option Addr} {cap_list_p0 : Nat} {p1 : Int} {p2 : Int} {w : World} {g : Nat → Nat} {out : rails_Rails × (List api_RailOp)} (N : Nat) (r0 : Nat) (hp0 : rails_Rails_At w g c0 b_p0 A_list_p0 cap_list_p0 p0) (hc0 : c0 + 3 ≤ N) (hr0 : r0 + 2 ≤ N) (hq0_0 : r0 + 2 ≤ c0 ∨ c0 + 3 ≤ r0), rails_Rails_on.r kr p0 p1 p2 = some out →
    Calls Try.prog 39 #[.pointer (some ⟨b_p0, 0, none⟩), .int .i64 p1, .int .u64 p2] w (fun e w' => ∃ v, e = .returned v ∧ ∃ (g' : Nat → Nat) (A_r0 : Option Addr) (cap_r0 : Nat), v = .slice A_r0 out.2.length cap_r0 ∧ rails_Rails_At w' g' c0 b_p0 A_list_p0 cap_list_p0 out.1 ∧ OwS kd_api_RailOp 50 w' g' r0 A_r0 cap_r0 out.2 ∧ Fr (fun q => (c0 ≤ q ∧ q < c0 + 3) ∨ (r0 ≤ q ∧ q < r0 + 2) ∨ N ≤ q) w g w' g') := by
  intro kr
  induction kr with
  | zero => intros; rename_i H; exact absurd H (by simp [rails_Rails_on.r])
  | succ kr ih =>
    intro p0 c0 b_p0 A_list_p0 cap_list_p0 p1 p2 w g out N r0 hp0 hc0 hr0 hq0_0 H
    rw [rails_Rails_on.r] at H
    refine calls_enter Try.func39 rfl Try.ntmps39 rfl (fun a hS => ?_)
    replace hS : Sl 82 a [(0, .pointer (some ⟨b_p0, 0, none⟩)), (1, .int .i64 p1), (2, .int .u64 p2)] := hS
    have hF : Fr (fun q => (c0 ≤ q ∧ q < c0 + 3) ∨ (r0 ≤ q ∧ q < r0 + 2) ∨ N ≤ q) w g w g := Fr.refl _ _ _
    obtain ⟨hb0, hf0_list⟩ := hp0
    refine c_pure [(0, .pointer (some ⟨b_p0, 0, none⟩)), (1, .int .i64 p1), (2, .int .u64 p2)] (fun R hR => st_val hS rfl rfl rfl (r_assign hS rfl rfl) fun a1 hS1 => wpList_nil (hR _ (hS1.re ⟨rfl, rfl, rfl, trivial⟩))) ?_
    clear hS
    clear a
    intro a hS
    obtain ⟨x7, hx8, H⟩ := bind_el H
    refine c_pure [(0, .pointer (some ⟨b_p0, 0, none⟩)), (1, .int .i64 p1), (2, .int .u64 p2), (7, .pointer (some (ea A_list_p0 (p1.toNat * 5))))] (fun R hR => st_val hS rfl rfl rfl (r_move hS rfl rfl) fun a2 hS2 => st_val hS2 rfl rfl rfl (r_nil hS2 rfl rfl) fun a3 hS3 => st_val hS3 rfl rfl rfl (r_fieldB (off := 0) hS3 rfl rfl (by kernel_rfl)) fun a4 hS4 => st_val hS4 rfl rfl rfl (r_load1 (n := 1) hS4 rfl rfl (by kernel_rfl) (Bx.cell hb0 rfl)) fun a5 hS5 => st_val hS5 rfl rfl rfl (r_move hS5 rfl rfl) fun a6 hS6 => st_val hS6 rfl rfl rfl (r_index (e := 75) (sz := 5) (by_ := 40) hS6 rfl rfl rfl (by kernel_rfl) (RdS.some_ (OwS.rd hf0_list) hx8) (idx_lo hx8) (idx_hi hx8)) fun a9 hS9 => st_val hS9 rfl rfl rfl (r_assign hS9 rfl rfl) fun a10 hS10 => wpList_nil (hR _ (hS10.re ⟨rfl, rfl, rfl, rfl, trivial⟩))) ?_
    clear hS
    clear a
    intro a hS
    refine c_region (fun K hK => ?_)
    refine st_val hS rfl rfl rfl (r_move hS rfl rfl) fun a11 hS11 => st_val hS11 rfl rfl rfl (r_nil hS11 rfl rfl) fun a12 hS12 => st_val hS12 rfl rfl rfl (r_fieldE (off := 3) hS12 rfl rfl (by kernel_rfl)) fun a13 hS13 => st_val hS13 rfl rfl rfl (r_load1 (n := 1) hS13 rfl rfl (by kernel_rfl) (RdS.cell (i := p1) (sz := 5) (j := 3) (OwS.rd hf0_list) hx8 rfl)) fun a14 hS14 => st_val hS14 rfl rfl rfl (r_bin hS14 rfl rfl rfl b_add) fun a15 hS15 => st_val hS15 rfl rfl rfl (r_nil hS15 rfl rfl) fun a16 hS16 => st_val hS16 rfl rfl rfl (r_fieldE (off := 3) hS16 rfl rfl (by kernel_rfl)) fun a17 hS17 => ?_
    refine st_effS hS17 rfl rfl (e_storeE (n := 1) (bb := false) (kd := kd_rails_rail) (j := 3) (x' := ({ x7 with count := wi (x7.count + 1) } : rails_rail)) (us := [.int .i64 (wi (x7.count + 1))]) g hS17 rfl rfl rfl rfl (by kernel_rfl) rfl rfl (by intro v hv; simp only [List.mem_cons, List.not_mem_nil, or_false] at hv; rcases hv with rfl <;> rfl) hf0_list hx8 rfl (fun _ _ cs hR => by rw [show cs = _ from hR]; rfl)) ?_
    rintro a18 w19 g19 ⟨hf0_list, F19⟩ hS18
    replace hb0 := hb0.fr F19 (fun (hm : c0 = c0 + 1) => by omega)
    replace hF := hF.trans F19 (fun c' (hm : c' = c0 + 1) => by show (c0 ≤ c' ∧ c' < c0 + 3) ∨ (r0 ≤ c' ∧ c' < r0 + 2) ∨ N ≤ c'; omega)
    replace hb0 : Bx w19 g19 (c0) b_p0 70 [.slice A_list_p0 (upd p0.list p1 ({ x7 with count := wi (x7.count + 1) } : rails_rail)).length cap_list_p0, .int .u64 p0.now] := by simpa only [upd_length] using hb0
    refine wpList_nil (hK _ _ ?_)
    replace hS : Sl 82 _ [(0, .pointer (some ⟨b_p0, 0, none⟩)), (1, .int .i64 p1), (2, .int .u64 p2), (7, .pointer (some (ea A_list_p0 (p1.toNat * 5))))] := hS18.re ⟨rfl, rfl, rfl, rfl, trivial⟩
    clear hK K
    try clear hS11 hS12 hS13 hS14 hS15 hS16 hS17 hS18
    obtain ⟨a, ha⟩ : ∃ a', a' = a18 := ⟨_, rfl⟩
    rw [← ha] at hS ⊢; clear ha
    refine wp_seq ?_
    obtain ⟨x23, hx24, H⟩ := bind_el H
    refine c_pure [(0, .pointer (some ⟨b_p0, 0, none⟩)), (1, .int .i64 p1), (2, .int .u64 p2), (7, .pointer (some (ea A_list_p0 (p1.toNat * 5)))), (27, .bool (decide (1 < x23.count)))] (fun R hR => st_val hS rfl rfl rfl (r_move hS rfl rfl) fun a20 hS20 => st_val hS20 rfl rfl rfl (r_nil hS20 rfl rfl) fun a21 hS21 => st_val hS21 rfl rfl rfl (r_fieldE (off := 3) hS21 rfl rfl (by kernel_rfl)) fun a22 hS22 => st_val hS22 rfl rfl rfl (r_load1 (n := 1) hS22 rfl rfl (by kernel_rfl) (RdS.cell (i := p1) (sz := 5) (j := 3) (OwS.rd hf0_list) hx24 rfl)) fun a25 hS25 => st_val hS25 rfl rfl rfl (r_bin hS25 rfl rfl rfl b_gtr) fun a26 hS26 => wpList_nil (hR _ (hS26.re ⟨rfl, rfl, rfl, rfl, rfl, trivial⟩))) ?_
    clear hS
    clear a
    intro a hS
    refine c_cond hS rfl (fun hb27 => ?_) (fun hb27 => ?_)
    · replace H := ite_t hb27 H
      refine c_pure [(6, .slice none 0 0)] (fun R hR => st_val hS rfl rfl rfl (r_assign hS rfl rfl) fun a28 hS28 => wpList_nil (hR _ (hS28.re ⟨rfl, trivial⟩))) ?_
      clear hS
      clear a
      intro a hS
      refine wp_ret ?_
      have e := Option.some.inj H
      subst e
      repeat (with_reducible first | refine then_ret ?_ | refine inBlock_ret ?_)
      exact c_ret1 hS Try.results39 rfl ⟨_, rfl, g19, none, 0, rfl, ⟨hb0, hf0_list⟩, OwS.nil kd_api_RailOp 50 w19 g19 r0, hF⟩
    · replace H := ite_f hb27 H
      refine wp_skip ?_
      change Code.wp _ _ _ _ _
      refine c_pure [(0, .pointer (some ⟨b_p0, 0, none⟩)), (1, .int .i64 p1), (2, .int .u64 p2), (7, .pointer (some (ea A_list_p0 (p1.toNat * 5)))), (8, .slice none 0 0)] (fun R hR => st_val hS rfl rfl rfl (r_assign hS rfl rfl) fun a29 hS29 => wpList_nil (hR _ (hS29.re ⟨rfl, rfl, rfl, rfl, rfl, trivial⟩))) ?_
      clear hS
      clear a
      intro a hS
      refine c_pure [(0, .pointer (some ⟨b_p0, 0, none⟩)), (1, .int .i64 p1), (2, .int .u64 p2), (7, .pointer (some (ea A_list_p0 (p1.toNat * 5)))), (8, .slice none 0 0), (9, .int .u64 (max p2 x23.done))] (fun R hR => st_val hS rfl rfl rfl (r_move hS rfl rfl) fun a30 hS30 => st_val hS30 rfl rfl rfl (r_move hS30 rfl rfl) fun a31 hS31 => st_val hS31 rfl rfl rfl (r_nil hS31 rfl rfl) fun a32 hS32 => st_val hS32 rfl rfl rfl (r_fieldE (off := 4) hS32 rfl rfl (by kernel_rfl)) fun a33 hS33 => st_val hS33 rfl rfl rfl (r_load1 (n := 1) hS33 rfl rfl (by kernel_rfl) (RdS.cell (i := p1) (sz := 5) (j := 4) (OwS.rd hf0_list) hx24 rfl)) fun a34 hS34 => st_val hS34 rfl rfl rfl (r_max hS34 rfl rfl rfl) fun a35 hS35 => st_val hS35 rfl rfl rfl (r_assign hS35 rfl rfl) fun a36 hS36 => wpList_nil (hR _ (hS36.re ⟨rfl, rfl, rfl, rfl, rfl, rfl, trivial⟩))) ?_
      clear hS
      clear a
      intro a hS
      obtain ⟨v41, H, Hl43⟩ := bind_el H
      refine c_cut (fun a w37 => ∃ (g37 : Nat → Nat), ∃ (A38 : Option Addr), ∃ (cap39 : Nat), Sl 82 a [(1, .int .i64 p1), (7, .pointer (some (ea A_list_p0 (p1.toNat * 5)))), (8, .slice A38 v41.2.1.length cap39), (9, .int .u64 v41.2.2.1)] ∧ OwS kd_api_RailOp 50 w37 g37 (N + 0) A38 cap39 v41.2.1 ∧ Bx w37 g37 (c0) b_p0 70 [.slice A_list_p0 v41.1.length cap_list_p0, .int .u64 v41.2.2.2.now] ∧ OwS kd_rails_rail 75 w37 g37 (c0 + 1) A_list_p0 cap_list_p0 v41.1 ∧ Fr (fun q => (c0 ≤ q ∧ q < c0 + 3) ∨ (r0 ≤ q ∧ q < r0 + 2) ∨ N ≤ q) w g w37 g37) ?_ ?_
      · refine c_pure [(0, .pointer (some ⟨b_p0, 0, none⟩)), (1, .int .i64 p1), (2, .int .u64 p2), (7, .pointer (some (ea A_list_p0 (p1.toNat * 5)))), (8, .slice none 0 0), (9, .int .u64 (max p2 x23.done)), (39, .bool (decide (0 ≤ x23.Rail.Supply)))] (fun R hR => st_val hS rfl rfl rfl (r_move hS rfl rfl) fun a44 hS44 => st_val hS44 rfl rfl rfl (r_nil hS44 rfl rfl) fun a45 hS45 => st_val hS45 rfl rfl rfl (r_fieldE (off := 0) hS45 rfl rfl (by kernel_rfl)) fun a46 hS46 => st_val hS46 rfl rfl rfl (r_fieldE (off := 0) hS46 rfl rfl (by kernel_rfl)) fun a47 hS47 => st_val hS47 rfl rfl rfl (r_load1 (n := 1) hS47 rfl rfl (by kernel_rfl) (RdS.cell (i := p1) (sz := 5) (j := 0) (OwS.rd hf0_list) hx24 rfl)) fun a48 hS48 => st_val hS48 rfl rfl rfl (r_bin hS48 rfl rfl rfl b_geq) fun a49 hS49 => wpList_nil (hR _ (hS49.re ⟨rfl, rfl, rfl, rfl, rfl, rfl, rfl, trivial⟩))) ?_
        clear hS
        clear a
        intro a hS
        refine c_cond hS rfl (fun hb50 => ?_) (fun hb50 => ?_)
        · replace H := ite_t hb50 H
          obtain ⟨r58, hr59, H⟩ := bind_el H
          refine c_region (fun K hK => ?_)
          refine st_val hS rfl rfl rfl (r_move hS rfl rfl) fun a51 hS51 => st_val hS51 rfl rfl rfl (r_move hS51 rfl rfl) fun a52 hS52 => st_val hS52 rfl rfl rfl (r_nil hS52 rfl rfl) fun a53 hS53 => st_val hS53 rfl rfl rfl (r_fieldE (off := 0) hS53 rfl rfl (by kernel_rfl)) fun a54 hS54 => st_val hS54 rfl rfl rfl (r_fieldE (off := 0) hS54 rfl rfl (by kernel_rfl)) fun a55 hS55 => st_val hS55 rfl rfl rfl (r_load1 (n := 1) hS55 rfl rfl (by kernel_rfl) (RdS.cell (i := p1) (sz := 5) (j := 0) (OwS.rd hf0_list) hx24 rfl)) fun a56 hS56 => st_val hS56 rfl rfl rfl (r_move hS56 rfl rfl) fun a57 hS57 => ?_
          refine st_enter hS57 rfl rfl rfl (r_call hS57 rfl rfl (by kernel_rfl)) (ih (c0 := c0) (b_p0 := b_p0) (A_list_p0 := A_list_p0) (cap_list_p0 := cap_list_p0) (p0 := (rails_Rails.mk (upd p0.list p1 ({ x7 with count := wi (x7.count + 1) } : rails_rail)) p0.now)) (p1 := x23.Rail.Supply) (p2 := p2) (g := g19) (N + 4) (N + 0) ⟨hb0, hf0_list⟩ (by omega) (by omega) (by omega) hr59) ?_
          rintro _ a64 w65 ⟨g65, A60, cap61, rfl, ⟨hb0, hf0_list⟩, h62, F65⟩ hS64
          replace hF := hF.trans F65 (fun c' (hm : (c0 ≤ c' ∧ c' < c0 + 3) ∨ (N + 0 ≤ c' ∧ c' < N + 0 + 2) ∨ N + 4 ≤ c') => by show (c0 ≤ c' ∧ c' < c0 + 3) ∨ (r0 ≤ c' ∧ c' < r0 + 2) ∨ N ≤ c'; omega)
          refine st_val hS64 rfl rfl rfl (r_assign hS64 rfl rfl) fun a66 hS66 => wpList_nil (hK _ _ ?_)
          replace hS : Sl 82 _ [(0, .pointer (some ⟨b_p0, 0, none⟩)), (1, .int .i64 p1), (7, .pointer (some (ea A_list_p0 (p1.toNat * 5)))), (8, .slice A60 r58.2.length cap61), (9, .int .u64 (max p2 x23.done))] := hS66.re ⟨rfl, rfl, rfl, rfl, rfl, trivial⟩
          clear hK K
          try clear hS51 hS52 hS53 hS54 hS55 hS56 hS57 hS64 hS66
          obtain ⟨a, ha⟩ : ∃ a', a' = a66 := ⟨_, rfl⟩
          rw [← ha] at hS ⊢; clear ha
          obtain ⟨x77, hx78, H⟩ := bind_el H
          obtain ⟨x80, hx81, H⟩ := bind_el H
          refine c_draw1 (fun K hK => d_start (fun q => False) g65 [] 15 #[false, false, false, false, false, false, false, false, false, false, false, false, false, false, false] (by kernel_rfl) rfl rfl (fun w67 hw67 => ?_))
          have F67 : Fr (fun _ => False) w65 g65 w67 g65 := by rw [hw67]; exact Fr.drew _ _ _
          replace h62 := OwS.fr h62 F67 (fun _ _ h => h)
          replace hb0 := hb0.fr F67 (fun h => h)
          replace hf0_list := OwS.fr hf0_list F67 (fun _ _ h => h)
          replace hF := hF.trans F67 (fun _ h => h.elim)
          have hC : Fr (fun q => False) w67 g65 w67 g65 := Fr.refl _ _ _
          refine d_pure hS 0 #[true, false, false, false, false, false, false, false, false, false, false, false, false, false, false] rfl rfl rfl rfl (by kernel_rfl) (fun _ _ _ h => h) (fun _ => (r_move hS rfl rfl)) fun a68 hS68 => d_pure hS68 1 #[true, true, false, false, false, false, false, false, false, false, false, false, false, false, false] rfl rfl rfl rfl (by kernel_rfl) (fun _ _ _ h => h) (fun _ => (r_move hS68 rfl rfl)) fun a69 hS69 => d_pure hS69 2 #[true, true, true, false, false, false, false, false, false, false, false, false, false, false, false] rfl rfl rfl rfl (by kernel_rfl) (fun _ _ _ h => h) (fun _ => (r_nil hS69 rfl rfl)) fun a70 hS70 => d_pure hS70 3 #[true, true, true, true, false, false, false, false, false, false, false, false, false, false, false] rfl rfl rfl rfl (by kernel_rfl) (fun _ _ _ h => h) (fun _ => (r_fieldB (off := 0) hS70 rfl rfl (by kernel_rfl))) fun a71 hS71 => d_take hS71 4 #[true, true, true, true, true, false, false, false, false, false, false, false, false, false, false] rfl rfl rfl rfl (by kernel_rfl) (fun _ _ _ h => h) ⟨_, hC⟩ (fun w' g' Fz => (r_load1 (n := 1) hS71 rfl rfl (by kernel_rfl) (Bx.cell (hb0.fr Fz (fun h => h)) rfl))) fun a72 hS72 => d_pure hS72 5 #[true, true, true, true, true, true, false, false, false, false, false, false, false, false, false] rfl rfl rfl rfl (by kernel_rfl) (fun _ _ _ h => h) (fun _ => (r_move hS72 rfl rfl)) fun a73 hS73 => d_pure hS73 6 #[true, true, true, true, true, true, true, false, false, false, false, false, false, false, false] rfl rfl rfl rfl (by kernel_rfl) (fun _ _ _ h => h) (fun _ => (r_nil hS73 rfl rfl)) fun a74 hS74 => d_pure hS74 7 #[true, true, true, true, true, true, true, true, false, false, false, false, false, false, false] rfl rfl rfl rfl (by kernel_rfl) (fun _ _ _ h => h) (fun _ => (r_fieldE (off := 0) hS74 rfl rfl (by kernel_rfl))) fun a75 hS75 => d_pure hS75 8 #[true, true, true, true, true, true, true, true, true, false, false, false, false, false, false] rfl rfl rfl rfl (by kernel_rfl) (fun _ _ _ h => h) (fun _ => (r_fieldE (off := 0) hS75 rfl rfl (by kernel_rfl))) fun a76 hS76 => d_take hS76 9 #[true, true, true, true, true, true, true, true, true, true, false, false, false, false, false] rfl rfl rfl rfl (by kernel_rfl) (fun _ _ _ h => h) ⟨_, hC⟩ (fun w' g' Fz => (r_load1 (n := 1) hS76 rfl rfl (by kernel_rfl) (RdS.cell (i := p1) (sz := 5) (j := 0) (OwS.rd (OwS.fr hf0_list Fz (fun _ _ h => h))) hx78 rfl))) fun a79 hS79 => d_pure hS79 10 #[true, true, true, true, true, true, true, true, true, true, true, false, false, false, false] rfl rfl rfl rfl (by kernel_rfl) (fun _ _ _ h => h) (fun _ => (r_index (e := 75) (sz := 5) (by_ := 40) hS79 rfl rfl rfl (by kernel_rfl) (RdS.some_ (OwS.rd hf0_list) hx81) (idx_lo hx81) (idx_hi hx81))) fun a82 hS82 => d_pure hS82 11 #[true, true, true, true, true, true, true, true, true, true, true, true, false, false, false] rfl rfl rfl rfl (by kernel_rfl) (fun _ _ _ h => h) (fun _ => (r_fieldE (off := 4) hS82 rfl rfl (by kernel_rfl))) fun a83 hS83 => d_take hS83 12 #[true, true, true, true, true, true, true, true, true, true, true, true, true, false, false] rfl rfl rfl rfl (by kernel_rfl) (fun _ _ _ h => h) ⟨_, hC⟩ (fun w' g' Fz => (r_load1 (n := 1) hS83 rfl rfl (by kernel_rfl) (RdS.cell (i := x77.Rail.Supply) (sz := 5) (j := 4) (OwS.rd (OwS.fr hf0_list Fz (fun _ _ h => h))) hx81 rfl))) fun a84 hS84 => d_pure hS84 13 #[true, true, true, true, true, true, true, true, true, true, true, true, true, true, false] rfl rfl rfl rfl (by kernel_rfl) (fun _ _ _ h => h) (fun _ => (r_max hS84 rfl rfl rfl)) fun a85 hS85 => d_pure hS85 14 #[true, true, true, true, true, true, true, true, true, true, true, true, true, true, true] rfl rfl rfl rfl (by kernel_rfl) (fun _ _ _ h => h) (fun _ => (r_assign hS85 rfl rfl)) fun a86 hS86 => d_done (by kernel_rfl) (hK _ _ ?_)
          replace hS : Sl 82 _ [(1, .int .i64 p1), (7, .pointer (some (ea A_list_p0 (p1.toNat * 5)))), (8, .slice A60 r58.2.length cap61), (9, .int .u64 (max (max p2 x23.done) x80.done))] := hS86.re ⟨rfl, rfl, rfl, rfl, trivial⟩
          clear hK K hC
          try clear hS68 hS69 hS70 hS71 hS72 hS73 hS74 hS75 hS76 hS79 hS82 hS83 hS84 hS85 hS86
          obtain ⟨a, ha⟩ : ∃ a', a' = a86 := ⟨_, rfl⟩
          rw [← ha] at hS ⊢; clear ha
          have e := Option.some.inj H
          subst e
          exact ⟨g65, A60, cap61, hS.re ⟨rfl, rfl, rfl, rfl, trivial⟩, h62, hb0, hf0_list, hF⟩
        · replace H := ite_f hb50 H
          refine wp_skip ?_
          have e := Option.some.inj H
          subst e
          exact ⟨g19, none, 0, hS.re ⟨rfl, rfl, rfl, rfl, trivial⟩, OwS.nil kd_api_RailOp 50 w19 g19 (N + 0), hb0, hf0_list, hF⟩
      · clear H
        clear hf0_list hb0 hF
        clear hS
        rintro a w37 ⟨g37, A38, cap39, hS, h40, hb0, hf0_list, hF⟩
        have H := Hl43
        clear Hl43
        obtain ⟨x93, hx94, H⟩ := bind_el H
        refine c_region (fun K hK => ?_)
        refine st_val hS rfl rfl rfl (r_move hS rfl rfl) fun a87 hS87 => st_val hS87 rfl rfl rfl (r_move hS87 rfl rfl) fun a88 hS88 => st_val hS88 rfl rfl rfl (r_move hS88 rfl rfl) fun a89 hS89 => st_val hS89 rfl rfl rfl (r_nil hS89 rfl rfl) fun a90 hS90 => st_val hS90 rfl rfl rfl (r_fieldE (off := 0) hS90 rfl rfl (by kernel_rfl)) fun a91 hS91 => st_val hS91 rfl rfl rfl (r_fieldE (off := 1) hS91 rfl rfl (by kernel_rfl)) fun a92 hS92 => st_val hS92 rfl rfl rfl (r_load1 (n := 1) hS92 rfl rfl (by kernel_rfl) (RdS.cell (i := p1) (sz := 5) (j := 1) (OwS.rd hf0_list) hx94 rfl)) fun a95 hS95 => st_val hS95 rfl rfl rfl (r_bin hS95 rfl rfl rfl b_add) fun a96 hS96 => st_val hS96 rfl rfl rfl (r_nil hS96 rfl rfl) fun a97 hS97 => st_val hS97 rfl rfl rfl (r_fieldE (off := 4) hS97 rfl rfl (by kernel_rfl)) fun a98 hS98 => ?_
        refine st_effS hS98 rfl rfl (e_storeE (n := 1) (bb := false) (kd := kd_rails_rail) (j := 4) (x' := ({ x93 with done := wu (v41.2.2.1 + x93.Rail.RampUp) } : rails_rail)) (us := [.int .u64 (wu (v41.2.2.1 + x93.Rail.RampUp))]) g37 hS98 rfl rfl rfl rfl (by kernel_rfl) rfl rfl (by intro v hv; simp only [List.mem_cons, List.not_mem_nil, or_false] at hv; rcases hv with rfl <;> rfl) hf0_list hx94 rfl (fun _ _ cs hR => by rw [show cs = _ from hR]; rfl)) ?_
        rintro a99 w100 g100 ⟨hf0_list, F100⟩ hS99
        replace h40 := OwS.fr h40 F100 (fun c' hc (hm : c' = c0 + 1) => by omega)
        replace hb0 := hb0.fr F100 (fun (hm : c0 = c0 + 1) => by omega)
        replace hF := hF.trans F100 (fun c' (hm : c' = c0 + 1) => by show (c0 ≤ c' ∧ c' < c0 + 3) ∨ (r0 ≤ c' ∧ c' < r0 + 2) ∨ N ≤ c'; omega)
        replace hb0 : Bx w100 g100 (c0) b_p0 70 [.slice A_list_p0 (upd v41.1 p1 ({ x93 with done := wu (v41.2.2.1 + x93.Rail.RampUp) } : rails_rail)).length cap_list_p0, .int .u64 v41.2.2.2.now] := by simpa only [upd_length] using hb0
        refine wpList_nil (hK _ _ ?_)
        replace hS : Sl 82 _ [(1, .int .i64 p1), (7, .pointer (some (ea A_list_p0 (p1.toNat * 5)))), (8, .slice A38 v41.2.1.length cap39), (9, .int .u64 v41.2.2.1)] := hS99.re ⟨rfl, rfl, rfl, rfl, trivial⟩
        clear hK K
        try clear hS87 hS88 hS89 hS90 hS91 hS92 hS95 hS96 hS97 hS98 hS99
        obtain ⟨a, ha⟩ : ∃ a', a' = a99 := ⟨_, rfl⟩
        rw [← ha] at hS ⊢; clear ha
        obtain ⟨x107, hx108, H⟩ := bind_el H
        obtain ⟨y116, hy117, H⟩ := bind_el H
        refine c_region (fun K hK => ?_)
        refine st_val hS rfl rfl rfl (r_move hS rfl rfl) fun a101 hS101 => st_val hS101 rfl rfl rfl (r_move hS101 rfl rfl) fun a102 hS102 => st_val hS102 rfl rfl rfl (r_move hS102 rfl rfl) fun a103 hS103 => st_val hS103 rfl rfl rfl (r_move hS103 rfl rfl) fun a104 hS104 => st_val hS104 rfl rfl rfl (r_nil hS104 rfl rfl) fun a105 hS105 => st_val hS105 rfl rfl rfl (r_fieldE (off := 4) hS105 rfl rfl (by kernel_rfl)) fun a106 hS106 => st_val hS106 rfl rfl rfl (r_load1 (n := 1) hS106 rfl rfl (by kernel_rfl) (RdS.cell (i := p1) (sz := 5) (j := 4) (OwS.rd hf0_list) hx108 rfl)) fun a109 hS109 => st_val hS109 rfl rfl rfl (r_build (parts := [(0, .int .i64 p1), (1, .bool true), (2, .int .u64 v41.2.2.1), (3, .int .u64 x107.done)]) (u := .agg #[.int .i64 p1, .bool true, .int .u64 v41.2.2.1, .int .u64 x107.done]) hS109 rfl rfl (fun _ => by kernel_rfl)) fun a110 hS110 => ?_
        refine st_eff hS110 rfl rfl rfl (e_lit (e := 50) (parts := [(0, .agg #[.int .i64 p1, .bool true, .int .u64 v41.2.2.1, .int .u64 x107.done])]) (cs := [.int .i64 p1, .bool true, .int .u64 v41.2.2.1, .int .u64 x107.done]) kd_api_RailOp [(api_RailOp.mk p1 true v41.2.2.1 x107.done)] (N + 2) g100 hS110 rfl rfl (fun _ => by kernel_rfl) rfl (by decide) (Rows.cons (cs := [.int .i64 p1, .bool true, .int .u64 v41.2.2.1, .int .u64 x107.done]) rfl Rows.nil)) ?_
        rintro _ a114 w115 g115 ⟨⟨A111, rfl, h112⟩, F115⟩ hS114
        replace h40 := OwS.fr h40 F115 (fun _ _ h => h)
        replace hb0 := hb0.fr F115 (fun h => h)
        replace hf0_list := OwS.fr hf0_list F115 (fun _ _ h => h)
        replace hF := hF.trans F115 (fun _ h => h.elim)
        refine st_eff hS114 rfl rfl rfl (e_append (e := 50) (sz := 4) (by_ := 32) (z := [.int .i64 0, .bool false, .int .u64 0, .int .u64 0]) (kd := kd_api_RailOp) g115 hS114 rfl rfl rfl rfl (by kernel_rfl) (by kernel_rfl) rfl rfl rfl rfl h40 (OwD.rdx h112) (fun _ _ _ h => h) hy117) ?_
        rintro _ a122 w123 g123 ⟨⟨A118, cap119, rfl, h120⟩, F123⟩ hS122
        replace h112 := OwS.fr h112 F123 (fun c' hc (hm : c' = N + 0) => by omega)
        replace hb0 := hb0.fr F123 (fun (hm : c0 = N + 0) => by omega)
        replace hf0_list := OwS.fr hf0_list F123 (fun c' hc (hm : c' = N + 0) => by omega)
        replace hF := hF.trans F123 (fun c' (hm : c' = N + 0) => by show (c0 ≤ c' ∧ c' < c0 + 3) ∨ (r0 ≤ c' ∧ c' < r0 + 2) ∨ N ≤ c'; omega)
        refine st_val hS122 rfl rfl rfl (r_assign hS122 rfl rfl) fun a124 hS124 => wpList_nil (hK _ _ ?_)
        replace hS : Sl 82 _ [(6, .slice A118 y116.length cap119)] := hS124.re ⟨rfl, trivial⟩
        clear hK K
        try clear hS101 hS102 hS103 hS104 hS105 hS106 hS109 hS110 hS114 hS122 hS124
        obtain ⟨a, ha⟩ : ∃ a', a' = a124 := ⟨_, rfl⟩
        rw [← ha] at hS ⊢; clear ha
        refine wp_ret ?_
        have e := Option.some.inj H
        subst e
        have F125 := Fr.recol2 w123 g123 (N + 0) r0
        replace h120 := h120.recol2 r0
        replace hb0 := hb0.fr F125 (fun (hm : c0 = N + 0 ∨ c0 = N + 0 + 1) => by omega)
        replace hf0_list := OwS.fr hf0_list F125 (fun c' hc (hm : c' = N + 0 ∨ c' = N + 0 + 1) => by omega)
        replace hF := hF.trans F125 (fun c' (hm : c' = N + 0 ∨ c' = N + 0 + 1) => by show (c0 ≤ c' ∧ c' < c0 + 3) ∨ (r0 ≤ c' ∧ c' < r0 + 2) ∨ N ≤ c'; omega)
        repeat (with_reducible first | refine then_ret ?_ | refine inBlock_ret ?_)
        exact c_ret1 hS Try.results39 rfl ⟨_, rfl, (recol2 g123 (N + 0) r0), A118, cap119, rfl, ⟨hb0, hf0_list⟩, h120, hF⟩
theorem rails_Rails_on.calls {p0 : rails_Rails} {c0 : Nat}  {b_p0 : Nat} {A_list_p0 : Option Addr} {cap_list_p0 : Nat} {p1 : Int} {p2 : Int} {w : World} {g : Nat → Nat} {out : rails_Rails × (List api_RailOp)} (N : Nat) (r0 : Nat) (hp0 : rails_Rails_At w g c0 b_p0 A_list_p0 cap_list_p0 p0) (hc0 : c0 + 3 ≤ N) (hr0 : r0 + 2 ≤ N) (hq0_0 : r0 + 2 ≤ c0 ∨ c0 + 3 ≤ r0) (H : rails_Rails_on.f p0 p1 p2 = some out) :
    Calls Try.prog 39 #[.pointer (some ⟨b_p0, 0, none⟩), .int .i64 p1, .int .u64 p2] w (fun e w' => ∃ v, e = .returned v ∧ ∃ (g' : Nat → Nat) (A_r0 : Option Addr) (cap_r0 : Nat), v = .slice A_r0 out.2.length cap_r0 ∧ rails_Rails_At w' g' c0 b_p0 A_list_p0 cap_list_p0 out.1 ∧ OwS kd_api_RailOp 50 w' g' r0 A_r0 cap_r0 out.2 ∧ Fr (fun q => (c0 ≤ q ∧ q < c0 + 3) ∨ (r0 ≤ q ∧ q < r0 + 2) ∨ N ≤ q) w g w' g') :=
  rails_Rails_on.calls_r FUEL N r0 hp0 hc0 hr0 hq0_0 H

/-! ### rails_Rails_Acquire: function 31 -/
def rails_Rails_Acquire.f (p0 : rails_Rails) (p1 : Int) (p2 : Int) : Option (rails_Rails × (List api_RailOp) × Int) := (rails_Rails_check.f p0 p1 p2).bind fun r6 => if (!r6) = true then (some (p0, [], 1)) else ((rails_Rails_on.f (rails_Rails.mk p0.list p2) p1 p2).bind fun r23 => some (r23.1, r23.2, 0))
set_option maxRecDepth 100000 in
set_option maxHeartbeats 4000000 in
theorem rails_Rails_Acquire.calls {p0 : rails_Rails} {c0 : Nat}  {b_p0 : Nat} {A_list_p0 : Option Addr} {cap_list_p0 : Nat} {p1 : Int} {p2 : Int} {w : World} {g : Nat → Nat} {out : rails_Rails × (List api_RailOp) × Int} (N : Nat) (r0 : Nat) (hp0 : rails_Rails_At w g c0 b_p0 A_list_p0 cap_list_p0 p0) (hc0 : c0 + 3 ≤ N) (hr0 : r0 + 2 ≤ N) (hq0_0 : r0 + 2 ≤ c0 ∨ c0 + 3 ≤ r0) (H : rails_Rails_Acquire.f p0 p1 p2 = some out) :
    Calls Try.prog 31 #[.pointer (some ⟨b_p0, 0, none⟩), .int .i64 p1, .int .u64 p2] w (fun e w' => ∃ v, e = .returned v ∧ ∃ (g' : Nat → Nat) (A_r0 : Option Addr) (cap_r0 : Nat), v = .tuple #[.slice A_r0 out.2.1.length cap_r0, .int .i64 out.2.2] ∧ rails_Rails_At w' g' c0 b_p0 A_list_p0 cap_list_p0 out.1 ∧ OwS kd_api_RailOp 50 w' g' r0 A_r0 cap_r0 out.2.1 ∧ Fr (fun q => (c0 ≤ q ∧ q < c0 + 3) ∨ (r0 ≤ q ∧ q < r0 + 2) ∨ N ≤ q) w g w' g') := by
  unfold rails_Rails_Acquire.f at H
  refine calls_enter Try.func31 rfl Try.ntmps31 rfl (fun a hS => ?_)
  replace hS : Sl 21 a [(0, .pointer (some ⟨b_p0, 0, none⟩)), (1, .int .i64 p1), (2, .int .u64 p2)] := hS
  have hF : Fr (fun q => (c0 ≤ q ∧ q < c0 + 3) ∨ (r0 ≤ q ∧ q < r0 + 2) ∨ N ≤ q) w g w g := Fr.refl _ _ _
  obtain ⟨hb0, hf0_list⟩ := hp0
  refine c_pure [(0, .pointer (some ⟨b_p0, 0, none⟩)), (1, .int .i64 p1), (2, .int .u64 p2)] (fun R hR => st_val hS rfl rfl rfl (r_assign hS rfl rfl) fun a1 hS1 => st_val hS1 rfl rfl rfl (r_assign hS1 rfl rfl) fun a2 hS2 => wpList_nil (hR _ (hS2.re ⟨rfl, rfl, rfl, trivial⟩))) ?_
  clear hS
  clear a
  intro a hS
  refine wp_seq ?_
  obtain ⟨r6, hr7, H⟩ := bind_el H
  refine c_region (fun K hK => ?_)
  refine st_val hS rfl rfl rfl (r_move hS rfl rfl) fun a3 hS3 => st_val hS3 rfl rfl rfl (r_move hS3 rfl rfl) fun a4 hS4 => st_val hS4 rfl rfl rfl (r_move hS4 rfl rfl) fun a5 hS5 => ?_
  refine st_enter hS5 rfl rfl rfl (r_call hS5 rfl rfl (by kernel_rfl)) (rails_Rails_check.calls (c0 := c0) (b_p0 := b_p0) (A_list_p0 := A_list_p0) (cap_list_p0 := cap_list_p0) (p0 := p0) (p1 := p1) (p2 := p2) (g := g) (N + 2)  ⟨hb0, hf0_list⟩ (by omega) hr7) ?_
  rintro _ a8 w9 ⟨g9, rfl, F9⟩ hS8
  replace hb0 := hb0.fr F9 (fun (hm : N + 2 ≤ c0) => by omega)
  replace hf0_list := OwS.fr hf0_list F9 (fun c' hc (hm : N + 2 ≤ c') => by omega)
  replace hF := hF.trans F9 (fun c' (hm : N + 2 ≤ c') => by show (c0 ≤ c' ∧ c' < c0 + 3) ∨ (r0 ≤ c' ∧ c' < r0 + 2) ∨ N ≤ c'; omega)
  refine st_val hS8 rfl rfl rfl (r_not hS8 rfl rfl) fun a10 hS10 => wpList_nil (hK _ _ ?_)
  replace hS : Sl 21 _ [(0, .pointer (some ⟨b_p0, 0, none⟩)), (1, .int .i64 p1), (2, .int .u64 p2), (12, .bool (!r6))] := hS10.re ⟨rfl, rfl, rfl, rfl, trivial⟩
  clear hK K
  try clear hS3 hS4 hS5 hS8 hS10
  obtain ⟨a, ha⟩ : ∃ a', a' = a10 := ⟨_, rfl⟩
  rw [← ha] at hS ⊢; clear ha
  refine c_cond hS rfl (fun hb11 => ?_) (fun hb11 => ?_)
  · replace H := ite_t hb11 H
    refine c_pure [(6, .slice none 0 0), (7, .int .i64 1)] (fun R hR => st_val hS rfl rfl rfl (r_assign hS rfl rfl) fun a12 hS12 => st_val hS12 rfl rfl rfl (r_assign hS12 rfl rfl) fun a13 hS13 => wpList_nil (hR _ (hS13.re ⟨rfl, rfl, trivial⟩))) ?_
    clear hS
    clear a
    intro a hS
    refine wp_ret ?_
    have e := Option.some.inj H
    subst e
    repeat (with_reducible first | refine then_ret ?_ | refine inBlock_ret ?_)
    exact c_ret2 hS Try.results31 rfl rfl ⟨_, rfl, g9, none, 0, rfl, ⟨hb0, hf0_list⟩, OwS.nil kd_api_RailOp 50 w9 g9 r0, hF⟩
  · replace H := ite_f hb11 H
    refine wp_skip ?_
    change Code.wp _ _ _ _ _
    refine c_region (fun K hK => ?_)
    refine st_val hS rfl rfl rfl (r_move hS rfl rfl) fun a14 hS14 => st_val hS14 rfl rfl rfl (r_move hS14 rfl rfl) fun a15 hS15 => st_val hS15 rfl rfl rfl (r_nil hS15 rfl rfl) fun a16 hS16 => st_val hS16 rfl rfl rfl (r_fieldB (off := 1) hS16 rfl rfl (by kernel_rfl)) fun a17 hS17 => ?_
    refine st_effS hS17 rfl rfl (e_storeB (n := 1) (bb := false) (cs' := [.slice A_list_p0 p0.list.length cap_list_p0, .int .u64 p2]) g9 hS17 rfl rfl rfl (by kernel_rfl) rfl rfl rfl hb0 rfl rfl) ?_
    rintro a18 w19 g19 ⟨hb0, F19⟩ hS18
    replace hf0_list := OwS.fr hf0_list F19 (fun c' hc (hm : c' = c0) => by omega)
    replace hF := hF.trans F19 (fun c' (hm : c' = c0) => by show (c0 ≤ c' ∧ c' < c0 + 3) ∨ (r0 ≤ c' ∧ c' < r0 + 2) ∨ N ≤ c'; omega)
    refine wpList_nil (hK _ _ ?_)
    replace hS : Sl 21 _ [(0, .pointer (some ⟨b_p0, 0, none⟩)), (1, .int .i64 p1), (2, .int .u64 p2)] := hS18.re ⟨rfl, rfl, rfl, trivial⟩
    clear hK K
    try clear hS14 hS15 hS16 hS17 hS18
    obtain ⟨a, ha⟩ : ∃ a', a' = a18 := ⟨_, rfl⟩
    rw [← ha] at hS ⊢; clear ha
    obtain ⟨r23, hr24, H⟩ := bind_el H
    refine c_region (fun K hK => ?_)
    refine st_val hS rfl rfl rfl (r_move hS rfl rfl) fun a20 hS20 => st_val hS20 rfl rfl rfl (r_move hS20 rfl rfl) fun a21 hS21 => st_val hS21 rfl rfl rfl (r_move hS21 rfl rfl) fun a22 hS22 => ?_
    refine st_enter hS22 rfl rfl rfl (r_call hS22 rfl rfl (by kernel_rfl)) (rails_Rails_on.calls (c0 := c0) (b_p0 := b_p0) (A_list_p0 := A_list_p0) (cap_list_p0 := cap_list_p0) (p0 := (rails_Rails.mk p0.list p2)) (p1 := p1) (p2 := p2) (g := g19) (N + 2) (N + 0) ⟨hb0, hf0_list⟩ (by omega) (by omega) (by omega) hr24) ?_
    rintro _ a29 w30 ⟨g30, A25, cap26, rfl, ⟨hb0, hf0_list⟩, h27, F30⟩ hS29
    replace hF := hF.trans F30 (fun c' (hm : (c0 ≤ c' ∧ c' < c0 + 3) ∨ (N + 0 ≤ c' ∧ c' < N + 0 + 2) ∨ N + 2 ≤ c') => by show (c0 ≤ c' ∧ c' < c0 + 3) ∨ (r0 ≤ c' ∧ c' < r0 + 2) ∨ N ≤ c'; omega)
    refine st_val hS29 rfl rfl rfl (r_assign hS29 rfl rfl) fun a31 hS31 => st_val hS31 rfl rfl rfl (r_assign hS31 rfl rfl) fun a32 hS32 => wpList_nil (hK _ _ ?_)
    replace hS : Sl 21 _ [(6, .slice A25 r23.2.length cap26), (7, .int .i64 0)] := hS32.re ⟨rfl, rfl, trivial⟩
    clear hK K
    try clear hS20 hS21 hS22 hS29 hS31 hS32
    obtain ⟨a, ha⟩ : ∃ a', a' = a32 := ⟨_, rfl⟩
    rw [← ha] at hS ⊢; clear ha
    refine wp_ret ?_
    have e := Option.some.inj H
    subst e
    have F33 := Fr.recol2 w30 g30 (N + 0) r0
    replace h27 := h27.recol2 r0
    replace hb0 := hb0.fr F33 (fun (hm : c0 = N + 0 ∨ c0 = N + 0 + 1) => by omega)
    replace hf0_list := OwS.fr hf0_list F33 (fun c' hc (hm : c' = N + 0 ∨ c' = N + 0 + 1) => by omega)
    replace hF := hF.trans F33 (fun c' (hm : c' = N + 0 ∨ c' = N + 0 + 1) => by show (c0 ≤ c' ∧ c' < c0 + 3) ∨ (r0 ≤ c' ∧ c' < r0 + 2) ∨ N ≤ c'; omega)
    repeat (with_reducible first | refine then_ret ?_ | refine inBlock_ret ?_)
    exact c_ret2 hS Try.results31 rfl rfl ⟨_, rfl, (recol2 g30 (N + 0) r0), A25, cap26, rfl, ⟨hb0, hf0_list⟩, h27, hF⟩

/-! ### rails_Rails_Count: function 22 -/
def rails_Rails_Count.f (p0 : rails_Rails) (p1 : Int) : Option (Int) := (rails_Rails_has.f p0 p1).bind fun r4 => if (!r4) = true then (some 0) else ((idx p0.list p1).bind fun x16 => some x16.count)
set_option maxRecDepth 100000 in
set_option maxHeartbeats 4000000 in
theorem rails_Rails_Count.calls {p0 : rails_Rails} {c0 : Nat}  {b_p0 : Nat} {A_list_p0 : Option Addr} {cap_list_p0 : Nat} {p1 : Int} {w : World} {g : Nat → Nat} {out : Int} (N : Nat) (hp0 : rails_Rails_At w g c0 b_p0 A_list_p0 cap_list_p0 p0) (hc0 : c0 + 3 ≤ N) (H : rails_Rails_Count.f p0 p1 = some out) :
    Calls Try.prog 22 #[.pointer (some ⟨b_p0, 0, none⟩), .int .i64 p1] w (fun e w' => ∃ v, e = .returned v ∧ ∃ (g' : Nat → Nat), v = .int .i64 out ∧ Fr (fun q => N ≤ q) w g w' g') := by
  unfold rails_Rails_Count.f at H
  refine calls_enter Try.func22 rfl Try.ntmps22 rfl (fun a hS => ?_)
  replace hS : Sl 17 a [(0, .pointer (some ⟨b_p0, 0, none⟩)), (1, .int .i64 p1)] := hS
  have hF : Fr (fun q => N ≤ q) w g w g := Fr.refl _ _ _
  obtain ⟨hb0, hf0_list⟩ := hp0
  refine c_pure [(0, .pointer (some ⟨b_p0, 0, none⟩)), (1, .int .i64 p1)] (fun R hR => st_val hS rfl rfl rfl (r_assign hS rfl rfl) fun a1 hS1 => wpList_nil (hR _ (hS1.re ⟨rfl, rfl, trivial⟩))) ?_
  clear hS
  clear a
  intro a hS
  refine wp_seq ?_
  obtain ⟨r4, hr5, H⟩ := bind_el H
  refine c_region (fun K hK => ?_)
  refine st_val hS rfl rfl rfl (r_move hS rfl rfl) fun a2 hS2 => st_val hS2 rfl rfl rfl (r_move hS2 rfl rfl) fun a3 hS3 => ?_
  refine st_enter hS3 rfl rfl rfl (r_call hS3 rfl rfl (by kernel_rfl)) (rails_Rails_has.calls (c0 := c0) (b_p0 := b_p0) (A_list_p0 := A_list_p0) (cap_list_p0 := cap_list_p0) (p0 := p0) (p1 := p1) (g := g) (N + 0)  ⟨hb0, hf0_list⟩ (by omega) hr5) ?_
  rintro _ a6 w7 ⟨g7, rfl, F7⟩ hS6
  replace hb0 := hb0.fr F7 (fun (hm : N + 0 ≤ c0) => by omega)
  replace hf0_list := OwS.fr hf0_list F7 (fun c' hc (hm : N + 0 ≤ c') => by omega)
  replace hF := hF.trans F7 (fun c' (hm : N + 0 ≤ c') => by show N ≤ c'; omega)
  refine st_val hS6 rfl rfl rfl (r_not hS6 rfl rfl) fun a8 hS8 => wpList_nil (hK _ _ ?_)
  replace hS : Sl 17 _ [(0, .pointer (some ⟨b_p0, 0, none⟩)), (1, .int .i64 p1), (8, .bool (!r4))] := hS8.re ⟨rfl, rfl, rfl, trivial⟩
  clear hK K
  try clear hS2 hS3 hS6 hS8
  obtain ⟨a, ha⟩ : ∃ a', a' = a8 := ⟨_, rfl⟩
  rw [← ha] at hS ⊢; clear ha
  refine c_cond hS rfl (fun hb9 => ?_) (fun hb9 => ?_)
  · replace H := ite_t hb9 H
    refine c_pure [(4, .int .i64 0)] (fun R hR => st_val hS rfl rfl rfl (r_assign hS rfl rfl) fun a10 hS10 => wpList_nil (hR _ (hS10.re ⟨rfl, trivial⟩))) ?_
    clear hS
    clear a
    intro a hS
    refine wp_ret ?_
    have e := Option.some.inj H
    subst e
    repeat (with_reducible first | refine then_ret ?_ | refine inBlock_ret ?_)
    exact c_ret1 hS Try.results22 rfl ⟨_, rfl, g7, rfl, hF⟩
  · replace H := ite_f hb9 H
    refine wp_skip ?_
    change Code.wp _ _ _ _ _
    obtain ⟨x16, hx17, H⟩ := bind_el H
    refine c_pure [(4, .int .i64 x16.count)] (fun R hR => st_val hS rfl rfl rfl (r_move hS rfl rfl) fun a11 hS11 => st_val hS11 rfl rfl rfl (r_nil hS11 rfl rfl) fun a12 hS12 => st_val hS12 rfl rfl rfl (r_fieldB (off := 0) hS12 rfl rfl (by kernel_rfl)) fun a13 hS13 => st_val hS13 rfl rfl rfl (r_load1 (n := 1) hS13 rfl rfl (by kernel_rfl) (Bx.cell hb0 rfl)) fun a14 hS14 => st_val hS14 rfl rfl rfl (r_move hS14 rfl rfl) fun a15 hS15 => st_val hS15 rfl rfl rfl (r_index (e := 75) (sz := 5) (by_ := 40) hS15 rfl rfl rfl (by kernel_rfl) (RdS.some_ (OwS.rd hf0_list) hx17) (idx_lo hx17) (idx_hi hx17)) fun a18 hS18 => st_val hS18 rfl rfl rfl (r_fieldE (off := 3) hS18 rfl rfl (by kernel_rfl)) fun a19 hS19 => st_val hS19 rfl rfl rfl (r_load1 (n := 1) hS19 rfl rfl (by kernel_rfl) (RdS.cell (i := p1) (sz := 5) (j := 3) (OwS.rd hf0_list) hx17 rfl)) fun a20 hS20 => st_val hS20 rfl rfl rfl (r_assign hS20 rfl rfl) fun a21 hS21 => wpList_nil (hR _ (hS21.re ⟨rfl, trivial⟩))) ?_
    clear hS
    clear a
    intro a hS
    refine wp_ret ?_
    have e := Option.some.inj H
    subst e
    repeat (with_reducible first | refine then_ret ?_ | refine inBlock_ret ?_)
    exact c_ret1 hS Try.results22 rfl ⟨_, rfl, g7, rfl, hF⟩

/-! ### rails_Rails_ReadyAt: function 20 -/
def rails_Rails_ReadyAt.f (p0 : rails_Rails) (p1 : Int) : Option (Int × Bool) := (rails_Rails_Count.f p0 p1).bind fun r5 => if (r5 == 0) = true then (some (0, false)) else ((idx p0.list p1).bind fun x18 => some (x18.done, true))
set_option maxRecDepth 100000 in
set_option maxHeartbeats 4000000 in
theorem rails_Rails_ReadyAt.calls {p0 : rails_Rails} {c0 : Nat}  {b_p0 : Nat} {A_list_p0 : Option Addr} {cap_list_p0 : Nat} {p1 : Int} {w : World} {g : Nat → Nat} {out : Int × Bool} (N : Nat) (hp0 : rails_Rails_At w g c0 b_p0 A_list_p0 cap_list_p0 p0) (hc0 : c0 + 3 ≤ N) (H : rails_Rails_ReadyAt.f p0 p1 = some out) :
    Calls Try.prog 20 #[.pointer (some ⟨b_p0, 0, none⟩), .int .i64 p1] w (fun e w' => ∃ v, e = .returned v ∧ ∃ (g' : Nat → Nat), v = .tuple #[.int .u64 out.1, .bool out.2] ∧ Fr (fun q => N ≤ q) w g w' g') := by
  unfold rails_Rails_ReadyAt.f at H
  refine calls_enter Try.func20 rfl Try.ntmps20 rfl (fun a hS => ?_)
  replace hS : Sl 18 a [(0, .pointer (some ⟨b_p0, 0, none⟩)), (1, .int .i64 p1)] := hS
  have hF : Fr (fun q => N ≤ q) w g w g := Fr.refl _ _ _
  obtain ⟨hb0, hf0_list⟩ := hp0
  refine c_pure [(0, .pointer (some ⟨b_p0, 0, none⟩)), (1, .int .i64 p1)] (fun R hR => st_val hS rfl rfl rfl (r_assign hS rfl rfl) fun a1 hS1 => st_val hS1 rfl rfl rfl (r_assign hS1 rfl rfl) fun a2 hS2 => wpList_nil (hR _ (hS2.re ⟨rfl, rfl, trivial⟩))) ?_
  clear hS
  clear a
  intro a hS
  refine wp_seq ?_
  obtain ⟨r5, hr6, H⟩ := bind_el H
  refine c_region (fun K hK => ?_)
  refine st_val hS rfl rfl rfl (r_move hS rfl rfl) fun a3 hS3 => st_val hS3 rfl rfl rfl (r_move hS3 rfl rfl) fun a4 hS4 => ?_
  refine st_enter hS4 rfl rfl rfl (r_call hS4 rfl rfl (by kernel_rfl)) (rails_Rails_Count.calls (c0 := c0) (b_p0 := b_p0) (A_list_p0 := A_list_p0) (cap_list_p0 := cap_list_p0) (p0 := p0) (p1 := p1) (g := g) (N + 0)  ⟨hb0, hf0_list⟩ (by omega) hr6) ?_
  rintro _ a7 w8 ⟨g8, rfl, F8⟩ hS7
  replace hb0 := hb0.fr F8 (fun (hm : N + 0 ≤ c0) => by omega)
  replace hf0_list := OwS.fr hf0_list F8 (fun c' hc (hm : N + 0 ≤ c') => by omega)
  replace hF := hF.trans F8 (fun c' (hm : N + 0 ≤ c') => by show N ≤ c'; omega)
  refine st_val hS7 rfl rfl rfl (r_bin hS7 rfl rfl rfl b_eql) fun a9 hS9 => wpList_nil (hK _ _ ?_)
  replace hS : Sl 18 _ [(0, .pointer (some ⟨b_p0, 0, none⟩)), (1, .int .i64 p1), (9, .bool (r5 == 0))] := hS9.re ⟨rfl, rfl, rfl, trivial⟩
  clear hK K
  try clear hS3 hS4 hS7 hS9
  obtain ⟨a, ha⟩ : ∃ a', a' = a9 := ⟨_, rfl⟩
  rw [← ha] at hS ⊢; clear ha
  refine c_cond hS rfl (fun hb10 => ?_) (fun hb10 => ?_)
  · replace H := ite_t hb10 H
    refine c_pure [(4, .int .u64 0), (5, .bool false)] (fun R hR => st_val hS rfl rfl rfl (r_assign hS rfl rfl) fun a11 hS11 => st_val hS11 rfl rfl rfl (r_assign hS11 rfl rfl) fun a12 hS12 => wpList_nil (hR _ (hS12.re ⟨rfl, rfl, trivial⟩))) ?_
    clear hS
    clear a
    intro a hS
    refine wp_ret ?_
    have e := Option.some.inj H
    subst e
    repeat (with_reducible first | refine then_ret ?_ | refine inBlock_ret ?_)
    exact c_ret2 hS Try.results20 rfl rfl ⟨_, rfl, g8, rfl, hF⟩
  · replace H := ite_f hb10 H
    refine wp_skip ?_
    change Code.wp _ _ _ _ _
    obtain ⟨x18, hx19, H⟩ := bind_el H
    refine c_pure [(4, .int .u64 x18.done), (5, .bool true)] (fun R hR => st_val hS rfl rfl rfl (r_move hS rfl rfl) fun a13 hS13 => st_val hS13 rfl rfl rfl (r_nil hS13 rfl rfl) fun a14 hS14 => st_val hS14 rfl rfl rfl (r_fieldB (off := 0) hS14 rfl rfl (by kernel_rfl)) fun a15 hS15 => st_val hS15 rfl rfl rfl (r_load1 (n := 1) hS15 rfl rfl (by kernel_rfl) (Bx.cell hb0 rfl)) fun a16 hS16 => st_val hS16 rfl rfl rfl (r_move hS16 rfl rfl) fun a17 hS17 => st_val hS17 rfl rfl rfl (r_index (e := 75) (sz := 5) (by_ := 40) hS17 rfl rfl rfl (by kernel_rfl) (RdS.some_ (OwS.rd hf0_list) hx19) (idx_lo hx19) (idx_hi hx19)) fun a20 hS20 => st_val hS20 rfl rfl rfl (r_fieldE (off := 4) hS20 rfl rfl (by kernel_rfl)) fun a21 hS21 => st_val hS21 rfl rfl rfl (r_load1 (n := 1) hS21 rfl rfl (by kernel_rfl) (RdS.cell (i := p1) (sz := 5) (j := 4) (OwS.rd hf0_list) hx19 rfl)) fun a22 hS22 => st_val hS22 rfl rfl rfl (r_assign hS22 rfl rfl) fun a23 hS23 => st_val hS23 rfl rfl rfl (r_assign hS23 rfl rfl) fun a24 hS24 => wpList_nil (hR _ (hS24.re ⟨rfl, rfl, trivial⟩))) ?_
    clear hS
    clear a
    intro a hS
    refine wp_ret ?_
    have e := Option.some.inj H
    subst e
    repeat (with_reducible first | refine then_ret ?_ | refine inBlock_ret ?_)
    exact c_ret2 hS Try.results20 rfl rfl ⟨_, rfl, g8, rfl, hF⟩

/-! ### rails_Rails_Powered: function 24 -/
def rails_Rails_Powered.f (p0 : rails_Rails) (p1 : Int) (p2 : Int) : Option (Bool) := (rails_Rails_ReadyAt.f p0 p1).bind fun r4 => some (r4.2 && (decide (r4.1 ≤ p2)))
set_option maxRecDepth 100000 in
set_option maxHeartbeats 4000000 in
theorem rails_Rails_Powered.calls {p0 : rails_Rails} {c0 : Nat}  {b_p0 : Nat} {A_list_p0 : Option Addr} {cap_list_p0 : Nat} {p1 : Int} {p2 : Int} {w : World} {g : Nat → Nat} {out : Bool} (N : Nat) (hp0 : rails_Rails_At w g c0 b_p0 A_list_p0 cap_list_p0 p0) (hc0 : c0 + 3 ≤ N) (H : rails_Rails_Powered.f p0 p1 p2 = some out) :
    Calls Try.prog 24 #[.pointer (some ⟨b_p0, 0, none⟩), .int .i64 p1, .int .u64 p2] w (fun e w' => ∃ v, e = .returned v ∧ ∃ (g' : Nat → Nat), v = .bool out ∧ Fr (fun q => N ≤ q) w g w' g') := by
  unfold rails_Rails_Powered.f at H
  refine calls_enter Try.func24 rfl Try.ntmps24 rfl (fun a hS => ?_)
  replace hS : Sl 21 a [(0, .pointer (some ⟨b_p0, 0, none⟩)), (1, .int .i64 p1), (2, .int .u64 p2)] := hS
  have hF : Fr (fun q => N ≤ q) w g w g := Fr.refl _ _ _
  obtain ⟨hb0, hf0_list⟩ := hp0
  refine c_pure [(0, .pointer (some ⟨b_p0, 0, none⟩)), (1, .int .i64 p1), (2, .int .u64 p2)] (fun R hR => st_val hS rfl rfl rfl (r_assign hS rfl rfl) fun a1 hS1 => wpList_nil (hR _ (hS1.re ⟨rfl, rfl, rfl, trivial⟩))) ?_
  clear hS
  clear a
  intro a hS
  obtain ⟨r4, hr5, H⟩ := bind_el H
  refine c_region (fun K hK => ?_)
  refine st_val hS rfl rfl rfl (r_move hS rfl rfl) fun a2 hS2 => st_val hS2 rfl rfl rfl (r_move hS2 rfl rfl) fun a3 hS3 => ?_
  refine st_enter hS3 rfl rfl rfl (r_call hS3 rfl rfl (by kernel_rfl)) (rails_Rails_ReadyAt.calls (c0 := c0) (b_p0 := b_p0) (A_list_p0 := A_list_p0) (cap_list_p0 := cap_list_p0) (p0 := p0) (p1 := p1) (g := g) (N + 0)  ⟨hb0, hf0_list⟩ (by omega) hr5) ?_
  rintro _ a6 w7 ⟨g7, rfl, F7⟩ hS6
  replace hb0 := hb0.fr F7 (fun (hm : N + 0 ≤ c0) => by omega)
  replace hf0_list := OwS.fr hf0_list F7 (fun c' hc (hm : N + 0 ≤ c') => by omega)
  replace hF := hF.trans F7 (fun c' (hm : N + 0 ≤ c') => by show N ≤ c'; omega)
  refine st_val hS6 rfl rfl rfl (r_move hS6 rfl rfl) fun a8 hS8 => st_val hS8 rfl rfl rfl (r_extract hS8 rfl rfl rfl) fun a9 hS9 => st_val hS9 rfl rfl rfl (r_extract hS9 rfl rfl rfl) fun a10 hS10 => st_val hS10 rfl rfl rfl (r_assign hS10 rfl rfl) fun a11 hS11 => st_val hS11 rfl rfl rfl (r_assign hS11 rfl rfl) fun a12 hS12 => wpList_nil (hK _ _ ?_)
  replace hS : Sl 21 _ [(2, .int .u64 p2), (7, .int .u64 r4.1), (8, .bool r4.2)] := hS12.re ⟨rfl, rfl, rfl, trivial⟩
  clear hK K
  try clear hS2 hS3 hS6 hS8 hS9 hS10 hS11 hS12
  obtain ⟨a, ha⟩ : ∃ a', a' = a12 := ⟨_, rfl⟩
  rw [← ha] at hS ⊢; clear ha
  refine c_region (fun K hK => ?_)
  refine st_val hS rfl rfl rfl (r_move hS rfl rfl) fun a13 hS13 => st_val hS13 rfl rfl rfl (r_move hS13 rfl rfl) fun a14 hS14 => ?_
  refine g_join (N := 21) 4 [(20, .bool (r4.2 && (decide (r4.1 ≤ p2))))] ?_ (fun hk => ?_)
  rotate_left
  · rcases Bool.eq_false_or_eq_true (r4.2) with hb15 | hb15
    · refine st_valW hS14 (want_on hS14 rfl rfl rfl hb15) rfl rfl (r_move hS14 rfl rfl) fun a19 hS19 => st_valW hS19 (want_on hS19 rfl rfl rfl hb15) rfl rfl (r_move hS19 rfl rfl) fun a20 hS20 => st_valW hS20 (want_on hS20 rfl rfl rfl hb15) rfl rfl (r_bin hS20 rfl rfl rfl b_leq) fun a21 hS21 => st_val hS21 rfl rfl rfl (r_pickT hS21 rfl rfl rfl hb15) fun a22 hS22 => hk _ (hS22.re ⟨(by rw [hb15]; rfl), trivial⟩)
    · refine st_off hS14 (want_off hS14 rfl rfl rfl hb15) rfl rfl fun a23 hS23 => st_off hS23 (want_off hS23 rfl rfl rfl hb15) rfl rfl fun a24 hS24 => st_off hS24 (want_off hS24 rfl rfl rfl hb15) rfl rfl fun a25 hS25 => st_val hS25 rfl rfl rfl (r_pickF hS25 rfl rfl rfl hb15) fun a26 hS26 => hk _ (hS26.re ⟨(by rw [hb15]; rfl), trivial⟩)
  intro a27 hS27
  refine st_val hS27 rfl rfl rfl (r_assign hS27 rfl rfl) fun a28 hS28 => wpList_nil (hK _ _ ?_)
  replace hS : Sl 21 _ [(6, .bool (r4.2 && (decide (r4.1 ≤ p2))))] := hS28.re ⟨rfl, trivial⟩
  clear hK K
  try clear hS13 hS14 hS27 hS28
  obtain ⟨a, ha⟩ : ∃ a', a' = a28 := ⟨_, rfl⟩
  rw [← ha] at hS ⊢; clear ha
  refine wp_ret ?_
  have e := Option.some.inj H
  subst e
  repeat (with_reducible first | refine then_ret ?_ | refine inBlock_ret ?_)
  exact c_ret1 hS Try.results24 rfl ⟨_, rfl, g7, rfl, hF⟩

/-! ### rails_Rails_own: function 40 -/
def rails_Rails_own.l0 (p0 : rails_Rails) (p1 : Int) : Nat → Int → Int → Option (Int)
  | 0, _, _ => none
  | k24 + 1, m0_0, m0_1 => if decide (m0_1 < (p0.list.length : Int)) = true then (((idx p0.list m0_1).bind fun x31 => if ((x31.Rail.Supply == p1) && (decide (0 < x31.count))) = true then (some (wi (m0_0 - 1))) else (some m0_0) : Option (Int)).bind fun v28 => rails_Rails_own.l0 p0 p1 k24 v28 (wi (m0_1 + 1))) else (some m0_0)
def rails_Rails_own.f (p0 : rails_Rails) (p1 : Int) : Option (Int) := (idx p0.list p1).bind fun x7 => (rails_Rails_own.l0 p0 p1 FUEL x7.count 0 : Option (Int)).bind fun v14 => some v14
set_option maxRecDepth 100000 in
set_option maxHeartbeats 4000000 in
theorem rails_Rails_own.calls {p0 : rails_Rails} {c0 : Nat}  {b_p0 : Nat} {A_list_p0 : Option Addr} {cap_list_p0 : Nat} {p1 : Int} {w : World} {g : Nat → Nat} {out : Int} (N : Nat) (hp0 : rails_Rails_At w g c0 b_p0 A_list_p0 cap_list_p0 p0) (hc0 : c0 + 3 ≤ N) (H : rails_Rails_own.f p0 p1 = some out) :
    Calls Try.prog 40 #[.pointer (some ⟨b_p0, 0, none⟩), .int .i64 p1] w (fun e w' => ∃ v, e = .returned v ∧ ∃ (g' : Nat → Nat), v = .int .i64 out ∧ Fr (fun q => N ≤ q) w g w' g') := by
  unfold rails_Rails_own.f at H
  refine calls_enter Try.func40 rfl Try.ntmps40 rfl (fun a hS => ?_)
  replace hS : Sl 39 a [(0, .pointer (some ⟨b_p0, 0, none⟩)), (1, .int .i64 p1)] := hS
  have hF : Fr (fun q => N ≤ q) w g w g := Fr.refl _ _ _
  obtain ⟨hb0, hf0_list⟩ := hp0
  refine c_pure [(0, .pointer (some ⟨b_p0, 0, none⟩)), (1, .int .i64 p1)] (fun R hR => st_val hS rfl rfl rfl (r_assign hS rfl rfl) fun a1 hS1 => wpList_nil (hR _ (hS1.re ⟨rfl, rfl, trivial⟩))) ?_
  clear hS
  clear a
  intro a hS
  obtain ⟨x7, hx8, H⟩ := bind_el H
  refine c_pure [(0, .pointer (some ⟨b_p0, 0, none⟩)), (1, .int .i64 p1), (5, .int .i64 x7.count)] (fun R hR => st_val hS rfl rfl rfl (r_move hS rfl rfl) fun a2 hS2 => st_val hS2 rfl rfl rfl (r_nil hS2 rfl rfl) fun a3 hS3 => st_val hS3 rfl rfl rfl (r_fieldB (off := 0) hS3 rfl rfl (by kernel_rfl)) fun a4 hS4 => st_val hS4 rfl rfl rfl (r_load1 (n := 1) hS4 rfl rfl (by kernel_rfl) (Bx.cell hb0 rfl)) fun a5 hS5 => st_val hS5 rfl rfl rfl (r_move hS5 rfl rfl) fun a6 hS6 => st_val hS6 rfl rfl rfl (r_index (e := 75) (sz := 5) (by_ := 40) hS6 rfl rfl rfl (by kernel_rfl) (RdS.some_ (OwS.rd hf0_list) hx8) (idx_lo hx8) (idx_hi hx8)) fun a9 hS9 => st_val hS9 rfl rfl rfl (r_fieldE (off := 3) hS9 rfl rfl (by kernel_rfl)) fun a10 hS10 => st_val hS10 rfl rfl rfl (r_load1 (n := 1) hS10 rfl rfl (by kernel_rfl) (RdS.cell (i := p1) (sz := 5) (j := 3) (OwS.rd hf0_list) hx8 rfl)) fun a11 hS11 => st_val hS11 rfl rfl rfl (r_assign hS11 rfl rfl) fun a12 hS12 => wpList_nil (hR _ (hS12.re ⟨rfl, rfl, rfl, trivial⟩))) ?_
  clear hS
  clear a
  intro a hS
  obtain ⟨v14, H, Hl16⟩ := bind_el H
  refine c_cut (fun a w13 => ∃ (g13 : Nat → Nat), Sl 39 a [(5, .int .i64 v14)] ∧ Bx w13 g13 (c0) b_p0 70 [.slice A_list_p0 p0.list.length cap_list_p0, .int .u64 p0.now] ∧ OwS kd_rails_rail 75 w13 g13 (c0 + 1) A_list_p0 cap_list_p0 p0.list ∧ Fr (fun q => N ≤ q) w g w13 g13) ?_ ?_
  · refine c_pure [(1, .int .i64 p1), (5, .int .i64 x7.count), (19, .slice A_list_p0 p0.list.length cap_list_p0), (20, .int .i64 (p0.list.length : Int)), (21, .int .i64 0)] (fun R hR => st_val hS rfl rfl rfl (r_move hS rfl rfl) fun a17 hS17 => st_val hS17 rfl rfl rfl (r_nil hS17 rfl rfl) fun a18 hS18 => st_val hS18 rfl rfl rfl (r_fieldB (off := 0) hS18 rfl rfl (by kernel_rfl)) fun a19 hS19 => st_val hS19 rfl rfl rfl (r_load1 (n := 1) hS19 rfl rfl (by kernel_rfl) (Bx.cell hb0 rfl)) fun a20 hS20 => st_val hS20 rfl rfl rfl (r_len (e := 75) (sz := 5) (by_ := 40) hS20 rfl rfl (by kernel_rfl)) fun a21 hS21 => st_val hS21 rfl rfl rfl (r_move hS21 rfl rfl) fun a22 hS22 => wpList_nil (hR _ (hS22.re ⟨rfl, rfl, rfl, rfl, rfl, trivial⟩))) ?_
    clear hS
    clear a
    intro a hS
    refine wp_block ?_
    refine wp_loop_ghost (fun kq => fun a w23 => ∃ (m0_0 : Int), ∃ (m0_1 : Int), ∃ (g23 : Nat → Nat), rails_Rails_own.l0 p0 p1 kq m0_0 m0_1 = some v14 ∧ Sl 39 a [(1, .int .i64 p1), (5, .int .i64 m0_0), (19, .slice A_list_p0 p0.list.length cap_list_p0), (20, .int .i64 (p0.list.length : Int)), (21, .int .i64 m0_1)] ∧ Bx w23 g23 (c0) b_p0 70 [.slice A_list_p0 p0.list.length cap_list_p0, .int .u64 p0.now] ∧ OwS kd_rails_rail 75 w23 g23 (c0 + 1) A_list_p0 cap_list_p0 p0.list ∧ Fr (fun q => N ≤ q) w g w23 g23) FUEL ?_ ?_
    · exact ⟨x7.count, 0, g, H, hS.re ⟨rfl, rfl, rfl, rfl, rfl, trivial⟩, hb0, hf0_list, hF⟩
    · clear H
      clear hf0_list hb0 hF
      clear hS
      rintro k24 a w23 ⟨m0_0, m0_1, g23, hpre0, hS, hb0, hf0_list, hF⟩
      have H := hpre0
      clear hpre0
      cases k24 with
      | zero => exact absurd H (by simp [rails_Rails_own.l0])
      | succ k24 =>
        rw [rails_Rails_own.l0] at H
        refine c_pure [(1, .int .i64 p1), (5, .int .i64 m0_0), (19, .slice A_list_p0 p0.list.length cap_list_p0), (20, .int .i64 (p0.list.length : Int)), (21, .int .i64 m0_1), (22, .bool (decide (m0_1 < (p0.list.length : Int))))] (fun R hR => st_val hS rfl rfl rfl (r_bin hS rfl rfl rfl b_lss) fun a25 hS25 => wpList_nil (hR _ (hS25.re ⟨rfl, rfl, rfl, rfl, rfl, rfl, trivial⟩))) ?_
        clear hS
        clear a
        intro a hS
        refine c_if hS rfl (fun hb26 => ?_) (fun hb26 => ?_)
        · replace H := ite_t hb26 H
          refine wp_skip ?_
          change Code.wp _ _ _ _ _
          obtain ⟨v28, H, Hl30⟩ := bind_el H
          refine c_cut (fun a w27 => ∃ (g27 : Nat → Nat), Sl 39 a [(1, .int .i64 p1), (5, .int .i64 v28), (19, .slice A_list_p0 p0.list.length cap_list_p0), (20, .int .i64 (p0.list.length : Int)), (21, .int .i64 m0_1)] ∧ Bx w27 g27 (c0) b_p0 70 [.slice A_list_p0 p0.list.length cap_list_p0, .int .u64 p0.now] ∧ OwS kd_rails_rail 75 w27 g27 (c0 + 1) A_list_p0 cap_list_p0 p0.list ∧ Fr (fun q => N ≤ q) w g w27 g27) ?_ ?_
          · refine wp_block ?_
            obtain ⟨x31, hx32, H⟩ := bind_el H
            refine c_region (fun K hK => ?_)
            refine st_val hS rfl rfl rfl (r_index (e := 75) (sz := 5) (by_ := 40) hS rfl rfl rfl (by kernel_rfl) (RdS.some_ (OwS.rd hf0_list) hx32) (idx_lo hx32) (idx_hi hx32)) fun a33 hS33 => st_val hS33 rfl rfl rfl (r_loadN (n := 5) (cs := [.int .i64 x31.Rail.Supply, .int .u64 x31.Rail.RampUp, .int .u64 x31.Rail.RampDown, .int .i64 x31.count, .int .u64 x31.done]) hS33 rfl rfl (by kernel_rfl) rfl (RdS.cells_off (OwS.rd hf0_list) hx32 0 5)) fun a34 hS34 => ?_
            refine st_eff hS34 rfl rfl rfl (e_alloc (cs := [.int .i64 0, .int .u64 0, .int .u64 0, .int .i64 0, .int .u64 0]) (N + 0) g23 hS34 rfl (by kernel_rfl)) ?_
            rintro _ a38 w39 g39 ⟨⟨b35, rfl, h36⟩, F39⟩ hS38
            replace hb0 := hb0.fr F39 (fun h => h)
            replace hf0_list := OwS.fr hf0_list F39 (fun _ _ h => h)
            replace hF := hF.trans F39 (fun _ h => h.elim)
            refine st_effS hS38 rfl rfl (e_storeB (n := 5) (bb := true) (cs' := [.int .i64 x31.Rail.Supply, .int .u64 x31.Rail.RampUp, .int .u64 x31.Rail.RampDown, .int .i64 x31.count, .int .u64 x31.done]) g39 hS38 rfl rfl rfl (by kernel_rfl) rfl rfl rfl h36 rfl rfl) ?_
            rintro a40 w41 g41 ⟨h36, F41⟩ hS40
            replace hb0 := hb0.fr F41 (fun (hm : c0 = N + 0) => by omega)
            replace hf0_list := OwS.fr hf0_list F41 (fun c' hc (hm : c' = N + 0) => by omega)
            replace hF := hF.trans F41 (fun c' (hm : c' = N + 0) => by show N ≤ c'; omega)
            refine wpList_nil (hK _ _ ?_)
            replace hS : Sl 39 _ [(1, .int .i64 p1), (5, .int .i64 m0_0), (7, .pointer (some ⟨b35, 0, none⟩)), (19, .slice A_list_p0 p0.list.length cap_list_p0), (20, .int .i64 (p0.list.length : Int)), (21, .int .i64 m0_1)] := hS40.re ⟨rfl, rfl, rfl, rfl, rfl, rfl, trivial⟩
            clear hK K
            try clear hS33 hS34 hS38 hS40
            obtain ⟨a, ha⟩ : ∃ a', a' = a40 := ⟨_, rfl⟩
            rw [← ha] at hS ⊢; clear ha
            refine c_region (fun K hK => ?_)
            refine st_val hS rfl rfl rfl (r_fieldB (off := 0) hS rfl rfl (by kernel_rfl)) fun a42 hS42 => st_val hS42 rfl rfl rfl (r_fieldB (off := 0) hS42 rfl rfl (by kernel_rfl)) fun a43 hS43 => st_val hS43 rfl rfl rfl (r_load1 (n := 1) hS43 rfl rfl (by kernel_rfl) (Bx.cell h36 rfl)) fun a44 hS44 => st_val hS44 rfl rfl rfl (r_move hS44 rfl rfl) fun a45 hS45 => st_val hS45 rfl rfl rfl (r_bin hS45 rfl rfl rfl b_eql) fun a46 hS46 => st_val hS46 rfl rfl rfl (r_move hS46 rfl rfl) fun a47 hS47 => ?_
            refine g_join (N := 39) 4 [(1, .int .i64 p1), (5, .int .i64 m0_0), (19, .slice A_list_p0 p0.list.length cap_list_p0), (20, .int .i64 (p0.list.length : Int)), (21, .int .i64 m0_1), (34, .bool ((x31.Rail.Supply == p1) && (decide (0 < x31.count))))] ?_ (fun hk => ?_)
            rotate_left
            · rcases Bool.eq_false_or_eq_true ((x31.Rail.Supply == p1)) with hb48 | hb48
              · refine st_valW hS47 (want_on hS47 rfl rfl rfl hb48) rfl rfl (r_fieldB (off := 3) hS47 rfl rfl (by kernel_rfl)) fun a52 hS52 => st_valW hS52 (want_on hS52 rfl rfl rfl hb48) rfl rfl (r_load1 (n := 1) hS52 rfl rfl (by kernel_rfl) (Bx.cell h36 rfl)) fun a53 hS53 => st_valW hS53 (want_on hS53 rfl rfl rfl hb48) rfl rfl (r_bin hS53 rfl rfl rfl b_gtr) fun a54 hS54 => st_val hS54 rfl rfl rfl (r_pickT hS54 rfl rfl rfl hb48) fun a55 hS55 => hk _ (hS55.re ⟨rfl, rfl, rfl, rfl, rfl, (by rw [hb48]; rfl), trivial⟩)
              · refine st_off hS47 (want_off hS47 rfl rfl rfl hb48) rfl rfl fun a56 hS56 => st_off hS56 (want_off hS56 rfl rfl rfl hb48) rfl rfl fun a57 hS57 => st_off hS57 (want_off hS57 rfl rfl rfl hb48) rfl rfl fun a58 hS58 => st_val hS58 rfl rfl rfl (r_pickF hS58 rfl rfl rfl hb48) fun a59 hS59 => hk _ (hS59.re ⟨rfl, rfl, rfl, rfl, rfl, (by rw [hb48]; rfl), trivial⟩)
            intro a60 hS60
            refine wpList_nil (hK _ _ ?_)
            replace hS : Sl 39 _ [(1, .int .i64 p1), (5, .int .i64 m0_0), (19, .slice A_list_p0 p0.list.length cap_list_p0), (20, .int .i64 (p0.list.length : Int)), (21, .int .i64 m0_1), (34, .bool ((x31.Rail.Supply == p1) && (decide (0 < x31.count))))] := hS60.re ⟨rfl, rfl, rfl, rfl, rfl, rfl, trivial⟩
            clear hK K
            try clear hS42 hS43 hS44 hS45 hS46 hS47 hS60
            obtain ⟨a, ha⟩ : ∃ a', a' = a60 := ⟨_, rfl⟩
            rw [← ha] at hS ⊢; clear ha
            refine c_cond hS rfl (fun hb61 => ?_) (fun hb61 => ?_)
            · replace H := ite_t hb61 H
              refine c_pure1 [(1, .int .i64 p1), (5, .int .i64 (wi (m0_0 - 1))), (19, .slice A_list_p0 p0.list.length cap_list_p0), (20, .int .i64 (p0.list.length : Int)), (21, .int .i64 m0_1)] (fun R hR => st_val hS rfl rfl rfl (r_move hS rfl rfl) fun a62 hS62 => st_val hS62 rfl rfl rfl (r_bin hS62 rfl rfl rfl b_sub) fun a63 hS63 => st_val hS63 rfl rfl rfl (r_assign hS63 rfl rfl) fun a64 hS64 => wpList_nil (hR _ (hS64.re ⟨rfl, rfl, rfl, rfl, rfl, trivial⟩))) ?_
              clear hS
              clear a
              intro a hS
              have e := Option.some.inj H
              subst e
              exact ⟨g41, hS.re ⟨rfl, rfl, rfl, rfl, rfl, trivial⟩, hb0, hf0_list, hF⟩
            · replace H := ite_f hb61 H
              refine wp_skip ?_
              have e := Option.some.inj H
              subst e
              exact ⟨g41, hS.re ⟨rfl, rfl, rfl, rfl, rfl, trivial⟩, hb0, hf0_list, hF⟩
          · clear H
            clear hf0_list hb0 hF
            clear hS
            rintro a w27 ⟨g27, hS, hb0, hf0_list, hF⟩
            have H := Hl30
            clear Hl30
            refine c_pure1 [(1, .int .i64 p1), (5, .int .i64 v28), (19, .slice A_list_p0 p0.list.length cap_list_p0), (20, .int .i64 (p0.list.length : Int)), (21, .int .i64 (wi (m0_1 + 1)))] (fun R hR => st_val hS rfl rfl rfl (r_bin hS rfl rfl rfl b_add) fun a65 hS65 => st_val hS65 rfl rfl rfl (r_move hS65 rfl rfl) fun a66 hS66 => wpList_nil (hR _ (hS66.re ⟨rfl, rfl, rfl, rfl, rfl, trivial⟩))) ?_
            clear hS
            clear a
            intro a hS
            refine ⟨k24, Nat.lt_succ_self _, ?_⟩
            exact ⟨v28, wi (m0_1 + 1), g27, H, hS.re ⟨rfl, rfl, rfl, rfl, rfl, trivial⟩, hb0, hf0_list, hF⟩
        · replace H := ite_f hb26 H
          refine wp_exit ?_
          have e := Option.some.inj H
          subst e
          exact ⟨g23, hS.re ⟨rfl, trivial⟩, hb0, hf0_list, hF⟩
  · clear H
    clear hf0_list hb0 hF
    clear hS
    rintro a w13 ⟨g13, hS, hb0, hf0_list, hF⟩
    have H := Hl16
    clear Hl16
    refine c_pure [(4, .int .i64 v14)] (fun R hR => st_val hS rfl rfl rfl (r_move hS rfl rfl) fun a67 hS67 => st_val hS67 rfl rfl rfl (r_assign hS67 rfl rfl) fun a68 hS68 => wpList_nil (hR _ (hS68.re ⟨rfl, trivial⟩))) ?_
    clear hS
    clear a
    intro a hS
    refine wp_ret ?_
    have e := Option.some.inj H
    subst e
    repeat (with_reducible first | refine then_ret ?_ | refine inBlock_ret ?_)
    exact c_ret1 hS Try.results40 rfl ⟨_, rfl, g13, rfl, hF⟩

/-! ### rails_Rails_off: function 41 -/
def rails_Rails_off.l0 (p0 : rails_Rails) (p1 : Int) (x7 : rails_rail) : Nat → Int → Int → Option (Int)
  | 0, _, _ => none
  | k47 + 1, m0_0, m0_1 => if decide (m0_1 < ((upd p0.list p1 ({ x7 with count := wi (x7.count - 1) } : rails_rail)).length : Int)) = true then (((idx (upd p0.list p1 ({ x7 with count := wi (x7.count - 1) } : rails_rail)) m0_1).bind fun x54 => if (x54.Rail.Supply == p1) = true then (some (max m0_0 x54.done)) else (some m0_0) : Option (Int)).bind fun v51 => rails_Rails_off.l0 p0 p1 x7 k47 v51 (wi (m0_1 + 1))) else (some m0_0)
def rails_Rails_off.r : Nat → rails_Rails → Int → Int → Option (rails_Rails × (List api_RailOp))
  | 0, _, _, _ => none
  | kr + 1, p0, p1, p2 => (idx p0.list p1).bind fun x7 => (idx (upd p0.list p1 ({ x7 with count := wi (x7.count - 1) } : rails_rail)) p1).bind fun x23 => if decide (0 < x23.count) = true then (some ((rails_Rails.mk (upd p0.list p1 ({ x7 with count := wi (x7.count - 1) } : rails_rail)) p0.now), [])) else ((rails_Rails_off.l0 p0 p1 x7 FUEL (max p2 x23.done) 0 : Option (Int)).bind fun v37 => (idx (upd (upd p0.list p1 ({ x7 with count := wi (x7.count - 1) } : rails_rail)) p1 ({ x23 with done := wu (v37 + x23.Rail.RampDown) } : rails_rail)) p1).bind fun x95 => (if decide (0 ≤ x95.Rail.Supply) = true then ((rails_Rails_off.r kr (rails_Rails.mk (upd (upd p0.list p1 ({ x7 with count := wi (x7.count - 1) } : rails_rail)) p1 ({ x23 with done := wu (v37 + x23.Rail.RampDown) } : rails_rail)) p0.now) x95.Rail.Supply p2).bind fun r127 => (app [(api_RailOp.mk p1 false v37 x95.done)] r127.2).bind fun y135 => some (y135, r127.1)) else (some ([(api_RailOp.mk p1 false v37 x95.done)], (rails_Rails.mk (upd (upd p0.list p1 ({ x7 with count := wi (x7.count - 1) } : rails_rail)) p1 ({ x23 with done := wu (v37 + x23.Rail.RampDown) } : rails_rail)) p0.now))) : Option ((List api_RailOp) × rails_Rails)).bind fun v109 => some (v109.2, v109.1))
def rails_Rails_off.f (p0 : rails_Rails) (p1 : Int) (p2 : Int) : Option (rails_Rails × (List api_RailOp)) := rails_Rails_off.r FUEL p0 p1 p2
set_option maxRecDepth 100000 in
set_option maxHeartbeats 4000000 in
theorem rails_Rails_off.calls_r : ∀ (kr : Nat) {p0 : rails_Rails} {c0 : Nat}  {b_p0 : Nat} {A_list_p0 : Option Addr} {cap_list_p0 : Nat} {p1 : Int} {p2 : Int} {w : World} {g : Nat → Nat} {out : rails_Rails × (List api_RailOp)} (N : Nat) (r0 : Nat) (hp0 : rails_Rails_At w g c0 b_p0 A_list_p0 cap_list_p0 p0) (hc0 : c0 + 3 ≤ N) (hr0 : r0 + 2 ≤ N) (hq0_0 : r0 + 2 ≤ c0 ∨ c0 + 3 ≤ r0), rails_Rails_off.r kr p0 p1 p2 = some out →
    Calls Try.prog 41 #[.pointer (some ⟨b_p0, 0, none⟩), .int .i64 p1, .int .u64 p2] w (fun e w' => ∃ v, e = .returned v ∧ ∃ (g' : Nat → Nat) (A_r0 : Option Addr) (cap_r0 : Nat), v = .slice A_r0 out.2.length cap_r0 ∧ rails_Rails_At w' g' c0 b_p0 A_list_p0 cap_list_p0 out.1 ∧ OwS kd_api_RailOp 50 w' g' r0 A_r0 cap_r0 out.2 ∧ Fr (fun q => (c0 ≤ q ∧ q < c0 + 3) ∨ (r0 ≤ q ∧ q < r0 + 2) ∨ N ≤ q) w g w' g') := by
  intro kr
  induction kr with
  | zero => intros; rename_i H; exact absurd H (by simp [rails_Rails_off.r])
  | succ kr ih =>
    intro p0 c0 b_p0 A_list_p0 cap_list_p0 p1 p2 w g out N r0 hp0 hc0 hr0 hq0_0 H
    rw [rails_Rails_off.r] at H
    refine calls_enter Try.func41 rfl Try.ntmps41 rfl (fun a hS => ?_)
    replace hS : Sl 90 a [(0, .pointer (some ⟨b_p0, 0, none⟩)), (1, .int .i64 p1), (2, .int .u64 p2)] := hS
    have hF : Fr (fun q => (c0 ≤ q ∧ q < c0 + 3) ∨ (r0 ≤ q ∧ q < r0 + 2) ∨ N ≤ q) w g w g := Fr.refl _ _ _
    obtain ⟨hb0, hf0_list⟩ := hp0
    refine c_pure [(0, .pointer (some ⟨b_p0, 0, none⟩)), (1, .int .i64 p1), (2, .int .u64 p2)] (fun R hR => st_val hS rfl rfl rfl (r_assign hS rfl rfl) fun a1 hS1 => wpList_nil (hR _ (hS1.re ⟨rfl, rfl, rfl, trivial⟩))) ?_
    clear hS
    clear a
    intro a hS
    obtain ⟨x7, hx8, H⟩ := bind_el H
    refine c_pure [(0, .pointer (some ⟨b_p0, 0, none⟩)), (1, .int .i64 p1), (2, .int .u64 p2), (7, .pointer (some (ea A_list_p0 (p1.toNat * 5))))] (fun R hR => st_val hS rfl rfl rfl (r_move hS rfl rfl) fun a2 hS2 => st_val hS2 rfl rfl rfl (r_nil hS2 rfl rfl) fun a3 hS3 => st_val hS3 rfl rfl rfl (r_fieldB (off := 0) hS3 rfl rfl (by kernel_rfl)) fun a4 hS4 => st_val hS4 rfl rfl rfl (r_load1 (n := 1) hS4 rfl rfl (by kernel_rfl) (Bx.cell hb0 rfl)) fun a5 hS5 => st_val hS5 rfl rfl rfl (r_move hS5 rfl rfl) fun a6 hS6 => st_val hS6 rfl rfl rfl (r_index (e := 75) (sz := 5) (by_ := 40) hS6 rfl rfl rfl (by kernel_rfl) (RdS.some_ (OwS.rd hf0_list) hx8) (idx_lo hx8) (idx_hi hx8)) fun a9 hS9 => st_val hS9 rfl rfl rfl (r_assign hS9 rfl rfl) fun a10 hS10 => wpList_nil (hR _ (hS10.re ⟨rfl, rfl, rfl, rfl, trivial⟩))) ?_
    clear hS
    clear a
    intro a hS
    refine c_region (fun K hK => ?_)
    refine st_val hS rfl rfl rfl (r_move hS rfl rfl) fun a11 hS11 => st_val hS11 rfl rfl rfl (r_nil hS11 rfl rfl) fun a12 hS12 => st_val hS12 rfl rfl rfl (r_fieldE (off := 3) hS12 rfl rfl (by kernel_rfl)) fun a13 hS13 => st_val hS13 rfl rfl rfl (r_load1 (n := 1) hS13 rfl rfl (by kernel_rfl) (RdS.cell (i := p1) (sz := 5) (j := 3) (OwS.rd hf0_list) hx8 rfl)) fun a14 hS14 => st_val hS14 rfl rfl rfl (r_bin hS14 rfl rfl rfl b_sub) fun a15 hS15 => st_val hS15 rfl rfl rfl (r_nil hS15 rfl rfl) fun a16 hS16 => st_val hS16 rfl rfl rfl (r_fieldE (off := 3) hS16 rfl rfl (by kernel_rfl)) fun a17 hS17 => ?_
    refine st_effS hS17 rfl rfl (e_storeE (n := 1) (bb := false) (kd := kd_rails_rail) (j := 3) (x' := ({ x7 with count := wi (x7.count - 1) } : rails_rail)) (us := [.int .i64 (wi (x7.count - 1))]) g hS17 rfl rfl rfl rfl (by kernel_rfl) rfl rfl (by intro v hv; simp only [List.mem_cons, List.not_mem_nil, or_false] at hv; rcases hv with rfl <;> rfl) hf0_list hx8 rfl (fun _ _ cs hR => by rw [show cs = _ from hR]; rfl)) ?_
    rintro a18 w19 g19 ⟨hf0_list, F19⟩ hS18
    replace hb0 := hb0.fr F19 (fun (hm : c0 = c0 + 1) => by omega)
    replace hF := hF.trans F19 (fun c' (hm : c' = c0 + 1) => by show (c0 ≤ c' ∧ c' < c0 + 3) ∨ (r0 ≤ c' ∧ c' < r0 + 2) ∨ N ≤ c'; omega)
    replace hb0 : Bx w19 g19 (c0) b_p0 70 [.slice A_list_p0 (upd p0.list p1 ({ x7 with count := wi (x7.count - 1) } : rails_rail)).length cap_list_p0, .int .u64 p0.now] := by simpa only [upd_length] using hb0
    refine wpList_nil (hK _ _ ?_)
    replace hS : Sl 90 _ [(0, .pointer (some ⟨b_p0, 0, none⟩)), (1, .int .i64 p1), (2, .int .u64 p2), (7, .pointer (some (ea A_list_p0 (p1.toNat * 5))))] := hS18.re ⟨rfl, rfl, rfl, rfl, trivial⟩
    clear hK K
    try clear hS11 hS12 hS13 hS14 hS15 hS16 hS17 hS18
    obtain ⟨a, ha⟩ : ∃ a', a' = a18 := ⟨_, rfl⟩
    rw [← ha] at hS ⊢; clear ha
    refine wp_seq ?_
    obtain ⟨x23, hx24, H⟩ := bind_el H
    refine c_pure [(0, .pointer (some ⟨b_p0, 0, none⟩)), (1, .int .i64 p1), (2, .int .u64 p2), (7, .pointer (some (ea A_list_p0 (p1.toNat * 5)))), (29, .bool (decide (0 < x23.count)))] (fun R hR => st_val hS rfl rfl rfl (r_move hS rfl rfl) fun a20 hS20 => st_val hS20 rfl rfl rfl (r_nil hS20 rfl rfl) fun a21 hS21 => st_val hS21 rfl rfl rfl (r_fieldE (off := 3) hS21 rfl rfl (by kernel_rfl)) fun a22 hS22 => st_val hS22 rfl rfl rfl (r_load1 (n := 1) hS22 rfl rfl (by kernel_rfl) (RdS.cell (i := p1) (sz := 5) (j := 3) (OwS.rd hf0_list) hx24 rfl)) fun a25 hS25 => st_val hS25 rfl rfl rfl (r_bin hS25 rfl rfl rfl b_gtr) fun a26 hS26 => wpList_nil (hR _ (hS26.re ⟨rfl, rfl, rfl, rfl, rfl, trivial⟩))) ?_
    clear hS
    clear a
    intro a hS
    refine c_cond hS rfl (fun hb27 => ?_) (fun hb27 => ?_)
    · replace H := ite_t hb27 H
      refine c_pure [(6, .slice none 0 0)] (fun R hR => st_val hS rfl rfl rfl (r_assign hS rfl rfl) fun a28 hS28 => wpList_nil (hR _ (hS28.re ⟨rfl, trivial⟩))) ?_
      clear hS
      clear a
      intro a hS
      refine wp_ret ?_
      have e := Option.some.inj H
      subst e
      repeat (with_reducible first | refine then_ret ?_ | refine inBlock_ret ?_)
      exact c_ret1 hS Try.results41 rfl ⟨_, rfl, g19, none, 0, rfl, ⟨hb0, hf0_list⟩, OwS.nil kd_api_RailOp 50 w19 g19 r0, hF⟩
    · replace H := ite_f hb27 H
      refine wp_skip ?_
      change Code.wp _ _ _ _ _
      refine c_pure [(0, .pointer (some ⟨b_p0, 0, none⟩)), (1, .int .i64 p1), (2, .int .u64 p2), (7, .pointer (some (ea A_list_p0 (p1.toNat * 5)))), (8, .int .u64 (max p2 x23.done))] (fun R hR => st_val hS rfl rfl rfl (r_move hS rfl rfl) fun a29 hS29 => st_val hS29 rfl rfl rfl (r_move hS29 rfl rfl) fun a30 hS30 => st_val hS30 rfl rfl rfl (r_nil hS30 rfl rfl) fun a31 hS31 => st_val hS31 rfl rfl rfl (r_fieldE (off := 4) hS31 rfl rfl (by kernel_rfl)) fun a32 hS32 => st_val hS32 rfl rfl rfl (r_load1 (n := 1) hS32 rfl rfl (by kernel_rfl) (RdS.cell (i := p1) (sz := 5) (j := 4) (OwS.rd hf0_list) hx24 rfl)) fun a33 hS33 => st_val hS33 rfl rfl rfl (r_max hS33 rfl rfl rfl) fun a34 hS34 => st_val hS34 rfl rfl rfl (r_assign hS34 rfl rfl) fun a35 hS35 => wpList_nil (hR _ (hS35.re ⟨rfl, rfl, rfl, rfl, rfl, trivial⟩))) ?_
      clear hS
      clear a
      intro a hS
      obtain ⟨v37, H, Hl39⟩ := bind_el H
      refine c_cut (fun a w36 => ∃ (g36 : Nat → Nat), Sl 90 a [(0, .pointer (some ⟨b_p0, 0, none⟩)), (1, .int .i64 p1), (2, .int .u64 p2), (7, .pointer (some (ea A_list_p0 (p1.toNat * 5)))), (8, .int .u64 v37)] ∧ Bx w36 g36 (c0) b_p0 70 [.slice A_list_p0 (upd p0.list p1 ({ x7 with count := wi (x7.count - 1) } : rails_rail)).length cap_list_p0, .int .u64 p0.now] ∧ OwS kd_rails_rail 75 w36 g36 (c0 + 1) A_list_p0 cap_list_p0 (upd p0.list p1 ({ x7 with count := wi (x7.count - 1) } : rails_rail)) ∧ Fr (fun q => (c0 ≤ q ∧ q < c0 + 3) ∨ (r0 ≤ q ∧ q < r0 + 2) ∨ N ≤ q) w g w36 g36) ?_ ?_
      · refine c_pure [(0, .pointer (some ⟨b_p0, 0, none⟩)), (1, .int .i64 p1), (2, .int .u64 p2), (7, .pointer (some (ea A_list_p0 (p1.toNat * 5)))), (8, .int .u64 (max p2 x23.done)), (39, .slice A_list_p0 (upd p0.list p1 ({ x7 with count := wi (x7.count - 1) } : rails_rail)).length cap_list_p0), (40, .int .i64 ((upd p0.list p1 ({ x7 with count := wi (x7.count - 1) } : rails_rail)).length : Int)), (41, .int .i64 0)] (fun R hR => st_val hS rfl rfl rfl (r_move hS rfl rfl) fun a40 hS40 => st_val hS40 rfl rfl rfl (r_nil hS40 rfl rfl) fun a41 hS41 => st_val hS41 rfl rfl rfl (r_fieldB (off := 0) hS41 rfl rfl (by kernel_rfl)) fun a42 hS42 => st_val hS42 rfl rfl rfl (r_load1 (n := 1) hS42 rfl rfl (by kernel_rfl) (Bx.cell hb0 rfl)) fun a43 hS43 => st_val hS43 rfl rfl rfl (r_len (e := 75) (sz := 5) (by_ := 40) hS43 rfl rfl (by kernel_rfl)) fun a44 hS44 => st_val hS44 rfl rfl rfl (r_move hS44 rfl rfl) fun a45 hS45 => wpList_nil (hR _ (hS45.re ⟨rfl, rfl, rfl, rfl, rfl, rfl, rfl, rfl, trivial⟩))) ?_
        clear hS
        clear a
        intro a hS
        refine wp_block ?_
        refine wp_loop_ghost (fun kq => fun a w46 => ∃ (m0_0 : Int), ∃ (m0_1 : Int), ∃ (g46 : Nat → Nat), rails_Rails_off.l0 p0 p1 x7 kq m0_0 m0_1 = some v37 ∧ Sl 90 a [(0, .pointer (some ⟨b_p0, 0, none⟩)), (1, .int .i64 p1), (2, .int .u64 p2), (7, .pointer (some (ea A_list_p0 (p1.toNat * 5)))), (8, .int .u64 m0_0), (39, .slice A_list_p0 (upd p0.list p1 ({ x7 with count := wi (x7.count - 1) } : rails_rail)).length cap_list_p0), (40, .int .i64 ((upd p0.list p1 ({ x7 with count := wi (x7.count - 1) } : rails_rail)).length : Int)), (41, .int .i64 m0_1)] ∧ Bx w46 g46 (c0) b_p0 70 [.slice A_list_p0 (upd p0.list p1 ({ x7 with count := wi (x7.count - 1) } : rails_rail)).length cap_list_p0, .int .u64 p0.now] ∧ OwS kd_rails_rail 75 w46 g46 (c0 + 1) A_list_p0 cap_list_p0 (upd p0.list p1 ({ x7 with count := wi (x7.count - 1) } : rails_rail)) ∧ Fr (fun q => (c0 ≤ q ∧ q < c0 + 3) ∨ (r0 ≤ q ∧ q < r0 + 2) ∨ N ≤ q) w g w46 g46) FUEL ?_ ?_
        · exact ⟨(max p2 x23.done), 0, g19, H, hS.re ⟨rfl, rfl, rfl, rfl, rfl, rfl, rfl, rfl, trivial⟩, hb0, hf0_list, hF⟩
        · clear H
          clear hf0_list hb0 hF
          clear hS
          rintro k47 a w46 ⟨m0_0, m0_1, g46, hpre0, hS, hb0, hf0_list, hF⟩
          have H := hpre0
          clear hpre0
          cases k47 with
          | zero => exact absurd H (by simp [rails_Rails_off.l0])
          | succ k47 =>
            rw [rails_Rails_off.l0] at H
            refine c_pure [(0, .pointer (some ⟨b_p0, 0, none⟩)), (1, .int .i64 p1), (2, .int .u64 p2), (7, .pointer (some (ea A_list_p0 (p1.toNat * 5)))), (8, .int .u64 m0_0), (39, .slice A_list_p0 (upd p0.list p1 ({ x7 with count := wi (x7.count - 1) } : rails_rail)).length cap_list_p0), (40, .int .i64 ((upd p0.list p1 ({ x7 with count := wi (x7.count - 1) } : rails_rail)).length : Int)), (41, .int .i64 m0_1), (42, .bool (decide (m0_1 < ((upd p0.list p1 ({ x7 with count := wi (x7.count - 1) } : rails_rail)).length : Int))))] (fun R hR => st_val hS rfl rfl rfl (r_bin hS rfl rfl rfl b_lss) fun a48 hS48 => wpList_nil (hR _ (hS48.re ⟨rfl, rfl, rfl, rfl, rfl, rfl, rfl, rfl, rfl, trivial⟩))) ?_
            clear hS
            clear a
            intro a hS
            refine c_if hS rfl (fun hb49 => ?_) (fun hb49 => ?_)
            · replace H := ite_t hb49 H
              refine wp_skip ?_
              change Code.wp _ _ _ _ _
              obtain ⟨v51, H, Hl53⟩ := bind_el H
              refine c_cut (fun a w50 => ∃ (g50 : Nat → Nat), Sl 90 a [(0, .pointer (some ⟨b_p0, 0, none⟩)), (1, .int .i64 p1), (2, .int .u64 p2), (7, .pointer (some (ea A_list_p0 (p1.toNat * 5)))), (8, .int .u64 v51), (39, .slice A_list_p0 (upd p0.list p1 ({ x7 with count := wi (x7.count - 1) } : rails_rail)).length cap_list_p0), (40, .int .i64 ((upd p0.list p1 ({ x7 with count := wi (x7.count - 1) } : rails_rail)).length : Int)), (41, .int .i64 m0_1)] ∧ Bx w50 g50 (c0) b_p0 70 [.slice A_list_p0 (upd p0.list p1 ({ x7 with count := wi (x7.count - 1) } : rails_rail)).length cap_list_p0, .int .u64 p0.now] ∧ OwS kd_rails_rail 75 w50 g50 (c0 + 1) A_list_p0 cap_list_p0 (upd p0.list p1 ({ x7 with count := wi (x7.count - 1) } : rails_rail)) ∧ Fr (fun q => (c0 ≤ q ∧ q < c0 + 3) ∨ (r0 ≤ q ∧ q < r0 + 2) ∨ N ≤ q) w g w50 g50) ?_ ?_
              · refine wp_block ?_
                obtain ⟨x54, hx55, H⟩ := bind_el H
                refine c_region (fun K hK => ?_)
                refine st_val hS rfl rfl rfl (r_index (e := 75) (sz := 5) (by_ := 40) hS rfl rfl rfl (by kernel_rfl) (RdS.some_ (OwS.rd hf0_list) hx55) (idx_lo hx55) (idx_hi hx55)) fun a56 hS56 => st_val hS56 rfl rfl rfl (r_loadN (n := 5) (cs := [.int .i64 x54.Rail.Supply, .int .u64 x54.Rail.RampUp, .int .u64 x54.Rail.RampDown, .int .i64 x54.count, .int .u64 x54.done]) hS56 rfl rfl (by kernel_rfl) rfl (RdS.cells_off (OwS.rd hf0_list) hx55 0 5)) fun a57 hS57 => ?_
                refine st_eff hS57 rfl rfl rfl (e_alloc (cs := [.int .i64 0, .int .u64 0, .int .u64 0, .int .i64 0, .int .u64 0]) (N + 0) g46 hS57 rfl (by kernel_rfl)) ?_
                rintro _ a61 w62 g62 ⟨⟨b58, rfl, h59⟩, F62⟩ hS61
                replace hb0 := hb0.fr F62 (fun h => h)
                replace hf0_list := OwS.fr hf0_list F62 (fun _ _ h => h)
                replace hF := hF.trans F62 (fun _ h => h.elim)
                refine st_effS hS61 rfl rfl (e_storeB (n := 5) (bb := true) (cs' := [.int .i64 x54.Rail.Supply, .int .u64 x54.Rail.RampUp, .int .u64 x54.Rail.RampDown, .int .i64 x54.count, .int .u64 x54.done]) g62 hS61 rfl rfl rfl (by kernel_rfl) rfl rfl rfl h59 rfl rfl) ?_
                rintro a63 w64 g64 ⟨h59, F64⟩ hS63
                replace hb0 := hb0.fr F64 (fun (hm : c0 = N + 0) => by omega)
                replace hf0_list := OwS.fr hf0_list F64 (fun c' hc (hm : c' = N + 0) => by omega)
                replace hF := hF.trans F64 (fun c' (hm : c' = N + 0) => by show (c0 ≤ c' ∧ c' < c0 + 3) ∨ (r0 ≤ c' ∧ c' < r0 + 2) ∨ N ≤ c'; omega)
                refine wpList_nil (hK _ _ ?_)
                replace hS : Sl 90 _ [(0, .pointer (some ⟨b_p0, 0, none⟩)), (1, .int .i64 p1), (2, .int .u64 p2), (7, .pointer (some (ea A_list_p0 (p1.toNat * 5)))), (8, .int .u64 m0_0), (10, .pointer (some ⟨b58, 0, none⟩)), (39, .slice A_list_p0 (upd p0.list p1 ({ x7 with count := wi (x7.count - 1) } : rails_rail)).length cap_list_p0), (40, .int .i64 ((upd p0.list p1 ({ x7 with count := wi (x7.count - 1) } : rails_rail)).length : Int)), (41, .int .i64 m0_1)] := hS63.re ⟨rfl, rfl, rfl, rfl, rfl, rfl, rfl, rfl, rfl, trivial⟩
                clear hK K
                try clear hS56 hS57 hS61 hS63
                obtain ⟨a, ha⟩ : ∃ a', a' = a63 := ⟨_, rfl⟩
                rw [← ha] at hS ⊢; clear ha
                refine c_pure [(0, .pointer (some ⟨b_p0, 0, none⟩)), (1, .int .i64 p1), (2, .int .u64 p2), (7, .pointer (some (ea A_list_p0 (p1.toNat * 5)))), (8, .int .u64 m0_0), (10, .pointer (some ⟨b58, 0, none⟩)), (39, .slice A_list_p0 (upd p0.list p1 ({ x7 with count := wi (x7.count - 1) } : rails_rail)).length cap_list_p0), (40, .int .i64 ((upd p0.list p1 ({ x7 with count := wi (x7.count - 1) } : rails_rail)).length : Int)), (41, .int .i64 m0_1), (49, .bool (x54.Rail.Supply == p1))] (fun R hR => st_val hS rfl rfl rfl (r_fieldB (off := 0) hS rfl rfl (by kernel_rfl)) fun a65 hS65 => st_val hS65 rfl rfl rfl (r_fieldB (off := 0) hS65 rfl rfl (by kernel_rfl)) fun a66 hS66 => st_val hS66 rfl rfl rfl (r_load1 (n := 1) hS66 rfl rfl (by kernel_rfl) (Bx.cell h59 rfl)) fun a67 hS67 => st_val hS67 rfl rfl rfl (r_move hS67 rfl rfl) fun a68 hS68 => st_val hS68 rfl rfl rfl (r_bin hS68 rfl rfl rfl b_eql) fun a69 hS69 => wpList_nil (hR _ (hS69.re ⟨rfl, rfl, rfl, rfl, rfl, rfl, rfl, rfl, rfl, rfl, trivial⟩))) ?_
                clear hS
                clear a
                intro a hS
                refine c_cond hS rfl (fun hb70 => ?_) (fun hb70 => ?_)
                · replace H := ite_t hb70 H
                  refine c_pure1 [(0, .pointer (some ⟨b_p0, 0, none⟩)), (1, .int .i64 p1), (2, .int .u64 p2), (7, .pointer (some (ea A_list_p0 (p1.toNat * 5)))), (8, .int .u64 (max m0_0 x54.done)), (39, .slice A_list_p0 (upd p0.list p1 ({ x7 with count := wi (x7.count - 1) } : rails_rail)).length cap_list_p0), (40, .int .i64 ((upd p0.list p1 ({ x7 with count := wi (x7.count - 1) } : rails_rail)).length : Int)), (41, .int .i64 m0_1)] (fun R hR => st_val hS rfl rfl rfl (r_move hS rfl rfl) fun a71 hS71 => st_val hS71 rfl rfl rfl (r_fieldB (off := 4) hS71 rfl rfl (by kernel_rfl)) fun a72 hS72 => st_val hS72 rfl rfl rfl (r_load1 (n := 1) hS72 rfl rfl (by kernel_rfl) (Bx.cell h59 rfl)) fun a73 hS73 => st_val hS73 rfl rfl rfl (r_max hS73 rfl rfl rfl) fun a74 hS74 => st_val hS74 rfl rfl rfl (r_assign hS74 rfl rfl) fun a75 hS75 => wpList_nil (hR _ (hS75.re ⟨rfl, rfl, rfl, rfl, rfl, rfl, rfl, rfl, trivial⟩))) ?_
                  clear hS
                  clear a
                  intro a hS
                  have e := Option.some.inj H
                  subst e
                  exact ⟨g64, hS.re ⟨rfl, rfl, rfl, rfl, rfl, rfl, rfl, rfl, trivial⟩, hb0, hf0_list, hF⟩
                · replace H := ite_f hb70 H
                  refine wp_skip ?_
                  have e := Option.some.inj H
                  subst e
                  exact ⟨g64, hS.re ⟨rfl, rfl, rfl, rfl, rfl, rfl, rfl, rfl, trivial⟩, hb0, hf0_list, hF⟩
              · clear H
                clear hf0_list hb0 hF
                clear hS
                rintro a w50 ⟨g50, hS, hb0, hf0_list, hF⟩
                have H := Hl53
                clear Hl53
                refine c_pure1 [(0, .pointer (some ⟨b_p0, 0, none⟩)), (1, .int .i64 p1), (2, .int .u64 p2), (7, .pointer (some (ea A_list_p0 (p1.toNat * 5)))), (8, .int .u64 v51), (39, .slice A_list_p0 (upd p0.list p1 ({ x7 with count := wi (x7.count - 1) } : rails_rail)).length cap_list_p0), (40, .int .i64 ((upd p0.list p1 ({ x7 with count := wi (x7.count - 1) } : rails_rail)).length : Int)), (41, .int .i64 (wi (m0_1 + 1)))] (fun R hR => st_val hS rfl rfl rfl (r_bin hS rfl rfl rfl b_add) fun a76 hS76 => st_val hS76 rfl rfl rfl (r_move hS76 rfl rfl) fun a77 hS77 => wpList_nil (hR _ (hS77.re ⟨rfl, rfl, rfl, rfl, rfl, rfl, rfl, rfl, trivial⟩))) ?_
                clear hS
                clear a
                intro a hS
                refine ⟨k47, Nat.lt_succ_self _, ?_⟩
                exact ⟨v51, wi (m0_1 + 1), g50, H, hS.re ⟨rfl, rfl, rfl, rfl, rfl, rfl, rfl, rfl, trivial⟩, hb0, hf0_list, hF⟩
            · replace H := ite_f hb49 H
              refine wp_exit ?_
              have e := Option.some.inj H
              subst e
              exact ⟨g46, hS.re ⟨rfl, rfl, rfl, rfl, rfl, trivial⟩, hb0, hf0_list, hF⟩
      · clear H
        clear hf0_list hb0 hF
        clear hS
        rintro a w36 ⟨g36, hS, hb0, hf0_list, hF⟩
        have H := Hl39
        clear Hl39
        refine c_region (fun K hK => ?_)
        refine st_val hS rfl rfl rfl (r_move hS rfl rfl) fun a78 hS78 => st_val hS78 rfl rfl rfl (r_move hS78 rfl rfl) fun a79 hS79 => st_val hS79 rfl rfl rfl (r_move hS79 rfl rfl) fun a80 hS80 => st_val hS80 rfl rfl rfl (r_nil hS80 rfl rfl) fun a81 hS81 => st_val hS81 rfl rfl rfl (r_fieldE (off := 0) hS81 rfl rfl (by kernel_rfl)) fun a82 hS82 => st_val hS82 rfl rfl rfl (r_fieldE (off := 2) hS82 rfl rfl (by kernel_rfl)) fun a83 hS83 => st_val hS83 rfl rfl rfl (r_load1 (n := 1) hS83 rfl rfl (by kernel_rfl) (RdS.cell (i := p1) (sz := 5) (j := 2) (OwS.rd hf0_list) hx24 rfl)) fun a84 hS84 => st_val hS84 rfl rfl rfl (r_bin hS84 rfl rfl rfl b_add) fun a85 hS85 => st_val hS85 rfl rfl rfl (r_nil hS85 rfl rfl) fun a86 hS86 => st_val hS86 rfl rfl rfl (r_fieldE (off := 4) hS86 rfl rfl (by kernel_rfl)) fun a87 hS87 => ?_
        refine st_effS hS87 rfl rfl (e_storeE (n := 1) (bb := false) (kd := kd_rails_rail) (j := 4) (x' := ({ x23 with done := wu (v37 + x23.Rail.RampDown) } : rails_rail)) (us := [.int .u64 (wu (v37 + x23.Rail.RampDown))]) g36 hS87 rfl rfl rfl rfl (by kernel_rfl) rfl rfl (by intro v hv; simp only [List.mem_cons, List.not_mem_nil, or_false] at hv; rcases hv with rfl <;> rfl) hf0_list hx24 rfl (fun _ _ cs hR => by rw [show cs = _ from hR]; rfl)) ?_
        rintro a88 w89 g89 ⟨hf0_list, F89⟩ hS88
        replace hb0 := hb0.fr F89 (fun (hm : c0 = c0 + 1) => by omega)
        replace hF := hF.trans F89 (fun c' (hm : c' = c0 + 1) => by show (c0 ≤ c' ∧ c' < c0 + 3) ∨ (r0 ≤ c' ∧ c' < r0 + 2) ∨ N ≤ c'; omega)
        replace hb0 : Bx w89 g89 (c0) b_p0 70 [.slice A_list_p0 (upd (upd p0.list p1 ({ x7 with count := wi (x7.count - 1) } : rails_rail)) p1 ({ x23 with done := wu (v37 + x23.Rail.RampDown) } : rails_rail)).length cap_list_p0, .int .u64 p0.now] := by simpa only [upd_length] using hb0
        refine wpList_nil (hK _ _ ?_)
        replace hS : Sl 90 _ [(0, .pointer (some ⟨b_p0, 0, none⟩)), (1, .int .i64 p1), (2, .int .u64 p2), (7, .pointer (some (ea A_list_p0 (p1.toNat * 5)))), (8, .int .u64 v37)] := hS88.re ⟨rfl, rfl, rfl, rfl, rfl, trivial⟩
        clear hK K
        try clear hS78 hS79 hS80 hS81 hS82 hS83 hS84 hS85 hS86 hS87 hS88
        obtain ⟨a, ha⟩ : ∃ a', a' = a88 := ⟨_, rfl⟩
        rw [← ha] at hS ⊢; clear ha
        obtain ⟨x95, hx96, H⟩ := bind_el H
        refine c_region (fun K hK => ?_)
        refine st_val hS rfl rfl rfl (r_move hS rfl rfl) fun a90 hS90 => st_val hS90 rfl rfl rfl (r_move hS90 rfl rfl) fun a91 hS91 => st_val hS91 rfl rfl rfl (r_move hS91 rfl rfl) fun a92 hS92 => st_val hS92 rfl rfl rfl (r_nil hS92 rfl rfl) fun a93 hS93 => st_val hS93 rfl rfl rfl (r_fieldE (off := 4) hS93 rfl rfl (by kernel_rfl)) fun a94 hS94 => st_val hS94 rfl rfl rfl (r_load1 (n := 1) hS94 rfl rfl (by kernel_rfl) (RdS.cell (i := p1) (sz := 5) (j := 4) (OwS.rd hf0_list) hx96 rfl)) fun a97 hS97 => st_val hS97 rfl rfl rfl (r_build (parts := [(0, .int .i64 p1), (2, .int .u64 v37), (3, .int .u64 x95.done)]) (u := .agg #[.int .i64 p1, .bool false, .int .u64 v37, .int .u64 x95.done]) hS97 rfl rfl (fun _ => by kernel_rfl)) fun a98 hS98 => ?_
        refine st_eff hS98 rfl rfl rfl (e_lit (e := 50) (parts := [(0, .agg #[.int .i64 p1, .bool false, .int .u64 v37, .int .u64 x95.done])]) (cs := [.int .i64 p1, .bool false, .int .u64 v37, .int .u64 x95.done]) kd_api_RailOp [(api_RailOp.mk p1 false v37 x95.done)] (N + 2) g89 hS98 rfl rfl (fun _ => by kernel_rfl) rfl (by decide) (Rows.cons (cs := [.int .i64 p1, .bool false, .int .u64 v37, .int .u64 x95.done]) rfl Rows.nil)) ?_
        rintro _ a102 w103 g103 ⟨⟨A99, rfl, h100⟩, F103⟩ hS102
        replace hb0 := hb0.fr F103 (fun h => h)
        replace hf0_list := OwS.fr hf0_list F103 (fun _ _ h => h)
        replace hF := hF.trans F103 (fun _ h => h.elim)
        refine st_val hS102 rfl rfl rfl (r_assign hS102 rfl rfl) fun a104 hS104 => wpList_nil (hK _ _ ?_)
        replace hS : Sl 90 _ [(0, .pointer (some ⟨b_p0, 0, none⟩)), (2, .int .u64 p2), (7, .pointer (some (ea A_list_p0 (p1.toNat * 5)))), (11, .slice A99 [(api_RailOp.mk p1 false v37 x95.done)].length 1)] := hS104.re ⟨rfl, rfl, rfl, rfl, trivial⟩
        clear hK K
        try clear hS90 hS91 hS92 hS93 hS94 hS97 hS98 hS102 hS104
        obtain ⟨a, ha⟩ : ∃ a', a' = a104 := ⟨_, rfl⟩
        rw [← ha] at hS ⊢; clear ha
        obtain ⟨v109, H, Hl111⟩ := bind_el H
        refine c_cut (fun a w105 => ∃ (g105 : Nat → Nat), ∃ (A106 : Option Addr), ∃ (cap107 : Nat), Sl 90 a [(11, .slice A106 v109.1.length cap107)] ∧ OwS kd_api_RailOp 50 w105 g105 (N + 2) A106 cap107 v109.1 ∧ Bx w105 g105 (c0) b_p0 70 [.slice A_list_p0 v109.2.list.length cap_list_p0, .int .u64 v109.2.now] ∧ OwS kd_rails_rail 75 w105 g105 (c0 + 1) A_list_p0 cap_list_p0 v109.2.list ∧ Fr (fun q => (c0 ≤ q ∧ q < c0 + 3) ∨ (r0 ≤ q ∧ q < r0 + 2) ∨ N ≤ q) w g w105 g105) ?_ ?_
        · refine c_pure [(0, .pointer (some ⟨b_p0, 0, none⟩)), (2, .int .u64 p2), (7, .pointer (some (ea A_list_p0 (p1.toNat * 5)))), (11, .slice A99 [(api_RailOp.mk p1 false v37 x95.done)].length 1), (78, .bool (decide (0 ≤ x95.Rail.Supply)))] (fun R hR => st_val hS rfl rfl rfl (r_move hS rfl rfl) fun a112 hS112 => st_val hS112 rfl rfl rfl (r_nil hS112 rfl rfl) fun a113 hS113 => st_val hS113 rfl rfl rfl (r_fieldE (off := 0) hS113 rfl rfl (by kernel_rfl)) fun a114 hS114 => st_val hS114 rfl rfl rfl (r_fieldE (off := 0) hS114 rfl rfl (by kernel_rfl)) fun a115 hS115 => st_val hS115 rfl rfl rfl (r_load1 (n := 1) hS115 rfl rfl (by kernel_rfl) (RdS.cell (i := p1) (sz := 5) (j := 0) (OwS.rd hf0_list) hx96 rfl)) fun a116 hS116 => st_val hS116 rfl rfl rfl (r_bin hS116 rfl rfl rfl b_geq) fun a117 hS117 => wpList_nil (hR _ (hS117.re ⟨rfl, rfl, rfl, rfl, rfl, trivial⟩))) ?_
          clear hS
          clear a
          intro a hS
          refine c_cond hS rfl (fun hb118 => ?_) (fun hb118 => ?_)
          · replace H := ite_t hb118 H
            obtain ⟨r127, hr128, H⟩ := bind_el H
            obtain ⟨y135, hy136, H⟩ := bind_el H
            refine c_region1 (fun K hK => ?_)
            refine st_val hS rfl rfl rfl (r_move hS rfl rfl) fun a119 hS119 => st_val hS119 rfl rfl rfl (r_move hS119 rfl rfl) fun a120 hS120 => st_val hS120 rfl rfl rfl (r_move hS120 rfl rfl) fun a121 hS121 => st_val hS121 rfl rfl rfl (r_nil hS121 rfl rfl) fun a122 hS122 => st_val hS122 rfl rfl rfl (r_fieldE (off := 0) hS122 rfl rfl (by kernel_rfl)) fun a123 hS123 => st_val hS123 rfl rfl rfl (r_fieldE (off := 0) hS123 rfl rfl (by kernel_rfl)) fun a124 hS124 => st_val hS124 rfl rfl rfl (r_load1 (n := 1) hS124 rfl rfl (by kernel_rfl) (RdS.cell (i := p1) (sz := 5) (j := 0) (OwS.rd hf0_list) hx96 rfl)) fun a125 hS125 => st_val hS125 rfl rfl rfl (r_move hS125 rfl rfl) fun a126 hS126 => ?_
            refine st_enter hS126 rfl rfl rfl (r_call hS126 rfl rfl (by kernel_rfl)) (ih (c0 := c0) (b_p0 := b_p0) (A_list_p0 := A_list_p0) (cap_list_p0 := cap_list_p0) (p0 := (rails_Rails.mk (upd (upd p0.list p1 ({ x7 with count := wi (x7.count - 1) } : rails_rail)) p1 ({ x23 with done := wu (v37 + x23.Rail.RampDown) } : rails_rail)) p0.now)) (p1 := x95.Rail.Supply) (p2 := p2) (g := g103) (N + 6) (N + 4) ⟨hb0, hf0_list⟩ (by omega) (by omega) (by omega) hr128) ?_
            rintro _ a133 w134 ⟨g134, A129, cap130, rfl, ⟨hb0, hf0_list⟩, h131, F134⟩ hS133
            replace h100 := OwS.fr h100 F134 (fun c' hc (hm : (c0 ≤ c' ∧ c' < c0 + 3) ∨ (N + 4 ≤ c' ∧ c' < N + 4 + 2) ∨ N + 6 ≤ c') => by omega)
            replace hF := hF.trans F134 (fun c' (hm : (c0 ≤ c' ∧ c' < c0 + 3) ∨ (N + 4 ≤ c' ∧ c' < N + 4 + 2) ∨ N + 6 ≤ c') => by show (c0 ≤ c' ∧ c' < c0 + 3) ∨ (r0 ≤ c' ∧ c' < r0 + 2) ∨ N ≤ c'; omega)
            refine st_eff hS133 rfl rfl rfl (e_append (e := 50) (sz := 4) (by_ := 32) (z := [.int .i64 0, .bool false, .int .u64 0, .int .u64 0]) (kd := kd_api_RailOp) g134 hS133 rfl rfl rfl rfl (by kernel_rfl) (by kernel_rfl) rfl rfl rfl rfl h100 (OwD.rdx h131) (fun _ _ _ h => h) hy136) ?_
            rintro _ a141 w142 g142 ⟨⟨A137, cap138, rfl, h139⟩, F142⟩ hS141
            replace h131 := OwS.fr h131 F142 (fun c' hc (hm : c' = N + 2) => by omega)
            replace hb0 := hb0.fr F142 (fun (hm : c0 = N + 2) => by omega)
            replace hf0_list := OwS.fr hf0_list F142 (fun c' hc (hm : c' = N + 2) => by omega)
            replace hF := hF.trans F142 (fun c' (hm : c' = N + 2) => by show (c0 ≤ c' ∧ c' < c0 + 3) ∨ (r0 ≤ c' ∧ c' < r0 + 2) ∨ N ≤ c'; omega)
            refine st_val hS141 rfl rfl rfl (r_assign hS141 rfl rfl) fun a143 hS143 => wpList_nil (hK _ _ ?_)
            replace hS : Sl 90 _ [(11, .slice A137 y135.length cap138)] := hS143.re ⟨rfl, trivial⟩
            clear hK K
            try clear hS119 hS120 hS121 hS122 hS123 hS124 hS125 hS126 hS133 hS141 hS143
            obtain ⟨a, ha⟩ : ∃ a', a' = a143 := ⟨_, rfl⟩
            rw [← ha] at hS ⊢; clear ha
            have e := Option.some.inj H
            subst e
            exact ⟨g142, A137, cap138, hS.re ⟨rfl, trivial⟩, h139, hb0, hf0_list, hF⟩
          · replace H := ite_f hb118 H
            refine wp_skip ?_
            have e := Option.some.inj H
            subst e
            exact ⟨g103, A99, 1, hS.re ⟨rfl, trivial⟩, h100, hb0, hf0_list, hF⟩
        · clear H
          clear hf0_list hb0 h100 hF
          clear hS
          rintro a w105 ⟨g105, A106, cap107, hS, h108, hb0, hf0_list, hF⟩
          have H := Hl111
          clear Hl111
          refine c_pure [(6, .slice A106 v109.1.length cap107)] (fun R hR => st_val hS rfl rfl rfl (r_move hS rfl rfl) fun a144 hS144 => st_val hS144 rfl rfl rfl (r_assign hS144 rfl rfl) fun a145 hS145 => wpList_nil (hR _ (hS145.re ⟨rfl, trivial⟩))) ?_
          clear hS
          clear a
          intro a hS
          refine wp_ret ?_
          have e := Option.some.inj H
          subst e
          have F146 := Fr.recol2 w105 g105 (N + 2) r0
          replace h108 := h108.recol2 r0
          replace hb0 := hb0.fr F146 (fun (hm : c0 = N + 2 ∨ c0 = N + 2 + 1) => by omega)
          replace hf0_list := OwS.fr hf0_list F146 (fun c' hc (hm : c' = N + 2 ∨ c' = N + 2 + 1) => by omega)
          replace hF := hF.trans F146 (fun c' (hm : c' = N + 2 ∨ c' = N + 2 + 1) => by show (c0 ≤ c' ∧ c' < c0 + 3) ∨ (r0 ≤ c' ∧ c' < r0 + 2) ∨ N ≤ c'; omega)
          repeat (with_reducible first | refine then_ret ?_ | refine inBlock_ret ?_)
          exact c_ret1 hS Try.results41 rfl ⟨_, rfl, (recol2 g105 (N + 2) r0), A106, cap107, rfl, ⟨hb0, hf0_list⟩, h108, hF⟩
theorem rails_Rails_off.calls {p0 : rails_Rails} {c0 : Nat}  {b_p0 : Nat} {A_list_p0 : Option Addr} {cap_list_p0 : Nat} {p1 : Int} {p2 : Int} {w : World} {g : Nat → Nat} {out : rails_Rails × (List api_RailOp)} (N : Nat) (r0 : Nat) (hp0 : rails_Rails_At w g c0 b_p0 A_list_p0 cap_list_p0 p0) (hc0 : c0 + 3 ≤ N) (hr0 : r0 + 2 ≤ N) (hq0_0 : r0 + 2 ≤ c0 ∨ c0 + 3 ≤ r0) (H : rails_Rails_off.f p0 p1 p2 = some out) :
    Calls Try.prog 41 #[.pointer (some ⟨b_p0, 0, none⟩), .int .i64 p1, .int .u64 p2] w (fun e w' => ∃ v, e = .returned v ∧ ∃ (g' : Nat → Nat) (A_r0 : Option Addr) (cap_r0 : Nat), v = .slice A_r0 out.2.length cap_r0 ∧ rails_Rails_At w' g' c0 b_p0 A_list_p0 cap_list_p0 out.1 ∧ OwS kd_api_RailOp 50 w' g' r0 A_r0 cap_r0 out.2 ∧ Fr (fun q => (c0 ≤ q ∧ q < c0 + 3) ∨ (r0 ≤ q ∧ q < r0 + 2) ∨ N ≤ q) w g w' g') :=
  rails_Rails_off.calls_r FUEL N r0 hp0 hc0 hr0 hq0_0 H

/-! ### rails_Rails_Release: function 32 -/
def rails_Rails_Release.f (p0 : rails_Rails) (p1 : Int) (p2 : Int) : Option (rails_Rails × (List api_RailOp) × Int) := (rails_Rails_check.f p0 p1 p2).bind fun r6 => if (!r6) = true then (some (p0, [], 1)) else ((rails_Rails_own.f p0 p1).bind fun r17 => if (r17 == 0) = true then (some (p0, [], 9)) else ((rails_Rails_off.f (rails_Rails.mk p0.list p2) p1 p2).bind fun r35 => some (r35.1, r35.2, 0)))
set_option maxRecDepth 100000 in
set_option maxHeartbeats 4000000 in
theorem rails_Rails_Release.calls {p0 : rails_Rails} {c0 : Nat}  {b_p0 : Nat} {A_list_p0 : Option Addr} {cap_list_p0 : Nat} {p1 : Int} {p2 : Int} {w : World} {g : Nat → Nat} {out : rails_Rails × (List api_RailOp) × Int} (N : Nat) (r0 : Nat) (hp0 : rails_Rails_At w g c0 b_p0 A_list_p0 cap_list_p0 p0) (hc0 : c0 + 3 ≤ N) (hr0 : r0 + 2 ≤ N) (hq0_0 : r0 + 2 ≤ c0 ∨ c0 + 3 ≤ r0) (H : rails_Rails_Release.f p0 p1 p2 = some out) :
    Calls Try.prog 32 #[.pointer (some ⟨b_p0, 0, none⟩), .int .i64 p1, .int .u64 p2] w (fun e w' => ∃ v, e = .returned v ∧ ∃ (g' : Nat → Nat) (A_r0 : Option Addr) (cap_r0 : Nat), v = .tuple #[.slice A_r0 out.2.1.length cap_r0, .int .i64 out.2.2] ∧ rails_Rails_At w' g' c0 b_p0 A_list_p0 cap_list_p0 out.1 ∧ OwS kd_api_RailOp 50 w' g' r0 A_r0 cap_r0 out.2.1 ∧ Fr (fun q => (c0 ≤ q ∧ q < c0 + 3) ∨ (r0 ≤ q ∧ q < r0 + 2) ∨ N ≤ q) w g w' g') := by
  unfold rails_Rails_Release.f at H
  refine calls_enter Try.func32 rfl Try.ntmps32 rfl (fun a hS => ?_)
  replace hS : Sl 27 a [(0, .pointer (some ⟨b_p0, 0, none⟩)), (1, .int .i64 p1), (2, .int .u64 p2)] := hS
  have hF : Fr (fun q => (c0 ≤ q ∧ q < c0 + 3) ∨ (r0 ≤ q ∧ q < r0 + 2) ∨ N ≤ q) w g w g := Fr.refl _ _ _
  obtain ⟨hb0, hf0_list⟩ := hp0
  refine c_pure [(0, .pointer (some ⟨b_p0, 0, none⟩)), (1, .int .i64 p1), (2, .int .u64 p2)] (fun R hR => st_val hS rfl rfl rfl (r_assign hS rfl rfl) fun a1 hS1 => st_val hS1 rfl rfl rfl (r_assign hS1 rfl rfl) fun a2 hS2 => wpList_nil (hR _ (hS2.re ⟨rfl, rfl, rfl, trivial⟩))) ?_
  clear hS
  clear a
  intro a hS
  refine wp_seq ?_
  refine wp_block ?_
  obtain ⟨r6, hr7, H⟩ := bind_el H
  refine c_region (fun K hK => ?_)
  refine st_val hS rfl rfl rfl (r_move hS rfl rfl) fun a3 hS3 => st_val hS3 rfl rfl rfl (r_move hS3 rfl rfl) fun a4 hS4 => st_val hS4 rfl rfl rfl (r_move hS4 rfl rfl) fun a5 hS5 => ?_
  refine st_enter hS5 rfl rfl rfl (r_call hS5 rfl rfl (by kernel_rfl)) (rails_Rails_check.calls (c0 := c0) (b_p0 := b_p0) (A_list_p0 := A_list_p0) (cap_list_p0 := cap_list_p0) (p0 := p0) (p1 := p1) (p2 := p2) (g := g) (N + 2)  ⟨hb0, hf0_list⟩ (by omega) hr7) ?_
  rintro _ a8 w9 ⟨g9, rfl, F9⟩ hS8
  replace hb0 := hb0.fr F9 (fun (hm : N + 2 ≤ c0) => by omega)
  replace hf0_list := OwS.fr hf0_list F9 (fun c' hc (hm : N + 2 ≤ c') => by omega)
  replace hF := hF.trans F9 (fun c' (hm : N + 2 ≤ c') => by show (c0 ≤ c' ∧ c' < c0 + 3) ∨ (r0 ≤ c' ∧ c' < r0 + 2) ∨ N ≤ c'; omega)
  refine st_val hS8 rfl rfl rfl (r_not hS8 rfl rfl) fun a10 hS10 => st_val hS10 rfl rfl rfl (r_assign hS10 rfl rfl) fun a11 hS11 => wpList_nil (hK _ _ ?_)
  replace hS : Sl 27 _ [(0, .pointer (some ⟨b_p0, 0, none⟩)), (1, .int .i64 p1), (2, .int .u64 p2), (8, .bool (!r6))] := hS11.re ⟨rfl, rfl, rfl, rfl, trivial⟩
  clear hK K
  try clear hS3 hS4 hS5 hS8 hS10 hS11
  obtain ⟨a, ha⟩ : ∃ a', a' = a11 := ⟨_, rfl⟩
  rw [← ha] at hS ⊢; clear ha
  refine c_cond hS rfl (fun hb12 => ?_) (fun hb12 => ?_)
  · replace H := ite_t hb12 H
    refine c_pure [(6, .slice none 0 0), (7, .int .i64 1)] (fun R hR => st_val hS rfl rfl rfl (r_assign hS rfl rfl) fun a13 hS13 => st_val hS13 rfl rfl rfl (r_assign hS13 rfl rfl) fun a14 hS14 => wpList_nil (hR _ (hS14.re ⟨rfl, rfl, trivial⟩))) ?_
    clear hS
    clear a
    intro a hS
    refine wp_ret ?_
    have e := Option.some.inj H
    subst e
    repeat (with_reducible first | refine then_ret ?_ | refine inBlock_ret ?_)
    exact c_ret2 hS Try.results32 rfl rfl ⟨_, rfl, g9, none, 0, rfl, ⟨hb0, hf0_list⟩, OwS.nil kd_api_RailOp 50 w9 g9 r0, hF⟩
  · replace H := ite_f hb12 H
    obtain ⟨r17, hr18, H⟩ := bind_el H
    refine c_region (fun K hK => ?_)
    refine st_val hS rfl rfl rfl (r_move hS rfl rfl) fun a15 hS15 => st_val hS15 rfl rfl rfl (r_move hS15 rfl rfl) fun a16 hS16 => ?_
    refine st_enter hS16 rfl rfl rfl (r_call hS16 rfl rfl (by kernel_rfl)) (rails_Rails_own.calls (c0 := c0) (b_p0 := b_p0) (A_list_p0 := A_list_p0) (cap_list_p0 := cap_list_p0) (p0 := p0) (p1 := p1) (g := g9) (N + 2)  ⟨hb0, hf0_list⟩ (by omega) hr18) ?_
    rintro _ a19 w20 ⟨g20, rfl, F20⟩ hS19
    replace hb0 := hb0.fr F20 (fun (hm : N + 2 ≤ c0) => by omega)
    replace hf0_list := OwS.fr hf0_list F20 (fun c' hc (hm : N + 2 ≤ c') => by omega)
    replace hF := hF.trans F20 (fun c' (hm : N + 2 ≤ c') => by show (c0 ≤ c' ∧ c' < c0 + 3) ∨ (r0 ≤ c' ∧ c' < r0 + 2) ∨ N ≤ c'; omega)
    refine st_val hS19 rfl rfl rfl (r_bin hS19 rfl rfl rfl b_eql) fun a21 hS21 => st_val hS21 rfl rfl rfl (r_assign hS21 rfl rfl) fun a22 hS22 => wpList_nil (hK _ _ ?_)
    replace hS : Sl 27 _ [(0, .pointer (some ⟨b_p0, 0, none⟩)), (1, .int .i64 p1), (2, .int .u64 p2), (14, .bool (r17 == 0))] := hS22.re ⟨rfl, rfl, rfl, rfl, trivial⟩
    clear hK K
    try clear hS15 hS16 hS19 hS21 hS22
    obtain ⟨a, ha⟩ : ∃ a', a' = a22 := ⟨_, rfl⟩
    rw [← ha] at hS ⊢; clear ha
    refine c_cond hS rfl (fun hb23 => ?_) (fun hb23 => ?_)
    · replace H := ite_t hb23 H
      refine c_pure [(6, .slice none 0 0), (7, .int .i64 9)] (fun R hR => st_val hS rfl rfl rfl (r_assign hS rfl rfl) fun a24 hS24 => st_val hS24 rfl rfl rfl (r_assign hS24 rfl rfl) fun a25 hS25 => wpList_nil (hR _ (hS25.re ⟨rfl, rfl, trivial⟩))) ?_
      clear hS
      clear a
      intro a hS
      refine wp_ret ?_
      have e := Option.some.inj H
      subst e
      repeat (with_reducible first | refine then_ret ?_ | refine inBlock_ret ?_)
      exact c_ret2 hS Try.results32 rfl rfl ⟨_, rfl, g20, none, 0, rfl, ⟨hb0, hf0_list⟩, OwS.nil kd_api_RailOp 50 w20 g20 r0, hF⟩
    · replace H := ite_f hb23 H
      refine wp_skip ?_
      change Code.wp _ _ _ _ _
      refine c_region (fun K hK => ?_)
      refine st_val hS rfl rfl rfl (r_move hS rfl rfl) fun a26 hS26 => st_val hS26 rfl rfl rfl (r_move hS26 rfl rfl) fun a27 hS27 => st_val hS27 rfl rfl rfl (r_nil hS27 rfl rfl) fun a28 hS28 => st_val hS28 rfl rfl rfl (r_fieldB (off := 1) hS28 rfl rfl (by kernel_rfl)) fun a29 hS29 => ?_
      refine st_effS hS29 rfl rfl (e_storeB (n := 1) (bb := false) (cs' := [.slice A_list_p0 p0.list.length cap_list_p0, .int .u64 p2]) g20 hS29 rfl rfl rfl (by kernel_rfl) rfl rfl rfl hb0 rfl rfl) ?_
      rintro a30 w31 g31 ⟨hb0, F31⟩ hS30
      replace hf0_list := OwS.fr hf0_list F31 (fun c' hc (hm : c' = c0) => by omega)
      replace hF := hF.trans F31 (fun c' (hm : c' = c0) => by show (c0 ≤ c' ∧ c' < c0 + 3) ∨ (r0 ≤ c' ∧ c' < r0 + 2) ∨ N ≤ c'; omega)
      refine wpList_nil (hK _ _ ?_)
      replace hS : Sl 27 _ [(0, .pointer (some ⟨b_p0, 0, none⟩)), (1, .int .i64 p1), (2, .int .u64 p2)] := hS30.re ⟨rfl, rfl, rfl, trivial⟩
      clear hK K
      try clear hS26 hS27 hS28 hS29 hS30
      obtain ⟨a, ha⟩ : ∃ a', a' = a30 := ⟨_, rfl⟩
      rw [← ha] at hS ⊢; clear ha
      obtain ⟨r35, hr36, H⟩ := bind_el H
      refine c_region (fun K hK => ?_)
      refine st_val hS rfl rfl rfl (r_move hS rfl rfl) fun a32 hS32 => st_val hS32 rfl rfl rfl (r_move hS32 rfl rfl) fun a33 hS33 => st_val hS33 rfl rfl rfl (r_move hS33 rfl rfl) fun a34 hS34 => ?_
      refine st_enter hS34 rfl rfl rfl (r_call hS34 rfl rfl (by kernel_rfl)) (rails_Rails_off.calls (c0 := c0) (b_p0 := b_p0) (A_list_p0 := A_list_p0) (cap_list_p0 := cap_list_p0) (p0 := (rails_Rails.mk p0.list p2)) (p1 := p1) (p2 := p2) (g := g31) (N + 2) (N + 0) ⟨hb0, hf0_list⟩ (by omega) (by omega) (by omega) hr36) ?_
      rintro _ a41 w42 ⟨g42, A37, cap38, rfl, ⟨hb0, hf0_list⟩, h39, F42⟩ hS41
      replace hF := hF.trans F42 (fun c' (hm : (c0 ≤ c' ∧ c' < c0 + 3) ∨ (N + 0 ≤ c' ∧ c' < N + 0 + 2) ∨ N + 2 ≤ c') => by show (c0 ≤ c' ∧ c' < c0 + 3) ∨ (r0 ≤ c' ∧ c' < r0 + 2) ∨ N ≤ c'; omega)
      refine st_val hS41 rfl rfl rfl (r_assign hS41 rfl rfl) fun a43 hS43 => st_val hS43 rfl rfl rfl (r_assign hS43 rfl rfl) fun a44 hS44 => wpList_nil (hK _ _ ?_)
      replace hS : Sl 27 _ [(6, .slice A37 r35.2.length cap38), (7, .int .i64 0)] := hS44.re ⟨rfl, rfl, trivial⟩
      clear hK K
      try clear hS32 hS33 hS34 hS41 hS43 hS44
      obtain ⟨a, ha⟩ : ∃ a', a' = a44 := ⟨_, rfl⟩
      rw [← ha] at hS ⊢; clear ha
      refine wp_ret ?_
      have e := Option.some.inj H
      subst e
      have F45 := Fr.recol2 w42 g42 (N + 0) r0
      replace h39 := h39.recol2 r0
      replace hb0 := hb0.fr F45 (fun (hm : c0 = N + 0 ∨ c0 = N + 0 + 1) => by omega)
      replace hf0_list := OwS.fr hf0_list F45 (fun c' hc (hm : c' = N + 0 ∨ c' = N + 0 + 1) => by omega)
      replace hF := hF.trans F45 (fun c' (hm : c' = N + 0 ∨ c' = N + 0 + 1) => by show (c0 ≤ c' ∧ c' < c0 + 3) ∨ (r0 ≤ c' ∧ c' < r0 + 2) ∨ N ≤ c'; omega)
      repeat (with_reducible first | refine then_ret ?_ | refine inBlock_ret ?_)
      exact c_ret2 hS Try.results32 rfl rfl ⟨_, rfl, (recol2 g42 (N + 0) r0), A37, cap38, rfl, ⟨hb0, hf0_list⟩, h39, hF⟩

/-! ### help_Equal_api_RailOp: function 19 -/
def help_Equal_api_RailOp.l0 (p0 : List api_RailOp) (p1 : List api_RailOp) : Nat → Int → Option (Fl (Bool) (Unit))
  | 0, _ => none
  | k15 + 1, m0_0 => if decide (m0_0 < (p0.length : Int)) = true then ((idx p0 m0_0).bind fun x24 => (idx p1 m0_0).bind fun x30 => if (!decide (x24 = x30)) = true then (some (.out false)) else (help_Equal_api_RailOp.l0 p0 p1 k15 (wi (m0_0 + 1)))) else (some (.nxt ()))
def help_Equal_api_RailOp.f (p0 : List api_RailOp) (p1 : List api_RailOp) : Option (Bool) := if ((p0.length : Int) != (p1.length : Int)) = true then (some false) else ((help_Equal_api_RailOp.l0 p0 p1 FUEL 0 : Option (Fl (Bool) (Unit))).bind fun o11 => o11.go fun _ => some true)
set_option maxRecDepth 100000 in
set_option maxHeartbeats 4000000 in
theorem help_Equal_api_RailOp.calls {p0 : List api_RailOp} {A0 : Option Addr} {cap0 : Nat} {C0 : Nat → Prop} {p1 : List api_RailOp} {A1 : Option Addr} {cap1 : Nat} {C1 : Nat → Prop} {w : World} {g : Nat → Nat} {out : Bool} (N : Nat) (hp0 : RdS kd_api_RailOp w g C0 A0 cap0 p0) (hC0 : ∀ c, C0 c → c < N) (hp1 : RdS kd_api_RailOp w g C1 A1 cap1 p1) (hC1 : ∀ c, C1 c → c < N) (H : help_Equal_api_RailOp.f p0 p1 = some out) :
    Calls Try.prog 19 #[.slice A0 p0.length cap0, .slice A1 p1.length cap1] w (fun e w' => ∃ v, e = .returned v ∧ ∃ (g' : Nat → Nat), v = .bool out ∧ Fr (fun q => N ≤ q) w g w' g') := by
  unfold help_Equal_api_RailOp.f at H
  refine calls_enter Try.func19 rfl Try.ntmps19 rfl (fun a hS => ?_)
  replace hS : Sl 26 a [(0, .slice A0 p0.length cap0), (1, .slice A1 p1.length cap1)] := hS
  have hF : Fr (fun q => N ≤ q) w g w g := Fr.refl _ _ _
  refine c_pure [(0, .slice A0 p0.length cap0), (1, .slice A1 p1.length cap1)] (fun R hR => st_val hS rfl rfl rfl (r_assign hS rfl rfl) fun a1 hS1 => wpList_nil (hR _ (hS1.re ⟨rfl, rfl, trivial⟩))) ?_
  clear hS
  clear a
  intro a hS
  refine wp_seq ?_
  refine c_pure [(0, .slice A0 p0.length cap0), (1, .slice A1 p1.length cap1), (10, .bool ((p0.length : Int) != (p1.length : Int)))] (fun R hR => st_val hS rfl rfl rfl (r_move hS rfl rfl) fun a2 hS2 => st_val hS2 rfl rfl rfl (r_len (e := 50) (sz := 4) (by_ := 32) hS2 rfl rfl (by kernel_rfl)) fun a3 hS3 => st_val hS3 rfl rfl rfl (r_move hS3 rfl rfl) fun a4 hS4 => st_val hS4 rfl rfl rfl (r_len (e := 50) (sz := 4) (by_ := 32) hS4 rfl rfl (by kernel_rfl)) fun a5 hS5 => st_val hS5 rfl rfl rfl (r_bin hS5 rfl rfl rfl b_neq) fun a6 hS6 => wpList_nil (hR _ (hS6.re ⟨rfl, rfl, rfl, trivial⟩))) ?_
  clear hS
  clear a
  intro a hS
  refine c_cond hS rfl (fun hb7 => ?_) (fun hb7 => ?_)
  · replace H := ite_t hb7 H
    refine c_pure [(4, .bool false)] (fun R hR => st_val hS rfl rfl rfl (r_assign hS rfl rfl) fun a8 hS8 => wpList_nil (hR _ (hS8.re ⟨rfl, trivial⟩))) ?_
    clear hS
    clear a
    intro a hS
    refine wp_ret ?_
    have e := Option.some.inj H
    subst e
    repeat (with_reducible first | refine then_ret ?_ | refine inBlock_ret ?_)
    exact c_ret1 hS Try.results19 rfl ⟨_, rfl, g, rfl, hF⟩
  · replace H := ite_f hb7 H
    refine wp_skip ?_
    change Code.wp _ _ _ _ _
    obtain ⟨o11, H, Hl12⟩ := bind_el H
    refine c_cut (fun a w9 => ∃ (g9 : Nat → Nat), o11 = .nxt () ∧ Sl 26 a [] ∧ Fr (fun q => N ≤ q) w g w9 g9) ?_ ?_
    · refine c_pure [(0, .slice A0 p0.length cap0), (1, .slice A1 p1.length cap1), (5, .int .i64 0)] (fun R hR => st_val hS rfl rfl rfl (r_assign hS rfl rfl) fun a13 hS13 => wpList_nil (hR _ (hS13.re ⟨rfl, rfl, rfl, trivial⟩))) ?_
      clear hS
      clear a
      intro a hS
      refine wp_block ?_
      refine wp_loop_ghost (fun kq => fun a w14 => ∃ (m0_0 : Int), ∃ (g14 : Nat → Nat), help_Equal_api_RailOp.l0 p0 p1 kq m0_0 = some o11 ∧ Sl 26 a [(0, .slice A0 p0.length cap0), (1, .slice A1 p1.length cap1), (5, .int .i64 m0_0)] ∧ RdS kd_api_RailOp w14 g14 C0 A0 cap0 p0 ∧ RdS kd_api_RailOp w14 g14 C1 A1 cap1 p1 ∧ Fr (fun q => N ≤ q) w g w14 g14) FUEL ?_ ?_
      · exact ⟨0, g, H, hS.re ⟨rfl, rfl, rfl, trivial⟩, hp0, hp1, hF⟩
      · clear H
        clear hp0 hp1 hF
        clear hS
        rintro k15 a w14 ⟨m0_0, g14, hpre0, hS, hp0, hp1, hF⟩
        have H := hpre0
        clear hpre0
        cases k15 with
        | zero => exact absurd H (by simp [help_Equal_api_RailOp.l0])
        | succ k15 =>
          rw [help_Equal_api_RailOp.l0] at H
          refine wp_seq ?_
          refine c_pure [(0, .slice A0 p0.length cap0), (1, .slice A1 p1.length cap1), (5, .int .i64 m0_0), (14, .bool (decide (m0_0 < (p0.length : Int))))] (fun R hR => st_val hS rfl rfl rfl (r_move hS rfl rfl) fun a16 hS16 => st_val hS16 rfl rfl rfl (r_move hS16 rfl rfl) fun a17 hS17 => st_val hS17 rfl rfl rfl (r_len (e := 50) (sz := 4) (by_ := 32) hS17 rfl rfl (by kernel_rfl)) fun a18 hS18 => st_val hS18 rfl rfl rfl (r_bin hS18 rfl rfl rfl b_lss) fun a19 hS19 => wpList_nil (hR _ (hS19.re ⟨rfl, rfl, rfl, rfl, trivial⟩))) ?_
          clear hS
          clear a
          intro a hS
          refine c_cond hS rfl (fun hb20 => ?_) (fun hb20 => ?_)
          · replace H := ite_t hb20 H
            refine wp_skip ?_
            change Code.wp _ _ _ _ _
            refine wp_seq ?_
            refine wp_block ?_
            obtain ⟨x24, hx25, H⟩ := bind_el H
            obtain ⟨x30, hx31, H⟩ := bind_el H
            refine c_draw (fun K hK => d_start (fun q => False) g14 [] 9 #[false, false, false, false, false, false, false, false, false] (by kernel_rfl) rfl rfl (fun w21 hw21 => ?_))
            have F21 : Fr (fun _ => False) w14 g14 w21 g14 := by rw [hw21]; exact Fr.drew _ _ _
            replace hp0 := RdS.fr hp0 F21 (by decide) (fun _ _ h => h)
            replace hp1 := RdS.fr hp1 F21 (by decide) (fun _ _ h => h)
            replace hF := hF.trans F21 (fun _ h => h.elim)
            have hC : Fr (fun q => False) w21 g14 w21 g14 := Fr.refl _ _ _
            refine d_pure hS 0 #[true, false, false, false, false, false, false, false, false] rfl rfl rfl rfl (by kernel_rfl) (fun _ _ _ h => h) (fun _ => (r_move hS rfl rfl)) fun a22 hS22 => d_pure hS22 1 #[true, true, false, false, false, false, false, false, false] rfl rfl rfl rfl (by kernel_rfl) (fun _ _ _ h => h) (fun _ => (r_move hS22 rfl rfl)) fun a23 hS23 => d_pure hS23 2 #[true, true, true, false, false, false, false, false, false] rfl rfl rfl rfl (by kernel_rfl) (fun _ _ _ h => h) (fun _ => (r_index (e := 50) (sz := 4) (by_ := 32) hS23 rfl rfl rfl (by kernel_rfl) (RdS.some_ hp0 hx25) (idx_lo hx25) (idx_hi hx25))) fun a26 hS26 => d_take hS26 3 #[true, true, true, true, false, false, false, false, false] rfl rfl rfl rfl (by kernel_rfl) (fun _ _ _ h => h) ⟨_, hC⟩ (fun w' g' Fz => (r_loadN (n := 4) (cs := [.int .i64 x24.Rail, .bool x24.On, .int .u64 x24.Start, .int .u64 x24.Done]) hS26 rfl rfl (by kernel_rfl) rfl (RdS.cells_off (RdS.fr hp0 Fz (by decide) (fun _ _ h => h)) hx25 0 4))) fun a27 hS27 => d_pure hS27 4 #[true, true, true, true, true, false, false, false, false] rfl rfl rfl rfl (by kernel_rfl) (fun _ _ _ h => h) (fun _ => (r_move hS27 rfl rfl)) fun a28 hS28 => d_pure hS28 5 #[true, true, true, true, true, true, false, false, false] rfl rfl rfl rfl (by kernel_rfl) (fun _ _ _ h => h) (fun _ => (r_move hS28 rfl rfl)) fun a29 hS29 => d_pure hS29 6 #[true, true, true, true, true, true, true, false, false] rfl rfl rfl rfl (by kernel_rfl) (fun _ _ _ h => h) (fun _ => (r_index (e := 50) (sz := 4) (by_ := 32) hS29 rfl rfl rfl (by kernel_rfl) (RdS.some_ hp1 hx31) (idx_lo hx31) (idx_hi hx31))) fun a32 hS32 => d_take hS32 7 #[true, true, true, true, true, true, true, true, false] rfl rfl rfl rfl (by kernel_rfl) (fun _ _ _ h => h) ⟨_, hC⟩ (fun w' g' Fz => (r_loadN (n := 4) (cs := [.int .i64 x30.Rail, .bool x30.On, .int .u64 x30.Start, .int .u64 x30.Done]) hS32 rfl rfl (by kernel_rfl) rfl (RdS.cells_off (RdS.fr hp1 Fz (by decide) (fun _ _ h => h)) hx31 0 4))) fun a33 hS33 => d_pure hS33 8 #[true, true, true, true, true, true, true, true, true] rfl rfl rfl rfl (by kernel_rfl) (fun _ _ _ h => h) (fun _ => (r_stNe hS33 rfl rfl rfl (by kernel_rfl) (eqF_api_RailOp x24 x30 _))) fun a34 hS34 => d_done (by kernel_rfl) (hK _ _ ?_)
            replace hS : Sl 26 _ [(0, .slice A0 p0.length cap0), (1, .slice A1 p1.length cap1), (5, .int .i64 m0_0), (25, .bool (!decide (x24 = x30)))] := hS34.re ⟨rfl, rfl, rfl, rfl, trivial⟩
            clear hK K hC
            try clear hS22 hS23 hS26 hS27 hS28 hS29 hS32 hS33 hS34
            obtain ⟨a, ha⟩ : ∃ a', a' = a34 := ⟨_, rfl⟩
            rw [← ha] at hS ⊢; clear ha
            refine c_cond hS rfl (fun hb35 => ?_) (fun hb35 => ?_)
            · replace H := ite_t hb35 H
              refine c_pure [(4, .bool false)] (fun R hR => st_val hS rfl rfl rfl (r_assign hS rfl rfl) fun a36 hS36 => wpList_nil (hR _ (hS36.re ⟨rfl, trivial⟩))) ?_
              clear hS
              clear a
              intro a hS
              refine wp_ret ?_
              have e := Option.some.inj H
              subst e
              replace H := Fl.go_out Hl12
              have e := Option.some.inj H
              subst e
              repeat (with_reducible first | refine then_ret ?_ | refine inBlock_ret ?_)
              exact c_ret1 hS Try.results19 rfl ⟨_, rfl, g14, rfl, hF⟩
            · replace H := ite_f hb35 H
              refine wp_skip ?_
              change Code.wp _ _ _ _ _
              refine c_pure1 [(0, .slice A0 p0.length cap0), (1, .slice A1 p1.length cap1), (5, .int .i64 (wi (m0_0 + 1)))] (fun R hR => st_val hS rfl rfl rfl (r_move hS rfl rfl) fun a37 hS37 => st_val hS37 rfl rfl rfl (r_bin hS37 rfl rfl rfl b_add) fun a38 hS38 => st_val hS38 rfl rfl rfl (r_assign hS38 rfl rfl) fun a39 hS39 => wpList_nil (hR _ (hS39.re ⟨rfl, rfl, rfl, trivial⟩))) ?_
              clear hS
              clear a
              intro a hS
              refine ⟨k15, Nat.lt_succ_self _, ?_⟩
              exact ⟨wi (m0_0 + 1), g14, H, hS.re ⟨rfl, rfl, rfl, trivial⟩, hp0, hp1, hF⟩
          · replace H := ite_f hb20 H
            refine wp_exit ?_
            have e := Option.some.inj H
            exact ⟨g14, e.symm, hS.re trivial, hF⟩
    · clear H
      clear hp0 hp1 hF
      clear hS
      rintro a w9 ⟨g9, hpre0, hS, hF⟩
      subst hpre0
      have H := Fl.go_nxt Hl12
      clear Hl12
      refine c_pure [(4, .bool true)] (fun R hR => st_val hS rfl rfl rfl (r_assign hS rfl rfl) fun a40 hS40 => wpList_nil (hR _ (hS40.re ⟨rfl, trivial⟩))) ?_
      clear hS
      clear a
      intro a hS
      refine wp_ret ?_
      have e := Option.some.inj H
      subst e
      repeat (with_reducible first | refine then_ret ?_ | refine inBlock_ret ?_)
      exact c_ret1 hS Try.results19 rfl ⟨_, rfl, g9, rfl, hF⟩

/-! ### law25_awake: function 12 -/
def law25_awake.f  : Option (Bool) := (rails_New.f [(api_Rail.mk (-1) 5 2), (api_Rail.mk 0 3 1)]).bind fun r9 => if ((r9.2 != 0) || r9.1.isNone) = true then (some false) else ((r9.1).bind fun st36 => (rails_Rails_Acquire.f st36 1 10).bind fun r47 => (rails_Rails_Powered.f r47.1 1 17).bind fun r61 => (rails_Rails_Powered.f r47.1 1 18).bind fun r66 => (rails_Rails_Release.f r47.1 1 20).bind fun r73 => (if ((((r47.2.2 == 0) && (r73.2.2 == 0)) && (!r61)) && r66) = true then (help_Equal_api_RailOp.f r47.2.1 [(api_RailOp.mk 0 true 10 15), (api_RailOp.mk 1 true 15 18)]).bind fun r128 => some r128 else some false).bind fun t132 => (if t132 = true then (help_Equal_api_RailOp.f r73.2.1 [(api_RailOp.mk 1 false 20 21), (api_RailOp.mk 0 false 21 23)]).bind fun r167 => some r167 else some false).bind fun t171 => some t171)
set_option maxRecDepth 100000 in
set_option maxHeartbeats 4000000 in
theorem law25_awake.calls  {w : World} {g : Nat → Nat} {out : Bool} (N : Nat)  (H : law25_awake.f  = some out) :
    Calls Try.prog 12 #[] w (fun e w' => ∃ v, e = .returned v ∧ ∃ (g' : Nat → Nat), v = .bool out ∧ Fr (fun q => N ≤ q) w g w' g') := by
  unfold law25_awake.f at H
  refine calls_enter Try.func12 rfl Try.ntmps12 rfl (fun a hS => ?_)
  replace hS : Sl 63 a [] := hS
  have hF : Fr (fun q => N ≤ q) w g w g := Fr.refl _ _ _
  refine c_pure [] (fun R hR => st_val hS rfl rfl rfl (r_assign hS rfl rfl) fun a1 hS1 => wpList_nil (hR _ (hS1.re trivial))) ?_
  clear hS
  clear a
  intro a hS
  obtain ⟨r9, hr10, H⟩ := bind_el H
  refine c_region (fun K hK => ?_)
  refine st_val hS rfl rfl rfl (r_build (parts := [(0, .int .i64 (-1)), (1, .int .u64 5), (2, .int .u64 2)]) (u := .agg #[.int .i64 (-1), .int .u64 5, .int .u64 2]) hS rfl rfl (fun _ => by kernel_rfl)) fun a2 hS2 => st_val hS2 rfl rfl rfl (r_build (parts := [(1, .int .u64 3), (2, .int .u64 1)]) (u := .agg #[.int .i64 0, .int .u64 3, .int .u64 1]) hS2 rfl rfl (fun _ => by kernel_rfl)) fun a3 hS3 => ?_
  refine st_eff hS3 rfl rfl rfl (e_lit (e := 35) (parts := [(0, .agg #[.int .i64 (-1), .int .u64 5, .int .u64 2]), (1, .agg #[.int .i64 0, .int .u64 3, .int .u64 1])]) (cs := [.int .i64 (-1), .int .u64 5, .int .u64 2, .int .i64 0, .int .u64 3, .int .u64 1]) kd_api_Rail [(api_Rail.mk (-1) 5 2), (api_Rail.mk 0 3 1)] (N + 0) g hS3 rfl rfl (fun _ => by kernel_rfl) rfl (by decide) (Rows.cons (cs := [.int .i64 (-1), .int .u64 5, .int .u64 2]) rfl (Rows.cons (cs := [.int .i64 0, .int .u64 3, .int .u64 1]) rfl Rows.nil))) ?_
  rintro _ a7 w8 g8 ⟨⟨A4, rfl, h5⟩, F8⟩ hS7
  replace hF := hF.trans F8 (fun _ h => h.elim)
  refine st_enter hS7 rfl rfl rfl (r_call hS7 rfl rfl (by kernel_rfl)) (rails_New.calls (C0 := (fun q => q = N + 0)) (p0 := [(api_Rail.mk (-1) 5 2), (api_Rail.mk 0 3 1)]) (g := g8) (N + 13) (N + 2) (OwD.rdf (fun _ _ _ _ _ _ h => h) h5) (fun q (hq : q = N + 0) => by omega) (by omega) hr10) ?_
  rintro _ a14 w15 ⟨g15, p11, rfl, h12, F15⟩ hS14
  replace h5 := OwS.fr h5 F15 (fun c' hc (hm : (N + 2 ≤ c' ∧ c' < N + 2 + 3) ∨ N + 13 ≤ c') => by omega)
  replace hF := hF.trans F15 (fun c' (hm : (N + 2 ≤ c' ∧ c' < N + 2 + 3) ∨ N + 13 ≤ c') => by show N ≤ c'; omega)
  refine st_val hS14 rfl rfl rfl (r_move hS14 rfl rfl) fun a16 hS16 => st_val hS16 rfl rfl rfl (r_extract hS16 rfl rfl rfl) fun a17 hS17 => st_val hS17 rfl rfl rfl (r_extract hS17 rfl rfl rfl) fun a18 hS18 => st_val hS18 rfl rfl rfl (r_assign hS18 rfl rfl) fun a19 hS19 => st_val hS19 rfl rfl rfl (r_assign hS19 rfl rfl) fun a20 hS20 => wpList_nil (hK _ _ ?_)
  replace hS : Sl 63 _ [(1, .pointer p11), (2, .int .i64 r9.2)] := hS20.re ⟨rfl, rfl, trivial⟩
  clear hK K
  try clear hS2 hS3 hS7 hS14 hS16 hS17 hS18 hS19 hS20
  obtain ⟨a, ha⟩ : ∃ a', a' = a20 := ⟨_, rfl⟩
  rw [← ha] at hS ⊢; clear ha
  refine wp_seq ?_
  refine c_region (fun K hK => ?_)
  refine st_val hS rfl rfl rfl (r_move hS rfl rfl) fun a21 hS21 => st_val hS21 rfl rfl rfl (r_bin hS21 rfl rfl rfl b_neq) fun a22 hS22 => st_val hS22 rfl rfl rfl (r_move hS22 rfl rfl) fun a23 hS23 => ?_
  refine g_join (N := 63) 3 [(1, .pointer p11), (21, .bool ((r9.2 != 0) || r9.1.isNone))] ?_ (fun hk => ?_)
  rotate_left
  · rcases Bool.eq_false_or_eq_true ((r9.2 != 0)) with hb24 | hb24
    · refine st_off hS23 (want_off hS23 rfl rfl rfl hb24) rfl rfl fun a27 hS27 => st_off hS27 (want_off hS27 rfl rfl rfl hb24) rfl rfl fun a28 hS28 => st_val hS28 rfl rfl rfl (r_pickT hS28 rfl rfl rfl hb24) fun a29 hS29 => hk _ (hS29.re ⟨rfl, (by rw [hb24]; rfl), trivial⟩)
    · refine st_valW hS23 (want_on hS23 rfl rfl rfl hb24) rfl rfl (r_move hS23 rfl rfl) fun a30 hS30 => st_valW hS30 (want_on hS30 rfl rfl rfl hb24) rfl rfl (r_optEq hS30 rfl rfl (by kernel_rfl) (rails_Rails_Opt.isNone h12)) fun a31 hS31 => st_val hS31 rfl rfl rfl (r_pickF hS31 rfl rfl rfl hb24) fun a32 hS32 => hk _ (hS32.re ⟨rfl, (by rw [hb24]; rfl), trivial⟩)
  intro a33 hS33
  refine wpList_nil (hK _ _ ?_)
  replace hS : Sl 63 _ [(1, .pointer p11), (21, .bool ((r9.2 != 0) || r9.1.isNone))] := hS33.re ⟨rfl, rfl, trivial⟩
  clear hK K
  try clear hS21 hS22 hS23 hS33
  obtain ⟨a, ha⟩ : ∃ a', a' = a33 := ⟨_, rfl⟩
  rw [← ha] at hS ⊢; clear ha
  refine c_cond hS rfl (fun hb34 => ?_) (fun hb34 => ?_)
  · replace H := ite_t hb34 H
    refine c_pure [(0, .bool false)] (fun R hR => st_val hS rfl rfl rfl (r_assign hS rfl rfl) fun a35 hS35 => wpList_nil (hR _ (hS35.re ⟨rfl, trivial⟩))) ?_
    clear hS
    clear a
    intro a hS
    refine wp_ret ?_
    have e := Option.some.inj H
    subst e
    repeat (with_reducible first | refine then_ret ?_ | refine inBlock_ret ?_)
    exact c_ret1 hS Try.results12 rfl ⟨_, rfl, g15, rfl, hF⟩
  · replace H := ite_f hb34 H
    refine wp_skip ?_
    change Code.wp _ _ _ _ _
    obtain ⟨st36, hst37, H⟩ := bind_el H
    rw [hst37] at h12
    obtain ⟨b38, A41, cap42, hp45, h39, h43⟩ := h12
    subst hp45
    obtain ⟨r47, hr48, H⟩ := bind_el H
    refine c_region (fun K hK => ?_)
    refine st_val hS rfl rfl rfl (r_move hS rfl rfl) fun a46 hS46 => ?_
    refine st_enter hS46 rfl rfl rfl (r_call hS46 rfl rfl (by kernel_rfl)) (rails_Rails_Acquire.calls (c0 := N + 2) (b_p0 := b38) (A_list_p0 := A41) (cap_list_p0 := cap42) (p0 := st36) (p1 := 1) (p2 := 10) (g := g15) (N + 13) (N + 5) ⟨h39, h43⟩ (by omega) (by omega) (by omega) hr48) ?_
    rintro _ a53 w54 ⟨g54, A49, cap50, rfl, ⟨h39, h43⟩, h51, F54⟩ hS53
    replace hF := hF.trans F54 (fun c' (hm : (N + 2 ≤ c' ∧ c' < N + 2 + 3) ∨ (N + 5 ≤ c' ∧ c' < N + 5 + 2) ∨ N + 13 ≤ c') => by show N ≤ c'; omega)
    refine st_val hS53 rfl rfl rfl (r_move hS53 rfl rfl) fun a55 hS55 => st_val hS55 rfl rfl rfl (r_extract hS55 rfl rfl rfl) fun a56 hS56 => st_val hS56 rfl rfl rfl (r_extract hS56 rfl rfl rfl) fun a57 hS57 => st_val hS57 rfl rfl rfl (r_assign hS57 rfl rfl) fun a58 hS58 => st_val hS58 rfl rfl rfl (r_assign hS58 rfl rfl) fun a59 hS59 => wpList_nil (hK _ _ ?_)
    replace hS : Sl 63 _ [(1, .pointer (some ⟨b38, 0, none⟩)), (3, .slice A49 r47.2.1.length cap50), (4, .int .i64 r47.2.2)] := hS59.re ⟨rfl, rfl, rfl, trivial⟩
    clear hK K
    try clear hS46 hS53 hS55 hS56 hS57 hS58 hS59
    obtain ⟨a, ha⟩ : ∃ a', a' = a59 := ⟨_, rfl⟩
    rw [← ha] at hS ⊢; clear ha
    obtain ⟨r61, hr62, H⟩ := bind_el H
    obtain ⟨r66, hr67, H⟩ := bind_el H
    refine c_region (fun K hK => ?_)
    refine st_val hS rfl rfl rfl (r_move hS rfl rfl) fun a60 hS60 => ?_
    refine st_enter hS60 rfl rfl rfl (r_call hS60 rfl rfl (by kernel_rfl)) (rails_Rails_Powered.calls (c0 := N + 2) (b_p0 := b38) (A_list_p0 := A41) (cap_list_p0 := cap42) (p0 := r47.1) (p1 := 1) (p2 := 17) (g := g54) (N + 13)  ⟨h39, h43⟩ (by omega) hr62) ?_
    rintro _ a63 w64 ⟨g64, rfl, F64⟩ hS63
    replace h39 := h39.fr F64 (fun (hm : N + 13 ≤ N + 2) => by omega)
    replace h43 := OwS.fr h43 F64 (fun c' hc (hm : N + 13 ≤ c') => by omega)
    replace h51 := OwS.fr h51 F64 (fun c' hc (hm : N + 13 ≤ c') => by omega)
    replace hF := hF.trans F64 (fun c' (hm : N + 13 ≤ c') => by show N ≤ c'; omega)
    refine st_val hS63 rfl rfl rfl (r_move hS63 rfl rfl) fun a65 hS65 => ?_
    refine st_enter hS65 rfl rfl rfl (r_call hS65 rfl rfl (by kernel_rfl)) (rails_Rails_Powered.calls (c0 := N + 2) (b_p0 := b38) (A_list_p0 := A41) (cap_list_p0 := cap42) (p0 := r47.1) (p1 := 1) (p2 := 18) (g := g64) (N + 13)  ⟨h39, h43⟩ (by omega) hr67) ?_
    rintro _ a68 w69 ⟨g69, rfl, F69⟩ hS68
    replace h39 := h39.fr F69 (fun (hm : N + 13 ≤ N + 2) => by omega)
    replace h43 := OwS.fr h43 F69 (fun c' hc (hm : N + 13 ≤ c') => by omega)
    replace h51 := OwS.fr h51 F69 (fun c' hc (hm : N + 13 ≤ c') => by omega)
    replace hF := hF.trans F69 (fun c' (hm : N + 13 ≤ c') => by show N ≤ c'; omega)
    refine st_val hS68 rfl rfl rfl (r_assign hS68 rfl rfl) fun a70 hS70 => st_val hS70 rfl rfl rfl (r_assign hS70 rfl rfl) fun a71 hS71 => wpList_nil (hK _ _ ?_)
    replace hS : Sl 63 _ [(1, .pointer (some ⟨b38, 0, none⟩)), (3, .slice A49 r47.2.1.length cap50), (4, .int .i64 r47.2.2), (5, .bool r61), (6, .bool r66)] := hS71.re ⟨rfl, rfl, rfl, rfl, rfl, trivial⟩
    clear hK K
    try clear hS60 hS63 hS65 hS68 hS70 hS71
    obtain ⟨a, ha⟩ : ∃ a', a' = a71 := ⟨_, rfl⟩
    rw [← ha] at hS ⊢; clear ha
    obtain ⟨r73, hr74, H⟩ := bind_el H
    refine c_region (fun K hK => ?_)
    refine st_val hS rfl rfl rfl (r_move hS rfl rfl) fun a72 hS72 => ?_
    refine st_enter hS72 rfl rfl rfl (r_call hS72 rfl rfl (by kernel_rfl)) (rails_Rails_Release.calls (c0 := N + 2) (b_p0 := b38) (A_list_p0 := A41) (cap_list_p0 := cap42) (p0 := r47.1) (p1 := 1) (p2 := 20) (g := g69) (N + 13) (N + 7) ⟨h39, h43⟩ (by omega) (by omega) (by omega) hr74) ?_
    rintro _ a79 w80 ⟨g80, A75, cap76, rfl, ⟨h39, h43⟩, h77, F80⟩ hS79
    replace h51 := OwS.fr h51 F80 (fun c' hc (hm : (N + 2 ≤ c' ∧ c' < N + 2 + 3) ∨ (N + 7 ≤ c' ∧ c' < N + 7 + 2) ∨ N + 13 ≤ c') => by omega)
    replace hF := hF.trans F80 (fun c' (hm : (N + 2 ≤ c' ∧ c' < N + 2 + 3) ∨ (N + 7 ≤ c' ∧ c' < N + 7 + 2) ∨ N + 13 ≤ c') => by show N ≤ c'; omega)
    refine st_val hS79 rfl rfl rfl (r_move hS79 rfl rfl) fun a81 hS81 => st_val hS81 rfl rfl rfl (r_extract hS81 rfl rfl rfl) fun a82 hS82 => st_val hS82 rfl rfl rfl (r_extract hS82 rfl rfl rfl) fun a83 hS83 => st_val hS83 rfl rfl rfl (r_assign hS83 rfl rfl) fun a84 hS84 => st_val hS84 rfl rfl rfl (r_assign hS84 rfl rfl) fun a85 hS85 => wpList_nil (hK _ _ ?_)
    replace hS : Sl 63 _ [(3, .slice A49 r47.2.1.length cap50), (4, .int .i64 r47.2.2), (5, .bool r61), (6, .bool r66), (7, .slice A75 r73.2.1.length cap76), (8, .int .i64 r73.2.2)] := hS85.re ⟨rfl, rfl, rfl, rfl, rfl, rfl, trivial⟩
    clear hK K
    try clear hS72 hS79 hS81 hS82 hS83 hS84 hS85
    obtain ⟨a, ha⟩ : ∃ a', a' = a85 := ⟨_, rfl⟩
    rw [← ha] at hS ⊢; clear ha
    obtain ⟨t132, ht133, H⟩ := bind_el H
    obtain ⟨t171, ht172, H⟩ := bind_el H
    refine c_region (fun K hK => ?_)
    refine st_val hS rfl rfl rfl (r_move hS rfl rfl) fun a86 hS86 => st_val hS86 rfl rfl rfl (r_bin hS86 rfl rfl rfl b_eql) fun a87 hS87 => st_val hS87 rfl rfl rfl (r_move hS87 rfl rfl) fun a88 hS88 => ?_
    refine g_join (N := 63) 3 [(3, .slice A49 r47.2.1.length cap50), (5, .bool r61), (6, .bool r66), (7, .slice A75 r73.2.1.length cap76), (41, .bool ((r47.2.2 == 0) && (r73.2.2 == 0)))] ?_ (fun hk => ?_)
    rotate_left
    · rcases Bool.eq_false_or_eq_true ((r47.2.2 == 0)) with hb89 | hb89
      · refine st_valW hS88 (want_on hS88 rfl rfl rfl hb89) rfl rfl (r_move hS88 rfl rfl) fun a92 hS92 => st_valW hS92 (want_on hS92 rfl rfl rfl hb89) rfl rfl (r_bin hS92 rfl rfl rfl b_eql) fun a93 hS93 => st_val hS93 rfl rfl rfl (r_pickT hS93 rfl rfl rfl hb89) fun a94 hS94 => hk _ (hS94.re ⟨rfl, rfl, rfl, rfl, (by rw [hb89]; rfl), trivial⟩)
      · refine st_off hS88 (want_off hS88 rfl rfl rfl hb89) rfl rfl fun a95 hS95 => st_off hS95 (want_off hS95 rfl rfl rfl hb89) rfl rfl fun a96 hS96 => st_val hS96 rfl rfl rfl (r_pickF hS96 rfl rfl rfl hb89) fun a97 hS97 => hk _ (hS97.re ⟨rfl, rfl, rfl, rfl, (by rw [hb89]; rfl), trivial⟩)
    intro a98 hS98
    refine st_val hS98 rfl rfl rfl (r_move hS98 rfl rfl) fun a99 hS99 => ?_
    refine g_join (N := 63) 3 [(3, .slice A49 r47.2.1.length cap50), (6, .bool r66), (7, .slice A75 r73.2.1.length cap76), (45, .bool (((r47.2.2 == 0) && (r73.2.2 == 0)) && (!r61)))] ?_ (fun hk => ?_)
    rotate_left
    · rcases Bool.eq_false_or_eq_true (((r47.2.2 == 0) && (r73.2.2 == 0))) with hb100 | hb100
      · refine st_valW hS99 (want_on hS99 rfl rfl rfl hb100) rfl rfl (r_move hS99 rfl rfl) fun a103 hS103 => st_valW hS103 (want_on hS103 rfl rfl rfl hb100) rfl rfl (r_not hS103 rfl rfl) fun a104 hS104 => st_val hS104 rfl rfl rfl (r_pickT hS104 rfl rfl rfl hb100) fun a105 hS105 => hk _ (hS105.re ⟨rfl, rfl, rfl, (by rw [hb100]; rfl), trivial⟩)
      · refine st_off hS99 (want_off hS99 rfl rfl rfl hb100) rfl rfl fun a106 hS106 => st_off hS106 (want_off hS106 rfl rfl rfl hb100) rfl rfl fun a107 hS107 => st_val hS107 rfl rfl rfl (r_pickF hS107 rfl rfl rfl hb100) fun a108 hS108 => hk _ (hS108.re ⟨rfl, rfl, rfl, (by rw [hb100]; rfl), trivial⟩)
    intro a109 hS109
    refine st_val hS109 rfl rfl rfl (r_move hS109 rfl rfl) fun a110 hS110 => ?_
    refine g_join (N := 63) 2 [(3, .slice A49 r47.2.1.length cap50), (7, .slice A75 r73.2.1.length cap76), (48, .bool ((((r47.2.2 == 0) && (r73.2.2 == 0)) && (!r61)) && r66))] ?_ (fun hk => ?_)
    rotate_left
    · rcases Bool.eq_false_or_eq_true ((((r47.2.2 == 0) && (r73.2.2 == 0)) && (!r61))) with hb111 | hb111
      · refine st_valW hS110 (want_on hS110 rfl rfl rfl hb111) rfl rfl (r_move hS110 rfl rfl) fun a113 hS113 => st_val hS113 rfl rfl rfl (r_pickT hS113 rfl rfl rfl hb111) fun a114 hS114 => hk _ (hS114.re ⟨rfl, rfl, (by rw [hb111]; rfl), trivial⟩)
      · refine st_off hS110 (want_off hS110 rfl rfl rfl hb111) rfl rfl fun a115 hS115 => st_val hS115 rfl rfl rfl (r_pickF hS115 rfl rfl rfl hb111) fun a116 hS116 => hk _ (hS116.re ⟨rfl, rfl, (by rw [hb111]; rfl), trivial⟩)
    intro a117 hS117
    refine st_val hS117 rfl rfl rfl (r_move hS117 rfl rfl) fun a118 hS118 => ?_
    refine g_joinR 6 (fun a w134 => ∃ (g134 : Nat → Nat), Sl 63 a [(7, .slice A75 r73.2.1.length cap76), (55, .bool t132)] ∧ OwS kd_api_RailOp 50 w134 g134 (N + 7) A75 cap76 r73.2.1 ∧ Fr (fun q => N ≤ q) w g w134 g134) ?_ (fun hk => ?_)
    rotate_left
    · rcases Bool.eq_false_or_eq_true (((((r47.2.2 == 0) && (r73.2.2 == 0)) && (!r61)) && r66)) with hb119 | hb119
      · have H := ite_t hb119 ht133
        obtain ⟨r143, hr144, H⟩ := bind_el H
        have e147 := Option.some.inj H
        refine st_valW hS118 (want_on hS118 rfl rfl rfl hb119) rfl rfl (r_move hS118 rfl rfl) fun a135 hS135 => st_valW hS135 (want_on hS135 rfl rfl rfl hb119) rfl rfl (r_build (parts := [(0, .int .i64 0), (1, .bool true), (2, .int .u64 10), (3, .int .u64 15)]) (u := .agg #[.int .i64 0, .bool true, .int .u64 10, .int .u64 15]) hS135 rfl rfl (fun _ => by kernel_rfl)) fun a136 hS136 => st_valW hS136 (want_on hS136 rfl rfl rfl hb119) rfl rfl (r_build (parts := [(0, .int .i64 1), (1, .bool true), (2, .int .u64 15), (3, .int .u64 18)]) (u := .agg #[.int .i64 1, .bool true, .int .u64 15, .int .u64 18]) hS136 rfl rfl (fun _ => by kernel_rfl)) fun a137 hS137 => ?_
        refine st_effW hS137 (want_on hS137 rfl rfl rfl hb119) rfl rfl (e_lit (e := 50) (parts := [(0, .agg #[.int .i64 0, .bool true, .int .u64 10, .int .u64 15]), (1, .agg #[.int .i64 1, .bool true, .int .u64 15, .int .u64 18])]) (cs := [.int .i64 0, .bool true, .int .u64 10, .int .u64 15, .int .i64 1, .bool true, .int .u64 15, .int .u64 18]) kd_api_RailOp [(api_RailOp.mk 0 true 10 15), (api_RailOp.mk 1 true 15 18)] (N + 9) g80 hS137 rfl rfl (fun _ => by kernel_rfl) rfl (by decide) (Rows.cons (cs := [.int .i64 0, .bool true, .int .u64 10, .int .u64 15]) rfl (Rows.cons (cs := [.int .i64 1, .bool true, .int .u64 15, .int .u64 18]) rfl Rows.nil))) ?_
        rintro _ a141 w142 g142 ⟨⟨A138, rfl, h139⟩, F142⟩ hS141
        replace h51 := OwS.fr h51 F142 (fun _ _ h => h)
        replace h77 := OwS.fr h77 F142 (fun _ _ h => h)
        replace hF := hF.trans F142 (fun _ h => h.elim)
        refine st_enterW hS141 (want_on hS141 rfl rfl rfl hb119) rfl rfl (r_call hS141 rfl rfl (by kernel_rfl)) (help_Equal_api_RailOp.calls (C0 := (fun q => q = N + 5)) (C1 := (fun q => q = N + 9)) (p0 := r47.2.1) (p1 := [(api_RailOp.mk 0 true 10 15), (api_RailOp.mk 1 true 15 18)]) (g := g142) (N + 13)  (OwD.rdf (fun _ _ _ _ _ _ h => h) h51) (fun q (hq : q = N + 5) => by omega) (OwD.rdf (fun _ _ _ _ _ _ h => h) h139) (fun q (hq : q = N + 9) => by omega) hr144) ?_
        rintro _ a145 w146 ⟨g146, rfl, F146⟩ hS145
        replace h139 := OwS.fr h139 F146 (fun c' hc (hm : N + 13 ≤ c') => by omega)
        replace h51 := OwS.fr h51 F146 (fun c' hc (hm : N + 13 ≤ c') => by omega)
        replace h77 := OwS.fr h77 F146 (fun c' hc (hm : N + 13 ≤ c') => by omega)
        replace hF := hF.trans F146 (fun c' (hm : N + 13 ≤ c') => by show N ≤ c'; omega)
        refine st_val hS145 rfl rfl rfl (r_pickT hS145 rfl rfl rfl hb119) fun a148 hS148 => hk _ _ ?_
        exact ⟨g146, hS148.re ⟨rfl, (by rw [← e147]; rfl), trivial⟩, h77, hF⟩
      · have H := ite_f hb119 ht133
        have e149 := Option.some.inj H
        refine st_off hS118 (want_off hS118 rfl rfl rfl hb119) rfl rfl fun a150 hS150 => st_off hS150 (want_off hS150 rfl rfl rfl hb119) rfl rfl fun a151 hS151 => st_off hS151 (want_off hS151 rfl rfl rfl hb119) rfl rfl fun a152 hS152 => st_off hS152 (want_off hS152 rfl rfl rfl hb119) rfl rfl fun a153 hS153 => st_off hS153 (want_off hS153 rfl rfl rfl hb119) rfl rfl fun a154 hS154 => st_val hS154 rfl rfl rfl (r_pickF hS154 rfl rfl rfl hb119) fun a155 hS155 => hk _ _ ?_
        exact ⟨g80, hS155.re ⟨rfl, (by rw [← e149]; rfl), trivial⟩, h77, hF⟩
    rintro a156 w134 ⟨g134, hS156, h77, hF⟩
    refine st_val hS156 rfl rfl rfl (r_move hS156 rfl rfl) fun a157 hS157 => ?_
    refine g_joinR 6 (fun a w173 => ∃ (g173 : Nat → Nat), Sl 63 a [(62, .bool t171)] ∧ Fr (fun q => N ≤ q) w g w173 g173) ?_ (fun hk => ?_)
    rotate_left
    · rcases Bool.eq_false_or_eq_true (t132) with hb158 | hb158
      · have H := ite_t hb158 ht172
        obtain ⟨r182, hr183, H⟩ := bind_el H
        have e186 := Option.some.inj H
        refine st_valW hS157 (want_on hS157 rfl rfl rfl hb158) rfl rfl (r_move hS157 rfl rfl) fun a174 hS174 => st_valW hS174 (want_on hS174 rfl rfl rfl hb158) rfl rfl (r_build (parts := [(0, .int .i64 1), (2, .int .u64 20), (3, .int .u64 21)]) (u := .agg #[.int .i64 1, .bool false, .int .u64 20, .int .u64 21]) hS174 rfl rfl (fun _ => by kernel_rfl)) fun a175 hS175 => st_valW hS175 (want_on hS175 rfl rfl rfl hb158) rfl rfl (r_build (parts := [(0, .int .i64 0), (2, .int .u64 21), (3, .int .u64 23)]) (u := .agg #[.int .i64 0, .bool false, .int .u64 21, .int .u64 23]) hS175 rfl rfl (fun _ => by kernel_rfl)) fun a176 hS176 => ?_
        refine st_effW hS176 (want_on hS176 rfl rfl rfl hb158) rfl rfl (e_lit (e := 50) (parts := [(0, .agg #[.int .i64 1, .bool false, .int .u64 20, .int .u64 21]), (1, .agg #[.int .i64 0, .bool false, .int .u64 21, .int .u64 23])]) (cs := [.int .i64 1, .bool false, .int .u64 20, .int .u64 21, .int .i64 0, .bool false, .int .u64 21, .int .u64 23]) kd_api_RailOp [(api_RailOp.mk 1 false 20 21), (api_RailOp.mk 0 false 21 23)] (N + 11) g134 hS176 rfl rfl (fun _ => by kernel_rfl) rfl (by decide) (Rows.cons (cs := [.int .i64 1, .bool false, .int .u64 20, .int .u64 21]) rfl (Rows.cons (cs := [.int .i64 0, .bool false, .int .u64 21, .int .u64 23]) rfl Rows.nil))) ?_
        rintro _ a180 w181 g181 ⟨⟨A177, rfl, h178⟩, F181⟩ hS180
        replace h77 := OwS.fr h77 F181 (fun _ _ h => h)
        replace hF := hF.trans F181 (fun _ h => h.elim)
        refine st_enterW hS180 (want_on hS180 rfl rfl rfl hb158) rfl rfl (r_call hS180 rfl rfl (by kernel_rfl)) (help_Equal_api_RailOp.calls (C0 := (fun q => q = N + 7)) (C1 := (fun q => q = N + 11)) (p0 := r73.2.1) (p1 := [(api_RailOp.mk 1 false 20 21), (api_RailOp.mk 0 false 21 23)]) (g := g181) (N + 13)  (OwD.rdf (fun _ _ _ _ _ _ h => h) h77) (fun q (hq : q = N + 7) => by omega) (OwD.rdf (fun _ _ _ _ _ _ h => h) h178) (fun q (hq : q = N + 11) => by omega) hr183) ?_
        rintro _ a184 w185 ⟨g185, rfl, F185⟩ hS184
        replace h178 := OwS.fr h178 F185 (fun c' hc (hm : N + 13 ≤ c') => by omega)
        replace h77 := OwS.fr h77 F185 (fun c' hc (hm : N + 13 ≤ c') => by omega)
        replace hF := hF.trans F185 (fun c' (hm : N + 13 ≤ c') => by show N ≤ c'; omega)
        refine st_val hS184 rfl rfl rfl (r_pickT hS184 rfl rfl rfl hb158) fun a187 hS187 => hk _ _ ?_
        exact ⟨g185, hS187.re ⟨(by rw [← e186]; rfl), trivial⟩, hF⟩
      · have H := ite_f hb158 ht172
        have e188 := Option.some.inj H
        refine st_off hS157 (want_off hS157 rfl rfl rfl hb158) rfl rfl fun a189 hS189 => st_off hS189 (want_off hS189 rfl rfl rfl hb158) rfl rfl fun a190 hS190 => st_off hS190 (want_off hS190 rfl rfl rfl hb158) rfl rfl fun a191 hS191 => st_off hS191 (want_off hS191 rfl rfl rfl hb158) rfl rfl fun a192 hS192 => st_off hS192 (want_off hS192 rfl rfl rfl hb158) rfl rfl fun a193 hS193 => st_val hS193 rfl rfl rfl (r_pickF hS193 rfl rfl rfl hb158) fun a194 hS194 => hk _ _ ?_
        exact ⟨g134, hS194.re ⟨(by rw [← e188]; rfl), trivial⟩, hF⟩
    rintro a195 w173 ⟨g173, hS195, hF⟩
    refine st_val hS195 rfl rfl rfl (r_assign hS195 rfl rfl) fun a196 hS196 => wpList_nil (hK _ _ ?_)
    replace hS : Sl 63 _ [(0, .bool t171)] := hS196.re ⟨rfl, trivial⟩
    clear hK K
    try clear hS86 hS87 hS88 hS98 hS99 hS109 hS110 hS117 hS118 hS156 hS157 hS195 hS196
    obtain ⟨a, ha⟩ : ∃ a', a' = a196 := ⟨_, rfl⟩
    rw [← ha] at hS ⊢; clear ha
    refine wp_ret ?_
    have e := Option.some.inj H
    subst e
    repeat (with_reducible first | refine then_ret ?_ | refine inBlock_ret ?_)
    exact c_ret1 hS Try.results12 rfl ⟨_, rfl, g173, rfl, hF⟩

/-! ### ref25_New: function 14 -/
def ref25_New.l0 (p0 : List api_Rail) : Nat → Int → Option (Fl ((Option ref25_Rails) × Int) (Unit))
  | 0, _ => none
  | k13 + 1, m0_0 => if decide (m0_0 < (p0.length : Int)) = true then ((idx p0 m0_0).bind fun x21 => if ((((decide (x21.Supply < (-1))) || (decide ((p0.length : Int) ≤ x21.Supply))) || (decide (1048576 < x21.RampUp))) || (decide (1048576 < x21.RampDown))) = true then (some (.out ((none : Option ref25_Rails), 1))) else (ref25_New.l0 p0 k13 (wi (m0_0 + 1)))) else (some (.nxt ()))
def ref25_New.l2 (p0 : List api_Rail) : Nat → Int → Int → Option (Int)
  | 0, _, _ => none
  | k127 + 1, m2_0, m2_1 => if ((decide (m2_1 < (p0.length : Int))) && (decide (0 ≤ m2_0))) = true then ((idx p0 m2_0).bind fun x146 => ref25_New.l2 p0 k127 x146.Supply (wi (m2_1 + 1))) else (some m2_0)
def ref25_New.l1 (p0 : List api_Rail) : Nat → Int → Option (Fl ((Option ref25_Rails) × Int) (Unit))
  | 0, _ => none
  | k112 + 1, m1_0 => if decide (m1_0 < (p0.length : Int)) = true then (((ref25_New.l2 p0 FUEL m1_0 0 : Option (Int)).bind fun v123 => if decide (0 ≤ v123) = true then (some (.out (.out ((none : Option ref25_Rails), 18)))) else (some (.nxt ())) : Option (Fl (Fl ((Option ref25_Rails) × Int) (Unit)) (Unit))).bind fun o119 => o119.go fun _ => ref25_New.l1 p0 k112 (wi (m1_0 + 1))) else (some (.nxt ()))
def ref25_New.f (p0 : List api_Rail) : Option ((Option ref25_Rails) × Int) := if decide (64 < (p0.length : Int)) = true then (some ((none : Option ref25_Rails), 1)) else ((ref25_New.l0 p0 FUEL 0 : Option (Fl ((Option ref25_Rails) × Int) (Unit))).bind fun o10 => o10.go fun _ => (ref25_New.l1 p0 FUEL 0 : Option (Fl ((Option ref25_Rails) × Int) (Unit))).bind fun o109 => o109.go fun _ => (app ([] : List api_Rail) p0).bind fun y166 => (mk (p0.length : Int) 0).bind fun y172 => (mk (p0.length : Int) 0).bind fun y178 => some ((some (ref25_Rails.mk y166 y172 y178 0)), 0))
set_option maxRecDepth 100000 in
set_option maxHeartbeats 4000000 in
theorem ref25_New.calls {p0 : List api_Rail} {A0 : Option Addr} {cap0 : Nat} {C0 : Nat → Prop} {w : World} {g : Nat → Nat} {out : (Option ref25_Rails) × Int} (N : Nat) (r0 : Nat) (hp0 : RdS kd_api_Rail w g C0 A0 cap0 p0) (hC0 : ∀ c, C0 c → c < N) (hr0 : r0 + 7 ≤ N) (H : ref25_New.f p0 = some out) :
    Calls Try.prog 14 #[.slice A0 p0.length cap0] w (fun e w' => ∃ v, e = .returned v ∧ ∃ (g' : Nat → Nat) (p_r0 : Option Addr), v = .tuple #[.pointer p_r0, .int .i64 out.2] ∧ ref25_Rails_Opt w' g' r0 p_r0 out.1 ∧ Fr (fun q => (r0 ≤ q ∧ q < r0 + 7) ∨ N ≤ q) w g w' g') := by
  unfold ref25_New.f at H
  refine calls_enter Try.func14 rfl Try.ntmps14 rfl (fun a hS => ?_)
  replace hS : Sl 84 a [(0, .slice A0 p0.length cap0)] := hS
  have hF : Fr (fun q => (r0 ≤ q ∧ q < r0 + 7) ∨ N ≤ q) w g w g := Fr.refl _ _ _
  refine c_pure [(0, .slice A0 p0.length cap0)] (fun R hR => st_val hS rfl rfl rfl (r_assign hS rfl rfl) fun a1 hS1 => st_val hS1 rfl rfl rfl (r_assign hS1 rfl rfl) fun a2 hS2 => wpList_nil (hR _ (hS2.re ⟨rfl, trivial⟩))) ?_
  clear hS
  clear a
  intro a hS
  refine wp_seq ?_
  refine c_pure [(0, .slice A0 p0.length cap0), (10, .bool (decide (64 < (p0.length : Int))))] (fun R hR => st_val hS rfl rfl rfl (r_move hS rfl rfl) fun a3 hS3 => st_val hS3 rfl rfl rfl (r_len (e := 35) (sz := 3) (by_ := 24) hS3 rfl rfl (by kernel_rfl)) fun a4 hS4 => st_val hS4 rfl rfl rfl (r_bin hS4 rfl rfl rfl b_gtr) fun a5 hS5 => wpList_nil (hR _ (hS5.re ⟨rfl, rfl, trivial⟩))) ?_
  clear hS
  clear a
  intro a hS
  refine c_cond hS rfl (fun hb6 => ?_) (fun hb6 => ?_)
  · replace H := ite_t hb6 H
    refine c_pure [(2, .pointer none), (3, .int .i64 1)] (fun R hR => st_val hS rfl rfl rfl (r_assign hS rfl rfl) fun a7 hS7 => st_val hS7 rfl rfl rfl (r_assign hS7 rfl rfl) fun a8 hS8 => wpList_nil (hR _ (hS8.re ⟨rfl, rfl, trivial⟩))) ?_
    clear hS
    clear a
    intro a hS
    refine wp_ret ?_
    have e := Option.some.inj H
    subst e
    repeat (with_reducible first | refine then_ret ?_ | refine inBlock_ret ?_)
    exact c_ret2 hS Try.results14 rfl rfl ⟨_, rfl, g, none, rfl, rfl, hF⟩
  · replace H := ite_f hb6 H
    refine wp_skip ?_
    change Code.wp _ _ _ _ _
    obtain ⟨o10, H, Hl11⟩ := bind_el H
    refine c_cut (fun a w' => o10 = .nxt () ∧ w = w' ∧ Sl 84 a [(0, .slice A0 p0.length cap0)]) ?_ ?_
    · refine c_pure [(0, .slice A0 p0.length cap0), (4, .int .i64 0)] (fun R hR => st_val hS rfl rfl rfl (r_assign hS rfl rfl) fun a12 hS12 => wpList_nil (hR _ (hS12.re ⟨rfl, rfl, trivial⟩))) ?_
      clear hS
      clear a
      intro a hS
      refine wp_block ?_
      refine wp_loop_ghost (fun kq => fun a w' => ∃ (m0_0 : Int), ref25_New.l0 p0 kq m0_0 = some o10 ∧ w = w' ∧ Sl 84 a [(0, .slice A0 p0.length cap0), (4, .int .i64 m0_0)]) FUEL ?_ ?_
      · exact ⟨0, H, rfl, hS.re ⟨rfl, rfl, trivial⟩⟩
      · clear H
        clear hS
        rintro k13 a w' ⟨m0_0, hpre0, hw, hS⟩
        subst hw
        have H := hpre0
        clear hpre0
        cases k13 with
        | zero => exact absurd H (by simp [ref25_New.l0])
        | succ k13 =>
          rw [ref25_New.l0] at H
          refine wp_seq ?_
          refine c_pure [(0, .slice A0 p0.length cap0), (4, .int .i64 m0_0), (14, .bool (decide (m0_0 < (p0.length : Int))))] (fun R hR => st_val hS rfl rfl rfl (r_move hS rfl rfl) fun a14 hS14 => st_val hS14 rfl rfl rfl (r_move hS14 rfl rfl) fun a15 hS15 => st_val hS15 rfl rfl rfl (r_len (e := 35) (sz := 3) (by_ := 24) hS15 rfl rfl (by kernel_rfl)) fun a16 hS16 => st_val hS16 rfl rfl rfl (r_bin hS16 rfl rfl rfl b_lss) fun a17 hS17 => wpList_nil (hR _ (hS17.re ⟨rfl, rfl, rfl, trivial⟩))) ?_
          clear hS
          clear a
          intro a hS
          refine c_cond hS rfl (fun hb18 => ?_) (fun hb18 => ?_)
          · replace H := ite_t hb18 H
            refine wp_skip ?_
            change Code.wp _ _ _ _ _
            refine wp_seq ?_
            refine wp_block ?_
            obtain ⟨x21, hx22, H⟩ := bind_el H
            refine c_region (fun K hK => ?_)
            refine st_val hS rfl rfl rfl (r_move hS rfl rfl) fun a19 hS19 => st_val hS19 rfl rfl rfl (r_move hS19 rfl rfl) fun a20 hS20 => st_val hS20 rfl rfl rfl (r_index (e := 35) (sz := 3) (by_ := 24) hS20 rfl rfl rfl (by kernel_rfl) (RdS.some_ hp0 hx22) (idx_lo hx22) (idx_hi hx22)) fun a23 hS23 => st_val hS23 rfl rfl rfl (r_fieldE (off := 0) hS23 rfl rfl (by kernel_rfl)) fun a24 hS24 => st_val hS24 rfl rfl rfl (r_load1 (n := 1) hS24 rfl rfl (by kernel_rfl) (RdS.cell (i := m0_0) (sz := 3) (j := 0) hp0 hx22 rfl)) fun a25 hS25 => st_val hS25 rfl rfl rfl (r_bin hS25 rfl rfl rfl b_lss) fun a26 hS26 => st_val hS26 rfl rfl rfl (r_move hS26 rfl rfl) fun a27 hS27 => ?_
            refine g_join (N := 84) 9 [(0, .slice A0 p0.length cap0), (4, .int .i64 m0_0), (32, .bool ((decide (x21.Supply < (-1))) || (decide ((p0.length : Int) ≤ x21.Supply))))] ?_ (fun hk => ?_)
            rotate_left
            · rcases Bool.eq_false_or_eq_true (decide (x21.Supply < (-1))) with hb28 | hb28
              · refine st_off hS27 (want_off hS27 rfl rfl rfl hb28) rfl rfl fun a37 hS37 => st_off hS37 (want_off hS37 rfl rfl rfl hb28) rfl rfl fun a38 hS38 => st_off hS38 (want_off hS38 rfl rfl rfl hb28) rfl rfl fun a39 hS39 => st_off hS39 (want_off hS39 rfl rfl rfl hb28) rfl rfl fun a40 hS40 => st_off hS40 (want_off hS40 rfl rfl rfl hb28) rfl rfl fun a41 hS41 => st_off hS41 (want_off hS41 rfl rfl rfl hb28) rfl rfl fun a42 hS42 => st_off hS42 (want_off hS42 rfl rfl rfl hb28) rfl rfl fun a43 hS43 => st_off hS43 (want_off hS43 rfl rfl rfl hb28) rfl rfl fun a44 hS44 => st_val hS44 rfl rfl rfl (r_pickT hS44 rfl rfl rfl hb28) fun a45 hS45 => hk _ (hS45.re ⟨rfl, rfl, (by rw [hb28]; rfl), trivial⟩)
              · refine st_valW hS27 (want_on hS27 rfl rfl rfl hb28) rfl rfl (r_move hS27 rfl rfl) fun a46 hS46 => st_valW hS46 (want_on hS46 rfl rfl rfl hb28) rfl rfl (r_move hS46 rfl rfl) fun a47 hS47 => st_valW hS47 (want_on hS47 rfl rfl rfl hb28) rfl rfl (r_index (e := 35) (sz := 3) (by_ := 24) hS47 rfl rfl rfl (by kernel_rfl) (RdS.some_ hp0 hx22) (idx_lo hx22) (idx_hi hx22)) fun a48 hS48 => st_valW hS48 (want_on hS48 rfl rfl rfl hb28) rfl rfl (r_fieldE (off := 0) hS48 rfl rfl (by kernel_rfl)) fun a49 hS49 => st_valW hS49 (want_on hS49 rfl rfl rfl hb28) rfl rfl (r_load1 (n := 1) hS49 rfl rfl (by kernel_rfl) (RdS.cell (i := m0_0) (sz := 3) (j := 0) hp0 hx22 rfl)) fun a50 hS50 => st_valW hS50 (want_on hS50 rfl rfl rfl hb28) rfl rfl (r_move hS50 rfl rfl) fun a51 hS51 => st_valW hS51 (want_on hS51 rfl rfl rfl hb28) rfl rfl (r_len (e := 35) (sz := 3) (by_ := 24) hS51 rfl rfl (by kernel_rfl)) fun a52 hS52 => st_valW hS52 (want_on hS52 rfl rfl rfl hb28) rfl rfl (r_bin hS52 rfl rfl rfl b_geq) fun a53 hS53 => st_val hS53 rfl rfl rfl (r_pickF hS53 rfl rfl rfl hb28) fun a54 hS54 => hk _ (hS54.re ⟨rfl, rfl, (by rw [hb28]; rfl), trivial⟩)
            intro a55 hS55
            refine st_val hS55 rfl rfl rfl (r_move hS55 rfl rfl) fun a56 hS56 => ?_
            refine g_join (N := 84) 7 [(0, .slice A0 p0.length cap0), (4, .int .i64 m0_0), (40, .bool (((decide (x21.Supply < (-1))) || (decide ((p0.length : Int) ≤ x21.Supply))) || (decide (1048576 < x21.RampUp))))] ?_ (fun hk => ?_)
            rotate_left
            · rcases Bool.eq_false_or_eq_true (((decide (x21.Supply < (-1))) || (decide ((p0.length : Int) ≤ x21.Supply)))) with hb57 | hb57
              · refine st_off hS56 (want_off hS56 rfl rfl rfl hb57) rfl rfl fun a64 hS64 => st_off hS64 (want_off hS64 rfl rfl rfl hb57) rfl rfl fun a65 hS65 => st_off hS65 (want_off hS65 rfl rfl rfl hb57) rfl rfl fun a66 hS66 => st_off hS66 (want_off hS66 rfl rfl rfl hb57) rfl rfl fun a67 hS67 => st_off hS67 (want_off hS67 rfl rfl rfl hb57) rfl rfl fun a68 hS68 => st_off hS68 (want_off hS68 rfl rfl rfl hb57) rfl rfl fun a69 hS69 => st_val hS69 rfl rfl rfl (r_pickT hS69 rfl rfl rfl hb57) fun a70 hS70 => hk _ (hS70.re ⟨rfl, rfl, (by rw [hb57]; rfl), trivial⟩)
              · refine st_valW hS56 (want_on hS56 rfl rfl rfl hb57) rfl rfl (r_move hS56 rfl rfl) fun a71 hS71 => st_valW hS71 (want_on hS71 rfl rfl rfl hb57) rfl rfl (r_move hS71 rfl rfl) fun a72 hS72 => st_valW hS72 (want_on hS72 rfl rfl rfl hb57) rfl rfl (r_index (e := 35) (sz := 3) (by_ := 24) hS72 rfl rfl rfl (by kernel_rfl) (RdS.some_ hp0 hx22) (idx_lo hx22) (idx_hi hx22)) fun a73 hS73 => st_valW hS73 (want_on hS73 rfl rfl rfl hb57) rfl rfl (r_fieldE (off := 1) hS73 rfl rfl (by kernel_rfl)) fun a74 hS74 => st_valW hS74 (want_on hS74 rfl rfl rfl hb57) rfl rfl (r_load1 (n := 1) hS74 rfl rfl (by kernel_rfl) (RdS.cell (i := m0_0) (sz := 3) (j := 1) hp0 hx22 rfl)) fun a75 hS75 => st_valW hS75 (want_on hS75 rfl rfl rfl hb57) rfl rfl (r_bin hS75 rfl rfl rfl b_gtr) fun a76 hS76 => st_val hS76 rfl rfl rfl (r_pickF hS76 rfl rfl rfl hb57) fun a77 hS77 => hk _ (hS77.re ⟨rfl, rfl, (by rw [hb57]; rfl), trivial⟩)
            intro a78 hS78
            refine st_val hS78 rfl rfl rfl (r_move hS78 rfl rfl) fun a79 hS79 => ?_
            refine g_join (N := 84) 7 [(0, .slice A0 p0.length cap0), (4, .int .i64 m0_0), (48, .bool ((((decide (x21.Supply < (-1))) || (decide ((p0.length : Int) ≤ x21.Supply))) || (decide (1048576 < x21.RampUp))) || (decide (1048576 < x21.RampDown))))] ?_ (fun hk => ?_)
            rotate_left
            · rcases Bool.eq_false_or_eq_true ((((decide (x21.Supply < (-1))) || (decide ((p0.length : Int) ≤ x21.Supply))) || (decide (1048576 < x21.RampUp)))) with hb80 | hb80
              · refine st_off hS79 (want_off hS79 rfl rfl rfl hb80) rfl rfl fun a87 hS87 => st_off hS87 (want_off hS87 rfl rfl rfl hb80) rfl rfl fun a88 hS88 => st_off hS88 (want_off hS88 rfl rfl rfl hb80) rfl rfl fun a89 hS89 => st_off hS89 (want_off hS89 rfl rfl rfl hb80) rfl rfl fun a90 hS90 => st_off hS90 (want_off hS90 rfl rfl rfl hb80) rfl rfl fun a91 hS91 => st_off hS91 (want_off hS91 rfl rfl rfl hb80) rfl rfl fun a92 hS92 => st_val hS92 rfl rfl rfl (r_pickT hS92 rfl rfl rfl hb80) fun a93 hS93 => hk _ (hS93.re ⟨rfl, rfl, (by rw [hb80]; rfl), trivial⟩)
              · refine st_valW hS79 (want_on hS79 rfl rfl rfl hb80) rfl rfl (r_move hS79 rfl rfl) fun a94 hS94 => st_valW hS94 (want_on hS94 rfl rfl rfl hb80) rfl rfl (r_move hS94 rfl rfl) fun a95 hS95 => st_valW hS95 (want_on hS95 rfl rfl rfl hb80) rfl rfl (r_index (e := 35) (sz := 3) (by_ := 24) hS95 rfl rfl rfl (by kernel_rfl) (RdS.some_ hp0 hx22) (idx_lo hx22) (idx_hi hx22)) fun a96 hS96 => st_valW hS96 (want_on hS96 rfl rfl rfl hb80) rfl rfl (r_fieldE (off := 2) hS96 rfl rfl (by kernel_rfl)) fun a97 hS97 => st_valW hS97 (want_on hS97 rfl rfl rfl hb80) rfl rfl (r_load1 (n := 1) hS97 rfl rfl (by kernel_rfl) (RdS.cell (i := m0_0) (sz := 3) (j := 2) hp0 hx22 rfl)) fun a98 hS98 => st_valW hS98 (want_on hS98 rfl rfl rfl hb80) rfl rfl (r_bin hS98 rfl rfl rfl b_gtr) fun a99 hS99 => st_val hS99 rfl rfl rfl (r_pickF hS99 rfl rfl rfl hb80) fun a100 hS100 => hk _ (hS100.re ⟨rfl, rfl, (by rw [hb80]; rfl), trivial⟩)
            intro a101 hS101
            refine wpList_nil (hK _ _ ?_)
            replace hS : Sl 84 _ [(0, .slice A0 p0.length cap0), (4, .int .i64 m0_0), (48, .bool ((((decide (x21.Supply < (-1))) || (decide ((p0.length : Int) ≤ x21.Supply))) || (decide (1048576 < x21.RampUp))) || (decide (1048576 < x21.RampDown))))] := hS101.re ⟨rfl, rfl, rfl, trivial⟩
            clear hK K
            try clear hS19 hS20 hS23 hS24 hS25 hS26 hS27 hS55 hS56 hS78 hS79 hS101
            obtain ⟨a, ha⟩ : ∃ a', a' = a101 := ⟨_, rfl⟩
            rw [← ha] at hS ⊢; clear ha
            refine c_cond hS rfl (fun hb102 => ?_) (fun hb102 => ?_)
            · replace H := ite_t hb102 H
              refine c_pure [(2, .pointer none), (3, .int .i64 1)] (fun R hR => st_val hS rfl rfl rfl (r_assign hS rfl rfl) fun a103 hS103 => st_val hS103 rfl rfl rfl (r_assign hS103 rfl rfl) fun a104 hS104 => wpList_nil (hR _ (hS104.re ⟨rfl, rfl, trivial⟩))) ?_
              clear hS
              clear a
              intro a hS
              refine wp_ret ?_
              have e := Option.some.inj H
              subst e
              replace H := Fl.go_out Hl11
              have e := Option.some.inj H
              subst e
              repeat (with_reducible first | refine then_ret ?_ | refine inBlock_ret ?_)
              exact c_ret2 hS Try.results14 rfl rfl ⟨_, rfl, g, none, rfl, rfl, hF⟩
            · replace H := ite_f hb102 H
              refine wp_skip ?_
              change Code.wp _ _ _ _ _
              refine c_pure1 [(0, .slice A0 p0.length cap0), (4, .int .i64 (wi (m0_0 + 1)))] (fun R hR => st_val hS rfl rfl rfl (r_move hS rfl rfl) fun a105 hS105 => st_val hS105 rfl rfl rfl (r_bin hS105 rfl rfl rfl b_add) fun a106 hS106 => st_val hS106 rfl rfl rfl (r_assign hS106 rfl rfl) fun a107 hS107 => wpList_nil (hR _ (hS107.re ⟨rfl, rfl, trivial⟩))) ?_
              clear hS
              clear a
              intro a hS
              refine ⟨k13, Nat.lt_succ_self _, ?_⟩
              exact ⟨wi (m0_0 + 1), H, rfl, hS.re ⟨rfl, rfl, trivial⟩⟩
          · replace H := ite_f hb18 H
            refine wp_exit ?_
            have e := Option.some.inj H
            exact ⟨e.symm, rfl, hS.re ⟨rfl, trivial⟩⟩
    · clear H
      clear hS
      rintro a w' ⟨hpre0, hw, hS⟩
      subst hpre0
      subst hw
      have H := Fl.go_nxt Hl11
      clear Hl11
      obtain ⟨o109, H, Hl110⟩ := bind_el H
      refine c_cut (fun a w' => o109 = .nxt () ∧ w = w' ∧ Sl 84 a [(0, .slice A0 p0.length cap0)]) ?_ ?_
      · refine c_pure [(0, .slice A0 p0.length cap0), (5, .int .i64 0)] (fun R hR => st_val hS rfl rfl rfl (r_assign hS rfl rfl) fun a111 hS111 => wpList_nil (hR _ (hS111.re ⟨rfl, rfl, trivial⟩))) ?_
        clear hS
        clear a
        intro a hS
        refine wp_block ?_
        refine wp_loop_ghost (fun kq => fun a w' => ∃ (m1_0 : Int), ref25_New.l1 p0 kq m1_0 = some o109 ∧ w = w' ∧ Sl 84 a [(0, .slice A0 p0.length cap0), (5, .int .i64 m1_0)]) FUEL ?_ ?_
        · exact ⟨0, H, rfl, hS.re ⟨rfl, rfl, trivial⟩⟩
        · clear H
          clear hS
          rintro k112 a w' ⟨m1_0, hpre0, hw, hS⟩
          subst hw
          have H := hpre0
          clear hpre0
          cases k112 with
          | zero => exact absurd H (by simp [ref25_New.l1])
          | succ k112 =>
            rw [ref25_New.l1] at H
            refine wp_seq ?_
            refine c_pure [(0, .slice A0 p0.length cap0), (5, .int .i64 m1_0), (52, .bool (decide (m1_0 < (p0.length : Int))))] (fun R hR => st_val hS rfl rfl rfl (r_move hS rfl rfl) fun a113 hS113 => st_val hS113 rfl rfl rfl (r_move hS113 rfl rfl) fun a114 hS114 => st_val hS114 rfl rfl rfl (r_len (e := 35) (sz := 3) (by_ := 24) hS114 rfl rfl (by kernel_rfl)) fun a115 hS115 => st_val hS115 rfl rfl rfl (r_bin hS115 rfl rfl rfl b_lss) fun a116 hS116 => wpList_nil (hR _ (hS116.re ⟨rfl, rfl, rfl, trivial⟩))) ?_
            clear hS
            clear a
            intro a hS
            refine c_cond hS rfl (fun hb117 => ?_) (fun hb117 => ?_)
            · replace H := ite_t hb117 H
              refine wp_skip ?_
              change Code.wp _ _ _ _ _
              obtain ⟨o119, H, Hl120⟩ := bind_el H
              refine c_cut (fun a w' => o119 = .nxt () ∧ w = w' ∧ Sl 84 a [(0, .slice A0 p0.length cap0), (5, .int .i64 m1_0)]) ?_ ?_
              · refine wp_block ?_
                refine c_pure [(0, .slice A0 p0.length cap0), (5, .int .i64 m1_0), (6, .int .i64 m1_0)] (fun R hR => st_val hS rfl rfl rfl (r_move hS rfl rfl) fun a121 hS121 => st_val hS121 rfl rfl rfl (r_assign hS121 rfl rfl) fun a122 hS122 => wpList_nil (hR _ (hS122.re ⟨rfl, rfl, rfl, trivial⟩))) ?_
                clear hS
                clear a
                intro a hS
                obtain ⟨v123, H, Hl125⟩ := bind_el H
                refine c_cut (fun a w' => w = w' ∧ Sl 84 a [(0, .slice A0 p0.length cap0), (5, .int .i64 m1_0), (6, .int .i64 v123)]) ?_ ?_
                · refine c_pure [(0, .slice A0 p0.length cap0), (5, .int .i64 m1_0), (6, .int .i64 m1_0), (7, .int .i64 0)] (fun R hR => st_val hS rfl rfl rfl (r_assign hS rfl rfl) fun a126 hS126 => wpList_nil (hR _ (hS126.re ⟨rfl, rfl, rfl, rfl, trivial⟩))) ?_
                  clear hS
                  clear a
                  intro a hS
                  refine wp_block ?_
                  refine wp_loop_ghost (fun kq => fun a w' => ∃ (m2_0 : Int), ∃ (m2_1 : Int), ref25_New.l2 p0 kq m2_0 m2_1 = some v123 ∧ w = w' ∧ Sl 84 a [(0, .slice A0 p0.length cap0), (5, .int .i64 m1_0), (6, .int .i64 m2_0), (7, .int .i64 m2_1)]) FUEL ?_ ?_
                  · exact ⟨m1_0, 0, H, rfl, hS.re ⟨rfl, rfl, rfl, rfl, trivial⟩⟩
                  · clear H
                    clear hS
                    rintro k127 a w' ⟨m2_0, m2_1, hpre0, hw, hS⟩
                    subst hw
                    have H := hpre0
                    clear hpre0
                    cases k127 with
                    | zero => exact absurd H (by simp [ref25_New.l2])
                    | succ k127 =>
                      rw [ref25_New.l2] at H
                      refine wp_seq ?_
                      refine c_region (fun K hK => ?_)
                      refine st_val hS rfl rfl rfl (r_move hS rfl rfl) fun a128 hS128 => st_val hS128 rfl rfl rfl (r_move hS128 rfl rfl) fun a129 hS129 => st_val hS129 rfl rfl rfl (r_len (e := 35) (sz := 3) (by_ := 24) hS129 rfl rfl (by kernel_rfl)) fun a130 hS130 => st_val hS130 rfl rfl rfl (r_bin hS130 rfl rfl rfl b_lss) fun a131 hS131 => st_val hS131 rfl rfl rfl (r_move hS131 rfl rfl) fun a132 hS132 => ?_
                      refine g_join (N := 84) 3 [(0, .slice A0 p0.length cap0), (5, .int .i64 m1_0), (6, .int .i64 m2_0), (7, .int .i64 m2_1), (63, .bool ((decide (m2_1 < (p0.length : Int))) && (decide (0 ≤ m2_0))))] ?_ (fun hk => ?_)
                      rotate_left
                      · rcases Bool.eq_false_or_eq_true (decide (m2_1 < (p0.length : Int))) with hb133 | hb133
                        · refine st_valW hS132 (want_on hS132 rfl rfl rfl hb133) rfl rfl (r_move hS132 rfl rfl) fun a136 hS136 => st_valW hS136 (want_on hS136 rfl rfl rfl hb133) rfl rfl (r_bin hS136 rfl rfl rfl b_geq) fun a137 hS137 => st_val hS137 rfl rfl rfl (r_pickT hS137 rfl rfl rfl hb133) fun a138 hS138 => hk _ (hS138.re ⟨rfl, rfl, rfl, rfl, (by rw [hb133]; rfl), trivial⟩)
                        · refine st_off hS132 (want_off hS132 rfl rfl rfl hb133) rfl rfl fun a139 hS139 => st_off hS139 (want_off hS139 rfl rfl rfl hb133) rfl rfl fun a140 hS140 => st_val hS140 rfl rfl rfl (r_pickF hS140 rfl rfl rfl hb133) fun a141 hS141 => hk _ (hS141.re ⟨rfl, rfl, rfl, rfl, (by rw [hb133]; rfl), trivial⟩)
                      intro a142 hS142
                      refine wpList_nil (hK _ _ ?_)
                      replace hS : Sl 84 _ [(0, .slice A0 p0.length cap0), (5, .int .i64 m1_0), (6, .int .i64 m2_0), (7, .int .i64 m2_1), (63, .bool ((decide (m2_1 < (p0.length : Int))) && (decide (0 ≤ m2_0))))] := hS142.re ⟨rfl, rfl, rfl, rfl, rfl, trivial⟩
                      clear hK K
                      try clear hS128 hS129 hS130 hS131 hS132 hS142
                      obtain ⟨a, ha⟩ : ∃ a', a' = a142 := ⟨_, rfl⟩
                      rw [← ha] at hS ⊢; clear ha
                      refine c_cond hS rfl (fun hb143 => ?_) (fun hb143 => ?_)
                      · replace H := ite_t hb143 H
                        refine wp_skip ?_
                        change Code.wp _ _ _ _ _
                        refine wp_seq ?_
                        refine wp_block ?_
                        obtain ⟨x146, hx147, H⟩ := bind_el H
                        refine c_pure1 [(0, .slice A0 p0.length cap0), (5, .int .i64 m1_0), (6, .int .i64 x146.Supply), (7, .int .i64 m2_1)] (fun R hR => st_val hS rfl rfl rfl (r_move hS rfl rfl) fun a144 hS144 => st_val hS144 rfl rfl rfl (r_move hS144 rfl rfl) fun a145 hS145 => st_val hS145 rfl rfl rfl (r_index (e := 35) (sz := 3) (by_ := 24) hS145 rfl rfl rfl (by kernel_rfl) (RdS.some_ hp0 hx147) (idx_lo hx147) (idx_hi hx147)) fun a148 hS148 => st_val hS148 rfl rfl rfl (r_fieldE (off := 0) hS148 rfl rfl (by kernel_rfl)) fun a149 hS149 => st_val hS149 rfl rfl rfl (r_load1 (n := 1) hS149 rfl rfl (by kernel_rfl) (RdS.cell (i := m2_0) (sz := 3) (j := 0) hp0 hx147 rfl)) fun a150 hS150 => st_val hS150 rfl rfl rfl (r_assign hS150 rfl rfl) fun a151 hS151 => wpList_nil (hR _ (hS151.re ⟨rfl, rfl, rfl, rfl, trivial⟩))) ?_
                        clear hS
                        clear a
                        intro a hS
                        change Code.wp _ _ _ _ _
                        refine c_pure1 [(0, .slice A0 p0.length cap0), (5, .int .i64 m1_0), (6, .int .i64 x146.Supply), (7, .int .i64 (wi (m2_1 + 1)))] (fun R hR => st_val hS rfl rfl rfl (r_move hS rfl rfl) fun a152 hS152 => st_val hS152 rfl rfl rfl (r_bin hS152 rfl rfl rfl b_add) fun a153 hS153 => st_val hS153 rfl rfl rfl (r_assign hS153 rfl rfl) fun a154 hS154 => wpList_nil (hR _ (hS154.re ⟨rfl, rfl, rfl, rfl, trivial⟩))) ?_
                        clear hS
                        clear a
                        intro a hS
                        refine ⟨k127, Nat.lt_succ_self _, ?_⟩
                        exact ⟨x146.Supply, wi (m2_1 + 1), H, rfl, hS.re ⟨rfl, rfl, rfl, rfl, trivial⟩⟩
                      · replace H := ite_f hb143 H
                        refine wp_exit ?_
                        have e := Option.some.inj H
                        subst e
                        exact ⟨rfl, hS.re ⟨rfl, rfl, rfl, trivial⟩⟩
                · clear H
                  clear hS
                  rintro a w' ⟨hw, hS⟩
                  subst hw
                  have H := Hl125
                  clear Hl125
                  refine c_pure [(0, .slice A0 p0.length cap0), (5, .int .i64 m1_0), (72, .bool (decide (0 ≤ v123)))] (fun R hR => st_val hS rfl rfl rfl (r_move hS rfl rfl) fun a155 hS155 => st_val hS155 rfl rfl rfl (r_bin hS155 rfl rfl rfl b_geq) fun a156 hS156 => wpList_nil (hR _ (hS156.re ⟨rfl, rfl, rfl, trivial⟩))) ?_
                  clear hS
                  clear a
                  intro a hS
                  refine c_cond hS rfl (fun hb157 => ?_) (fun hb157 => ?_)
                  · replace H := ite_t hb157 H
                    refine c_pure [(2, .pointer none), (3, .int .i64 18)] (fun R hR => st_val hS rfl rfl rfl (r_assign hS rfl rfl) fun a158 hS158 => st_val hS158 rfl rfl rfl (r_assign hS158 rfl rfl) fun a159 hS159 => wpList_nil (hR _ (hS159.re ⟨rfl, rfl, trivial⟩))) ?_
                    clear hS
                    clear a
                    intro a hS
                    refine wp_ret ?_
                    have e := Option.some.inj H
                    subst e
                    replace H := Fl.go_out Hl120
                    have e := Option.some.inj H
                    subst e
                    replace H := Fl.go_out Hl110
                    have e := Option.some.inj H
                    subst e
                    repeat (with_reducible first | refine then_ret ?_ | refine inBlock_ret ?_)
                    exact c_ret2 hS Try.results14 rfl rfl ⟨_, rfl, g, none, rfl, rfl, hF⟩
                  · replace H := ite_f hb157 H
                    refine wp_skip ?_
                    have e := Option.some.inj H
                    exact ⟨e.symm, rfl, hS.re ⟨rfl, rfl, trivial⟩⟩
              · clear H
                clear hS
                rintro a w' ⟨hpre0, hw, hS⟩
                subst hpre0
                subst hw
                have H := Fl.go_nxt Hl120
                clear Hl120
                refine c_pure1 [(0, .slice A0 p0.length cap0), (5, .int .i64 (wi (m1_0 + 1)))] (fun R hR => st_val hS rfl rfl rfl (r_move hS rfl rfl) fun a160 hS160 => st_val hS160 rfl rfl rfl (r_bin hS160 rfl rfl rfl b_add) fun a161 hS161 => st_val hS161 rfl rfl rfl (r_assign hS161 rfl rfl) fun a162 hS162 => wpList_nil (hR _ (hS162.re ⟨rfl, rfl, trivial⟩))) ?_
                clear hS
                clear a
                intro a hS
                refine ⟨k112, Nat.lt_succ_self _, ?_⟩
                exact ⟨wi (m1_0 + 1), H, rfl, hS.re ⟨rfl, rfl, trivial⟩⟩
            · replace H := ite_f hb117 H
              refine wp_exit ?_
              have e := Option.some.inj H
              exact ⟨e.symm, rfl, hS.re ⟨rfl, trivial⟩⟩
      · clear H
        clear hS
        rintro a w' ⟨hpre0, hw, hS⟩
        subst hpre0
        subst hw
        have H := Fl.go_nxt Hl110
        clear Hl110
        obtain ⟨y166, hy167, H⟩ := bind_el H
        obtain ⟨y172, hy173, H⟩ := bind_el H
        obtain ⟨y178, hy179, H⟩ := bind_el H
        refine c_cut (fun a w488 => ∃ (g488 : Nat → Nat), ∃ (b489 : Nat), ∃ (A491 : Option Addr), ∃ (cap492 : Nat), ∃ (A494 : Option Addr), ∃ (cap495 : Nat), ∃ (A497 : Option Addr), ∃ (cap498 : Nat), Sl 84 a [(2, .pointer (some ⟨b489, 0, none⟩)), (3, .int .i64 0)] ∧ OwS kd_api_Rail 35 w488 g488 (N + 0) A491 cap492 y166 ∧ OwS (kint .i64) 3 w488 g488 (N + 2) A494 cap495 y172 ∧ OwS (kint .u64) 33 w488 g488 (N + 4) A497 cap498 y178 ∧ Bx w488 g488 (N + 6) b489 41 [.slice A491 y166.length cap492, .slice A494 y172.length cap495, .slice A497 y178.length cap498, .int .u64 0] ∧ Fr (fun q => (r0 ≤ q ∧ q < r0 + 7) ∨ N ≤ q) w g w488 g488) (d_start (fun q => q = N + 0) g [] 13 #[false, false, false, false, false, false, false, false, false, false, false, false, false] (by kernel_rfl) rfl rfl (fun w500 hw500 => ?_)) ?_
        · have F500 : Fr (fun _ => False) w g w500 g := by rw [hw500]; exact Fr.drew _ _ _
          replace hp0 := RdS.fr hp0 F500 (by decide) (fun _ _ h => h)
          replace hF := hF.trans F500 (fun _ h => h.elim)
          have hC : Fr (fun q => q = N + 0) w500 g w500 g := Fr.refl _ _ _
          refine d_pure hS 1 #[false, true, false, false, false, false, false, false, false, false, false, false, false] rfl rfl rfl rfl (by kernel_rfl) (fun _ _ _ h => h) (fun _ => (r_move hS rfl rfl)) fun a501 hS501 => d_pure hS501 3 #[false, true, false, true, false, false, false, false, false, false, false, false, false] rfl rfl rfl rfl (by kernel_rfl) (fun _ _ _ h => h) (fun _ => (r_move hS501 rfl rfl)) fun a502 hS502 => d_pure hS502 4 #[false, true, false, true, true, false, false, false, false, false, false, false, false] rfl rfl rfl rfl (by kernel_rfl) (fun _ _ _ h => h) (fun _ => (r_len (e := 35) (sz := 3) (by_ := 24) hS502 rfl rfl (by kernel_rfl))) fun a503 hS503 => d_pure hS503 6 #[false, true, false, true, true, false, true, false, false, false, false, false, false] rfl rfl rfl rfl (by kernel_rfl) (fun _ _ _ h => h) (fun _ => (r_move hS503 rfl rfl)) fun a504 hS504 => d_pure hS504 7 #[false, true, false, true, true, false, true, true, false, false, false, false, false] rfl rfl rfl rfl (by kernel_rfl) (fun _ _ _ h => h) (fun _ => (r_len (e := 35) (sz := 3) (by_ := 24) hS504 rfl rfl (by kernel_rfl))) fun a505 hS505 => ?_
          refine d_three 0 5 8 #[true, true, false, true, true, false, true, true, false, false, false, false, false] #[false, true, false, true, true, true, true, true, false, false, false, false, false] #[false, true, false, true, true, false, true, true, true, false, false, false, false] rfl rfl rfl (by kernel_rfl) (arm_eff hS505 rfl rfl rfl (e_lit (e := 35) (parts := []) (cs := []) kd_api_Rail ([] : List api_Rail) (N + 0) g hS505 rfl rfl (fun _ => by kernel_rfl) rfl (by decide) Rows.nil) (fun _ _ g' hR _ => ⟨g', hC.trans hR.2 (fun _ h => h.elim)⟩) ?_) (arm_eff hS505 rfl rfl rfl (e_make (e := 3) (sz := 1) (by_ := 8) (z := [.int .i64 0]) (kd := (kint .i64)) (N + 2) g hS505 rfl rfl (by kernel_rfl) (by kernel_rfl) rfl rfl rfl (fun _ _ _ => by exact rfl) hy173) (fun _ _ g' hR _ => ⟨g', hC.trans hR.2 (fun _ h => h.elim)⟩) ?_) (arm_eff hS505 rfl rfl rfl (e_make (e := 33) (sz := 1) (by_ := 8) (z := [.int .u64 0]) (kd := (kint .u64)) (N + 4) g hS505 rfl rfl (by kernel_rfl) (by kernel_rfl) rfl rfl rfl (fun _ _ _ => by exact rfl) hy179) (fun _ _ g' hR _ => ⟨g', hC.trans hR.2 (fun _ h => h.elim)⟩) ?_)
          · rintro _ a509 w510 g510 ⟨⟨A506, rfl, h507⟩, F510⟩ hS509
            have hC510 := hC.trans F510 (fun _ h => h.elim)
            replace hp0 := RdS.fr hp0 F510 (by decide) (fun _ _ h => h)
            replace hF := hF.trans F510 (fun _ h => h.elim)
            refine d_three 2 5 8 #[true, true, true, true, true, false, true, true, false, false, false, false, false] #[true, true, false, true, true, true, true, true, false, false, false, false, false] #[true, true, false, true, true, false, true, true, true, false, false, false, false] rfl rfl rfl (by kernel_rfl) (arm_eff hS509 rfl rfl rfl (e_append (e := 35) (sz := 3) (by_ := 24) (z := [.int .i64 0, .int .u64 0, .int .u64 0]) (kd := kd_api_Rail) g510 hS509 rfl rfl rfl rfl (by kernel_rfl) (by kernel_rfl) rfl rfl rfl rfl h507 hp0 (fun _ _ _ h => h) hy167) (fun _ _ g' hR _ => ⟨g', hC510.trans hR.2 (fun c' (hm : c' = N + 0) => by show c' = N + 0; omega)⟩) ?_) (arm_eff hS509 rfl rfl rfl (e_make (e := 3) (sz := 1) (by_ := 8) (z := [.int .i64 0]) (kd := (kint .i64)) (N + 2) g510 hS509 rfl rfl (by kernel_rfl) (by kernel_rfl) rfl rfl rfl (fun _ _ _ => by exact rfl) hy173) (fun _ _ g' hR _ => ⟨g', hC510.trans hR.2 (fun _ h => h.elim)⟩) ?_) (arm_eff hS509 rfl rfl rfl (e_make (e := 33) (sz := 1) (by_ := 8) (z := [.int .u64 0]) (kd := (kint .u64)) (N + 4) g510 hS509 rfl rfl (by kernel_rfl) (by kernel_rfl) rfl rfl rfl (fun _ _ _ => by exact rfl) hy179) (fun _ _ g' hR _ => ⟨g', hC510.trans hR.2 (fun _ h => h.elim)⟩) ?_)
            · rintro _ a515 w516 g516 ⟨⟨A511, cap512, rfl, h513⟩, F516⟩ hS515
              have hC516 := hC510.trans F516 (fun c' (hm : c' = N + 0) => by show c' = N + 0; omega)
              replace hp0 := RdS.fr hp0 F516 (by decide) (fun q (hq : C0 q) (hm : q = N + 0) => by have := hC0 q hq; omega)
              replace hF := hF.trans F516 (fun c' (hm : c' = N + 0) => by show (r0 ≤ c' ∧ c' < r0 + 7) ∨ N ≤ c'; omega)
              refine d_two 5 8 #[true, true, true, true, true, true, true, true, false, false, false, false, false] #[true, true, true, true, true, false, true, true, true, false, false, false, false] rfl rfl (by kernel_rfl) (arm_eff hS515 rfl rfl rfl (e_make (e := 3) (sz := 1) (by_ := 8) (z := [.int .i64 0]) (kd := (kint .i64)) (N + 2) g516 hS515 rfl rfl (by kernel_rfl) (by kernel_rfl) rfl rfl rfl (fun _ _ _ => by exact rfl) hy173) (fun _ _ g' hR _ => ⟨g', hC516.trans hR.2 (fun _ h => h.elim)⟩) ?_) (arm_eff hS515 rfl rfl rfl (e_make (e := 33) (sz := 1) (by_ := 8) (z := [.int .u64 0]) (kd := (kint .u64)) (N + 4) g516 hS515 rfl rfl (by kernel_rfl) (by kernel_rfl) rfl rfl rfl (fun _ _ _ => by exact rfl) hy179) (fun _ _ g' hR _ => ⟨g', hC516.trans hR.2 (fun _ h => h.elim)⟩) ?_)
              · rintro _ a521 w522 g522 ⟨⟨A517, cap518, rfl, h519⟩, F522⟩ hS521
                have hC522 := hC516.trans F522 (fun _ h => h.elim)
                replace h513 := OwS.fr h513 F522 (fun _ _ h => h)
                replace hp0 := RdS.fr hp0 F522 (by decide) (fun _ _ h => h)
                replace hF := hF.trans F522 (fun _ h => h.elim)
                refine d_one 8 #[true, true, true, true, true, true, true, true, true, false, false, false, false] rfl (by kernel_rfl) (arm_eff hS521 rfl rfl rfl (e_make (e := 33) (sz := 1) (by_ := 8) (z := [.int .u64 0]) (kd := (kint .u64)) (N + 4) g522 hS521 rfl rfl (by kernel_rfl) (by kernel_rfl) rfl rfl rfl (fun _ _ _ => by exact rfl) hy179) (fun _ _ g' hR _ => ⟨g', hC522.trans hR.2 (fun _ h => h.elim)⟩) ?_)
                rintro _ a527 w528 g528 ⟨⟨A523, cap524, rfl, h525⟩, F528⟩ hS527
                have hC528 := hC522.trans F528 (fun _ h => h.elim)
                replace h513 := OwS.fr h513 F528 (fun _ _ h => h)
                replace h519 := OwS.fr h519 F528 (fun _ _ h => h)
                replace hp0 := RdS.fr hp0 F528 (by decide) (fun _ _ h => h)
                replace hF := hF.trans F528 (fun _ h => h.elim)
                refine d_pure hS527 9 #[true, true, true, true, true, true, true, true, true, true, false, false, false] rfl rfl rfl rfl (by kernel_rfl) (fun _ _ _ h => h) (fun _ => (r_build (parts := [(0, .slice A511 y166.length cap512), (1, .slice A517 y172.length cap518), (2, .slice A523 y178.length cap524)]) (u := .agg #[.slice A511 y166.length cap512, .slice A517 y172.length cap518, .slice A523 y178.length cap524, .int .u64 0]) hS527 rfl rfl (fun _ => by kernel_rfl))) fun a529 hS529 => ?_
                refine d_one 10 #[true, true, true, true, true, true, true, true, true, true, true, false, false] rfl (by kernel_rfl) (arm_eff hS529 rfl rfl rfl (e_box (cs := [.slice A511 y166.length cap512, .slice A517 y172.length cap518, .slice A523 y178.length cap524, .int .u64 0]) (N + 6) g528 hS529 rfl rfl rfl) (fun _ _ g' hR _ => ⟨g', hC528.trans hR.2 (fun _ h => h.elim)⟩) ?_)
                rintro _ a533 w534 g534 ⟨⟨b530, rfl, h531⟩, F534⟩ hS533
                have hC534 := hC528.trans F534 (fun _ h => h.elim)
                replace h513 := OwS.fr h513 F534 (fun _ _ h => h)
                replace h519 := OwS.fr h519 F534 (fun _ _ h => h)
                replace h525 := OwS.fr h525 F534 (fun _ _ h => h)
                replace hp0 := RdS.fr hp0 F534 (by decide) (fun _ _ h => h)
                replace hF := hF.trans F534 (fun _ h => h.elim)
                refine d_pure hS533 11 #[true, true, true, true, true, true, true, true, true, true, true, true, false] rfl rfl rfl rfl (by kernel_rfl) (fun _ _ _ h => h) (fun _ => (r_assign hS533 rfl rfl)) fun a535 hS535 => d_pure hS535 12 #[true, true, true, true, true, true, true, true, true, true, true, true, true] rfl rfl rfl rfl (by kernel_rfl) (fun _ _ _ h => h) (fun _ => (r_assign hS535 rfl rfl)) fun a536 hS536 => d_done (by kernel_rfl) ?_
                exact ⟨g534, b530, A511, cap512, A517, cap518, A523, cap524, hS536.re ⟨rfl, rfl, trivial⟩, h513, h519, h525, h531, hF⟩
              · rintro _ a541 w542 g542 ⟨⟨A537, cap538, rfl, h539⟩, F542⟩ hS541
                have hC542 := hC516.trans F542 (fun _ h => h.elim)
                replace h513 := OwS.fr h513 F542 (fun _ _ h => h)
                replace hp0 := RdS.fr hp0 F542 (by decide) (fun _ _ h => h)
                replace hF := hF.trans F542 (fun _ h => h.elim)
                refine d_one 5 #[true, true, true, true, true, true, true, true, true, false, false, false, false] rfl (by kernel_rfl) (arm_eff hS541 rfl rfl rfl (e_make (e := 3) (sz := 1) (by_ := 8) (z := [.int .i64 0]) (kd := (kint .i64)) (N + 2) g542 hS541 rfl rfl (by kernel_rfl) (by kernel_rfl) rfl rfl rfl (fun _ _ _ => by exact rfl) hy173) (fun _ _ g' hR _ => ⟨g', hC542.trans hR.2 (fun _ h => h.elim)⟩) ?_)
                rintro _ a547 w548 g548 ⟨⟨A543, cap544, rfl, h545⟩, F548⟩ hS547
                have hC548 := hC542.trans F548 (fun _ h => h.elim)
                replace h513 := OwS.fr h513 F548 (fun _ _ h => h)
                replace h539 := OwS.fr h539 F548 (fun _ _ h => h)
                replace hp0 := RdS.fr hp0 F548 (by decide) (fun _ _ h => h)
                replace hF := hF.trans F548 (fun _ h => h.elim)
                refine d_pure hS547 9 #[true, true, true, true, true, true, true, true, true, true, false, false, false] rfl rfl rfl rfl (by kernel_rfl) (fun _ _ _ h => h) (fun _ => (r_build (parts := [(0, .slice A511 y166.length cap512), (1, .slice A543 y172.length cap544), (2, .slice A537 y178.length cap538)]) (u := .agg #[.slice A511 y166.length cap512, .slice A543 y172.length cap544, .slice A537 y178.length cap538, .int .u64 0]) hS547 rfl rfl (fun _ => by kernel_rfl))) fun a549 hS549 => ?_
                refine d_one 10 #[true, true, true, true, true, true, true, true, true, true, true, false, false] rfl (by kernel_rfl) (arm_eff hS549 rfl rfl rfl (e_box (cs := [.slice A511 y166.length cap512, .slice A543 y172.length cap544, .slice A537 y178.length cap538, .int .u64 0]) (N + 6) g548 hS549 rfl rfl rfl) (fun _ _ g' hR _ => ⟨g', hC548.trans hR.2 (fun _ h => h.elim)⟩) ?_)
                rintro _ a553 w554 g554 ⟨⟨b550, rfl, h551⟩, F554⟩ hS553
                have hC554 := hC548.trans F554 (fun _ h => h.elim)
                replace h513 := OwS.fr h513 F554 (fun _ _ h => h)
                replace h539 := OwS.fr h539 F554 (fun _ _ h => h)
                replace h545 := OwS.fr h545 F554 (fun _ _ h => h)
                replace hp0 := RdS.fr hp0 F554 (by decide) (fun _ _ h => h)
                replace hF := hF.trans F554 (fun _ h => h.elim)
                refine d_pure hS553 11 #[true, true, true, true, true, true, true, true, true, true, true, true, false] rfl rfl rfl rfl (by kernel_rfl) (fun _ _ _ h => h) (fun _ => (r_assign hS553 rfl rfl)) fun a555 hS555 => d_pure hS555 12 #[true, true, true, true, true, true, true, true, true, true, true, true, true] rfl rfl rfl rfl (by kernel_rfl) (fun _ _ _ h => h) (fun _ => (r_assign hS555 rfl rfl)) fun a556 hS556 => d_done (by kernel_rfl) ?_
                exact ⟨g554, b550, A511, cap512, A543, cap544, A537, cap538, hS556.re ⟨rfl, rfl, trivial⟩, h513, h545, h539, h551, hF⟩
            · rintro _ a561 w562 g562 ⟨⟨A557, cap558, rfl, h559⟩, F562⟩ hS561
              have hC562 := hC510.trans F562 (fun _ h => h.elim)
              replace h507 := OwS.fr h507 F562 (fun _ _ h => h)
              replace hp0 := RdS.fr hp0 F562 (by decide) (fun _ _ h => h)
              replace hF := hF.trans F562 (fun _ h => h.elim)
              refine d_two 2 8 #[true, true, true, true, true, true, true, true, false, false, false, false, false] #[true, true, false, true, true, true, true, true, true, false, false, false, false] rfl rfl (by kernel_rfl) (arm_eff hS561 rfl rfl rfl (e_append (e := 35) (sz := 3) (by_ := 24) (z := [.int .i64 0, .int .u64 0, .int .u64 0]) (kd := kd_api_Rail) g562 hS561 rfl rfl rfl rfl (by kernel_rfl) (by kernel_rfl) rfl rfl rfl rfl h507 hp0 (fun _ _ _ h => h) hy167) (fun _ _ g' hR _ => ⟨g', hC562.trans hR.2 (fun c' (hm : c' = N + 0) => by show c' = N + 0; omega)⟩) ?_) (arm_eff hS561 rfl rfl rfl (e_make (e := 33) (sz := 1) (by_ := 8) (z := [.int .u64 0]) (kd := (kint .u64)) (N + 4) g562 hS561 rfl rfl (by kernel_rfl) (by kernel_rfl) rfl rfl rfl (fun _ _ _ => by exact rfl) hy179) (fun _ _ g' hR _ => ⟨g', hC562.trans hR.2 (fun _ h => h.elim)⟩) ?_)
              · rintro _ a567 w568 g568 ⟨⟨A563, cap564, rfl, h565⟩, F568⟩ hS567
                have hC568 := hC562.trans F568 (fun c' (hm : c' = N + 0) => by show c' = N + 0; omega)
                replace h559 := OwS.fr h559 F568 (fun c' hc (hm : c' = N + 0) => by omega)
                replace hp0 := RdS.fr hp0 F568 (by decide) (fun q (hq : C0 q) (hm : q = N + 0) => by have := hC0 q hq; omega)
                replace hF := hF.trans F568 (fun c' (hm : c' = N + 0) => by show (r0 ≤ c' ∧ c' < r0 + 7) ∨ N ≤ c'; omega)
                refine d_one 8 #[true, true, true, true, true, true, true, true, true, false, false, false, false] rfl (by kernel_rfl) (arm_eff hS567 rfl rfl rfl (e_make (e := 33) (sz := 1) (by_ := 8) (z := [.int .u64 0]) (kd := (kint .u64)) (N + 4) g568 hS567 rfl rfl (by kernel_rfl) (by kernel_rfl) rfl rfl rfl (fun _ _ _ => by exact rfl) hy179) (fun _ _ g' hR _ => ⟨g', hC568.trans hR.2 (fun _ h => h.elim)⟩) ?_)
                rintro _ a573 w574 g574 ⟨⟨A569, cap570, rfl, h571⟩, F574⟩ hS573
                have hC574 := hC568.trans F574 (fun _ h => h.elim)
                replace h559 := OwS.fr h559 F574 (fun _ _ h => h)
                replace h565 := OwS.fr h565 F574 (fun _ _ h => h)
                replace hp0 := RdS.fr hp0 F574 (by decide) (fun _ _ h => h)
                replace hF := hF.trans F574 (fun _ h => h.elim)
                refine d_pure hS573 9 #[true, true, true, true, true, true, true, true, true, true, false, false, false] rfl rfl rfl rfl (by kernel_rfl) (fun _ _ _ h => h) (fun _ => (r_build (parts := [(0, .slice A563 y166.length cap564), (1, .slice A557 y172.length cap558), (2, .slice A569 y178.length cap570)]) (u := .agg #[.slice A563 y166.length cap564, .slice A557 y172.length cap558, .slice A569 y178.length cap570, .int .u64 0]) hS573 rfl rfl (fun _ => by kernel_rfl))) fun a575 hS575 => ?_
                refine d_one 10 #[true, true, true, true, true, true, true, true, true, true, true, false, false] rfl (by kernel_rfl) (arm_eff hS575 rfl rfl rfl (e_box (cs := [.slice A563 y166.length cap564, .slice A557 y172.length cap558, .slice A569 y178.length cap570, .int .u64 0]) (N + 6) g574 hS575 rfl rfl rfl) (fun _ _ g' hR _ => ⟨g', hC574.trans hR.2 (fun _ h => h.elim)⟩) ?_)
                rintro _ a579 w580 g580 ⟨⟨b576, rfl, h577⟩, F580⟩ hS579
                have hC580 := hC574.trans F580 (fun _ h => h.elim)
                replace h559 := OwS.fr h559 F580 (fun _ _ h => h)
                replace h565 := OwS.fr h565 F580 (fun _ _ h => h)
                replace h571 := OwS.fr h571 F580 (fun _ _ h => h)
                replace hp0 := RdS.fr hp0 F580 (by decide) (fun _ _ h => h)
                replace hF := hF.trans F580 (fun _ h => h.elim)
                refine d_pure hS579 11 #[true, true, true, true, true, true, true, true, true, true, true, true, false] rfl rfl rfl rfl (by kernel_rfl) (fun _ _ _ h => h) (fun _ => (r_assign hS579 rfl rfl)) fun a581 hS581 => d_pure hS581 12 #[true, true, true, true, true, true, true, true, true, true, true, true, true] rfl rfl rfl rfl (by kernel_rfl) (fun _ _ _ h => h) (fun _ => (r_assign hS581 rfl rfl)) fun a582 hS582 => d_done (by kernel_rfl) ?_
                exact ⟨g580, b576, A563, cap564, A557, cap558, A569, cap570, hS582.re ⟨rfl, rfl, trivial⟩, h565, h559, h571, h577, hF⟩
              · rintro _ a587 w588 g588 ⟨⟨A583, cap584, rfl, h585⟩, F588⟩ hS587
                have hC588 := hC562.trans F588 (fun _ h => h.elim)
                replace h507 := OwS.fr h507 F588 (fun _ _ h => h)
                replace h559 := OwS.fr h559 F588 (fun _ _ h => h)
                replace hp0 := RdS.fr hp0 F588 (by decide) (fun _ _ h => h)
                replace hF := hF.trans F588 (fun _ h => h.elim)
                refine d_one 2 #[true, true, true, true, true, true, true, true, true, false, false, false, false] rfl (by kernel_rfl) (arm_eff hS587 rfl rfl rfl (e_append (e := 35) (sz := 3) (by_ := 24) (z := [.int .i64 0, .int .u64 0, .int .u64 0]) (kd := kd_api_Rail) g588 hS587 rfl rfl rfl rfl (by kernel_rfl) (by kernel_rfl) rfl rfl rfl rfl h507 hp0 (fun _ _ _ h => h) hy167) (fun _ _ g' hR _ => ⟨g', hC588.trans hR.2 (fun c' (hm : c' = N + 0) => by show c' = N + 0; omega)⟩) ?_)
                rintro _ a593 w594 g594 ⟨⟨A589, cap590, rfl, h591⟩, F594⟩ hS593
                have hC594 := hC588.trans F594 (fun c' (hm : c' = N + 0) => by show c' = N + 0; omega)
                replace h559 := OwS.fr h559 F594 (fun c' hc (hm : c' = N + 0) => by omega)
                replace h585 := OwS.fr h585 F594 (fun c' hc (hm : c' = N + 0) => by omega)
                replace hp0 := RdS.fr hp0 F594 (by decide) (fun q (hq : C0 q) (hm : q = N + 0) => by have := hC0 q hq; omega)
                replace hF := hF.trans F594 (fun c' (hm : c' = N + 0) => by show (r0 ≤ c' ∧ c' < r0 + 7) ∨ N ≤ c'; omega)
                refine d_pure hS593 9 #[true, true, true, true, true, true, true, true, true, true, false, false, false] rfl rfl rfl rfl (by kernel_rfl) (fun _ _ _ h => h) (fun _ => (r_build (parts := [(0, .slice A589 y166.length cap590), (1, .slice A557 y172.length cap558), (2, .slice A583 y178.length cap584)]) (u := .agg #[.slice A589 y166.length cap590, .slice A557 y172.length cap558, .slice A583 y178.length cap584, .int .u64 0]) hS593 rfl rfl (fun _ => by kernel_rfl))) fun a595 hS595 => ?_
                refine d_one 10 #[true, true, true, true, true, true, true, true, true, true, true, false, false] rfl (by kernel_rfl) (arm_eff hS595 rfl rfl rfl (e_box (cs := [.slice A589 y166.length cap590, .slice A557 y172.length cap558, .slice A583 y178.length cap584, .int .u64 0]) (N + 6) g594 hS595 rfl rfl rfl) (fun _ _ g' hR _ => ⟨g', hC594.trans hR.2 (fun _ h => h.elim)⟩) ?_)
                rintro _ a599 w600 g600 ⟨⟨b596, rfl, h597⟩, F600⟩ hS599
                have hC600 := hC594.trans F600 (fun _ h => h.elim)
                replace h559 := OwS.fr h559 F600 (fun _ _ h => h)
                replace h585 := OwS.fr h585 F600 (fun _ _ h => h)
                replace h591 := OwS.fr h591 F600 (fun _ _ h => h)
                replace hp0 := RdS.fr hp0 F600 (by decide) (fun _ _ h => h)
                replace hF := hF.trans F600 (fun _ h => h.elim)
                refine d_pure hS599 11 #[true, true, true, true, true, true, true, true, true, true, true, true, false] rfl rfl rfl rfl (by kernel_rfl) (fun _ _ _ h => h) (fun _ => (r_assign hS599 rfl rfl)) fun a601 hS601 => d_pure hS601 12 #[true, true, true, true, true, true, true, true, true, true, true, true, true] rfl rfl rfl rfl (by kernel_rfl) (fun _ _ _ h => h) (fun _ => (r_assign hS601 rfl rfl)) fun a602 hS602 => d_done (by kernel_rfl) ?_
                exact ⟨g600, b596, A589, cap590, A557, cap558, A583, cap584, hS602.re ⟨rfl, rfl, trivial⟩, h591, h559, h585, h597, hF⟩
            · rintro _ a607 w608 g608 ⟨⟨A603, cap604, rfl, h605⟩, F608⟩ hS607
              have hC608 := hC510.trans F608 (fun _ h => h.elim)
              replace h507 := OwS.fr h507 F608 (fun _ _ h => h)
              replace hp0 := RdS.fr hp0 F608 (by decide) (fun _ _ h => h)
              replace hF := hF.trans F608 (fun _ h => h.elim)
              refine d_two 2 5 #[true, true, true, true, true, false, true, true, true, false, false, false, false] #[true, true, false, true, true, true, true, true, true, false, false, false, false] rfl rfl (by kernel_rfl) (arm_eff hS607 rfl rfl rfl (e_append (e := 35) (sz := 3) (by_ := 24) (z := [.int .i64 0, .int .u64 0, .int .u64 0]) (kd := kd_api_Rail) g608 hS607 rfl rfl rfl rfl (by kernel_rfl) (by kernel_rfl) rfl rfl rfl rfl h507 hp0 (fun _ _ _ h => h) hy167) (fun _ _ g' hR _ => ⟨g', hC608.trans hR.2 (fun c' (hm : c' = N + 0) => by show c' = N + 0; omega)⟩) ?_) (arm_eff hS607 rfl rfl rfl (e_make (e := 3) (sz := 1) (by_ := 8) (z := [.int .i64 0]) (kd := (kint .i64)) (N + 2) g608 hS607 rfl rfl (by kernel_rfl) (by kernel_rfl) rfl rfl rfl (fun _ _ _ => by exact rfl) hy173) (fun _ _ g' hR _ => ⟨g', hC608.trans hR.2 (fun _ h => h.elim)⟩) ?_)
              · rintro _ a613 w614 g614 ⟨⟨A609, cap610, rfl, h611⟩, F614⟩ hS613
                have hC614 := hC608.trans F614 (fun c' (hm : c' = N + 0) => by show c' = N + 0; omega)
                replace h605 := OwS.fr h605 F614 (fun c' hc (hm : c' = N + 0) => by omega)
                replace hp0 := RdS.fr hp0 F614 (by decide) (fun q (hq : C0 q) (hm : q = N + 0) => by have := hC0 q hq; omega)
                replace hF := hF.trans F614 (fun c' (hm : c' = N + 0) => by show (r0 ≤ c' ∧ c' < r0 + 7) ∨ N ≤ c'; omega)
                refine d_one 5 #[true, true, true, true, true, true, true, true, true, false, false, false, false] rfl (by kernel_rfl) (arm_eff hS613 rfl rfl rfl (e_make (e := 3) (sz := 1) (by_ := 8) (z := [.int .i64 0]) (kd := (kint .i64)) (N + 2) g614 hS613 rfl rfl (by kernel_rfl) (by kernel_rfl) rfl rfl rfl (fun _ _ _ => by exact rfl) hy173) (fun _ _ g' hR _ => ⟨g', hC614.trans hR.2 (fun _ h => h.elim)⟩) ?_)
                rintro _ a619 w620 g620 ⟨⟨A615, cap616, rfl, h617⟩, F620⟩ hS619
                have hC620 := hC614.trans F620 (fun _ h => h.elim)
                replace h605 := OwS.fr h605 F620 (fun _ _ h => h)
                replace h611 := OwS.fr h611 F620 (fun _ _ h => h)
                replace hp0 := RdS.fr hp0 F620 (by decide) (fun _ _ h => h)
                replace hF := hF.trans F620 (fun _ h => h.elim)
                refine d_pure hS619 9 #[true, true, true, true, true, true, true, true, true, true, false, false, false] rfl rfl rfl rfl (by kernel_rfl) (fun _ _ _ h => h) (fun _ => (r_build (parts := [(0, .slice A609 y166.length cap610), (1, .slice A615 y172.length cap616), (2, .slice A603 y178.length cap604)]) (u := .agg #[.slice A609 y166.length cap610, .slice A615 y172.length cap616, .slice A603 y178.length cap604, .int .u64 0]) hS619 rfl rfl (fun _ => by kernel_rfl))) fun a621 hS621 => ?_
                refine d_one 10 #[true, true, true, true, true, true, true, true, true, true, true, false, false] rfl (by kernel_rfl) (arm_eff hS621 rfl rfl rfl (e_box (cs := [.slice A609 y166.length cap610, .slice A615 y172.length cap616, .slice A603 y178.length cap604, .int .u64 0]) (N + 6) g620 hS621 rfl rfl rfl) (fun _ _ g' hR _ => ⟨g', hC620.trans hR.2 (fun _ h => h.elim)⟩) ?_)
                rintro _ a625 w626 g626 ⟨⟨b622, rfl, h623⟩, F626⟩ hS625
                have hC626 := hC620.trans F626 (fun _ h => h.elim)
                replace h605 := OwS.fr h605 F626 (fun _ _ h => h)
                replace h611 := OwS.fr h611 F626 (fun _ _ h => h)
                replace h617 := OwS.fr h617 F626 (fun _ _ h => h)
                replace hp0 := RdS.fr hp0 F626 (by decide) (fun _ _ h => h)
                replace hF := hF.trans F626 (fun _ h => h.elim)
                refine d_pure hS625 11 #[true, true, true, true, true, true, true, true, true, true, true, true, false] rfl rfl rfl rfl (by kernel_rfl) (fun _ _ _ h => h) (fun _ => (r_assign hS625 rfl rfl)) fun a627 hS627 => d_pure hS627 12 #[true, true, true, true, true, true, true, true, true, true, true, true, true] rfl rfl rfl rfl (by kernel_rfl) (fun _ _ _ h => h) (fun _ => (r_assign hS627 rfl rfl)) fun a628 hS628 => d_done (by kernel_rfl) ?_
                exact ⟨g626, b622, A609, cap610, A615, cap616, A603, cap604, hS628.re ⟨rfl, rfl, trivial⟩, h611, h617, h605, h623, hF⟩
              · rintro _ a633 w634 g634 ⟨⟨A629, cap630, rfl, h631⟩, F634⟩ hS633
                have hC634 := hC608.trans F634 (fun _ h => h.elim)
                replace h507 := OwS.fr h507 F634 (fun _ _ h => h)
                replace h605 := OwS.fr h605 F634 (fun _ _ h => h)
                replace hp0 := RdS.fr hp0 F634 (by decide) (fun _ _ h => h)
                replace hF := hF.trans F634 (fun _ h => h.elim)
                refine d_one 2 #[true, true, true, true, true, true, true, true, true, false, false, false, false] rfl (by kernel_rfl) (arm_eff hS633 rfl rfl rfl (e_append (e := 35) (sz := 3) (by_ := 24) (z := [.int .i64 0, .int .u64 0, .int .u64 0]) (kd := kd_api_Rail) g634 hS633 rfl rfl rfl rfl (by kernel_rfl) (by kernel_rfl) rfl rfl rfl rfl h507 hp0 (fun _ _ _ h => h) hy167) (fun _ _ g' hR _ => ⟨g', hC634.trans hR.2 (fun c' (hm : c' = N + 0) => by show c' = N + 0; omega)⟩) ?_)
                rintro _ a639 w640 g640 ⟨⟨A635, cap636, rfl, h637⟩, F640⟩ hS639
                have hC640 := hC634.trans F640 (fun c' (hm : c' = N + 0) => by show c' = N + 0; omega)
                replace h605 := OwS.fr h605 F640 (fun c' hc (hm : c' = N + 0) => by omega)
                replace h631 := OwS.fr h631 F640 (fun c' hc (hm : c' = N + 0) => by omega)
                replace hp0 := RdS.fr hp0 F640 (by decide) (fun q (hq : C0 q) (hm : q = N + 0) => by have := hC0 q hq; omega)
                replace hF := hF.trans F640 (fun c' (hm : c' = N + 0) => by show (r0 ≤ c' ∧ c' < r0 + 7) ∨ N ≤ c'; omega)
                refine d_pure hS639 9 #[true, true, true, true, true, true, true, true, true, true, false, false, false] rfl rfl rfl rfl (by kernel_rfl) (fun _ _ _ h => h) (fun _ => (r_build (parts := [(0, .slice A635 y166.length cap636), (1, .slice A629 y172.length cap630), (2, .slice A603 y178.length cap604)]) (u := .agg #[.slice A635 y166.length cap636, .slice A629 y172.length cap630, .slice A603 y178.length cap604, .int .u64 0]) hS639 rfl rfl (fun _ => by kernel_rfl))) fun a641 hS641 => ?_
                refine d_one 10 #[true, true, true, true, true, true, true, true, true, true, true, false, false] rfl (by kernel_rfl) (arm_eff hS641 rfl rfl rfl (e_box (cs := [.slice A635 y166.length cap636, .slice A629 y172.length cap630, .slice A603 y178.length cap604, .int .u64 0]) (N + 6) g640 hS641 rfl rfl rfl) (fun _ _ g' hR _ => ⟨g', hC640.trans hR.2 (fun _ h => h.elim)⟩) ?_)
                rintro _ a645 w646 g646 ⟨⟨b642, rfl, h643⟩, F646⟩ hS645
                have hC646 := hC640.trans F646 (fun _ h => h.elim)
                replace h605 := OwS.fr h605 F646 (fun _ _ h => h)
                replace h631 := OwS.fr h631 F646 (fun _ _ h => h)
                replace h637 := OwS.fr h637 F646 (fun _ _ h => h)
                replace hp0 := RdS.fr hp0 F646 (by decide) (fun _ _ h => h)
                replace hF := hF.trans F646 (fun _ h => h.elim)
                refine d_pure hS645 11 #[true, true, true, true, true, true, true, true, true, true, true, true, false] rfl rfl rfl rfl (by kernel_rfl) (fun _ _ _ h => h) (fun _ => (r_assign hS645 rfl rfl)) fun a647 hS647 => d_pure hS647 12 #[true, true, true, true, true, true, true, true, true, true, true, true, true] rfl rfl rfl rfl (by kernel_rfl) (fun _ _ _ h => h) (fun _ => (r_assign hS647 rfl rfl)) fun a648 hS648 => d_done (by kernel_rfl) ?_
                exact ⟨g646, b642, A635, cap636, A629, cap630, A603, cap604, hS648.re ⟨rfl, rfl, trivial⟩, h637, h631, h605, h643, hF⟩
          · rintro _ a653 w654 g654 ⟨⟨A649, cap650, rfl, h651⟩, F654⟩ hS653
            have hC654 := hC.trans F654 (fun _ h => h.elim)
            replace hp0 := RdS.fr hp0 F654 (by decide) (fun _ _ h => h)
            replace hF := hF.trans F654 (fun _ h => h.elim)
            refine d_two 0 8 #[true, true, false, true, true, true, true, true, false, false, false, false, false] #[false, true, false, true, true, true, true, true, true, false, false, false, false] rfl rfl (by kernel_rfl) (arm_eff hS653 rfl rfl rfl (e_lit (e := 35) (parts := []) (cs := []) kd_api_Rail ([] : List api_Rail) (N + 0) g654 hS653 rfl rfl (fun _ => by kernel_rfl) rfl (by decide) Rows.nil) (fun _ _ g' hR _ => ⟨g', hC654.trans hR.2 (fun _ h => h.elim)⟩) ?_) (arm_eff hS653 rfl rfl rfl (e_make (e := 33) (sz := 1) (by_ := 8) (z := [.int .u64 0]) (kd := (kint .u64)) (N + 4) g654 hS653 rfl rfl (by kernel_rfl) (by kernel_rfl) rfl rfl rfl (fun _ _ _ => by exact rfl) hy179) (fun _ _ g' hR _ => ⟨g', hC654.trans hR.2 (fun _ h => h.elim)⟩) ?_)
            · rintro _ a658 w659 g659 ⟨⟨A655, rfl, h656⟩, F659⟩ hS658
              have hC659 := hC654.trans F659 (fun _ h => h.elim)
              replace h651 := OwS.fr h651 F659 (fun _ _ h => h)
              replace hp0 := RdS.fr hp0 F659 (by decide) (fun _ _ h => h)
              replace hF := hF.trans F659 (fun _ h => h.elim)
              refine d_two 2 8 #[true, true, true, true, true, true, true, true, false, false, false, false, false] #[true, true, false, true, true, true, true, true, true, false, false, false, false] rfl rfl (by kernel_rfl) (arm_eff hS658 rfl rfl rfl (e_append (e := 35) (sz := 3) (by_ := 24) (z := [.int .i64 0, .int .u64 0, .int .u64 0]) (kd := kd_api_Rail) g659 hS658 rfl rfl rfl rfl (by kernel_rfl) (by kernel_rfl) rfl rfl rfl rfl h656 hp0 (fun _ _ _ h => h) hy167) (fun _ _ g' hR _ => ⟨g', hC659.trans hR.2 (fun c' (hm : c' = N + 0) => by show c' = N + 0; omega)⟩) ?_) (arm_eff hS658 rfl rfl rfl (e_make (e := 33) (sz := 1) (by_ := 8) (z := [.int .u64 0]) (kd := (kint .u64)) (N + 4) g659 hS658 rfl rfl (by kernel_rfl) (by kernel_rfl) rfl rfl rfl (fun _ _ _ => by exact rfl) hy179) (fun _ _ g' hR _ => ⟨g', hC659.trans hR.2 (fun _ h => h.elim)⟩) ?_)
              · rintro _ a664 w665 g665 ⟨⟨A660, cap661, rfl, h662⟩, F665⟩ hS664
                have hC665 := hC659.trans F665 (fun c' (hm : c' = N + 0) => by show c' = N + 0; omega)
                replace h651 := OwS.fr h651 F665 (fun c' hc (hm : c' = N + 0) => by omega)
                replace hp0 := RdS.fr hp0 F665 (by decide) (fun q (hq : C0 q) (hm : q = N + 0) => by have := hC0 q hq; omega)
                replace hF := hF.trans F665 (fun c' (hm : c' = N + 0) => by show (r0 ≤ c' ∧ c' < r0 + 7) ∨ N ≤ c'; omega)
                refine d_one 8 #[true, true, true, true, true, true, true, true, true, false, false, false, false] rfl (by kernel_rfl) (arm_eff hS664 rfl rfl rfl (e_make (e := 33) (sz := 1) (by_ := 8) (z := [.int .u64 0]) (kd := (kint .u64)) (N + 4) g665 hS664 rfl rfl (by kernel_rfl) (by kernel_rfl) rfl rfl rfl (fun _ _ _ => by exact rfl) hy179) (fun _ _ g' hR _ => ⟨g', hC665.trans hR.2 (fun _ h => h.elim)⟩) ?_)
                rintro _ a670 w671 g671 ⟨⟨A666, cap667, rfl, h668⟩, F671⟩ hS670
                have hC671 := hC665.trans F671 (fun _ h => h.elim)
                replace h651 := OwS.fr h651 F671 (fun _ _ h => h)
                replace h662 := OwS.fr h662 F671 (fun _ _ h => h)
                replace hp0 := RdS.fr hp0 F671 (by decide) (fun _ _ h => h)
                replace hF := hF.trans F671 (fun _ h => h.elim)
                refine d_pure hS670 9 #[true, true, true, true, true, true, true, true, true, true, false, false, false] rfl rfl rfl rfl (by kernel_rfl) (fun _ _ _ h => h) (fun _ => (r_build (parts := [(0, .slice A660 y166.length cap661), (1, .slice A649 y172.length cap650), (2, .slice A666 y178.length cap667)]) (u := .agg #[.slice A660 y166.length cap661, .slice A649 y172.length cap650, .slice A666 y178.length cap667, .int .u64 0]) hS670 rfl rfl (fun _ => by kernel_rfl))) fun a672 hS672 => ?_
                refine d_one 10 #[true, true, true, true, true, true, true, true, true, true, true, false, false] rfl (by kernel_rfl) (arm_eff hS672 rfl rfl rfl (e_box (cs := [.slice A660 y166.length cap661, .slice A649 y172.length cap650, .slice A666 y178.length cap667, .int .u64 0]) (N + 6) g671 hS672 rfl rfl rfl) (fun _ _ g' hR _ => ⟨g', hC671.trans hR.2 (fun _ h => h.elim)⟩) ?_)
                rintro _ a676 w677 g677 ⟨⟨b673, rfl, h674⟩, F677⟩ hS676
                have hC677 := hC671.trans F677 (fun _ h => h.elim)
                replace h651 := OwS.fr h651 F677 (fun _ _ h => h)
                replace h662 := OwS.fr h662 F677 (fun _ _ h => h)
                replace h668 := OwS.fr h668 F677 (fun _ _ h => h)
                replace hp0 := RdS.fr hp0 F677 (by decide) (fun _ _ h => h)
                replace hF := hF.trans F677 (fun _ h => h.elim)
                refine d_pure hS676 11 #[true, true, true, true, true, true, true, true, true, true, true, true, false] rfl rfl rfl rfl (by kernel_rfl) (fun _ _ _ h => h) (fun _ => (r_assign hS676 rfl rfl)) fun a678 hS678 => d_pure hS678 12 #[true, true, true, true, true, true, true, true, true, true, true, true, true] rfl rfl rfl rfl (by kernel_rfl) (fun _ _ _ h => h) (fun _ => (r_assign hS678 rfl rfl)) fun a679 hS679 => d_done (by kernel_rfl) ?_
                exact ⟨g677, b673, A660, cap661, A649, cap650, A666, cap667, hS679.re ⟨rfl, rfl, trivial⟩, h662, h651, h668, h674, hF⟩
              · rintro _ a684 w685 g685 ⟨⟨A680, cap681, rfl, h682⟩, F685⟩ hS684
                have hC685 := hC659.trans F685 (fun _ h => h.elim)
                replace h651 := OwS.fr h651 F685 (fun _ _ h => h)
                replace h656 := OwS.fr h656 F685 (fun _ _ h => h)
                replace hp0 := RdS.fr hp0 F685 (by decide) (fun _ _ h => h)
                replace hF := hF.trans F685 (fun _ h => h.elim)
                refine d_one 2 #[true, true, true, true, true, true, true, true, true, false, false, false, false] rfl (by kernel_rfl) (arm_eff hS684 rfl rfl rfl (e_append (e := 35) (sz := 3) (by_ := 24) (z := [.int .i64 0, .int .u64 0, .int .u64 0]) (kd := kd_api_Rail) g685 hS684 rfl rfl rfl rfl (by kernel_rfl) (by kernel_rfl) rfl rfl rfl rfl h656 hp0 (fun _ _ _ h => h) hy167) (fun _ _ g' hR _ => ⟨g', hC685.trans hR.2 (fun c' (hm : c' = N + 0) => by show c' = N + 0; omega)⟩) ?_)
                rintro _ a690 w691 g691 ⟨⟨A686, cap687, rfl, h688⟩, F691⟩ hS690
                have hC691 := hC685.trans F691 (fun c' (hm : c' = N + 0) => by show c' = N + 0; omega)
                replace h651 := OwS.fr h651 F691 (fun c' hc (hm : c' = N + 0) => by omega)
                replace h682 := OwS.fr h682 F691 (fun c' hc (hm : c' = N + 0) => by omega)
                replace hp0 := RdS.fr hp0 F691 (by decide) (fun q (hq : C0 q) (hm : q = N + 0) => by have := hC0 q hq; omega)
                replace hF := hF.trans F691 (fun c' (hm : c' = N + 0) => by show (r0 ≤ c' ∧ c' < r0 + 7) ∨ N ≤ c'; omega)
                refine d_pure hS690 9 #[true, true, true, true, true, true, true, true, true, true, false, false, false] rfl rfl rfl rfl (by kernel_rfl) (fun _ _ _ h => h) (fun _ => (r_build (parts := [(0, .slice A686 y166.length cap687), (1, .slice A649 y172.length cap650), (2, .slice A680 y178.length cap681)]) (u := .agg #[.slice A686 y166.length cap687, .slice A649 y172.length cap650, .slice A680 y178.length cap681, .int .u64 0]) hS690 rfl rfl (fun _ => by kernel_rfl))) fun a692 hS692 => ?_
                refine d_one 10 #[true, true, true, true, true, true, true, true, true, true, true, false, false] rfl (by kernel_rfl) (arm_eff hS692 rfl rfl rfl (e_box (cs := [.slice A686 y166.length cap687, .slice A649 y172.length cap650, .slice A680 y178.length cap681, .int .u64 0]) (N + 6) g691 hS692 rfl rfl rfl) (fun _ _ g' hR _ => ⟨g', hC691.trans hR.2 (fun _ h => h.elim)⟩) ?_)
                rintro _ a696 w697 g697 ⟨⟨b693, rfl, h694⟩, F697⟩ hS696
                have hC697 := hC691.trans F697 (fun _ h => h.elim)
                replace h651 := OwS.fr h651 F697 (fun _ _ h => h)
                replace h682 := OwS.fr h682 F697 (fun _ _ h => h)
                replace h688 := OwS.fr h688 F697 (fun _ _ h => h)
                replace hp0 := RdS.fr hp0 F697 (by decide) (fun _ _ h => h)
                replace hF := hF.trans F697 (fun _ h => h.elim)
                refine d_pure hS696 11 #[true, true, true, true, true, true, true, true, true, true, true, true, false] rfl rfl rfl rfl (by kernel_rfl) (fun _ _ _ h => h) (fun _ => (r_assign hS696 rfl rfl)) fun a698 hS698 => d_pure hS698 12 #[true, true, true, true, true, true, true, true, true, true, true, true, true] rfl rfl rfl rfl (by kernel_rfl) (fun _ _ _ h => h) (fun _ => (r_assign hS698 rfl rfl)) fun a699 hS699 => d_done (by kernel_rfl) ?_
                exact ⟨g697, b693, A686, cap687, A649, cap650, A680, cap681, hS699.re ⟨rfl, rfl, trivial⟩, h688, h651, h682, h694, hF⟩
            · rintro _ a704 w705 g705 ⟨⟨A700, cap701, rfl, h702⟩, F705⟩ hS704
              have hC705 := hC654.trans F705 (fun _ h => h.elim)
              replace h651 := OwS.fr h651 F705 (fun _ _ h => h)
              replace hp0 := RdS.fr hp0 F705 (by decide) (fun _ _ h => h)
              replace hF := hF.trans F705 (fun _ h => h.elim)
              refine d_one 0 #[true, true, false, true, true, true, true, true, true, false, false, false, false] rfl (by kernel_rfl) (arm_eff hS704 rfl rfl rfl (e_lit (e := 35) (parts := []) (cs := []) kd_api_Rail ([] : List api_Rail) (N + 0) g705 hS704 rfl rfl (fun _ => by kernel_rfl) rfl (by decide) Rows.nil) (fun _ _ g' hR _ => ⟨g', hC705.trans hR.2 (fun _ h => h.elim)⟩) ?_)
              rintro _ a709 w710 g710 ⟨⟨A706, rfl, h707⟩, F710⟩ hS709
              have hC710 := hC705.trans F710 (fun _ h => h.elim)
              replace h651 := OwS.fr h651 F710 (fun _ _ h => h)
              replace h702 := OwS.fr h702 F710 (fun _ _ h => h)
              replace hp0 := RdS.fr hp0 F710 (by decide) (fun _ _ h => h)
              replace hF := hF.trans F710 (fun _ h => h.elim)
              refine d_one 2 #[true, true, true, true, true, true, true, true, true, false, false, false, false] rfl (by kernel_rfl) (arm_eff hS709 rfl rfl rfl (e_append (e := 35) (sz := 3) (by_ := 24) (z := [.int .i64 0, .int .u64 0, .int .u64 0]) (kd := kd_api_Rail) g710 hS709 rfl rfl rfl rfl (by kernel_rfl) (by kernel_rfl) rfl rfl rfl rfl h707 hp0 (fun _ _ _ h => h) hy167) (fun _ _ g' hR _ => ⟨g', hC710.trans hR.2 (fun c' (hm : c' = N + 0) => by show c' = N + 0; omega)⟩) ?_)
              rintro _ a715 w716 g716 ⟨⟨A711, cap712, rfl, h713⟩, F716⟩ hS715
              have hC716 := hC710.trans F716 (fun c' (hm : c' = N + 0) => by show c' = N + 0; omega)
              replace h651 := OwS.fr h651 F716 (fun c' hc (hm : c' = N + 0) => by omega)
              replace h702 := OwS.fr h702 F716 (fun c' hc (hm : c' = N + 0) => by omega)
              replace hp0 := RdS.fr hp0 F716 (by decide) (fun q (hq : C0 q) (hm : q = N + 0) => by have := hC0 q hq; omega)
              replace hF := hF.trans F716 (fun c' (hm : c' = N + 0) => by show (r0 ≤ c' ∧ c' < r0 + 7) ∨ N ≤ c'; omega)
              refine d_pure hS715 9 #[true, true, true, true, true, true, true, true, true, true, false, false, false] rfl rfl rfl rfl (by kernel_rfl) (fun _ _ _ h => h) (fun _ => (r_build (parts := [(0, .slice A711 y166.length cap712), (1, .slice A649 y172.length cap650), (2, .slice A700 y178.length cap701)]) (u := .agg #[.slice A711 y166.length cap712, .slice A649 y172.length cap650, .slice A700 y178.length cap701, .int .u64 0]) hS715 rfl rfl (fun _ => by kernel_rfl))) fun a717 hS717 => ?_
              refine d_one 10 #[true, true, true, true, true, true, true, true, true, true, true, false, false] rfl (by kernel_rfl) (arm_eff hS717 rfl rfl rfl (e_box (cs := [.slice A711 y166.length cap712, .slice A649 y172.length cap650, .slice A700 y178.length cap701, .int .u64 0]) (N + 6) g716 hS717 rfl rfl rfl) (fun _ _ g' hR _ => ⟨g', hC716.trans hR.2 (fun _ h => h.elim)⟩) ?_)
              rintro _ a721 w722 g722 ⟨⟨b718, rfl, h719⟩, F722⟩ hS721
              have hC722 := hC716.trans F722 (fun _ h => h.elim)
              replace h651 := OwS.fr h651 F722 (fun _ _ h => h)
              replace h702 := OwS.fr h702 F722 (fun _ _ h => h)
              replace h713 := OwS.fr h713 F722 (fun _ _ h => h)
              replace hp0 := RdS.fr hp0 F722 (by decide) (fun _ _ h => h)
              replace hF := hF.trans F722 (fun _ h => h.elim)
              refine d_pure hS721 11 #[true, true, true, true, true, true, true, true, true, true, true, true, false] rfl rfl rfl rfl (by kernel_rfl) (fun _ _ _ h => h) (fun _ => (r_assign hS721 rfl rfl)) fun a723 hS723 => d_pure hS723 12 #[true, true, true, true, true, true, true, true, true, true, true, true, true] rfl rfl rfl rfl (by kernel_rfl) (fun _ _ _ h => h) (fun _ => (r_assign hS723 rfl rfl)) fun a724 hS724 => d_done (by kernel_rfl) ?_
              exact ⟨g722, b718, A711, cap712, A649, cap650, A700, cap701, hS724.re ⟨rfl, rfl, trivial⟩, h713, h651, h702, h719, hF⟩
          · rintro _ a729 w730 g730 ⟨⟨A725, cap726, rfl, h727⟩, F730⟩ hS729
            have hC730 := hC.trans F730 (fun _ h => h.elim)
            replace hp0 := RdS.fr hp0 F730 (by decide) (fun _ _ h => h)
            replace hF := hF.trans F730 (fun _ h => h.elim)
            refine d_two 0 5 #[true, true, false, true, true, false, true, true, true, false, false, false, false] #[false, true, false, true, true, true, true, true, true, false, false, false, false] rfl rfl (by kernel_rfl) (arm_eff hS729 rfl rfl rfl (e_lit (e := 35) (parts := []) (cs := []) kd_api_Rail ([] : List api_Rail) (N + 0) g730 hS729 rfl rfl (fun _ => by kernel_rfl) rfl (by decide) Rows.nil) (fun _ _ g' hR _ => ⟨g', hC730.trans hR.2 (fun _ h => h.elim)⟩) ?_) (arm_eff hS729 rfl rfl rfl (e_make (e := 3) (sz := 1) (by_ := 8) (z := [.int .i64 0]) (kd := (kint .i64)) (N + 2) g730 hS729 rfl rfl (by kernel_rfl) (by kernel_rfl) rfl rfl rfl (fun _ _ _ => by exact rfl) hy173) (fun _ _ g' hR _ => ⟨g', hC730.trans hR.2 (fun _ h => h.elim)⟩) ?_)
            · rintro _ a734 w735 g735 ⟨⟨A731, rfl, h732⟩, F735⟩ hS734
              have hC735 := hC730.trans F735 (fun _ h => h.elim)
              replace h727 := OwS.fr h727 F735 (fun _ _ h => h)
              replace hp0 := RdS.fr hp0 F735 (by decide) (fun _ _ h => h)
              replace hF := hF.trans F735 (fun _ h => h.elim)
              refine d_two 2 5 #[true, true, true, true, true, false, true, true, true, false, false, false, false] #[true, true, false, true, true, true, true, true, true, false, false, false, false] rfl rfl (by kernel_rfl) (arm_eff hS734 rfl rfl rfl (e_append (e := 35) (sz := 3) (by_ := 24) (z := [.int .i64 0, .int .u64 0, .int .u64 0]) (kd := kd_api_Rail) g735 hS734 rfl rfl rfl rfl (by kernel_rfl) (by kernel_rfl) rfl rfl rfl rfl h732 hp0 (fun _ _ _ h => h) hy167) (fun _ _ g' hR _ => ⟨g', hC735.trans hR.2 (fun c' (hm : c' = N + 0) => by show c' = N + 0; omega)⟩) ?_) (arm_eff hS734 rfl rfl rfl (e_make (e := 3) (sz := 1) (by_ := 8) (z := [.int .i64 0]) (kd := (kint .i64)) (N + 2) g735 hS734 rfl rfl (by kernel_rfl) (by kernel_rfl) rfl rfl rfl (fun _ _ _ => by exact rfl) hy173) (fun _ _ g' hR _ => ⟨g', hC735.trans hR.2 (fun _ h => h.elim)⟩) ?_)
              · rintro _ a740 w741 g741 ⟨⟨A736, cap737, rfl, h738⟩, F741⟩ hS740
                have hC741 := hC735.trans F741 (fun c' (hm : c' = N + 0) => by show c' = N + 0; omega)
                replace h727 := OwS.fr h727 F741 (fun c' hc (hm : c' = N + 0) => by omega)
                replace hp0 := RdS.fr hp0 F741 (by decide) (fun q (hq : C0 q) (hm : q = N + 0) => by have := hC0 q hq; omega)
                replace hF := hF.trans F741 (fun c' (hm : c' = N + 0) => by show (r0 ≤ c' ∧ c' < r0 + 7) ∨ N ≤ c'; omega)
                refine d_one 5 #[true, true, true, true, true, true, true, true, true, false, false, false, false] rfl (by kernel_rfl) (arm_eff hS740 rfl rfl rfl (e_make (e := 3) (sz := 1) (by_ := 8) (z := [.int .i64 0]) (kd := (kint .i64)) (N + 2) g741 hS740 rfl rfl (by kernel_rfl) (by kernel_rfl) rfl rfl rfl (fun _ _ _ => by exact rfl) hy173) (fun _ _ g' hR _ => ⟨g', hC741.trans hR.2 (fun _ h => h.elim)⟩) ?_)
                rintro _ a746 w747 g747 ⟨⟨A742, cap743, rfl, h744⟩, F747⟩ hS746
                have hC747 := hC741.trans F747 (fun _ h => h.elim)
                replace h727 := OwS.fr h727 F747 (fun _ _ h => h)
                replace h738 := OwS.fr h738 F747 (fun _ _ h => h)
                replace hp0 := RdS.fr hp0 F747 (by decide) (fun _ _ h => h)
                replace hF := hF.trans F747 (fun _ h => h.elim)
                refine d_pure hS746 9 #[true, true, true, true, true, true, true, true, true, true, false, false, false] rfl rfl rfl rfl (by kernel_rfl) (fun _ _ _ h => h) (fun _ => (r_build (parts := [(0, .slice A736 y166.length cap737), (1, .slice A742 y172.length cap743), (2, .slice A725 y178.length cap726)]) (u := .agg #[.slice A736 y166.length cap737, .slice A742 y172.length cap743, .slice A725 y178.length cap726, .int .u64 0]) hS746 rfl rfl (fun _ => by kernel_rfl))) fun a748 hS748 => ?_
                refine d_one 10 #[true, true, true, true, true, true, true, true, true, true, true, false, false] rfl (by kernel_rfl) (arm_eff hS748 rfl rfl rfl (e_box (cs := [.slice A736 y166.length cap737, .slice A742 y172.length cap743, .slice A725 y178.length cap726, .int .u64 0]) (N + 6) g747 hS748 rfl rfl rfl) (fun _ _ g' hR _ => ⟨g', hC747.trans hR.2 (fun _ h => h.elim)⟩) ?_)
                rintro _ a752 w753 g753 ⟨⟨b749, rfl, h750⟩, F753⟩ hS752
                have hC753 := hC747.trans F753 (fun _ h => h.elim)
                replace h727 := OwS.fr h727 F753 (fun _ _ h => h)
                replace h738 := OwS.fr h738 F753 (fun _ _ h => h)
                replace h744 := OwS.fr h744 F753 (fun _ _ h => h)
                replace hp0 := RdS.fr hp0 F753 (by decide) (fun _ _ h => h)
                replace hF := hF.trans F753 (fun _ h => h.elim)
                refine d_pure hS752 11 #[true, true, true, true, true, true, true, true, true, true, true, true, false] rfl rfl rfl rfl (by kernel_rfl) (fun _ _ _ h => h) (fun _ => (r_assign hS752 rfl rfl)) fun a754 hS754 => d_pure hS754 12 #[true, true, true, true, true, true, true, true, true, true, true, true, true] rfl rfl rfl rfl (by kernel_rfl) (fun _ _ _ h => h) (fun _ => (r_assign hS754 rfl rfl)) fun a755 hS755 => d_done (by kernel_rfl) ?_
                exact ⟨g753, b749, A736, cap737, A742, cap743, A725, cap726, hS755.re ⟨rfl, rfl, trivial⟩, h738, h744, h727, h750, hF⟩
              · rintro _ a760 w761 g761 ⟨⟨A756, cap757, rfl, h758⟩, F761⟩ hS760
                have hC761 := hC735.trans F761 (fun _ h => h.elim)
                replace h727 := OwS.fr h727 F761 (fun _ _ h => h)
                replace h732 := OwS.fr h732 F761 (fun _ _ h => h)
                replace hp0 := RdS.fr hp0 F761 (by decide) (fun _ _ h => h)
                replace hF := hF.trans F761 (fun _ h => h.elim)
                refine d_one 2 #[true, true, true, true, true, true, true, true, true, false, false, false, false] rfl (by kernel_rfl) (arm_eff hS760 rfl rfl rfl (e_append (e := 35) (sz := 3) (by_ := 24) (z := [.int .i64 0, .int .u64 0, .int .u64 0]) (kd := kd_api_Rail) g761 hS760 rfl rfl rfl rfl (by kernel_rfl) (by kernel_rfl) rfl rfl rfl rfl h732 hp0 (fun _ _ _ h => h) hy167) (fun _ _ g' hR _ => ⟨g', hC761.trans hR.2 (fun c' (hm : c' = N + 0) => by show c' = N + 0; omega)⟩) ?_)
                rintro _ a766 w767 g767 ⟨⟨A762, cap763, rfl, h764⟩, F767⟩ hS766
                have hC767 := hC761.trans F767 (fun c' (hm : c' = N + 0) => by show c' = N + 0; omega)
                replace h727 := OwS.fr h727 F767 (fun c' hc (hm : c' = N + 0) => by omega)
                replace h758 := OwS.fr h758 F767 (fun c' hc (hm : c' = N + 0) => by omega)
                replace hp0 := RdS.fr hp0 F767 (by decide) (fun q (hq : C0 q) (hm : q = N + 0) => by have := hC0 q hq; omega)
                replace hF := hF.trans F767 (fun c' (hm : c' = N + 0) => by show (r0 ≤ c' ∧ c' < r0 + 7) ∨ N ≤ c'; omega)
                refine d_pure hS766 9 #[true, true, true, true, true, true, true, true, true, true, false, false, false] rfl rfl rfl rfl (by kernel_rfl) (fun _ _ _ h => h) (fun _ => (r_build (parts := [(0, .slice A762 y166.length cap763), (1, .slice A756 y172.length cap757), (2, .slice A725 y178.length cap726)]) (u := .agg #[.slice A762 y166.length cap763, .slice A756 y172.length cap757, .slice A725 y178.length cap726, .int .u64 0]) hS766 rfl rfl (fun _ => by kernel_rfl))) fun a768 hS768 => ?_
                refine d_one 10 #[true, true, true, true, true, true, true, true, true, true, true, false, false] rfl (by kernel_rfl) (arm_eff hS768 rfl rfl rfl (e_box (cs := [.slice A762 y166.length cap763, .slice A756 y172.length cap757, .slice A725 y178.length cap726, .int .u64 0]) (N + 6) g767 hS768 rfl rfl rfl) (fun _ _ g' hR _ => ⟨g', hC767.trans hR.2 (fun _ h => h.elim)⟩) ?_)
                rintro _ a772 w773 g773 ⟨⟨b769, rfl, h770⟩, F773⟩ hS772
                have hC773 := hC767.trans F773 (fun _ h => h.elim)
                replace h727 := OwS.fr h727 F773 (fun _ _ h => h)
                replace h758 := OwS.fr h758 F773 (fun _ _ h => h)
                replace h764 := OwS.fr h764 F773 (fun _ _ h => h)
                replace hp0 := RdS.fr hp0 F773 (by decide) (fun _ _ h => h)
                replace hF := hF.trans F773 (fun _ h => h.elim)
                refine d_pure hS772 11 #[true, true, true, true, true, true, true, true, true, true, true, true, false] rfl rfl rfl rfl (by kernel_rfl) (fun _ _ _ h => h) (fun _ => (r_assign hS772 rfl rfl)) fun a774 hS774 => d_pure hS774 12 #[true, true, true, true, true, true, true, true, true, true, true, true, true] rfl rfl rfl rfl (by kernel_rfl) (fun _ _ _ h => h) (fun _ => (r_assign hS774 rfl rfl)) fun a775 hS775 => d_done (by kernel_rfl) ?_
                exact ⟨g773, b769, A762, cap763, A756, cap757, A725, cap726, hS775.re ⟨rfl, rfl, trivial⟩, h764, h758, h727, h770, hF⟩
            · rintro _ a780 w781 g781 ⟨⟨A776, cap777, rfl, h778⟩, F781⟩ hS780
              have hC781 := hC730.trans F781 (fun _ h => h.elim)
              replace h727 := OwS.fr h727 F781 (fun _ _ h => h)
              replace hp0 := RdS.fr hp0 F781 (by decide) (fun _ _ h => h)
              replace hF := hF.trans F781 (fun _ h => h.elim)
              refine d_one 0 #[true, true, false, true, true, true, true, true, true, false, false, false, false] rfl (by kernel_rfl) (arm_eff hS780 rfl rfl rfl (e_lit (e := 35) (parts := []) (cs := []) kd_api_Rail ([] : List api_Rail) (N + 0) g781 hS780 rfl rfl (fun _ => by kernel_rfl) rfl (by decide) Rows.nil) (fun _ _ g' hR _ => ⟨g', hC781.trans hR.2 (fun _ h => h.elim)⟩) ?_)
              rintro _ a785 w786 g786 ⟨⟨A782, rfl, h783⟩, F786⟩ hS785
              have hC786 := hC781.trans F786 (fun _ h => h.elim)
              replace h727 := OwS.fr h727 F786 (fun _ _ h => h)
              replace h778 := OwS.fr h778 F786 (fun _ _ h => h)
              replace hp0 := RdS.fr hp0 F786 (by decide) (fun _ _ h => h)
              replace hF := hF.trans F786 (fun _ h => h.elim)
              refine d_one 2 #[true, true, true, true, true, true, true, true, true, false, false, false, false] rfl (by kernel_rfl) (arm_eff hS785 rfl rfl rfl (e_append (e := 35) (sz := 3) (by_ := 24) (z := [.int .i64 0, .int .u64 0, .int .u64 0]) (kd := kd_api_Rail) g786 hS785 rfl rfl rfl rfl (by kernel_rfl) (by kernel_rfl) rfl rfl rfl rfl h783 hp0 (fun _ _ _ h => h) hy167) (fun _ _ g' hR _ => ⟨g', hC786.trans hR.2 (fun c' (hm : c' = N + 0) => by show c' = N + 0; omega)⟩) ?_)
              rintro _ a791 w792 g792 ⟨⟨A787, cap788, rfl, h789⟩, F792⟩ hS791
              have hC792 := hC786.trans F792 (fun c' (hm : c' = N + 0) => by show c' = N + 0; omega)
              replace h727 := OwS.fr h727 F792 (fun c' hc (hm : c' = N + 0) => by omega)
              replace h778 := OwS.fr h778 F792 (fun c' hc (hm : c' = N + 0) => by omega)
              replace hp0 := RdS.fr hp0 F792 (by decide) (fun q (hq : C0 q) (hm : q = N + 0) => by have := hC0 q hq; omega)
              replace hF := hF.trans F792 (fun c' (hm : c' = N + 0) => by show (r0 ≤ c' ∧ c' < r0 + 7) ∨ N ≤ c'; omega)
              refine d_pure hS791 9 #[true, true, true, true, true, true, true, true, true, true, false, false, false] rfl rfl rfl rfl (by kernel_rfl) (fun _ _ _ h => h) (fun _ => (r_build (parts := [(0, .slice A787 y166.length cap788), (1, .slice A776 y172.length cap777), (2, .slice A725 y178.length cap726)]) (u := .agg #[.slice A787 y166.length cap788, .slice A776 y172.length cap777, .slice A725 y178.length cap726, .int .u64 0]) hS791 rfl rfl (fun _ => by kernel_rfl))) fun a793 hS793 => ?_
              refine d_one 10 #[true, true, true, true, true, true, true, true, true, true, true, false, false] rfl (by kernel_rfl) (arm_eff hS793 rfl rfl rfl (e_box (cs := [.slice A787 y166.length cap788, .slice A776 y172.length cap777, .slice A725 y178.length cap726, .int .u64 0]) (N + 6) g792 hS793 rfl rfl rfl) (fun _ _ g' hR _ => ⟨g', hC792.trans hR.2 (fun _ h => h.elim)⟩) ?_)
              rintro _ a797 w798 g798 ⟨⟨b794, rfl, h795⟩, F798⟩ hS797
              have hC798 := hC792.trans F798 (fun _ h => h.elim)
              replace h727 := OwS.fr h727 F798 (fun _ _ h => h)
              replace h778 := OwS.fr h778 F798 (fun _ _ h => h)
              replace h789 := OwS.fr h789 F798 (fun _ _ h => h)
              replace hp0 := RdS.fr hp0 F798 (by decide) (fun _ _ h => h)
              replace hF := hF.trans F798 (fun _ h => h.elim)
              refine d_pure hS797 11 #[true, true, true, true, true, true, true, true, true, true, true, true, false] rfl rfl rfl rfl (by kernel_rfl) (fun _ _ _ h => h) (fun _ => (r_assign hS797 rfl rfl)) fun a799 hS799 => d_pure hS799 12 #[true, true, true, true, true, true, true, true, true, true, true, true, true] rfl rfl rfl rfl (by kernel_rfl) (fun _ _ _ h => h) (fun _ => (r_assign hS799 rfl rfl)) fun a800 hS800 => d_done (by kernel_rfl) ?_
              exact ⟨g798, b794, A787, cap788, A776, cap777, A725, cap726, hS800.re ⟨rfl, rfl, trivial⟩, h789, h778, h727, h795, hF⟩
        clear hp0 hF
        clear hS
        rintro a w488 ⟨g488, b489, A491, cap492, A494, cap495, A497, cap498, hS, h493, h496, h499, h490, hF⟩
        refine wp_ret ?_
        have e := Option.some.inj H
        subst e
        have F801 : Fr (fun q => q = N + 6) w488 g488 w488 (recol g488 (N + 6) r0) := Fr.recol w488 g488 (N + 6) r0 rfl
        replace h490 := Bx.recol h490 r0
        replace h493 := OwS.fr h493 F801 (fun c' hc (hm : c' = N + 6) => by omega)
        replace h496 := OwS.fr h496 F801 (fun c' hc (hm : c' = N + 6) => by omega)
        replace h499 := OwS.fr h499 F801 (fun c' hc (hm : c' = N + 6) => by omega)
        replace hF := hF.trans F801 (fun c' (hm : c' = N + 6) => by show (r0 ≤ c' ∧ c' < r0 + 7) ∨ N ≤ c'; omega)
        have F802 := Fr.recol2 w488 (recol g488 (N + 6) r0) (N + 0) (r0 + 1)
        replace h493 := h493.recol2 (r0 + 1)
        replace h496 := OwS.fr h496 F802 (fun c' hc (hm : c' = N + 0 ∨ c' = N + 0 + 1) => by omega)
        replace h499 := OwS.fr h499 F802 (fun c' hc (hm : c' = N + 0 ∨ c' = N + 0 + 1) => by omega)
        replace h490 := h490.fr F802 (fun (hm : r0 = N + 0 ∨ r0 = N + 0 + 1) => by omega)
        replace hF := hF.trans F802 (fun c' (hm : c' = N + 0 ∨ c' = N + 0 + 1) => by show (r0 ≤ c' ∧ c' < r0 + 7) ∨ N ≤ c'; omega)
        have F803 := Fr.recol2 w488 (recol2 (recol g488 (N + 6) r0) (N + 0) (r0 + 1)) (N + 2) (r0 + 3)
        replace h496 := h496.recol2 (r0 + 3)
        replace h493 := OwS.fr h493 F803 (fun c' hc (hm : c' = N + 2 ∨ c' = N + 2 + 1) => by omega)
        replace h499 := OwS.fr h499 F803 (fun c' hc (hm : c' = N + 2 ∨ c' = N + 2 + 1) => by omega)
        replace h490 := h490.fr F803 (fun (hm : r0 = N + 2 ∨ r0 = N + 2 + 1) => by omega)
        replace hF := hF.trans F803 (fun c' (hm : c' = N + 2 ∨ c' = N + 2 + 1) => by show (r0 ≤ c' ∧ c' < r0 + 7) ∨ N ≤ c'; omega)
        have F804 := Fr.recol2 w488 (recol2 (recol2 (recol g488 (N + 6) r0) (N + 0) (r0 + 1)) (N + 2) (r0 + 3)) (N + 4) (r0 + 5)
        replace h499 := h499.recol2 (r0 + 5)
        replace h493 := OwS.fr h493 F804 (fun c' hc (hm : c' = N + 4 ∨ c' = N + 4 + 1) => by omega)
        replace h496 := OwS.fr h496 F804 (fun c' hc (hm : c' = N + 4 ∨ c' = N + 4 + 1) => by omega)
        replace h490 := h490.fr F804 (fun (hm : r0 = N + 4 ∨ r0 = N + 4 + 1) => by omega)
        replace hF := hF.trans F804 (fun c' (hm : c' = N + 4 ∨ c' = N + 4 + 1) => by show (r0 ≤ c' ∧ c' < r0 + 7) ∨ N ≤ c'; omega)
        repeat (with_reducible first | refine then_ret ?_ | refine inBlock_ret ?_)
        exact c_ret2 hS Try.results14 rfl rfl ⟨_, rfl, (recol2 (recol2 (recol2 (recol g488 (N + 6) r0) (N + 0) (r0 + 1)) (N + 2) (r0 + 3)) (N + 4) (r0 + 5)), (some ⟨b489, 0, none⟩), rfl, ⟨b489, A491, cap492, A494, cap495, A497, cap498, rfl, h490, h493, h496, h499⟩, hF⟩


end Go.Proofs.Ytfiodhdldleocaa.Sim
