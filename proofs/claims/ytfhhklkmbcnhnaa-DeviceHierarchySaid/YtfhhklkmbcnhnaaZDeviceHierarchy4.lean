/-
  Texts of this session, part 4 of 8: the words of the walk, plain functions with the same answers as the Go functions and the proofs of it, plain lemmas. No condition.
  They are, one behind the other: QRailsRailsOn QRailsRailsAcquire QRailsRailsOff QRailsRailsOwn QRailsRailsRelease QDeviceTreeSet QDeviceTreeState QHelpMod QLaw25Some QDeviceTarget QHelpEqualInt.
-/
import Derived.Test.YtfhhklkmbcnhnaaProg
import Derived.Test.YtfhhklkmbcnhnaaZDeviceHierarchy3

namespace Go.Proofs.Ytfhhklkmbcnhnaa.Sim
open Go
set_option linter.unusedVariables false
set_option linter.unusedSimpArgs false

/-! ### rails_Rails_on: function 64 -/
def rails_Rails_on.r : Nat → rails_Rails → Int → Int → Option (rails_Rails × (List api_RailOp))
  | 0, _, _, _ => none
  | kr + 1, p0, p1, p2 => (idx p0.list p1).bind fun x7 => (idx (upd p0.list p1 ({ x7 with count := wi (x7.count + 1) } : rails_rail)) p1).bind fun x23 => if decide (1 < x23.count) = true then (some ((rails_Rails.mk (upd p0.list p1 ({ x7 with count := wi (x7.count + 1) } : rails_rail)) p0.now), [])) else ((if decide (0 ≤ x23.Rail.Supply) = true then ((rails_Rails_on.r kr (rails_Rails.mk (upd p0.list p1 ({ x7 with count := wi (x7.count + 1) } : rails_rail)) p0.now) x23.Rail.Supply p2).bind fun r58 => (idx r58.1.list p1).bind fun x77 => (idx r58.1.list x77.Rail.Supply).bind fun x80 => some (r58.1.list, r58.2, (max (max p2 x23.done) x80.done), r58.1)) else (some ((upd p0.list p1 ({ x7 with count := wi (x7.count + 1) } : rails_rail)), [], (max p2 x23.done), (rails_Rails.mk (upd p0.list p1 ({ x7 with count := wi (x7.count + 1) } : rails_rail)) p0.now))) : Option ((List rails_rail) × (List api_RailOp) × Int × rails_Rails)).bind fun v41 => (idx v41.1 p1).bind fun x93 => (idx (upd v41.1 p1 ({ x93 with done := wu (v41.2.2.1 + x93.Rail.RampUp) } : rails_rail)) p1).bind fun x107 => (app v41.2.1 [(api_RailOp.mk p1 true v41.2.2.1 x107.done)]).bind fun y116 => some ((rails_Rails.mk (upd v41.1 p1 ({ x93 with done := wu (v41.2.2.1 + x93.Rail.RampUp) } : rails_rail)) v41.2.2.2.now), y116))
def rails_Rails_on.f (p0 : rails_Rails) (p1 : Int) (p2 : Int) : Option (rails_Rails × (List api_RailOp)) := rails_Rails_on.r FUEL p0 p1 p2
set_option maxRecDepth 100000 in
set_option maxHeartbeats 4000000 in
theorem rails_Rails_on.calls_r : ∀ (kr : Nat) {p0 : rails_Rails} {c0 : Nat}  {b_p0 : Nat} {A_list_p0 : Option Addr} {cap_list_p0 : Nat} {p1 : Int} {p2 : Int} {w : World} {g : Nat → Nat} {out : rails_Rails × (List api_RailOp)} (N : Nat) (r0 : Nat) (hp0 : rails_Rails_At w g c0 b_p0 A_list_p0 cap_list_p0 p0) (hc0 : c0 + 3 ≤ N) (hr0 : r0 + 2 ≤ N) (hq0_0 : r0 + 2 ≤ c0 ∨ c0 + 3 ≤ r0), rails_Rails_on.r kr p0 p1 p2 = some out →
    Calls Try.prog 64 #[.pointer (some ⟨b_p0, 0, none⟩), .int .i64 p1, .int .u64 p2] w (fun e w' => ∃ v, e = .returned v ∧ ∃ (g' : Nat → Nat) (A_r0 : Option Addr) (cap_r0 : Nat), v = .slice A_r0 out.2.length cap_r0 ∧ rails_Rails_At w' g' c0 b_p0 A_list_p0 cap_list_p0 out.1 ∧ OwS kd_api_RailOp 66 w' g' r0 A_r0 cap_r0 out.2 ∧ Fr (fun q => (c0 ≤ q ∧ q < c0 + 3) ∨ (r0 ≤ q ∧ q < r0 + 2) ∨ N ≤ q) w g w' g') := by
  intro kr
  induction kr with
  | zero => intros; rename_i H; exact absurd H (by simp [rails_Rails_on.r])
  | succ kr ih =>
    intro p0 c0 b_p0 A_list_p0 cap_list_p0 p1 p2 w g out N r0 hp0 hc0 hr0 hq0_0 H
    rw [rails_Rails_on.r] at H
    refine calls_enter Try.func64 rfl Try.ntmps64 rfl (fun a hS => ?_)
    replace hS : Sl 82 a [(0, .pointer (some ⟨b_p0, 0, none⟩)), (1, .int .i64 p1), (2, .int .u64 p2)] := hS
    have hF : Fr (fun q => (c0 ≤ q ∧ q < c0 + 3) ∨ (r0 ≤ q ∧ q < r0 + 2) ∨ N ≤ q) w g w g := Fr.refl _ _ _
    obtain ⟨hb0, hf0_list⟩ := hp0
    refine c_pure [(0, .pointer (some ⟨b_p0, 0, none⟩)), (1, .int .i64 p1), (2, .int .u64 p2)] (fun R hR => st_val hS rfl rfl rfl (r_assign hS rfl rfl) fun a1 hS1 => wpList_nil (hR _ (hS1.re ⟨rfl, rfl, rfl, trivial⟩))) ?_
    clear hS
    clear a
    intro a hS
    obtain ⟨x7, hx8, H⟩ := bind_el H
    refine c_pure [(0, .pointer (some ⟨b_p0, 0, none⟩)), (1, .int .i64 p1), (2, .int .u64 p2), (7, .pointer (some (ea A_list_p0 (p1.toNat * 5))))] (fun R hR => st_val hS rfl rfl rfl (r_move hS rfl rfl) fun a2 hS2 => st_val hS2 rfl rfl rfl (r_nil hS2 rfl rfl) fun a3 hS3 => st_val hS3 rfl rfl rfl (r_fieldB (off := 0) hS3 rfl rfl (by kernel_rfl)) fun a4 hS4 => st_val hS4 rfl rfl rfl (r_load1 (n := 1) hS4 rfl rfl (by kernel_rfl) (Bx.cell hb0 rfl)) fun a5 hS5 => st_val hS5 rfl rfl rfl (r_move hS5 rfl rfl) fun a6 hS6 => st_val hS6 rfl rfl rfl (r_index (e := 105) (sz := 5) (by_ := 40) hS6 rfl rfl rfl (by kernel_rfl) (RdS.some_ (OwS.rd hf0_list) hx8) (idx_lo hx8) (idx_hi hx8)) fun a9 hS9 => st_val hS9 rfl rfl rfl (r_assign hS9 rfl rfl) fun a10 hS10 => wpList_nil (hR _ (hS10.re ⟨rfl, rfl, rfl, rfl, trivial⟩))) ?_
    clear hS
    clear a
    intro a hS
    refine c_region (fun K hK => ?_)
    refine st_val hS rfl rfl rfl (r_move hS rfl rfl) fun a11 hS11 => st_val hS11 rfl rfl rfl (r_nil hS11 rfl rfl) fun a12 hS12 => st_val hS12 rfl rfl rfl (r_fieldE (off := 3) hS12 rfl rfl (by kernel_rfl)) fun a13 hS13 => st_val hS13 rfl rfl rfl (r_load1 (n := 1) hS13 rfl rfl (by kernel_rfl) (RdS.cell (i := p1) (sz := 5) (j := 3) (OwS.rd hf0_list) hx8 rfl)) fun a14 hS14 => st_val hS14 rfl rfl rfl (r_bin hS14 rfl rfl rfl b_add) fun a15 hS15 => st_val hS15 rfl rfl rfl (r_nil hS15 rfl rfl) fun a16 hS16 => st_val hS16 rfl rfl rfl (r_fieldE (off := 3) hS16 rfl rfl (by kernel_rfl)) fun a17 hS17 => ?_
    refine st_effS hS17 rfl rfl (e_storeE (n := 1) (bb := false) (kd := kd_rails_rail) (j := 3) (x' := ({ x7 with count := wi (x7.count + 1) } : rails_rail)) (us := [.int .i64 (wi (x7.count + 1))]) g hS17 rfl rfl rfl rfl (by kernel_rfl) rfl rfl (by intro v hv; simp only [List.mem_cons, List.not_mem_nil, or_false] at hv; rcases hv with rfl <;> rfl) hf0_list hx8 rfl (fun _ _ cs hR => by rw [show cs = _ from hR]; rfl)) ?_
    rintro a18 w19 g19 ⟨hf0_list, F19⟩ hS18
    replace hb0 := hb0.fr F19 (fun (hm : c0 = c0 + 1) => by omega)
    replace hF := hF.trans F19 (fun c' (hm : c' = c0 + 1) => by show (c0 ≤ c' ∧ c' < c0 + 3) ∨ (r0 ≤ c' ∧ c' < r0 + 2) ∨ N ≤ c'; omega)
    replace hb0 : Bx w19 g19 (c0) b_p0 100 [.slice A_list_p0 (upd p0.list p1 ({ x7 with count := wi (x7.count + 1) } : rails_rail)).length cap_list_p0, .int .u64 p0.now] := by simpa only [upd_length] using hb0
    refine wpList_nil (hK _ _ ?_)
    replace hS : Sl 82 _ [(0, .pointer (some ⟨b_p0, 0, none⟩)), (1, .int .i64 p1), (2, .int .u64 p2), (7, .pointer (some (ea A_list_p0 (p1.toNat * 5))))] := hS18.re ⟨rfl, rfl, rfl, rfl, trivial⟩
    clear hK K
    try clear hS11 hS12 hS13 hS14 hS15 hS16 hS17 hS18
    obtain ⟨a, ha⟩ : ∃ a', a' = a18 := ⟨_, rfl⟩
    rw [← ha] at hS ⊢; clear ha
    refine wp_seq ?_
    obtain ⟨x23, hx24, H⟩ := bind_el H
    refine c_pure [(0, .pointer (some ⟨b_p0, 0, none⟩)), (1, .int .i64 p1), (2, .int .u64 p2), (7, .pointer (some (ea A_list_p0 (p1.toNat * 5)))), (27, .bool (decide (1 < x23.count)))] (fun R hR => st_val hS rfl rfl rfl (r_move hS rfl rfl) fun a20 hS20 => st_val hS20 rfl rfl rfl (r_nil hS20 rfl rfl) fun a21 hS21 => st_val hS21 rfl rfl rfl (r_fieldE (off := 3) hS21 rfl rfl (by kernel_rfl)) fun a22 hS22 => st_val hS22 rfl rfl rfl (r_load1 (n := 1) hS22 rfl rfl (by kernel_rfl) (RdS.cell (i := p1) (sz := 5) (j := 3) (OwS.rd hf0_list) hx24 rfl)) fun a25 hS25 => st_val hS25 rfl rfl rfl (r_bin hS25 rfl rfl rfl b_gtr) fun a26 hS26 => wpList_nil (hR _ (hS26.re ⟨rfl, rfl, rfl, rfl, rfl, trivial⟩))) ?_
    clear hS
    clear a
    intro a hS
    refine c_cond hS rfl (fun hb27 => ?_) (fun hb27 => ?_)
    · replace H := ite_t hb27 H
      refine c_pure [(6, .slice none 0 0)] (fun R hR => st_val hS rfl rfl rfl (r_assign hS rfl rfl) fun a28 hS28 => wpList_nil (hR _ (hS28.re ⟨rfl, trivial⟩))) ?_
      clear hS
      clear a
      intro a hS
      refine wp_ret ?_
      have e := Option.some.inj H
      subst e
      repeat (with_reducible first | refine then_ret ?_ | refine inBlock_ret ?_)
      exact c_ret1 hS Try.results64 rfl ⟨_, rfl, g19, none, 0, rfl, ⟨hb0, hf0_list⟩, OwS.nil kd_api_RailOp 66 w19 g19 r0, hF⟩
    · replace H := ite_f hb27 H
      refine wp_skip ?_
      change Code.wp _ _ _ _ _
      refine c_pure [(0, .pointer (some ⟨b_p0, 0, none⟩)), (1, .int .i64 p1), (2, .int .u64 p2), (7, .pointer (some (ea A_list_p0 (p1.toNat * 5)))), (8, .slice none 0 0)] (fun R hR => st_val hS rfl rfl rfl (r_assign hS rfl rfl) fun a29 hS29 => wpList_nil (hR _ (hS29.re ⟨rfl, rfl, rfl, rfl, rfl, trivial⟩))) ?_
      clear hS
      clear a
      intro a hS
      refine c_pure [(0, .pointer (some ⟨b_p0, 0, none⟩)), (1, .int .i64 p1), (2, .int .u64 p2), (7, .pointer (some (ea A_list_p0 (p1.toNat * 5)))), (8, .slice none 0 0), (9, .int .u64 (max p2 x23.done))] (fun R hR => st_val hS rfl rfl rfl (r_move hS rfl rfl) fun a30 hS30 => st_val hS30 rfl rfl rfl (r_move hS30 rfl rfl) fun a31 hS31 => st_val hS31 rfl rfl rfl (r_nil hS31 rfl rfl) fun a32 hS32 => st_val hS32 rfl rfl rfl (r_fieldE (off := 4) hS32 rfl rfl (by kernel_rfl)) fun a33 hS33 => st_val hS33 rfl rfl rfl (r_load1 (n := 1) hS33 rfl rfl (by kernel_rfl) (RdS.cell (i := p1) (sz := 5) (j := 4) (OwS.rd hf0_list) hx24 rfl)) fun a34 hS34 => st_val hS34 rfl rfl rfl (r_max hS34 rfl rfl rfl) fun a35 hS35 => st_val hS35 rfl rfl rfl (r_assign hS35 rfl rfl) fun a36 hS36 => wpList_nil (hR _ (hS36.re ⟨rfl, rfl, rfl, rfl, rfl, rfl, trivial⟩))) ?_
      clear hS
      clear a
      intro a hS
      obtain ⟨v41, H, Hl43⟩ := bind_el H
      refine c_cut (fun a w37 => ∃ (g37 : Nat → Nat), ∃ (A38 : Option Addr), ∃ (cap39 : Nat), Sl 82 a [(1, .int .i64 p1), (7, .pointer (some (ea A_list_p0 (p1.toNat * 5)))), (8, .slice A38 v41.2.1.length cap39), (9, .int .u64 v41.2.2.1)] ∧ OwS kd_api_RailOp 66 w37 g37 (N + 0) A38 cap39 v41.2.1 ∧ Bx w37 g37 (c0) b_p0 100 [.slice A_list_p0 v41.1.length cap_list_p0, .int .u64 v41.2.2.2.now] ∧ OwS kd_rails_rail 105 w37 g37 (c0 + 1) A_list_p0 cap_list_p0 v41.1 ∧ Fr (fun q => (c0 ≤ q ∧ q < c0 + 3) ∨ (r0 ≤ q ∧ q < r0 + 2) ∨ N ≤ q) w g w37 g37) ?_ ?_
      · refine c_pure [(0, .pointer (some ⟨b_p0, 0, none⟩)), (1, .int .i64 p1), (2, .int .u64 p2), (7, .pointer (some (ea A_list_p0 (p1.toNat * 5)))), (8, .slice none 0 0), (9, .int .u64 (max p2 x23.done)), (39, .bool (decide (0 ≤ x23.Rail.Supply)))] (fun R hR => st_val hS rfl rfl rfl (r_move hS rfl rfl) fun a44 hS44 => st_val hS44 rfl rfl rfl (r_nil hS44 rfl rfl) fun a45 hS45 => st_val hS45 rfl rfl rfl (r_fieldE (off := 0) hS45 rfl rfl (by kernel_rfl)) fun a46 hS46 => st_val hS46 rfl rfl rfl (r_fieldE (off := 0) hS46 rfl rfl (by kernel_rfl)) fun a47 hS47 => st_val hS47 rfl rfl rfl (r_load1 (n := 1) hS47 rfl rfl (by kernel_rfl) (RdS.cell (i := p1) (sz := 5) (j := 0) (OwS.rd hf0_list) hx24 rfl)) fun a48 hS48 => st_val hS48 rfl rfl rfl (r_bin hS48 rfl rfl rfl b_geq) fun a49 hS49 => wpList_nil (hR _ (hS49.re ⟨rfl, rfl, rfl, rfl, rfl, rfl, rfl, trivial⟩))) ?_
        clear hS
        clear a
        intro a hS
        refine c_cond hS rfl (fun hb50 => ?_) (fun hb50 => ?_)
        · replace H := ite_t hb50 H
          obtain ⟨r58, hr59, H⟩ := bind_el H
          refine c_region (fun K hK => ?_)
          refine st_val hS rfl rfl rfl (r_move hS rfl rfl) fun a51 hS51 => st_val hS51 rfl rfl rfl (r_move hS51 rfl rfl) fun a52 hS52 => st_val hS52 rfl rfl rfl (r_nil hS52 rfl rfl) fun a53 hS53 => st_val hS53 rfl rfl rfl (r_fieldE (off := 0) hS53 rfl rfl (by kernel_rfl)) fun a54 hS54 => st_val hS54 rfl rfl rfl (r_fieldE (off := 0) hS54 rfl rfl (by kernel_rfl)) fun a55 hS55 => st_val hS55 rfl rfl rfl (r_load1 (n := 1) hS55 rfl rfl (by kernel_rfl) (RdS.cell (i := p1) (sz := 5) (j := 0) (OwS.rd hf0_list) hx24 rfl)) fun a56 hS56 => st_val hS56 rfl rfl rfl (r_move hS56 rfl rfl) fun a57 hS57 => ?_
          refine st_enter hS57 rfl rfl rfl (r_call hS57 rfl rfl (by kernel_rfl)) (ih (c0 := c0) (b_p0 := b_p0) (A_list_p0 := A_list_p0) (cap_list_p0 := cap_list_p0) (p0 := (rails_Rails.mk (upd p0.list p1 ({ x7 with count := wi (x7.count + 1) } : rails_rail)) p0.now)) (p1 := x23.Rail.Supply) (p2 := p2) (g := g19) (N + 4) (N + 0) ⟨hb0, hf0_list⟩ (by omega) (by omega) (by omega) hr59) ?_
          rintro _ a64 w65 ⟨g65, A60, cap61, rfl, ⟨hb0, hf0_list⟩, h62, F65⟩ hS64
          replace hF := hF.trans F65 (fun c' (hm : (c0 ≤ c' ∧ c' < c0 + 3) ∨ (N + 0 ≤ c' ∧ c' < N + 0 + 2) ∨ N + 4 ≤ c') => by show (c0 ≤ c' ∧ c' < c0 + 3) ∨ (r0 ≤ c' ∧ c' < r0 + 2) ∨ N ≤ c'; omega)
          refine st_val hS64 rfl rfl rfl (r_assign hS64 rfl rfl) fun a66 hS66 => wpList_nil (hK _ _ ?_)
          replace hS : Sl 82 _ [(0, .pointer (some ⟨b_p0, 0, none⟩)), (1, .int .i64 p1), (7, .pointer (some (ea A_list_p0 (p1.toNat * 5)))), (8, .slice A60 r58.2.length cap61), (9, .int .u64 (max p2 x23.done))] := hS66.re ⟨rfl, rfl, rfl, rfl, rfl, trivial⟩
          clear hK K
          try clear hS51 hS52 hS53 hS54 hS55 hS56 hS57 hS64 hS66
          obtain ⟨a, ha⟩ : ∃ a', a' = a66 := ⟨_, rfl⟩
          rw [← ha] at hS ⊢; clear ha
          obtain ⟨x77, hx78, H⟩ := bind_el H
          obtain ⟨x80, hx81, H⟩ := bind_el H
          refine c_draw1 (fun K hK => d_start (fun q => False) g65 [] 15 #[false, false, false, false, false, false, false, false, false, false, false, false, false, false, false] (by kernel_rfl) rfl rfl (fun w67 hw67 => ?_))
          have F67 : Fr (fun _ => False) w65 g65 w67 g65 := by rw [hw67]; exact Fr.drew _ _ _
          replace h62 := OwS.fr h62 F67 (fun _ _ h => h)
          replace hb0 := hb0.fr F67 (fun h => h)
          replace hf0_list := OwS.fr hf0_list F67 (fun _ _ h => h)
          replace hF := hF.trans F67 (fun _ h => h.elim)
          have hC : Fr (fun q => False) w67 g65 w67 g65 := Fr.refl _ _ _
          refine d_pure hS 0 #[true, false, false, false, false, false, false, false, false, false, false, false, false, false, false] rfl rfl rfl rfl (by kernel_rfl) (fun _ _ _ h => h) (fun _ => (r_move hS rfl rfl)) fun a68 hS68 => d_pure hS68 1 #[true, true, false, false, false, false, false, false, false, false, false, false, false, false, false] rfl rfl rfl rfl (by kernel_rfl) (fun _ _ _ h => h) (fun _ => (r_move hS68 rfl rfl)) fun a69 hS69 => d_pure hS69 2 #[true, true, true, false, false, false, false, false, false, false, false, false, false, false, false] rfl rfl rfl rfl (by kernel_rfl) (fun _ _ _ h => h) (fun _ => (r_nil hS69 rfl rfl)) fun a70 hS70 => d_pure hS70 3 #[true, true, true, true, false, false, false, false, false, false, false, false, false, false, false] rfl rfl rfl rfl (by kernel_rfl) (fun _ _ _ h => h) (fun _ => (r_fieldB (off := 0) hS70 rfl rfl (by kernel_rfl))) fun a71 hS71 => d_take hS71 4 #[true, true, true, true, true, false, false, false, false, false, false, false, false, false, false] rfl rfl rfl rfl (by kernel_rfl) (fun _ _ _ h => h) ⟨_, hC⟩ (fun w' g' Fz => (r_load1 (n := 1) hS71 rfl rfl (by kernel_rfl) (Bx.cell (hb0.fr Fz (fun h => h)) rfl))) fun a72 hS72 => d_pure hS72 5 #[true, true, true, true, true, true, false, false, false, false, false, false, false, false, false] rfl rfl rfl rfl (by kernel_rfl) (fun _ _ _ h => h) (fun _ => (r_move hS72 rfl rfl)) fun a73 hS73 => d_pure hS73 6 #[true, true, true, true, true, true, true, false, false, false, false, false, false, false, false] rfl rfl rfl rfl (by kernel_rfl) (fun _ _ _ h => h) (fun _ => (r_nil hS73 rfl rfl)) fun a74 hS74 => d_pure hS74 7 #[true, true, true, true, true, true, true, true, false, false, false, false, false, false, false] rfl rfl rfl rfl (by kernel_rfl) (fun _ _ _ h => h) (fun _ => (r_fieldE (off := 0) hS74 rfl rfl (by kernel_rfl))) fun a75 hS75 => d_pure hS75 8 #[true, true, true, true, true, true, true, true, true, false, false, false, false, false, false] rfl rfl rfl rfl (by kernel_rfl) (fun _ _ _ h => h) (fun _ => (r_fieldE (off := 0) hS75 rfl rfl (by kernel_rfl))) fun a76 hS76 => d_take hS76 9 #[true, true, true, true, true, true, true, true, true, true, false, false, false, false, false] rfl rfl rfl rfl (by kernel_rfl) (fun _ _ _ h => h) ⟨_, hC⟩ (fun w' g' Fz => (r_load1 (n := 1) hS76 rfl rfl (by kernel_rfl) (RdS.cell (i := p1) (sz := 5) (j := 0) (OwS.rd (OwS.fr hf0_list Fz (fun _ _ h => h))) hx78 rfl))) fun a79 hS79 => d_pure hS79 10 #[true, true, true, true, true, true, true, true, true, true, true, false, false, false, false] rfl rfl rfl rfl (by kernel_rfl) (fun _ _ _ h => h) (fun _ => (r_index (e := 105) (sz := 5) (by_ := 40) hS79 rfl rfl rfl (by kernel_rfl) (RdS.some_ (OwS.rd hf0_list) hx81) (idx_lo hx81) (idx_hi hx81))) fun a82 hS82 => d_pure hS82 11 #[true, true, true, true, true, true, true, true, true, true, true, true, false, false, false] rfl rfl rfl rfl (by kernel_rfl) (fun _ _ _ h => h) (fun _ => (r_fieldE (off := 4) hS82 rfl rfl (by kernel_rfl))) fun a83 hS83 => d_take hS83 12 #[true, true, true, true, true, true, true, true, true, true, true, true, true, false, false] rfl rfl rfl rfl (by kernel_rfl) (fun _ _ _ h => h) ⟨_, hC⟩ (fun w' g' Fz => (r_load1 (n := 1) hS83 rfl rfl (by kernel_rfl) (RdS.cell (i := x77.Rail.Supply) (sz := 5) (j := 4) (OwS.rd (OwS.fr hf0_list Fz (fun _ _ h => h))) hx81 rfl))) fun a84 hS84 => d_pure hS84 13 #[true, true, true, true, true, true, true, true, true, true, true, true, true, true, false] rfl rfl rfl rfl (by kernel_rfl) (fun _ _ _ h => h) (fun _ => (r_max hS84 rfl rfl rfl)) fun a85 hS85 => d_pure hS85 14 #[true, true, true, true, true, true, true, true, true, true, true, true, true, true, true] rfl rfl rfl rfl (by kernel_rfl) (fun _ _ _ h => h) (fun _ => (r_assign hS85 rfl rfl)) fun a86 hS86 => d_done (by kernel_rfl) (hK _ _ ?_)
          replace hS : Sl 82 _ [(1, .int .i64 p1), (7, .pointer (some (ea A_list_p0 (p1.toNat * 5)))), (8, .slice A60 r58.2.length cap61), (9, .int .u64 (max (max p2 x23.done) x80.done))] := hS86.re ⟨rfl, rfl, rfl, rfl, trivial⟩
          clear hK K hC
          try clear hS68 hS69 hS70 hS71 hS72 hS73 hS74 hS75 hS76 hS79 hS82 hS83 hS84 hS85 hS86
          obtain ⟨a, ha⟩ : ∃ a', a' = a86 := ⟨_, rfl⟩
          rw [← ha] at hS ⊢; clear ha
          have e := Option.some.inj H
          subst e
          exact ⟨g65, A60, cap61, hS.re ⟨rfl, rfl, rfl, rfl, trivial⟩, h62, hb0, hf0_list, hF⟩
        · replace H := ite_f hb50 H
          refine wp_skip ?_
          have e := Option.some.inj H
          subst e
          exact ⟨g19, none, 0, hS.re ⟨rfl, rfl, rfl, rfl, trivial⟩, OwS.nil kd_api_RailOp 66 w19 g19 (N + 0), hb0, hf0_list, hF⟩
      · clear H
        clear hf0_list hb0 hF
        clear hS
        rintro a w37 ⟨g37, A38, cap39, hS, h40, hb0, hf0_list, hF⟩
        have H := Hl43
        clear Hl43
        obtain ⟨x93, hx94, H⟩ := bind_el H
        refine c_region (fun K hK => ?_)
        refine st_val hS rfl rfl rfl (r_move hS rfl rfl) fun a87 hS87 => st_val hS87 rfl rfl rfl (r_move hS87 rfl rfl) fun a88 hS88 => st_val hS88 rfl rfl rfl (r_move hS88 rfl rfl) fun a89 hS89 => st_val hS89 rfl rfl rfl (r_nil hS89 rfl rfl) fun a90 hS90 => st_val hS90 rfl rfl rfl (r_fieldE (off := 0) hS90 rfl rfl (by kernel_rfl)) fun a91 hS91 => st_val hS91 rfl rfl rfl (r_fieldE (off := 1) hS91 rfl rfl (by kernel_rfl)) fun a92 hS92 => st_val hS92 rfl rfl rfl (r_load1 (n := 1) hS92 rfl rfl (by kernel_rfl) (RdS.cell (i := p1) (sz := 5) (j := 1) (OwS.rd hf0_list) hx94 rfl)) fun a95 hS95 => st_val hS95 rfl rfl rfl (r_bin hS95 rfl rfl rfl b_add) fun a96 hS96 => st_val hS96 rfl rfl rfl (r_nil hS96 rfl rfl) fun a97 hS97 => st_val hS97 rfl rfl rfl (r_fieldE (off := 4) hS97 rfl rfl (by kernel_rfl)) fun a98 hS98 => ?_
        refine st_effS hS98 rfl rfl (e_storeE (n := 1) (bb := false) (kd := kd_rails_rail) (j := 4) (x' := ({ x93 with done := wu (v41.2.2.1 + x93.Rail.RampUp) } : rails_rail)) (us := [.int .u64 (wu (v41.2.2.1 + x93.Rail.RampUp))]) g37 hS98 rfl rfl rfl rfl (by kernel_rfl) rfl rfl (by intro v hv; simp only [List.mem_cons, List.not_mem_nil, or_false] at hv; rcases hv with rfl <;> rfl) hf0_list hx94 rfl (fun _ _ cs hR => by rw [show cs = _ from hR]; rfl)) ?_
        rintro a99 w100 g100 ⟨hf0_list, F100⟩ hS99
        replace h40 := OwS.fr h40 F100 (fun c' hc (hm : c' = c0 + 1) => by omega)
        replace hb0 := hb0.fr F100 (fun (hm : c0 = c0 + 1) => by omega)
        replace hF := hF.trans F100 (fun c' (hm : c' = c0 + 1) => by show (c0 ≤ c' ∧ c' < c0 + 3) ∨ (r0 ≤ c' ∧ c' < r0 + 2) ∨ N ≤ c'; omega)
        replace hb0 : Bx w100 g100 (c0) b_p0 100 [.slice A_list_p0 (upd v41.1 p1 ({ x93 with done := wu (v41.2.2.1 + x93.Rail.RampUp) } : rails_rail)).length cap_list_p0, .int .u64 v41.2.2.2.now] := by simpa only [upd_length] using hb0
        refine wpList_nil (hK _ _ ?_)
        replace hS : Sl 82 _ [(1, .int .i64 p1), (7, .pointer (some (ea A_list_p0 (p1.toNat * 5)))), (8, .slice A38 v41.2.1.length cap39), (9, .int .u64 v41.2.2.1)] := hS99.re ⟨rfl, rfl, rfl, rfl, trivial⟩
        clear hK K
        try clear hS87 hS88 hS89 hS90 hS91 hS92 hS95 hS96 hS97 hS98 hS99
        obtain ⟨a, ha⟩ : ∃ a', a' = a99 := ⟨_, rfl⟩
        rw [← ha] at hS ⊢; clear ha
        obtain ⟨x107, hx108, H⟩ := bind_el H
        obtain ⟨y116, hy117, H⟩ := bind_el H
        refine c_region (fun K hK => ?_)
        refine st_val hS rfl rfl rfl (r_move hS rfl rfl) fun a101 hS101 => st_val hS101 rfl rfl rfl (r_move hS101 rfl rfl) fun a102 hS102 => st_val hS102 rfl rfl rfl (r_move hS102 rfl rfl) fun a103 hS103 => st_val hS103 rfl rfl rfl (r_move hS103 rfl rfl) fun a104 hS104 => st_val hS104 rfl rfl rfl (r_nil hS104 rfl rfl) fun a105 hS105 => st_val hS105 rfl rfl rfl (r_fieldE (off := 4) hS105 rfl rfl (by kernel_rfl)) fun a106 hS106 => st_val hS106 rfl rfl rfl (r_load1 (n := 1) hS106 rfl rfl (by kernel_rfl) (RdS.cell (i := p1) (sz := 5) (j := 4) (OwS.rd hf0_list) hx108 rfl)) fun a109 hS109 => st_val hS109 rfl rfl rfl (r_build (parts := [(0, .int .i64 p1), (1, .bool true), (2, .int .u64 v41.2.2.1), (3, .int .u64 x107.done)]) (u := .agg #[.int .i64 p1, .bool true, .int .u64 v41.2.2.1, .int .u64 x107.done]) hS109 rfl rfl (fun _ => by kernel_rfl)) fun a110 hS110 => ?_
        refine st_eff hS110 rfl rfl rfl (e_lit (e := 66) (parts := [(0, .agg #[.int .i64 p1, .bool true, .int .u64 v41.2.2.1, .int .u64 x107.done])]) (cs := [.int .i64 p1, .bool true, .int .u64 v41.2.2.1, .int .u64 x107.done]) kd_api_RailOp [(api_RailOp.mk p1 true v41.2.2.1 x107.done)] (N + 2) g100 hS110 rfl rfl (fun _ => by kernel_rfl) rfl (by decide) (Rows.cons (cs := [.int .i64 p1, .bool true, .int .u64 v41.2.2.1, .int .u64 x107.done]) rfl Rows.nil)) ?_
        rintro _ a114 w115 g115 ⟨⟨A111, rfl, h112⟩, F115⟩ hS114
        replace h40 := OwS.fr h40 F115 (fun _ _ h => h)
        replace hb0 := hb0.fr F115 (fun h => h)
        replace hf0_list := OwS.fr hf0_list F115 (fun _ _ h => h)
        replace hF := hF.trans F115 (fun _ h => h.elim)
        refine st_eff hS114 rfl rfl rfl (e_append (e := 66) (sz := 4) (by_ := 32) (z := [.int .i64 0, .bool false, .int .u64 0, .int .u64 0]) (kd := kd_api_RailOp) g115 hS114 rfl rfl rfl rfl (by kernel_rfl) (by kernel_rfl) rfl rfl rfl rfl h40 (OwD.rdx h112) (fun _ _ _ h => h) hy117) ?_
        rintro _ a122 w123 g123 ⟨⟨A118, cap119, rfl, h120⟩, F123⟩ hS122
        replace h112 := OwS.fr h112 F123 (fun c' hc (hm : c' = N + 0) => by omega)
        replace hb0 := hb0.fr F123 (fun (hm : c0 = N + 0) => by omega)
        replace hf0_list := OwS.fr hf0_list F123 (fun c' hc (hm : c' = N + 0) => by omega)
        replace hF := hF.trans F123 (fun c' (hm : c' = N + 0) => by show (c0 ≤ c' ∧ c' < c0 + 3) ∨ (r0 ≤ c' ∧ c' < r0 + 2) ∨ N ≤ c'; omega)
        refine st_val hS122 rfl rfl rfl (r_assign hS122 rfl rfl) fun a124 hS124 => wpList_nil (hK _ _ ?_)
        replace hS : Sl 82 _ [(6, .slice A118 y116.length cap119)] := hS124.re ⟨rfl, trivial⟩
        clear hK K
        try clear hS101 hS102 hS103 hS104 hS105 hS106 hS109 hS110 hS114 hS122 hS124
        obtain ⟨a, ha⟩ : ∃ a', a' = a124 := ⟨_, rfl⟩
        rw [← ha] at hS ⊢; clear ha
        refine wp_ret ?_
        have e := Option.some.inj H
        subst e
        have F125 := Fr.recol2 w123 g123 (N + 0) r0
        replace h120 := h120.recol2 r0
        replace hb0 := hb0.fr F125 (fun (hm : c0 = N + 0 ∨ c0 = N + 0 + 1) => by omega)
        replace hf0_list := OwS.fr hf0_list F125 (fun c' hc (hm : c' = N + 0 ∨ c' = N + 0 + 1) => by omega)
        replace hF := hF.trans F125 (fun c' (hm : c' = N + 0 ∨ c' = N + 0 + 1) => by show (c0 ≤ c' ∧ c' < c0 + 3) ∨ (r0 ≤ c' ∧ c' < r0 + 2) ∨ N ≤ c'; omega)
        repeat (with_reducible first | refine then_ret ?_ | refine inBlock_ret ?_)
        exact c_ret1 hS Try.results64 rfl ⟨_, rfl, (recol2 g123 (N + 0) r0), A118, cap119, rfl, ⟨hb0, hf0_list⟩, h120, hF⟩
theorem rails_Rails_on.calls {p0 : rails_Rails} {c0 : Nat}  {b_p0 : Nat} {A_list_p0 : Option Addr} {cap_list_p0 : Nat} {p1 : Int} {p2 : Int} {w : World} {g : Nat → Nat} {out : rails_Rails × (List api_RailOp)} (N : Nat) (r0 : Nat) (hp0 : rails_Rails_At w g c0 b_p0 A_list_p0 cap_list_p0 p0) (hc0 : c0 + 3 ≤ N) (hr0 : r0 + 2 ≤ N) (hq0_0 : r0 + 2 ≤ c0 ∨ c0 + 3 ≤ r0) (H : rails_Rails_on.f p0 p1 p2 = some out) :
    Calls Try.prog 64 #[.pointer (some ⟨b_p0, 0, none⟩), .int .i64 p1, .int .u64 p2] w (fun e w' => ∃ v, e = .returned v ∧ ∃ (g' : Nat → Nat) (A_r0 : Option Addr) (cap_r0 : Nat), v = .slice A_r0 out.2.length cap_r0 ∧ rails_Rails_At w' g' c0 b_p0 A_list_p0 cap_list_p0 out.1 ∧ OwS kd_api_RailOp 66 w' g' r0 A_r0 cap_r0 out.2 ∧ Fr (fun q => (c0 ≤ q ∧ q < c0 + 3) ∨ (r0 ≤ q ∧ q < r0 + 2) ∨ N ≤ q) w g w' g') :=
  rails_Rails_on.calls_r FUEL N r0 hp0 hc0 hr0 hq0_0 H


end Go.Proofs.Ytfhhklkmbcnhnaa.Sim

namespace Go.Proofs.Ytfhhklkmbcnhnaa.Sim
open Go
set_option linter.unusedVariables false
set_option linter.unusedSimpArgs false

/-! ### rails_Rails_Acquire: function 53 -/
def rails_Rails_Acquire.f (p0 : rails_Rails) (p1 : Int) (p2 : Int) : Option (rails_Rails × (List api_RailOp) × Int) := (rails_Rails_check.f p0 p1 p2).bind fun r6 => if (!r6) = true then (some (p0, [], 1)) else ((rails_Rails_on.f (rails_Rails.mk p0.list p2) p1 p2).bind fun r23 => some (r23.1, r23.2, 0))
set_option maxRecDepth 100000 in
set_option maxHeartbeats 4000000 in
theorem rails_Rails_Acquire.calls {p0 : rails_Rails} {c0 : Nat}  {b_p0 : Nat} {A_list_p0 : Option Addr} {cap_list_p0 : Nat} {p1 : Int} {p2 : Int} {w : World} {g : Nat → Nat} {out : rails_Rails × (List api_RailOp) × Int} (N : Nat) (r0 : Nat) (hp0 : rails_Rails_At w g c0 b_p0 A_list_p0 cap_list_p0 p0) (hc0 : c0 + 3 ≤ N) (hr0 : r0 + 2 ≤ N) (hq0_0 : r0 + 2 ≤ c0 ∨ c0 + 3 ≤ r0) (H : rails_Rails_Acquire.f p0 p1 p2 = some out) :
    Calls Try.prog 53 #[.pointer (some ⟨b_p0, 0, none⟩), .int .i64 p1, .int .u64 p2] w (fun e w' => ∃ v, e = .returned v ∧ ∃ (g' : Nat → Nat) (A_r0 : Option Addr) (cap_r0 : Nat), v = .tuple #[.slice A_r0 out.2.1.length cap_r0, .int .i64 out.2.2] ∧ rails_Rails_At w' g' c0 b_p0 A_list_p0 cap_list_p0 out.1 ∧ OwS kd_api_RailOp 66 w' g' r0 A_r0 cap_r0 out.2.1 ∧ Fr (fun q => (c0 ≤ q ∧ q < c0 + 3) ∨ (r0 ≤ q ∧ q < r0 + 2) ∨ N ≤ q) w g w' g') := by
  unfold rails_Rails_Acquire.f at H
  refine calls_enter Try.func53 rfl Try.ntmps53 rfl (fun a hS => ?_)
  replace hS : Sl 21 a [(0, .pointer (some ⟨b_p0, 0, none⟩)), (1, .int .i64 p1), (2, .int .u64 p2)] := hS
  have hF : Fr (fun q => (c0 ≤ q ∧ q < c0 + 3) ∨ (r0 ≤ q ∧ q < r0 + 2) ∨ N ≤ q) w g w g := Fr.refl _ _ _
  obtain ⟨hb0, hf0_list⟩ := hp0
  refine c_pure [(0, .pointer (some ⟨b_p0, 0, none⟩)), (1, .int .i64 p1), (2, .int .u64 p2)] (fun R hR => st_val hS rfl rfl rfl (r_assign hS rfl rfl) fun a1 hS1 => st_val hS1 rfl rfl rfl (r_assign hS1 rfl rfl) fun a2 hS2 => wpList_nil (hR _ (hS2.re ⟨rfl, rfl, rfl, trivial⟩))) ?_
  clear hS
  clear a
  intro a hS
  refine wp_seq ?_
  obtain ⟨r6, hr7, H⟩ := bind_el H
  refine c_region (fun K hK => ?_)
  refine st_val hS rfl rfl rfl (r_move hS rfl rfl) fun a3 hS3 => st_val hS3 rfl rfl rfl (r_move hS3 rfl rfl) fun a4 hS4 => st_val hS4 rfl rfl rfl (r_move hS4 rfl rfl) fun a5 hS5 => ?_
  refine st_enter hS5 rfl rfl rfl (r_call hS5 rfl rfl (by kernel_rfl)) (rails_Rails_check.calls (c0 := c0) (b_p0 := b_p0) (A_list_p0 := A_list_p0) (cap_list_p0 := cap_list_p0) (p0 := p0) (p1 := p1) (p2 := p2) (g := g) (N + 2)  ⟨hb0, hf0_list⟩ (by omega) hr7) ?_
  rintro _ a8 w9 ⟨g9, rfl, F9⟩ hS8
  replace hb0 := hb0.fr F9 (fun (hm : N + 2 ≤ c0) => by omega)
  replace hf0_list := OwS.fr hf0_list F9 (fun c' hc (hm : N + 2 ≤ c') => by omega)
  replace hF := hF.trans F9 (fun c' (hm : N + 2 ≤ c') => by show (c0 ≤ c' ∧ c' < c0 + 3) ∨ (r0 ≤ c' ∧ c' < r0 + 2) ∨ N ≤ c'; omega)
  refine st_val hS8 rfl rfl rfl (r_not hS8 rfl rfl) fun a10 hS10 => wpList_nil (hK _ _ ?_)
  replace hS : Sl 21 _ [(0, .pointer (some ⟨b_p0, 0, none⟩)), (1, .int .i64 p1), (2, .int .u64 p2), (12, .bool (!r6))] := hS10.re ⟨rfl, rfl, rfl, rfl, trivial⟩
  clear hK K
  try clear hS3 hS4 hS5 hS8 hS10
  obtain ⟨a, ha⟩ : ∃ a', a' = a10 := ⟨_, rfl⟩
  rw [← ha] at hS ⊢; clear ha
  refine c_cond hS rfl (fun hb11 => ?_) (fun hb11 => ?_)
  · replace H := ite_t hb11 H
    refine c_pure [(6, .slice none 0 0), (7, .int .i64 1)] (fun R hR => st_val hS rfl rfl rfl (r_assign hS rfl rfl) fun a12 hS12 => st_val hS12 rfl rfl rfl (r_assign hS12 rfl rfl) fun a13 hS13 => wpList_nil (hR _ (hS13.re ⟨rfl, rfl, trivial⟩))) ?_
    clear hS
    clear a
    intro a hS
    refine wp_ret ?_
    have e := Option.some.inj H
    subst e
    repeat (with_reducible first | refine then_ret ?_ | refine inBlock_ret ?_)
    exact c_ret2 hS Try.results53 rfl rfl ⟨_, rfl, g9, none, 0, rfl, ⟨hb0, hf0_list⟩, OwS.nil kd_api_RailOp 66 w9 g9 r0, hF⟩
  · replace H := ite_f hb11 H
    refine wp_skip ?_
    change Code.wp _ _ _ _ _
    refine c_region (fun K hK => ?_)
    refine st_val hS rfl rfl rfl (r_move hS rfl rfl) fun a14 hS14 => st_val hS14 rfl rfl rfl (r_move hS14 rfl rfl) fun a15 hS15 => st_val hS15 rfl rfl rfl (r_nil hS15 rfl rfl) fun a16 hS16 => st_val hS16 rfl rfl rfl (r_fieldB (off := 1) hS16 rfl rfl (by kernel_rfl)) fun a17 hS17 => ?_
    refine st_effS hS17 rfl rfl (e_storeB (n := 1) (bb := false) (cs' := [.slice A_list_p0 p0.list.length cap_list_p0, .int .u64 p2]) g9 hS17 rfl rfl rfl (by kernel_rfl) rfl rfl rfl hb0 rfl rfl) ?_
    rintro a18 w19 g19 ⟨hb0, F19⟩ hS18
    replace hf0_list := OwS.fr hf0_list F19 (fun c' hc (hm : c' = c0) => by omega)
    replace hF := hF.trans F19 (fun c' (hm : c' = c0) => by show (c0 ≤ c' ∧ c' < c0 + 3) ∨ (r0 ≤ c' ∧ c' < r0 + 2) ∨ N ≤ c'; omega)
    refine wpList_nil (hK _ _ ?_)
    replace hS : Sl 21 _ [(0, .pointer (some ⟨b_p0, 0, none⟩)), (1, .int .i64 p1), (2, .int .u64 p2)] := hS18.re ⟨rfl, rfl, rfl, trivial⟩
    clear hK K
    try clear hS14 hS15 hS16 hS17 hS18
    obtain ⟨a, ha⟩ : ∃ a', a' = a18 := ⟨_, rfl⟩
    rw [← ha] at hS ⊢; clear ha
    obtain ⟨r23, hr24, H⟩ := bind_el H
    refine c_region (fun K hK => ?_)
    refine st_val hS rfl rfl rfl (r_move hS rfl rfl) fun a20 hS20 => st_val hS20 rfl rfl rfl (r_move hS20 rfl rfl) fun a21 hS21 => st_val hS21 rfl rfl rfl (r_move hS21 rfl rfl) fun a22 hS22 => ?_
    refine st_enter hS22 rfl rfl rfl (r_call hS22 rfl rfl (by kernel_rfl)) (rails_Rails_on.calls (c0 := c0) (b_p0 := b_p0) (A_list_p0 := A_list_p0) (cap_list_p0 := cap_list_p0) (p0 := (rails_Rails.mk p0.list p2)) (p1 := p1) (p2 := p2) (g := g19) (N + 2) (N + 0) ⟨hb0, hf0_list⟩ (by omega) (by omega) (by omega) hr24) ?_
    rintro _ a29 w30 ⟨g30, A25, cap26, rfl, ⟨hb0, hf0_list⟩, h27, F30⟩ hS29
    replace hF := hF.trans F30 (fun c' (hm : (c0 ≤ c' ∧ c' < c0 + 3) ∨ (N + 0 ≤ c' ∧ c' < N + 0 + 2) ∨ N + 2 ≤ c') => by show (c0 ≤ c' ∧ c' < c0 + 3) ∨ (r0 ≤ c' ∧ c' < r0 + 2) ∨ N ≤ c'; omega)
    refine st_val hS29 rfl rfl rfl (r_assign hS29 rfl rfl) fun a31 hS31 => st_val hS31 rfl rfl rfl (r_assign hS31 rfl rfl) fun a32 hS32 => wpList_nil (hK _ _ ?_)
    replace hS : Sl 21 _ [(6, .slice A25 r23.2.length cap26), (7, .int .i64 0)] := hS32.re ⟨rfl, rfl, trivial⟩
    clear hK K
    try clear hS20 hS21 hS22 hS29 hS31 hS32
    obtain ⟨a, ha⟩ : ∃ a', a' = a32 := ⟨_, rfl⟩
    rw [← ha] at hS ⊢; clear ha
    refine wp_ret ?_
    have e := Option.some.inj H
    subst e
    have F33 := Fr.recol2 w30 g30 (N + 0) r0
    replace h27 := h27.recol2 r0
    replace hb0 := hb0.fr F33 (fun (hm : c0 = N + 0 ∨ c0 = N + 0 + 1) => by omega)
    replace hf0_list := OwS.fr hf0_list F33 (fun c' hc (hm : c' = N + 0 ∨ c' = N + 0 + 1) => by omega)
    replace hF := hF.trans F33 (fun c' (hm : c' = N + 0 ∨ c' = N + 0 + 1) => by show (c0 ≤ c' ∧ c' < c0 + 3) ∨ (r0 ≤ c' ∧ c' < r0 + 2) ∨ N ≤ c'; omega)
    repeat (with_reducible first | refine then_ret ?_ | refine inBlock_ret ?_)
    exact c_ret2 hS Try.results53 rfl rfl ⟨_, rfl, (recol2 g30 (N + 0) r0), A25, cap26, rfl, ⟨hb0, hf0_list⟩, h27, hF⟩


end Go.Proofs.Ytfhhklkmbcnhnaa.Sim

namespace Go.Proofs.Ytfhhklkmbcnhnaa.Sim
open Go
set_option linter.unusedVariables false
set_option linter.unusedSimpArgs false

/-! ### rails_Rails_off: function 66 -/
def rails_Rails_off.l0 (p0 : rails_Rails) (p1 : Int) (x7 : rails_rail) : Nat → Int → Int → Option (Int)
  | 0, _, _ => none
  | k47 + 1, m0_0, m0_1 => if decide (m0_1 < ((upd p0.list p1 ({ x7 with count := wi (x7.count - 1) } : rails_rail)).length : Int)) = true then (((idx (upd p0.list p1 ({ x7 with count := wi (x7.count - 1) } : rails_rail)) m0_1).bind fun x54 => if (x54.Rail.Supply == p1) = true then (some (max m0_0 x54.done)) else (some m0_0) : Option (Int)).bind fun v51 => rails_Rails_off.l0 p0 p1 x7 k47 v51 (wi (m0_1 + 1))) else (some m0_0)
def rails_Rails_off.r : Nat → rails_Rails → Int → Int → Option (rails_Rails × (List api_RailOp))
  | 0, _, _, _ => none
  | kr + 1, p0, p1, p2 => (idx p0.list p1).bind fun x7 => (idx (upd p0.list p1 ({ x7 with count := wi (x7.count - 1) } : rails_rail)) p1).bind fun x23 => if decide (0 < x23.count) = true then (some ((rails_Rails.mk (upd p0.list p1 ({ x7 with count := wi (x7.count - 1) } : rails_rail)) p0.now), [])) else ((rails_Rails_off.l0 p0 p1 x7 FUEL (max p2 x23.done) 0 : Option (Int)).bind fun v37 => (idx (upd (upd p0.list p1 ({ x7 with count := wi (x7.count - 1) } : rails_rail)) p1 ({ x23 with done := wu (v37 + x23.Rail.RampDown) } : rails_rail)) p1).bind fun x95 => (if decide (0 ≤ x95.Rail.Supply) = true then ((rails_Rails_off.r kr (rails_Rails.mk (upd (upd p0.list p1 ({ x7 with count := wi (x7.count - 1) } : rails_rail)) p1 ({ x23 with done := wu (v37 + x23.Rail.RampDown) } : rails_rail)) p0.now) x95.Rail.Supply p2).bind fun r127 => (app [(api_RailOp.mk p1 false v37 x95.done)] r127.2).bind fun y135 => some (y135, r127.1)) else (some ([(api_RailOp.mk p1 false v37 x95.done)], (rails_Rails.mk (upd (upd p0.list p1 ({ x7 with count := wi (x7.count - 1) } : rails_rail)) p1 ({ x23 with done := wu (v37 + x23.Rail.RampDown) } : rails_rail)) p0.now))) : Option ((List api_RailOp) × rails_Rails)).bind fun v109 => some (v109.2, v109.1))
def rails_Rails_off.f (p0 : rails_Rails) (p1 : Int) (p2 : Int) : Option (rails_Rails × (List api_RailOp)) := rails_Rails_off.r FUEL p0 p1 p2
set_option maxRecDepth 100000 in
set_option maxHeartbeats 4000000 in
theorem rails_Rails_off.calls_r : ∀ (kr : Nat) {p0 : rails_Rails} {c0 : Nat}  {b_p0 : Nat} {A_list_p0 : Option Addr} {cap_list_p0 : Nat} {p1 : Int} {p2 : Int} {w : World} {g : Nat → Nat} {out : rails_Rails × (List api_RailOp)} (N : Nat) (r0 : Nat) (hp0 : rails_Rails_At w g c0 b_p0 A_list_p0 cap_list_p0 p0) (hc0 : c0 + 3 ≤ N) (hr0 : r0 + 2 ≤ N) (hq0_0 : r0 + 2 ≤ c0 ∨ c0 + 3 ≤ r0), rails_Rails_off.r kr p0 p1 p2 = some out →
    Calls Try.prog 66 #[.pointer (some ⟨b_p0, 0, none⟩), .int .i64 p1, .int .u64 p2] w (fun e w' => ∃ v, e = .returned v ∧ ∃ (g' : Nat → Nat) (A_r0 : Option Addr) (cap_r0 : Nat), v = .slice A_r0 out.2.length cap_r0 ∧ rails_Rails_At w' g' c0 b_p0 A_list_p0 cap_list_p0 out.1 ∧ OwS kd_api_RailOp 66 w' g' r0 A_r0 cap_r0 out.2 ∧ Fr (fun q => (c0 ≤ q ∧ q < c0 + 3) ∨ (r0 ≤ q ∧ q < r0 + 2) ∨ N ≤ q) w g w' g') := by
  intro kr
  induction kr with
  | zero => intros; rename_i H; exact absurd H (by simp [rails_Rails_off.r])
  | succ kr ih =>
    intro p0 c0 b_p0 A_list_p0 cap_list_p0 p1 p2 w g out N r0 hp0 hc0 hr0 hq0_0 H
    rw [rails_Rails_off.r] at H
    refine calls_enter Try.func66 rfl Try.ntmps66 rfl (fun a hS => ?_)
    replace hS : Sl 90 a [(0, .pointer (some ⟨b_p0, 0, none⟩)), (1, .int .i64 p1), (2, .int .u64 p2)] := hS
    have hF : Fr (fun q => (c0 ≤ q ∧ q < c0 + 3) ∨ (r0 ≤ q ∧ q < r0 + 2) ∨ N ≤ q) w g w g := Fr.refl _ _ _
    obtain ⟨hb0, hf0_list⟩ := hp0
    refine c_pure [(0, .pointer (some ⟨b_p0, 0, none⟩)), (1, .int .i64 p1), (2, .int .u64 p2)] (fun R hR => st_val hS rfl rfl rfl (r_assign hS rfl rfl) fun a1 hS1 => wpList_nil (hR _ (hS1.re ⟨rfl, rfl, rfl, trivial⟩))) ?_
    clear hS
    clear a
    intro a hS
    obtain ⟨x7, hx8, H⟩ := bind_el H
    refine c_pure [(0, .pointer (some ⟨b_p0, 0, none⟩)), (1, .int .i64 p1), (2, .int .u64 p2), (7, .pointer (some (ea A_list_p0 (p1.toNat * 5))))] (fun R hR => st_val hS rfl rfl rfl (r_move hS rfl rfl) fun a2 hS2 => st_val hS2 rfl rfl rfl (r_nil hS2 rfl rfl) fun a3 hS3 => st_val hS3 rfl rfl rfl (r_fieldB (off := 0) hS3 rfl rfl (by kernel_rfl)) fun a4 hS4 => st_val hS4 rfl rfl rfl (r_load1 (n := 1) hS4 rfl rfl (by kernel_rfl) (Bx.cell hb0 rfl)) fun a5 hS5 => st_val hS5 rfl rfl rfl (r_move hS5 rfl rfl) fun a6 hS6 => st_val hS6 rfl rfl rfl (r_index (e := 105) (sz := 5) (by_ := 40) hS6 rfl rfl rfl (by kernel_rfl) (RdS.some_ (OwS.rd hf0_list) hx8) (idx_lo hx8) (idx_hi hx8)) fun a9 hS9 => st_val hS9 rfl rfl rfl (r_assign hS9 rfl rfl) fun a10 hS10 => wpList_nil (hR _ (hS10.re ⟨rfl, rfl, rfl, rfl, trivial⟩))) ?_
    clear hS
    clear a
    intro a hS
    refine c_region (fun K hK => ?_)
    refine st_val hS rfl rfl rfl (r_move hS rfl rfl) fun a11 hS11 => st_val hS11 rfl rfl rfl (r_nil hS11 rfl rfl) fun a12 hS12 => st_val hS12 rfl rfl rfl (r_fieldE (off := 3) hS12 rfl rfl (by kernel_rfl)) fun a13 hS13 => st_val hS13 rfl rfl rfl (r_load1 (n := 1) hS13 rfl rfl (by kernel_rfl) (RdS.cell (i := p1) (sz := 5) (j := 3) (OwS.rd hf0_list) hx8 rfl)) fun a14 hS14 => st_val hS14 rfl rfl rfl (r_bin hS14 rfl rfl rfl b_sub) fun a15 hS15 => st_val hS15 rfl rfl rfl (r_nil hS15 rfl rfl) fun a16 hS16 => st_val hS16 rfl rfl rfl (r_fieldE (off := 3) hS16 rfl rfl (by kernel_rfl)) fun a17 hS17 => ?_
    refine st_effS hS17 rfl rfl (e_storeE (n := 1) (bb := false) (kd := kd_rails_rail) (j := 3) (x' := ({ x7 with count := wi (x7.count - 1) } : rails_rail)) (us := [.int .i64 (wi (x7.count - 1))]) g hS17 rfl rfl rfl rfl (by kernel_rfl) rfl rfl (by intro v hv; simp only [List.mem_cons, List.not_mem_nil, or_false] at hv; rcases hv with rfl <;> rfl) hf0_list hx8 rfl (fun _ _ cs hR => by rw [show cs = _ from hR]; rfl)) ?_
    rintro a18 w19 g19 ⟨hf0_list, F19⟩ hS18
    replace hb0 := hb0.fr F19 (fun (hm : c0 = c0 + 1) => by omega)
    replace hF := hF.trans F19 (fun c' (hm : c' = c0 + 1) => by show (c0 ≤ c' ∧ c' < c0 + 3) ∨ (r0 ≤ c' ∧ c' < r0 + 2) ∨ N ≤ c'; omega)
    replace hb0 : Bx w19 g19 (c0) b_p0 100 [.slice A_list_p0 (upd p0.list p1 ({ x7 with count := wi (x7.count - 1) } : rails_rail)).length cap_list_p0, .int .u64 p0.now] := by simpa only [upd_length] using hb0
    refine wpList_nil (hK _ _ ?_)
    replace hS : Sl 90 _ [(0, .pointer (some ⟨b_p0, 0, none⟩)), (1, .int .i64 p1), (2, .int .u64 p2), (7, .pointer (some (ea A_list_p0 (p1.toNat * 5))))] := hS18.re ⟨rfl, rfl, rfl, rfl, trivial⟩
    clear hK K
    try clear hS11 hS12 hS13 hS14 hS15 hS16 hS17 hS18
    obtain ⟨a, ha⟩ : ∃ a', a' = a18 := ⟨_, rfl⟩
    rw [← ha] at hS ⊢; clear ha
    refine wp_seq ?_
    obtain ⟨x23, hx24, H⟩ := bind_el H
    refine c_pure [(0, .pointer (some ⟨b_p0, 0, none⟩)), (1, .int .i64 p1), (2, .int .u64 p2), (7, .pointer (some (ea A_list_p0 (p1.toNat * 5)))), (29, .bool (decide (0 < x23.count)))] (fun R hR => st_val hS rfl rfl rfl (r_move hS rfl rfl) fun a20 hS20 => st_val hS20 rfl rfl rfl (r_nil hS20 rfl rfl) fun a21 hS21 => st_val hS21 rfl rfl rfl (r_fieldE (off := 3) hS21 rfl rfl (by kernel_rfl)) fun a22 hS22 => st_val hS22 rfl rfl rfl (r_load1 (n := 1) hS22 rfl rfl (by kernel_rfl) (RdS.cell (i := p1) (sz := 5) (j := 3) (OwS.rd hf0_list) hx24 rfl)) fun a25 hS25 => st_val hS25 rfl rfl rfl (r_bin hS25 rfl rfl rfl b_gtr) fun a26 hS26 => wpList_nil (hR _ (hS26.re ⟨rfl, rfl, rfl, rfl, rfl, trivial⟩))) ?_
    clear hS
    clear a
    intro a hS
    refine c_cond hS rfl (fun hb27 => ?_) (fun hb27 => ?_)
    · replace H := ite_t hb27 H
      refine c_pure [(6, .slice none 0 0)] (fun R hR => st_val hS rfl rfl rfl (r_assign hS rfl rfl) fun a28 hS28 => wpList_nil (hR _ (hS28.re ⟨rfl, trivial⟩))) ?_
      clear hS
      clear a
      intro a hS
      refine wp_ret ?_
      have e := Option.some.inj H
      subst e
      repeat (with_reducible first | refine then_ret ?_ | refine inBlock_ret ?_)
      exact c_ret1 hS Try.results66 rfl ⟨_, rfl, g19, none, 0, rfl, ⟨hb0, hf0_list⟩, OwS.nil kd_api_RailOp 66 w19 g19 r0, hF⟩
    · replace H := ite_f hb27 H
      refine wp_skip ?_
      change Code.wp _ _ _ _ _
      refine c_pure [(0, .pointer (some ⟨b_p0, 0, none⟩)), (1, .int .i64 p1), (2, .int .u64 p2), (7, .pointer (some (ea A_list_p0 (p1.toNat * 5)))), (8, .int .u64 (max p2 x23.done))] (fun R hR => st_val hS rfl rfl rfl (r_move hS rfl rfl) fun a29 hS29 => st_val hS29 rfl rfl rfl (r_move hS29 rfl rfl) fun a30 hS30 => st_val hS30 rfl rfl rfl (r_nil hS30 rfl rfl) fun a31 hS31 => st_val hS31 rfl rfl rfl (r_fieldE (off := 4) hS31 rfl rfl (by kernel_rfl)) fun a32 hS32 => st_val hS32 rfl rfl rfl (r_load1 (n := 1) hS32 rfl rfl (by kernel_rfl) (RdS.cell (i := p1) (sz := 5) (j := 4) (OwS.rd hf0_list) hx24 rfl)) fun a33 hS33 => st_val hS33 rfl rfl rfl (r_max hS33 rfl rfl rfl) fun a34 hS34 => st_val hS34 rfl rfl rfl (r_assign hS34 rfl rfl) fun a35 hS35 => wpList_nil (hR _ (hS35.re ⟨rfl, rfl, rfl, rfl, rfl, trivial⟩))) ?_
      clear hS
      clear a
      intro a hS
      obtain ⟨v37, H, Hl39⟩ := bind_el H
      refine c_cut (fun a w36 => ∃ (g36 : Nat → Nat), Sl 90 a [(0, .pointer (some ⟨b_p0, 0, none⟩)), (1, .int .i64 p1), (2, .int .u64 p2), (7, .pointer (some (ea A_list_p0 (p1.toNat * 5)))), (8, .int .u64 v37)] ∧ Bx w36 g36 (c0) b_p0 100 [.slice A_list_p0 (upd p0.list p1 ({ x7 with count := wi (x7.count - 1) } : rails_rail)).length cap_list_p0, .int .u64 p0.now] ∧ OwS kd_rails_rail 105 w36 g36 (c0 + 1) A_list_p0 cap_list_p0 (upd p0.list p1 ({ x7 with count := wi (x7.count - 1) } : rails_rail)) ∧ Fr (fun q => (c0 ≤ q ∧ q < c0 + 3) ∨ (r0 ≤ q ∧ q < r0 + 2) ∨ N ≤ q) w g w36 g36) ?_ ?_
      · refine c_pure [(0, .pointer (some ⟨b_p0, 0, none⟩)), (1, .int .i64 p1), (2, .int .u64 p2), (7, .pointer (some (ea A_list_p0 (p1.toNat * 5)))), (8, .int .u64 (max p2 x23.done)), (39, .slice A_list_p0 (upd p0.list p1 ({ x7 with count := wi (x7.count - 1) } : rails_rail)).length cap_list_p0), (40, .int .i64 ((upd p0.list p1 ({ x7 with count := wi (x7.count - 1) } : rails_rail)).length : Int)), (41, .int .i64 0)] (fun R hR => st_val hS rfl rfl rfl (r_move hS rfl rfl) fun a40 hS40 => st_val hS40 rfl rfl rfl (r_nil hS40 rfl rfl) fun a41 hS41 => st_val hS41 rfl rfl rfl (r_fieldB (off := 0) hS41 rfl rfl (by kernel_rfl)) fun a42 hS42 => st_val hS42 rfl rfl rfl (r_load1 (n := 1) hS42 rfl rfl (by kernel_rfl) (Bx.cell hb0 rfl)) fun a43 hS43 => st_val hS43 rfl rfl rfl (r_len (e := 105) (sz := 5) (by_ := 40) hS43 rfl rfl (by kernel_rfl)) fun a44 hS44 => st_val hS44 rfl rfl rfl (r_move hS44 rfl rfl) fun a45 hS45 => wpList_nil (hR _ (hS45.re ⟨rfl, rfl, rfl, rfl, rfl, rfl, rfl, rfl, trivial⟩))) ?_
        clear hS
        clear a
        intro a hS
        refine wp_block ?_
        refine wp_loop_ghost (fun kq => fun a w46 => ∃ (m0_0 : Int), ∃ (m0_1 : Int), ∃ (g46 : Nat → Nat), rails_Rails_off.l0 p0 p1 x7 kq m0_0 m0_1 = some v37 ∧ Sl 90 a [(0, .pointer (some ⟨b_p0, 0, none⟩)), (1, .int .i64 p1), (2, .int .u64 p2), (7, .pointer (some (ea A_list_p0 (p1.toNat * 5)))), (8, .int .u64 m0_0), (39, .slice A_list_p0 (upd p0.list p1 ({ x7 with count := wi (x7.count - 1) } : rails_rail)).length cap_list_p0), (40, .int .i64 ((upd p0.list p1 ({ x7 with count := wi (x7.count - 1) } : rails_rail)).length : Int)), (41, .int .i64 m0_1)] ∧ Bx w46 g46 (c0) b_p0 100 [.slice A_list_p0 (upd p0.list p1 ({ x7 with count := wi (x7.count - 1) } : rails_rail)).length cap_list_p0, .int .u64 p0.now] ∧ OwS kd_rails_rail 105 w46 g46 (c0 + 1) A_list_p0 cap_list_p0 (upd p0.list p1 ({ x7 with count := wi (x7.count - 1) } : rails_rail)) ∧ Fr (fun q => (c0 ≤ q ∧ q < c0 + 3) ∨ (r0 ≤ q ∧ q < r0 + 2) ∨ N ≤ q) w g w46 g46) FUEL ?_ ?_
        · exact ⟨(max p2 x23.done), 0, g19, H, hS.re ⟨rfl, rfl, rfl, rfl, rfl, rfl, rfl, rfl, trivial⟩, hb0, hf0_list, hF⟩
        · clear H
          clear hf0_list hb0 hF
          clear hS
          rintro k47 a w46 ⟨m0_0, m0_1, g46, hpre0, hS, hb0, hf0_list, hF⟩
          have H := hpre0
          clear hpre0
          cases k47 with
          | zero => exact absurd H (by simp [rails_Rails_off.l0])
          | succ k47 =>
            rw [rails_Rails_off.l0] at H
            refine c_pure [(0, .pointer (some ⟨b_p0, 0, none⟩)), (1, .int .i64 p1), (2, .int .u64 p2), (7, .pointer (some (ea A_list_p0 (p1.toNat * 5)))), (8, .int .u64 m0_0), (39, .slice A_list_p0 (upd p0.list p1 ({ x7 with count := wi (x7.count - 1) } : rails_rail)).length cap_list_p0), (40, .int .i64 ((upd p0.list p1 ({ x7 with count := wi (x7.count - 1) } : rails_rail)).length : Int)), (41, .int .i64 m0_1), (42, .bool (decide (m0_1 < ((upd p0.list p1 ({ x7 with count := wi (x7.count - 1) } : rails_rail)).length : Int))))] (fun R hR => st_val hS rfl rfl rfl (r_bin hS rfl rfl rfl b_lss) fun a48 hS48 => wpList_nil (hR _ (hS48.re ⟨rfl, rfl, rfl, rfl, rfl, rfl, rfl, rfl, rfl, trivial⟩))) ?_
            clear hS
            clear a
            intro a hS
            refine c_if hS rfl (fun hb49 => ?_) (fun hb49 => ?_)
            · replace H := ite_t hb49 H
              refine wp_skip ?_
              change Code.wp _ _ _ _ _
              obtain ⟨v51, H, Hl53⟩ := bind_el H
              refine c_cut (fun a w50 => ∃ (g50 : Nat → Nat), Sl 90 a [(0, .pointer (some ⟨b_p0, 0, none⟩)), (1, .int .i64 p1), (2, .int .u64 p2), (7, .pointer (some (ea A_list_p0 (p1.toNat * 5)))), (8, .int .u64 v51), (39, .slice A_list_p0 (upd p0.list p1 ({ x7 with count := wi (x7.count - 1) } : rails_rail)).length cap_list_p0), (40, .int .i64 ((upd p0.list p1 ({ x7 with count := wi (x7.count - 1) } : rails_rail)).length : Int)), (41, .int .i64 m0_1)] ∧ Bx w50 g50 (c0) b_p0 100 [.slice A_list_p0 (upd p0.list p1 ({ x7 with count := wi (x7.count - 1) } : rails_rail)).length cap_list_p0, .int .u64 p0.now] ∧ OwS kd_rails_rail 105 w50 g50 (c0 + 1) A_list_p0 cap_list_p0 (upd p0.list p1 ({ x7 with count := wi (x7.count - 1) } : rails_rail)) ∧ Fr (fun q => (c0 ≤ q ∧ q < c0 + 3) ∨ (r0 ≤ q ∧ q < r0 + 2) ∨ N ≤ q) w g w50 g50) ?_ ?_
              · refine wp_block ?_
                obtain ⟨x54, hx55, H⟩ := bind_el H
                refine c_region (fun K hK => ?_)
                refine st_val hS rfl rfl rfl (r_index (e := 105) (sz := 5) (by_ := 40) hS rfl rfl rfl (by kernel_rfl) (RdS.some_ (OwS.rd hf0_list) hx55) (idx_lo hx55) (idx_hi hx55)) fun a56 hS56 => st_val hS56 rfl rfl rfl (r_loadN (n := 5) (cs := [.int .i64 x54.Rail.Supply, .int .u64 x54.Rail.RampUp, .int .u64 x54.Rail.RampDown, .int .i64 x54.count, .int .u64 x54.done]) hS56 rfl rfl (by kernel_rfl) rfl (RdS.cells_off (OwS.rd hf0_list) hx55 0 5)) fun a57 hS57 => ?_
                refine st_eff hS57 rfl rfl rfl (e_alloc (cs := [.int .i64 0, .int .u64 0, .int .u64 0, .int .i64 0, .int .u64 0]) (N + 0) g46 hS57 rfl (by kernel_rfl)) ?_
                rintro _ a61 w62 g62 ⟨⟨b58, rfl, h59⟩, F62⟩ hS61
                replace hb0 := hb0.fr F62 (fun h => h)
                replace hf0_list := OwS.fr hf0_list F62 (fun _ _ h => h)
                replace hF := hF.trans F62 (fun _ h => h.elim)
                refine st_effS hS61 rfl rfl (e_storeB (n := 5) (bb := true) (cs' := [.int .i64 x54.Rail.Supply, .int .u64 x54.Rail.RampUp, .int .u64 x54.Rail.RampDown, .int .i64 x54.count, .int .u64 x54.done]) g62 hS61 rfl rfl rfl (by kernel_rfl) rfl rfl rfl h59 rfl rfl) ?_
                rintro a63 w64 g64 ⟨h59, F64⟩ hS63
                replace hb0 := hb0.fr F64 (fun (hm : c0 = N + 0) => by omega)
                replace hf0_list := OwS.fr hf0_list F64 (fun c' hc (hm : c' = N + 0) => by omega)
                replace hF := hF.trans F64 (fun c' (hm : c' = N + 0) => by show (c0 ≤ c' ∧ c' < c0 + 3) ∨ (r0 ≤ c' ∧ c' < r0 + 2) ∨ N ≤ c'; omega)
                refine wpList_nil (hK _ _ ?_)
                replace hS : Sl 90 _ [(0, .pointer (some ⟨b_p0, 0, none⟩)), (1, .int .i64 p1), (2, .int .u64 p2), (7, .pointer (some (ea A_list_p0 (p1.toNat * 5)))), (8, .int .u64 m0_0), (10, .pointer (some ⟨b58, 0, none⟩)), (39, .slice A_list_p0 (upd p0.list p1 ({ x7 with count := wi (x7.count - 1) } : rails_rail)).length cap_list_p0), (40, .int .i64 ((upd p0.list p1 ({ x7 with count := wi (x7.count - 1) } : rails_rail)).length : Int)), (41, .int .i64 m0_1)] := hS63.re ⟨rfl, rfl, rfl, rfl, rfl, rfl, rfl, rfl, rfl, trivial⟩
                clear hK K
                try clear hS56 hS57 hS61 hS63
                obtain ⟨a, ha⟩ : ∃ a', a' = a63 := ⟨_, rfl⟩
                rw [← ha] at hS ⊢; clear ha
                refine c_pure [(0, .pointer (some ⟨b_p0, 0, none⟩)), (1, .int .i64 p1), (2, .int .u64 p2), (7, .pointer (some (ea A_list_p0 (p1.toNat * 5)))), (8, .int .u64 m0_0), (10, .pointer (some ⟨b58, 0, none⟩)), (39, .slice A_list_p0 (upd p0.list p1 ({ x7 with count := wi (x7.count - 1) } : rails_rail)).length cap_list_p0), (40, .int .i64 ((upd p0.list p1 ({ x7 with count := wi (x7.count - 1) } : rails_rail)).length : Int)), (41, .int .i64 m0_1), (49, .bool (x54.Rail.Supply == p1))] (fun R hR => st_val hS rfl rfl rfl (r_fieldB (off := 0) hS rfl rfl (by kernel_rfl)) fun a65 hS65 => st_val hS65 rfl rfl rfl (r_fieldB (off := 0) hS65 rfl rfl (by kernel_rfl)) fun a66 hS66 => st_val hS66 rfl rfl rfl (r_load1 (n := 1) hS66 rfl rfl (by kernel_rfl) (Bx.cell h59 rfl)) fun a67 hS67 => st_val hS67 rfl rfl rfl (r_move hS67 rfl rfl) fun a68 hS68 => st_val hS68 rfl rfl rfl (r_bin hS68 rfl rfl rfl b_eql) fun a69 hS69 => wpList_nil (hR _ (hS69.re ⟨rfl, rfl, rfl, rfl, rfl, rfl, rfl, rfl, rfl, rfl, trivial⟩))) ?_
                clear hS
                clear a
                intro a hS
                refine c_cond hS rfl (fun hb70 => ?_) (fun hb70 => ?_)
                · replace H := ite_t hb70 H
                  refine c_pure1 [(0, .pointer (some ⟨b_p0, 0, none⟩)), (1, .int .i64 p1), (2, .int .u64 p2), (7, .pointer (some (ea A_list_p0 (p1.toNat * 5)))), (8, .int .u64 (max m0_0 x54.done)), (39, .slice A_list_p0 (upd p0.list p1 ({ x7 with count := wi (x7.count - 1) } : rails_rail)).length cap_list_p0), (40, .int .i64 ((upd p0.list p1 ({ x7 with count := wi (x7.count - 1) } : rails_rail)).length : Int)), (41, .int .i64 m0_1)] (fun R hR => st_val hS rfl rfl rfl (r_move hS rfl rfl) fun a71 hS71 => st_val hS71 rfl rfl rfl (r_fieldB (off := 4) hS71 rfl rfl (by kernel_rfl)) fun a72 hS72 => st_val hS72 rfl rfl rfl (r_load1 (n := 1) hS72 rfl rfl (by kernel_rfl) (Bx.cell h59 rfl)) fun a73 hS73 => st_val hS73 rfl rfl rfl (r_max hS73 rfl rfl rfl) fun a74 hS74 => st_val hS74 rfl rfl rfl (r_assign hS74 rfl rfl) fun a75 hS75 => wpList_nil (hR _ (hS75.re ⟨rfl, rfl, rfl, rfl, rfl, rfl, rfl, rfl, trivial⟩))) ?_
                  clear hS
                  clear a
                  intro a hS
                  have e := Option.some.inj H
                  subst e
                  exact ⟨g64, hS.re ⟨rfl, rfl, rfl, rfl, rfl, rfl, rfl, rfl, trivial⟩, hb0, hf0_list, hF⟩
                · replace H := ite_f hb70 H
                  refine wp_skip ?_
                  have e := Option.some.inj H
                  subst e
                  exact ⟨g64, hS.re ⟨rfl, rfl, rfl, rfl, rfl, rfl, rfl, rfl, trivial⟩, hb0, hf0_list, hF⟩
              · clear H
                clear hf0_list hb0 hF
                clear hS
                rintro a w50 ⟨g50, hS, hb0, hf0_list, hF⟩
                have H := Hl53
                clear Hl53
                refine c_pure1 [(0, .pointer (some ⟨b_p0, 0, none⟩)), (1, .int .i64 p1), (2, .int .u64 p2), (7, .pointer (some (ea A_list_p0 (p1.toNat * 5)))), (8, .int .u64 v51), (39, .slice A_list_p0 (upd p0.list p1 ({ x7 with count := wi (x7.count - 1) } : rails_rail)).length cap_list_p0), (40, .int .i64 ((upd p0.list p1 ({ x7 with count := wi (x7.count - 1) } : rails_rail)).length : Int)), (41, .int .i64 (wi (m0_1 + 1)))] (fun R hR => st_val hS rfl rfl rfl (r_bin hS rfl rfl rfl b_add) fun a76 hS76 => st_val hS76 rfl rfl rfl (r_move hS76 rfl rfl) fun a77 hS77 => wpList_nil (hR _ (hS77.re ⟨rfl, rfl, rfl, rfl, rfl, rfl, rfl, rfl, trivial⟩))) ?_
                clear hS
                clear a
                intro a hS
                refine ⟨k47, Nat.lt_succ_self _, ?_⟩
                exact ⟨v51, wi (m0_1 + 1), g50, H, hS.re ⟨rfl, rfl, rfl, rfl, rfl, rfl, rfl, rfl, trivial⟩, hb0, hf0_list, hF⟩
            · replace H := ite_f hb49 H
              refine wp_exit ?_
              have e := Option.some.inj H
              subst e
              exact ⟨g46, hS.re ⟨rfl, rfl, rfl, rfl, rfl, trivial⟩, hb0, hf0_list, hF⟩
      · clear H
        clear hf0_list hb0 hF
        clear hS
        rintro a w36 ⟨g36, hS, hb0, hf0_list, hF⟩
        have H := Hl39
        clear Hl39
        refine c_region (fun K hK => ?_)
        refine st_val hS rfl rfl rfl (r_move hS rfl rfl) fun a78 hS78 => st_val hS78 rfl rfl rfl (r_move hS78 rfl rfl) fun a79 hS79 => st_val hS79 rfl rfl rfl (r_move hS79 rfl rfl) fun a80 hS80 => st_val hS80 rfl rfl rfl (r_nil hS80 rfl rfl) fun a81 hS81 => st_val hS81 rfl rfl rfl (r_fieldE (off := 0) hS81 rfl rfl (by kernel_rfl)) fun a82 hS82 => st_val hS82 rfl rfl rfl (r_fieldE (off := 2) hS82 rfl rfl (by kernel_rfl)) fun a83 hS83 => st_val hS83 rfl rfl rfl (r_load1 (n := 1) hS83 rfl rfl (by kernel_rfl) (RdS.cell (i := p1) (sz := 5) (j := 2) (OwS.rd hf0_list) hx24 rfl)) fun a84 hS84 => st_val hS84 rfl rfl rfl (r_bin hS84 rfl rfl rfl b_add) fun a85 hS85 => st_val hS85 rfl rfl rfl (r_nil hS85 rfl rfl) fun a86 hS86 => st_val hS86 rfl rfl rfl (r_fieldE (off := 4) hS86 rfl rfl (by kernel_rfl)) fun a87 hS87 => ?_
        refine st_effS hS87 rfl rfl (e_storeE (n := 1) (bb := false) (kd := kd_rails_rail) (j := 4) (x' := ({ x23 with done := wu (v37 + x23.Rail.RampDown) } : rails_rail)) (us := [.int .u64 (wu (v37 + x23.Rail.RampDown))]) g36 hS87 rfl rfl rfl rfl (by kernel_rfl) rfl rfl (by intro v hv; simp only [List.mem_cons, List.not_mem_nil, or_false] at hv; rcases hv with rfl <;> rfl) hf0_list hx24 rfl (fun _ _ cs hR => by rw [show cs = _ from hR]; rfl)) ?_
        rintro a88 w89 g89 ⟨hf0_list, F89⟩ hS88
        replace hb0 := hb0.fr F89 (fun (hm : c0 = c0 + 1) => by omega)
        replace hF := hF.trans F89 (fun c' (hm : c' = c0 + 1) => by show (c0 ≤ c' ∧ c' < c0 + 3) ∨ (r0 ≤ c' ∧ c' < r0 + 2) ∨ N ≤ c'; omega)
        replace hb0 : Bx w89 g89 (c0) b_p0 100 [.slice A_list_p0 (upd (upd p0.list p1 ({ x7 with count := wi (x7.count - 1) } : rails_rail)) p1 ({ x23 with done := wu (v37 + x23.Rail.RampDown) } : rails_rail)).length cap_list_p0, .int .u64 p0.now] := by simpa only [upd_length] using hb0
        refine wpList_nil (hK _ _ ?_)
        replace hS : Sl 90 _ [(0, .pointer (some ⟨b_p0, 0, none⟩)), (1, .int .i64 p1), (2, .int .u64 p2), (7, .pointer (some (ea A_list_p0 (p1.toNat * 5)))), (8, .int .u64 v37)] := hS88.re ⟨rfl, rfl, rfl, rfl, rfl, trivial⟩
        clear hK K
        try clear hS78 hS79 hS80 hS81 hS82 hS83 hS84 hS85 hS86 hS87 hS88
        obtain ⟨a, ha⟩ : ∃ a', a' = a88 := ⟨_, rfl⟩
        rw [← ha] at hS ⊢; clear ha
        obtain ⟨x95, hx96, H⟩ := bind_el H
        refine c_region (fun K hK => ?_)
        refine st_val hS rfl rfl rfl (r_move hS rfl rfl) fun a90 hS90 => st_val hS90 rfl rfl rfl (r_move hS90 rfl rfl) fun a91 hS91 => st_val hS91 rfl rfl rfl (r_move hS91 rfl rfl) fun a92 hS92 => st_val hS92 rfl rfl rfl (r_nil hS92 rfl rfl) fun a93 hS93 => st_val hS93 rfl rfl rfl (r_fieldE (off := 4) hS93 rfl rfl (by kernel_rfl)) fun a94 hS94 => st_val hS94 rfl rfl rfl (r_load1 (n := 1) hS94 rfl rfl (by kernel_rfl) (RdS.cell (i := p1) (sz := 5) (j := 4) (OwS.rd hf0_list) hx96 rfl)) fun a97 hS97 => st_val hS97 rfl rfl rfl (r_build (parts := [(0, .int .i64 p1), (2, .int .u64 v37), (3, .int .u64 x95.done)]) (u := .agg #[.int .i64 p1, .bool false, .int .u64 v37, .int .u64 x95.done]) hS97 rfl rfl (fun _ => by kernel_rfl)) fun a98 hS98 => ?_
        refine st_eff hS98 rfl rfl rfl (e_lit (e := 66) (parts := [(0, .agg #[.int .i64 p1, .bool false, .int .u64 v37, .int .u64 x95.done])]) (cs := [.int .i64 p1, .bool false, .int .u64 v37, .int .u64 x95.done]) kd_api_RailOp [(api_RailOp.mk p1 false v37 x95.done)] (N + 2) g89 hS98 rfl rfl (fun _ => by kernel_rfl) rfl (by decide) (Rows.cons (cs := [.int .i64 p1, .bool false, .int .u64 v37, .int .u64 x95.done]) rfl Rows.nil)) ?_
        rintro _ a102 w103 g103 ⟨⟨A99, rfl, h100⟩, F103⟩ hS102
        replace hb0 := hb0.fr F103 (fun h => h)
        replace hf0_list := OwS.fr hf0_list F103 (fun _ _ h => h)
        replace hF := hF.trans F103 (fun _ h => h.elim)
        refine st_val hS102 rfl rfl rfl (r_assign hS102 rfl rfl) fun a104 hS104 => wpList_nil (hK _ _ ?_)
        replace hS : Sl 90 _ [(0, .pointer (some ⟨b_p0, 0, none⟩)), (2, .int .u64 p2), (7, .pointer (some (ea A_list_p0 (p1.toNat * 5)))), (11, .slice A99 [(api_RailOp.mk p1 false v37 x95.done)].length 1)] := hS104.re ⟨rfl, rfl, rfl, rfl, trivial⟩
        clear hK K
        try clear hS90 hS91 hS92 hS93 hS94 hS97 hS98 hS102 hS104
        obtain ⟨a, ha⟩ : ∃ a', a' = a104 := ⟨_, rfl⟩
        rw [← ha] at hS ⊢; clear ha
        obtain ⟨v109, H, Hl111⟩ := bind_el H
        refine c_cut (fun a w105 => ∃ (g105 : Nat → Nat), ∃ (A106 : Option Addr), ∃ (cap107 : Nat), Sl 90 a [(11, .slice A106 v109.1.length cap107)] ∧ OwS kd_api_RailOp 66 w105 g105 (N + 2) A106 cap107 v109.1 ∧ Bx w105 g105 (c0) b_p0 100 [.slice A_list_p0 v109.2.list.length cap_list_p0, .int .u64 v109.2.now] ∧ OwS kd_rails_rail 105 w105 g105 (c0 + 1) A_list_p0 cap_list_p0 v109.2.list ∧ Fr (fun q => (c0 ≤ q ∧ q < c0 + 3) ∨ (r0 ≤ q ∧ q < r0 + 2) ∨ N ≤ q) w g w105 g105) ?_ ?_
        · refine c_pure [(0, .pointer (some ⟨b_p0, 0, none⟩)), (2, .int .u64 p2), (7, .pointer (some (ea A_list_p0 (p1.toNat * 5)))), (11, .slice A99 [(api_RailOp.mk p1 false v37 x95.done)].length 1), (78, .bool (decide (0 ≤ x95.Rail.Supply)))] (fun R hR => st_val hS rfl rfl rfl (r_move hS rfl rfl) fun a112 hS112 => st_val hS112 rfl rfl rfl (r_nil hS112 rfl rfl) fun a113 hS113 => st_val hS113 rfl rfl rfl (r_fieldE (off := 0) hS113 rfl rfl (by kernel_rfl)) fun a114 hS114 => st_val hS114 rfl rfl rfl (r_fieldE (off := 0) hS114 rfl rfl (by kernel_rfl)) fun a115 hS115 => st_val hS115 rfl rfl rfl (r_load1 (n := 1) hS115 rfl rfl (by kernel_rfl) (RdS.cell (i := p1) (sz := 5) (j := 0) (OwS.rd hf0_list) hx96 rfl)) fun a116 hS116 => st_val hS116 rfl rfl rfl (r_bin hS116 rfl rfl rfl b_geq) fun a117 hS117 => wpList_nil (hR _ (hS117.re ⟨rfl, rfl, rfl, rfl, rfl, trivial⟩))) ?_
          clear hS
          clear a
          intro a hS
          refine c_cond hS rfl (fun hb118 => ?_) (fun hb118 => ?_)
          · replace H := ite_t hb118 H
            obtain ⟨r127, hr128, H⟩ := bind_el H
            obtain ⟨y135, hy136, H⟩ := bind_el H
            refine c_region1 (fun K hK => ?_)
            refine st_val hS rfl rfl rfl (r_move hS rfl rfl) fun a119 hS119 => st_val hS119 rfl rfl rfl (r_move hS119 rfl rfl) fun a120 hS120 => st_val hS120 rfl rfl rfl (r_move hS120 rfl rfl) fun a121 hS121 => st_val hS121 rfl rfl rfl (r_nil hS121 rfl rfl) fun a122 hS122 => st_val hS122 rfl rfl rfl (r_fieldE (off := 0) hS122 rfl rfl (by kernel_rfl)) fun a123 hS123 => st_val hS123 rfl rfl rfl (r_fieldE (off := 0) hS123 rfl rfl (by kernel_rfl)) fun a124 hS124 => st_val hS124 rfl rfl rfl (r_load1 (n := 1) hS124 rfl rfl (by kernel_rfl) (RdS.cell (i := p1) (sz := 5) (j := 0) (OwS.rd hf0_list) hx96 rfl)) fun a125 hS125 => st_val hS125 rfl rfl rfl (r_move hS125 rfl rfl) fun a126 hS126 => ?_
            refine st_enter hS126 rfl rfl rfl (r_call hS126 rfl rfl (by kernel_rfl)) (ih (c0 := c0) (b_p0 := b_p0) (A_list_p0 := A_list_p0) (cap_list_p0 := cap_list_p0) (p0 := (rails_Rails.mk (upd (upd p0.list p1 ({ x7 with count := wi (x7.count - 1) } : rails_rail)) p1 ({ x23 with done := wu (v37 + x23.Rail.RampDown) } : rails_rail)) p0.now)) (p1 := x95.Rail.Supply) (p2 := p2) (g := g103) (N + 6) (N + 4) ⟨hb0, hf0_list⟩ (by omega) (by omega) (by omega) hr128) ?_
            rintro _ a133 w134 ⟨g134, A129, cap130, rfl, ⟨hb0, hf0_list⟩, h131, F134⟩ hS133
            replace h100 := OwS.fr h100 F134 (fun c' hc (hm : (c0 ≤ c' ∧ c' < c0 + 3) ∨ (N + 4 ≤ c' ∧ c' < N + 4 + 2) ∨ N + 6 ≤ c') => by omega)
            replace hF := hF.trans F134 (fun c' (hm : (c0 ≤ c' ∧ c' < c0 + 3) ∨ (N + 4 ≤ c' ∧ c' < N + 4 + 2) ∨ N + 6 ≤ c') => by show (c0 ≤ c' ∧ c' < c0 + 3) ∨ (r0 ≤ c' ∧ c' < r0 + 2) ∨ N ≤ c'; omega)
            refine st_eff hS133 rfl rfl rfl (e_append (e := 66) (sz := 4) (by_ := 32) (z := [.int .i64 0, .bool false, .int .u64 0, .int .u64 0]) (kd := kd_api_RailOp) g134 hS133 rfl rfl rfl rfl (by kernel_rfl) (by kernel_rfl) rfl rfl rfl rfl h100 (OwD.rdx h131) (fun _ _ _ h => h) hy136) ?_
            rintro _ a141 w142 g142 ⟨⟨A137, cap138, rfl, h139⟩, F142⟩ hS141
            replace h131 := OwS.fr h131 F142 (fun c' hc (hm : c' = N + 2) => by omega)
            replace hb0 := hb0.fr F142 (fun (hm : c0 = N + 2) => by omega)
            replace hf0_list := OwS.fr hf0_list F142 (fun c' hc (hm : c' = N + 2) => by omega)
            replace hF := hF.trans F142 (fun c' (hm : c' = N + 2) => by show (c0 ≤ c' ∧ c' < c0 + 3) ∨ (r0 ≤ c' ∧ c' < r0 + 2) ∨ N ≤ c'; omega)
            refine st_val hS141 rfl rfl rfl (r_assign hS141 rfl rfl) fun a143 hS143 => wpList_nil (hK _ _ ?_)
            replace hS : Sl 90 _ [(11, .slice A137 y135.length cap138)] := hS143.re ⟨rfl, trivial⟩
            clear hK K
            try clear hS119 hS120 hS121 hS122 hS123 hS124 hS125 hS126 hS133 hS141 hS143
            obtain ⟨a, ha⟩ : ∃ a', a' = a143 := ⟨_, rfl⟩
            rw [← ha] at hS ⊢; clear ha
            have e := Option.some.inj H
            subst e
            exact ⟨g142, A137, cap138, hS.re ⟨rfl, trivial⟩, h139, hb0, hf0_list, hF⟩
          · replace H := ite_f hb118 H
            refine wp_skip ?_
            have e := Option.some.inj H
            subst e
            exact ⟨g103, A99, 1, hS.re ⟨rfl, trivial⟩, h100, hb0, hf0_list, hF⟩
        · clear H
          clear hf0_list hb0 h100 hF
          clear hS
          rintro a w105 ⟨g105, A106, cap107, hS, h108, hb0, hf0_list, hF⟩
          have H := Hl111
          clear Hl111
          refine c_pure [(6, .slice A106 v109.1.length cap107)] (fun R hR => st_val hS rfl rfl rfl (r_move hS rfl rfl) fun a144 hS144 => st_val hS144 rfl rfl rfl (r_assign hS144 rfl rfl) fun a145 hS145 => wpList_nil (hR _ (hS145.re ⟨rfl, trivial⟩))) ?_
          clear hS
          clear a
          intro a hS
          refine wp_ret ?_
          have e := Option.some.inj H
          subst e
          have F146 := Fr.recol2 w105 g105 (N + 2) r0
          replace h108 := h108.recol2 r0
          replace hb0 := hb0.fr F146 (fun (hm : c0 = N + 2 ∨ c0 = N + 2 + 1) => by omega)
          replace hf0_list := OwS.fr hf0_list F146 (fun c' hc (hm : c' = N + 2 ∨ c' = N + 2 + 1) => by omega)
          replace hF := hF.trans F146 (fun c' (hm : c' = N + 2 ∨ c' = N + 2 + 1) => by show (c0 ≤ c' ∧ c' < c0 + 3) ∨ (r0 ≤ c' ∧ c' < r0 + 2) ∨ N ≤ c'; omega)
          repeat (with_reducible first | refine then_ret ?_ | refine inBlock_ret ?_)
          exact c_ret1 hS Try.results66 rfl ⟨_, rfl, (recol2 g105 (N + 2) r0), A106, cap107, rfl, ⟨hb0, hf0_list⟩, h108, hF⟩
theorem rails_Rails_off.calls {p0 : rails_Rails} {c0 : Nat}  {b_p0 : Nat} {A_list_p0 : Option Addr} {cap_list_p0 : Nat} {p1 : Int} {p2 : Int} {w : World} {g : Nat → Nat} {out : rails_Rails × (List api_RailOp)} (N : Nat) (r0 : Nat) (hp0 : rails_Rails_At w g c0 b_p0 A_list_p0 cap_list_p0 p0) (hc0 : c0 + 3 ≤ N) (hr0 : r0 + 2 ≤ N) (hq0_0 : r0 + 2 ≤ c0 ∨ c0 + 3 ≤ r0) (H : rails_Rails_off.f p0 p1 p2 = some out) :
    Calls Try.prog 66 #[.pointer (some ⟨b_p0, 0, none⟩), .int .i64 p1, .int .u64 p2] w (fun e w' => ∃ v, e = .returned v ∧ ∃ (g' : Nat → Nat) (A_r0 : Option Addr) (cap_r0 : Nat), v = .slice A_r0 out.2.length cap_r0 ∧ rails_Rails_At w' g' c0 b_p0 A_list_p0 cap_list_p0 out.1 ∧ OwS kd_api_RailOp 66 w' g' r0 A_r0 cap_r0 out.2 ∧ Fr (fun q => (c0 ≤ q ∧ q < c0 + 3) ∨ (r0 ≤ q ∧ q < r0 + 2) ∨ N ≤ q) w g w' g') :=
  rails_Rails_off.calls_r FUEL N r0 hp0 hc0 hr0 hq0_0 H


end Go.Proofs.Ytfhhklkmbcnhnaa.Sim

namespace Go.Proofs.Ytfhhklkmbcnhnaa.Sim
open Go
set_option linter.unusedVariables false
set_option linter.unusedSimpArgs false

/-! ### rails_Rails_own: function 65 -/
def rails_Rails_own.l0 (p0 : rails_Rails) (p1 : Int) : Nat → Int → Int → Option (Int)
  | 0, _, _ => none
  | k24 + 1, m0_0, m0_1 => if decide (m0_1 < (p0.list.length : Int)) = true then (((idx p0.list m0_1).bind fun x31 => if ((x31.Rail.Supply == p1) && (decide (0 < x31.count))) = true then (some (wi (m0_0 - 1))) else (some m0_0) : Option (Int)).bind fun v28 => rails_Rails_own.l0 p0 p1 k24 v28 (wi (m0_1 + 1))) else (some m0_0)
def rails_Rails_own.f (p0 : rails_Rails) (p1 : Int) : Option (Int) := (idx p0.list p1).bind fun x7 => (rails_Rails_own.l0 p0 p1 FUEL x7.count 0 : Option (Int)).bind fun v14 => some v14
set_option maxRecDepth 100000 in
set_option maxHeartbeats 4000000 in
theorem rails_Rails_own.calls {p0 : rails_Rails} {c0 : Nat}  {b_p0 : Nat} {A_list_p0 : Option Addr} {cap_list_p0 : Nat} {p1 : Int} {w : World} {g : Nat → Nat} {out : Int} (N : Nat) (hp0 : rails_Rails_At w g c0 b_p0 A_list_p0 cap_list_p0 p0) (hc0 : c0 + 3 ≤ N) (H : rails_Rails_own.f p0 p1 = some out) :
    Calls Try.prog 65 #[.pointer (some ⟨b_p0, 0, none⟩), .int .i64 p1] w (fun e w' => ∃ v, e = .returned v ∧ ∃ (g' : Nat → Nat), v = .int .i64 out ∧ Fr (fun q => N ≤ q) w g w' g') := by
  unfold rails_Rails_own.f at H
  refine calls_enter Try.func65 rfl Try.ntmps65 rfl (fun a hS => ?_)
  replace hS : Sl 39 a [(0, .pointer (some ⟨b_p0, 0, none⟩)), (1, .int .i64 p1)] := hS
  have hF : Fr (fun q => N ≤ q) w g w g := Fr.refl _ _ _
  obtain ⟨hb0, hf0_list⟩ := hp0
  refine c_pure [(0, .pointer (some ⟨b_p0, 0, none⟩)), (1, .int .i64 p1)] (fun R hR => st_val hS rfl rfl rfl (r_assign hS rfl rfl) fun a1 hS1 => wpList_nil (hR _ (hS1.re ⟨rfl, rfl, trivial⟩))) ?_
  clear hS
  clear a
  intro a hS
  obtain ⟨x7, hx8, H⟩ := bind_el H
  refine c_pure [(0, .pointer (some ⟨b_p0, 0, none⟩)), (1, .int .i64 p1), (5, .int .i64 x7.count)] (fun R hR => st_val hS rfl rfl rfl (r_move hS rfl rfl) fun a2 hS2 => st_val hS2 rfl rfl rfl (r_nil hS2 rfl rfl) fun a3 hS3 => st_val hS3 rfl rfl rfl (r_fieldB (off := 0) hS3 rfl rfl (by kernel_rfl)) fun a4 hS4 => st_val hS4 rfl rfl rfl (r_load1 (n := 1) hS4 rfl rfl (by kernel_rfl) (Bx.cell hb0 rfl)) fun a5 hS5 => st_val hS5 rfl rfl rfl (r_move hS5 rfl rfl) fun a6 hS6 => st_val hS6 rfl rfl rfl (r_index (e := 105) (sz := 5) (by_ := 40) hS6 rfl rfl rfl (by kernel_rfl) (RdS.some_ (OwS.rd hf0_list) hx8) (idx_lo hx8) (idx_hi hx8)) fun a9 hS9 => st_val hS9 rfl rfl rfl (r_fieldE (off := 3) hS9 rfl rfl (by kernel_rfl)) fun a10 hS10 => st_val hS10 rfl rfl rfl (r_load1 (n := 1) hS10 rfl rfl (by kernel_rfl) (RdS.cell (i := p1) (sz := 5) (j := 3) (OwS.rd hf0_list) hx8 rfl)) fun a11 hS11 => st_val hS11 rfl rfl rfl (r_assign hS11 rfl rfl) fun a12 hS12 => wpList_nil (hR _ (hS12.re ⟨rfl, rfl, rfl, trivial⟩))) ?_
  clear hS
  clear a
  intro a hS
  obtain ⟨v14, H, Hl16⟩ := bind_el H
  refine c_cut (fun a w13 => ∃ (g13 : Nat → Nat), Sl 39 a [(5, .int .i64 v14)] ∧ Bx w13 g13 (c0) b_p0 100 [.slice A_list_p0 p0.list.length cap_list_p0, .int .u64 p0.now] ∧ OwS kd_rails_rail 105 w13 g13 (c0 + 1) A_list_p0 cap_list_p0 p0.list ∧ Fr (fun q => N ≤ q) w g w13 g13) ?_ ?_
  · refine c_pure [(1, .int .i64 p1), (5, .int .i64 x7.count), (19, .slice A_list_p0 p0.list.length cap_list_p0), (20, .int .i64 (p0.list.length : Int)), (21, .int .i64 0)] (fun R hR => st_val hS rfl rfl rfl (r_move hS rfl rfl) fun a17 hS17 => st_val hS17 rfl rfl rfl (r_nil hS17 rfl rfl) fun a18 hS18 => st_val hS18 rfl rfl rfl (r_fieldB (off := 0) hS18 rfl rfl (by kernel_rfl)) fun a19 hS19 => st_val hS19 rfl rfl rfl (r_load1 (n := 1) hS19 rfl rfl (by kernel_rfl) (Bx.cell hb0 rfl)) fun a20 hS20 => st_val hS20 rfl rfl rfl (r_len (e := 105) (sz := 5) (by_ := 40) hS20 rfl rfl (by kernel_rfl)) fun a21 hS21 => st_val hS21 rfl rfl rfl (r_move hS21 rfl rfl) fun a22 hS22 => wpList_nil (hR _ (hS22.re ⟨rfl, rfl, rfl, rfl, rfl, trivial⟩))) ?_
    clear hS
    clear a
    intro a hS
    refine wp_block ?_
    refine wp_loop_ghost (fun kq => fun a w23 => ∃ (m0_0 : Int), ∃ (m0_1 : Int), ∃ (g23 : Nat → Nat), rails_Rails_own.l0 p0 p1 kq m0_0 m0_1 = some v14 ∧ Sl 39 a [(1, .int .i64 p1), (5, .int .i64 m0_0), (19, .slice A_list_p0 p0.list.length cap_list_p0), (20, .int .i64 (p0.list.length : Int)), (21, .int .i64 m0_1)] ∧ Bx w23 g23 (c0) b_p0 100 [.slice A_list_p0 p0.list.length cap_list_p0, .int .u64 p0.now] ∧ OwS kd_rails_rail 105 w23 g23 (c0 + 1) A_list_p0 cap_list_p0 p0.list ∧ Fr (fun q => N ≤ q) w g w23 g23) FUEL ?_ ?_
    · exact ⟨x7.count, 0, g, H, hS.re ⟨rfl, rfl, rfl, rfl, rfl, trivial⟩, hb0, hf0_list, hF⟩
    · clear H
      clear hf0_list hb0 hF
      clear hS
      rintro k24 a w23 ⟨m0_0, m0_1, g23, hpre0, hS, hb0, hf0_list, hF⟩
      have H := hpre0
      clear hpre0
      cases k24 with
      | zero => exact absurd H (by simp [rails_Rails_own.l0])
      | succ k24 =>
        rw [rails_Rails_own.l0] at H
        refine c_pure [(1, .int .i64 p1), (5, .int .i64 m0_0), (19, .slice A_list_p0 p0.list.length cap_list_p0), (20, .int .i64 (p0.list.length : Int)), (21, .int .i64 m0_1), (22, .bool (decide (m0_1 < (p0.list.length : Int))))] (fun R hR => st_val hS rfl rfl rfl (r_bin hS rfl rfl rfl b_lss) fun a25 hS25 => wpList_nil (hR _ (hS25.re ⟨rfl, rfl, rfl, rfl, rfl, rfl, trivial⟩))) ?_
        clear hS
        clear a
        intro a hS
        refine c_if hS rfl (fun hb26 => ?_) (fun hb26 => ?_)
        · replace H := ite_t hb26 H
          refine wp_skip ?_
          change Code.wp _ _ _ _ _
          obtain ⟨v28, H, Hl30⟩ := bind_el H
          refine c_cut (fun a w27 => ∃ (g27 : Nat → Nat), Sl 39 a [(1, .int .i64 p1), (5, .int .i64 v28), (19, .slice A_list_p0 p0.list.length cap_list_p0), (20, .int .i64 (p0.list.length : Int)), (21, .int .i64 m0_1)] ∧ Bx w27 g27 (c0) b_p0 100 [.slice A_list_p0 p0.list.length cap_list_p0, .int .u64 p0.now] ∧ OwS kd_rails_rail 105 w27 g27 (c0 + 1) A_list_p0 cap_list_p0 p0.list ∧ Fr (fun q => N ≤ q) w g w27 g27) ?_ ?_
          · refine wp_block ?_
            obtain ⟨x31, hx32, H⟩ := bind_el H
            refine c_region (fun K hK => ?_)
            refine st_val hS rfl rfl rfl (r_index (e := 105) (sz := 5) (by_ := 40) hS rfl rfl rfl (by kernel_rfl) (RdS.some_ (OwS.rd hf0_list) hx32) (idx_lo hx32) (idx_hi hx32)) fun a33 hS33 => st_val hS33 rfl rfl rfl (r_loadN (n := 5) (cs := [.int .i64 x31.Rail.Supply, .int .u64 x31.Rail.RampUp, .int .u64 x31.Rail.RampDown, .int .i64 x31.count, .int .u64 x31.done]) hS33 rfl rfl (by kernel_rfl) rfl (RdS.cells_off (OwS.rd hf0_list) hx32 0 5)) fun a34 hS34 => ?_
            refine st_eff hS34 rfl rfl rfl (e_alloc (cs := [.int .i64 0, .int .u64 0, .int .u64 0, .int .i64 0, .int .u64 0]) (N + 0) g23 hS34 rfl (by kernel_rfl)) ?_
            rintro _ a38 w39 g39 ⟨⟨b35, rfl, h36⟩, F39⟩ hS38
            replace hb0 := hb0.fr F39 (fun h => h)
            replace hf0_list := OwS.fr hf0_list F39 (fun _ _ h => h)
            replace hF := hF.trans F39 (fun _ h => h.elim)
            refine st_effS hS38 rfl rfl (e_storeB (n := 5) (bb := true) (cs' := [.int .i64 x31.Rail.Supply, .int .u64 x31.Rail.RampUp, .int .u64 x31.Rail.RampDown, .int .i64 x31.count, .int .u64 x31.done]) g39 hS38 rfl rfl rfl (by kernel_rfl) rfl rfl rfl h36 rfl rfl) ?_
            rintro a40 w41 g41 ⟨h36, F41⟩ hS40
            replace hb0 := hb0.fr F41 (fun (hm : c0 = N + 0) => by omega)
            replace hf0_list := OwS.fr hf0_list F41 (fun c' hc (hm : c' = N + 0) => by omega)
            replace hF := hF.trans F41 (fun c' (hm : c' = N + 0) => by show N ≤ c'; omega)
            refine wpList_nil (hK _ _ ?_)
            replace hS : Sl 39 _ [(1, .int .i64 p1), (5, .int .i64 m0_0), (7, .pointer (some ⟨b35, 0, none⟩)), (19, .slice A_list_p0 p0.list.length cap_list_p0), (20, .int .i64 (p0.list.length : Int)), (21, .int .i64 m0_1)] := hS40.re ⟨rfl, rfl, rfl, rfl, rfl, rfl, trivial⟩
            clear hK K
            try clear hS33 hS34 hS38 hS40
            obtain ⟨a, ha⟩ : ∃ a', a' = a40 := ⟨_, rfl⟩
            rw [← ha] at hS ⊢; clear ha
            refine c_region (fun K hK => ?_)
            refine st_val hS rfl rfl rfl (r_fieldB (off := 0) hS rfl rfl (by kernel_rfl)) fun a42 hS42 => st_val hS42 rfl rfl rfl (r_fieldB (off := 0) hS42 rfl rfl (by kernel_rfl)) fun a43 hS43 => st_val hS43 rfl rfl rfl (r_load1 (n := 1) hS43 rfl rfl (by kernel_rfl) (Bx.cell h36 rfl)) fun a44 hS44 => st_val hS44 rfl rfl rfl (r_move hS44 rfl rfl) fun a45 hS45 => st_val hS45 rfl rfl rfl (r_bin hS45 rfl rfl rfl b_eql) fun a46 hS46 => st_val hS46 rfl rfl rfl (r_move hS46 rfl rfl) fun a47 hS47 => ?_
            refine g_join (N := 39) 4 [(1, .int .i64 p1), (5, .int .i64 m0_0), (19, .slice A_list_p0 p0.list.length cap_list_p0), (20, .int .i64 (p0.list.length : Int)), (21, .int .i64 m0_1), (34, .bool ((x31.Rail.Supply == p1) && (decide (0 < x31.count))))] ?_ (fun hk => ?_)
            rotate_left
            · rcases Bool.eq_false_or_eq_true ((x31.Rail.Supply == p1)) with hb48 | hb48
              · refine st_valW hS47 (want_on hS47 rfl rfl rfl hb48) rfl rfl (r_fieldB (off := 3) hS47 rfl rfl (by kernel_rfl)) fun a52 hS52 => st_valW hS52 (want_on hS52 rfl rfl rfl hb48) rfl rfl (r_load1 (n := 1) hS52 rfl rfl (by kernel_rfl) (Bx.cell h36 rfl)) fun a53 hS53 => st_valW hS53 (want_on hS53 rfl rfl rfl hb48) rfl rfl (r_bin hS53 rfl rfl rfl b_gtr) fun a54 hS54 => st_val hS54 rfl rfl rfl (r_pickT hS54 rfl rfl rfl hb48) fun a55 hS55 => hk _ (hS55.re ⟨rfl, rfl, rfl, rfl, rfl, (by rw [hb48]; rfl), trivial⟩)
              · refine st_off hS47 (want_off hS47 rfl rfl rfl hb48) rfl rfl fun a56 hS56 => st_off hS56 (want_off hS56 rfl rfl rfl hb48) rfl rfl fun a57 hS57 => st_off hS57 (want_off hS57 rfl rfl rfl hb48) rfl rfl fun a58 hS58 => st_val hS58 rfl rfl rfl (r_pickF hS58 rfl rfl rfl hb48) fun a59 hS59 => hk _ (hS59.re ⟨rfl, rfl, rfl, rfl, rfl, (by rw [hb48]; rfl), trivial⟩)
            intro a60 hS60
            refine wpList_nil (hK _ _ ?_)
            replace hS : Sl 39 _ [(1, .int .i64 p1), (5, .int .i64 m0_0), (19, .slice A_list_p0 p0.list.length cap_list_p0), (20, .int .i64 (p0.list.length : Int)), (21, .int .i64 m0_1), (34, .bool ((x31.Rail.Supply == p1) && (decide (0 < x31.count))))] := hS60.re ⟨rfl, rfl, rfl, rfl, rfl, rfl, trivial⟩
            clear hK K
            try clear hS42 hS43 hS44 hS45 hS46 hS47 hS60
            obtain ⟨a, ha⟩ : ∃ a', a' = a60 := ⟨_, rfl⟩
            rw [← ha] at hS ⊢; clear ha
            refine c_cond hS rfl (fun hb61 => ?_) (fun hb61 => ?_)
            · replace H := ite_t hb61 H
              refine c_pure1 [(1, .int .i64 p1), (5, .int .i64 (wi (m0_0 - 1))), (19, .slice A_list_p0 p0.list.length cap_list_p0), (20, .int .i64 (p0.list.length : Int)), (21, .int .i64 m0_1)] (fun R hR => st_val hS rfl rfl rfl (r_move hS rfl rfl) fun a62 hS62 => st_val hS62 rfl rfl rfl (r_bin hS62 rfl rfl rfl b_sub) fun a63 hS63 => st_val hS63 rfl rfl rfl (r_assign hS63 rfl rfl) fun a64 hS64 => wpList_nil (hR _ (hS64.re ⟨rfl, rfl, rfl, rfl, rfl, trivial⟩))) ?_
              clear hS
              clear a
              intro a hS
              have e := Option.some.inj H
              subst e
              exact ⟨g41, hS.re ⟨rfl, rfl, rfl, rfl, rfl, trivial⟩, hb0, hf0_list, hF⟩
            · replace H := ite_f hb61 H
              refine wp_skip ?_
              have e := Option.some.inj H
              subst e
              exact ⟨g41, hS.re ⟨rfl, rfl, rfl, rfl, rfl, trivial⟩, hb0, hf0_list, hF⟩
          · clear H
            clear hf0_list hb0 hF
            clear hS
            rintro a w27 ⟨g27, hS, hb0, hf0_list, hF⟩
            have H := Hl30
            clear Hl30
            refine c_pure1 [(1, .int .i64 p1), (5, .int .i64 v28), (19, .slice A_list_p0 p0.list.length cap_list_p0), (20, .int .i64 (p0.list.length : Int)), (21, .int .i64 (wi (m0_1 + 1)))] (fun R hR => st_val hS rfl rfl rfl (r_bin hS rfl rfl rfl b_add) fun a65 hS65 => st_val hS65 rfl rfl rfl (r_move hS65 rfl rfl) fun a66 hS66 => wpList_nil (hR _ (hS66.re ⟨rfl, rfl, rfl, rfl, rfl, trivial⟩))) ?_
            clear hS
            clear a
            intro a hS
            refine ⟨k24, Nat.lt_succ_self _, ?_⟩
            exact ⟨v28, wi (m0_1 + 1), g27, H, hS.re ⟨rfl, rfl, rfl, rfl, rfl, trivial⟩, hb0, hf0_list, hF⟩
        · replace H := ite_f hb26 H
          refine wp_exit ?_
          have e := Option.some.inj H
          subst e
          exact ⟨g23, hS.re ⟨rfl, trivial⟩, hb0, hf0_list, hF⟩
  · clear H
    clear hf0_list hb0 hF
    clear hS
    rintro a w13 ⟨g13, hS, hb0, hf0_list, hF⟩
    have H := Hl16
    clear Hl16
    refine c_pure [(4, .int .i64 v14)] (fun R hR => st_val hS rfl rfl rfl (r_move hS rfl rfl) fun a67 hS67 => st_val hS67 rfl rfl rfl (r_assign hS67 rfl rfl) fun a68 hS68 => wpList_nil (hR _ (hS68.re ⟨rfl, trivial⟩))) ?_
    clear hS
    clear a
    intro a hS
    refine wp_ret ?_
    have e := Option.some.inj H
    subst e
    repeat (with_reducible first | refine then_ret ?_ | refine inBlock_ret ?_)
    exact c_ret1 hS Try.results65 rfl ⟨_, rfl, g13, rfl, hF⟩


end Go.Proofs.Ytfhhklkmbcnhnaa.Sim

namespace Go.Proofs.Ytfhhklkmbcnhnaa.Sim
open Go
set_option linter.unusedVariables false
set_option linter.unusedSimpArgs false

/-! ### rails_Rails_Release: function 54 -/
def rails_Rails_Release.f (p0 : rails_Rails) (p1 : Int) (p2 : Int) : Option (rails_Rails × (List api_RailOp) × Int) := (rails_Rails_check.f p0 p1 p2).bind fun r6 => if (!r6) = true then (some (p0, [], 1)) else ((rails_Rails_own.f p0 p1).bind fun r17 => if (r17 == 0) = true then (some (p0, [], 9)) else ((rails_Rails_off.f (rails_Rails.mk p0.list p2) p1 p2).bind fun r35 => some (r35.1, r35.2, 0)))
set_option maxRecDepth 100000 in
set_option maxHeartbeats 4000000 in
theorem rails_Rails_Release.calls {p0 : rails_Rails} {c0 : Nat}  {b_p0 : Nat} {A_list_p0 : Option Addr} {cap_list_p0 : Nat} {p1 : Int} {p2 : Int} {w : World} {g : Nat → Nat} {out : rails_Rails × (List api_RailOp) × Int} (N : Nat) (r0 : Nat) (hp0 : rails_Rails_At w g c0 b_p0 A_list_p0 cap_list_p0 p0) (hc0 : c0 + 3 ≤ N) (hr0 : r0 + 2 ≤ N) (hq0_0 : r0 + 2 ≤ c0 ∨ c0 + 3 ≤ r0) (H : rails_Rails_Release.f p0 p1 p2 = some out) :
    Calls Try.prog 54 #[.pointer (some ⟨b_p0, 0, none⟩), .int .i64 p1, .int .u64 p2] w (fun e w' => ∃ v, e = .returned v ∧ ∃ (g' : Nat → Nat) (A_r0 : Option Addr) (cap_r0 : Nat), v = .tuple #[.slice A_r0 out.2.1.length cap_r0, .int .i64 out.2.2] ∧ rails_Rails_At w' g' c0 b_p0 A_list_p0 cap_list_p0 out.1 ∧ OwS kd_api_RailOp 66 w' g' r0 A_r0 cap_r0 out.2.1 ∧ Fr (fun q => (c0 ≤ q ∧ q < c0 + 3) ∨ (r0 ≤ q ∧ q < r0 + 2) ∨ N ≤ q) w g w' g') := by
  unfold rails_Rails_Release.f at H
  refine calls_enter Try.func54 rfl Try.ntmps54 rfl (fun a hS => ?_)
  replace hS : Sl 27 a [(0, .pointer (some ⟨b_p0, 0, none⟩)), (1, .int .i64 p1), (2, .int .u64 p2)] := hS
  have hF : Fr (fun q => (c0 ≤ q ∧ q < c0 + 3) ∨ (r0 ≤ q ∧ q < r0 + 2) ∨ N ≤ q) w g w g := Fr.refl _ _ _
  obtain ⟨hb0, hf0_list⟩ := hp0
  refine c_pure [(0, .pointer (some ⟨b_p0, 0, none⟩)), (1, .int .i64 p1), (2, .int .u64 p2)] (fun R hR => st_val hS rfl rfl rfl (r_assign hS rfl rfl) fun a1 hS1 => st_val hS1 rfl rfl rfl (r_assign hS1 rfl rfl) fun a2 hS2 => wpList_nil (hR _ (hS2.re ⟨rfl, rfl, rfl, trivial⟩))) ?_
  clear hS
  clear a
  intro a hS
  refine wp_seq ?_
  refine wp_block ?_
  obtain ⟨r6, hr7, H⟩ := bind_el H
  refine c_region (fun K hK => ?_)
  refine st_val hS rfl rfl rfl (r_move hS rfl rfl) fun a3 hS3 => st_val hS3 rfl rfl rfl (r_move hS3 rfl rfl) fun a4 hS4 => st_val hS4 rfl rfl rfl (r_move hS4 rfl rfl) fun a5 hS5 => ?_
  refine st_enter hS5 rfl rfl rfl (r_call hS5 rfl rfl (by kernel_rfl)) (rails_Rails_check.calls (c0 := c0) (b_p0 := b_p0) (A_list_p0 := A_list_p0) (cap_list_p0 := cap_list_p0) (p0 := p0) (p1 := p1) (p2 := p2) (g := g) (N + 2)  ⟨hb0, hf0_list⟩ (by omega) hr7) ?_
  rintro _ a8 w9 ⟨g9, rfl, F9⟩ hS8
  replace hb0 := hb0.fr F9 (fun (hm : N + 2 ≤ c0) => by omega)
  replace hf0_list := OwS.fr hf0_list F9 (fun c' hc (hm : N + 2 ≤ c') => by omega)
  replace hF := hF.trans F9 (fun c' (hm : N + 2 ≤ c') => by show (c0 ≤ c' ∧ c' < c0 + 3) ∨ (r0 ≤ c' ∧ c' < r0 + 2) ∨ N ≤ c'; omega)
  refine st_val hS8 rfl rfl rfl (r_not hS8 rfl rfl) fun a10 hS10 => st_val hS10 rfl rfl rfl (r_assign hS10 rfl rfl) fun a11 hS11 => wpList_nil (hK _ _ ?_)
  replace hS : Sl 27 _ [(0, .pointer (some ⟨b_p0, 0, none⟩)), (1, .int .i64 p1), (2, .int .u64 p2), (8, .bool (!r6))] := hS11.re ⟨rfl, rfl, rfl, rfl, trivial⟩
  clear hK K
  try clear hS3 hS4 hS5 hS8 hS10 hS11
  obtain ⟨a, ha⟩ : ∃ a', a' = a11 := ⟨_, rfl⟩
  rw [← ha] at hS ⊢; clear ha
  refine c_cond hS rfl (fun hb12 => ?_) (fun hb12 => ?_)
  · replace H := ite_t hb12 H
    refine c_pure [(6, .slice none 0 0), (7, .int .i64 1)] (fun R hR => st_val hS rfl rfl rfl (r_assign hS rfl rfl) fun a13 hS13 => st_val hS13 rfl rfl rfl (r_assign hS13 rfl rfl) fun a14 hS14 => wpList_nil (hR _ (hS14.re ⟨rfl, rfl, trivial⟩))) ?_
    clear hS
    clear a
    intro a hS
    refine wp_ret ?_
    have e := Option.some.inj H
    subst e
    repeat (with_reducible first | refine then_ret ?_ | refine inBlock_ret ?_)
    exact c_ret2 hS Try.results54 rfl rfl ⟨_, rfl, g9, none, 0, rfl, ⟨hb0, hf0_list⟩, OwS.nil kd_api_RailOp 66 w9 g9 r0, hF⟩
  · replace H := ite_f hb12 H
    obtain ⟨r17, hr18, H⟩ := bind_el H
    refine c_region (fun K hK => ?_)
    refine st_val hS rfl rfl rfl (r_move hS rfl rfl) fun a15 hS15 => st_val hS15 rfl rfl rfl (r_move hS15 rfl rfl) fun a16 hS16 => ?_
    refine st_enter hS16 rfl rfl rfl (r_call hS16 rfl rfl (by kernel_rfl)) (rails_Rails_own.calls (c0 := c0) (b_p0 := b_p0) (A_list_p0 := A_list_p0) (cap_list_p0 := cap_list_p0) (p0 := p0) (p1 := p1) (g := g9) (N + 2)  ⟨hb0, hf0_list⟩ (by omega) hr18) ?_
    rintro _ a19 w20 ⟨g20, rfl, F20⟩ hS19
    replace hb0 := hb0.fr F20 (fun (hm : N + 2 ≤ c0) => by omega)
    replace hf0_list := OwS.fr hf0_list F20 (fun c' hc (hm : N + 2 ≤ c') => by omega)
    replace hF := hF.trans F20 (fun c' (hm : N + 2 ≤ c') => by show (c0 ≤ c' ∧ c' < c0 + 3) ∨ (r0 ≤ c' ∧ c' < r0 + 2) ∨ N ≤ c'; omega)
    refine st_val hS19 rfl rfl rfl (r_bin hS19 rfl rfl rfl b_eql) fun a21 hS21 => st_val hS21 rfl rfl rfl (r_assign hS21 rfl rfl) fun a22 hS22 => wpList_nil (hK _ _ ?_)
    replace hS : Sl 27 _ [(0, .pointer (some ⟨b_p0, 0, none⟩)), (1, .int .i64 p1), (2, .int .u64 p2), (14, .bool (r17 == 0))] := hS22.re ⟨rfl, rfl, rfl, rfl, trivial⟩
    clear hK K
    try clear hS15 hS16 hS19 hS21 hS22
    obtain ⟨a, ha⟩ : ∃ a', a' = a22 := ⟨_, rfl⟩
    rw [← ha] at hS ⊢; clear ha
    refine c_cond hS rfl (fun hb23 => ?_) (fun hb23 => ?_)
    · replace H := ite_t hb23 H
      refine c_pure [(6, .slice none 0 0), (7, .int .i64 9)] (fun R hR => st_val hS rfl rfl rfl (r_assign hS rfl rfl) fun a24 hS24 => st_val hS24 rfl rfl rfl (r_assign hS24 rfl rfl) fun a25 hS25 => wpList_nil (hR _ (hS25.re ⟨rfl, rfl, trivial⟩))) ?_
      clear hS
      clear a
      intro a hS
      refine wp_ret ?_
      have e := Option.some.inj H
      subst e
      repeat (with_reducible first | refine then_ret ?_ | refine inBlock_ret ?_)
      exact c_ret2 hS Try.results54 rfl rfl ⟨_, rfl, g20, none, 0, rfl, ⟨hb0, hf0_list⟩, OwS.nil kd_api_RailOp 66 w20 g20 r0, hF⟩
    · replace H := ite_f hb23 H
      refine wp_skip ?_
      change Code.wp _ _ _ _ _
      refine c_region (fun K hK => ?_)
      refine st_val hS rfl rfl rfl (r_move hS rfl rfl) fun a26 hS26 => st_val hS26 rfl rfl rfl (r_move hS26 rfl rfl) fun a27 hS27 => st_val hS27 rfl rfl rfl (r_nil hS27 rfl rfl) fun a28 hS28 => st_val hS28 rfl rfl rfl (r_fieldB (off := 1) hS28 rfl rfl (by kernel_rfl)) fun a29 hS29 => ?_
      refine st_effS hS29 rfl rfl (e_storeB (n := 1) (bb := false) (cs' := [.slice A_list_p0 p0.list.length cap_list_p0, .int .u64 p2]) g20 hS29 rfl rfl rfl (by kernel_rfl) rfl rfl rfl hb0 rfl rfl) ?_
      rintro a30 w31 g31 ⟨hb0, F31⟩ hS30
      replace hf0_list := OwS.fr hf0_list F31 (fun c' hc (hm : c' = c0) => by omega)
      replace hF := hF.trans F31 (fun c' (hm : c' = c0) => by show (c0 ≤ c' ∧ c' < c0 + 3) ∨ (r0 ≤ c' ∧ c' < r0 + 2) ∨ N ≤ c'; omega)
      refine wpList_nil (hK _ _ ?_)
      replace hS : Sl 27 _ [(0, .pointer (some ⟨b_p0, 0, none⟩)), (1, .int .i64 p1), (2, .int .u64 p2)] := hS30.re ⟨rfl, rfl, rfl, trivial⟩
      clear hK K
      try clear hS26 hS27 hS28 hS29 hS30
      obtain ⟨a, ha⟩ : ∃ a', a' = a30 := ⟨_, rfl⟩
      rw [← ha] at hS ⊢; clear ha
      obtain ⟨r35, hr36, H⟩ := bind_el H
      refine c_region (fun K hK => ?_)
      refine st_val hS rfl rfl rfl (r_move hS rfl rfl) fun a32 hS32 => st_val hS32 rfl rfl rfl (r_move hS32 rfl rfl) fun a33 hS33 => st_val hS33 rfl rfl rfl (r_move hS33 rfl rfl) fun a34 hS34 => ?_
      refine st_enter hS34 rfl rfl rfl (r_call hS34 rfl rfl (by kernel_rfl)) (rails_Rails_off.calls (c0 := c0) (b_p0 := b_p0) (A_list_p0 := A_list_p0) (cap_list_p0 := cap_list_p0) (p0 := (rails_Rails.mk p0.list p2)) (p1 := p1) (p2 := p2) (g := g31) (N + 2) (N + 0) ⟨hb0, hf0_list⟩ (by omega) (by omega) (by omega) hr36) ?_
      rintro _ a41 w42 ⟨g42, A37, cap38, rfl, ⟨hb0, hf0_list⟩, h39, F42⟩ hS41
      replace hF := hF.trans F42 (fun c' (hm : (c0 ≤ c' ∧ c' < c0 + 3) ∨ (N + 0 ≤ c' ∧ c' < N + 0 + 2) ∨ N + 2 ≤ c') => by show (c0 ≤ c' ∧ c' < c0 + 3) ∨ (r0 ≤ c' ∧ c' < r0 + 2) ∨ N ≤ c'; omega)
      refine st_val hS41 rfl rfl rfl (r_assign hS41 rfl rfl) fun a43 hS43 => st_val hS43 rfl rfl rfl (r_assign hS43 rfl rfl) fun a44 hS44 => wpList_nil (hK _ _ ?_)
      replace hS : Sl 27 _ [(6, .slice A37 r35.2.length cap38), (7, .int .i64 0)] := hS44.re ⟨rfl, rfl, trivial⟩
      clear hK K
      try clear hS32 hS33 hS34 hS41 hS43 hS44
      obtain ⟨a, ha⟩ : ∃ a', a' = a44 := ⟨_, rfl⟩
      rw [← ha] at hS ⊢; clear ha
      refine wp_ret ?_
      have e := Option.some.inj H
      subst e
      have F45 := Fr.recol2 w42 g42 (N + 0) r0
      replace h39 := h39.recol2 r0
      replace hb0 := hb0.fr F45 (fun (hm : c0 = N + 0 ∨ c0 = N + 0 + 1) => by omega)
      replace hf0_list := OwS.fr hf0_list F45 (fun c' hc (hm : c' = N + 0 ∨ c' = N + 0 + 1) => by omega)
      replace hF := hF.trans F45 (fun c' (hm : c' = N + 0 ∨ c' = N + 0 + 1) => by show (c0 ≤ c' ∧ c' < c0 + 3) ∨ (r0 ≤ c' ∧ c' < r0 + 2) ∨ N ≤ c'; omega)
      repeat (with_reducible first | refine then_ret ?_ | refine inBlock_ret ?_)
      exact c_ret2 hS Try.results54 rfl rfl ⟨_, rfl, (recol2 g42 (N + 0) r0), A37, cap38, rfl, ⟨hb0, hf0_list⟩, h39, hF⟩


end Go.Proofs.Ytfhhklkmbcnhnaa.Sim

namespace Go.Proofs.Ytfhhklkmbcnhnaa.Sim
open Go
set_option linter.unusedVariables false
set_option linter.unusedSimpArgs false

/-! ### device_Tree_Set: function 28 -/
def device_Tree_Set.l0 (p3 : Int) (r105 : (List Int) × (List Int) × Int) : Nat → rails_Rails → (List api_RailOp) → Int → Option (rails_Rails × (List api_RailOp))
  | 0, _, _, _ => none
  | k187 + 1, m0_0, m0_1, m0_2 => if decide (m0_2 < (r105.1.length : Int)) = true then ((idx r105.1 m0_2).bind fun x190 => (rails_Rails_Acquire.f m0_0 x190 p3).bind fun r201 => (app m0_1 r201.2.1).bind fun y216 => device_Tree_Set.l0 p3 r105 k187 r201.1 y216 (wi (m0_2 + 1))) else (some (m0_0, m0_1))
def device_Tree_Set.l1 (p3 : Int) (r105 : (List Int) × (List Int) × Int) : Nat → rails_Rails → (List api_RailOp) → Int → Option (rails_Rails × (List api_RailOp))
  | 0, _, _, _ => none
  | k241 + 1, m1_0, m1_1, m1_2 => if decide (m1_2 < (r105.2.1.length : Int)) = true then ((idx r105.2.1 m1_2).bind fun x244 => (rails_Rails_Release.f m1_0 x244 p3).bind fun r255 => (app m1_1 r255.2.1).bind fun y270 => device_Tree_Set.l1 p3 r105 k241 r255.1 y270 (wi (m1_2 + 1))) else (some (m1_0, m1_1))
def device_Tree_Set.f (p0 : device_Tree) (p1 : Int) (p2 : Int) (p3 : Int) : Option (device_Tree × (List api_RailOp) × Int) := (device_Tree_has.f p0 p1).bind fun r5 => (if (!r5) = true then some true else (device_isState.f p2).bind fun r13 => some (!r13)).bind fun t18 => if ((t18 || (decide (p3 < p0.now))) || (decide (1152921504606846976 < p3))) = true then (some (p0, [], 1)) else ((device_Tree_permitted.f p0 p1 p2).bind fun r75 => if (!r75) = true then (some (p0, [], 9)) else ((idx p0.devices p1).bind fun x83 => (idx p0.state p1).bind fun x103 => (device_Change.f x83 x103 p2).bind fun r105 => if (r105.2.2 != 0) = true then (some (p0, [], r105.2.2)) else ((device_Tree_Set.l0 p3 r105 FUEL p0.rails [] 0 : Option (rails_Rails × (List api_RailOp))).bind fun v177 => (device_Tree_Set.l1 p3 r105 FUEL v177.1 v177.2 0 : Option (rails_Rails × (List api_RailOp))).bind fun v231 => some ((device_Tree.mk p0.devices (upd p0.state p1 p2) v231.1 p3), v231.2, 0))))
set_option maxRecDepth 100000 in
set_option maxHeartbeats 4000000 in
theorem device_Tree_Set.calls {p0 : device_Tree} {c0 : Nat} {C_devices_p0 : Nat → Prop} {b_p0 : Nat} {A_devices_p0 : Option Addr} {cap_devices_p0 : Nat} {A_state_p0 : Option Addr} {cap_state_p0 : Nat} {b_rails_p0 : Nat} {A_rails_list_p0 : Option Addr} {cap_rails_list_p0 : Nat} {p1 : Int} {p2 : Int} {p3 : Int} {w : World} {g : Nat → Nat} {out : device_Tree × (List api_RailOp) × Int} (N : Nat) (r0 : Nat) (hp0 : device_Tree_At w g c0 C_devices_p0 b_p0 A_devices_p0 cap_devices_p0 A_state_p0 cap_state_p0 b_rails_p0 A_rails_list_p0 cap_rails_list_p0 p0) (hc0 : c0 + 6 ≤ N) (hC_devices_p0 : ∀ c, C_devices_p0 c → c < N ∧ (c < c0 ∨ c0 + 6 ≤ c)) (hr0 : r0 + 2 ≤ N) (hq0_0 : r0 + 2 ≤ c0 ∨ c0 + 6 ≤ r0) (H : device_Tree_Set.f p0 p1 p2 p3 = some out) :
    Calls Try.prog 28 #[.pointer (some ⟨b_p0, 0, none⟩), .int .i64 p1, .int .i64 p2, .int .u64 p3] w (fun e w' => ∃ v, e = .returned v ∧ ∃ (g' : Nat → Nat) (A_r0 : Option Addr) (cap_r0 : Nat), v = .tuple #[.slice A_r0 out.2.1.length cap_r0, .int .i64 out.2.2] ∧ device_Tree_At w' g' c0 C_devices_p0 b_p0 A_devices_p0 cap_devices_p0 A_state_p0 cap_state_p0 b_rails_p0 A_rails_list_p0 cap_rails_list_p0 out.1 ∧ OwS kd_api_RailOp 66 w' g' r0 A_r0 cap_r0 out.2.1 ∧ Fr (fun q => (c0 ≤ q ∧ q < c0 + 6) ∨ (r0 ≤ q ∧ q < r0 + 2) ∨ N ≤ q) w g w' g') := by
  unfold device_Tree_Set.f at H
  refine calls_enter Try.func28 rfl Try.ntmps28 rfl (fun a hS => ?_)
  replace hS : Sl 123 a [(0, .pointer (some ⟨b_p0, 0, none⟩)), (1, .int .i64 p1), (2, .int .i64 p2), (3, .int .u64 p3)] := hS
  have hF : Fr (fun q => (c0 ≤ q ∧ q < c0 + 6) ∨ (r0 ≤ q ∧ q < r0 + 2) ∨ N ≤ q) w g w g := Fr.refl _ _ _
  obtain ⟨hb0, hf0_devices, hf0_state, ⟨hb0_rails, hf0_rails_list⟩⟩ := hp0
  refine c_pure [(0, .pointer (some ⟨b_p0, 0, none⟩)), (1, .int .i64 p1), (2, .int .i64 p2), (3, .int .u64 p3)] (fun R hR => st_val hS rfl rfl rfl (r_assign hS rfl rfl) fun a1 hS1 => st_val hS1 rfl rfl rfl (r_assign hS1 rfl rfl) fun a2 hS2 => wpList_nil (hR _ (hS2.re ⟨rfl, rfl, rfl, rfl, trivial⟩))) ?_
  clear hS
  clear a
  intro a hS
  refine wp_seq ?_
  obtain ⟨r5, hr6, H⟩ := bind_el H
  obtain ⟨t18, ht19, H⟩ := bind_el H
  refine c_region (fun K hK => ?_)
  refine st_val hS rfl rfl rfl (r_move hS rfl rfl) fun a3 hS3 => st_val hS3 rfl rfl rfl (r_move hS3 rfl rfl) fun a4 hS4 => ?_
  refine st_enter hS4 rfl rfl rfl (r_call hS4 rfl rfl (by kernel_rfl)) (device_Tree_has.calls (c0 := c0) (b_p0 := b_p0) (A_devices_p0 := A_devices_p0) (cap_devices_p0 := cap_devices_p0) (C_devices_p0 := C_devices_p0) (A_state_p0 := A_state_p0) (cap_state_p0 := cap_state_p0) (b_rails_p0 := b_rails_p0) (A_rails_list_p0 := A_rails_list_p0) (cap_rails_list_p0 := cap_rails_list_p0) (p0 := p0) (p1 := p1) (g := g) (N + 10)  ⟨hb0, hf0_devices, hf0_state, ⟨hb0_rails, hf0_rails_list⟩⟩ (by omega) (fun q (hq : C_devices_p0 q) => by have := hC_devices_p0 q hq; omega) hr6) ?_
  rintro _ a7 w8 ⟨g8, rfl, F8⟩ hS7
  replace hb0 := hb0.fr F8 (fun (hm : N + 10 ≤ c0) => by omega)
  replace hf0_devices := RdS.fr hf0_devices F8 (by decide) (fun q (hq : C_devices_p0 q) (hm : N + 10 ≤ q) => by have := hC_devices_p0 q hq; omega)
  replace hb0_rails := hb0_rails.fr F8 (fun (hm : N + 10 ≤ c0 + 3) => by omega)
  replace hf0_rails_list := OwS.fr hf0_rails_list F8 (fun c' hc (hm : N + 10 ≤ c') => by omega)
  replace hf0_state := OwS.fr hf0_state F8 (fun c' hc (hm : N + 10 ≤ c') => by omega)
  replace hF := hF.trans F8 (fun c' (hm : N + 10 ≤ c') => by show (c0 ≤ c' ∧ c' < c0 + 6) ∨ (r0 ≤ c' ∧ c' < r0 + 2) ∨ N ≤ c'; omega)
  refine st_val hS7 rfl rfl rfl (r_not hS7 rfl rfl) fun a9 hS9 => st_val hS9 rfl rfl rfl (r_move hS9 rfl rfl) fun a10 hS10 => ?_
  refine g_joinR 4 (fun a w20 => ∃ (g20 : Nat → Nat), Sl 123 a [(0, .pointer (some ⟨b_p0, 0, none⟩)), (1, .int .i64 p1), (2, .int .i64 p2), (3, .int .u64 p3), (30, .bool t18)] ∧ Bx w20 g20 (c0) b_p0 90 [.slice A_devices_p0 p0.devices.length cap_devices_p0, .slice A_state_p0 p0.state.length cap_state_p0, .pointer (some ⟨b_rails_p0, 0, none⟩), .int .u64 p0.now] ∧ RdS kd_api_PowerDevice w20 g20 C_devices_p0 A_devices_p0 cap_devices_p0 p0.devices ∧ Bx w20 g20 (c0 + 3) b_rails_p0 100 [.slice A_rails_list_p0 p0.rails.list.length cap_rails_list_p0, .int .u64 p0.rails.now] ∧ OwS kd_rails_rail 105 w20 g20 (c0 + 3 + 1) A_rails_list_p0 cap_rails_list_p0 p0.rails.list ∧ OwS (kint .i64) 3 w20 g20 (c0 + 1) A_state_p0 cap_state_p0 p0.state ∧ Fr (fun q => (c0 ≤ q ∧ q < c0 + 6) ∨ (r0 ≤ q ∧ q < r0 + 2) ∨ N ≤ q) w g w20 g20) ?_ (fun hk => ?_)
  rotate_left
  · rcases Bool.eq_false_or_eq_true ((!r5)) with hb11 | hb11
    · have H := ite_t hb11 ht19
      have e21 := Option.some.inj H
      refine st_off hS10 (want_off hS10 rfl rfl rfl hb11) rfl rfl fun a22 hS22 => st_off hS22 (want_off hS22 rfl rfl rfl hb11) rfl rfl fun a23 hS23 => st_off hS23 (want_off hS23 rfl rfl rfl hb11) rfl rfl fun a24 hS24 => st_val hS24 rfl rfl rfl (r_pickT hS24 rfl rfl rfl hb11) fun a25 hS25 => hk _ _ ?_
      exact ⟨g8, hS25.re ⟨rfl, rfl, rfl, rfl, (by rw [← e21]; rfl), trivial⟩, hb0, hf0_devices, hb0_rails, hf0_rails_list, hf0_state, hF⟩
    · have H := ite_f hb11 ht19
      obtain ⟨r27, hr28, H⟩ := bind_el H
      have e32 := Option.some.inj H
      refine st_valW hS10 (want_on hS10 rfl rfl rfl hb11) rfl rfl (r_move hS10 rfl rfl) fun a26 hS26 => ?_
      refine st_enterW hS26 (want_on hS26 rfl rfl rfl hb11) rfl rfl (r_call hS26 rfl rfl (by kernel_rfl)) (device_isState.calls (p0 := p2) (g := g8) (N + 10)   hr28) ?_
      rintro _ a29 w30 ⟨g30, rfl, F30⟩ hS29
      replace hb0 := hb0.fr F30 (fun (hm : N + 10 ≤ c0) => by omega)
      replace hf0_devices := RdS.fr hf0_devices F30 (by decide) (fun q (hq : C_devices_p0 q) (hm : N + 10 ≤ q) => by have := hC_devices_p0 q hq; omega)
      replace hb0_rails := hb0_rails.fr F30 (fun (hm : N + 10 ≤ c0 + 3) => by omega)
      replace hf0_rails_list := OwS.fr hf0_rails_list F30 (fun c' hc (hm : N + 10 ≤ c') => by omega)
      replace hf0_state := OwS.fr hf0_state F30 (fun c' hc (hm : N + 10 ≤ c') => by omega)
      replace hF := hF.trans F30 (fun c' (hm : N + 10 ≤ c') => by show (c0 ≤ c' ∧ c' < c0 + 6) ∨ (r0 ≤ c' ∧ c' < r0 + 2) ∨ N ≤ c'; omega)
      refine st_valW hS29 (want_on hS29 rfl rfl rfl hb11) rfl rfl (r_not hS29 rfl rfl) fun a31 hS31 => ?_
      refine st_val hS31 rfl rfl rfl (r_pickF hS31 rfl rfl rfl hb11) fun a33 hS33 => hk _ _ ?_
      exact ⟨g30, hS33.re ⟨rfl, rfl, rfl, rfl, (by rw [← e32]; rfl), trivial⟩, hb0, hf0_devices, hb0_rails, hf0_rails_list, hf0_state, hF⟩
  rintro a34 w20 ⟨g20, hS34, hb0, hf0_devices, hb0_rails, hf0_rails_list, hf0_state, hF⟩
  refine st_val hS34 rfl rfl rfl (r_move hS34 rfl rfl) fun a35 hS35 => ?_
  refine g_join (N := 123) 7 [(0, .pointer (some ⟨b_p0, 0, none⟩)), (1, .int .i64 p1), (2, .int .i64 p2), (3, .int .u64 p3), (38, .bool (t18 || (decide (p3 < p0.now))))] ?_ (fun hk => ?_)
  rotate_left
  · rcases Bool.eq_false_or_eq_true (t18) with hb36 | hb36
    · refine st_off hS35 (want_off hS35 rfl rfl rfl hb36) rfl rfl fun a43 hS43 => st_off hS43 (want_off hS43 rfl rfl rfl hb36) rfl rfl fun a44 hS44 => st_off hS44 (want_off hS44 rfl rfl rfl hb36) rfl rfl fun a45 hS45 => st_off hS45 (want_off hS45 rfl rfl rfl hb36) rfl rfl fun a46 hS46 => st_off hS46 (want_off hS46 rfl rfl rfl hb36) rfl rfl fun a47 hS47 => st_off hS47 (want_off hS47 rfl rfl rfl hb36) rfl rfl fun a48 hS48 => st_val hS48 rfl rfl rfl (r_pickT hS48 rfl rfl rfl hb36) fun a49 hS49 => hk _ (hS49.re ⟨rfl, rfl, rfl, rfl, (by rw [hb36]; rfl), trivial⟩)
    · refine st_valW hS35 (want_on hS35 rfl rfl rfl hb36) rfl rfl (r_move hS35 rfl rfl) fun a50 hS50 => st_valW hS50 (want_on hS50 rfl rfl rfl hb36) rfl rfl (r_move hS50 rfl rfl) fun a51 hS51 => st_valW hS51 (want_on hS51 rfl rfl rfl hb36) rfl rfl (r_nil hS51 rfl rfl) fun a52 hS52 => st_valW hS52 (want_on hS52 rfl rfl rfl hb36) rfl rfl (r_fieldB (off := 3) hS52 rfl rfl (by kernel_rfl)) fun a53 hS53 => st_valW hS53 (want_on hS53 rfl rfl rfl hb36) rfl rfl (r_load1 (n := 1) hS53 rfl rfl (by kernel_rfl) (Bx.cell hb0 rfl)) fun a54 hS54 => st_valW hS54 (want_on hS54 rfl rfl rfl hb36) rfl rfl (r_bin hS54 rfl rfl rfl b_lss) fun a55 hS55 => st_val hS55 rfl rfl rfl (r_pickF hS55 rfl rfl rfl hb36) fun a56 hS56 => hk _ (hS56.re ⟨rfl, rfl, rfl, rfl, (by rw [hb36]; rfl), trivial⟩)
  intro a57 hS57
  refine st_val hS57 rfl rfl rfl (r_move hS57 rfl rfl) fun a58 hS58 => ?_
  refine g_join (N := 123) 3 [(0, .pointer (some ⟨b_p0, 0, none⟩)), (1, .int .i64 p1), (2, .int .i64 p2), (3, .int .u64 p3), (42, .bool ((t18 || (decide (p3 < p0.now))) || (decide (1152921504606846976 < p3))))] ?_ (fun hk => ?_)
  rotate_left
  · rcases Bool.eq_false_or_eq_true ((t18 || (decide (p3 < p0.now)))) with hb59 | hb59
    · refine st_off hS58 (want_off hS58 rfl rfl rfl hb59) rfl rfl fun a62 hS62 => st_off hS62 (want_off hS62 rfl rfl rfl hb59) rfl rfl fun a63 hS63 => st_val hS63 rfl rfl rfl (r_pickT hS63 rfl rfl rfl hb59) fun a64 hS64 => hk _ (hS64.re ⟨rfl, rfl, rfl, rfl, (by rw [hb59]; rfl), trivial⟩)
    · refine st_valW hS58 (want_on hS58 rfl rfl rfl hb59) rfl rfl (r_move hS58 rfl rfl) fun a65 hS65 => st_valW hS65 (want_on hS65 rfl rfl rfl hb59) rfl rfl (r_bin hS65 rfl rfl rfl b_gtr) fun a66 hS66 => st_val hS66 rfl rfl rfl (r_pickF hS66 rfl rfl rfl hb59) fun a67 hS67 => hk _ (hS67.re ⟨rfl, rfl, rfl, rfl, (by rw [hb59]; rfl), trivial⟩)
  intro a68 hS68
  refine wpList_nil (hK _ _ ?_)
  replace hS : Sl 123 _ [(0, .pointer (some ⟨b_p0, 0, none⟩)), (1, .int .i64 p1), (2, .int .i64 p2), (3, .int .u64 p3), (42, .bool ((t18 || (decide (p3 < p0.now))) || (decide (1152921504606846976 < p3))))] := hS68.re ⟨rfl, rfl, rfl, rfl, rfl, trivial⟩
  clear hK K
  try clear hS3 hS4 hS7 hS9 hS10 hS34 hS35 hS57 hS58 hS68
  obtain ⟨a, ha⟩ : ∃ a', a' = a68 := ⟨_, rfl⟩
  rw [← ha] at hS ⊢; clear ha
  refine c_cond hS rfl (fun hb69 => ?_) (fun hb69 => ?_)
  · replace H := ite_t hb69 H
    refine c_pure [(8, .slice none 0 0), (9, .int .i64 1)] (fun R hR => st_val hS rfl rfl rfl (r_assign hS rfl rfl) fun a70 hS70 => st_val hS70 rfl rfl rfl (r_assign hS70 rfl rfl) fun a71 hS71 => wpList_nil (hR _ (hS71.re ⟨rfl, rfl, trivial⟩))) ?_
    clear hS
    clear a
    intro a hS
    refine wp_ret ?_
    have e := Option.some.inj H
    subst e
    repeat (with_reducible first | refine then_ret ?_ | refine inBlock_ret ?_)
    exact c_ret2 hS Try.results28 rfl rfl ⟨_, rfl, g20, none, 0, rfl, ⟨hb0, hf0_devices, hf0_state, ⟨hb0_rails, hf0_rails_list⟩⟩, OwS.nil kd_api_RailOp 66 w20 g20 r0, hF⟩
  · replace H := ite_f hb69 H
    refine wp_skip ?_
    change Code.wp _ _ _ _ _
    refine wp_seq ?_
    obtain ⟨r75, hr76, H⟩ := bind_el H
    refine c_region (fun K hK => ?_)
    refine st_val hS rfl rfl rfl (r_move hS rfl rfl) fun a72 hS72 => st_val hS72 rfl rfl rfl (r_move hS72 rfl rfl) fun a73 hS73 => st_val hS73 rfl rfl rfl (r_move hS73 rfl rfl) fun a74 hS74 => ?_
    refine st_enter hS74 rfl rfl rfl (r_call hS74 rfl rfl (by kernel_rfl)) (device_Tree_permitted.calls (c0 := c0) (b_p0 := b_p0) (A_devices_p0 := A_devices_p0) (cap_devices_p0 := cap_devices_p0) (C_devices_p0 := C_devices_p0) (A_state_p0 := A_state_p0) (cap_state_p0 := cap_state_p0) (b_rails_p0 := b_rails_p0) (A_rails_list_p0 := A_rails_list_p0) (cap_rails_list_p0 := cap_rails_list_p0) (p0 := p0) (p1 := p1) (p2 := p2) (g := g20) (N + 10)  ⟨hb0, hf0_devices, hf0_state, ⟨hb0_rails, hf0_rails_list⟩⟩ (by omega) (fun q (hq : C_devices_p0 q) => by have := hC_devices_p0 q hq; omega) hr76) ?_
    rintro _ a77 w78 ⟨g78, rfl, F78⟩ hS77
    replace hb0 := hb0.fr F78 (fun (hm : N + 10 ≤ c0) => by omega)
    replace hf0_devices := RdS.fr hf0_devices F78 (by decide) (fun q (hq : C_devices_p0 q) (hm : N + 10 ≤ q) => by have := hC_devices_p0 q hq; omega)
    replace hb0_rails := hb0_rails.fr F78 (fun (hm : N + 10 ≤ c0 + 3) => by omega)
    replace hf0_rails_list := OwS.fr hf0_rails_list F78 (fun c' hc (hm : N + 10 ≤ c') => by omega)
    replace hf0_state := OwS.fr hf0_state F78 (fun c' hc (hm : N + 10 ≤ c') => by omega)
    replace hF := hF.trans F78 (fun c' (hm : N + 10 ≤ c') => by show (c0 ≤ c' ∧ c' < c0 + 6) ∨ (r0 ≤ c' ∧ c' < r0 + 2) ∨ N ≤ c'; omega)
    refine st_val hS77 rfl rfl rfl (r_not hS77 rfl rfl) fun a79 hS79 => wpList_nil (hK _ _ ?_)
    replace hS : Sl 123 _ [(0, .pointer (some ⟨b_p0, 0, none⟩)), (1, .int .i64 p1), (2, .int .i64 p2), (3, .int .u64 p3), (47, .bool (!r75))] := hS79.re ⟨rfl, rfl, rfl, rfl, rfl, trivial⟩
    clear hK K
    try clear hS72 hS73 hS74 hS77 hS79
    obtain ⟨a, ha⟩ : ∃ a', a' = a79 := ⟨_, rfl⟩
    rw [← ha] at hS ⊢; clear ha
    refine c_cond hS rfl (fun hb80 => ?_) (fun hb80 => ?_)
    · replace H := ite_t hb80 H
      refine c_pure [(8, .slice none 0 0), (9, .int .i64 9)] (fun R hR => st_val hS rfl rfl rfl (r_assign hS rfl rfl) fun a81 hS81 => st_val hS81 rfl rfl rfl (r_assign hS81 rfl rfl) fun a82 hS82 => wpList_nil (hR _ (hS82.re ⟨rfl, rfl, trivial⟩))) ?_
      clear hS
      clear a
      intro a hS
      refine wp_ret ?_
      have e := Option.some.inj H
      subst e
      repeat (with_reducible first | refine then_ret ?_ | refine inBlock_ret ?_)
      exact c_ret2 hS Try.results28 rfl rfl ⟨_, rfl, g78, none, 0, rfl, ⟨hb0, hf0_devices, hf0_state, ⟨hb0_rails, hf0_rails_list⟩⟩, OwS.nil kd_api_RailOp 66 w78 g78 r0, hF⟩
    · replace H := ite_f hb80 H
      refine wp_skip ?_
      change Code.wp _ _ _ _ _
      obtain ⟨x83, hx84, H⟩ := bind_el H
      obtain ⟨x103, hx104, H⟩ := bind_el H
      obtain ⟨r105, hr106, H⟩ := bind_el H
      refine c_draw (fun K hK => d_start (fun q => N + 10 ≤ q ∨ (N + 0 ≤ q ∧ q < N + 0 + 2) ∨ (N + 2 ≤ q ∧ q < N + 2 + 2)) g78 [] 23 #[false, false, false, false, false, false, false, false, false, false, false, false, false, false, false, false, false, false, false, false, false, false, false] (by kernel_rfl) rfl rfl (fun w115 hw115 => ?_))
      have F115 : Fr (fun _ => False) w78 g78 w115 g78 := by rw [hw115]; exact Fr.drew _ _ _
      replace hb0 := hb0.fr F115 (fun h => h)
      replace hf0_devices := RdS.fr hf0_devices F115 (by decide) (fun _ _ h => h)
      replace hb0_rails := hb0_rails.fr F115 (fun h => h)
      replace hf0_rails_list := OwS.fr hf0_rails_list F115 (fun _ _ h => h)
      replace hf0_state := OwS.fr hf0_state F115 (fun _ _ h => h)
      replace hF := hF.trans F115 (fun _ h => h.elim)
      have hC : Fr (fun q => N + 10 ≤ q ∨ (N + 0 ≤ q ∧ q < N + 0 + 2) ∨ (N + 2 ≤ q ∧ q < N + 2 + 2)) w115 g78 w115 g78 := Fr.refl _ _ _
      refine d_pure hS 0 #[true, false, false, false, false, false, false, false, false, false, false, false, false, false, false, false, false, false, false, false, false, false, false] rfl rfl rfl rfl (by kernel_rfl) (fun _ _ _ h => h) (fun _ => (r_move hS rfl rfl)) fun a116 hS116 => d_pure hS116 1 #[true, true, false, false, false, false, false, false, false, false, false, false, false, false, false, false, false, false, false, false, false, false, false] rfl rfl rfl rfl (by kernel_rfl) (fun _ _ _ h => h) (fun _ => (r_nil hS116 rfl rfl)) fun a117 hS117 => d_pure hS117 2 #[true, true, true, false, false, false, false, false, false, false, false, false, false, false, false, false, false, false, false, false, false, false, false] rfl rfl rfl rfl (by kernel_rfl) (fun _ _ _ h => h) (fun _ => (r_fieldB (off := 0) hS117 rfl rfl (by kernel_rfl))) fun a118 hS118 => d_take hS118 3 #[true, true, true, true, false, false, false, false, false, false, false, false, false, false, false, false, false, false, false, false, false, false, false] rfl rfl rfl rfl (by kernel_rfl) (fun _ _ _ h => h) ⟨_, hC⟩ (fun w' g' Fz => (r_load1 (n := 1) hS118 rfl rfl (by kernel_rfl) (Bx.cell (hb0.fr Fz (fun (hm : N + 10 ≤ c0 ∨ (N + 0 ≤ c0 ∧ c0 < N + 0 + 2) ∨ (N + 2 ≤ c0 ∧ c0 < N + 2 + 2)) => by omega)) rfl))) fun a119 hS119 => d_pure hS119 4 #[true, true, true, true, true, false, false, false, false, false, false, false, false, false, false, false, false, false, false, false, false, false, false] rfl rfl rfl rfl (by kernel_rfl) (fun _ _ _ h => h) (fun _ => (r_move hS119 rfl rfl)) fun a120 hS120 => ?_
      obtain ⟨_, ⟨A122, cap123, A126, cap127, A130, cap131, A134, cap135, rfl, h124, h128, h132, h136⟩, hel121⟩ := El.of hf0_devices hx84 (by decide)
      replace hel121 : El w115 g78 C_devices_p0 A_devices_p0 (p1.toNat * 13) [.int .i64 x83.Parent, .slice A122 x83.Rails.a0.length cap123, .slice A126 x83.Rails.a1.length cap127, .slice A130 x83.Rails.a2.length cap131, .slice A134 x83.Rails.a3.length cap135, .int .i64 x83.Deepest.a0, .int .i64 x83.Deepest.a1, .int .i64 x83.Deepest.a2, .int .i64 x83.Deepest.a3, .int .i64 x83.Deepest.a4, .int .i64 x83.Deepest.a5, .int .i64 x83.WakeDevice, .int .i64 x83.WakeSystem] := hel121
      refine d_pure hS120 5 #[true, true, true, true, true, true, false, false, false, false, false, false, false, false, false, false, false, false, false, false, false, false, false] rfl rfl rfl rfl (by kernel_rfl) (fun _ _ _ h => h) (fun _ => (r_index (e := 33) (sz := 13) (by_ := 168) hS120 rfl rfl rfl (by kernel_rfl) (RdS.some_ hf0_devices hx84) (idx_lo hx84) (idx_hi hx84))) fun a139 hS139 => d_take hS139 6 #[true, true, true, true, true, true, true, false, false, false, false, false, false, false, false, false, false, false, false, false, false, false, false] rfl rfl rfl rfl (by kernel_rfl) (fun _ _ _ h => h) ⟨_, hC⟩ (fun w' g' Fz => (r_loadN (n := 13) (cs := [.int .i64 x83.Parent, .slice A122 x83.Rails.a0.length cap123, .slice A126 x83.Rails.a1.length cap127, .slice A130 x83.Rails.a2.length cap131, .slice A134 x83.Rails.a3.length cap135, .int .i64 x83.Deepest.a0, .int .i64 x83.Deepest.a1, .int .i64 x83.Deepest.a2, .int .i64 x83.Deepest.a3, .int .i64 x83.Deepest.a4, .int .i64 x83.Deepest.a5, .int .i64 x83.WakeDevice, .int .i64 x83.WakeSystem]) hS139 rfl rfl (by kernel_rfl) rfl (El.cells_off (hel121.fr Fz (fun q (hq : C_devices_p0 q) (hm : N + 10 ≤ q ∨ (N + 0 ≤ q ∧ q < N + 0 + 2) ∨ (N + 2 ≤ q ∧ q < N + 2 + 2)) => by have := hC_devices_p0 q hq; omega)) 0 13))) fun a140 hS140 => d_pure hS140 7 #[true, true, true, true, true, true, true, true, false, false, false, false, false, false, false, false, false, false, false, false, false, false, false] rfl rfl rfl rfl (by kernel_rfl) (fun _ _ _ h => h) (fun _ => (r_move hS140 rfl rfl)) fun a141 hS141 => d_pure hS141 8 #[true, true, true, true, true, true, true, true, true, false, false, false, false, false, false, false, false, false, false, false, false, false, false] rfl rfl rfl rfl (by kernel_rfl) (fun _ _ _ h => h) (fun _ => (r_nil hS141 rfl rfl)) fun a142 hS142 => d_pure hS142 9 #[true, true, true, true, true, true, true, true, true, true, false, false, false, false, false, false, false, false, false, false, false, false, false] rfl rfl rfl rfl (by kernel_rfl) (fun _ _ _ h => h) (fun _ => (r_fieldB (off := 1) hS142 rfl rfl (by kernel_rfl))) fun a143 hS143 => d_take hS143 10 #[true, true, true, true, true, true, true, true, true, true, true, false, false, false, false, false, false, false, false, false, false, false, false] rfl rfl rfl rfl (by kernel_rfl) (fun _ _ _ h => h) ⟨_, hC⟩ (fun w' g' Fz => (r_load1 (n := 1) hS143 rfl rfl (by kernel_rfl) (Bx.cell (hb0.fr Fz (fun (hm : N + 10 ≤ c0 ∨ (N + 0 ≤ c0 ∧ c0 < N + 0 + 2) ∨ (N + 2 ≤ c0 ∧ c0 < N + 2 + 2)) => by omega)) rfl))) fun a144 hS144 => d_pure hS144 11 #[true, true, true, true, true, true, true, true, true, true, true, true, false, false, false, false, false, false, false, false, false, false, false] rfl rfl rfl rfl (by kernel_rfl) (fun _ _ _ h => h) (fun _ => (r_move hS144 rfl rfl)) fun a145 hS145 => d_pure hS145 12 #[true, true, true, true, true, true, true, true, true, true, true, true, true, false, false, false, false, false, false, false, false, false, false] rfl rfl rfl rfl (by kernel_rfl) (fun _ _ _ h => h) (fun _ => (r_index (e := 3) (sz := 1) (by_ := 8) hS145 rfl rfl rfl (by kernel_rfl) (RdS.some_ (OwS.rd hf0_state) hx104) (idx_lo hx104) (idx_hi hx104))) fun a146 hS146 => d_take hS146 13 #[true, true, true, true, true, true, true, true, true, true, true, true, true, true, false, false, false, false, false, false, false, false, false] rfl rfl rfl rfl (by kernel_rfl) (fun _ _ _ h => h) ⟨_, hC⟩ (fun w' g' Fz => (r_load1 (n := 1) hS146 rfl rfl (by kernel_rfl) (RdS.cell (i := p1) (sz := 1) (j := 0) (OwS.rd (OwS.fr hf0_state Fz (fun c' hc (hm : N + 10 ≤ c' ∨ (N + 0 ≤ c' ∧ c' < N + 0 + 2) ∨ (N + 2 ≤ c' ∧ c' < N + 2 + 2)) => by omega))) hx104 rfl))) fun a147 hS147 => d_pure hS147 14 #[true, true, true, true, true, true, true, true, true, true, true, true, true, true, true, false, false, false, false, false, false, false, false] rfl rfl rfl rfl (by kernel_rfl) (fun _ _ _ h => h) (fun _ => (r_move hS147 rfl rfl)) fun a148 hS148 => ?_
      refine d_one 15 #[true, true, true, true, true, true, true, true, true, true, true, true, true, true, true, true, false, false, false, false, false, false, false] rfl (by kernel_rfl) (arm_call hS148 rfl rfl rfl (r_call hS148 rfl rfl (by kernel_rfl)) (device_Change.calls (C0 := C_devices_p0) (p0 := x83) (p1 := x103) (p2 := p2) (g := g78) (N + 10) (N + 0) (N + 2) h124 h128 h132 h136 (fun q (hq : C_devices_p0 q) => by have := hC_devices_p0 q hq; omega) (by omega) (by omega) (by omega) hr106) (fun _ _ ⟨g', _, _, _, _, _, _, _, Fz⟩ _ => ⟨g', hC.trans Fz (fun c' (hm : (N + 0 ≤ c' ∧ c' < N + 0 + 2) ∨ (N + 2 ≤ c' ∧ c' < N + 2 + 2) ∨ N + 10 ≤ c') => by show N + 10 ≤ c' ∨ (N + 0 ≤ c' ∧ c' < N + 0 + 2) ∨ (N + 2 ≤ c' ∧ c' < N + 2 + 2); omega)⟩) ?_)
      rintro _ a157 w158 ⟨g158, A149, cap150, A153, cap154, rfl, h151, h155, F158⟩ hS157
      have hC158 := hC.trans F158 (fun c' (hm : (N + 0 ≤ c' ∧ c' < N + 0 + 2) ∨ (N + 2 ≤ c' ∧ c' < N + 2 + 2) ∨ N + 10 ≤ c') => by show N + 10 ≤ c' ∨ (N + 0 ≤ c' ∧ c' < N + 0 + 2) ∨ (N + 2 ≤ c' ∧ c' < N + 2 + 2); omega)
      replace h124 := RdS.fr h124 F158 (by decide) (fun q (hq : C_devices_p0 q) (hm : (N + 0 ≤ q ∧ q < N + 0 + 2) ∨ (N + 2 ≤ q ∧ q < N + 2 + 2) ∨ N + 10 ≤ q) => by have := hC_devices_p0 q hq; omega)
      replace h128 := RdS.fr h128 F158 (by decide) (fun q (hq : C_devices_p0 q) (hm : (N + 0 ≤ q ∧ q < N + 0 + 2) ∨ (N + 2 ≤ q ∧ q < N + 2 + 2) ∨ N + 10 ≤ q) => by have := hC_devices_p0 q hq; omega)
      replace h132 := RdS.fr h132 F158 (by decide) (fun q (hq : C_devices_p0 q) (hm : (N + 0 ≤ q ∧ q < N + 0 + 2) ∨ (N + 2 ≤ q ∧ q < N + 2 + 2) ∨ N + 10 ≤ q) => by have := hC_devices_p0 q hq; omega)
      replace h136 := RdS.fr h136 F158 (by decide) (fun q (hq : C_devices_p0 q) (hm : (N + 0 ≤ q ∧ q < N + 0 + 2) ∨ (N + 2 ≤ q ∧ q < N + 2 + 2) ∨ N + 10 ≤ q) => by have := hC_devices_p0 q hq; omega)
      replace hel121 := hel121.fr F158 (fun q (hq : C_devices_p0 q) (hm : (N + 0 ≤ q ∧ q < N + 0 + 2) ∨ (N + 2 ≤ q ∧ q < N + 2 + 2) ∨ N + 10 ≤ q) => by have := hC_devices_p0 q hq; omega)
      replace hb0 := hb0.fr F158 (fun (hm : (N + 0 ≤ c0 ∧ c0 < N + 0 + 2) ∨ (N + 2 ≤ c0 ∧ c0 < N + 2 + 2) ∨ N + 10 ≤ c0) => by omega)
      replace hf0_devices := RdS.fr hf0_devices F158 (by decide) (fun q (hq : C_devices_p0 q) (hm : (N + 0 ≤ q ∧ q < N + 0 + 2) ∨ (N + 2 ≤ q ∧ q < N + 2 + 2) ∨ N + 10 ≤ q) => by have := hC_devices_p0 q hq; omega)
      replace hb0_rails := hb0_rails.fr F158 (fun (hm : (N + 0 ≤ c0 + 3 ∧ c0 + 3 < N + 0 + 2) ∨ (N + 2 ≤ c0 + 3 ∧ c0 + 3 < N + 2 + 2) ∨ N + 10 ≤ c0 + 3) => by omega)
      replace hf0_rails_list := OwS.fr hf0_rails_list F158 (fun c' hc (hm : (N + 0 ≤ c' ∧ c' < N + 0 + 2) ∨ (N + 2 ≤ c' ∧ c' < N + 2 + 2) ∨ N + 10 ≤ c') => by omega)
      replace hf0_state := OwS.fr hf0_state F158 (fun c' hc (hm : (N + 0 ≤ c' ∧ c' < N + 0 + 2) ∨ (N + 2 ≤ c' ∧ c' < N + 2 + 2) ∨ N + 10 ≤ c') => by omega)
      replace hF := hF.trans F158 (fun c' (hm : (N + 0 ≤ c' ∧ c' < N + 0 + 2) ∨ (N + 2 ≤ c' ∧ c' < N + 2 + 2) ∨ N + 10 ≤ c') => by show (c0 ≤ c' ∧ c' < c0 + 6) ∨ (r0 ≤ c' ∧ c' < r0 + 2) ∨ N ≤ c'; omega)
      refine d_pure hS157 16 #[true, true, true, true, true, true, true, true, true, true, true, true, true, true, true, true, true, false, false, false, false, false, false] rfl rfl rfl rfl (by kernel_rfl) (fun _ _ _ h => h) (fun _ => (r_move hS157 rfl rfl)) fun a159 hS159 => d_pure hS159 17 #[true, true, true, true, true, true, true, true, true, true, true, true, true, true, true, true, true, true, false, false, false, false, false] rfl rfl rfl rfl (by kernel_rfl) (fun _ _ _ h => h) (fun _ => (r_extract hS159 rfl rfl rfl)) fun a160 hS160 => d_pure hS160 18 #[true, true, true, true, true, true, true, true, true, true, true, true, true, true, true, true, true, true, true, false, false, false, false] rfl rfl rfl rfl (by kernel_rfl) (fun _ _ _ h => h) (fun _ => (r_extract hS160 rfl rfl rfl)) fun a161 hS161 => d_pure hS161 19 #[true, true, true, true, true, true, true, true, true, true, true, true, true, true, true, true, true, true, true, true, false, false, false] rfl rfl rfl rfl (by kernel_rfl) (fun _ _ _ h => h) (fun _ => (r_extract hS161 rfl rfl rfl)) fun a162 hS162 => d_pure hS162 20 #[true, true, true, true, true, true, true, true, true, true, true, true, true, true, true, true, true, true, true, true, true, false, false] rfl rfl rfl rfl (by kernel_rfl) (fun _ _ _ h => h) (fun _ => (r_assign hS162 rfl rfl)) fun a163 hS163 => d_pure hS163 21 #[true, true, true, true, true, true, true, true, true, true, true, true, true, true, true, true, true, true, true, true, true, true, false] rfl rfl rfl rfl (by kernel_rfl) (fun _ _ _ h => h) (fun _ => (r_assign hS163 rfl rfl)) fun a164 hS164 => d_pure hS164 22 #[true, true, true, true, true, true, true, true, true, true, true, true, true, true, true, true, true, true, true, true, true, true, true] rfl rfl rfl rfl (by kernel_rfl) (fun _ _ _ h => h) (fun _ => (r_assign hS164 rfl rfl)) fun a165 hS165 => d_done (by kernel_rfl) (hK _ _ ?_)
      replace hS : Sl 123 _ [(0, .pointer (some ⟨b_p0, 0, none⟩)), (1, .int .i64 p1), (2, .int .i64 p2), (3, .int .u64 p3), (10, .slice A149 r105.1.length cap150), (11, .slice A153 r105.2.1.length cap154), (12, .int .i64 r105.2.2)] := hS165.re ⟨rfl, rfl, rfl, rfl, rfl, rfl, rfl, trivial⟩
      clear hK K hC
      try clear hS116 hS117 hS118 hS119 hS120 hS139 hS140 hS141 hS142 hS143 hS144 hS145 hS146 hS147 hS148 hS157 hS159 hS160 hS161 hS162 hS163 hS164 hS165
      obtain ⟨a, ha⟩ : ∃ a', a' = a165 := ⟨_, rfl⟩
      rw [← ha] at hS ⊢; clear ha
      refine wp_seq ?_
      refine c_pure [(0, .pointer (some ⟨b_p0, 0, none⟩)), (1, .int .i64 p1), (2, .int .i64 p2), (3, .int .u64 p3), (10, .slice A149 r105.1.length cap150), (11, .slice A153 r105.2.1.length cap154), (12, .int .i64 r105.2.2), (69, .bool (r105.2.2 != 0))] (fun R hR => st_val hS rfl rfl rfl (r_move hS rfl rfl) fun a166 hS166 => st_val hS166 rfl rfl rfl (r_bin hS166 rfl rfl rfl b_neq) fun a167 hS167 => wpList_nil (hR _ (hS167.re ⟨rfl, rfl, rfl, rfl, rfl, rfl, rfl, rfl, trivial⟩))) ?_
      clear hS
      clear a
      intro a hS
      refine c_cond hS rfl (fun hb168 => ?_) (fun hb168 => ?_)
      · replace H := ite_t hb168 H
        refine c_pure [(8, .slice none 0 0), (9, .int .i64 r105.2.2)] (fun R hR => st_val hS rfl rfl rfl (r_move hS rfl rfl) fun a169 hS169 => st_val hS169 rfl rfl rfl (r_assign hS169 rfl rfl) fun a170 hS170 => st_val hS170 rfl rfl rfl (r_assign hS170 rfl rfl) fun a171 hS171 => wpList_nil (hR _ (hS171.re ⟨rfl, rfl, trivial⟩))) ?_
        clear hS
        clear a
        intro a hS
        refine wp_ret ?_
        have e := Option.some.inj H
        subst e
        repeat (with_reducible first | refine then_ret ?_ | refine inBlock_ret ?_)
        exact c_ret2 hS Try.results28 rfl rfl ⟨_, rfl, g158, none, 0, rfl, ⟨hb0, hf0_devices, hf0_state, ⟨hb0_rails, hf0_rails_list⟩⟩, OwS.nil kd_api_RailOp 66 w158 g158 r0, hF⟩
      · replace H := ite_f hb168 H
        refine wp_skip ?_
        change Code.wp _ _ _ _ _
        refine c_pure [(0, .pointer (some ⟨b_p0, 0, none⟩)), (1, .int .i64 p1), (2, .int .i64 p2), (3, .int .u64 p3), (10, .slice A149 r105.1.length cap150), (11, .slice A153 r105.2.1.length cap154), (13, .slice none 0 0)] (fun R hR => st_val hS rfl rfl rfl (r_assign hS rfl rfl) fun a172 hS172 => wpList_nil (hR _ (hS172.re ⟨rfl, rfl, rfl, rfl, rfl, rfl, rfl, trivial⟩))) ?_
        clear hS
        clear a
        intro a hS
        obtain ⟨v177, H, Hl179⟩ := bind_el H
        refine c_cut (fun a w173 => ∃ (g173 : Nat → Nat), ∃ (A174 : Option Addr), ∃ (cap175 : Nat), Sl 123 a [(0, .pointer (some ⟨b_p0, 0, none⟩)), (1, .int .i64 p1), (2, .int .i64 p2), (3, .int .u64 p3), (11, .slice A153 r105.2.1.length cap154), (13, .slice A174 v177.2.length cap175)] ∧ OwS (kint .i64) 3 w173 g173 (N + 2) A153 cap154 r105.2.1 ∧ OwS kd_api_RailOp 66 w173 g173 (N + 6) A174 cap175 v177.2 ∧ Bx w173 g173 (c0) b_p0 90 [.slice A_devices_p0 p0.devices.length cap_devices_p0, .slice A_state_p0 p0.state.length cap_state_p0, .pointer (some ⟨b_rails_p0, 0, none⟩), .int .u64 p0.now] ∧ RdS kd_api_PowerDevice w173 g173 C_devices_p0 A_devices_p0 cap_devices_p0 p0.devices ∧ Bx w173 g173 (c0 + 3) b_rails_p0 100 [.slice A_rails_list_p0 v177.1.list.length cap_rails_list_p0, .int .u64 v177.1.now] ∧ OwS kd_rails_rail 105 w173 g173 (c0 + 3 + 1) A_rails_list_p0 cap_rails_list_p0 v177.1.list ∧ OwS (kint .i64) 3 w173 g173 (c0 + 1) A_state_p0 cap_state_p0 p0.state ∧ Fr (fun q => (c0 ≤ q ∧ q < c0 + 6) ∨ (r0 ≤ q ∧ q < r0 + 2) ∨ N ≤ q) w g w173 g173) ?_ ?_
        · refine c_pure [(0, .pointer (some ⟨b_p0, 0, none⟩)), (1, .int .i64 p1), (2, .int .i64 p2), (3, .int .u64 p3), (11, .slice A153 r105.2.1.length cap154), (13, .slice none 0 0), (71, .slice A149 r105.1.length cap150), (72, .int .i64 (r105.1.length : Int)), (73, .int .i64 0)] (fun R hR => st_val hS rfl rfl rfl (r_move hS rfl rfl) fun a180 hS180 => st_val hS180 rfl rfl rfl (r_len (e := 3) (sz := 1) (by_ := 8) hS180 rfl rfl (by kernel_rfl)) fun a181 hS181 => st_val hS181 rfl rfl rfl (r_move hS181 rfl rfl) fun a182 hS182 => wpList_nil (hR _ (hS182.re ⟨rfl, rfl, rfl, rfl, rfl, rfl, rfl, rfl, rfl, trivial⟩))) ?_
          clear hS
          clear a
          intro a hS
          refine wp_block ?_
          refine wp_loop_ghost (fun kq => fun a w183 => ∃ (m0_0 : rails_Rails), ∃ (m0_1 : List api_RailOp), ∃ (m0_2 : Int), ∃ (g183 : Nat → Nat), ∃ (A184 : Option Addr), ∃ (cap185 : Nat), device_Tree_Set.l0 p3 r105 kq m0_0 m0_1 m0_2 = some v177 ∧ Sl 123 a [(0, .pointer (some ⟨b_p0, 0, none⟩)), (1, .int .i64 p1), (2, .int .i64 p2), (3, .int .u64 p3), (11, .slice A153 r105.2.1.length cap154), (13, .slice A184 m0_1.length cap185), (71, .slice A149 r105.1.length cap150), (72, .int .i64 (r105.1.length : Int)), (73, .int .i64 m0_2)] ∧ OwS (kint .i64) 3 w183 g183 (N + 0) A149 cap150 r105.1 ∧ OwS (kint .i64) 3 w183 g183 (N + 2) A153 cap154 r105.2.1 ∧ OwS kd_api_RailOp 66 w183 g183 (N + 6) A184 cap185 m0_1 ∧ Bx w183 g183 (c0) b_p0 90 [.slice A_devices_p0 p0.devices.length cap_devices_p0, .slice A_state_p0 p0.state.length cap_state_p0, .pointer (some ⟨b_rails_p0, 0, none⟩), .int .u64 p0.now] ∧ RdS kd_api_PowerDevice w183 g183 C_devices_p0 A_devices_p0 cap_devices_p0 p0.devices ∧ Bx w183 g183 (c0 + 3) b_rails_p0 100 [.slice A_rails_list_p0 m0_0.list.length cap_rails_list_p0, .int .u64 m0_0.now] ∧ OwS kd_rails_rail 105 w183 g183 (c0 + 3 + 1) A_rails_list_p0 cap_rails_list_p0 m0_0.list ∧ OwS (kint .i64) 3 w183 g183 (c0 + 1) A_state_p0 cap_state_p0 p0.state ∧ Fr (fun q => (c0 ≤ q ∧ q < c0 + 6) ∨ (r0 ≤ q ∧ q < r0 + 2) ∨ N ≤ q) w g w183 g183) FUEL ?_ ?_
          · exact ⟨p0.rails, [], 0, g158, none, 0, H, hS.re ⟨rfl, rfl, rfl, rfl, rfl, rfl, rfl, rfl, rfl, trivial⟩, h151, h155, OwS.nil kd_api_RailOp 66 w158 g158 (N + 6), hb0, hf0_devices, hb0_rails, hf0_rails_list, hf0_state, hF⟩
          · clear H
            clear hf0_devices hf0_state hf0_rails_list hb0_rails hb0 h151 h155 hF
            clear hS
            rintro k187 a w183 ⟨m0_0, m0_1, m0_2, g183, A184, cap185, hpre0, hS, h151, h155, h186, hb0, hf0_devices, hb0_rails, hf0_rails_list, hf0_state, hF⟩
            have H := hpre0
            clear hpre0
            cases k187 with
            | zero => exact absurd H (by simp [device_Tree_Set.l0])
            | succ k187 =>
              rw [device_Tree_Set.l0] at H
              refine c_pure [(0, .pointer (some ⟨b_p0, 0, none⟩)), (1, .int .i64 p1), (2, .int .i64 p2), (3, .int .u64 p3), (11, .slice A153 r105.2.1.length cap154), (13, .slice A184 m0_1.length cap185), (71, .slice A149 r105.1.length cap150), (72, .int .i64 (r105.1.length : Int)), (73, .int .i64 m0_2), (74, .bool (decide (m0_2 < (r105.1.length : Int))))] (fun R hR => st_val hS rfl rfl rfl (r_bin hS rfl rfl rfl b_lss) fun a188 hS188 => wpList_nil (hR _ (hS188.re ⟨rfl, rfl, rfl, rfl, rfl, rfl, rfl, rfl, rfl, rfl, trivial⟩))) ?_
              clear hS
              clear a
              intro a hS
              refine c_if hS rfl (fun hb189 => ?_) (fun hb189 => ?_)
              · replace H := ite_t hb189 H
                refine wp_skip ?_
                change Code.wp _ _ _ _ _
                refine wp_seq ?_
                refine wp_block ?_
                obtain ⟨x190, hx191, H⟩ := bind_el H
                refine c_pure [(0, .pointer (some ⟨b_p0, 0, none⟩)), (1, .int .i64 p1), (2, .int .i64 p2), (3, .int .u64 p3), (11, .slice A153 r105.2.1.length cap154), (13, .slice A184 m0_1.length cap185), (15, .int .i64 x190), (71, .slice A149 r105.1.length cap150), (72, .int .i64 (r105.1.length : Int)), (73, .int .i64 m0_2)] (fun R hR => st_val hS rfl rfl rfl (r_index (e := 3) (sz := 1) (by_ := 8) hS rfl rfl rfl (by kernel_rfl) (RdS.some_ (OwS.rd h151) hx191) (idx_lo hx191) (idx_hi hx191)) fun a192 hS192 => st_val hS192 rfl rfl rfl (r_load1 (n := 1) hS192 rfl rfl (by kernel_rfl) (RdS.cell (i := m0_2) (sz := 1) (j := 0) (OwS.rd h151) hx191 rfl)) fun a193 hS193 => st_val hS193 rfl rfl rfl (r_assign hS193 rfl rfl) fun a194 hS194 => wpList_nil (hR _ (hS194.re ⟨rfl, rfl, rfl, rfl, rfl, rfl, rfl, rfl, rfl, rfl, trivial⟩))) ?_
                clear hS
                clear a
                intro a hS
                obtain ⟨r201, hr202, H⟩ := bind_el H
                refine c_region (fun K hK => ?_)
                refine st_val hS rfl rfl rfl (r_move hS rfl rfl) fun a195 hS195 => st_val hS195 rfl rfl rfl (r_nil hS195 rfl rfl) fun a196 hS196 => st_val hS196 rfl rfl rfl (r_fieldB (off := 2) hS196 rfl rfl (by kernel_rfl)) fun a197 hS197 => st_val hS197 rfl rfl rfl (r_load1 (n := 1) hS197 rfl rfl (by kernel_rfl) (Bx.cell hb0 rfl)) fun a198 hS198 => st_val hS198 rfl rfl rfl (r_move hS198 rfl rfl) fun a199 hS199 => st_val hS199 rfl rfl rfl (r_move hS199 rfl rfl) fun a200 hS200 => ?_
                refine st_enter hS200 rfl rfl rfl (r_call hS200 rfl rfl (by kernel_rfl)) (rails_Rails_Acquire.calls (c0 := c0 + 3) (b_p0 := b_rails_p0) (A_list_p0 := A_rails_list_p0) (cap_list_p0 := cap_rails_list_p0) (p0 := m0_0) (p1 := x190) (p2 := p3) (g := g183) (N + 10) (N + 4) ⟨hb0_rails, hf0_rails_list⟩ (by omega) (by omega) (by omega) hr202) ?_
                rintro _ a207 w208 ⟨g208, A203, cap204, rfl, ⟨hb0_rails, hf0_rails_list⟩, h205, F208⟩ hS207
                replace h151 := OwS.fr h151 F208 (fun c' hc (hm : (c0 + 3 ≤ c' ∧ c' < c0 + 3 + 3) ∨ (N + 4 ≤ c' ∧ c' < N + 4 + 2) ∨ N + 10 ≤ c') => by omega)
                replace h155 := OwS.fr h155 F208 (fun c' hc (hm : (c0 + 3 ≤ c' ∧ c' < c0 + 3 + 3) ∨ (N + 4 ≤ c' ∧ c' < N + 4 + 2) ∨ N + 10 ≤ c') => by omega)
                replace h186 := OwS.fr h186 F208 (fun c' hc (hm : (c0 + 3 ≤ c' ∧ c' < c0 + 3 + 3) ∨ (N + 4 ≤ c' ∧ c' < N + 4 + 2) ∨ N + 10 ≤ c') => by omega)
                replace hb0 := hb0.fr F208 (fun (hm : (c0 + 3 ≤ c0 ∧ c0 < c0 + 3 + 3) ∨ (N + 4 ≤ c0 ∧ c0 < N + 4 + 2) ∨ N + 10 ≤ c0) => by omega)
                replace hf0_devices := RdS.fr hf0_devices F208 (by decide) (fun q (hq : C_devices_p0 q) (hm : (c0 + 3 ≤ q ∧ q < c0 + 3 + 3) ∨ (N + 4 ≤ q ∧ q < N + 4 + 2) ∨ N + 10 ≤ q) => by have := hC_devices_p0 q hq; omega)
                replace hf0_state := OwS.fr hf0_state F208 (fun c' hc (hm : (c0 + 3 ≤ c' ∧ c' < c0 + 3 + 3) ∨ (N + 4 ≤ c' ∧ c' < N + 4 + 2) ∨ N + 10 ≤ c') => by omega)
                replace hF := hF.trans F208 (fun c' (hm : (c0 + 3 ≤ c' ∧ c' < c0 + 3 + 3) ∨ (N + 4 ≤ c' ∧ c' < N + 4 + 2) ∨ N + 10 ≤ c') => by show (c0 ≤ c' ∧ c' < c0 + 6) ∨ (r0 ≤ c' ∧ c' < r0 + 2) ∨ N ≤ c'; omega)
                refine st_val hS207 rfl rfl rfl (r_move hS207 rfl rfl) fun a209 hS209 => st_val hS209 rfl rfl rfl (r_extract hS209 rfl rfl rfl) fun a210 hS210 => st_val hS210 rfl rfl rfl (r_extract hS210 rfl rfl rfl) fun a211 hS211 => st_val hS211 rfl rfl rfl (r_assign hS211 rfl rfl) fun a212 hS212 => st_val hS212 rfl rfl rfl (r_assign hS212 rfl rfl) fun a213 hS213 => wpList_nil (hK _ _ ?_)
                replace hS : Sl 123 _ [(0, .pointer (some ⟨b_p0, 0, none⟩)), (1, .int .i64 p1), (2, .int .i64 p2), (3, .int .u64 p3), (11, .slice A153 r105.2.1.length cap154), (13, .slice A184 m0_1.length cap185), (16, .slice A203 r201.2.1.length cap204), (71, .slice A149 r105.1.length cap150), (72, .int .i64 (r105.1.length : Int)), (73, .int .i64 m0_2)] := hS213.re ⟨rfl, rfl, rfl, rfl, rfl, rfl, rfl, rfl, rfl, rfl, trivial⟩
                clear hK K
                try clear hS195 hS196 hS197 hS198 hS199 hS200 hS207 hS209 hS210 hS211 hS212 hS213
                obtain ⟨a, ha⟩ : ∃ a', a' = a213 := ⟨_, rfl⟩
                rw [← ha] at hS ⊢; clear ha
                obtain ⟨y216, hy217, H⟩ := bind_el H
                refine c_region1 (fun K hK => ?_)
                refine st_val hS rfl rfl rfl (r_move hS rfl rfl) fun a214 hS214 => st_val hS214 rfl rfl rfl (r_move hS214 rfl rfl) fun a215 hS215 => ?_
                refine st_eff hS215 rfl rfl rfl (e_append (e := 66) (sz := 4) (by_ := 32) (z := [.int .i64 0, .bool false, .int .u64 0, .int .u64 0]) (kd := kd_api_RailOp) g208 hS215 rfl rfl rfl rfl (by kernel_rfl) (by kernel_rfl) rfl rfl rfl rfl h186 (OwD.rdx h205) (fun _ _ _ h => h) hy217) ?_
                rintro _ a222 w223 g223 ⟨⟨A218, cap219, rfl, h220⟩, F223⟩ hS222
                replace h151 := OwS.fr h151 F223 (fun c' hc (hm : c' = N + 6) => by omega)
                replace h155 := OwS.fr h155 F223 (fun c' hc (hm : c' = N + 6) => by omega)
                replace h205 := OwS.fr h205 F223 (fun c' hc (hm : c' = N + 6) => by omega)
                replace hb0 := hb0.fr F223 (fun (hm : c0 = N + 6) => by omega)
                replace hf0_devices := RdS.fr hf0_devices F223 (by decide) (fun q (hq : C_devices_p0 q) (hm : q = N + 6) => by have := hC_devices_p0 q hq; omega)
                replace hb0_rails := hb0_rails.fr F223 (fun (hm : c0 + 3 = N + 6) => by omega)
                replace hf0_rails_list := OwS.fr hf0_rails_list F223 (fun c' hc (hm : c' = N + 6) => by omega)
                replace hf0_state := OwS.fr hf0_state F223 (fun c' hc (hm : c' = N + 6) => by omega)
                replace hF := hF.trans F223 (fun c' (hm : c' = N + 6) => by show (c0 ≤ c' ∧ c' < c0 + 6) ∨ (r0 ≤ c' ∧ c' < r0 + 2) ∨ N ≤ c'; omega)
                refine st_val hS222 rfl rfl rfl (r_assign hS222 rfl rfl) fun a224 hS224 => wpList_nil (hK _ _ ?_)
                replace hS : Sl 123 _ [(0, .pointer (some ⟨b_p0, 0, none⟩)), (1, .int .i64 p1), (2, .int .i64 p2), (3, .int .u64 p3), (11, .slice A153 r105.2.1.length cap154), (13, .slice A218 y216.length cap219), (71, .slice A149 r105.1.length cap150), (72, .int .i64 (r105.1.length : Int)), (73, .int .i64 m0_2)] := hS224.re ⟨rfl, rfl, rfl, rfl, rfl, rfl, rfl, rfl, rfl, trivial⟩
                clear hK K
                try clear hS214 hS215 hS222 hS224
                obtain ⟨a, ha⟩ : ∃ a', a' = a224 := ⟨_, rfl⟩
                rw [← ha] at hS ⊢; clear ha
                change Code.wp _ _ _ _ _
                refine c_pure1 [(0, .pointer (some ⟨b_p0, 0, none⟩)), (1, .int .i64 p1), (2, .int .i64 p2), (3, .int .u64 p3), (11, .slice A153 r105.2.1.length cap154), (13, .slice A218 y216.length cap219), (71, .slice A149 r105.1.length cap150), (72, .int .i64 (r105.1.length : Int)), (73, .int .i64 (wi (m0_2 + 1)))] (fun R hR => st_val hS rfl rfl rfl (r_bin hS rfl rfl rfl b_add) fun a225 hS225 => st_val hS225 rfl rfl rfl (r_move hS225 rfl rfl) fun a226 hS226 => wpList_nil (hR _ (hS226.re ⟨rfl, rfl, rfl, rfl, rfl, rfl, rfl, rfl, rfl, trivial⟩))) ?_
                clear hS
                clear a
                intro a hS
                refine ⟨k187, Nat.lt_succ_self _, ?_⟩
                exact ⟨r201.1, y216, wi (m0_2 + 1), g223, A218, cap219, H, hS.re ⟨rfl, rfl, rfl, rfl, rfl, rfl, rfl, rfl, rfl, trivial⟩, h151, h155, h220, hb0, hf0_devices, hb0_rails, hf0_rails_list, hf0_state, hF⟩
              · replace H := ite_f hb189 H
                refine wp_exit ?_
                have e := Option.some.inj H
                subst e
                exact ⟨g183, A184, cap185, hS.re ⟨rfl, rfl, rfl, rfl, rfl, rfl, trivial⟩, h155, h186, hb0, hf0_devices, hb0_rails, hf0_rails_list, hf0_state, hF⟩
        · clear H
          clear hf0_devices hf0_state hf0_rails_list hb0_rails hb0 h151 h155 hF
          clear hS
          rintro a w173 ⟨g173, A174, cap175, hS, h155, h176, hb0, hf0_devices, hb0_rails, hf0_rails_list, hf0_state, hF⟩
          have H := Hl179
          clear Hl179
          obtain ⟨v231, H, Hl233⟩ := bind_el H
          refine c_cut (fun a w227 => ∃ (g227 : Nat → Nat), ∃ (A228 : Option Addr), ∃ (cap229 : Nat), Sl 123 a [(0, .pointer (some ⟨b_p0, 0, none⟩)), (1, .int .i64 p1), (2, .int .i64 p2), (3, .int .u64 p3), (13, .slice A228 v231.2.length cap229)] ∧ OwS kd_api_RailOp 66 w227 g227 (N + 6) A228 cap229 v231.2 ∧ Bx w227 g227 (c0) b_p0 90 [.slice A_devices_p0 p0.devices.length cap_devices_p0, .slice A_state_p0 p0.state.length cap_state_p0, .pointer (some ⟨b_rails_p0, 0, none⟩), .int .u64 p0.now] ∧ RdS kd_api_PowerDevice w227 g227 C_devices_p0 A_devices_p0 cap_devices_p0 p0.devices ∧ Bx w227 g227 (c0 + 3) b_rails_p0 100 [.slice A_rails_list_p0 v231.1.list.length cap_rails_list_p0, .int .u64 v231.1.now] ∧ OwS kd_rails_rail 105 w227 g227 (c0 + 3 + 1) A_rails_list_p0 cap_rails_list_p0 v231.1.list ∧ OwS (kint .i64) 3 w227 g227 (c0 + 1) A_state_p0 cap_state_p0 p0.state ∧ Fr (fun q => (c0 ≤ q ∧ q < c0 + 6) ∨ (r0 ≤ q ∧ q < r0 + 2) ∨ N ≤ q) w g w227 g227) ?_ ?_
          · refine c_pure [(0, .pointer (some ⟨b_p0, 0, none⟩)), (1, .int .i64 p1), (2, .int .i64 p2), (3, .int .u64 p3), (13, .slice A174 v177.2.length cap175), (91, .slice A153 r105.2.1.length cap154), (92, .int .i64 (r105.2.1.length : Int)), (93, .int .i64 0)] (fun R hR => st_val hS rfl rfl rfl (r_move hS rfl rfl) fun a234 hS234 => st_val hS234 rfl rfl rfl (r_len (e := 3) (sz := 1) (by_ := 8) hS234 rfl rfl (by kernel_rfl)) fun a235 hS235 => st_val hS235 rfl rfl rfl (r_move hS235 rfl rfl) fun a236 hS236 => wpList_nil (hR _ (hS236.re ⟨rfl, rfl, rfl, rfl, rfl, rfl, rfl, rfl, trivial⟩))) ?_
            clear hS
            clear a
            intro a hS
            refine wp_block ?_
            refine wp_loop_ghost (fun kq => fun a w237 => ∃ (m1_0 : rails_Rails), ∃ (m1_1 : List api_RailOp), ∃ (m1_2 : Int), ∃ (g237 : Nat → Nat), ∃ (A238 : Option Addr), ∃ (cap239 : Nat), device_Tree_Set.l1 p3 r105 kq m1_0 m1_1 m1_2 = some v231 ∧ Sl 123 a [(0, .pointer (some ⟨b_p0, 0, none⟩)), (1, .int .i64 p1), (2, .int .i64 p2), (3, .int .u64 p3), (13, .slice A238 m1_1.length cap239), (91, .slice A153 r105.2.1.length cap154), (92, .int .i64 (r105.2.1.length : Int)), (93, .int .i64 m1_2)] ∧ OwS (kint .i64) 3 w237 g237 (N + 2) A153 cap154 r105.2.1 ∧ OwS kd_api_RailOp 66 w237 g237 (N + 6) A238 cap239 m1_1 ∧ Bx w237 g237 (c0) b_p0 90 [.slice A_devices_p0 p0.devices.length cap_devices_p0, .slice A_state_p0 p0.state.length cap_state_p0, .pointer (some ⟨b_rails_p0, 0, none⟩), .int .u64 p0.now] ∧ RdS kd_api_PowerDevice w237 g237 C_devices_p0 A_devices_p0 cap_devices_p0 p0.devices ∧ Bx w237 g237 (c0 + 3) b_rails_p0 100 [.slice A_rails_list_p0 m1_0.list.length cap_rails_list_p0, .int .u64 m1_0.now] ∧ OwS kd_rails_rail 105 w237 g237 (c0 + 3 + 1) A_rails_list_p0 cap_rails_list_p0 m1_0.list ∧ OwS (kint .i64) 3 w237 g237 (c0 + 1) A_state_p0 cap_state_p0 p0.state ∧ Fr (fun q => (c0 ≤ q ∧ q < c0 + 6) ∨ (r0 ≤ q ∧ q < r0 + 2) ∨ N ≤ q) w g w237 g237) FUEL ?_ ?_
            · exact ⟨v177.1, v177.2, 0, g173, A174, cap175, H, hS.re ⟨rfl, rfl, rfl, rfl, rfl, rfl, rfl, rfl, trivial⟩, h155, h176, hb0, hf0_devices, hb0_rails, hf0_rails_list, hf0_state, hF⟩
            · clear H
              clear hf0_devices hf0_state hf0_rails_list hb0_rails hb0 h155 h176 hF
              clear hS
              rintro k241 a w237 ⟨m1_0, m1_1, m1_2, g237, A238, cap239, hpre0, hS, h155, h240, hb0, hf0_devices, hb0_rails, hf0_rails_list, hf0_state, hF⟩
              have H := hpre0
              clear hpre0
              cases k241 with
              | zero => exact absurd H (by simp [device_Tree_Set.l1])
              | succ k241 =>
                rw [device_Tree_Set.l1] at H
                refine c_pure [(0, .pointer (some ⟨b_p0, 0, none⟩)), (1, .int .i64 p1), (2, .int .i64 p2), (3, .int .u64 p3), (13, .slice A238 m1_1.length cap239), (91, .slice A153 r105.2.1.length cap154), (92, .int .i64 (r105.2.1.length : Int)), (93, .int .i64 m1_2), (94, .bool (decide (m1_2 < (r105.2.1.length : Int))))] (fun R hR => st_val hS rfl rfl rfl (r_bin hS rfl rfl rfl b_lss) fun a242 hS242 => wpList_nil (hR _ (hS242.re ⟨rfl, rfl, rfl, rfl, rfl, rfl, rfl, rfl, rfl, trivial⟩))) ?_
                clear hS
                clear a
                intro a hS
                refine c_if hS rfl (fun hb243 => ?_) (fun hb243 => ?_)
                · replace H := ite_t hb243 H
                  refine wp_skip ?_
                  change Code.wp _ _ _ _ _
                  refine wp_seq ?_
                  refine wp_block ?_
                  obtain ⟨x244, hx245, H⟩ := bind_el H
                  refine c_pure [(0, .pointer (some ⟨b_p0, 0, none⟩)), (1, .int .i64 p1), (2, .int .i64 p2), (3, .int .u64 p3), (13, .slice A238 m1_1.length cap239), (19, .int .i64 x244), (91, .slice A153 r105.2.1.length cap154), (92, .int .i64 (r105.2.1.length : Int)), (93, .int .i64 m1_2)] (fun R hR => st_val hS rfl rfl rfl (r_index (e := 3) (sz := 1) (by_ := 8) hS rfl rfl rfl (by kernel_rfl) (RdS.some_ (OwS.rd h155) hx245) (idx_lo hx245) (idx_hi hx245)) fun a246 hS246 => st_val hS246 rfl rfl rfl (r_load1 (n := 1) hS246 rfl rfl (by kernel_rfl) (RdS.cell (i := m1_2) (sz := 1) (j := 0) (OwS.rd h155) hx245 rfl)) fun a247 hS247 => st_val hS247 rfl rfl rfl (r_assign hS247 rfl rfl) fun a248 hS248 => wpList_nil (hR _ (hS248.re ⟨rfl, rfl, rfl, rfl, rfl, rfl, rfl, rfl, rfl, trivial⟩))) ?_
                  clear hS
                  clear a
                  intro a hS
                  obtain ⟨r255, hr256, H⟩ := bind_el H
                  refine c_region (fun K hK => ?_)
                  refine st_val hS rfl rfl rfl (r_move hS rfl rfl) fun a249 hS249 => st_val hS249 rfl rfl rfl (r_nil hS249 rfl rfl) fun a250 hS250 => st_val hS250 rfl rfl rfl (r_fieldB (off := 2) hS250 rfl rfl (by kernel_rfl)) fun a251 hS251 => st_val hS251 rfl rfl rfl (r_load1 (n := 1) hS251 rfl rfl (by kernel_rfl) (Bx.cell hb0 rfl)) fun a252 hS252 => st_val hS252 rfl rfl rfl (r_move hS252 rfl rfl) fun a253 hS253 => st_val hS253 rfl rfl rfl (r_move hS253 rfl rfl) fun a254 hS254 => ?_
                  refine st_enter hS254 rfl rfl rfl (r_call hS254 rfl rfl (by kernel_rfl)) (rails_Rails_Release.calls (c0 := c0 + 3) (b_p0 := b_rails_p0) (A_list_p0 := A_rails_list_p0) (cap_list_p0 := cap_rails_list_p0) (p0 := m1_0) (p1 := x244) (p2 := p3) (g := g237) (N + 10) (N + 8) ⟨hb0_rails, hf0_rails_list⟩ (by omega) (by omega) (by omega) hr256) ?_
                  rintro _ a261 w262 ⟨g262, A257, cap258, rfl, ⟨hb0_rails, hf0_rails_list⟩, h259, F262⟩ hS261
                  replace h155 := OwS.fr h155 F262 (fun c' hc (hm : (c0 + 3 ≤ c' ∧ c' < c0 + 3 + 3) ∨ (N + 8 ≤ c' ∧ c' < N + 8 + 2) ∨ N + 10 ≤ c') => by omega)
                  replace h240 := OwS.fr h240 F262 (fun c' hc (hm : (c0 + 3 ≤ c' ∧ c' < c0 + 3 + 3) ∨ (N + 8 ≤ c' ∧ c' < N + 8 + 2) ∨ N + 10 ≤ c') => by omega)
                  replace hb0 := hb0.fr F262 (fun (hm : (c0 + 3 ≤ c0 ∧ c0 < c0 + 3 + 3) ∨ (N + 8 ≤ c0 ∧ c0 < N + 8 + 2) ∨ N + 10 ≤ c0) => by omega)
                  replace hf0_devices := RdS.fr hf0_devices F262 (by decide) (fun q (hq : C_devices_p0 q) (hm : (c0 + 3 ≤ q ∧ q < c0 + 3 + 3) ∨ (N + 8 ≤ q ∧ q < N + 8 + 2) ∨ N + 10 ≤ q) => by have := hC_devices_p0 q hq; omega)
                  replace hf0_state := OwS.fr hf0_state F262 (fun c' hc (hm : (c0 + 3 ≤ c' ∧ c' < c0 + 3 + 3) ∨ (N + 8 ≤ c' ∧ c' < N + 8 + 2) ∨ N + 10 ≤ c') => by omega)
                  replace hF := hF.trans F262 (fun c' (hm : (c0 + 3 ≤ c' ∧ c' < c0 + 3 + 3) ∨ (N + 8 ≤ c' ∧ c' < N + 8 + 2) ∨ N + 10 ≤ c') => by show (c0 ≤ c' ∧ c' < c0 + 6) ∨ (r0 ≤ c' ∧ c' < r0 + 2) ∨ N ≤ c'; omega)
                  refine st_val hS261 rfl rfl rfl (r_move hS261 rfl rfl) fun a263 hS263 => st_val hS263 rfl rfl rfl (r_extract hS263 rfl rfl rfl) fun a264 hS264 => st_val hS264 rfl rfl rfl (r_extract hS264 rfl rfl rfl) fun a265 hS265 => st_val hS265 rfl rfl rfl (r_assign hS265 rfl rfl) fun a266 hS266 => st_val hS266 rfl rfl rfl (r_assign hS266 rfl rfl) fun a267 hS267 => wpList_nil (hK _ _ ?_)
                  replace hS : Sl 123 _ [(0, .pointer (some ⟨b_p0, 0, none⟩)), (1, .int .i64 p1), (2, .int .i64 p2), (3, .int .u64 p3), (13, .slice A238 m1_1.length cap239), (20, .slice A257 r255.2.1.length cap258), (91, .slice A153 r105.2.1.length cap154), (92, .int .i64 (r105.2.1.length : Int)), (93, .int .i64 m1_2)] := hS267.re ⟨rfl, rfl, rfl, rfl, rfl, rfl, rfl, rfl, rfl, trivial⟩
                  clear hK K
                  try clear hS249 hS250 hS251 hS252 hS253 hS254 hS261 hS263 hS264 hS265 hS266 hS267
                  obtain ⟨a, ha⟩ : ∃ a', a' = a267 := ⟨_, rfl⟩
                  rw [← ha] at hS ⊢; clear ha
                  obtain ⟨y270, hy271, H⟩ := bind_el H
                  refine c_region1 (fun K hK => ?_)
                  refine st_val hS rfl rfl rfl (r_move hS rfl rfl) fun a268 hS268 => st_val hS268 rfl rfl rfl (r_move hS268 rfl rfl) fun a269 hS269 => ?_
                  refine st_eff hS269 rfl rfl rfl (e_append (e := 66) (sz := 4) (by_ := 32) (z := [.int .i64 0, .bool false, .int .u64 0, .int .u64 0]) (kd := kd_api_RailOp) g262 hS269 rfl rfl rfl rfl (by kernel_rfl) (by kernel_rfl) rfl rfl rfl rfl h240 (OwD.rdx h259) (fun _ _ _ h => h) hy271) ?_
                  rintro _ a276 w277 g277 ⟨⟨A272, cap273, rfl, h274⟩, F277⟩ hS276
                  replace h155 := OwS.fr h155 F277 (fun c' hc (hm : c' = N + 6) => by omega)
                  replace h259 := OwS.fr h259 F277 (fun c' hc (hm : c' = N + 6) => by omega)
                  replace hb0 := hb0.fr F277 (fun (hm : c0 = N + 6) => by omega)
                  replace hf0_devices := RdS.fr hf0_devices F277 (by decide) (fun q (hq : C_devices_p0 q) (hm : q = N + 6) => by have := hC_devices_p0 q hq; omega)
                  replace hb0_rails := hb0_rails.fr F277 (fun (hm : c0 + 3 = N + 6) => by omega)
                  replace hf0_rails_list := OwS.fr hf0_rails_list F277 (fun c' hc (hm : c' = N + 6) => by omega)
                  replace hf0_state := OwS.fr hf0_state F277 (fun c' hc (hm : c' = N + 6) => by omega)
                  replace hF := hF.trans F277 (fun c' (hm : c' = N + 6) => by show (c0 ≤ c' ∧ c' < c0 + 6) ∨ (r0 ≤ c' ∧ c' < r0 + 2) ∨ N ≤ c'; omega)
                  refine st_val hS276 rfl rfl rfl (r_assign hS276 rfl rfl) fun a278 hS278 => wpList_nil (hK _ _ ?_)
                  replace hS : Sl 123 _ [(0, .pointer (some ⟨b_p0, 0, none⟩)), (1, .int .i64 p1), (2, .int .i64 p2), (3, .int .u64 p3), (13, .slice A272 y270.length cap273), (91, .slice A153 r105.2.1.length cap154), (92, .int .i64 (r105.2.1.length : Int)), (93, .int .i64 m1_2)] := hS278.re ⟨rfl, rfl, rfl, rfl, rfl, rfl, rfl, rfl, trivial⟩
                  clear hK K
                  try clear hS268 hS269 hS276 hS278
                  obtain ⟨a, ha⟩ : ∃ a', a' = a278 := ⟨_, rfl⟩
                  rw [← ha] at hS ⊢; clear ha
                  change Code.wp _ _ _ _ _
                  refine c_pure1 [(0, .pointer (some ⟨b_p0, 0, none⟩)), (1, .int .i64 p1), (2, .int .i64 p2), (3, .int .u64 p3), (13, .slice A272 y270.length cap273), (91, .slice A153 r105.2.1.length cap154), (92, .int .i64 (r105.2.1.length : Int)), (93, .int .i64 (wi (m1_2 + 1)))] (fun R hR => st_val hS rfl rfl rfl (r_bin hS rfl rfl rfl b_add) fun a279 hS279 => st_val hS279 rfl rfl rfl (r_move hS279 rfl rfl) fun a280 hS280 => wpList_nil (hR _ (hS280.re ⟨rfl, rfl, rfl, rfl, rfl, rfl, rfl, rfl, trivial⟩))) ?_
                  clear hS
                  clear a
                  intro a hS
                  refine ⟨k241, Nat.lt_succ_self _, ?_⟩
                  exact ⟨r255.1, y270, wi (m1_2 + 1), g277, A272, cap273, H, hS.re ⟨rfl, rfl, rfl, rfl, rfl, rfl, rfl, rfl, trivial⟩, h155, h274, hb0, hf0_devices, hb0_rails, hf0_rails_list, hf0_state, hF⟩
                · replace H := ite_f hb243 H
                  refine wp_exit ?_
                  have e := Option.some.inj H
                  subst e
                  exact ⟨g237, A238, cap239, hS.re ⟨rfl, rfl, rfl, rfl, rfl, trivial⟩, h240, hb0, hf0_devices, hb0_rails, hf0_rails_list, hf0_state, hF⟩
          · clear H
            clear hf0_devices hf0_state hf0_rails_list hb0_rails hb0 h155 h176 hF
            clear hS
            rintro a w227 ⟨g227, A228, cap229, hS, h230, hb0, hf0_devices, hb0_rails, hf0_rails_list, hf0_state, hF⟩
            have H := Hl233
            clear Hl233
            refine c_region (fun K hK => ?_)
            refine st_val hS rfl rfl rfl (r_move hS rfl rfl) fun a281 hS281 => st_val hS281 rfl rfl rfl (r_nil hS281 rfl rfl) fun a282 hS282 => st_val hS282 rfl rfl rfl (r_fieldB (off := 1) hS282 rfl rfl (by kernel_rfl)) fun a283 hS283 => st_val hS283 rfl rfl rfl (r_load1 (n := 1) hS283 rfl rfl (by kernel_rfl) (Bx.cell hb0 rfl)) fun a284 hS284 => st_val hS284 rfl rfl rfl (r_move hS284 rfl rfl) fun a285 hS285 => st_val hS285 rfl rfl rfl (r_move hS285 rfl rfl) fun a286 hS286 => st_val hS286 rfl rfl rfl (r_move hS286 rfl rfl) fun a287 hS287 => st_val hS287 rfl rfl rfl (r_move hS287 rfl rfl) fun a288 hS288 => st_val hS288 rfl rfl rfl (r_index (e := 3) (sz := 1) (by_ := 8) hS288 rfl rfl rfl (by kernel_rfl) (RdS.some_ (OwS.rd hf0_state) hx104) (idx_lo hx104) (idx_hi hx104)) fun a289 hS289 => ?_
            refine st_effS hS289 rfl rfl (e_storeE (n := 1) (bb := false) (kd := (kint .i64)) (j := 0) (x' := p2) (us := [.int .i64 p2]) g227 hS289 rfl rfl rfl rfl (by kernel_rfl) rfl rfl (by intro v hv; simp only [List.mem_cons, List.not_mem_nil, or_false] at hv; rcases hv with rfl <;> rfl) hf0_state hx104 rfl (fun _ _ cs hR => by rw [show cs = _ from hR]; rfl)) ?_
            rintro a290 w291 g291 ⟨hf0_state, F291⟩ hS290
            replace h230 := OwS.fr h230 F291 (fun c' hc (hm : c' = c0 + 1) => by omega)
            replace hb0 := hb0.fr F291 (fun (hm : c0 = c0 + 1) => by omega)
            replace hf0_devices := RdS.fr hf0_devices F291 (by decide) (fun q (hq : C_devices_p0 q) (hm : q = c0 + 1) => by have := hC_devices_p0 q hq; omega)
            replace hb0_rails := hb0_rails.fr F291 (fun (hm : c0 + 3 = c0 + 1) => by omega)
            replace hf0_rails_list := OwS.fr hf0_rails_list F291 (fun c' hc (hm : c' = c0 + 1) => by omega)
            replace hF := hF.trans F291 (fun c' (hm : c' = c0 + 1) => by show (c0 ≤ c' ∧ c' < c0 + 6) ∨ (r0 ≤ c' ∧ c' < r0 + 2) ∨ N ≤ c'; omega)
            replace hb0 : Bx w291 g291 (c0) b_p0 90 [.slice A_devices_p0 p0.devices.length cap_devices_p0, .slice A_state_p0 (upd p0.state p1 p2).length cap_state_p0, .pointer (some ⟨b_rails_p0, 0, none⟩), .int .u64 p0.now] := by simpa only [upd_length] using hb0
            refine st_val hS290 rfl rfl rfl (r_nil hS290 rfl rfl) fun a292 hS292 => st_val hS292 rfl rfl rfl (r_fieldB (off := 3) hS292 rfl rfl (by kernel_rfl)) fun a293 hS293 => ?_
            refine st_effS hS293 rfl rfl (e_storeB (n := 1) (bb := false) (cs' := [.slice A_devices_p0 p0.devices.length cap_devices_p0, .slice A_state_p0 (upd p0.state p1 p2).length cap_state_p0, .pointer (some ⟨b_rails_p0, 0, none⟩), .int .u64 p3]) g291 hS293 rfl rfl rfl (by kernel_rfl) rfl rfl rfl hb0 rfl rfl) ?_
            rintro a294 w295 g295 ⟨hb0, F295⟩ hS294
            replace h230 := OwS.fr h230 F295 (fun c' hc (hm : c' = c0) => by omega)
            replace hf0_devices := RdS.fr hf0_devices F295 (by decide) (fun q (hq : C_devices_p0 q) (hm : q = c0) => by have := hC_devices_p0 q hq; omega)
            replace hb0_rails := hb0_rails.fr F295 (fun (hm : c0 + 3 = c0) => by omega)
            replace hf0_rails_list := OwS.fr hf0_rails_list F295 (fun c' hc (hm : c' = c0) => by omega)
            replace hf0_state := OwS.fr hf0_state F295 (fun c' hc (hm : c' = c0) => by omega)
            replace hF := hF.trans F295 (fun c' (hm : c' = c0) => by show (c0 ≤ c' ∧ c' < c0 + 6) ∨ (r0 ≤ c' ∧ c' < r0 + 2) ∨ N ≤ c'; omega)
            refine wpList_nil (hK _ _ ?_)
            replace hS : Sl 123 _ [(13, .slice A228 v231.2.length cap229)] := hS294.re ⟨rfl, trivial⟩
            clear hK K
            try clear hS281 hS282 hS283 hS284 hS285 hS286 hS287 hS288 hS289 hS290 hS292 hS293 hS294
            obtain ⟨a, ha⟩ : ∃ a', a' = a294 := ⟨_, rfl⟩
            rw [← ha] at hS ⊢; clear ha
            refine c_pure [(8, .slice A228 v231.2.length cap229), (9, .int .i64 0)] (fun R hR => st_val hS rfl rfl rfl (r_move hS rfl rfl) fun a296 hS296 => st_val hS296 rfl rfl rfl (r_assign hS296 rfl rfl) fun a297 hS297 => st_val hS297 rfl rfl rfl (r_assign hS297 rfl rfl) fun a298 hS298 => wpList_nil (hR _ (hS298.re ⟨rfl, rfl, trivial⟩))) ?_
            clear hS
            clear a
            intro a hS
            refine wp_ret ?_
            have e := Option.some.inj H
            subst e
            have F299 := Fr.recol2 w295 g295 (N + 6) r0
            replace h230 := h230.recol2 r0
            replace hb0 := hb0.fr F299 (fun (hm : c0 = N + 6 ∨ c0 = N + 6 + 1) => by omega)
            replace hf0_devices := RdS.fr hf0_devices F299 (by decide) (fun q (hq : C_devices_p0 q) (hm : q = N + 6 ∨ q = N + 6 + 1) => by have := hC_devices_p0 q hq; omega)
            replace hb0_rails := hb0_rails.fr F299 (fun (hm : c0 + 3 = N + 6 ∨ c0 + 3 = N + 6 + 1) => by omega)
            replace hf0_rails_list := OwS.fr hf0_rails_list F299 (fun c' hc (hm : c' = N + 6 ∨ c' = N + 6 + 1) => by omega)
            replace hf0_state := OwS.fr hf0_state F299 (fun c' hc (hm : c' = N + 6 ∨ c' = N + 6 + 1) => by omega)
            replace hF := hF.trans F299 (fun c' (hm : c' = N + 6 ∨ c' = N + 6 + 1) => by show (c0 ≤ c' ∧ c' < c0 + 6) ∨ (r0 ≤ c' ∧ c' < r0 + 2) ∨ N ≤ c'; omega)
            repeat (with_reducible first | refine then_ret ?_ | refine inBlock_ret ?_)
            exact c_ret2 hS Try.results28 rfl rfl ⟨_, rfl, (recol2 g295 (N + 6) r0), A228, cap229, rfl, ⟨hb0, hf0_devices, hf0_state, ⟨hb0_rails, hf0_rails_list⟩⟩, h230, hF⟩


end Go.Proofs.Ytfhhklkmbcnhnaa.Sim

namespace Go.Proofs.Ytfhhklkmbcnhnaa.Sim
open Go
set_option linter.unusedVariables false
set_option linter.unusedSimpArgs false

/-! ### device_Tree_State: function 29 -/
def device_Tree_State.f (p0 : device_Tree) (p1 : Int) : Option (Int) := (device_Tree_has.f p0 p1).bind fun r4 => if (!r4) = true then (some (-1)) else ((idx p0.state p1).bind fun x16 => some x16)
set_option maxRecDepth 100000 in
set_option maxHeartbeats 4000000 in
theorem device_Tree_State.calls {p0 : device_Tree} {c0 : Nat} {C_devices_p0 : Nat → Prop} {b_p0 : Nat} {A_devices_p0 : Option Addr} {cap_devices_p0 : Nat} {A_state_p0 : Option Addr} {cap_state_p0 : Nat} {b_rails_p0 : Nat} {A_rails_list_p0 : Option Addr} {cap_rails_list_p0 : Nat} {p1 : Int} {w : World} {g : Nat → Nat} {out : Int} (N : Nat) (hp0 : device_Tree_At w g c0 C_devices_p0 b_p0 A_devices_p0 cap_devices_p0 A_state_p0 cap_state_p0 b_rails_p0 A_rails_list_p0 cap_rails_list_p0 p0) (hc0 : c0 + 6 ≤ N) (hC_devices_p0 : ∀ c, C_devices_p0 c → c < N ∧ (c < c0 ∨ c0 + 6 ≤ c)) (H : device_Tree_State.f p0 p1 = some out) :
    Calls Try.prog 29 #[.pointer (some ⟨b_p0, 0, none⟩), .int .i64 p1] w (fun e w' => ∃ v, e = .returned v ∧ ∃ (g' : Nat → Nat), v = .int .i64 out ∧ Fr (fun q => N ≤ q) w g w' g') := by
  unfold device_Tree_State.f at H
  refine calls_enter Try.func29 rfl Try.ntmps29 rfl (fun a hS => ?_)
  replace hS : Sl 16 a [(0, .pointer (some ⟨b_p0, 0, none⟩)), (1, .int .i64 p1)] := hS
  have hF : Fr (fun q => N ≤ q) w g w g := Fr.refl _ _ _
  obtain ⟨hb0, hf0_devices, hf0_state, ⟨hb0_rails, hf0_rails_list⟩⟩ := hp0
  refine c_pure [(0, .pointer (some ⟨b_p0, 0, none⟩)), (1, .int .i64 p1)] (fun R hR => st_val hS rfl rfl rfl (r_assign hS rfl rfl) fun a1 hS1 => wpList_nil (hR _ (hS1.re ⟨rfl, rfl, trivial⟩))) ?_
  clear hS
  clear a
  intro a hS
  refine wp_seq ?_
  obtain ⟨r4, hr5, H⟩ := bind_el H
  refine c_region (fun K hK => ?_)
  refine st_val hS rfl rfl rfl (r_move hS rfl rfl) fun a2 hS2 => st_val hS2 rfl rfl rfl (r_move hS2 rfl rfl) fun a3 hS3 => ?_
  refine st_enter hS3 rfl rfl rfl (r_call hS3 rfl rfl (by kernel_rfl)) (device_Tree_has.calls (c0 := c0) (b_p0 := b_p0) (A_devices_p0 := A_devices_p0) (cap_devices_p0 := cap_devices_p0) (C_devices_p0 := C_devices_p0) (A_state_p0 := A_state_p0) (cap_state_p0 := cap_state_p0) (b_rails_p0 := b_rails_p0) (A_rails_list_p0 := A_rails_list_p0) (cap_rails_list_p0 := cap_rails_list_p0) (p0 := p0) (p1 := p1) (g := g) (N + 0)  ⟨hb0, hf0_devices, hf0_state, ⟨hb0_rails, hf0_rails_list⟩⟩ (by omega) (fun q (hq : C_devices_p0 q) => by have := hC_devices_p0 q hq; omega) hr5) ?_
  rintro _ a6 w7 ⟨g7, rfl, F7⟩ hS6
  replace hb0 := hb0.fr F7 (fun (hm : N + 0 ≤ c0) => by omega)
  replace hf0_devices := RdS.fr hf0_devices F7 (by decide) (fun q (hq : C_devices_p0 q) (hm : N + 0 ≤ q) => by have := hC_devices_p0 q hq; omega)
  replace hb0_rails := hb0_rails.fr F7 (fun (hm : N + 0 ≤ c0 + 3) => by omega)
  replace hf0_rails_list := OwS.fr hf0_rails_list F7 (fun c' hc (hm : N + 0 ≤ c') => by omega)
  replace hf0_state := OwS.fr hf0_state F7 (fun c' hc (hm : N + 0 ≤ c') => by omega)
  replace hF := hF.trans F7 (fun c' (hm : N + 0 ≤ c') => by show N ≤ c'; omega)
  refine st_val hS6 rfl rfl rfl (r_not hS6 rfl rfl) fun a8 hS8 => wpList_nil (hK _ _ ?_)
  replace hS : Sl 16 _ [(0, .pointer (some ⟨b_p0, 0, none⟩)), (1, .int .i64 p1), (8, .bool (!r4))] := hS8.re ⟨rfl, rfl, rfl, trivial⟩
  clear hK K
  try clear hS2 hS3 hS6 hS8
  obtain ⟨a, ha⟩ : ∃ a', a' = a8 := ⟨_, rfl⟩
  rw [← ha] at hS ⊢; clear ha
  refine c_cond hS rfl (fun hb9 => ?_) (fun hb9 => ?_)
  · replace H := ite_t hb9 H
    refine c_pure [(4, .int .i64 (-1))] (fun R hR => st_val hS rfl rfl rfl (r_assign hS rfl rfl) fun a10 hS10 => wpList_nil (hR _ (hS10.re ⟨rfl, trivial⟩))) ?_
    clear hS
    clear a
    intro a hS
    refine wp_ret ?_
    have e := Option.some.inj H
    subst e
    repeat (with_reducible first | refine then_ret ?_ | refine inBlock_ret ?_)
    exact c_ret1 hS Try.results29 rfl ⟨_, rfl, g7, rfl, hF⟩
  · replace H := ite_f hb9 H
    refine wp_skip ?_
    change Code.wp _ _ _ _ _
    obtain ⟨x16, hx17, H⟩ := bind_el H
    refine c_pure [(4, .int .i64 x16)] (fun R hR => st_val hS rfl rfl rfl (r_move hS rfl rfl) fun a11 hS11 => st_val hS11 rfl rfl rfl (r_nil hS11 rfl rfl) fun a12 hS12 => st_val hS12 rfl rfl rfl (r_fieldB (off := 1) hS12 rfl rfl (by kernel_rfl)) fun a13 hS13 => st_val hS13 rfl rfl rfl (r_load1 (n := 1) hS13 rfl rfl (by kernel_rfl) (Bx.cell hb0 rfl)) fun a14 hS14 => st_val hS14 rfl rfl rfl (r_move hS14 rfl rfl) fun a15 hS15 => st_val hS15 rfl rfl rfl (r_index (e := 3) (sz := 1) (by_ := 8) hS15 rfl rfl rfl (by kernel_rfl) (RdS.some_ (OwS.rd hf0_state) hx17) (idx_lo hx17) (idx_hi hx17)) fun a18 hS18 => st_val hS18 rfl rfl rfl (r_load1 (n := 1) hS18 rfl rfl (by kernel_rfl) (RdS.cell (i := p1) (sz := 1) (j := 0) (OwS.rd hf0_state) hx17 rfl)) fun a19 hS19 => st_val hS19 rfl rfl rfl (r_assign hS19 rfl rfl) fun a20 hS20 => wpList_nil (hR _ (hS20.re ⟨rfl, trivial⟩))) ?_
    clear hS
    clear a
    intro a hS
    refine wp_ret ?_
    have e := Option.some.inj H
    subst e
    repeat (with_reducible first | refine then_ret ?_ | refine inBlock_ret ?_)
    exact c_ret1 hS Try.results29 rfl ⟨_, rfl, g7, rfl, hF⟩


end Go.Proofs.Ytfhhklkmbcnhnaa.Sim

namespace Go.Proofs.Ytfhhklkmbcnhnaa.Sim
open Go
set_option linter.unusedVariables false
set_option linter.unusedSimpArgs false

/-! ### help_Mod: function 15 -/
def help_Mod.f (p0 : Int) (p1 : Int) : Option (Int) := if (wu (p1)) = 0 then none else some (wi ((Int.tmod (wu (p0)) (wu (p1)))))
set_option maxRecDepth 100000 in
set_option maxHeartbeats 4000000 in
theorem help_Mod.calls {p0 : Int} {p1 : Int} {w : World} {g : Nat → Nat} {out : Int} (N : Nat)  (H : help_Mod.f p0 p1 = some out) :
    Calls Try.prog 15 #[.int .i64 p0, .int .i64 p1] w (fun e w' => ∃ v, e = .returned v ∧ ∃ (g' : Nat → Nat), v = .int .i64 out ∧ Fr (fun q => N ≤ q) w g w' g') := by
  unfold help_Mod.f at H
  refine calls_enter Try.func15 rfl Try.ntmps15 rfl (fun a hS => ?_)
  replace hS : Sl 11 a [(0, .int .i64 p0), (1, .int .i64 p1)] := hS
  have hF : Fr (fun q => N ≤ q) w g w g := Fr.refl _ _ _
  refine c_pure [(0, .int .i64 p0), (1, .int .i64 p1)] (fun R hR => st_val hS rfl rfl rfl (r_assign hS rfl rfl) fun a1 hS1 => wpList_nil (hR _ (hS1.re ⟨rfl, rfl, trivial⟩))) ?_
  clear hS
  clear a
  intro a hS
  obtain ⟨hq6, H⟩ := nz_el H
  refine c_pure [(4, .int .i64 (wi ((Int.tmod (wu (p0)) (wu (p1))))))] (fun R hR => st_val hS rfl rfl rfl (r_move hS rfl rfl) fun a2 hS2 => st_val hS2 rfl rfl rfl (r_convert (k' := .u64) hS2 rfl rfl (by kernel_rfl)) fun a3 hS3 => st_val hS3 rfl rfl rfl (r_move hS3 rfl rfl) fun a4 hS4 => st_val hS4 rfl rfl rfl (r_convert (k' := .u64) hS4 rfl rfl (by kernel_rfl)) fun a5 hS5 => st_val hS5 rfl rfl rfl (r_bin hS5 rfl rfl rfl (b_rem hq6)) fun a7 hS7 => st_val hS7 rfl rfl rfl (r_convert (k' := .i64) hS7 rfl rfl (by kernel_rfl)) fun a8 hS8 => st_val hS8 rfl rfl rfl (r_assign hS8 rfl rfl) fun a9 hS9 => wpList_nil (hR _ (hS9.re ⟨rfl, trivial⟩))) ?_
  clear hS
  clear a
  intro a hS
  refine wp_ret ?_
  have e := Option.some.inj H
  subst e
  repeat (with_reducible first | refine then_ret ?_ | refine inBlock_ret ?_)
  exact c_ret1 hS Try.results15 rfl ⟨_, rfl, g, rfl, hF⟩


end Go.Proofs.Ytfhhklkmbcnhnaa.Sim

namespace Go.Proofs.Ytfhhklkmbcnhnaa.Sim
open Go
set_option linter.unusedVariables false
set_option linter.unusedSimpArgs false

/-! ### law25_Some: function 25 -/
def law25_Some.l0 (p0 : List api_Rail) : Nat → (List api_Rail) → Int → Option ((List api_Rail))
  | 0, _, _ => none
  | k15 + 1, m0_0, m0_1 => if ((decide (m0_1 < (p0.length : Int))) && (decide (m0_1 < 8))) = true then ((idx p0 m0_1).bind fun x32 => (help_Mod.f x32.Supply (wi (m0_1 + 1))).bind fun r34 => (app m0_0 [(api_Rail.mk (wi (r34 - 1)) (Int.tmod x32.RampUp 20) (Int.tmod x32.RampDown 20))]).bind fun y39 => law25_Some.l0 p0 k15 y39 (wi (m0_1 + 1))) else (some m0_0)
def law25_Some.l1 (v7 : (List api_Rail)) : Nat → (List api_Rail) → Int → Option ((List api_Rail))
  | 0, _, _ => none
  | k112 + 1, m1_0, m1_1 => if decide (m1_1 < (v7.length : Int)) = true then ((idx v7 m1_1).bind fun x119 => (if decide (0 ≤ x119.Supply) = true then (some (api_Rail.mk (wi ((wi ((v7.length : Int) - 1)) - x119.Supply)) x119.RampUp x119.RampDown)) else (some x119) : Option (api_Rail)).bind fun v131 => (idx m1_0 (wi ((wi ((v7.length : Int) - 1)) - m1_1))).bind fun x152 => law25_Some.l1 v7 k112 (upd m1_0 (wi ((wi ((v7.length : Int) - 1)) - m1_1)) v131) (wi (m1_1 + 1))) else (some m1_0)
def law25_Some.f (p0 : List api_Rail) : Option ((List api_Rail)) := (law25_Some.l0 p0 FUEL [] 0 : Option ((List api_Rail))).bind fun v7 => (if ((Int.tmod (v7.length : Int) 2) == 1) = true then ((mk (v7.length : Int) (api_Rail.mk 0 0 0)).bind fun y97 => (law25_Some.l1 v7 FUEL y97 0 : Option ((List api_Rail))).bind fun v107 => some (.out v107)) else (some (.nxt ())) : Option (Fl ((List api_Rail)) (Unit))).bind fun o86 => o86.go fun _ => some v7
set_option maxRecDepth 100000 in
set_option maxHeartbeats 4000000 in
theorem law25_Some.calls {p0 : List api_Rail} {A0 : Option Addr} {cap0 : Nat} {C0 : Nat → Prop} {w : World} {g : Nat → Nat} {out : (List api_Rail)} (N : Nat) (r0 : Nat) (hp0 : RdS kd_api_Rail w g C0 A0 cap0 p0) (hC0 : ∀ c, C0 c → c < N) (hr0 : r0 + 2 ≤ N) (H : law25_Some.f p0 = some out) :
    Calls Try.prog 25 #[.slice A0 p0.length cap0] w (fun e w' => ∃ v, e = .returned v ∧ ∃ (g' : Nat → Nat) (A_r0 : Option Addr) (cap_r0 : Nat), v = .slice A_r0 out.length cap_r0 ∧ OwS kd_api_Rail 64 w' g' r0 A_r0 cap_r0 out ∧ Fr (fun q => (r0 ≤ q ∧ q < r0 + 2) ∨ N ≤ q) w g w' g') := by
  unfold law25_Some.f at H
  refine calls_enter Try.func25 rfl Try.ntmps25 rfl (fun a hS => ?_)
  replace hS : Sl 79 a [(0, .slice A0 p0.length cap0)] := hS
  have hF : Fr (fun q => (r0 ≤ q ∧ q < r0 + 2) ∨ N ≤ q) w g w g := Fr.refl _ _ _
  refine c_pure [(0, .slice A0 p0.length cap0)] (fun R hR => st_val hS rfl rfl rfl (r_assign hS rfl rfl) fun a1 hS1 => wpList_nil (hR _ (hS1.re ⟨rfl, trivial⟩))) ?_
  clear hS
  clear a
  intro a hS
  refine c_pure [(0, .slice A0 p0.length cap0), (3, .slice none 0 0)] (fun R hR => st_val hS rfl rfl rfl (r_assign hS rfl rfl) fun a2 hS2 => wpList_nil (hR _ (hS2.re ⟨rfl, rfl, trivial⟩))) ?_
  clear hS
  clear a
  intro a hS
  obtain ⟨v7, H, Hl9⟩ := bind_el H
  refine c_cut (fun a w3 => ∃ (g3 : Nat → Nat), ∃ (A4 : Option Addr), ∃ (cap5 : Nat), Sl 79 a [(3, .slice A4 v7.length cap5)] ∧ OwS kd_api_Rail 64 w3 g3 (N + 2) A4 cap5 v7 ∧ Fr (fun q => (r0 ≤ q ∧ q < r0 + 2) ∨ N ≤ q) w g w3 g3) ?_ ?_
  · refine c_pure [(0, .slice A0 p0.length cap0), (3, .slice none 0 0), (4, .int .i64 0)] (fun R hR => st_val hS rfl rfl rfl (r_assign hS rfl rfl) fun a10 hS10 => wpList_nil (hR _ (hS10.re ⟨rfl, rfl, rfl, trivial⟩))) ?_
    clear hS
    clear a
    intro a hS
    refine wp_block ?_
    refine wp_loop_ghost (fun kq => fun a w11 => ∃ (m0_0 : List api_Rail), ∃ (m0_1 : Int), ∃ (g11 : Nat → Nat), ∃ (A12 : Option Addr), ∃ (cap13 : Nat), law25_Some.l0 p0 kq m0_0 m0_1 = some v7 ∧ Sl 79 a [(0, .slice A0 p0.length cap0), (3, .slice A12 m0_0.length cap13), (4, .int .i64 m0_1)] ∧ OwS kd_api_Rail 64 w11 g11 (N + 2) A12 cap13 m0_0 ∧ RdS kd_api_Rail w11 g11 C0 A0 cap0 p0 ∧ Fr (fun q => (r0 ≤ q ∧ q < r0 + 2) ∨ N ≤ q) w g w11 g11) FUEL ?_ ?_
    · exact ⟨[], 0, g, none, 0, H, hS.re ⟨rfl, rfl, rfl, trivial⟩, OwS.nil kd_api_Rail 64 w g (N + 2), hp0, hF⟩
    · clear H
      clear hp0 hF
      clear hS
      rintro k15 a w11 ⟨m0_0, m0_1, g11, A12, cap13, hpre0, hS, h14, hp0, hF⟩
      have H := hpre0
      clear hpre0
      cases k15 with
      | zero => exact absurd H (by simp [law25_Some.l0])
      | succ k15 =>
        rw [law25_Some.l0] at H
        refine wp_seq ?_
        refine c_region (fun K hK => ?_)
        refine st_val hS rfl rfl rfl (r_move hS rfl rfl) fun a16 hS16 => st_val hS16 rfl rfl rfl (r_move hS16 rfl rfl) fun a17 hS17 => st_val hS17 rfl rfl rfl (r_len (e := 64) (sz := 3) (by_ := 24) hS17 rfl rfl (by kernel_rfl)) fun a18 hS18 => st_val hS18 rfl rfl rfl (r_bin hS18 rfl rfl rfl b_lss) fun a19 hS19 => st_val hS19 rfl rfl rfl (r_move hS19 rfl rfl) fun a20 hS20 => ?_
        refine g_join (N := 79) 3 [(0, .slice A0 p0.length cap0), (3, .slice A12 m0_0.length cap13), (4, .int .i64 m0_1), (16, .bool ((decide (m0_1 < (p0.length : Int))) && (decide (m0_1 < 8))))] ?_ (fun hk => ?_)
        rotate_left
        · rcases Bool.eq_false_or_eq_true (decide (m0_1 < (p0.length : Int))) with hb21 | hb21
          · refine st_valW hS20 (want_on hS20 rfl rfl rfl hb21) rfl rfl (r_move hS20 rfl rfl) fun a24 hS24 => st_valW hS24 (want_on hS24 rfl rfl rfl hb21) rfl rfl (r_bin hS24 rfl rfl rfl b_lss) fun a25 hS25 => st_val hS25 rfl rfl rfl (r_pickT hS25 rfl rfl rfl hb21) fun a26 hS26 => hk _ (hS26.re ⟨rfl, rfl, rfl, (by rw [hb21]; rfl), trivial⟩)
          · refine st_off hS20 (want_off hS20 rfl rfl rfl hb21) rfl rfl fun a27 hS27 => st_off hS27 (want_off hS27 rfl rfl rfl hb21) rfl rfl fun a28 hS28 => st_val hS28 rfl rfl rfl (r_pickF hS28 rfl rfl rfl hb21) fun a29 hS29 => hk _ (hS29.re ⟨rfl, rfl, rfl, (by rw [hb21]; rfl), trivial⟩)
        intro a30 hS30
        refine wpList_nil (hK _ _ ?_)
        replace hS : Sl 79 _ [(0, .slice A0 p0.length cap0), (3, .slice A12 m0_0.length cap13), (4, .int .i64 m0_1), (16, .bool ((decide (m0_1 < (p0.length : Int))) && (decide (m0_1 < 8))))] := hS30.re ⟨rfl, rfl, rfl, rfl, trivial⟩
        clear hK K
        try clear hS16 hS17 hS18 hS19 hS20 hS30
        obtain ⟨a, ha⟩ : ∃ a', a' = a30 := ⟨_, rfl⟩
        rw [← ha] at hS ⊢; clear ha
        refine c_cond hS rfl (fun hb31 => ?_) (fun hb31 => ?_)
        · replace H := ite_t hb31 H
          refine wp_skip ?_
          change Code.wp _ _ _ _ _
          refine wp_seq ?_
          refine wp_block ?_
          obtain ⟨x32, hx33, H⟩ := bind_el H
          obtain ⟨r34, hr35, H⟩ := bind_el H
          obtain ⟨y39, hy40, H⟩ := bind_el H
          refine c_draw1 (fun K hK => d_start (fun q => q = N + 2 ∨ N + 8 ≤ q) g11 [] 26 #[false, false, false, false, false, false, false, false, false, false, false, false, false, false, false, false, false, false, false, false, false, false, false, false, false, false] (by kernel_rfl) rfl rfl (fun w45 hw45 => ?_))
          have F45 : Fr (fun _ => False) w11 g11 w45 g11 := by rw [hw45]; exact Fr.drew _ _ _
          replace h14 := OwS.fr h14 F45 (fun _ _ h => h)
          replace hp0 := RdS.fr hp0 F45 (by decide) (fun _ _ h => h)
          replace hF := hF.trans F45 (fun _ h => h.elim)
          have hC : Fr (fun q => q = N + 2 ∨ N + 8 ≤ q) w45 g11 w45 g11 := Fr.refl _ _ _
          refine d_pure hS 0 #[true, false, false, false, false, false, false, false, false, false, false, false, false, false, false, false, false, false, false, false, false, false, false, false, false, false] rfl rfl rfl rfl (by kernel_rfl) (fun _ _ _ h => h) (fun _ => (r_move hS rfl rfl)) fun a46 hS46 => d_pure hS46 1 #[true, true, false, false, false, false, false, false, false, false, false, false, false, false, false, false, false, false, false, false, false, false, false, false, false, false] rfl rfl rfl rfl (by kernel_rfl) (fun _ _ _ h => h) (fun _ => (r_move hS46 rfl rfl)) fun a47 hS47 => d_pure hS47 2 #[true, true, true, false, false, false, false, false, false, false, false, false, false, false, false, false, false, false, false, false, false, false, false, false, false, false] rfl rfl rfl rfl (by kernel_rfl) (fun _ _ _ h => h) (fun _ => (r_move hS47 rfl rfl)) fun a48 hS48 => d_pure hS48 3 #[true, true, true, true, false, false, false, false, false, false, false, false, false, false, false, false, false, false, false, false, false, false, false, false, false, false] rfl rfl rfl rfl (by kernel_rfl) (fun _ _ _ h => h) (fun _ => (r_index (e := 64) (sz := 3) (by_ := 24) hS48 rfl rfl rfl (by kernel_rfl) (RdS.some_ hp0 hx33) (idx_lo hx33) (idx_hi hx33))) fun a49 hS49 => d_pure hS49 4 #[true, true, true, true, true, false, false, false, false, false, false, false, false, false, false, false, false, false, false, false, false, false, false, false, false, false] rfl rfl rfl rfl (by kernel_rfl) (fun _ _ _ h => h) (fun _ => (r_fieldE (off := 0) hS49 rfl rfl (by kernel_rfl))) fun a50 hS50 => d_take hS50 5 #[true, true, true, true, true, true, false, false, false, false, false, false, false, false, false, false, false, false, false, false, false, false, false, false, false, false] rfl rfl rfl rfl (by kernel_rfl) (fun _ _ _ h => h) ⟨_, hC⟩ (fun w' g' Fz => (r_load1 (n := 1) hS50 rfl rfl (by kernel_rfl) (RdS.cell (i := m0_1) (sz := 3) (j := 0) (RdS.fr hp0 Fz (by decide) (fun q (hq : C0 q) (hm : q = N + 2 ∨ N + 8 ≤ q) => by have := hC0 q hq; omega)) hx33 rfl))) fun a51 hS51 => d_pure hS51 6 #[true, true, true, true, true, true, true, false, false, false, false, false, false, false, false, false, false, false, false, false, false, false, false, false, false, false] rfl rfl rfl rfl (by kernel_rfl) (fun _ _ _ h => h) (fun _ => (r_move hS51 rfl rfl)) fun a52 hS52 => d_pure hS52 7 #[true, true, true, true, true, true, true, true, false, false, false, false, false, false, false, false, false, false, false, false, false, false, false, false, false, false] rfl rfl rfl rfl (by kernel_rfl) (fun _ _ _ h => h) (fun _ => (r_bin hS52 rfl rfl rfl b_add)) fun a53 hS53 => d_pure hS53 10 #[true, true, true, true, true, true, true, true, false, false, true, false, false, false, false, false, false, false, false, false, false, false, false, false, false, false] rfl rfl rfl rfl (by kernel_rfl) (fun _ _ _ h => h) (fun _ => (r_move hS53 rfl rfl)) fun a54 hS54 => d_pure hS54 11 #[true, true, true, true, true, true, true, true, false, false, true, true, false, false, false, false, false, false, false, false, false, false, false, false, false, false] rfl rfl rfl rfl (by kernel_rfl) (fun _ _ _ h => h) (fun _ => (r_move hS54 rfl rfl)) fun a55 hS55 => d_pure hS55 12 #[true, true, true, true, true, true, true, true, false, false, true, true, true, false, false, false, false, false, false, false, false, false, false, false, false, false] rfl rfl rfl rfl (by kernel_rfl) (fun _ _ _ h => h) (fun _ => (r_index (e := 64) (sz := 3) (by_ := 24) hS55 rfl rfl rfl (by kernel_rfl) (RdS.some_ hp0 hx33) (idx_lo hx33) (idx_hi hx33))) fun a56 hS56 => d_pure hS56 13 #[true, true, true, true, true, true, true, true, false, false, true, true, true, true, false, false, false, false, false, false, false, false, false, false, false, false] rfl rfl rfl rfl (by kernel_rfl) (fun _ _ _ h => h) (fun _ => (r_fieldE (off := 1) hS56 rfl rfl (by kernel_rfl))) fun a57 hS57 => d_take hS57 14 #[true, true, true, true, true, true, true, true, false, false, true, true, true, true, true, false, false, false, false, false, false, false, false, false, false, false] rfl rfl rfl rfl (by kernel_rfl) (fun _ _ _ h => h) ⟨_, hC⟩ (fun w' g' Fz => (r_load1 (n := 1) hS57 rfl rfl (by kernel_rfl) (RdS.cell (i := m0_1) (sz := 3) (j := 1) (RdS.fr hp0 Fz (by decide) (fun q (hq : C0 q) (hm : q = N + 2 ∨ N + 8 ≤ q) => by have := hC0 q hq; omega)) hx33 rfl))) fun a58 hS58 => d_pure hS58 15 #[true, true, true, true, true, true, true, true, false, false, true, true, true, true, true, true, false, false, false, false, false, false, false, false, false, false] rfl rfl rfl rfl (by kernel_rfl) (fun _ _ _ h => h) (fun _ => (r_bin hS58 rfl rfl rfl (b_rem (by decide)))) fun a59 hS59 => d_pure hS59 16 #[true, true, true, true, true, true, true, true, false, false, true, true, true, true, true, true, true, false, false, false, false, false, false, false, false, false] rfl rfl rfl rfl (by kernel_rfl) (fun _ _ _ h => h) (fun _ => (r_move hS59 rfl rfl)) fun a60 hS60 => d_pure hS60 17 #[true, true, true, true, true, true, true, true, false, false, true, true, true, true, true, true, true, true, false, false, false, false, false, false, false, false] rfl rfl rfl rfl (by kernel_rfl) (fun _ _ _ h => h) (fun _ => (r_move hS60 rfl rfl)) fun a61 hS61 => d_pure hS61 18 #[true, true, true, true, true, true, true, true, false, false, true, true, true, true, true, true, true, true, true, false, false, false, false, false, false, false] rfl rfl rfl rfl (by kernel_rfl) (fun _ _ _ h => h) (fun _ => (r_index (e := 64) (sz := 3) (by_ := 24) hS61 rfl rfl rfl (by kernel_rfl) (RdS.some_ hp0 hx33) (idx_lo hx33) (idx_hi hx33))) fun a62 hS62 => d_pure hS62 19 #[true, true, true, true, true, true, true, true, false, false, true, true, true, true, true, true, true, true, true, true, false, false, false, false, false, false] rfl rfl rfl rfl (by kernel_rfl) (fun _ _ _ h => h) (fun _ => (r_fieldE (off := 2) hS62 rfl rfl (by kernel_rfl))) fun a63 hS63 => d_take hS63 20 #[true, true, true, true, true, true, true, true, false, false, true, true, true, true, true, true, true, true, true, true, true, false, false, false, false, false] rfl rfl rfl rfl (by kernel_rfl) (fun _ _ _ h => h) ⟨_, hC⟩ (fun w' g' Fz => (r_load1 (n := 1) hS63 rfl rfl (by kernel_rfl) (RdS.cell (i := m0_1) (sz := 3) (j := 2) (RdS.fr hp0 Fz (by decide) (fun q (hq : C0 q) (hm : q = N + 2 ∨ N + 8 ≤ q) => by have := hC0 q hq; omega)) hx33 rfl))) fun a64 hS64 => d_pure hS64 21 #[true, true, true, true, true, true, true, true, false, false, true, true, true, true, true, true, true, true, true, true, true, true, false, false, false, false] rfl rfl rfl rfl (by kernel_rfl) (fun _ _ _ h => h) (fun _ => (r_bin hS64 rfl rfl rfl (b_rem (by decide)))) fun a65 hS65 => ?_
          refine d_one 8 #[true, true, true, true, true, true, true, true, true, false, true, true, true, true, true, true, true, true, true, true, true, true, false, false, false, false] rfl (by kernel_rfl) (arm_call hS65 rfl rfl rfl (r_call hS65 rfl rfl (by kernel_rfl)) (help_Mod.calls (p0 := x32.Supply) (p1 := (wi (m0_1 + 1))) (g := g11) (N + 8)   hr35) (fun _ _ ⟨g', _, Fz⟩ _ => ⟨g', hC.trans Fz (fun c' (hm : N + 8 ≤ c') => by show c' = N + 2 ∨ N + 8 ≤ c'; omega)⟩) ?_)
          rintro _ a66 w67 ⟨g67, rfl, F67⟩ hS66
          have hC67 := hC.trans F67 (fun c' (hm : N + 8 ≤ c') => by show c' = N + 2 ∨ N + 8 ≤ c'; omega)
          replace h14 := OwS.fr h14 F67 (fun c' hc (hm : N + 8 ≤ c') => by omega)
          replace hp0 := RdS.fr hp0 F67 (by decide) (fun q (hq : C0 q) (hm : N + 8 ≤ q) => by have := hC0 q hq; omega)
          replace hF := hF.trans F67 (fun c' (hm : N + 8 ≤ c') => by show (r0 ≤ c' ∧ c' < r0 + 2) ∨ N ≤ c'; omega)
          refine d_pure hS66 9 #[true, true, true, true, true, true, true, true, true, true, true, true, true, true, true, true, true, true, true, true, true, true, false, false, false, false] rfl rfl rfl rfl (by kernel_rfl) (fun _ _ _ h => h) (fun _ => (r_bin hS66 rfl rfl rfl b_sub)) fun a68 hS68 => d_pure hS68 22 #[true, true, true, true, true, true, true, true, true, true, true, true, true, true, true, true, true, true, true, true, true, true, true, false, false, false] rfl rfl rfl rfl (by kernel_rfl) (fun _ _ _ h => h) (fun _ => (r_build (parts := [(0, .int .i64 (wi (r34 - 1))), (1, .int .u64 (Int.tmod x32.RampUp 20)), (2, .int .u64 (Int.tmod x32.RampDown 20))]) (u := .agg #[.int .i64 (wi (r34 - 1)), .int .u64 (Int.tmod x32.RampUp 20), .int .u64 (Int.tmod x32.RampDown 20)]) hS68 rfl rfl (fun _ => by kernel_rfl))) fun a69 hS69 => ?_
          refine d_one 23 #[true, true, true, true, true, true, true, true, true, true, true, true, true, true, true, true, true, true, true, true, true, true, true, true, false, false] rfl (by kernel_rfl) (arm_eff hS69 rfl rfl rfl (e_lit (e := 64) (parts := [(0, .agg #[.int .i64 (wi (r34 - 1)), .int .u64 (Int.tmod x32.RampUp 20), .int .u64 (Int.tmod x32.RampDown 20)])]) (cs := [.int .i64 (wi (r34 - 1)), .int .u64 (Int.tmod x32.RampUp 20), .int .u64 (Int.tmod x32.RampDown 20)]) kd_api_Rail [(api_Rail.mk (wi (r34 - 1)) (Int.tmod x32.RampUp 20) (Int.tmod x32.RampDown 20))] (N + 0) g67 hS69 rfl rfl (fun _ => by kernel_rfl) rfl (by decide) (Rows.cons (cs := [.int .i64 (wi (r34 - 1)), .int .u64 (Int.tmod x32.RampUp 20), .int .u64 (Int.tmod x32.RampDown 20)]) rfl Rows.nil)) (fun _ _ g' hR _ => ⟨g', hC67.trans hR.2 (fun _ h => h.elim)⟩) ?_)
          rintro _ a73 w74 g74 ⟨⟨A70, rfl, h71⟩, F74⟩ hS73
          have hC74 := hC67.trans F74 (fun _ h => h.elim)
          replace h14 := OwS.fr h14 F74 (fun _ _ h => h)
          replace hp0 := RdS.fr hp0 F74 (by decide) (fun _ _ h => h)
          replace hF := hF.trans F74 (fun _ h => h.elim)
          refine d_one 24 #[true, true, true, true, true, true, true, true, true, true, true, true, true, true, true, true, true, true, true, true, true, true, true, true, true, false] rfl (by kernel_rfl) (arm_eff hS73 rfl rfl rfl (e_append (e := 64) (sz := 3) (by_ := 24) (z := [.int .i64 0, .int .u64 0, .int .u64 0]) (kd := kd_api_Rail) g74 hS73 rfl rfl rfl rfl (by kernel_rfl) (by kernel_rfl) rfl rfl rfl rfl h14 (OwD.rdx h71) (fun _ _ _ h => h) hy40) (fun _ _ g' hR _ => ⟨g', hC74.trans hR.2 (fun c' (hm : c' = N + 2) => by show c' = N + 2 ∨ N + 8 ≤ c'; omega)⟩) ?_)
          rintro _ a79 w80 g80 ⟨⟨A75, cap76, rfl, h77⟩, F80⟩ hS79
          have hC80 := hC74.trans F80 (fun c' (hm : c' = N + 2) => by show c' = N + 2 ∨ N + 8 ≤ c'; omega)
          replace h71 := OwS.fr h71 F80 (fun c' hc (hm : c' = N + 2) => by omega)
          replace hp0 := RdS.fr hp0 F80 (by decide) (fun q (hq : C0 q) (hm : q = N + 2) => by have := hC0 q hq; omega)
          replace hF := hF.trans F80 (fun c' (hm : c' = N + 2) => by show (r0 ≤ c' ∧ c' < r0 + 2) ∨ N ≤ c'; omega)
          refine d_pure hS79 25 #[true, true, true, true, true, true, true, true, true, true, true, true, true, true, true, true, true, true, true, true, true, true, true, true, true, true] rfl rfl rfl rfl (by kernel_rfl) (fun _ _ _ h => h) (fun _ => (r_assign hS79 rfl rfl)) fun a81 hS81 => d_done (by kernel_rfl) (hK _ _ ?_)
          replace hS : Sl 79 _ [(0, .slice A0 p0.length cap0), (3, .slice A75 y39.length cap76), (4, .int .i64 m0_1)] := hS81.re ⟨rfl, rfl, rfl, trivial⟩
          clear hK K hC
          try clear hS46 hS47 hS48 hS49 hS50 hS51 hS52 hS53 hS54 hS55 hS56 hS57 hS58 hS59 hS60 hS61 hS62 hS63 hS64 hS65 hS66 hS68 hS69 hS73 hS79 hS81
          obtain ⟨a, ha⟩ : ∃ a', a' = a81 := ⟨_, rfl⟩
          rw [← ha] at hS ⊢; clear ha
          change Code.wp _ _ _ _ _
          refine c_pure1 [(0, .slice A0 p0.length cap0), (3, .slice A75 y39.length cap76), (4, .int .i64 (wi (m0_1 + 1)))] (fun R hR => st_val hS rfl rfl rfl (r_move hS rfl rfl) fun a82 hS82 => st_val hS82 rfl rfl rfl (r_bin hS82 rfl rfl rfl b_add) fun a83 hS83 => st_val hS83 rfl rfl rfl (r_assign hS83 rfl rfl) fun a84 hS84 => wpList_nil (hR _ (hS84.re ⟨rfl, rfl, rfl, trivial⟩))) ?_
          clear hS
          clear a
          intro a hS
          refine ⟨k15, Nat.lt_succ_self _, ?_⟩
          exact ⟨y39, wi (m0_1 + 1), g80, A75, cap76, H, hS.re ⟨rfl, rfl, rfl, trivial⟩, h77, hp0, hF⟩
        · replace H := ite_f hb31 H
          refine wp_exit ?_
          have e := Option.some.inj H
          subst e
          exact ⟨g11, A12, cap13, hS.re ⟨rfl, trivial⟩, h14, hF⟩
  · clear H
    clear hp0 hF
    clear hS
    rintro a w3 ⟨g3, A4, cap5, hS, h6, hF⟩
    have H := Hl9
    clear Hl9
    obtain ⟨o86, H, Hl87⟩ := bind_el H
    refine c_cut (fun a w' => o86 = .nxt () ∧ w3 = w' ∧ Sl 79 a [(3, .slice A4 v7.length cap5)]) ?_ ?_
    · refine c_pure [(3, .slice A4 v7.length cap5), (47, .bool ((Int.tmod (v7.length : Int) 2) == 1))] (fun R hR => st_val hS rfl rfl rfl (r_move hS rfl rfl) fun a88 hS88 => st_val hS88 rfl rfl rfl (r_len (e := 64) (sz := 3) (by_ := 24) hS88 rfl rfl (by kernel_rfl)) fun a89 hS89 => st_val hS89 rfl rfl rfl (r_bin hS89 rfl rfl rfl (b_rem (by decide))) fun a90 hS90 => st_val hS90 rfl rfl rfl (r_bin hS90 rfl rfl rfl b_eql) fun a91 hS91 => wpList_nil (hR _ (hS91.re ⟨rfl, rfl, trivial⟩))) ?_
      clear hS
      clear a
      intro a hS
      refine c_cond hS rfl (fun hb92 => ?_) (fun hb92 => ?_)
      · replace H := ite_t hb92 H
        refine c_pure [(3, .slice A4 v7.length cap5), (5, .int .i64 (v7.length : Int))] (fun R hR => st_val hS rfl rfl rfl (r_move hS rfl rfl) fun a93 hS93 => st_val hS93 rfl rfl rfl (r_len (e := 64) (sz := 3) (by_ := 24) hS93 rfl rfl (by kernel_rfl)) fun a94 hS94 => st_val hS94 rfl rfl rfl (r_assign hS94 rfl rfl) fun a95 hS95 => wpList_nil (hR _ (hS95.re ⟨rfl, rfl, trivial⟩))) ?_
        clear hS
        clear a
        intro a hS
        obtain ⟨y97, hy98, H⟩ := bind_el H
        refine c_region (fun K hK => ?_)
        refine st_val hS rfl rfl rfl (r_move hS rfl rfl) fun a96 hS96 => ?_
        refine st_eff hS96 rfl rfl rfl (e_make (e := 64) (sz := 3) (by_ := 24) (z := [.int .i64 0, .int .u64 0, .int .u64 0]) (kd := kd_api_Rail) (N + 4) g3 hS96 rfl rfl (by kernel_rfl) (by kernel_rfl) rfl rfl rfl (fun _ _ _ => by exact rfl) hy98) ?_
        rintro _ a103 w104 g104 ⟨⟨A99, cap100, rfl, h101⟩, F104⟩ hS103
        replace h6 := OwS.fr h6 F104 (fun _ _ h => h)
        replace hF := hF.trans F104 (fun _ h => h.elim)
        refine st_val hS103 rfl rfl rfl (r_assign hS103 rfl rfl) fun a105 hS105 => wpList_nil (hK _ _ ?_)
        replace hS : Sl 79 _ [(3, .slice A4 v7.length cap5), (5, .int .i64 (v7.length : Int)), (6, .slice A99 y97.length cap100)] := hS105.re ⟨rfl, rfl, rfl, trivial⟩
        clear hK K
        try clear hS96 hS103 hS105
        obtain ⟨a, ha⟩ : ∃ a', a' = a105 := ⟨_, rfl⟩
        rw [← ha] at hS ⊢; clear ha
        obtain ⟨v107, H, Hl109⟩ := bind_el H
        refine c_cut (fun a w106 => ∃ (g106 : Nat → Nat), Sl 79 a [(6, .slice A99 v107.length cap100)] ∧ OwS kd_api_Rail 64 w106 g106 (N + 4) A99 cap100 v107 ∧ Fr (fun q => (r0 ≤ q ∧ q < r0 + 2) ∨ N ≤ q) w g w106 g106) ?_ ?_
        · refine c_pure [(3, .slice A4 v7.length cap5), (5, .int .i64 (v7.length : Int)), (6, .slice A99 y97.length cap100), (7, .int .i64 0)] (fun R hR => st_val hS rfl rfl rfl (r_assign hS rfl rfl) fun a110 hS110 => wpList_nil (hR _ (hS110.re ⟨rfl, rfl, rfl, rfl, trivial⟩))) ?_
          clear hS
          clear a
          intro a hS
          refine wp_block ?_
          refine wp_loop_ghost (fun kq => fun a w111 => ∃ (m1_0 : List api_Rail), ∃ (m1_1 : Int), ∃ (g111 : Nat → Nat), law25_Some.l1 v7 kq m1_0 m1_1 = some v107 ∧ Sl 79 a [(3, .slice A4 v7.length cap5), (5, .int .i64 (v7.length : Int)), (6, .slice A99 m1_0.length cap100), (7, .int .i64 m1_1)] ∧ OwS kd_api_Rail 64 w111 g111 (N + 4) A99 cap100 m1_0 ∧ OwS kd_api_Rail 64 w111 g111 (N + 2) A4 cap5 v7 ∧ Fr (fun q => (r0 ≤ q ∧ q < r0 + 2) ∨ N ≤ q) w g w111 g111) FUEL ?_ ?_
          · exact ⟨y97, 0, g104, H, hS.re ⟨rfl, rfl, rfl, rfl, trivial⟩, h101, h6, hF⟩
          · clear H
            clear h6 h101 hF
            clear hS
            rintro k112 a w111 ⟨m1_0, m1_1, g111, hpre0, hS, h101, h6, hF⟩
            have H := hpre0
            clear hpre0
            cases k112 with
            | zero => exact absurd H (by simp [law25_Some.l1])
            | succ k112 =>
              rw [law25_Some.l1] at H
              refine wp_seq ?_
              refine c_pure [(3, .slice A4 v7.length cap5), (5, .int .i64 (v7.length : Int)), (6, .slice A99 m1_0.length cap100), (7, .int .i64 m1_1), (54, .bool (decide (m1_1 < (v7.length : Int))))] (fun R hR => st_val hS rfl rfl rfl (r_move hS rfl rfl) fun a113 hS113 => st_val hS113 rfl rfl rfl (r_move hS113 rfl rfl) fun a114 hS114 => st_val hS114 rfl rfl rfl (r_bin hS114 rfl rfl rfl b_lss) fun a115 hS115 => wpList_nil (hR _ (hS115.re ⟨rfl, rfl, rfl, rfl, rfl, trivial⟩))) ?_
              clear hS
              clear a
              intro a hS
              refine c_cond hS rfl (fun hb116 => ?_) (fun hb116 => ?_)
              · replace H := ite_t hb116 H
                refine wp_skip ?_
                change Code.wp _ _ _ _ _
                refine wp_seq ?_
                refine wp_block ?_
                obtain ⟨x119, hx120, H⟩ := bind_el H
                refine c_region (fun K hK => ?_)
                refine st_val hS rfl rfl rfl (r_move hS rfl rfl) fun a117 hS117 => st_val hS117 rfl rfl rfl (r_move hS117 rfl rfl) fun a118 hS118 => st_val hS118 rfl rfl rfl (r_index (e := 64) (sz := 3) (by_ := 24) hS118 rfl rfl rfl (by kernel_rfl) (RdS.some_ (OwS.rd h6) hx120) (idx_lo hx120) (idx_hi hx120)) fun a121 hS121 => st_val hS121 rfl rfl rfl (r_loadN (n := 3) (cs := [.int .i64 x119.Supply, .int .u64 x119.RampUp, .int .u64 x119.RampDown]) hS121 rfl rfl (by kernel_rfl) rfl (RdS.cells_off (OwS.rd h6) hx120 0 3)) fun a122 hS122 => ?_
                refine st_eff hS122 rfl rfl rfl (e_alloc (cs := [.int .i64 0, .int .u64 0, .int .u64 0]) (N + 6) g111 hS122 rfl (by kernel_rfl)) ?_
                rintro _ a126 w127 g127 ⟨⟨b123, rfl, h124⟩, F127⟩ hS126
                replace h101 := OwS.fr h101 F127 (fun _ _ h => h)
                replace h6 := OwS.fr h6 F127 (fun _ _ h => h)
                replace hF := hF.trans F127 (fun _ h => h.elim)
                refine st_effS hS126 rfl rfl (e_storeB (n := 3) (bb := true) (cs' := [.int .i64 x119.Supply, .int .u64 x119.RampUp, .int .u64 x119.RampDown]) g127 hS126 rfl rfl rfl (by kernel_rfl) rfl rfl rfl h124 rfl rfl) ?_
                rintro a128 w129 g129 ⟨h124, F129⟩ hS128
                replace h101 := OwS.fr h101 F129 (fun c' hc (hm : c' = N + 6) => by omega)
                replace h6 := OwS.fr h6 F129 (fun c' hc (hm : c' = N + 6) => by omega)
                replace hF := hF.trans F129 (fun c' (hm : c' = N + 6) => by show (r0 ≤ c' ∧ c' < r0 + 2) ∨ N ≤ c'; omega)
                refine wpList_nil (hK _ _ ?_)
                replace hS : Sl 79 _ [(3, .slice A4 v7.length cap5), (5, .int .i64 (v7.length : Int)), (6, .slice A99 m1_0.length cap100), (7, .int .i64 m1_1), (8, .pointer (some ⟨b123, 0, none⟩))] := hS128.re ⟨rfl, rfl, rfl, rfl, rfl, trivial⟩
                clear hK K
                try clear hS117 hS118 hS121 hS122 hS126 hS128
                obtain ⟨a, ha⟩ : ∃ a', a' = a128 := ⟨_, rfl⟩
                rw [← ha] at hS ⊢; clear ha
                obtain ⟨v131, H, Hl133⟩ := bind_el H
                refine c_cut (fun a w130 => ∃ (g130 : Nat → Nat), Sl 79 a [(3, .slice A4 v7.length cap5), (5, .int .i64 (v7.length : Int)), (6, .slice A99 m1_0.length cap100), (7, .int .i64 m1_1), (8, .pointer (some ⟨b123, 0, none⟩))] ∧ OwS kd_api_Rail 64 w130 g130 (N + 4) A99 cap100 m1_0 ∧ Bx w130 g130 (N + 6) b123 64 [.int .i64 v131.Supply, .int .u64 v131.RampUp, .int .u64 v131.RampDown] ∧ OwS kd_api_Rail 64 w130 g130 (N + 2) A4 cap5 v7 ∧ Fr (fun q => (r0 ≤ q ∧ q < r0 + 2) ∨ N ≤ q) w g w130 g130) ?_ ?_
                · refine c_pure [(3, .slice A4 v7.length cap5), (5, .int .i64 (v7.length : Int)), (6, .slice A99 m1_0.length cap100), (7, .int .i64 m1_1), (8, .pointer (some ⟨b123, 0, none⟩)), (63, .bool (decide (0 ≤ x119.Supply)))] (fun R hR => st_val hS rfl rfl rfl (r_fieldB (off := 0) hS rfl rfl (by kernel_rfl)) fun a134 hS134 => st_val hS134 rfl rfl rfl (r_load1 (n := 1) hS134 rfl rfl (by kernel_rfl) (Bx.cell h124 rfl)) fun a135 hS135 => st_val hS135 rfl rfl rfl (r_bin hS135 rfl rfl rfl b_geq) fun a136 hS136 => wpList_nil (hR _ (hS136.re ⟨rfl, rfl, rfl, rfl, rfl, rfl, trivial⟩))) ?_
                  clear hS
                  clear a
                  intro a hS
                  refine c_cond hS rfl (fun hb137 => ?_) (fun hb137 => ?_)
                  · replace H := ite_t hb137 H
                    refine c_region1 (fun K hK => ?_)
                    refine st_val hS rfl rfl rfl (r_move hS rfl rfl) fun a138 hS138 => st_val hS138 rfl rfl rfl (r_bin hS138 rfl rfl rfl b_sub) fun a139 hS139 => st_val hS139 rfl rfl rfl (r_fieldB (off := 0) hS139 rfl rfl (by kernel_rfl)) fun a140 hS140 => st_val hS140 rfl rfl rfl (r_load1 (n := 1) hS140 rfl rfl (by kernel_rfl) (Bx.cell h124 rfl)) fun a141 hS141 => st_val hS141 rfl rfl rfl (r_bin hS141 rfl rfl rfl b_sub) fun a142 hS142 => st_val hS142 rfl rfl rfl (r_fieldB (off := 0) hS142 rfl rfl (by kernel_rfl)) fun a143 hS143 => ?_
                    refine st_effS hS143 rfl rfl (e_storeB (n := 1) (bb := false) (cs' := [.int .i64 (wi ((wi ((v7.length : Int) - 1)) - x119.Supply)), .int .u64 x119.RampUp, .int .u64 x119.RampDown]) g129 hS143 rfl rfl rfl (by kernel_rfl) rfl rfl rfl h124 rfl rfl) ?_
                    rintro a144 w145 g145 ⟨h124, F145⟩ hS144
                    replace h101 := OwS.fr h101 F145 (fun c' hc (hm : c' = N + 6) => by omega)
                    replace h6 := OwS.fr h6 F145 (fun c' hc (hm : c' = N + 6) => by omega)
                    replace hF := hF.trans F145 (fun c' (hm : c' = N + 6) => by show (r0 ≤ c' ∧ c' < r0 + 2) ∨ N ≤ c'; omega)
                    refine wpList_nil (hK _ _ ?_)
                    replace hS : Sl 79 _ [(3, .slice A4 v7.length cap5), (5, .int .i64 (v7.length : Int)), (6, .slice A99 m1_0.length cap100), (7, .int .i64 m1_1), (8, .pointer (some ⟨b123, 0, none⟩))] := hS144.re ⟨rfl, rfl, rfl, rfl, rfl, trivial⟩
                    clear hK K
                    try clear hS138 hS139 hS140 hS141 hS142 hS143 hS144
                    obtain ⟨a, ha⟩ : ∃ a', a' = a144 := ⟨_, rfl⟩
                    rw [← ha] at hS ⊢; clear ha
                    have e := Option.some.inj H
                    subst e
                    exact ⟨g145, hS.re ⟨rfl, rfl, rfl, rfl, rfl, trivial⟩, h101, h124, h6, hF⟩
                  · replace H := ite_f hb137 H
                    refine wp_skip ?_
                    have e := Option.some.inj H
                    subst e
                    exact ⟨g129, hS.re ⟨rfl, rfl, rfl, rfl, rfl, trivial⟩, h101, h124, h6, hF⟩
                · clear H
                  clear h6 h101 h124 hF
                  clear hS
                  rintro a w130 ⟨g130, hS, h101, h124, h6, hF⟩
                  have H := Hl133
                  clear Hl133
                  obtain ⟨x152, hx153, H⟩ := bind_el H
                  refine c_region1 (fun K hK => ?_)
                  refine st_val hS rfl rfl rfl (r_move hS rfl rfl) fun a146 hS146 => st_val hS146 rfl rfl rfl (r_move hS146 rfl rfl) fun a147 hS147 => st_val hS147 rfl rfl rfl (r_bin hS147 rfl rfl rfl b_sub) fun a148 hS148 => st_val hS148 rfl rfl rfl (r_move hS148 rfl rfl) fun a149 hS149 => st_val hS149 rfl rfl rfl (r_bin hS149 rfl rfl rfl b_sub) fun a150 hS150 => st_val hS150 rfl rfl rfl (r_loadN (n := 3) (cs := [.int .i64 v131.Supply, .int .u64 v131.RampUp, .int .u64 v131.RampDown]) hS150 rfl rfl (by kernel_rfl) rfl (Bx.cells_off h124 0 3)) fun a151 hS151 => st_val hS151 rfl rfl rfl (r_index (e := 64) (sz := 3) (by_ := 24) hS151 rfl rfl rfl (by kernel_rfl) (RdS.some_ (OwS.rd h101) hx153) (idx_lo hx153) (idx_hi hx153)) fun a154 hS154 => ?_
                  refine st_effS hS154 rfl rfl (e_storeE (n := 3) (bb := true) (kd := kd_api_Rail) (j := 0) (x' := v131) (us := [.int .i64 v131.Supply, .int .u64 v131.RampUp, .int .u64 v131.RampDown]) g130 hS154 rfl rfl rfl rfl (by kernel_rfl) rfl rfl (by intro v hv; simp only [List.mem_cons, List.not_mem_nil, or_false] at hv; rcases hv with rfl | rfl | rfl <;> rfl) h101 hx153 rfl (fun _ _ cs hR => by rw [show cs = _ from hR]; rfl)) ?_
                  rintro a155 w156 g156 ⟨h101, F156⟩ hS155
                  replace h124 := h124.fr F156 (fun (hm : N + 6 = N + 4) => by omega)
                  replace h6 := OwS.fr h6 F156 (fun c' hc (hm : c' = N + 4) => by omega)
                  replace hF := hF.trans F156 (fun c' (hm : c' = N + 4) => by show (r0 ≤ c' ∧ c' < r0 + 2) ∨ N ≤ c'; omega)
                  have hT : Sl 79 a155 [(3, .slice A4 v7.length cap5), (5, .int .i64 (v7.length : Int)), (6, .slice A99 m1_0.length cap100), (7, .int .i64 m1_1)] := hS155.re ⟨rfl, rfl, rfl, rfl, trivial⟩
                  replace hS155 : Sl 79 a155 [(3, .slice A4 v7.length cap5), (5, .int .i64 (v7.length : Int)), (6, .slice A99 (upd m1_0 (wi ((wi ((v7.length : Int) - 1)) - m1_1)) v131).length cap100), (7, .int .i64 m1_1)] := by simpa only [upd_length] using hT
                  clear hT
                  refine wpList_nil (hK _ _ ?_)
                  replace hS : Sl 79 _ [(3, .slice A4 v7.length cap5), (5, .int .i64 (v7.length : Int)), (6, .slice A99 (upd m1_0 (wi ((wi ((v7.length : Int) - 1)) - m1_1)) v131).length cap100), (7, .int .i64 m1_1)] := hS155.re ⟨rfl, rfl, rfl, rfl, trivial⟩
                  clear hK K
                  try clear hS146 hS147 hS148 hS149 hS150 hS151 hS154 hS155
                  obtain ⟨a, ha⟩ : ∃ a', a' = a155 := ⟨_, rfl⟩
                  rw [← ha] at hS ⊢; clear ha
                  change Code.wp _ _ _ _ _
                  refine c_pure1 [(3, .slice A4 v7.length cap5), (5, .int .i64 (v7.length : Int)), (6, .slice A99 (upd m1_0 (wi ((wi ((v7.length : Int) - 1)) - m1_1)) v131).length cap100), (7, .int .i64 (wi (m1_1 + 1)))] (fun R hR => st_val hS rfl rfl rfl (r_move hS rfl rfl) fun a157 hS157 => st_val hS157 rfl rfl rfl (r_bin hS157 rfl rfl rfl b_add) fun a158 hS158 => st_val hS158 rfl rfl rfl (r_assign hS158 rfl rfl) fun a159 hS159 => wpList_nil (hR _ (hS159.re ⟨rfl, rfl, rfl, rfl, trivial⟩))) ?_
                  clear hS
                  clear a
                  intro a hS
                  refine ⟨k112, Nat.lt_succ_self _, ?_⟩
                  exact ⟨(upd m1_0 (wi ((wi ((v7.length : Int) - 1)) - m1_1)) v131), wi (m1_1 + 1), g156, H, hS.re ⟨rfl, rfl, rfl, rfl, trivial⟩, h101, h6, hF⟩
              · replace H := ite_f hb116 H
                refine wp_exit ?_
                have e := Option.some.inj H
                subst e
                exact ⟨g111, hS.re ⟨rfl, trivial⟩, h101, hF⟩
        · clear H
          clear h6 h101 hF
          clear hS
          rintro a w106 ⟨g106, hS, h101, hF⟩
          have H := Hl109
          clear Hl109
          refine c_pure [(2, .slice A99 v107.length cap100)] (fun R hR => st_val hS rfl rfl rfl (r_move hS rfl rfl) fun a160 hS160 => st_val hS160 rfl rfl rfl (r_assign hS160 rfl rfl) fun a161 hS161 => wpList_nil (hR _ (hS161.re ⟨rfl, trivial⟩))) ?_
          clear hS
          clear a
          intro a hS
          refine wp_ret ?_
          have e := Option.some.inj H
          subst e
          replace H := Fl.go_out Hl87
          have e := Option.some.inj H
          subst e
          have F162 := Fr.recol2 w106 g106 (N + 4) r0
          replace h101 := h101.recol2 r0
          replace hF := hF.trans F162 (fun c' (hm : c' = N + 4 ∨ c' = N + 4 + 1) => by show (r0 ≤ c' ∧ c' < r0 + 2) ∨ N ≤ c'; omega)
          repeat (with_reducible first | refine then_ret ?_ | refine inBlock_ret ?_)
          exact c_ret1 hS Try.results25 rfl ⟨_, rfl, (recol2 g106 (N + 4) r0), A99, cap100, rfl, h101, hF⟩
      · replace H := ite_f hb92 H
        refine wp_skip ?_
        have e := Option.some.inj H
        exact ⟨e.symm, rfl, hS.re ⟨rfl, trivial⟩⟩
    · clear H
      clear hS
      rintro a w' ⟨hpre0, hw, hS⟩
      subst hpre0
      subst hw
      have H := Fl.go_nxt Hl87
      clear Hl87
      refine c_pure [(2, .slice A4 v7.length cap5)] (fun R hR => st_val hS rfl rfl rfl (r_move hS rfl rfl) fun a163 hS163 => st_val hS163 rfl rfl rfl (r_assign hS163 rfl rfl) fun a164 hS164 => wpList_nil (hR _ (hS164.re ⟨rfl, trivial⟩))) ?_
      clear hS
      clear a
      intro a hS
      refine wp_ret ?_
      have e := Option.some.inj H
      subst e
      have F165 := Fr.recol2 w3 g3 (N + 2) r0
      replace h6 := h6.recol2 r0
      replace hF := hF.trans F165 (fun c' (hm : c' = N + 2 ∨ c' = N + 2 + 1) => by show (r0 ≤ c' ∧ c' < r0 + 2) ∨ N ≤ c'; omega)
      repeat (with_reducible first | refine then_ret ?_ | refine inBlock_ret ?_)
      exact c_ret1 hS Try.results25 rfl ⟨_, rfl, (recol2 g3 (N + 2) r0), A4, cap5, rfl, h6, hF⟩


end Go.Proofs.Ytfhhklkmbcnhnaa.Sim

namespace Go.Proofs.Ytfhhklkmbcnhnaa.Sim
open Go
set_option linter.unusedVariables false
set_option linter.unusedSimpArgs false

/-! ### device_Target: function 19 -/
def device_Target.f (p0 : api_PowerDevice) (p1 : Int) (p2 : Bool) : Option (Int × Int) := if ((decide (p1 < 0)) || (decide (5 < p1))) = true then (some (0, 1)) else (if (!p2) = true then ((idx (Ar6.l p0.Deepest) p1).bind fun x31 => some (x31, 0)) else (if decide (p0.WakeSystem < p1) = true then (some (0, 13)) else ((idx (Ar6.l p0.Deepest) p1).bind fun x50 => some ((min x50 p0.WakeDevice), 0))))
set_option maxRecDepth 100000 in
set_option maxHeartbeats 4000000 in
theorem device_Target.calls {p0 : api_PowerDevice} {C0 : Nat → Prop} {A0_0 : Option Addr} {cap0_0 : Nat} {A0_1 : Option Addr} {cap0_1 : Nat} {A0_2 : Option Addr} {cap0_2 : Nat} {A0_3 : Option Addr} {cap0_3 : Nat} {p1 : Int} {p2 : Bool} {w : World} {g : Nat → Nat} {out : Int × Int} (N : Nat) (hp0_0 : RdS (kint .i64) w g C0 A0_0 cap0_0 p0.Rails.a0) (hp0_1 : RdS (kint .i64) w g C0 A0_1 cap0_1 p0.Rails.a1) (hp0_2 : RdS (kint .i64) w g C0 A0_2 cap0_2 p0.Rails.a2) (hp0_3 : RdS (kint .i64) w g C0 A0_3 cap0_3 p0.Rails.a3) (hC0 : ∀ c, C0 c → c < N) (H : device_Target.f p0 p1 p2 = some out) :
    Calls Try.prog 19 #[.agg #[.int .i64 p0.Parent, .slice A0_0 p0.Rails.a0.length cap0_0, .slice A0_1 p0.Rails.a1.length cap0_1, .slice A0_2 p0.Rails.a2.length cap0_2, .slice A0_3 p0.Rails.a3.length cap0_3, .int .i64 p0.Deepest.a0, .int .i64 p0.Deepest.a1, .int .i64 p0.Deepest.a2, .int .i64 p0.Deepest.a3, .int .i64 p0.Deepest.a4, .int .i64 p0.Deepest.a5, .int .i64 p0.WakeDevice, .int .i64 p0.WakeSystem], .int .i64 p1, .bool p2] w (fun e w' => ∃ v, e = .returned v ∧ ∃ (g' : Nat → Nat), v = .tuple #[.int .i64 out.1, .int .i64 out.2] ∧ Fr (fun q => N ≤ q) w g w' g') := by
  unfold device_Target.f at H
  refine calls_enter Try.func19 rfl Try.ntmps19 rfl (fun a hS => ?_)
  replace hS : Sl 34 a [(0, .agg #[.int .i64 p0.Parent, .slice A0_0 p0.Rails.a0.length cap0_0, .slice A0_1 p0.Rails.a1.length cap0_1, .slice A0_2 p0.Rails.a2.length cap0_2, .slice A0_3 p0.Rails.a3.length cap0_3, .int .i64 p0.Deepest.a0, .int .i64 p0.Deepest.a1, .int .i64 p0.Deepest.a2, .int .i64 p0.Deepest.a3, .int .i64 p0.Deepest.a4, .int .i64 p0.Deepest.a5, .int .i64 p0.WakeDevice, .int .i64 p0.WakeSystem]), (1, .int .i64 p1), (2, .bool p2)] := hS
  have hF : Fr (fun q => N ≤ q) w g w g := Fr.refl _ _ _
  refine c_region (fun K hK => ?_)
  refine st_eff hS rfl rfl rfl (e_box (cs := [.int .i64 p0.Parent, .slice A0_0 p0.Rails.a0.length cap0_0, .slice A0_1 p0.Rails.a1.length cap0_1, .slice A0_2 p0.Rails.a2.length cap0_2, .slice A0_3 p0.Rails.a3.length cap0_3, .int .i64 p0.Deepest.a0, .int .i64 p0.Deepest.a1, .int .i64 p0.Deepest.a2, .int .i64 p0.Deepest.a3, .int .i64 p0.Deepest.a4, .int .i64 p0.Deepest.a5, .int .i64 p0.WakeDevice, .int .i64 p0.WakeSystem]) (N + 0) g hS rfl rfl rfl) ?_
  rintro _ a4 w5 g5 ⟨⟨b1, rfl, h2⟩, F5⟩ hS4
  replace hp0_0 := RdS.fr hp0_0 F5 (by decide) (fun _ _ h => h)
  replace hp0_1 := RdS.fr hp0_1 F5 (by decide) (fun _ _ h => h)
  replace hp0_2 := RdS.fr hp0_2 F5 (by decide) (fun _ _ h => h)
  replace hp0_3 := RdS.fr hp0_3 F5 (by decide) (fun _ _ h => h)
  replace hF := hF.trans F5 (fun _ h => h.elim)
  refine st_val hS4 rfl rfl rfl (r_assign hS4 rfl rfl) fun a6 hS6 => st_val hS6 rfl rfl rfl (r_assign hS6 rfl rfl) fun a7 hS7 => wpList_nil (hK _ _ ?_)
  replace hS : Sl 34 _ [(1, .int .i64 p1), (2, .bool p2), (3, .pointer (some ⟨b1, 0, none⟩))] := hS7.re ⟨rfl, rfl, rfl, trivial⟩
  clear hK K
  try clear hS4 hS6 hS7
  obtain ⟨a, ha⟩ : ∃ a', a' = a7 := ⟨_, rfl⟩
  rw [← ha] at hS ⊢; clear ha
  refine wp_seq ?_
  refine wp_block ?_
  refine c_region (fun K hK => ?_)
  refine st_val hS rfl rfl rfl (r_move hS rfl rfl) fun a8 hS8 => st_val hS8 rfl rfl rfl (r_bin hS8 rfl rfl rfl b_lss) fun a9 hS9 => st_val hS9 rfl rfl rfl (r_move hS9 rfl rfl) fun a10 hS10 => ?_
  refine g_join (N := 34) 3 [(1, .int .i64 p1), (2, .bool p2), (3, .pointer (some ⟨b1, 0, none⟩)), (14, .bool ((decide (p1 < 0)) || (decide (5 < p1))))] ?_ (fun hk => ?_)
  rotate_left
  · rcases Bool.eq_false_or_eq_true (decide (p1 < 0)) with hb11 | hb11
    · refine st_off hS10 (want_off hS10 rfl rfl rfl hb11) rfl rfl fun a14 hS14 => st_off hS14 (want_off hS14 rfl rfl rfl hb11) rfl rfl fun a15 hS15 => st_val hS15 rfl rfl rfl (r_pickT hS15 rfl rfl rfl hb11) fun a16 hS16 => hk _ (hS16.re ⟨rfl, rfl, rfl, (by rw [hb11]; rfl), trivial⟩)
    · refine st_valW hS10 (want_on hS10 rfl rfl rfl hb11) rfl rfl (r_move hS10 rfl rfl) fun a17 hS17 => st_valW hS17 (want_on hS17 rfl rfl rfl hb11) rfl rfl (r_bin hS17 rfl rfl rfl b_gtr) fun a18 hS18 => st_val hS18 rfl rfl rfl (r_pickF hS18 rfl rfl rfl hb11) fun a19 hS19 => hk _ (hS19.re ⟨rfl, rfl, rfl, (by rw [hb11]; rfl), trivial⟩)
  intro a20 hS20
  refine st_val hS20 rfl rfl rfl (r_assign hS20 rfl rfl) fun a21 hS21 => wpList_nil (hK _ _ ?_)
  replace hS : Sl 34 _ [(1, .int .i64 p1), (2, .bool p2), (3, .pointer (some ⟨b1, 0, none⟩)), (8, .bool ((decide (p1 < 0)) || (decide (5 < p1))))] := hS21.re ⟨rfl, rfl, rfl, rfl, trivial⟩
  clear hK K
  try clear hS8 hS9 hS10 hS20 hS21
  obtain ⟨a, ha⟩ : ∃ a', a' = a21 := ⟨_, rfl⟩
  rw [← ha] at hS ⊢; clear ha
  refine c_cond hS rfl (fun hb22 => ?_) (fun hb22 => ?_)
  · replace H := ite_t hb22 H
    refine c_pure [(6, .int .i64 0), (7, .int .i64 1)] (fun R hR => st_val hS rfl rfl rfl (r_assign hS rfl rfl) fun a23 hS23 => st_val hS23 rfl rfl rfl (r_assign hS23 rfl rfl) fun a24 hS24 => wpList_nil (hR _ (hS24.re ⟨rfl, rfl, trivial⟩))) ?_
    clear hS
    clear a
    intro a hS
    refine wp_ret ?_
    have e := Option.some.inj H
    subst e
    repeat (with_reducible first | refine then_ret ?_ | refine inBlock_ret ?_)
    exact c_ret2 hS Try.results19 rfl rfl ⟨_, rfl, g5, rfl, hF⟩
  · replace H := ite_f hb22 H
    refine c_pure [(1, .int .i64 p1), (3, .pointer (some ⟨b1, 0, none⟩)), (15, .bool (!p2))] (fun R hR => st_val hS rfl rfl rfl (r_move hS rfl rfl) fun a25 hS25 => st_val hS25 rfl rfl rfl (r_not hS25 rfl rfl) fun a26 hS26 => st_val hS26 rfl rfl rfl (r_assign hS26 rfl rfl) fun a27 hS27 => wpList_nil (hR _ (hS27.re ⟨rfl, rfl, rfl, trivial⟩))) ?_
    clear hS
    clear a
    intro a hS
    refine c_cond hS rfl (fun hb28 => ?_) (fun hb28 => ?_)
    · replace H := ite_t hb28 H
      obtain ⟨x31, hx32, H⟩ := bind_el H
      refine c_region (fun K hK => ?_)
      refine st_val hS rfl rfl rfl (r_move hS rfl rfl) fun a29 hS29 => st_val hS29 rfl rfl rfl (r_fieldB (off := 5) hS29 rfl rfl (by kernel_rfl)) fun a30 hS30 => ?_
      have he33 : (([.int .i64 p0.Parent, .slice A0_0 p0.Rails.a0.length cap0_0, .slice A0_1 p0.Rails.a1.length cap0_1, .slice A0_2 p0.Rails.a2.length cap0_2, .slice A0_3 p0.Rails.a3.length cap0_3, .int .i64 p0.Deepest.a0, .int .i64 p0.Deepest.a1, .int .i64 p0.Deepest.a2, .int .i64 p0.Deepest.a3, .int .i64 p0.Deepest.a4, .int .i64 p0.Deepest.a5, .int .i64 p0.WakeDevice, .int .i64 p0.WakeSystem] : List Value).drop (5 + p1.toNat * 1)).take 1 = [.int .i64 x31] := by rcases Ar6.cases hx32 with ⟨e, e2⟩ | ⟨e, e2⟩ | ⟨e, e2⟩ | ⟨e, e2⟩ | ⟨e, e2⟩ | ⟨e, e2⟩ <;> (rw [e, e2] <;> rfl)
      refine st_val hS30 rfl rfl rfl (r_ixB (n := 6) (e := 3) (sz := 1) (bb := false) hS30 rfl rfl rfl (by kernel_rfl) (idx_lo hx32) (Ar6.lt hx32)) fun a35 hS35 => st_val hS35 rfl rfl rfl (r_load1 (n := 1) hS35 rfl rfl (by kernel_rfl) (Bx.at_ (j := 0) h2 he33 rfl)) fun a36 hS36 => st_val hS36 rfl rfl rfl (r_assign hS36 rfl rfl) fun a37 hS37 => st_val hS37 rfl rfl rfl (r_assign hS37 rfl rfl) fun a38 hS38 => wpList_nil (hK _ _ ?_)
      replace hS : Sl 34 _ [(6, .int .i64 x31), (7, .int .i64 0)] := hS38.re ⟨rfl, rfl, trivial⟩
      clear hK K
      try clear hS29 hS30 hS35 hS36 hS37 hS38
      obtain ⟨a, ha⟩ : ∃ a', a' = a38 := ⟨_, rfl⟩
      rw [← ha] at hS ⊢; clear ha
      refine wp_ret ?_
      have e := Option.some.inj H
      subst e
      repeat (with_reducible first | refine then_ret ?_ | refine inBlock_ret ?_)
      exact c_ret2 hS Try.results19 rfl rfl ⟨_, rfl, g5, rfl, hF⟩
    · replace H := ite_f hb28 H
      refine c_pure [(1, .int .i64 p1), (3, .pointer (some ⟨b1, 0, none⟩)), (22, .bool (decide (p0.WakeSystem < p1)))] (fun R hR => st_val hS rfl rfl rfl (r_fieldB (off := 12) hS rfl rfl (by kernel_rfl)) fun a39 hS39 => st_val hS39 rfl rfl rfl (r_load1 (n := 1) hS39 rfl rfl (by kernel_rfl) (Bx.cell h2 rfl)) fun a40 hS40 => st_val hS40 rfl rfl rfl (r_move hS40 rfl rfl) fun a41 hS41 => st_val hS41 rfl rfl rfl (r_bin hS41 rfl rfl rfl b_lss) fun a42 hS42 => st_val hS42 rfl rfl rfl (r_assign hS42 rfl rfl) fun a43 hS43 => wpList_nil (hR _ (hS43.re ⟨rfl, rfl, rfl, trivial⟩))) ?_
      clear hS
      clear a
      intro a hS
      refine c_cond hS rfl (fun hb44 => ?_) (fun hb44 => ?_)
      · replace H := ite_t hb44 H
        refine c_pure [(6, .int .i64 0), (7, .int .i64 13)] (fun R hR => st_val hS rfl rfl rfl (r_assign hS rfl rfl) fun a45 hS45 => st_val hS45 rfl rfl rfl (r_assign hS45 rfl rfl) fun a46 hS46 => wpList_nil (hR _ (hS46.re ⟨rfl, rfl, trivial⟩))) ?_
        clear hS
        clear a
        intro a hS
        refine wp_ret ?_
        have e := Option.some.inj H
        subst e
        repeat (with_reducible first | refine then_ret ?_ | refine inBlock_ret ?_)
        exact c_ret2 hS Try.results19 rfl rfl ⟨_, rfl, g5, rfl, hF⟩
      · replace H := ite_f hb44 H
        refine wp_skip ?_
        change Code.wp _ _ _ _ _
        obtain ⟨x50, hx51, H⟩ := bind_el H
        refine c_draw (fun K hK => d_start (fun q => False) g5 [] 9 #[false, false, false, false, false, false, false, false, false] (by kernel_rfl) rfl rfl (fun w47 hw47 => ?_))
        have F47 : Fr (fun _ => False) w5 g5 w47 g5 := by rw [hw47]; exact Fr.drew _ _ _
        replace h2 := h2.fr F47 (fun h => h)
        replace hp0_0 := RdS.fr hp0_0 F47 (by decide) (fun _ _ h => h)
        replace hp0_1 := RdS.fr hp0_1 F47 (by decide) (fun _ _ h => h)
        replace hp0_2 := RdS.fr hp0_2 F47 (by decide) (fun _ _ h => h)
        replace hp0_3 := RdS.fr hp0_3 F47 (by decide) (fun _ _ h => h)
        replace hF := hF.trans F47 (fun _ h => h.elim)
        have hC : Fr (fun q => False) w47 g5 w47 g5 := Fr.refl _ _ _
        refine d_pure hS 0 #[true, false, false, false, false, false, false, false, false] rfl rfl rfl rfl (by kernel_rfl) (fun _ _ _ h => h) (fun _ => (r_move hS rfl rfl)) fun a48 hS48 => d_pure hS48 1 #[true, true, false, false, false, false, false, false, false] rfl rfl rfl rfl (by kernel_rfl) (fun _ _ _ h => h) (fun _ => (r_fieldB (off := 5) hS48 rfl rfl (by kernel_rfl))) fun a49 hS49 => ?_
        have he52 : (([.int .i64 p0.Parent, .slice A0_0 p0.Rails.a0.length cap0_0, .slice A0_1 p0.Rails.a1.length cap0_1, .slice A0_2 p0.Rails.a2.length cap0_2, .slice A0_3 p0.Rails.a3.length cap0_3, .int .i64 p0.Deepest.a0, .int .i64 p0.Deepest.a1, .int .i64 p0.Deepest.a2, .int .i64 p0.Deepest.a3, .int .i64 p0.Deepest.a4, .int .i64 p0.Deepest.a5, .int .i64 p0.WakeDevice, .int .i64 p0.WakeSystem] : List Value).drop (5 + p1.toNat * 1)).take 1 = [.int .i64 x50] := by rcases Ar6.cases hx51 with ⟨e, e2⟩ | ⟨e, e2⟩ | ⟨e, e2⟩ | ⟨e, e2⟩ | ⟨e, e2⟩ | ⟨e, e2⟩ <;> (rw [e, e2] <;> rfl)
        refine d_pure hS49 2 #[true, true, true, false, false, false, false, false, false] rfl rfl rfl rfl (by kernel_rfl) (fun _ _ _ h => h) (fun _ => (r_ixB (n := 6) (e := 3) (sz := 1) (bb := false) hS49 rfl rfl rfl (by kernel_rfl) (idx_lo hx51) (Ar6.lt hx51))) fun a54 hS54 => d_take hS54 3 #[true, true, true, true, false, false, false, false, false] rfl rfl rfl rfl (by kernel_rfl) (fun _ _ _ h => h) ⟨_, hC⟩ (fun w' g' Fz => (r_load1 (n := 1) hS54 rfl rfl (by kernel_rfl) (Bx.at_ (j := 0) (h2.fr Fz (fun h => h)) he52 rfl))) fun a55 hS55 => d_pure hS55 4 #[true, true, true, true, true, false, false, false, false] rfl rfl rfl rfl (by kernel_rfl) (fun _ _ _ h => h) (fun _ => (r_fieldB (off := 11) hS55 rfl rfl (by kernel_rfl))) fun a56 hS56 => d_take hS56 5 #[true, true, true, true, true, true, false, false, false] rfl rfl rfl rfl (by kernel_rfl) (fun _ _ _ h => h) ⟨_, hC⟩ (fun w' g' Fz => (r_load1 (n := 1) hS56 rfl rfl (by kernel_rfl) (Bx.cell (h2.fr Fz (fun h => h)) rfl))) fun a57 hS57 => d_pure hS57 6 #[true, true, true, true, true, true, true, false, false] rfl rfl rfl rfl (by kernel_rfl) (fun _ _ _ h => h) (fun _ => (r_min hS57 rfl rfl rfl)) fun a58 hS58 => d_pure hS58 7 #[true, true, true, true, true, true, true, true, false] rfl rfl rfl rfl (by kernel_rfl) (fun _ _ _ h => h) (fun _ => (r_assign hS58 rfl rfl)) fun a59 hS59 => d_pure hS59 8 #[true, true, true, true, true, true, true, true, true] rfl rfl rfl rfl (by kernel_rfl) (fun _ _ _ h => h) (fun _ => (r_assign hS59 rfl rfl)) fun a60 hS60 => d_done (by kernel_rfl) (hK _ _ ?_)
        replace hS : Sl 34 _ [(6, .int .i64 (min x50 p0.WakeDevice)), (7, .int .i64 0)] := hS60.re ⟨rfl, rfl, trivial⟩
        clear hK K hC
        try clear hS48 hS49 hS54 hS55 hS56 hS57 hS58 hS59 hS60
        obtain ⟨a, ha⟩ : ∃ a', a' = a60 := ⟨_, rfl⟩
        rw [← ha] at hS ⊢; clear ha
        refine wp_ret ?_
        have e := Option.some.inj H
        subst e
        repeat (with_reducible first | refine then_ret ?_ | refine inBlock_ret ?_)
        exact c_ret2 hS Try.results19 rfl rfl ⟨_, rfl, g5, rfl, hF⟩


end Go.Proofs.Ytfhhklkmbcnhnaa.Sim

namespace Go.Proofs.Ytfhhklkmbcnhnaa.Sim
open Go
set_option linter.unusedVariables false
set_option linter.unusedSimpArgs false

/-! ### help_Equal_int: function 23 -/
def help_Equal_int.l0 (p0 : List Int) (p1 : List Int) : Nat → Int → Option (Fl (Bool) (Unit))
  | 0, _ => none
  | k15 + 1, m0_0 => if decide (m0_0 < (p0.length : Int)) = true then ((idx p0 m0_0).bind fun x24 => (idx p1 m0_0).bind fun x30 => if (x24 != x30) = true then (some (.out false)) else (help_Equal_int.l0 p0 p1 k15 (wi (m0_0 + 1)))) else (some (.nxt ()))
def help_Equal_int.f (p0 : List Int) (p1 : List Int) : Option (Bool) := if ((p0.length : Int) != (p1.length : Int)) = true then (some false) else ((help_Equal_int.l0 p0 p1 FUEL 0 : Option (Fl (Bool) (Unit))).bind fun o11 => o11.go fun _ => some true)
set_option maxRecDepth 100000 in
set_option maxHeartbeats 4000000 in
theorem help_Equal_int.calls {p0 : List Int} {A0 : Option Addr} {cap0 : Nat} {C0 : Nat → Prop} {p1 : List Int} {A1 : Option Addr} {cap1 : Nat} {C1 : Nat → Prop} {w : World} {g : Nat → Nat} {out : Bool} (N : Nat) (hp0 : RdS (kint .i64) w g C0 A0 cap0 p0) (hC0 : ∀ c, C0 c → c < N) (hp1 : RdS (kint .i64) w g C1 A1 cap1 p1) (hC1 : ∀ c, C1 c → c < N) (H : help_Equal_int.f p0 p1 = some out) :
    Calls Try.prog 23 #[.slice A0 p0.length cap0, .slice A1 p1.length cap1] w (fun e w' => ∃ v, e = .returned v ∧ ∃ (g' : Nat → Nat), v = .bool out ∧ Fr (fun q => N ≤ q) w g w' g') := by
  unfold help_Equal_int.f at H
  refine calls_enter Try.func23 rfl Try.ntmps23 rfl (fun a hS => ?_)
  replace hS : Sl 26 a [(0, .slice A0 p0.length cap0), (1, .slice A1 p1.length cap1)] := hS
  have hF : Fr (fun q => N ≤ q) w g w g := Fr.refl _ _ _
  refine c_pure [(0, .slice A0 p0.length cap0), (1, .slice A1 p1.length cap1)] (fun R hR => st_val hS rfl rfl rfl (r_assign hS rfl rfl) fun a1 hS1 => wpList_nil (hR _ (hS1.re ⟨rfl, rfl, trivial⟩))) ?_
  clear hS
  clear a
  intro a hS
  refine wp_seq ?_
  refine c_pure [(0, .slice A0 p0.length cap0), (1, .slice A1 p1.length cap1), (10, .bool ((p0.length : Int) != (p1.length : Int)))] (fun R hR => st_val hS rfl rfl rfl (r_move hS rfl rfl) fun a2 hS2 => st_val hS2 rfl rfl rfl (r_len (e := 3) (sz := 1) (by_ := 8) hS2 rfl rfl (by kernel_rfl)) fun a3 hS3 => st_val hS3 rfl rfl rfl (r_move hS3 rfl rfl) fun a4 hS4 => st_val hS4 rfl rfl rfl (r_len (e := 3) (sz := 1) (by_ := 8) hS4 rfl rfl (by kernel_rfl)) fun a5 hS5 => st_val hS5 rfl rfl rfl (r_bin hS5 rfl rfl rfl b_neq) fun a6 hS6 => wpList_nil (hR _ (hS6.re ⟨rfl, rfl, rfl, trivial⟩))) ?_
  clear hS
  clear a
  intro a hS
  refine c_cond hS rfl (fun hb7 => ?_) (fun hb7 => ?_)
  · replace H := ite_t hb7 H
    refine c_pure [(4, .bool false)] (fun R hR => st_val hS rfl rfl rfl (r_assign hS rfl rfl) fun a8 hS8 => wpList_nil (hR _ (hS8.re ⟨rfl, trivial⟩))) ?_
    clear hS
    clear a
    intro a hS
    refine wp_ret ?_
    have e := Option.some.inj H
    subst e
    repeat (with_reducible first | refine then_ret ?_ | refine inBlock_ret ?_)
    exact c_ret1 hS Try.results23 rfl ⟨_, rfl, g, rfl, hF⟩
  · replace H := ite_f hb7 H
    refine wp_skip ?_
    change Code.wp _ _ _ _ _
    obtain ⟨o11, H, Hl12⟩ := bind_el H
    refine c_cut (fun a w9 => ∃ (g9 : Nat → Nat), o11 = .nxt () ∧ Sl 26 a [] ∧ Fr (fun q => N ≤ q) w g w9 g9) ?_ ?_
    · refine c_pure [(0, .slice A0 p0.length cap0), (1, .slice A1 p1.length cap1), (5, .int .i64 0)] (fun R hR => st_val hS rfl rfl rfl (r_assign hS rfl rfl) fun a13 hS13 => wpList_nil (hR _ (hS13.re ⟨rfl, rfl, rfl, trivial⟩))) ?_
      clear hS
      clear a
      intro a hS
      refine wp_block ?_
      refine wp_loop_ghost (fun kq => fun a w14 => ∃ (m0_0 : Int), ∃ (g14 : Nat → Nat), help_Equal_int.l0 p0 p1 kq m0_0 = some o11 ∧ Sl 26 a [(0, .slice A0 p0.length cap0), (1, .slice A1 p1.length cap1), (5, .int .i64 m0_0)] ∧ RdS (kint .i64) w14 g14 C0 A0 cap0 p0 ∧ RdS (kint .i64) w14 g14 C1 A1 cap1 p1 ∧ Fr (fun q => N ≤ q) w g w14 g14) FUEL ?_ ?_
      · exact ⟨0, g, H, hS.re ⟨rfl, rfl, rfl, trivial⟩, hp0, hp1, hF⟩
      · clear H
        clear hp0 hp1 hF
        clear hS
        rintro k15 a w14 ⟨m0_0, g14, hpre0, hS, hp0, hp1, hF⟩
        have H := hpre0
        clear hpre0
        cases k15 with
        | zero => exact absurd H (by simp [help_Equal_int.l0])
        | succ k15 =>
          rw [help_Equal_int.l0] at H
          refine wp_seq ?_
          refine c_pure [(0, .slice A0 p0.length cap0), (1, .slice A1 p1.length cap1), (5, .int .i64 m0_0), (14, .bool (decide (m0_0 < (p0.length : Int))))] (fun R hR => st_val hS rfl rfl rfl (r_move hS rfl rfl) fun a16 hS16 => st_val hS16 rfl rfl rfl (r_move hS16 rfl rfl) fun a17 hS17 => st_val hS17 rfl rfl rfl (r_len (e := 3) (sz := 1) (by_ := 8) hS17 rfl rfl (by kernel_rfl)) fun a18 hS18 => st_val hS18 rfl rfl rfl (r_bin hS18 rfl rfl rfl b_lss) fun a19 hS19 => wpList_nil (hR _ (hS19.re ⟨rfl, rfl, rfl, rfl, trivial⟩))) ?_
          clear hS
          clear a
          intro a hS
          refine c_cond hS rfl (fun hb20 => ?_) (fun hb20 => ?_)
          · replace H := ite_t hb20 H
            refine wp_skip ?_
            change Code.wp _ _ _ _ _
            refine wp_seq ?_
            refine wp_block ?_
            obtain ⟨x24, hx25, H⟩ := bind_el H
            obtain ⟨x30, hx31, H⟩ := bind_el H
            refine c_draw (fun K hK => d_start (fun q => False) g14 [] 9 #[false, false, false, false, false, false, false, false, false] (by kernel_rfl) rfl rfl (fun w21 hw21 => ?_))
            have F21 : Fr (fun _ => False) w14 g14 w21 g14 := by rw [hw21]; exact Fr.drew _ _ _
            replace hp0 := RdS.fr hp0 F21 (by decide) (fun _ _ h => h)
            replace hp1 := RdS.fr hp1 F21 (by decide) (fun _ _ h => h)
            replace hF := hF.trans F21 (fun _ h => h.elim)
            have hC : Fr (fun q => False) w21 g14 w21 g14 := Fr.refl _ _ _
            refine d_pure hS 0 #[true, false, false, false, false, false, false, false, false] rfl rfl rfl rfl (by kernel_rfl) (fun _ _ _ h => h) (fun _ => (r_move hS rfl rfl)) fun a22 hS22 => d_pure hS22 1 #[true, true, false, false, false, false, false, false, false] rfl rfl rfl rfl (by kernel_rfl) (fun _ _ _ h => h) (fun _ => (r_move hS22 rfl rfl)) fun a23 hS23 => d_pure hS23 2 #[true, true, true, false, false, false, false, false, false] rfl rfl rfl rfl (by kernel_rfl) (fun _ _ _ h => h) (fun _ => (r_index (e := 3) (sz := 1) (by_ := 8) hS23 rfl rfl rfl (by kernel_rfl) (RdS.some_ hp0 hx25) (idx_lo hx25) (idx_hi hx25))) fun a26 hS26 => d_take hS26 3 #[true, true, true, true, false, false, false, false, false] rfl rfl rfl rfl (by kernel_rfl) (fun _ _ _ h => h) ⟨_, hC⟩ (fun w' g' Fz => (r_load1 (n := 1) hS26 rfl rfl (by kernel_rfl) (RdS.cell (i := m0_0) (sz := 1) (j := 0) (RdS.fr hp0 Fz (by decide) (fun _ _ h => h)) hx25 rfl))) fun a27 hS27 => d_pure hS27 4 #[true, true, true, true, true, false, false, false, false] rfl rfl rfl rfl (by kernel_rfl) (fun _ _ _ h => h) (fun _ => (r_move hS27 rfl rfl)) fun a28 hS28 => d_pure hS28 5 #[true, true, true, true, true, true, false, false, false] rfl rfl rfl rfl (by kernel_rfl) (fun _ _ _ h => h) (fun _ => (r_move hS28 rfl rfl)) fun a29 hS29 => d_pure hS29 6 #[true, true, true, true, true, true, true, false, false] rfl rfl rfl rfl (by kernel_rfl) (fun _ _ _ h => h) (fun _ => (r_index (e := 3) (sz := 1) (by_ := 8) hS29 rfl rfl rfl (by kernel_rfl) (RdS.some_ hp1 hx31) (idx_lo hx31) (idx_hi hx31))) fun a32 hS32 => d_take hS32 7 #[true, true, true, true, true, true, true, true, false] rfl rfl rfl rfl (by kernel_rfl) (fun _ _ _ h => h) ⟨_, hC⟩ (fun w' g' Fz => (r_load1 (n := 1) hS32 rfl rfl (by kernel_rfl) (RdS.cell (i := m0_0) (sz := 1) (j := 0) (RdS.fr hp1 Fz (by decide) (fun _ _ h => h)) hx31 rfl))) fun a33 hS33 => d_pure hS33 8 #[true, true, true, true, true, true, true, true, true] rfl rfl rfl rfl (by kernel_rfl) (fun _ _ _ h => h) (fun _ => (r_bin hS33 rfl rfl rfl b_neq)) fun a34 hS34 => d_done (by kernel_rfl) (hK _ _ ?_)
            replace hS : Sl 26 _ [(0, .slice A0 p0.length cap0), (1, .slice A1 p1.length cap1), (5, .int .i64 m0_0), (25, .bool (x24 != x30))] := hS34.re ⟨rfl, rfl, rfl, rfl, trivial⟩
            clear hK K hC
            try clear hS22 hS23 hS26 hS27 hS28 hS29 hS32 hS33 hS34
            obtain ⟨a, ha⟩ : ∃ a', a' = a34 := ⟨_, rfl⟩
            rw [← ha] at hS ⊢; clear ha
            refine c_cond hS rfl (fun hb35 => ?_) (fun hb35 => ?_)
            · replace H := ite_t hb35 H
              refine c_pure [(4, .bool false)] (fun R hR => st_val hS rfl rfl rfl (r_assign hS rfl rfl) fun a36 hS36 => wpList_nil (hR _ (hS36.re ⟨rfl, trivial⟩))) ?_
              clear hS
              clear a
              intro a hS
              refine wp_ret ?_
              have e := Option.some.inj H
              subst e
              replace H := Fl.go_out Hl12
              have e := Option.some.inj H
              subst e
              repeat (with_reducible first | refine then_ret ?_ | refine inBlock_ret ?_)
              exact c_ret1 hS Try.results23 rfl ⟨_, rfl, g14, rfl, hF⟩
            · replace H := ite_f hb35 H
              refine wp_skip ?_
              change Code.wp _ _ _ _ _
              refine c_pure1 [(0, .slice A0 p0.length cap0), (1, .slice A1 p1.length cap1), (5, .int .i64 (wi (m0_0 + 1)))] (fun R hR => st_val hS rfl rfl rfl (r_move hS rfl rfl) fun a37 hS37 => st_val hS37 rfl rfl rfl (r_bin hS37 rfl rfl rfl b_add) fun a38 hS38 => st_val hS38 rfl rfl rfl (r_assign hS38 rfl rfl) fun a39 hS39 => wpList_nil (hR _ (hS39.re ⟨rfl, rfl, rfl, trivial⟩))) ?_
              clear hS
              clear a
              intro a hS
              refine ⟨k15, Nat.lt_succ_self _, ?_⟩
              exact ⟨wi (m0_0 + 1), g14, H, hS.re ⟨rfl, rfl, rfl, trivial⟩, hp0, hp1, hF⟩
          · replace H := ite_f hb20 H
            refine wp_exit ?_
            have e := Option.some.inj H
            exact ⟨g14, e.symm, hS.re trivial, hF⟩
    · clear H
      clear hp0 hp1 hF
      clear hS
      rintro a w9 ⟨g9, hpre0, hS, hF⟩
      subst hpre0
      have H := Fl.go_nxt Hl12
      clear Hl12
      refine c_pure [(4, .bool true)] (fun R hR => st_val hS rfl rfl rfl (r_assign hS rfl rfl) fun a40 hS40 => wpList_nil (hR _ (hS40.re ⟨rfl, trivial⟩))) ?_
      clear hS
      clear a
      intro a hS
      refine wp_ret ?_
      have e := Option.some.inj H
      subst e
      repeat (with_reducible first | refine then_ret ?_ | refine inBlock_ret ?_)
      exact c_ret1 hS Try.results23 rfl ⟨_, rfl, g9, rfl, hF⟩


end Go.Proofs.Ytfhhklkmbcnhnaa.Sim
