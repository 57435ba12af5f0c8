/-
  Printed by a program of this session (wip/tools): plain functions with the same answers as the Go functions, and the proofs of it.
-/
import Derived.Test.YtphgandhncmaoaaFn
import Derived.Test.YtphgandhncmaoaaOp
namespace Go.Proofs.Ytphgandhncmaoaa.Sim
open Go
set_option linter.unusedVariables false
set_option linter.unusedSimpArgs false

/-! ### law24_DepgraphCheckLimits: function 9 -/
def law24_DepgraphCheckLimits.l1 (p0 : Int) (m0_1 : Int) : Nat → (List api_Link) → Int → Option ((List api_Link))
  | 0, _, _ => none
  | k45 + 1, m1_0, m1_1 => if ((decide (m1_1 < m0_1)) && (decide ((m1_0.length : Int) < 1024))) = true then (((help_Mod.f p0 3).bind fun r75 => if ((Int.tmod (wi ((wi (m0_1 + m1_1)) + r75)) 3) != 0) = true then ((app m1_0 [(api_Link.mk m0_1 m1_1)]).bind fun y92 => some y92) else (some m1_0) : Option ((List api_Link))).bind fun v68 => law24_DepgraphCheckLimits.l1 p0 m0_1 k45 v68 (wi (m1_1 + 1))) else (some m1_0)
def law24_DepgraphCheckLimits.l0 (p0 : Int) : Nat → (List api_Link) → Int → Option ((List api_Link))
  | 0, _, _ => none
  | k15 + 1, m0_0, m0_1 => if ((decide (m0_1 < 128)) && (decide ((m0_0.length : Int) < 1024))) = true then ((law24_DepgraphCheckLimits.l1 p0 m0_1 FUEL m0_0 0 : Option ((List api_Link))).bind fun v37 => law24_DepgraphCheckLimits.l0 p0 k15 v37 (wi (m0_1 + 1))) else (some m0_0)
def law24_DepgraphCheckLimits.l2 (v7 : (List api_Link)) (y127 : List api_Link) : Nat → Int → Option (Fl (Bool) (Unit))
  | 0, _ => none
  | k142 + 1, m2_0 => if decide (m2_0 < (v7.length : Int)) = true then ((idx v7 m2_0).bind fun x151 => (idx y127 (v7.length : Int)).bind fun x158 => if decide (x151 = x158) = true then ((law24_awake.f ).bind fun r164 => some (.out r164)) else (law24_DepgraphCheckLimits.l2 v7 y127 k142 (wi (m2_0 + 1)))) else (some (.nxt ()))
def law24_DepgraphCheckLimits.f (p0 : Int) : Option (Bool) := (law24_DepgraphCheckLimits.l0 p0 FUEL [] 0 : Option ((List api_Link))).bind fun v7 => (app ([] : List api_Link) v7).bind fun y113 => (app y113 [(api_Link.mk 127 126)]).bind fun y127 => (law24_DepgraphCheckLimits.l2 v7 y127 FUEL 0 : Option (Fl (Bool) (Unit))).bind fun o138 => o138.go fun _ => (if ((v7.length : Int) == 1024) = true then (depgraph_Check.f 128 v7).bind fun r178 => some (r178 == 0) else some false).bind fun t183 => (if t183 = true then (depgraph_Check.f 128 y127).bind fun r203 => some (r203 == 1) else some false).bind fun t208 => (if t208 = true then (depgraph_Check.f 129 ([] : List api_Link)).bind fun r227 => some (r227 == 1) else some false).bind fun t232 => (if t232 = true then (depgraph_Check.f (-1) ([] : List api_Link)).bind fun r249 => some (r249 == 1) else some false).bind fun t254 => (if t254 = true then (law24_awake.f ).bind fun r271 => some r271 else some false).bind fun t275 => some t275
set_option maxRecDepth 100000 in
set_option maxHeartbeats 4000000 in
theorem law24_DepgraphCheckLimits.calls {p0 : Int} {w : World} {g : Nat → Nat} {out : Bool} (N : Nat)  (H : law24_DepgraphCheckLimits.f p0 = some out) :
    Calls Try.prog 9 #[.int .i64 p0] w (fun e w' => ∃ v, e = .returned v ∧ ∃ (g' : Nat → Nat), v = .bool out ∧ Fr (fun q => N ≤ q) w g w' g') := by
  unfold law24_DepgraphCheckLimits.f at H
  refine calls_enter Try.func9 rfl Try.ntmps9 rfl (fun a hS => ?_)
  replace hS : Sl 88 a [(0, .int .i64 p0)] := hS
  have hF : Fr (fun q => N ≤ q) w g w g := Fr.refl _ _ _
  refine c_pure [(0, .int .i64 p0)] (fun R hR => st_val hS rfl rfl rfl (r_assign hS rfl rfl) fun a1 hS1 => wpList_nil (hR _ (hS1.re ⟨rfl, trivial⟩))) ?_
  clear hS
  clear a
  intro a hS
  refine c_pure [(0, .int .i64 p0), (3, .slice none 0 0)] (fun R hR => st_val hS rfl rfl rfl (r_assign hS rfl rfl) fun a2 hS2 => wpList_nil (hR _ (hS2.re ⟨rfl, rfl, trivial⟩))) ?_
  clear hS
  clear a
  intro a hS
  obtain ⟨v7, H, Hl9⟩ := bind_el H
  refine c_cut (fun a w3 => ∃ (g3 : Nat → Nat), ∃ (A4 : Option Addr), ∃ (cap5 : Nat), Sl 88 a [(3, .slice A4 v7.length cap5)] ∧ OwS kd_api_Link 34 w3 g3 (N + 2) A4 cap5 v7 ∧ Fr (fun q => N ≤ q) w g w3 g3) ?_ ?_
  · refine c_pure [(0, .int .i64 p0), (3, .slice none 0 0), (4, .int .i64 0)] (fun R hR => st_val hS rfl rfl rfl (r_assign hS rfl rfl) fun a10 hS10 => wpList_nil (hR _ (hS10.re ⟨rfl, rfl, rfl, trivial⟩))) ?_
    clear hS
    clear a
    intro a hS
    refine wp_block ?_
    refine wp_loop_ghost (fun kq => fun a w11 => ∃ (m0_0 : List api_Link), ∃ (m0_1 : Int), ∃ (g11 : Nat → Nat), ∃ (A12 : Option Addr), ∃ (cap13 : Nat), law24_DepgraphCheckLimits.l0 p0 kq m0_0 m0_1 = some v7 ∧ Sl 88 a [(0, .int .i64 p0), (3, .slice A12 m0_0.length cap13), (4, .int .i64 m0_1)] ∧ OwS kd_api_Link 34 w11 g11 (N + 2) A12 cap13 m0_0 ∧ Fr (fun q => N ≤ q) w g w11 g11) FUEL ?_ ?_
    · exact ⟨[], 0, g, none, 0, H, hS.re ⟨rfl, rfl, rfl, trivial⟩, OwS.nil kd_api_Link 34 w g (N + 2), hF⟩
    · clear H
      clear  hF
      clear hS
      rintro k15 a w11 ⟨m0_0, m0_1, g11, A12, cap13, hpre0, hS, h14, hF⟩
      have H := hpre0
      clear hpre0
      cases k15 with
      | zero => exact absurd H (by simp [law24_DepgraphCheckLimits.l0])
      | succ k15 =>
        rw [law24_DepgraphCheckLimits.l0] at H
        refine wp_seq ?_
        refine c_region (fun K hK => ?_)
        refine st_val hS rfl rfl rfl (r_move hS rfl rfl) fun a16 hS16 => st_val hS16 rfl rfl rfl (r_bin hS16 rfl rfl rfl b_lss) fun a17 hS17 => st_val hS17 rfl rfl rfl (r_move hS17 rfl rfl) fun a18 hS18 => ?_
        refine g_join (N := 88) 4 [(0, .int .i64 p0), (3, .slice A12 m0_0.length cap13), (4, .int .i64 m0_1), (14, .bool ((decide (m0_1 < 128)) && (decide ((m0_0.length : Int) < 1024))))] ?_ (fun hk => ?_)
        rotate_left
        · rcases Bool.eq_false_or_eq_true (decide (m0_1 < 128)) with hb19 | hb19
          · refine st_valW hS18 (want_on hS18 rfl rfl rfl hb19) rfl rfl (r_move hS18 rfl rfl) fun a23 hS23 => st_valW hS23 (want_on hS23 rfl rfl rfl hb19) rfl rfl (r_len (e := 34) (sz := 2) (by_ := 16) hS23 rfl rfl (by kernel_rfl)) fun a24 hS24 => st_valW hS24 (want_on hS24 rfl rfl rfl hb19) rfl rfl (r_bin hS24 rfl rfl rfl b_lss) fun a25 hS25 => st_val hS25 rfl rfl rfl (r_pickT hS25 rfl rfl rfl hb19) fun a26 hS26 => hk _ (hS26.re ⟨rfl, rfl, rfl, (by rw [hb19]; rfl), trivial⟩)
          · refine st_off hS18 (want_off hS18 rfl rfl rfl hb19) rfl rfl fun a27 hS27 => st_off hS27 (want_off hS27 rfl rfl rfl hb19) rfl rfl fun a28 hS28 => st_off hS28 (want_off hS28 rfl rfl rfl hb19) rfl rfl fun a29 hS29 => st_val hS29 rfl rfl rfl (r_pickF hS29 rfl rfl rfl hb19) fun a30 hS30 => hk _ (hS30.re ⟨rfl, rfl, rfl, (by rw [hb19]; rfl), trivial⟩)
        intro a31 hS31
        refine wpList_nil (hK _ _ ?_)
        replace hS : Sl 88 _ [(0, .int .i64 p0), (3, .slice A12 m0_0.length cap13), (4, .int .i64 m0_1), (14, .bool ((decide (m0_1 < 128)) && (decide ((m0_0.length : Int) < 1024))))] := hS31.re ⟨rfl, rfl, rfl, rfl, trivial⟩
        clear hK K
        try clear hS16 hS17 hS18 hS31
        obtain ⟨a, ha⟩ : ∃ a', a' = a31 := ⟨_, rfl⟩
        rw [← ha] at hS ⊢; clear ha
        refine c_cond hS rfl (fun hb32 => ?_) (fun hb32 => ?_)
        · replace H := ite_t hb32 H
          refine wp_skip ?_
          change Code.wp _ _ _ _ _
          obtain ⟨v37, H, Hl39⟩ := bind_el H
          refine c_cut (fun a w33 => ∃ (g33 : Nat → Nat), ∃ (A34 : Option Addr), ∃ (cap35 : Nat), Sl 88 a [(0, .int .i64 p0), (3, .slice A34 v37.length cap35), (4, .int .i64 m0_1)] ∧ OwS kd_api_Link 34 w33 g33 (N + 2) A34 cap35 v37 ∧ Fr (fun q => N ≤ q) w g w33 g33) ?_ ?_
          · refine wp_block ?_
            refine c_pure [(0, .int .i64 p0), (3, .slice A12 m0_0.length cap13), (4, .int .i64 m0_1), (5, .int .i64 0)] (fun R hR => st_val hS rfl rfl rfl (r_assign hS rfl rfl) fun a40 hS40 => wpList_nil (hR _ (hS40.re ⟨rfl, rfl, rfl, rfl, trivial⟩))) ?_
            clear hS
            clear a
            intro a hS
            refine wp_block ?_
            refine wp_loop_ghost (fun kq => fun a w41 => ∃ (m1_0 : List api_Link), ∃ (m1_1 : Int), ∃ (g41 : Nat → Nat), ∃ (A42 : Option Addr), ∃ (cap43 : Nat), law24_DepgraphCheckLimits.l1 p0 m0_1 kq m1_0 m1_1 = some v37 ∧ Sl 88 a [(0, .int .i64 p0), (3, .slice A42 m1_0.length cap43), (4, .int .i64 m0_1), (5, .int .i64 m1_1)] ∧ OwS kd_api_Link 34 w41 g41 (N + 2) A42 cap43 m1_0 ∧ Fr (fun q => N ≤ q) w g w41 g41) FUEL ?_ ?_
            · exact ⟨m0_0, 0, g11, A12, cap13, H, hS.re ⟨rfl, rfl, rfl, rfl, trivial⟩, h14, hF⟩
            · clear H
              clear h14 hF
              clear hS
              rintro k45 a w41 ⟨m1_0, m1_1, g41, A42, cap43, hpre0, hS, h44, hF⟩
              have H := hpre0
              clear hpre0
              cases k45 with
              | zero => exact absurd H (by simp [law24_DepgraphCheckLimits.l1])
              | succ k45 =>
                rw [law24_DepgraphCheckLimits.l1] at H
                refine wp_seq ?_
                refine c_region (fun K hK => ?_)
                refine st_val hS rfl rfl rfl (r_move hS rfl rfl) fun a46 hS46 => st_val hS46 rfl rfl rfl (r_move hS46 rfl rfl) fun a47 hS47 => st_val hS47 rfl rfl rfl (r_bin hS47 rfl rfl rfl b_lss) fun a48 hS48 => st_val hS48 rfl rfl rfl (r_move hS48 rfl rfl) fun a49 hS49 => ?_
                refine g_join (N := 88) 4 [(0, .int .i64 p0), (3, .slice A42 m1_0.length cap43), (4, .int .i64 m0_1), (5, .int .i64 m1_1), (24, .bool ((decide (m1_1 < m0_1)) && (decide ((m1_0.length : Int) < 1024))))] ?_ (fun hk => ?_)
                rotate_left
                · rcases Bool.eq_false_or_eq_true (decide (m1_1 < m0_1)) with hb50 | hb50
                  · refine st_valW hS49 (want_on hS49 rfl rfl rfl hb50) rfl rfl (r_move hS49 rfl rfl) fun a54 hS54 => st_valW hS54 (want_on hS54 rfl rfl rfl hb50) rfl rfl (r_len (e := 34) (sz := 2) (by_ := 16) hS54 rfl rfl (by kernel_rfl)) fun a55 hS55 => st_valW hS55 (want_on hS55 rfl rfl rfl hb50) rfl rfl (r_bin hS55 rfl rfl rfl b_lss) fun a56 hS56 => st_val hS56 rfl rfl rfl (r_pickT hS56 rfl rfl rfl hb50) fun a57 hS57 => hk _ (hS57.re ⟨rfl, rfl, rfl, rfl, (by rw [hb50]; rfl), trivial⟩)
                  · refine st_off hS49 (want_off hS49 rfl rfl rfl hb50) rfl rfl fun a58 hS58 => st_off hS58 (want_off hS58 rfl rfl rfl hb50) rfl rfl fun a59 hS59 => st_off hS59 (want_off hS59 rfl rfl rfl hb50) rfl rfl fun a60 hS60 => st_val hS60 rfl rfl rfl (r_pickF hS60 rfl rfl rfl hb50) fun a61 hS61 => hk _ (hS61.re ⟨rfl, rfl, rfl, rfl, (by rw [hb50]; rfl), trivial⟩)
                intro a62 hS62
                refine wpList_nil (hK _ _ ?_)
                replace hS : Sl 88 _ [(0, .int .i64 p0), (3, .slice A42 m1_0.length cap43), (4, .int .i64 m0_1), (5, .int .i64 m1_1), (24, .bool ((decide (m1_1 < m0_1)) && (decide ((m1_0.length : Int) < 1024))))] := hS62.re ⟨rfl, rfl, rfl, rfl, rfl, trivial⟩
                clear hK K
                try clear hS46 hS47 hS48 hS49 hS62
                obtain ⟨a, ha⟩ : ∃ a', a' = a62 := ⟨_, rfl⟩
                rw [← ha] at hS ⊢; clear ha
                refine c_cond hS rfl (fun hb63 => ?_) (fun hb63 => ?_)
                · replace H := ite_t hb63 H
                  refine wp_skip ?_
                  change Code.wp _ _ _ _ _
                  obtain ⟨v68, H, Hl70⟩ := bind_el H
                  refine c_cut (fun a w64 => ∃ (g64 : Nat → Nat), ∃ (A65 : Option Addr), ∃ (cap66 : Nat), Sl 88 a [(0, .int .i64 p0), (3, .slice A65 v68.length cap66), (4, .int .i64 m0_1), (5, .int .i64 m1_1)] ∧ OwS kd_api_Link 34 w64 g64 (N + 2) A65 cap66 v68 ∧ Fr (fun q => N ≤ q) w g w64 g64) ?_ ?_
                  · refine wp_block ?_
                    obtain ⟨r75, hr76, H⟩ := bind_el H
                    refine c_region (fun K hK => ?_)
                    refine st_val hS rfl rfl rfl (r_move hS rfl rfl) fun a71 hS71 => st_val hS71 rfl rfl rfl (r_move hS71 rfl rfl) fun a72 hS72 => st_val hS72 rfl rfl rfl (r_bin hS72 rfl rfl rfl b_add) fun a73 hS73 => st_val hS73 rfl rfl rfl (r_move hS73 rfl rfl) fun a74 hS74 => ?_
                    refine st_enter hS74 rfl rfl rfl (r_call hS74 rfl rfl (by kernel_rfl)) (help_Mod.calls (p0 := p0) (p1 := 3) (g := g41) (N + 8)   hr76) ?_
                    rintro _ a77 w78 ⟨g78, rfl, F78⟩ hS77
                    replace h44 := OwS.fr h44 F78 (fun c' hc (hm : N + 8 ≤ c') => by omega)
                    replace hF := hF.trans F78 (fun c' (hm : N + 8 ≤ c') => by show N ≤ c'; omega)
                    refine st_val hS77 rfl rfl rfl (r_bin hS77 rfl rfl rfl b_add) fun a79 hS79 => st_val hS79 rfl rfl rfl (r_bin hS79 rfl rfl rfl (b_rem (by decide))) fun a80 hS80 => st_val hS80 rfl rfl rfl (r_bin hS80 rfl rfl rfl b_neq) fun a81 hS81 => wpList_nil (hK _ _ ?_)
                    replace hS : Sl 88 _ [(0, .int .i64 p0), (3, .slice A42 m1_0.length cap43), (4, .int .i64 m0_1), (5, .int .i64 m1_1), (34, .bool ((Int.tmod (wi ((wi (m0_1 + m1_1)) + r75)) 3) != 0))] := hS81.re ⟨rfl, rfl, rfl, rfl, rfl, trivial⟩
                    clear hK K
                    try clear hS71 hS72 hS73 hS74 hS77 hS79 hS80 hS81
                    obtain ⟨a, ha⟩ : ∃ a', a' = a81 := ⟨_, rfl⟩
                    rw [← ha] at hS ⊢; clear ha
                    refine c_cond hS rfl (fun hb82 => ?_) (fun hb82 => ?_)
                    · replace H := ite_t hb82 H
                      obtain ⟨y92, hy93, H⟩ := bind_el H
                      refine c_region1 (fun K hK => ?_)
                      refine st_val hS rfl rfl rfl (r_move hS rfl rfl) fun a83 hS83 => st_val hS83 rfl rfl rfl (r_move hS83 rfl rfl) fun a84 hS84 => st_val hS84 rfl rfl rfl (r_move hS84 rfl rfl) fun a85 hS85 => st_val hS85 rfl rfl rfl (r_build (parts := [(0, .int .i64 m0_1), (1, .int .i64 m1_1)]) (u := .agg #[.int .i64 m0_1, .int .i64 m1_1]) hS85 rfl rfl (fun _ => by kernel_rfl)) fun a86 hS86 => ?_
                      refine st_eff hS86 rfl rfl rfl (e_lit (e := 34) (parts := [(0, .agg #[.int .i64 m0_1, .int .i64 m1_1])]) (cs := [.int .i64 m0_1, .int .i64 m1_1]) kd_api_Link [(api_Link.mk m0_1 m1_1)] (N + 0) g78 hS86 rfl rfl (fun _ => by kernel_rfl) rfl (by decide) (Rows.cons (cs := [.int .i64 m0_1, .int .i64 m1_1]) rfl Rows.nil)) ?_
                      rintro _ a90 w91 g91 ⟨⟨A87, rfl, h88⟩, F91⟩ hS90
                      replace h44 := OwS.fr h44 F91 (fun _ _ h => h)
                      replace hF := hF.trans F91 (fun _ h => h.elim)
                      refine st_eff hS90 rfl rfl rfl (e_append (e := 34) (sz := 2) (by_ := 16) (z := [.int .i64 0, .int .i64 0]) (kd := kd_api_Link) g91 hS90 rfl rfl rfl rfl (by kernel_rfl) (by kernel_rfl) rfl rfl rfl rfl h44 (OwD.rdx h88) (fun _ _ _ h => h) hy93) ?_
                      rintro _ a98 w99 g99 ⟨⟨A94, cap95, rfl, h96⟩, F99⟩ hS98
                      replace h88 := OwS.fr h88 F99 (fun c' hc (hm : c' = N + 2) => by omega)
                      replace hF := hF.trans F99 (fun c' (hm : c' = N + 2) => by show N ≤ c'; omega)
                      refine st_val hS98 rfl rfl rfl (r_assign hS98 rfl rfl) fun a100 hS100 => wpList_nil (hK _ _ ?_)
                      replace hS : Sl 88 _ [(0, .int .i64 p0), (3, .slice A94 y92.length cap95), (4, .int .i64 m0_1), (5, .int .i64 m1_1)] := hS100.re ⟨rfl, rfl, rfl, rfl, trivial⟩
                      clear hK K
                      try clear hS83 hS84 hS85 hS86 hS90 hS98 hS100
                      obtain ⟨a, ha⟩ : ∃ a', a' = a100 := ⟨_, rfl⟩
                      rw [← ha] at hS ⊢; clear ha
                      have e := Option.some.inj H
                      subst e
                      exact ⟨g99, A94, cap95, hS.re ⟨rfl, rfl, rfl, rfl, trivial⟩, h96, hF⟩
                    · replace H := ite_f hb82 H
                      refine wp_skip ?_
                      have e := Option.some.inj H
                      subst e
                      exact ⟨g78, A42, cap43, hS.re ⟨rfl, rfl, rfl, rfl, trivial⟩, h44, hF⟩
                  · clear H
                    clear h44 hF
                    clear hS
                    rintro a w64 ⟨g64, A65, cap66, hS, h67, hF⟩
                    have H := Hl70
                    clear Hl70
                    refine c_pure1 [(0, .int .i64 p0), (3, .slice A65 v68.length cap66), (4, .int .i64 m0_1), (5, .int .i64 (wi (m1_1 + 1)))] (fun R hR => st_val hS rfl rfl rfl (r_move hS rfl rfl) fun a101 hS101 => st_val hS101 rfl rfl rfl (r_bin hS101 rfl rfl rfl b_add) fun a102 hS102 => st_val hS102 rfl rfl rfl (r_assign hS102 rfl rfl) fun a103 hS103 => wpList_nil (hR _ (hS103.re ⟨rfl, rfl, rfl, rfl, trivial⟩))) ?_
                    clear hS
                    clear a
                    intro a hS
                    refine ⟨k45, Nat.lt_succ_self _, ?_⟩
                    exact ⟨v68, wi (m1_1 + 1), g64, A65, cap66, H, hS.re ⟨rfl, rfl, rfl, rfl, trivial⟩, h67, hF⟩
                · replace H := ite_f hb63 H
                  refine wp_exit ?_
                  have e := Option.some.inj H
                  subst e
                  exact ⟨g41, A42, cap43, hS.re ⟨rfl, rfl, rfl, trivial⟩, h44, hF⟩
          · clear H
            clear h14 hF
            clear hS
            rintro a w33 ⟨g33, A34, cap35, hS, h36, hF⟩
            have H := Hl39
            clear Hl39
            refine c_pure1 [(0, .int .i64 p0), (3, .slice A34 v37.length cap35), (4, .int .i64 (wi (m0_1 + 1)))] (fun R hR => st_val hS rfl rfl rfl (r_move hS rfl rfl) fun a104 hS104 => st_val hS104 rfl rfl rfl (r_bin hS104 rfl rfl rfl b_add) fun a105 hS105 => st_val hS105 rfl rfl rfl (r_assign hS105 rfl rfl) fun a106 hS106 => wpList_nil (hR _ (hS106.re ⟨rfl, rfl, rfl, trivial⟩))) ?_
            clear hS
            clear a
            intro a hS
            refine ⟨k15, Nat.lt_succ_self _, ?_⟩
            exact ⟨v37, wi (m0_1 + 1), g33, A34, cap35, H, hS.re ⟨rfl, rfl, rfl, trivial⟩, h36, hF⟩
        · replace H := ite_f hb32 H
          refine wp_exit ?_
          have e := Option.some.inj H
          subst e
          exact ⟨g11, A12, cap13, hS.re ⟨rfl, trivial⟩, h14, hF⟩
  · clear H
    clear  hF
    clear hS
    rintro a w3 ⟨g3, A4, cap5, hS, h6, hF⟩
    have H := Hl9
    clear Hl9
    obtain ⟨y113, hy114, H⟩ := bind_el H
    obtain ⟨y127, hy128, H⟩ := bind_el H
    refine c_region (fun K hK => ?_)
    refine st_eff hS rfl rfl rfl (e_lit (e := 34) (parts := []) (cs := []) kd_api_Link ([] : List api_Link) (N + 4) g3 hS rfl rfl (fun _ => by kernel_rfl) rfl (by decide) Rows.nil) ?_
    rintro _ a110 w111 g111 ⟨⟨A107, rfl, h108⟩, F111⟩ hS110
    replace h6 := OwS.fr h6 F111 (fun _ _ h => h)
    replace hF := hF.trans F111 (fun _ h => h.elim)
    refine st_val hS110 rfl rfl rfl (r_move hS110 rfl rfl) fun a112 hS112 => ?_
    refine st_eff hS112 rfl rfl rfl (e_append (e := 34) (sz := 2) (by_ := 16) (z := [.int .i64 0, .int .i64 0]) (kd := kd_api_Link) g111 hS112 rfl rfl rfl rfl (by kernel_rfl) (by kernel_rfl) rfl rfl rfl rfl h108 (OwD.rdx h6) (fun _ _ _ h => h) hy114) ?_
    rintro _ a119 w120 g120 ⟨⟨A115, cap116, rfl, h117⟩, F120⟩ hS119
    replace h6 := OwS.fr h6 F120 (fun c' hc (hm : c' = N + 4) => by omega)
    replace hF := hF.trans F120 (fun c' (hm : c' = N + 4) => by show N ≤ c'; omega)
    refine st_val hS119 rfl rfl rfl (r_build (parts := [(0, .int .i64 127), (1, .int .i64 126)]) (u := .agg #[.int .i64 127, .int .i64 126]) hS119 rfl rfl (fun _ => by kernel_rfl)) fun a121 hS121 => ?_
    refine st_eff hS121 rfl rfl rfl (e_lit (e := 34) (parts := [(0, .agg #[.int .i64 127, .int .i64 126])]) (cs := [.int .i64 127, .int .i64 126]) kd_api_Link [(api_Link.mk 127 126)] (N + 6) g120 hS121 rfl rfl (fun _ => by kernel_rfl) rfl (by decide) (Rows.cons (cs := [.int .i64 127, .int .i64 126]) rfl Rows.nil)) ?_
    rintro _ a125 w126 g126 ⟨⟨A122, rfl, h123⟩, F126⟩ hS125
    replace h117 := OwS.fr h117 F126 (fun _ _ h => h)
    replace h6 := OwS.fr h6 F126 (fun _ _ h => h)
    replace hF := hF.trans F126 (fun _ h => h.elim)
    refine st_eff hS125 rfl rfl rfl (e_append (e := 34) (sz := 2) (by_ := 16) (z := [.int .i64 0, .int .i64 0]) (kd := kd_api_Link) g126 hS125 rfl rfl rfl rfl (by kernel_rfl) (by kernel_rfl) rfl rfl rfl rfl h117 (OwD.rdx h123) (fun _ _ _ h => h) hy128) ?_
    rintro _ a133 w134 g134 ⟨⟨A129, cap130, rfl, h131⟩, F134⟩ hS133
    replace h123 := OwS.fr h123 F134 (fun c' hc (hm : c' = N + 4) => by omega)
    replace h6 := OwS.fr h6 F134 (fun c' hc (hm : c' = N + 4) => by omega)
    replace hF := hF.trans F134 (fun c' (hm : c' = N + 4) => by show N ≤ c'; omega)
    refine st_val hS133 rfl rfl rfl (r_assign hS133 rfl rfl) fun a135 hS135 => wpList_nil (hK _ _ ?_)
    replace hS : Sl 88 _ [(3, .slice A4 v7.length cap5), (6, .slice A129 y127.length cap130)] := hS135.re ⟨rfl, rfl, trivial⟩
    clear hK K
    try clear hS110 hS112 hS119 hS121 hS125 hS133 hS135
    obtain ⟨a, ha⟩ : ∃ a', a' = a135 := ⟨_, rfl⟩
    rw [← ha] at hS ⊢; clear ha
    obtain ⟨o138, H, Hl139⟩ := bind_el H
    refine c_cut (fun a w136 => ∃ (g136 : Nat → Nat), o138 = .nxt () ∧ Sl 88 a [(3, .slice A4 v7.length cap5), (6, .slice A129 y127.length cap130)] ∧ OwS kd_api_Link 34 w136 g136 (N + 4) A129 cap130 y127 ∧ OwS kd_api_Link 34 w136 g136 (N + 2) A4 cap5 v7 ∧ Fr (fun q => N ≤ q) w g w136 g136) ?_ ?_
    · refine c_pure [(3, .slice A4 v7.length cap5), (6, .slice A129 y127.length cap130), (7, .int .i64 0)] (fun R hR => st_val hS rfl rfl rfl (r_assign hS rfl rfl) fun a140 hS140 => wpList_nil (hR _ (hS140.re ⟨rfl, rfl, rfl, trivial⟩))) ?_
      clear hS
      clear a
      intro a hS
      refine wp_block ?_
      refine wp_loop_ghost (fun kq => fun a w141 => ∃ (m2_0 : Int), ∃ (g141 : Nat → Nat), law24_DepgraphCheckLimits.l2 v7 y127 kq m2_0 = some o138 ∧ Sl 88 a [(3, .slice A4 v7.length cap5), (6, .slice A129 y127.length cap130), (7, .int .i64 m2_0)] ∧ OwS kd_api_Link 34 w141 g141 (N + 4) A129 cap130 y127 ∧ OwS kd_api_Link 34 w141 g141 (N + 2) A4 cap5 v7 ∧ Fr (fun q => N ≤ q) w g w141 g141) FUEL ?_ ?_
      · exact ⟨0, g134, H, hS.re ⟨rfl, rfl, rfl, trivial⟩, h131, h6, hF⟩
      · clear H
        clear h6 h131 hF
        clear hS
        rintro k142 a w141 ⟨m2_0, g141, hpre0, hS, h131, h6, hF⟩
        have H := hpre0
        clear hpre0
        cases k142 with
        | zero => exact absurd H (by simp [law24_DepgraphCheckLimits.l2])
        | succ k142 =>
          rw [law24_DepgraphCheckLimits.l2] at H
          refine wp_seq ?_
          refine c_pure [(3, .slice A4 v7.length cap5), (6, .slice A129 y127.length cap130), (7, .int .i64 m2_0), (50, .bool (decide (m2_0 < (v7.length : Int))))] (fun R hR => st_val hS rfl rfl rfl (r_move hS rfl rfl) fun a143 hS143 => st_val hS143 rfl rfl rfl (r_move hS143 rfl rfl) fun a144 hS144 => st_val hS144 rfl rfl rfl (r_len (e := 34) (sz := 2) (by_ := 16) hS144 rfl rfl (by kernel_rfl)) fun a145 hS145 => st_val hS145 rfl rfl rfl (r_bin hS145 rfl rfl rfl b_lss) fun a146 hS146 => wpList_nil (hR _ (hS146.re ⟨rfl, rfl, rfl, rfl, trivial⟩))) ?_
          clear hS
          clear a
          intro a hS
          refine c_cond hS rfl (fun hb147 => ?_) (fun hb147 => ?_)
          · replace H := ite_t hb147 H
            refine wp_skip ?_
            change Code.wp _ _ _ _ _
            refine wp_seq ?_
            refine wp_block ?_
            obtain ⟨x151, hx152, H⟩ := bind_el H
            obtain ⟨x158, hx159, H⟩ := bind_el H
            refine c_draw (fun K hK => d_start (fun q => False) g141 [] 10 #[false, false, false, false, false, false, false, false, false, false] (by kernel_rfl) rfl rfl (fun w148 hw148 => ?_))
            have F148 : Fr (fun _ => False) w141 g141 w148 g141 := by rw [hw148]; exact Fr.drew _ _ _
            replace h131 := OwS.fr h131 F148 (fun _ _ h => h)
            replace h6 := OwS.fr h6 F148 (fun _ _ h => h)
            replace hF := hF.trans F148 (fun _ h => h.elim)
            have hC : Fr (fun q => False) w148 g141 w148 g141 := Fr.refl _ _ _
            refine d_pure hS 0 #[true, false, false, false, false, false, false, false, false, false] rfl rfl rfl rfl (by kernel_rfl) (fun _ _ _ h => h) (fun _ => (r_move hS rfl rfl)) fun a149 hS149 => d_pure hS149 1 #[true, true, false, false, false, false, false, false, false, false] rfl rfl rfl rfl (by kernel_rfl) (fun _ _ _ h => h) (fun _ => (r_move hS149 rfl rfl)) fun a150 hS150 => d_pure hS150 2 #[true, true, true, false, false, false, false, false, false, false] rfl rfl rfl rfl (by kernel_rfl) (fun _ _ _ h => h) (fun _ => (r_index (e := 34) (sz := 2) (by_ := 16) hS150 rfl rfl rfl (by kernel_rfl) (RdS.some_ (OwS.rd h6) hx152) (idx_lo hx152) (idx_hi hx152))) fun a153 hS153 => d_take hS153 3 #[true, true, true, true, false, false, false, false, false, false] rfl rfl rfl rfl (by kernel_rfl) (fun _ _ _ h => h) ⟨_, hC⟩ (fun w' g' Fz => (r_loadN (n := 2) (cs := [.int .i64 x151.Consumer, .int .i64 x151.Supplier]) hS153 rfl rfl (by kernel_rfl) rfl (RdS.cells_off (OwS.rd (OwS.fr h6 Fz (fun _ _ h => h))) hx152 0 2))) fun a154 hS154 => d_pure hS154 4 #[true, true, true, true, true, false, false, false, false, false] rfl rfl rfl rfl (by kernel_rfl) (fun _ _ _ h => h) (fun _ => (r_move hS154 rfl rfl)) fun a155 hS155 => d_pure hS155 5 #[true, true, true, true, true, true, false, false, false, false] rfl rfl rfl rfl (by kernel_rfl) (fun _ _ _ h => h) (fun _ => (r_move hS155 rfl rfl)) fun a156 hS156 => d_pure hS156 6 #[true, true, true, true, true, true, true, false, false, false] rfl rfl rfl rfl (by kernel_rfl) (fun _ _ _ h => h) (fun _ => (r_len (e := 34) (sz := 2) (by_ := 16) hS156 rfl rfl (by kernel_rfl))) fun a157 hS157 => d_pure hS157 7 #[true, true, true, true, true, true, true, true, false, false] rfl rfl rfl rfl (by kernel_rfl) (fun _ _ _ h => h) (fun _ => (r_index (e := 34) (sz := 2) (by_ := 16) hS157 rfl rfl rfl (by kernel_rfl) (RdS.some_ (OwS.rd h131) hx159) (idx_lo hx159) (idx_hi hx159))) fun a160 hS160 => d_take hS160 8 #[true, true, true, true, true, true, true, true, true, false] rfl rfl rfl rfl (by kernel_rfl) (fun _ _ _ h => h) ⟨_, hC⟩ (fun w' g' Fz => (r_loadN (n := 2) (cs := [.int .i64 x158.Consumer, .int .i64 x158.Supplier]) hS160 rfl rfl (by kernel_rfl) rfl (RdS.cells_off (OwS.rd (OwS.fr h131 Fz (fun _ _ h => h))) hx159 0 2))) fun a161 hS161 => d_pure hS161 9 #[true, true, true, true, true, true, true, true, true, true] rfl rfl rfl rfl (by kernel_rfl) (fun _ _ _ h => h) (fun _ => (r_stEq hS161 rfl rfl rfl (by kernel_rfl) (eqF_api_Link x151 x158 _))) fun a162 hS162 => d_done (by kernel_rfl) (hK _ _ ?_)
            replace hS : Sl 88 _ [(3, .slice A4 v7.length cap5), (6, .slice A129 y127.length cap130), (7, .int .i64 m2_0), (62, .bool (decide (x151 = x158)))] := hS162.re ⟨rfl, rfl, rfl, rfl, trivial⟩
            clear hK K hC
            try clear hS149 hS150 hS153 hS154 hS155 hS156 hS157 hS160 hS161 hS162
            obtain ⟨a, ha⟩ : ∃ a', a' = a162 := ⟨_, rfl⟩
            rw [← ha] at hS ⊢; clear ha
            refine c_cond hS rfl (fun hb163 => ?_) (fun hb163 => ?_)
            · replace H := ite_t hb163 H
              obtain ⟨r164, hr165, H⟩ := bind_el H
              refine c_region (fun K hK => ?_)
              refine st_enter hS rfl rfl rfl (r_call hS rfl rfl (by kernel_rfl)) (law24_awake.calls (g := g141) (N + 8)   hr165) ?_
              rintro _ a166 w167 ⟨g167, rfl, F167⟩ hS166
              replace h131 := OwS.fr h131 F167 (fun c' hc (hm : N + 8 ≤ c') => by omega)
              replace h6 := OwS.fr h6 F167 (fun c' hc (hm : N + 8 ≤ c') => by omega)
              replace hF := hF.trans F167 (fun c' (hm : N + 8 ≤ c') => by show N ≤ c'; omega)
              refine st_val hS166 rfl rfl rfl (r_assign hS166 rfl rfl) fun a168 hS168 => wpList_nil (hK _ _ ?_)
              replace hS : Sl 88 _ [(2, .bool r164)] := hS168.re ⟨rfl, trivial⟩
              clear hK K
              try clear hS166 hS168
              obtain ⟨a, ha⟩ : ∃ a', a' = a168 := ⟨_, rfl⟩
              rw [← ha] at hS ⊢; clear ha
              refine wp_ret ?_
              have e := Option.some.inj H
              subst e
              replace H := Fl.go_out Hl139
              have e := Option.some.inj H
              subst e
              repeat (with_reducible first | refine then_ret ?_ | refine inBlock_ret ?_)
              exact c_ret1 hS Try.results9 rfl ⟨_, rfl, g167, rfl, hF⟩
            · replace H := ite_f hb163 H
              refine wp_skip ?_
              change Code.wp _ _ _ _ _
              refine c_pure1 [(3, .slice A4 v7.length cap5), (6, .slice A129 y127.length cap130), (7, .int .i64 (wi (m2_0 + 1)))] (fun R hR => st_val hS rfl rfl rfl (r_move hS rfl rfl) fun a169 hS169 => st_val hS169 rfl rfl rfl (r_bin hS169 rfl rfl rfl b_add) fun a170 hS170 => st_val hS170 rfl rfl rfl (r_assign hS170 rfl rfl) fun a171 hS171 => wpList_nil (hR _ (hS171.re ⟨rfl, rfl, rfl, trivial⟩))) ?_
              clear hS
              clear a
              intro a hS
              refine ⟨k142, Nat.lt_succ_self _, ?_⟩
              exact ⟨wi (m2_0 + 1), g141, H, hS.re ⟨rfl, rfl, rfl, trivial⟩, h131, h6, hF⟩
          · replace H := ite_f hb147 H
            refine wp_exit ?_
            have e := Option.some.inj H
            exact ⟨g141, e.symm, hS.re ⟨rfl, rfl, trivial⟩, h131, h6, hF⟩
    · clear H
      clear h6 h131 hF
      clear hS
      rintro a w136 ⟨g136, hpre0, hS, h131, h6, hF⟩
      subst hpre0
      have H := Fl.go_nxt Hl139
      clear Hl139
      obtain ⟨t183, ht184, H⟩ := bind_el H
      obtain ⟨t208, ht209, H⟩ := bind_el H
      obtain ⟨t232, ht233, H⟩ := bind_el H
      obtain ⟨t254, ht255, H⟩ := bind_el H
      obtain ⟨t275, ht276, H⟩ := bind_el H
      refine c_region (fun K hK => ?_)
      refine st_val hS rfl rfl rfl (r_move hS rfl rfl) fun a172 hS172 => st_val hS172 rfl rfl rfl (r_len (e := 34) (sz := 2) (by_ := 16) hS172 rfl rfl (by kernel_rfl)) fun a173 hS173 => st_val hS173 rfl rfl rfl (r_bin hS173 rfl rfl rfl b_eql) fun a174 hS174 => st_val hS174 rfl rfl rfl (r_move hS174 rfl rfl) fun a175 hS175 => ?_
      refine g_joinR 4 (fun a w185 => ∃ (g185 : Nat → Nat), Sl 88 a [(6, .slice A129 y127.length cap130), (71, .bool t183)] ∧ OwS kd_api_Link 34 w185 g185 (N + 4) A129 cap130 y127 ∧ Fr (fun q => N ≤ q) w g w185 g185) ?_ (fun hk => ?_)
      rotate_left
      · rcases Bool.eq_false_or_eq_true (((v7.length : Int) == 1024)) with hb176 | hb176
        · have H := ite_t hb176 ht184
          obtain ⟨r187, hr188, H⟩ := bind_el H
          have e192 := Option.some.inj H
          refine st_valW hS175 (want_on hS175 rfl rfl rfl hb176) rfl rfl (r_move hS175 rfl rfl) fun a186 hS186 => ?_
          refine st_enterW hS186 (want_on hS186 rfl rfl rfl hb176) rfl rfl (r_call hS186 rfl rfl (by kernel_rfl)) (depgraph_Check.calls (C1 := (fun q => q = N + 2)) (p0 := 128) (p1 := v7) (g := g136) (N + 8)  (OwD.rdf (fun _ _ _ _ _ _ h => h) h6) (fun q (hq : q = N + 2) => by omega) hr188) ?_
          rintro _ a189 w190 ⟨g190, rfl, F190⟩ hS189
          replace h131 := OwS.fr h131 F190 (fun c' hc (hm : N + 8 ≤ c') => by omega)
          replace h6 := OwS.fr h6 F190 (fun c' hc (hm : N + 8 ≤ c') => by omega)
          replace hF := hF.trans F190 (fun c' (hm : N + 8 ≤ c') => by show N ≤ c'; omega)
          refine st_valW hS189 (want_on hS189 rfl rfl rfl hb176) rfl rfl (r_bin hS189 rfl rfl rfl b_eql) fun a191 hS191 => ?_
          refine st_val hS191 rfl rfl rfl (r_pickT hS191 rfl rfl rfl hb176) fun a193 hS193 => hk _ _ ?_
          exact ⟨g190, hS193.re ⟨rfl, (by rw [← e192]; rfl), trivial⟩, h131, hF⟩
        · have H := ite_f hb176 ht184
          have e194 := Option.some.inj H
          refine st_off hS175 (want_off hS175 rfl rfl rfl hb176) rfl rfl fun a195 hS195 => st_off hS195 (want_off hS195 rfl rfl rfl hb176) rfl rfl fun a196 hS196 => st_off hS196 (want_off hS196 rfl rfl rfl hb176) rfl rfl fun a197 hS197 => st_val hS197 rfl rfl rfl (r_pickF hS197 rfl rfl rfl hb176) fun a198 hS198 => hk _ _ ?_
          exact ⟨g136, hS198.re ⟨rfl, (by rw [← e194]; rfl), trivial⟩, h131, hF⟩
      rintro a199 w185 ⟨g185, hS199, h131, hF⟩
      refine st_val hS199 rfl rfl rfl (r_move hS199 rfl rfl) fun a200 hS200 => ?_
      refine g_joinR 4 (fun a w210 => ∃ (g210 : Nat → Nat), Sl 88 a [(76, .bool t208)] ∧ Fr (fun q => N ≤ q) w g w210 g210) ?_ (fun hk => ?_)
      rotate_left
      · rcases Bool.eq_false_or_eq_true (t183) with hb201 | hb201
        · have H := ite_t hb201 ht209
          obtain ⟨r212, hr213, H⟩ := bind_el H
          have e217 := Option.some.inj H
          refine st_valW hS200 (want_on hS200 rfl rfl rfl hb201) rfl rfl (r_move hS200 rfl rfl) fun a211 hS211 => ?_
          refine st_enterW hS211 (want_on hS211 rfl rfl rfl hb201) rfl rfl (r_call hS211 rfl rfl (by kernel_rfl)) (depgraph_Check.calls (C1 := (fun q => q = N + 4)) (p0 := 128) (p1 := y127) (g := g185) (N + 8)  (OwD.rdf (fun _ _ _ _ _ _ h => h) h131) (fun q (hq : q = N + 4) => by omega) hr213) ?_
          rintro _ a214 w215 ⟨g215, rfl, F215⟩ hS214
          replace h131 := OwS.fr h131 F215 (fun c' hc (hm : N + 8 ≤ c') => by omega)
          replace hF := hF.trans F215 (fun c' (hm : N + 8 ≤ c') => by show N ≤ c'; omega)
          refine st_valW hS214 (want_on hS214 rfl rfl rfl hb201) rfl rfl (r_bin hS214 rfl rfl rfl b_eql) fun a216 hS216 => ?_
          refine st_val hS216 rfl rfl rfl (r_pickT hS216 rfl rfl rfl hb201) fun a218 hS218 => hk _ _ ?_
          exact ⟨g215, hS218.re ⟨(by rw [← e217]; rfl), trivial⟩, hF⟩
        · have H := ite_f hb201 ht209
          have e219 := Option.some.inj H
          refine st_off hS200 (want_off hS200 rfl rfl rfl hb201) rfl rfl fun a220 hS220 => st_off hS220 (want_off hS220 rfl rfl rfl hb201) rfl rfl fun a221 hS221 => st_off hS221 (want_off hS221 rfl rfl rfl hb201) rfl rfl fun a222 hS222 => st_val hS222 rfl rfl rfl (r_pickF hS222 rfl rfl rfl hb201) fun a223 hS223 => hk _ _ ?_
          exact ⟨g185, hS223.re ⟨(by rw [← e219]; rfl), trivial⟩, hF⟩
      rintro a224 w210 ⟨g210, hS224, hF⟩
      refine st_val hS224 rfl rfl rfl (r_move hS224 rfl rfl) fun a225 hS225 => ?_
      refine g_joinR 3 (fun a w234 => ∃ (g234 : Nat → Nat), Sl 88 a [(80, .bool t232)] ∧ Fr (fun q => N ≤ q) w g w234 g234) ?_ (fun hk => ?_)
      rotate_left
      · rcases Bool.eq_false_or_eq_true (t208) with hb226 | hb226
        · have H := ite_t hb226 ht233
          obtain ⟨r235, hr236, H⟩ := bind_el H
          have e240 := Option.some.inj H
          refine st_enterW hS225 (want_on hS225 rfl rfl rfl hb226) rfl rfl (r_call hS225 rfl rfl (by kernel_rfl)) (depgraph_Check.calls (C1 := (fun _ => False)) (p0 := 129) (p1 := ([] : List api_Link)) (g := g210) (N + 8)  (RdS.nil kd_api_Link w210 g210 (fun _ => False)) (fun _ h => False.elim h) hr236) ?_
          rintro _ a237 w238 ⟨g238, rfl, F238⟩ hS237
          replace hF := hF.trans F238 (fun c' (hm : N + 8 ≤ c') => by show N ≤ c'; omega)
          refine st_valW hS237 (want_on hS237 rfl rfl rfl hb226) rfl rfl (r_bin hS237 rfl rfl rfl b_eql) fun a239 hS239 => ?_
          refine st_val hS239 rfl rfl rfl (r_pickT hS239 rfl rfl rfl hb226) fun a241 hS241 => hk _ _ ?_
          exact ⟨g238, hS241.re ⟨(by rw [← e240]; rfl), trivial⟩, hF⟩
        · have H := ite_f hb226 ht233
          have e242 := Option.some.inj H
          refine st_off hS225 (want_off hS225 rfl rfl rfl hb226) rfl rfl fun a243 hS243 => st_off hS243 (want_off hS243 rfl rfl rfl hb226) rfl rfl fun a244 hS244 => st_val hS244 rfl rfl rfl (r_pickF hS244 rfl rfl rfl hb226) fun a245 hS245 => hk _ _ ?_
          exact ⟨g210, hS245.re ⟨(by rw [← e242]; rfl), trivial⟩, hF⟩
      rintro a246 w234 ⟨g234, hS246, hF⟩
      refine st_val hS246 rfl rfl rfl (r_move hS246 rfl rfl) fun a247 hS247 => ?_
      refine g_joinR 3 (fun a w256 => ∃ (g256 : Nat → Nat), Sl 88 a [(84, .bool t254)] ∧ Fr (fun q => N ≤ q) w g w256 g256) ?_ (fun hk => ?_)
      rotate_left
      · rcases Bool.eq_false_or_eq_true (t232) with hb248 | hb248
        · have H := ite_t hb248 ht255
          obtain ⟨r257, hr258, H⟩ := bind_el H
          have e262 := Option.some.inj H
          refine st_enterW hS247 (want_on hS247 rfl rfl rfl hb248) rfl rfl (r_call hS247 rfl rfl (by kernel_rfl)) (depgraph_Check.calls (C1 := (fun _ => False)) (p0 := (-1)) (p1 := ([] : List api_Link)) (g := g234) (N + 8)  (RdS.nil kd_api_Link w234 g234 (fun _ => False)) (fun _ h => False.elim h) hr258) ?_
          rintro _ a259 w260 ⟨g260, rfl, F260⟩ hS259
          replace hF := hF.trans F260 (fun c' (hm : N + 8 ≤ c') => by show N ≤ c'; omega)
          refine st_valW hS259 (want_on hS259 rfl rfl rfl hb248) rfl rfl (r_bin hS259 rfl rfl rfl b_eql) fun a261 hS261 => ?_
          refine st_val hS261 rfl rfl rfl (r_pickT hS261 rfl rfl rfl hb248) fun a263 hS263 => hk _ _ ?_
          exact ⟨g260, hS263.re ⟨(by rw [← e262]; rfl), trivial⟩, hF⟩
        · have H := ite_f hb248 ht255
          have e264 := Option.some.inj H
          refine st_off hS247 (want_off hS247 rfl rfl rfl hb248) rfl rfl fun a265 hS265 => st_off hS265 (want_off hS265 rfl rfl rfl hb248) rfl rfl fun a266 hS266 => st_val hS266 rfl rfl rfl (r_pickF hS266 rfl rfl rfl hb248) fun a267 hS267 => hk _ _ ?_
          exact ⟨g234, hS267.re ⟨(by rw [← e264]; rfl), trivial⟩, hF⟩
      rintro a268 w256 ⟨g256, hS268, hF⟩
      refine st_val hS268 rfl rfl rfl (r_move hS268 rfl rfl) fun a269 hS269 => ?_
      refine g_joinR 2 (fun a w277 => ∃ (g277 : Nat → Nat), Sl 88 a [(87, .bool t275)] ∧ Fr (fun q => N ≤ q) w g w277 g277) ?_ (fun hk => ?_)
      rotate_left
      · rcases Bool.eq_false_or_eq_true (t254) with hb270 | hb270
        · have H := ite_t hb270 ht276
          obtain ⟨r278, hr279, H⟩ := bind_el H
          have e282 := Option.some.inj H
          refine st_enterW hS269 (want_on hS269 rfl rfl rfl hb270) rfl rfl (r_call hS269 rfl rfl (by kernel_rfl)) (law24_awake.calls (g := g256) (N + 8)   hr279) ?_
          rintro _ a280 w281 ⟨g281, rfl, F281⟩ hS280
          replace hF := hF.trans F281 (fun c' (hm : N + 8 ≤ c') => by show N ≤ c'; omega)
          refine st_val hS280 rfl rfl rfl (r_pickT hS280 rfl rfl rfl hb270) fun a283 hS283 => hk _ _ ?_
          exact ⟨g281, hS283.re ⟨(by rw [← e282]; rfl), trivial⟩, hF⟩
        · have H := ite_f hb270 ht276
          have e284 := Option.some.inj H
          refine st_off hS269 (want_off hS269 rfl rfl rfl hb270) rfl rfl fun a285 hS285 => st_val hS285 rfl rfl rfl (r_pickF hS285 rfl rfl rfl hb270) fun a286 hS286 => hk _ _ ?_
          exact ⟨g256, hS286.re ⟨(by rw [← e284]; rfl), trivial⟩, hF⟩
      rintro a287 w277 ⟨g277, hS287, hF⟩
      refine st_val hS287 rfl rfl rfl (r_assign hS287 rfl rfl) fun a288 hS288 => wpList_nil (hK _ _ ?_)
      replace hS : Sl 88 _ [(2, .bool t275)] := hS288.re ⟨rfl, trivial⟩
      clear hK K
      try clear hS172 hS173 hS174 hS175 hS199 hS200 hS224 hS225 hS246 hS247 hS268 hS269 hS287 hS288
      obtain ⟨a, ha⟩ : ∃ a', a' = a288 := ⟨_, rfl⟩
      rw [← ha] at hS ⊢; clear ha
      refine wp_ret ?_
      have e := Option.some.inj H
      subst e
      repeat (with_reducible first | refine then_ret ?_ | refine inBlock_ret ?_)
      exact c_ret1 hS Try.results9 rfl ⟨_, rfl, g277, rfl, hF⟩

/-- What is left of law24_DepgraphCheckLimits: about plain values alone. -/
def law24_DepgraphCheckLimits.Pure : Prop := ∀ (p0 : Int), (Lit.int .i64 p0).wf = true → law24_DepgraphCheckLimits.f p0 = some true

end Go.Proofs.Ytphgandhncmaoaa.Sim
