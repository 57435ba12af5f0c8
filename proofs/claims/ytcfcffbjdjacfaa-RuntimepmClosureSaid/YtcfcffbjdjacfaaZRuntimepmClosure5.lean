/-
  Texts of this session, part 5 of 7: the words of the walk, plain functions with the same answers as the Go functions and the proofs of it, plain lemmas. No condition.
  They are, one behind the other: LwRuntimepmClosure.
-/
import Derived.Test.YtcfcffbjdjacfaaZRuntimepmClosure4

namespace Go.Proofs.Ytcfcffbjdjacfaa.Sim
open Go
set_option linter.unusedVariables false
set_option linter.unusedSimpArgs false

/-! ### law28_RuntimepmClosure: function 11 -/
def law28_RuntimepmClosure.l1 (m0_0 : List api_IdleDevice) (m0_2 : Int) (x52 : api_IdleDevice) : Nat → (List api_Link) → Int → Option ((List api_IdleDevice) × (List api_Link))
  | 0, _, _ => none
  | k119 + 1, m1_0, m1_1 => (idx (upd m0_0 m0_2 ({ x52 with Delay := 0 } : api_IdleDevice)) m0_2).bind fun x123 => if decide (m1_1 < (x123.Suppliers.length : Int)) = true then ((idx x123.Suppliers m1_1).bind fun x151 => (app m1_0 [(api_Link.mk m0_2 x151)]).bind fun y161 => law28_RuntimepmClosure.l1 m0_0 m0_2 x52 k119 y161 (wi (m1_1 + 1))) else (some ((upd m0_0 m0_2 ({ x52 with Delay := 0 } : api_IdleDevice)), m1_0))
def law28_RuntimepmClosure.l0 : Nat → (List api_IdleDevice) → (List api_Link) → Int → Option ((List api_IdleDevice) × (List api_Link))
  | 0, _, _, _ => none
  | k37 + 1, m0_0, m0_1, m0_2 => if decide (m0_2 < (m0_0.length : Int)) = true then (((idx m0_0 m0_2).bind fun x52 => ((idx (upd m0_0 m0_2 ({ x52 with Delay := 0 } : api_IdleDevice)) m0_2).bind fun x73 => if decide (0 ≤ x73.Parent) = true then ((app m0_1 [(api_Link.mk m0_2 x73.Parent)]).bind fun y105 => some y105) else (some m0_1) : Option ((List api_Link))).bind fun v68 => law28_RuntimepmClosure.l1 m0_0 m0_2 x52 FUEL v68 0 : Option ((List api_IdleDevice) × (List api_Link))).bind fun v47 => law28_RuntimepmClosure.l0 k37 v47.1 v47.2 (wi (m0_2 + 1))) else (some (m0_0, m0_1))
def law28_RuntimepmClosure.l3 (v29 : (List api_IdleDevice) × (List api_Link)) (v269 : runtimepm_Manager × Int) : Nat → (List Int) → Int → Option ((List Int))
  | 0, _, _ => none
  | k308 + 1, m3_0, m3_1 => if decide (m3_1 < (v29.1.length : Int)) = true then (((runtimepm_Manager_Usage.f v269.1 m3_1).bind fun r323 => if decide (0 < r323) = true then ((app m3_0 [m3_1]).bind fun y336 => some y336) else (some m3_0) : Option ((List Int))).bind fun v318 => law28_RuntimepmClosure.l3 v29 v269 k308 v318 (wi (m3_1 + 1))) else (some m3_0)
def law28_RuntimepmClosure.l4 (v29 : (List api_IdleDevice) × (List api_Link)) (v269 : runtimepm_Manager × Int) (r352 : (List Int) × Int) : Nat → Int → Int → Option (Fl (Fl (Fl (Bool) (Unit)) (runtimepm_Manager × Int)) (Int))
  | 0, _, _ => none
  | k376 + 1, m4_0, m4_1 => if decide (m4_1 < (v29.1.length : Int)) = true then (((runtimepm_Manager_Active.f v269.1 m4_1).bind fun r388 => (if decide (m4_0 < (r352.1.length : Int)) = true then (idx r352.1 m4_0).bind fun x400 => some (x400 == m4_1) else some false).bind fun t406 => if (!(r388 == t406)) = true then (some (.out (.out (.out (.out false))))) else ((runtimepm_Manager_Active.f v269.1 m4_1).bind fun r432 => if r432 = true then (some (.nxt (wi (m4_0 + 1)))) else (some (.nxt m4_0))) : Option (Fl (Fl (Fl (Fl (Bool) (Unit)) (runtimepm_Manager × Int)) (Int)) (Int))).bind fun o384 => o384.go fun v383 => law28_RuntimepmClosure.l4 v29 v269 r352 k376 v383 (wi (m4_1 + 1))) else (some (.nxt m4_0))
def law28_RuntimepmClosure.l2 (p1 : List law28_Call) (v29 : (List api_IdleDevice) × (List api_Link)) : Nat → runtimepm_Manager → Int → Int → Option (Fl (Bool) (Unit))
  | 0, _, _, _ => none
  | k229 + 1, m2_0, m2_1, m2_2 => if decide (m2_2 < (p1.length : Int)) = true then (((idx p1 m2_2).bind fun x241 => (law28_Call_at.f (law28_Call.mk x241.Kind x241.Device x241.Wait false) (v29.1.length : Int) m2_1).bind fun r259 => ((law28_do.f m2_0 (law28_Call.mk x241.Kind x241.Device x241.Wait false) (v29.1.length : Int) m2_1).bind fun r277 => if (r277.2.2 == 0) = true then (some (r277.1, r259.2)) else (some (r277.1, m2_1)) : Option (runtimepm_Manager × Int)).bind fun v269 => (law28_RuntimepmClosure.l3 v29 v269 FUEL [] 0 : Option ((List Int))).bind fun v300 => (depgraph_Suppliers.f (v29.1.length : Int) v29.2 v300).bind fun r352 => if (r352.2 != 0) = true then (some (.out (.out false))) else ((law28_RuntimepmClosure.l4 v29 v269 r352 FUEL 0 0 : Option (Fl (Fl (Fl (Bool) (Unit)) (runtimepm_Manager × Int)) (Int))).bind fun o372 => o372.go fun v371 => if (v371 != (r352.1.length : Int)) = true then (some (.out (.out false))) else (some (.nxt (v269.1, v269.2)))) : Option (Fl (Fl (Bool) (Unit)) (runtimepm_Manager × Int))).bind fun o237 => o237.go fun v236 => law28_RuntimepmClosure.l2 p1 v29 k229 v236.1 v236.2 (wi (m2_2 + 1))) else (some (.nxt ()))
def law28_RuntimepmClosure.f (p0 : List api_IdleDevice) (p1 : List law28_Call) : Option (Bool) := (law28_large.f p0 p1).bind fun r4 => if r4 = true then ((law28_awake.f ).bind fun r9 => some r9) else ((law28_Some.f p0).bind fun r15 => (law28_RuntimepmClosure.l0 FUEL r15 [] 0 : Option ((List api_IdleDevice) × (List api_Link))).bind fun v29 => (runtimepm_New.f v29.1).bind fun r177 => if ((r177.2 != 0) || r177.1.isNone) = true then (some false) else (((r177.1).bind fun st210 => law28_RuntimepmClosure.l2 p1 v29 FUEL st210 0 0 : Option (Fl (Bool) (Unit))).bind fun o207 => o207.go fun _ => (law28_awake.f ).bind fun r452 => some r452))
set_option maxRecDepth 100000 in
set_option maxHeartbeats 4000000 in
theorem law28_RuntimepmClosure.calls {p0 : List api_IdleDevice} {A0 : Option Addr} {cap0 : Nat} {C0 : Nat → Prop} {p1 : List law28_Call} {A1 : Option Addr} {cap1 : Nat} {C1 : Nat → Prop} {w : World} {g : Nat → Nat} {out : Bool} (N : Nat) (hp0 : RdS kd_api_IdleDevice w g C0 A0 cap0 p0) (hC0 : ∀ c, C0 c → c < N) (hp1 : RdS kd_law28_Call w g C1 A1 cap1 p1) (hC1 : ∀ c, C1 c → c < N) (H : law28_RuntimepmClosure.f p0 p1 = some out) :
    Calls Try.prog 11 #[.slice A0 p0.length cap0, .slice A1 p1.length cap1] w (fun e w' => ∃ v, e = .returned v ∧ ∃ (g' : Nat → Nat), v = .bool out ∧ Fr (fun q => N ≤ q) w g w' g') := by
  unfold law28_RuntimepmClosure.f at H
  refine calls_enter Try.func11 rfl Try.ntmps11 rfl (fun a hS => ?_)
  replace hS : Sl 177 a [(0, .slice A0 p0.length cap0), (1, .slice A1 p1.length cap1)] := hS
  have hF : Fr (fun q => N ≤ q) w g w g := Fr.refl _ _ _
  refine c_pure [(0, .slice A0 p0.length cap0), (1, .slice A1 p1.length cap1)] (fun R hR => st_val hS rfl rfl rfl (r_assign hS rfl rfl) fun a1 hS1 => wpList_nil (hR _ (hS1.re ⟨rfl, rfl, trivial⟩))) ?_
  clear hS
  clear a
  intro a hS
  refine wp_seq ?_
  obtain ⟨r4, hr5, H⟩ := bind_el H
  refine c_region (fun K hK => ?_)
  refine st_val hS rfl rfl rfl (r_move hS rfl rfl) fun a2 hS2 => st_val hS2 rfl rfl rfl (r_move hS2 rfl rfl) fun a3 hS3 => ?_
  refine st_enter hS3 rfl rfl rfl (r_call hS3 rfl rfl (by kernel_rfl)) (law28_large.calls (C0 := C0) (C1 := C1) (p0 := p0) (p1 := p1) (g := g) (N + 25)  hp0 (fun q (hq : C0 q) => by have := hC0 q hq; omega) hp1 (fun q (hq : C1 q) => by have := hC1 q hq; omega) hr5) ?_
  rintro _ a6 w7 ⟨g7, rfl, F7⟩ hS6
  replace hp0 := RdS.fr hp0 F7 (by decide) (fun q (hq : C0 q) (hm : N + 25 ≤ q) => by have := hC0 q hq; omega)
  replace hp1 := RdS.fr hp1 F7 (by decide) (fun q (hq : C1 q) (hm : N + 25 ≤ q) => by have := hC1 q hq; omega)
  replace hF := hF.trans F7 (fun c' (hm : N + 25 ≤ c') => by show N ≤ c'; omega)
  refine wpList_nil (hK _ _ ?_)
  replace hS : Sl 177 _ [(0, .slice A0 p0.length cap0), (1, .slice A1 p1.length cap1), (26, .bool r4)] := hS6.re ⟨rfl, rfl, rfl, trivial⟩
  clear hK K
  try clear hS2 hS3 hS6
  obtain ⟨a, ha⟩ : ∃ a', a' = a6 := ⟨_, rfl⟩
  rw [← ha] at hS ⊢; clear ha
  refine c_cond hS rfl (fun hb8 => ?_) (fun hb8 => ?_)
  · replace H := ite_t hb8 H
    obtain ⟨r9, hr10, H⟩ := bind_el H
    refine c_region (fun K hK => ?_)
    refine st_enter hS rfl rfl rfl (r_call hS rfl rfl (by kernel_rfl)) (law28_awake.calls (g := g7) (N + 25)   hr10) ?_
    rintro _ a11 w12 ⟨g12, rfl, F12⟩ hS11
    replace hp0 := RdS.fr hp0 F12 (by decide) (fun q (hq : C0 q) (hm : N + 25 ≤ q) => by have := hC0 q hq; omega)
    replace hp1 := RdS.fr hp1 F12 (by decide) (fun q (hq : C1 q) (hm : N + 25 ≤ q) => by have := hC1 q hq; omega)
    replace hF := hF.trans F12 (fun c' (hm : N + 25 ≤ c') => by show N ≤ c'; omega)
    refine st_val hS11 rfl rfl rfl (r_assign hS11 rfl rfl) fun a13 hS13 => wpList_nil (hK _ _ ?_)
    replace hS : Sl 177 _ [(4, .bool r9)] := hS13.re ⟨rfl, trivial⟩
    clear hK K
    try clear hS11 hS13
    obtain ⟨a, ha⟩ : ∃ a', a' = a13 := ⟨_, rfl⟩
    rw [← ha] at hS ⊢; clear ha
    refine wp_ret ?_
    have e := Option.some.inj H
    subst e
    repeat (with_reducible first | refine then_ret ?_ | refine inBlock_ret ?_)
    exact c_ret1 hS Try.results11 rfl ⟨_, rfl, g12, rfl, hF⟩
  · replace H := ite_f hb8 H
    refine wp_skip ?_
    change Code.wp _ _ _ _ _
    obtain ⟨r15, hr16, H⟩ := bind_el H
    refine c_region (fun K hK => ?_)
    refine st_val hS rfl rfl rfl (r_move hS rfl rfl) fun a14 hS14 => ?_
    refine st_enter hS14 rfl rfl rfl (r_call hS14 rfl rfl (by kernel_rfl)) (law28_Some.calls (C0 := C0) (p0 := p0) (g := g7) (N + 25) (N + 0) hp0 (fun q (hq : C0 q) => by have := hC0 q hq; omega) (by omega) hr16) ?_
    rintro _ a21 w22 ⟨g22, A17, cap18, rfl, h19, F22⟩ hS21
    replace hp0 := RdS.fr hp0 F22 (by decide) (fun q (hq : C0 q) (hm : (N + 0 ≤ q ∧ q < N + 0 + 2) ∨ N + 25 ≤ q) => by have := hC0 q hq; omega)
    replace hp1 := RdS.fr hp1 F22 (by decide) (fun q (hq : C1 q) (hm : (N + 0 ≤ q ∧ q < N + 0 + 2) ∨ N + 25 ≤ q) => by have := hC1 q hq; omega)
    replace hF := hF.trans F22 (fun c' (hm : (N + 0 ≤ c' ∧ c' < N + 0 + 2) ∨ N + 25 ≤ c') => by show N ≤ c'; omega)
    refine st_val hS21 rfl rfl rfl (r_assign hS21 rfl rfl) fun a23 hS23 => wpList_nil (hK _ _ ?_)
    replace hS : Sl 177 _ [(1, .slice A1 p1.length cap1), (5, .slice A17 r15.length cap18)] := hS23.re ⟨rfl, rfl, trivial⟩
    clear hK K
    try clear hS14 hS21 hS23
    obtain ⟨a, ha⟩ : ∃ a', a' = a23 := ⟨_, rfl⟩
    rw [← ha] at hS ⊢; clear ha
    refine c_pure [(1, .slice A1 p1.length cap1), (5, .slice A17 r15.length cap18), (6, .slice none 0 0)] (fun R hR => st_val hS rfl rfl rfl (r_assign hS rfl rfl) fun a24 hS24 => wpList_nil (hR _ (hS24.re ⟨rfl, rfl, rfl, trivial⟩))) ?_
    clear hS
    clear a
    intro a hS
    obtain ⟨v29, H, Hl31⟩ := bind_el H
    refine c_cut (fun a w25 => ∃ (g25 : Nat → Nat), ∃ (A26 : Option Addr), ∃ (cap27 : Nat), Sl 177 a [(1, .slice A1 p1.length cap1), (5, .slice A17 v29.1.length cap18), (6, .slice A26 v29.2.length cap27)] ∧ OwS kd_api_IdleDevice 30 w25 g25 (N + 0) A17 cap18 v29.1 ∧ OwS kd_api_Link 67 w25 g25 (N + 4) A26 cap27 v29.2 ∧ RdS kd_law28_Call w25 g25 C1 A1 cap1 p1 ∧ Fr (fun q => N ≤ q) w g w25 g25) ?_ ?_
    · refine c_pure [(1, .slice A1 p1.length cap1), (5, .slice A17 r15.length cap18), (6, .slice none 0 0), (7, .int .i64 0)] (fun R hR => st_val hS rfl rfl rfl (r_assign hS rfl rfl) fun a32 hS32 => wpList_nil (hR _ (hS32.re ⟨rfl, rfl, rfl, rfl, trivial⟩))) ?_
      clear hS
      clear a
      intro a hS
      refine wp_block ?_
      refine wp_loop_ghost (fun kq => fun a w33 => ∃ (m0_0 : List api_IdleDevice), ∃ (m0_1 : List api_Link), ∃ (m0_2 : Int), ∃ (g33 : Nat → Nat), ∃ (A34 : Option Addr), ∃ (cap35 : Nat), law28_RuntimepmClosure.l0 kq m0_0 m0_1 m0_2 = some v29 ∧ Sl 177 a [(1, .slice A1 p1.length cap1), (5, .slice A17 m0_0.length cap18), (6, .slice A34 m0_1.length cap35), (7, .int .i64 m0_2)] ∧ OwS kd_api_IdleDevice 30 w33 g33 (N + 0) A17 cap18 m0_0 ∧ OwS kd_api_Link 67 w33 g33 (N + 4) A34 cap35 m0_1 ∧ RdS kd_law28_Call w33 g33 C1 A1 cap1 p1 ∧ Fr (fun q => N ≤ q) w g w33 g33) FUEL ?_ ?_
      · exact ⟨r15, [], 0, g22, none, 0, H, hS.re ⟨rfl, rfl, rfl, rfl, trivial⟩, h19, OwS.nil kd_api_Link 67 w22 g22 (N + 4), hp1, hF⟩
      · clear H
        clear hp1 h19 hF
        clear hS
        rintro k37 a w33 ⟨m0_0, m0_1, m0_2, g33, A34, cap35, hpre0, hS, h19, h36, hp1, hF⟩
        have H := hpre0
        clear hpre0
        cases k37 with
        | zero => exact absurd H (by simp [law28_RuntimepmClosure.l0])
        | succ k37 =>
          rw [law28_RuntimepmClosure.l0] at H
          refine wp_seq ?_
          refine c_pure [(1, .slice A1 p1.length cap1), (5, .slice A17 m0_0.length cap18), (6, .slice A34 m0_1.length cap35), (7, .int .i64 m0_2), (33, .bool (decide (m0_2 < (m0_0.length : Int))))] (fun R hR => st_val hS rfl rfl rfl (r_move hS rfl rfl) fun a38 hS38 => st_val hS38 rfl rfl rfl (r_move hS38 rfl rfl) fun a39 hS39 => st_val hS39 rfl rfl rfl (r_len (e := 30) (sz := 3) (by_ := 40) hS39 rfl rfl (by kernel_rfl)) fun a40 hS40 => st_val hS40 rfl rfl rfl (r_bin hS40 rfl rfl rfl b_lss) fun a41 hS41 => wpList_nil (hR _ (hS41.re ⟨rfl, rfl, rfl, rfl, rfl, trivial⟩))) ?_
          clear hS
          clear a
          intro a hS
          refine c_cond hS rfl (fun hb42 => ?_) (fun hb42 => ?_)
          · replace H := ite_t hb42 H
            refine wp_skip ?_
            change Code.wp _ _ _ _ _
            obtain ⟨v47, H, Hl49⟩ := bind_el H
            refine c_cut (fun a w43 => ∃ (g43 : Nat → Nat), ∃ (A44 : Option Addr), ∃ (cap45 : Nat), Sl 177 a [(1, .slice A1 p1.length cap1), (5, .slice A17 v47.1.length cap18), (6, .slice A44 v47.2.length cap45), (7, .int .i64 m0_2)] ∧ OwS kd_api_IdleDevice 30 w43 g43 (N + 0) A17 cap18 v47.1 ∧ OwS kd_api_Link 67 w43 g43 (N + 4) A44 cap45 v47.2 ∧ RdS kd_law28_Call w43 g43 C1 A1 cap1 p1 ∧ Fr (fun q => N ≤ q) w g w43 g43) ?_ ?_
            · refine wp_block ?_
              obtain ⟨x52, hx53, H⟩ := bind_el H
              refine c_region (fun K hK => ?_)
              refine st_val hS rfl rfl rfl (r_move hS rfl rfl) fun a50 hS50 => st_val hS50 rfl rfl rfl (r_move hS50 rfl rfl) fun a51 hS51 => ?_
              obtain ⟨_, ⟨A55, cap56, rfl, h57⟩, hel54⟩ := El.of (OwD.rdx h19) hx53 (by decide)
              replace hel54 : El w33 g33 (fun q => q = N + 0) A17 (m0_2.toNat * 3) [.int .i64 x52.Parent, .slice A55 x52.Suppliers.length cap56, .int .u64 x52.Delay] := hel54
              refine st_val hS51 rfl rfl rfl (r_index (e := 30) (sz := 3) (by_ := 40) hS51 rfl rfl rfl (by kernel_rfl) (RdS.some_ (OwS.rd h19) hx53) (idx_lo hx53) (idx_hi hx53)) fun a60 hS60 => st_val hS60 rfl rfl rfl (r_fieldE (off := 2) hS60 rfl rfl (by kernel_rfl)) fun a61 hS61 => ?_
              refine st_effS hS61 rfl rfl (e_storeE (n := 1) (bb := false) (kd := kd_api_IdleDevice) (j := 2) (x' := ({ x52 with Delay := 0 } : api_IdleDevice)) (us := [.int .u64 0]) g33 hS61 rfl rfl rfl rfl (by kernel_rfl) rfl rfl (by intro v hv; simp only [List.mem_cons, List.not_mem_nil, or_false] at hv; rcases hv with rfl <;> rfl) h19 hx53 rfl (fun _ _ cs hR => by obtain ⟨A0, cap0, rfl, h0⟩ := hR; exact ⟨A0, cap0, rfl, h0⟩)) ?_
              rintro a62 w63 g63 ⟨h19, F63⟩ hS62
              replace h57 := RdS.fr h57 F63 (by decide) (fun q (hq : q = N + 0 + 1) (hm : q = N + 0) => by omega)
              replace h36 := OwS.fr h36 F63 (fun c' hc (hm : c' = N + 0) => by omega)
              replace hp1 := RdS.fr hp1 F63 (by decide) (fun q (hq : C1 q) (hm : q = N + 0) => by have := hC1 q hq; omega)
              replace hF := hF.trans F63 (fun c' (hm : c' = N + 0) => by show N ≤ c'; omega)
              have hT : Sl 177 a62 [(1, .slice A1 p1.length cap1), (5, .slice A17 m0_0.length cap18), (6, .slice A34 m0_1.length cap35), (7, .int .i64 m0_2)] := hS62.re ⟨rfl, rfl, rfl, rfl, trivial⟩
              replace hS62 : Sl 177 a62 [(1, .slice A1 p1.length cap1), (5, .slice A17 (upd m0_0 m0_2 ({ x52 with Delay := 0 } : api_IdleDevice)).length cap18), (6, .slice A34 m0_1.length cap35), (7, .int .i64 m0_2)] := by simpa only [upd_length] using hT
              clear hT
              refine wpList_nil (hK _ _ ?_)
              replace hS : Sl 177 _ [(1, .slice A1 p1.length cap1), (5, .slice A17 (upd m0_0 m0_2 ({ x52 with Delay := 0 } : api_IdleDevice)).length cap18), (6, .slice A34 m0_1.length cap35), (7, .int .i64 m0_2)] := hS62.re ⟨rfl, rfl, rfl, rfl, trivial⟩
              clear hK K
              try clear hS50 hS51 hS60 hS61 hS62
              obtain ⟨a, ha⟩ : ∃ a', a' = a62 := ⟨_, rfl⟩
              rw [← ha] at hS ⊢; clear ha
              obtain ⟨v68, H, Hl70⟩ := bind_el H
              refine c_cut (fun a w64 => ∃ (g64 : Nat → Nat), ∃ (A65 : Option Addr), ∃ (cap66 : Nat), Sl 177 a [(1, .slice A1 p1.length cap1), (5, .slice A17 (upd m0_0 m0_2 ({ x52 with Delay := 0 } : api_IdleDevice)).length cap18), (6, .slice A65 v68.length cap66), (7, .int .i64 m0_2)] ∧ OwS kd_api_IdleDevice 30 w64 g64 (N + 0) A17 cap18 (upd m0_0 m0_2 ({ x52 with Delay := 0 } : api_IdleDevice)) ∧ OwS kd_api_Link 67 w64 g64 (N + 4) A65 cap66 v68 ∧ RdS kd_law28_Call w64 g64 C1 A1 cap1 p1 ∧ Fr (fun q => N ≤ q) w g w64 g64) ?_ ?_
              · obtain ⟨x73, hx74, H⟩ := bind_el H
                refine c_region (fun K hK => ?_)
                refine st_val hS rfl rfl rfl (r_move hS rfl rfl) fun a71 hS71 => st_val hS71 rfl rfl rfl (r_move hS71 rfl rfl) fun a72 hS72 => ?_
                obtain ⟨_, ⟨A76, cap77, rfl, h78⟩, hel75⟩ := El.of (OwD.rdx h19) hx74 (by decide)
                replace hel75 : El w63 g63 (fun q => q = N + 0) A17 (m0_2.toNat * 3) [.int .i64 x73.Parent, .slice A76 x73.Suppliers.length cap77, .int .u64 x73.Delay] := hel75
                refine st_val hS72 rfl rfl rfl (r_index (e := 30) (sz := 3) (by_ := 40) hS72 rfl rfl rfl (by kernel_rfl) (RdS.some_ (OwS.rd h19) hx74) (idx_lo hx74) (idx_hi hx74)) fun a81 hS81 => st_val hS81 rfl rfl rfl (r_fieldE (off := 0) hS81 rfl rfl (by kernel_rfl)) fun a82 hS82 => st_val hS82 rfl rfl rfl (r_load1 (n := 1) hS82 rfl rfl (by kernel_rfl) (El.cell (j := 0) hel75 rfl)) fun a83 hS83 => st_val hS83 rfl rfl rfl (r_bin hS83 rfl rfl rfl b_geq) fun a84 hS84 => wpList_nil (hK _ _ ?_)
                replace hS : Sl 177 _ [(1, .slice A1 p1.length cap1), (5, .slice A17 (upd m0_0 m0_2 ({ x52 with Delay := 0 } : api_IdleDevice)).length cap18), (6, .slice A34 m0_1.length cap35), (7, .int .i64 m0_2), (45, .bool (decide (0 ≤ x73.Parent)))] := hS84.re ⟨rfl, rfl, rfl, rfl, rfl, trivial⟩
                clear hK K
                try clear hS71 hS72 hS81 hS82 hS83 hS84
                obtain ⟨a, ha⟩ : ∃ a', a' = a84 := ⟨_, rfl⟩
                rw [← ha] at hS ⊢; clear ha
                refine c_cond hS rfl (fun hb85 => ?_) (fun hb85 => ?_)
                · replace H := ite_t hb85 H
                  obtain ⟨y105, hy106, H⟩ := bind_el H
                  refine c_region1 (fun K hK => ?_)
                  refine st_val hS rfl rfl rfl (r_move hS rfl rfl) fun a86 hS86 => st_val hS86 rfl rfl rfl (r_move hS86 rfl rfl) fun a87 hS87 => st_val hS87 rfl rfl rfl (r_move hS87 rfl rfl) fun a88 hS88 => st_val hS88 rfl rfl rfl (r_move hS88 rfl rfl) fun a89 hS89 => ?_
                  obtain ⟨_, ⟨A91, cap92, rfl, h93⟩, hel90⟩ := El.of (OwD.rdx h19) hx74 (by decide)
                  replace hel90 : El w63 g63 (fun q => q = N + 0) A17 (m0_2.toNat * 3) [.int .i64 x73.Parent, .slice A91 x73.Suppliers.length cap92, .int .u64 x73.Delay] := hel90
                  refine st_val hS89 rfl rfl rfl (r_index (e := 30) (sz := 3) (by_ := 40) hS89 rfl rfl rfl (by kernel_rfl) (RdS.some_ (OwS.rd h19) hx74) (idx_lo hx74) (idx_hi hx74)) fun a96 hS96 => st_val hS96 rfl rfl rfl (r_fieldE (off := 0) hS96 rfl rfl (by kernel_rfl)) fun a97 hS97 => st_val hS97 rfl rfl rfl (r_load1 (n := 1) hS97 rfl rfl (by kernel_rfl) (El.cell (j := 0) hel90 rfl)) fun a98 hS98 => st_val hS98 rfl rfl rfl (r_build (parts := [(0, .int .i64 m0_2), (1, .int .i64 x73.Parent)]) (u := .agg #[.int .i64 m0_2, .int .i64 x73.Parent]) hS98 rfl rfl (fun _ => by kernel_rfl)) fun a99 hS99 => ?_
                  refine st_eff hS99 rfl rfl rfl (e_lit (e := 67) (parts := [(0, .agg #[.int .i64 m0_2, .int .i64 x73.Parent])]) (cs := [.int .i64 m0_2, .int .i64 x73.Parent]) kd_api_Link [(api_Link.mk m0_2 x73.Parent)] (N + 2) g63 hS99 rfl rfl (fun _ => by kernel_rfl) rfl (by decide) (Rows.cons (cs := [.int .i64 m0_2, .int .i64 x73.Parent]) rfl Rows.nil)) ?_
                  rintro _ a103 w104 g104 ⟨⟨A100, rfl, h101⟩, F104⟩ hS103
                  replace h19 := OwS.fr h19 F104 (fun _ _ h => h)
                  replace h93 := RdS.fr h93 F104 (by decide) (fun _ _ h => h)
                  replace hel90 := hel90.fr F104 (fun _ _ h => h)
                  replace h36 := OwS.fr h36 F104 (fun _ _ h => h)
                  replace hp1 := RdS.fr hp1 F104 (by decide) (fun _ _ h => h)
                  replace hF := hF.trans F104 (fun _ h => h.elim)
                  refine st_eff hS103 rfl rfl rfl (e_append (e := 67) (sz := 2) (by_ := 16) (z := [.int .i64 0, .int .i64 0]) (kd := kd_api_Link) g104 hS103 rfl rfl rfl rfl (by kernel_rfl) (by kernel_rfl) rfl rfl rfl rfl h36 (OwD.rdx h101) (fun _ _ _ h => h) hy106) ?_
                  rintro _ a111 w112 g112 ⟨⟨A107, cap108, rfl, h109⟩, F112⟩ hS111
                  replace h101 := OwS.fr h101 F112 (fun c' hc (hm : c' = N + 4) => by omega)
                  replace h19 := OwS.fr h19 F112 (fun c' hc (hm : c' = N + 4) => by omega)
                  replace h93 := RdS.fr h93 F112 (by decide) (fun q (hq : q = N + 0 + 1) (hm : q = N + 4) => by omega)
                  replace hel90 := hel90.fr F112 (fun q (hq : q = N + 0) (hm : q = N + 4) => by omega)
                  replace hp1 := RdS.fr hp1 F112 (by decide) (fun q (hq : C1 q) (hm : q = N + 4) => by have := hC1 q hq; omega)
                  replace hF := hF.trans F112 (fun c' (hm : c' = N + 4) => by show N ≤ c'; omega)
                  refine st_val hS111 rfl rfl rfl (r_assign hS111 rfl rfl) fun a113 hS113 => wpList_nil (hK _ _ ?_)
                  replace hS : Sl 177 _ [(1, .slice A1 p1.length cap1), (5, .slice A17 (upd m0_0 m0_2 ({ x52 with Delay := 0 } : api_IdleDevice)).length cap18), (6, .slice A107 y105.length cap108), (7, .int .i64 m0_2)] := hS113.re ⟨rfl, rfl, rfl, rfl, trivial⟩
                  clear hK K
                  try clear hS86 hS87 hS88 hS89 hS96 hS97 hS98 hS99 hS103 hS111 hS113
                  obtain ⟨a, ha⟩ : ∃ a', a' = a113 := ⟨_, rfl⟩
                  rw [← ha] at hS ⊢; clear ha
                  have e := Option.some.inj H
                  subst e
                  exact ⟨g112, A107, cap108, hS.re ⟨rfl, rfl, rfl, rfl, trivial⟩, h19, h109, hp1, hF⟩
                · replace H := ite_f hb85 H
                  refine wp_skip ?_
                  have e := Option.some.inj H
                  subst e
                  exact ⟨g63, A34, cap35, hS.re ⟨rfl, rfl, rfl, rfl, trivial⟩, h19, h36, hp1, hF⟩
              · clear H
                clear hp1 h19 h36 hF
                clear hS
                rintro a w64 ⟨g64, A65, cap66, hS, h19, h67, hp1, hF⟩
                have H := Hl70
                clear Hl70
                refine c_pure [(1, .slice A1 p1.length cap1), (5, .slice A17 (upd m0_0 m0_2 ({ x52 with Delay := 0 } : api_IdleDevice)).length cap18), (6, .slice A65 v68.length cap66), (7, .int .i64 m0_2), (8, .int .i64 0)] (fun R hR => st_val hS rfl rfl rfl (r_assign hS rfl rfl) fun a114 hS114 => wpList_nil (hR _ (hS114.re ⟨rfl, rfl, rfl, rfl, rfl, trivial⟩))) ?_
                clear hS
                clear a
                intro a hS
                refine wp_block ?_
                refine wp_loop_ghost (fun kq => fun a w115 => ∃ (m1_0 : List api_Link), ∃ (m1_1 : Int), ∃ (g115 : Nat → Nat), ∃ (A116 : Option Addr), ∃ (cap117 : Nat), law28_RuntimepmClosure.l1 m0_0 m0_2 x52 kq m1_0 m1_1 = some v47 ∧ Sl 177 a [(1, .slice A1 p1.length cap1), (5, .slice A17 (upd m0_0 m0_2 ({ x52 with Delay := 0 } : api_IdleDevice)).length cap18), (6, .slice A116 m1_0.length cap117), (7, .int .i64 m0_2), (8, .int .i64 m1_1)] ∧ OwS kd_api_IdleDevice 30 w115 g115 (N + 0) A17 cap18 (upd m0_0 m0_2 ({ x52 with Delay := 0 } : api_IdleDevice)) ∧ OwS kd_api_Link 67 w115 g115 (N + 4) A116 cap117 m1_0 ∧ RdS kd_law28_Call w115 g115 C1 A1 cap1 p1 ∧ Fr (fun q => N ≤ q) w g w115 g115) FUEL ?_ ?_
                · exact ⟨v68, 0, g64, A65, cap66, H, hS.re ⟨rfl, rfl, rfl, rfl, rfl, trivial⟩, h19, h67, hp1, hF⟩
                · clear H
                  clear hp1 h19 h67 hF
                  clear hS
                  rintro k119 a w115 ⟨m1_0, m1_1, g115, A116, cap117, hpre0, hS, h19, h118, hp1, hF⟩
                  have H := hpre0
                  clear hpre0
                  cases k119 with
                  | zero => exact absurd H (by simp [law28_RuntimepmClosure.l1])
                  | succ k119 =>
                    rw [law28_RuntimepmClosure.l1] at H
                    refine wp_seq ?_
                    obtain ⟨x123, hx124, H⟩ := bind_el H
                    refine c_region (fun K hK => ?_)
                    refine st_val hS rfl rfl rfl (r_move hS rfl rfl) fun a120 hS120 => st_val hS120 rfl rfl rfl (r_move hS120 rfl rfl) fun a121 hS121 => st_val hS121 rfl rfl rfl (r_move hS121 rfl rfl) fun a122 hS122 => ?_
                    obtain ⟨_, ⟨A126, cap127, rfl, h128⟩, hel125⟩ := El.of (OwD.rdx h19) hx124 (by decide)
                    replace hel125 : El w115 g115 (fun q => q = N + 0) A17 (m0_2.toNat * 3) [.int .i64 x123.Parent, .slice A126 x123.Suppliers.length cap127, .int .u64 x123.Delay] := hel125
                    refine st_val hS122 rfl rfl rfl (r_index (e := 30) (sz := 3) (by_ := 40) hS122 rfl rfl rfl (by kernel_rfl) (RdS.some_ (OwS.rd h19) hx124) (idx_lo hx124) (idx_hi hx124)) fun a131 hS131 => st_val hS131 rfl rfl rfl (r_fieldE (off := 1) hS131 rfl rfl (by kernel_rfl)) fun a132 hS132 => st_val hS132 rfl rfl rfl (r_load1 (n := 1) hS132 rfl rfl (by kernel_rfl) (El.cell (j := 1) hel125 rfl)) fun a133 hS133 => st_val hS133 rfl rfl rfl (r_len (e := 3) (sz := 1) (by_ := 8) hS133 rfl rfl (by kernel_rfl)) fun a134 hS134 => st_val hS134 rfl rfl rfl (r_bin hS134 rfl rfl rfl b_lss) fun a135 hS135 => wpList_nil (hK _ _ ?_)
                    replace hS : Sl 177 _ [(1, .slice A1 p1.length cap1), (5, .slice A17 (upd m0_0 m0_2 ({ x52 with Delay := 0 } : api_IdleDevice)).length cap18), (6, .slice A116 m1_0.length cap117), (7, .int .i64 m0_2), (8, .int .i64 m1_1), (63, .bool (decide (m1_1 < (x123.Suppliers.length : Int))))] := hS135.re ⟨rfl, rfl, rfl, rfl, rfl, rfl, trivial⟩
                    clear hK K
                    try clear hS120 hS121 hS122 hS131 hS132 hS133 hS134 hS135
                    obtain ⟨a, ha⟩ : ∃ a', a' = a135 := ⟨_, rfl⟩
                    rw [← ha] at hS ⊢; clear ha
                    refine c_cond hS rfl (fun hb136 => ?_) (fun hb136 => ?_)
                    · replace H := ite_t hb136 H
                      refine wp_skip ?_
                      change Code.wp _ _ _ _ _
                      refine wp_seq ?_
                      refine wp_block ?_
                      obtain ⟨x151, hx152, H⟩ := bind_el H
                      obtain ⟨y161, hy162, H⟩ := bind_el H
                      refine c_region1 (fun K hK => ?_)
                      refine st_val hS rfl rfl rfl (r_move hS rfl rfl) fun a137 hS137 => st_val hS137 rfl rfl rfl (r_move hS137 rfl rfl) fun a138 hS138 => st_val hS138 rfl rfl rfl (r_move hS138 rfl rfl) fun a139 hS139 => st_val hS139 rfl rfl rfl (r_move hS139 rfl rfl) fun a140 hS140 => ?_
                      obtain ⟨_, ⟨A142, cap143, rfl, h144⟩, hel141⟩ := El.of (OwD.rdx h19) hx124 (by decide)
                      replace hel141 : El w115 g115 (fun q => q = N + 0) A17 (m0_2.toNat * 3) [.int .i64 x123.Parent, .slice A142 x123.Suppliers.length cap143, .int .u64 x123.Delay] := hel141
                      refine st_val hS140 rfl rfl rfl (r_index (e := 30) (sz := 3) (by_ := 40) hS140 rfl rfl rfl (by kernel_rfl) (RdS.some_ (OwS.rd h19) hx124) (idx_lo hx124) (idx_hi hx124)) fun a147 hS147 => st_val hS147 rfl rfl rfl (r_fieldE (off := 1) hS147 rfl rfl (by kernel_rfl)) fun a148 hS148 => st_val hS148 rfl rfl rfl (r_load1 (n := 1) hS148 rfl rfl (by kernel_rfl) (El.cell (j := 1) hel141 rfl)) fun a149 hS149 => st_val hS149 rfl rfl rfl (r_move hS149 rfl rfl) fun a150 hS150 => st_val hS150 rfl rfl rfl (r_index (e := 3) (sz := 1) (by_ := 8) hS150 rfl rfl rfl (by kernel_rfl) (RdS.some_ h144 hx152) (idx_lo hx152) (idx_hi hx152)) fun a153 hS153 => st_val hS153 rfl rfl rfl (r_load1 (n := 1) hS153 rfl rfl (by kernel_rfl) (RdS.cell (i := m1_1) (sz := 1) (j := 0) h144 hx152 rfl)) fun a154 hS154 => st_val hS154 rfl rfl rfl (r_build (parts := [(0, .int .i64 m0_2), (1, .int .i64 x151)]) (u := .agg #[.int .i64 m0_2, .int .i64 x151]) hS154 rfl rfl (fun _ => by kernel_rfl)) fun a155 hS155 => ?_
                      refine st_eff hS155 rfl rfl rfl (e_lit (e := 67) (parts := [(0, .agg #[.int .i64 m0_2, .int .i64 x151])]) (cs := [.int .i64 m0_2, .int .i64 x151]) kd_api_Link [(api_Link.mk m0_2 x151)] (N + 6) g115 hS155 rfl rfl (fun _ => by kernel_rfl) rfl (by decide) (Rows.cons (cs := [.int .i64 m0_2, .int .i64 x151]) rfl Rows.nil)) ?_
                      rintro _ a159 w160 g160 ⟨⟨A156, rfl, h157⟩, F160⟩ hS159
                      replace h144 := RdS.fr h144 F160 (by decide) (fun _ _ h => h)
                      replace hel141 := hel141.fr F160 (fun _ _ h => h)
                      replace h19 := OwS.fr h19 F160 (fun _ _ h => h)
                      replace h118 := OwS.fr h118 F160 (fun _ _ h => h)
                      replace hp1 := RdS.fr hp1 F160 (by decide) (fun _ _ h => h)
                      replace hF := hF.trans F160 (fun _ h => h.elim)
                      refine st_eff hS159 rfl rfl rfl (e_append (e := 67) (sz := 2) (by_ := 16) (z := [.int .i64 0, .int .i64 0]) (kd := kd_api_Link) g160 hS159 rfl rfl rfl rfl (by kernel_rfl) (by kernel_rfl) rfl rfl rfl rfl h118 (OwD.rdx h157) (fun _ _ _ h => h) hy162) ?_
                      rintro _ a167 w168 g168 ⟨⟨A163, cap164, rfl, h165⟩, F168⟩ hS167
                      replace h144 := RdS.fr h144 F168 (by decide) (fun q (hq : q = N + 0 + 1) (hm : q = N + 4) => by omega)
                      replace hel141 := hel141.fr F168 (fun q (hq : q = N + 0) (hm : q = N + 4) => by omega)
                      replace h157 := OwS.fr h157 F168 (fun c' hc (hm : c' = N + 4) => by omega)
                      replace h19 := OwS.fr h19 F168 (fun c' hc (hm : c' = N + 4) => by omega)
                      replace hp1 := RdS.fr hp1 F168 (by decide) (fun q (hq : C1 q) (hm : q = N + 4) => by have := hC1 q hq; omega)
                      replace hF := hF.trans F168 (fun c' (hm : c' = N + 4) => by show N ≤ c'; omega)
                      refine st_val hS167 rfl rfl rfl (r_assign hS167 rfl rfl) fun a169 hS169 => wpList_nil (hK _ _ ?_)
                      replace hS : Sl 177 _ [(1, .slice A1 p1.length cap1), (5, .slice A17 (upd m0_0 m0_2 ({ x52 with Delay := 0 } : api_IdleDevice)).length cap18), (6, .slice A163 y161.length cap164), (7, .int .i64 m0_2), (8, .int .i64 m1_1)] := hS169.re ⟨rfl, rfl, rfl, rfl, rfl, trivial⟩
                      clear hK K
                      try clear hS137 hS138 hS139 hS140 hS147 hS148 hS149 hS150 hS153 hS154 hS155 hS159 hS167 hS169
                      obtain ⟨a, ha⟩ : ∃ a', a' = a169 := ⟨_, rfl⟩
                      rw [← ha] at hS ⊢; clear ha
                      change Code.wp _ _ _ _ _
                      refine c_pure1 [(1, .slice A1 p1.length cap1), (5, .slice A17 (upd m0_0 m0_2 ({ x52 with Delay := 0 } : api_IdleDevice)).length cap18), (6, .slice A163 y161.length cap164), (7, .int .i64 m0_2), (8, .int .i64 (wi (m1_1 + 1)))] (fun R hR => st_val hS rfl rfl rfl (r_move hS rfl rfl) fun a170 hS170 => st_val hS170 rfl rfl rfl (r_bin hS170 rfl rfl rfl b_add) fun a171 hS171 => st_val hS171 rfl rfl rfl (r_assign hS171 rfl rfl) fun a172 hS172 => wpList_nil (hR _ (hS172.re ⟨rfl, rfl, rfl, rfl, rfl, trivial⟩))) ?_
                      clear hS
                      clear a
                      intro a hS
                      refine ⟨k119, Nat.lt_succ_self _, ?_⟩
                      exact ⟨y161, wi (m1_1 + 1), g168, A163, cap164, H, hS.re ⟨rfl, rfl, rfl, rfl, rfl, trivial⟩, h19, h165, hp1, hF⟩
                    · replace H := ite_f hb136 H
                      refine wp_exit ?_
                      have e := Option.some.inj H
                      subst e
                      exact ⟨g115, A116, cap117, hS.re ⟨rfl, rfl, rfl, rfl, trivial⟩, h19, h118, hp1, hF⟩
            · clear H
              clear hp1 h19 h36 hF
              clear hS
              rintro a w43 ⟨g43, A44, cap45, hS, h19, h46, hp1, hF⟩
              have H := Hl49
              clear Hl49
              refine c_pure1 [(1, .slice A1 p1.length cap1), (5, .slice A17 v47.1.length cap18), (6, .slice A44 v47.2.length cap45), (7, .int .i64 (wi (m0_2 + 1)))] (fun R hR => st_val hS rfl rfl rfl (r_move hS rfl rfl) fun a173 hS173 => st_val hS173 rfl rfl rfl (r_bin hS173 rfl rfl rfl b_add) fun a174 hS174 => st_val hS174 rfl rfl rfl (r_assign hS174 rfl rfl) fun a175 hS175 => wpList_nil (hR _ (hS175.re ⟨rfl, rfl, rfl, rfl, trivial⟩))) ?_
              clear hS
              clear a
              intro a hS
              refine ⟨k37, Nat.lt_succ_self _, ?_⟩
              exact ⟨v47.1, v47.2, wi (m0_2 + 1), g43, A44, cap45, H, hS.re ⟨rfl, rfl, rfl, rfl, trivial⟩, h19, h46, hp1, hF⟩
          · replace H := ite_f hb42 H
            refine wp_exit ?_
            have e := Option.some.inj H
            subst e
            exact ⟨g33, A34, cap35, hS.re ⟨rfl, rfl, rfl, trivial⟩, h19, h36, hp1, hF⟩
    · clear H
      clear hp1 h19 hF
      clear hS
      rintro a w25 ⟨g25, A26, cap27, hS, h19, h28, hp1, hF⟩
      have H := Hl31
      clear Hl31
      obtain ⟨r177, hr178, H⟩ := bind_el H
      refine c_region (fun K hK => ?_)
      refine st_val hS rfl rfl rfl (r_move hS rfl rfl) fun a176 hS176 => ?_
      refine st_enter hS176 rfl rfl rfl (r_call hS176 rfl rfl (by kernel_rfl)) (runtimepm_New.calls (C0 := (fun q => q = N + 0 ∨ q = N + 0 + 1)) (p0 := v29.1) (g := g25) (N + 25) (N + 8) (OwS.rd h19) (fun q (hq : q = N + 0 ∨ q = N + 0 + 1) => by rcases hq with hq | hq; all_goals first | (omega; done) | (omega; done)) (by omega) hr178) ?_
      rintro _ a182 w183 ⟨g183, p179, rfl, h180, F183⟩ hS182
      replace h19 := OwS.fr h19 F183 (fun c' hc (hm : (N + 8 ≤ c' ∧ c' < N + 8 + 7) ∨ N + 25 ≤ c') => by omega)
      replace h28 := OwS.fr h28 F183 (fun c' hc (hm : (N + 8 ≤ c' ∧ c' < N + 8 + 7) ∨ N + 25 ≤ c') => by omega)
      replace hp1 := RdS.fr hp1 F183 (by decide) (fun q (hq : C1 q) (hm : (N + 8 ≤ q ∧ q < N + 8 + 7) ∨ N + 25 ≤ q) => by have := hC1 q hq; omega)
      replace hF := hF.trans F183 (fun c' (hm : (N + 8 ≤ c' ∧ c' < N + 8 + 7) ∨ N + 25 ≤ c') => by show N ≤ c'; omega)
      refine st_val hS182 rfl rfl rfl (r_move hS182 rfl rfl) fun a184 hS184 => st_val hS184 rfl rfl rfl (r_extract hS184 rfl rfl rfl) fun a185 hS185 => st_val hS185 rfl rfl rfl (r_extract hS185 rfl rfl rfl) fun a186 hS186 => st_val hS186 rfl rfl rfl (r_assign hS186 rfl rfl) fun a187 hS187 => st_val hS187 rfl rfl rfl (r_assign hS187 rfl rfl) fun a188 hS188 => wpList_nil (hK _ _ ?_)
      replace hS : Sl 177 _ [(1, .slice A1 p1.length cap1), (5, .slice A17 v29.1.length cap18), (6, .slice A26 v29.2.length cap27), (9, .pointer p179), (10, .int .i64 r177.2)] := hS188.re ⟨rfl, rfl, rfl, rfl, rfl, trivial⟩
      clear hK K
      try clear hS176 hS182 hS184 hS185 hS186 hS187 hS188
      obtain ⟨a, ha⟩ : ∃ a', a' = a188 := ⟨_, rfl⟩
      rw [← ha] at hS ⊢; clear ha
      refine wp_seq ?_
      refine c_region (fun K hK => ?_)
      refine st_val hS rfl rfl rfl (r_move hS rfl rfl) fun a189 hS189 => st_val hS189 rfl rfl rfl (r_bin hS189 rfl rfl rfl b_neq) fun a190 hS190 => st_val hS190 rfl rfl rfl (r_move hS190 rfl rfl) fun a191 hS191 => ?_
      refine g_join (N := 177) 3 [(1, .slice A1 p1.length cap1), (5, .slice A17 v29.1.length cap18), (6, .slice A26 v29.2.length cap27), (9, .pointer p179), (89, .bool ((r177.2 != 0) || r177.1.isNone))] ?_ (fun hk => ?_)
      rotate_left
      · rcases Bool.eq_false_or_eq_true ((r177.2 != 0)) with hb192 | hb192
        · refine st_off hS191 (want_off hS191 rfl rfl rfl hb192) rfl rfl fun a195 hS195 => st_off hS195 (want_off hS195 rfl rfl rfl hb192) rfl rfl fun a196 hS196 => st_val hS196 rfl rfl rfl (r_pickT hS196 rfl rfl rfl hb192) fun a197 hS197 => hk _ (hS197.re ⟨rfl, rfl, rfl, rfl, (by rw [hb192]; rfl), trivial⟩)
        · refine st_valW hS191 (want_on hS191 rfl rfl rfl hb192) rfl rfl (r_move hS191 rfl rfl) fun a198 hS198 => st_valW hS198 (want_on hS198 rfl rfl rfl hb192) rfl rfl (r_optEq hS198 rfl rfl (by kernel_rfl) (runtimepm_Manager_Opt.isNone h180)) fun a199 hS199 => st_val hS199 rfl rfl rfl (r_pickF hS199 rfl rfl rfl hb192) fun a200 hS200 => hk _ (hS200.re ⟨rfl, rfl, rfl, rfl, (by rw [hb192]; rfl), trivial⟩)
      intro a201 hS201
      refine wpList_nil (hK _ _ ?_)
      replace hS : Sl 177 _ [(1, .slice A1 p1.length cap1), (5, .slice A17 v29.1.length cap18), (6, .slice A26 v29.2.length cap27), (9, .pointer p179), (89, .bool ((r177.2 != 0) || r177.1.isNone))] := hS201.re ⟨rfl, rfl, rfl, rfl, rfl, trivial⟩
      clear hK K
      try clear hS189 hS190 hS191 hS201
      obtain ⟨a, ha⟩ : ∃ a', a' = a201 := ⟨_, rfl⟩
      rw [← ha] at hS ⊢; clear ha
      refine c_cond hS rfl (fun hb202 => ?_) (fun hb202 => ?_)
      · replace H := ite_t hb202 H
        refine c_pure [(4, .bool false)] (fun R hR => st_val hS rfl rfl rfl (r_assign hS rfl rfl) fun a203 hS203 => wpList_nil (hR _ (hS203.re ⟨rfl, trivial⟩))) ?_
        clear hS
        clear a
        intro a hS
        refine wp_ret ?_
        have e := Option.some.inj H
        subst e
        repeat (with_reducible first | refine then_ret ?_ | refine inBlock_ret ?_)
        exact c_ret1 hS Try.results11 rfl ⟨_, rfl, g183, rfl, hF⟩
      · replace H := ite_f hb202 H
        refine wp_skip ?_
        change Code.wp _ _ _ _ _
        refine c_pure [(1, .slice A1 p1.length cap1), (5, .slice A17 v29.1.length cap18), (6, .slice A26 v29.2.length cap27), (9, .pointer p179), (11, .int .u64 0)] (fun R hR => st_val hS rfl rfl rfl (r_assign hS rfl rfl) fun a204 hS204 => wpList_nil (hR _ (hS204.re ⟨rfl, rfl, rfl, rfl, rfl, trivial⟩))) ?_
        clear hS
        clear a
        intro a hS
        obtain ⟨o207, H, Hl208⟩ := bind_el H
        refine c_cut (fun a w205 => ∃ (g205 : Nat → Nat), o207 = .nxt () ∧ Sl 177 a [] ∧ Fr (fun q => N ≤ q) w g w205 g205) ?_ ?_
        · refine c_pure [(1, .slice A1 p1.length cap1), (5, .slice A17 v29.1.length cap18), (6, .slice A26 v29.2.length cap27), (9, .pointer p179), (11, .int .u64 0), (12, .int .i64 0)] (fun R hR => st_val hS rfl rfl rfl (r_assign hS rfl rfl) fun a209 hS209 => wpList_nil (hR _ (hS209.re ⟨rfl, rfl, rfl, rfl, rfl, rfl, trivial⟩))) ?_
          clear hS
          clear a
          intro a hS
          refine wp_block ?_
          obtain ⟨st210, hst211, H⟩ := bind_el H
          rw [hst211] at h180
          obtain ⟨b212, A215, cap216, A219, cap220, A223, cap224, hp227, h213, h217, h221, h225⟩ := h180
          subst hp227
          refine wp_loop_ghost (fun kq => fun a w228 => ∃ (m2_0 : runtimepm_Manager), ∃ (m2_1 : Int), ∃ (m2_2 : Int), ∃ (g228 : Nat → Nat), law28_RuntimepmClosure.l2 p1 v29 kq m2_0 m2_1 m2_2 = some o207 ∧ Sl 177 a [(1, .slice A1 p1.length cap1), (5, .slice A17 v29.1.length cap18), (6, .slice A26 v29.2.length cap27), (9, .pointer (some ⟨b212, 0, none⟩)), (11, .int .u64 m2_1), (12, .int .i64 m2_2)] ∧ OwS kd_api_IdleDevice 30 w228 g228 (N + 0) A17 cap18 v29.1 ∧ Bx w228 g228 (N + 8) b212 85 [.slice A215 m2_0.devices.length cap216, .slice A219 m2_0.links.length cap220, .slice A223 m2_0.order.length cap224, .int .u64 m2_0.now] ∧ OwS kd_runtimepm_device 88 w228 g228 (N + 8 + 1) A215 cap216 m2_0.devices ∧ OwS kd_api_Link 67 w228 g228 (N + 8 + 3) A219 cap220 m2_0.links ∧ OwS (kint .i64) 3 w228 g228 (N + 8 + 5) A223 cap224 m2_0.order ∧ OwS kd_api_Link 67 w228 g228 (N + 4) A26 cap27 v29.2 ∧ RdS kd_law28_Call w228 g228 C1 A1 cap1 p1 ∧ Fr (fun q => N ≤ q) w g w228 g228) FUEL ?_ ?_
          · exact ⟨st210, 0, 0, g183, H, hS.re ⟨rfl, rfl, rfl, rfl, rfl, rfl, trivial⟩, h19, h213, h217, h221, h225, h28, hp1, hF⟩
          · clear H
            clear hp1 h19 h28 h217 h221 h225 h213 hF
            clear hS
            rintro k229 a w228 ⟨m2_0, m2_1, m2_2, g228, hpre0, hS, h19, h213, h217, h221, h225, h28, hp1, hF⟩
            have H := hpre0
            clear hpre0
            cases k229 with
            | zero => exact absurd H (by simp [law28_RuntimepmClosure.l2])
            | succ k229 =>
              rw [law28_RuntimepmClosure.l2] at H
              refine wp_seq ?_
              refine c_pure [(1, .slice A1 p1.length cap1), (5, .slice A17 v29.1.length cap18), (6, .slice A26 v29.2.length cap27), (9, .pointer (some ⟨b212, 0, none⟩)), (11, .int .u64 m2_1), (12, .int .i64 m2_2), (93, .bool (decide (m2_2 < (p1.length : Int))))] (fun R hR => st_val hS rfl rfl rfl (r_move hS rfl rfl) fun a230 hS230 => st_val hS230 rfl rfl rfl (r_move hS230 rfl rfl) fun a231 hS231 => st_val hS231 rfl rfl rfl (r_len (e := 54) (sz := 4) (by_ := 32) hS231 rfl rfl (by kernel_rfl)) fun a232 hS232 => st_val hS232 rfl rfl rfl (r_bin hS232 rfl rfl rfl b_lss) fun a233 hS233 => wpList_nil (hR _ (hS233.re ⟨rfl, rfl, rfl, rfl, rfl, rfl, rfl, trivial⟩))) ?_
              clear hS
              clear a
              intro a hS
              refine c_cond hS rfl (fun hb234 => ?_) (fun hb234 => ?_)
              · replace H := ite_t hb234 H
                refine wp_skip ?_
                change Code.wp _ _ _ _ _
                obtain ⟨o237, H, Hl238⟩ := bind_el H
                refine c_cut (fun a w235 => ∃ (v236 : runtimepm_Manager × Int), ∃ (g235 : Nat → Nat), o237 = .nxt v236 ∧ Sl 177 a [(1, .slice A1 p1.length cap1), (5, .slice A17 v29.1.length cap18), (6, .slice A26 v29.2.length cap27), (9, .pointer (some ⟨b212, 0, none⟩)), (11, .int .u64 v236.2), (12, .int .i64 m2_2)] ∧ OwS kd_api_IdleDevice 30 w235 g235 (N + 0) A17 cap18 v29.1 ∧ Bx w235 g235 (N + 8) b212 85 [.slice A215 v236.1.devices.length cap216, .slice A219 v236.1.links.length cap220, .slice A223 v236.1.order.length cap224, .int .u64 v236.1.now] ∧ OwS kd_runtimepm_device 88 w235 g235 (N + 8 + 1) A215 cap216 v236.1.devices ∧ OwS kd_api_Link 67 w235 g235 (N + 8 + 3) A219 cap220 v236.1.links ∧ OwS (kint .i64) 3 w235 g235 (N + 8 + 5) A223 cap224 v236.1.order ∧ OwS kd_api_Link 67 w235 g235 (N + 4) A26 cap27 v29.2 ∧ RdS kd_law28_Call w235 g235 C1 A1 cap1 p1 ∧ Fr (fun q => N ≤ q) w g w235 g235) ?_ ?_
                · refine wp_block ?_
                  obtain ⟨x241, hx242, H⟩ := bind_el H
                  refine c_region (fun K hK => ?_)
                  refine st_val hS rfl rfl rfl (r_move hS rfl rfl) fun a239 hS239 => st_val hS239 rfl rfl rfl (r_move hS239 rfl rfl) fun a240 hS240 => st_val hS240 rfl rfl rfl (r_index (e := 54) (sz := 4) (by_ := 32) hS240 rfl rfl rfl (by kernel_rfl) (RdS.some_ hp1 hx242) (idx_lo hx242) (idx_hi hx242)) fun a243 hS243 => st_val hS243 rfl rfl rfl (r_loadN (n := 4) (cs := [.int .i64 x241.Kind, .int .i64 x241.Device, .int .u64 x241.Wait, .bool x241.Raw]) hS243 rfl rfl (by kernel_rfl) rfl (RdS.cells_off hp1 hx242 0 4)) fun a244 hS244 => ?_
                  refine st_eff hS244 rfl rfl rfl (e_alloc (cs := [.int .i64 0, .int .i64 0, .int .u64 0, .bool false]) (N + 15) g228 hS244 rfl (by kernel_rfl)) ?_
                  rintro _ a248 w249 g249 ⟨⟨b245, rfl, h246⟩, F249⟩ hS248
                  replace h19 := OwS.fr h19 F249 (fun _ _ h => h)
                  replace h213 := h213.fr F249 (fun h => h)
                  replace h217 := OwS.fr h217 F249 (fun _ _ h => h)
                  replace h221 := OwS.fr h221 F249 (fun _ _ h => h)
                  replace h225 := OwS.fr h225 F249 (fun _ _ h => h)
                  replace h28 := OwS.fr h28 F249 (fun _ _ h => h)
                  replace hp1 := RdS.fr hp1 F249 (by decide) (fun _ _ h => h)
                  replace hF := hF.trans F249 (fun _ h => h.elim)
                  refine st_effS hS248 rfl rfl (e_storeB (n := 4) (bb := true) (cs' := [.int .i64 x241.Kind, .int .i64 x241.Device, .int .u64 x241.Wait, .bool x241.Raw]) g249 hS248 rfl rfl rfl (by kernel_rfl) rfl rfl rfl h246 rfl rfl) ?_
                  rintro a250 w251 g251 ⟨h246, F251⟩ hS250
                  replace h19 := OwS.fr h19 F251 (fun c' hc (hm : c' = N + 15) => by omega)
                  replace h213 := h213.fr F251 (fun (hm : N + 8 = N + 15) => by omega)
                  replace h217 := OwS.fr h217 F251 (fun c' hc (hm : c' = N + 15) => by omega)
                  replace h221 := OwS.fr h221 F251 (fun c' hc (hm : c' = N + 15) => by omega)
                  replace h225 := OwS.fr h225 F251 (fun c' hc (hm : c' = N + 15) => by omega)
                  replace h28 := OwS.fr h28 F251 (fun c' hc (hm : c' = N + 15) => by omega)
                  replace hp1 := RdS.fr hp1 F251 (by decide) (fun q (hq : C1 q) (hm : q = N + 15) => by have := hC1 q hq; omega)
                  replace hF := hF.trans F251 (fun c' (hm : c' = N + 15) => by show N ≤ c'; omega)
                  refine wpList_nil (hK _ _ ?_)
                  replace hS : Sl 177 _ [(1, .slice A1 p1.length cap1), (5, .slice A17 v29.1.length cap18), (6, .slice A26 v29.2.length cap27), (9, .pointer (some ⟨b212, 0, none⟩)), (11, .int .u64 m2_1), (12, .int .i64 m2_2), (13, .pointer (some ⟨b245, 0, none⟩))] := hS250.re ⟨rfl, rfl, rfl, rfl, rfl, rfl, rfl, trivial⟩
                  clear hK K
                  try clear hS239 hS240 hS243 hS244 hS248 hS250
                  obtain ⟨a, ha⟩ : ∃ a', a' = a250 := ⟨_, rfl⟩
                  rw [← ha] at hS ⊢; clear ha
                  refine c_region (fun K hK => ?_)
                  refine st_val hS rfl rfl rfl (r_fieldB (off := 3) hS rfl rfl (by kernel_rfl)) fun a252 hS252 => ?_
                  refine st_effS hS252 rfl rfl (e_storeB (n := 1) (bb := false) (cs' := [.int .i64 x241.Kind, .int .i64 x241.Device, .int .u64 x241.Wait, .bool false]) g251 hS252 rfl rfl rfl (by kernel_rfl) rfl rfl rfl h246 rfl rfl) ?_
                  rintro a253 w254 g254 ⟨h246, F254⟩ hS253
                  replace h19 := OwS.fr h19 F254 (fun c' hc (hm : c' = N + 15) => by omega)
                  replace h213 := h213.fr F254 (fun (hm : N + 8 = N + 15) => by omega)
                  replace h217 := OwS.fr h217 F254 (fun c' hc (hm : c' = N + 15) => by omega)
                  replace h221 := OwS.fr h221 F254 (fun c' hc (hm : c' = N + 15) => by omega)
                  replace h225 := OwS.fr h225 F254 (fun c' hc (hm : c' = N + 15) => by omega)
                  replace h28 := OwS.fr h28 F254 (fun c' hc (hm : c' = N + 15) => by omega)
                  replace hp1 := RdS.fr hp1 F254 (by decide) (fun q (hq : C1 q) (hm : q = N + 15) => by have := hC1 q hq; omega)
                  replace hF := hF.trans F254 (fun c' (hm : c' = N + 15) => by show N ≤ c'; omega)
                  refine wpList_nil (hK _ _ ?_)
                  replace hS : Sl 177 _ [(1, .slice A1 p1.length cap1), (5, .slice A17 v29.1.length cap18), (6, .slice A26 v29.2.length cap27), (9, .pointer (some ⟨b212, 0, none⟩)), (11, .int .u64 m2_1), (12, .int .i64 m2_2), (13, .pointer (some ⟨b245, 0, none⟩))] := hS253.re ⟨rfl, rfl, rfl, rfl, rfl, rfl, rfl, trivial⟩
                  clear hK K
                  try clear hS252 hS253
                  obtain ⟨a, ha⟩ : ∃ a', a' = a253 := ⟨_, rfl⟩
                  rw [← ha] at hS ⊢; clear ha
                  obtain ⟨r259, hr260, H⟩ := bind_el H
                  refine c_region (fun K hK => ?_)
                  refine st_val hS rfl rfl rfl (r_loadN (n := 4) (cs := [.int .i64 x241.Kind, .int .i64 x241.Device, .int .u64 x241.Wait, .bool false]) hS rfl rfl (by kernel_rfl) rfl (Bx.cells_off h246 0 4)) fun a255 hS255 => st_val hS255 rfl rfl rfl (r_move hS255 rfl rfl) fun a256 hS256 => st_val hS256 rfl rfl rfl (r_len (e := 30) (sz := 3) (by_ := 40) hS256 rfl rfl (by kernel_rfl)) fun a257 hS257 => st_val hS257 rfl rfl rfl (r_move hS257 rfl rfl) fun a258 hS258 => ?_
                  refine st_enter hS258 rfl rfl rfl (r_call hS258 rfl rfl (by kernel_rfl)) (law28_Call_at.calls (p0 := (law28_Call.mk x241.Kind x241.Device x241.Wait false)) (p1 := (v29.1.length : Int)) (p2 := m2_1) (g := g254) (N + 25)   hr260) ?_
                  rintro _ a261 w262 ⟨g262, rfl, F262⟩ hS261
                  replace h19 := OwS.fr h19 F262 (fun c' hc (hm : N + 25 ≤ c') => by omega)
                  replace h213 := h213.fr F262 (fun (hm : N + 25 ≤ N + 8) => by omega)
                  replace h217 := OwS.fr h217 F262 (fun c' hc (hm : N + 25 ≤ c') => by omega)
                  replace h221 := OwS.fr h221 F262 (fun c' hc (hm : N + 25 ≤ c') => by omega)
                  replace h225 := OwS.fr h225 F262 (fun c' hc (hm : N + 25 ≤ c') => by omega)
                  replace h246 := h246.fr F262 (fun (hm : N + 25 ≤ N + 15) => by omega)
                  replace h28 := OwS.fr h28 F262 (fun c' hc (hm : N + 25 ≤ c') => by omega)
                  replace hp1 := RdS.fr hp1 F262 (by decide) (fun q (hq : C1 q) (hm : N + 25 ≤ q) => by have := hC1 q hq; omega)
                  replace hF := hF.trans F262 (fun c' (hm : N + 25 ≤ c') => by show N ≤ c'; omega)
                  refine st_val hS261 rfl rfl rfl (r_move hS261 rfl rfl) fun a263 hS263 => st_val hS263 rfl rfl rfl (r_extract hS263 rfl rfl rfl) fun a264 hS264 => st_val hS264 rfl rfl rfl (r_extract hS264 rfl rfl rfl) fun a265 hS265 => st_val hS265 rfl rfl rfl (r_assign hS265 rfl rfl) fun a266 hS266 => st_val hS266 rfl rfl rfl (r_assign hS266 rfl rfl) fun a267 hS267 => wpList_nil (hK _ _ ?_)
                  replace hS : Sl 177 _ [(1, .slice A1 p1.length cap1), (5, .slice A17 v29.1.length cap18), (6, .slice A26 v29.2.length cap27), (9, .pointer (some ⟨b212, 0, none⟩)), (11, .int .u64 m2_1), (12, .int .i64 m2_2), (13, .pointer (some ⟨b245, 0, none⟩)), (15, .int .u64 r259.2)] := hS267.re ⟨rfl, rfl, rfl, rfl, rfl, rfl, rfl, rfl, trivial⟩
                  clear hK K
                  try clear hS255 hS256 hS257 hS258 hS261 hS263 hS264 hS265 hS266 hS267
                  obtain ⟨a, ha⟩ : ∃ a', a' = a267 := ⟨_, rfl⟩
                  rw [← ha] at hS ⊢; clear ha
                  obtain ⟨v269, H, Hl271⟩ := bind_el H
                  refine c_cut (fun a w268 => ∃ (g268 : Nat → Nat), Sl 177 a [(1, .slice A1 p1.length cap1), (5, .slice A17 v29.1.length cap18), (6, .slice A26 v29.2.length cap27), (9, .pointer (some ⟨b212, 0, none⟩)), (11, .int .u64 v269.2), (12, .int .i64 m2_2)] ∧ OwS kd_api_IdleDevice 30 w268 g268 (N + 0) A17 cap18 v29.1 ∧ Bx w268 g268 (N + 8) b212 85 [.slice A215 v269.1.devices.length cap216, .slice A219 v269.1.links.length cap220, .slice A223 v269.1.order.length cap224, .int .u64 v269.1.now] ∧ OwS kd_runtimepm_device 88 w268 g268 (N + 8 + 1) A215 cap216 v269.1.devices ∧ OwS kd_api_Link 67 w268 g268 (N + 8 + 3) A219 cap220 v269.1.links ∧ OwS (kint .i64) 3 w268 g268 (N + 8 + 5) A223 cap224 v269.1.order ∧ OwS kd_api_Link 67 w268 g268 (N + 4) A26 cap27 v29.2 ∧ RdS kd_law28_Call w268 g268 C1 A1 cap1 p1 ∧ Fr (fun q => N ≤ q) w g w268 g268) ?_ ?_
                  · obtain ⟨r277, hr278, H⟩ := bind_el H
                    refine c_region (fun K hK => ?_)
                    refine st_val hS rfl rfl rfl (r_move hS rfl rfl) fun a272 hS272 => st_val hS272 rfl rfl rfl (r_loadN (n := 4) (cs := [.int .i64 x241.Kind, .int .i64 x241.Device, .int .u64 x241.Wait, .bool false]) hS272 rfl rfl (by kernel_rfl) rfl (Bx.cells_off h246 0 4)) fun a273 hS273 => st_val hS273 rfl rfl rfl (r_move hS273 rfl rfl) fun a274 hS274 => st_val hS274 rfl rfl rfl (r_len (e := 30) (sz := 3) (by_ := 40) hS274 rfl rfl (by kernel_rfl)) fun a275 hS275 => st_val hS275 rfl rfl rfl (r_move hS275 rfl rfl) fun a276 hS276 => ?_
                    refine st_enter hS276 rfl rfl rfl (r_call hS276 rfl rfl (by kernel_rfl)) (law28_do.calls (c0 := N + 8) (b_p0 := b212) (A_devices_p0 := A215) (cap_devices_p0 := cap216) (A_links_p0 := A219) (cap_links_p0 := cap220) (A_order_p0 := A223) (cap_order_p0 := cap224) (p0 := m2_0) (p1 := (law28_Call.mk x241.Kind x241.Device x241.Wait false)) (p2 := (v29.1.length : Int)) (p3 := m2_1) (g := g262) (N + 25) (N + 17) ⟨h213, h217, h221, h225⟩ (by omega) (by omega) (by omega) hr278) ?_
                    rintro _ a283 w284 ⟨g284, A279, cap280, rfl, ⟨h213, h217, h221, h225⟩, h281, F284⟩ hS283
                    replace h19 := OwS.fr h19 F284 (fun c' hc (hm : (N + 8 ≤ c' ∧ c' < N + 8 + 7) ∨ (N + 17 ≤ c' ∧ c' < N + 17 + 2) ∨ N + 25 ≤ c') => by omega)
                    replace h246 := h246.fr F284 (fun (hm : (N + 8 ≤ N + 15 ∧ N + 15 < N + 8 + 7) ∨ (N + 17 ≤ N + 15 ∧ N + 15 < N + 17 + 2) ∨ N + 25 ≤ N + 15) => by omega)
                    replace h28 := OwS.fr h28 F284 (fun c' hc (hm : (N + 8 ≤ c' ∧ c' < N + 8 + 7) ∨ (N + 17 ≤ c' ∧ c' < N + 17 + 2) ∨ N + 25 ≤ c') => by omega)
                    replace hp1 := RdS.fr hp1 F284 (by decide) (fun q (hq : C1 q) (hm : (N + 8 ≤ q ∧ q < N + 8 + 7) ∨ (N + 17 ≤ q ∧ q < N + 17 + 2) ∨ N + 25 ≤ q) => by have := hC1 q hq; omega)
                    replace hF := hF.trans F284 (fun c' (hm : (N + 8 ≤ c' ∧ c' < N + 8 + 7) ∨ (N + 17 ≤ c' ∧ c' < N + 17 + 2) ∨ N + 25 ≤ c') => by show N ≤ c'; omega)
                    refine st_val hS283 rfl rfl rfl (r_move hS283 rfl rfl) fun a285 hS285 => st_val hS285 rfl rfl rfl (r_extract hS285 rfl rfl rfl) fun a286 hS286 => st_val hS286 rfl rfl rfl (r_extract hS286 rfl rfl rfl) fun a287 hS287 => st_val hS287 rfl rfl rfl (r_assign hS287 rfl rfl) fun a288 hS288 => st_val hS288 rfl rfl rfl (r_assign hS288 rfl rfl) fun a289 hS289 => wpList_nil (hK _ _ ?_)
                    replace hS : Sl 177 _ [(1, .slice A1 p1.length cap1), (5, .slice A17 v29.1.length cap18), (6, .slice A26 v29.2.length cap27), (9, .pointer (some ⟨b212, 0, none⟩)), (11, .int .u64 m2_1), (12, .int .i64 m2_2), (15, .int .u64 r259.2), (17, .int .i64 r277.2.2)] := hS289.re ⟨rfl, rfl, rfl, rfl, rfl, rfl, rfl, rfl, trivial⟩
                    clear hK K
                    try clear hS272 hS273 hS274 hS275 hS276 hS283 hS285 hS286 hS287 hS288 hS289
                    obtain ⟨a, ha⟩ : ∃ a', a' = a289 := ⟨_, rfl⟩
                    rw [← ha] at hS ⊢; clear ha
                    refine c_pure [(1, .slice A1 p1.length cap1), (5, .slice A17 v29.1.length cap18), (6, .slice A26 v29.2.length cap27), (9, .pointer (some ⟨b212, 0, none⟩)), (11, .int .u64 m2_1), (12, .int .i64 m2_2), (15, .int .u64 r259.2), (119, .bool (r277.2.2 == 0))] (fun R hR => st_val hS rfl rfl rfl (r_move hS rfl rfl) fun a290 hS290 => st_val hS290 rfl rfl rfl (r_bin hS290 rfl rfl rfl b_eql) fun a291 hS291 => wpList_nil (hR _ (hS291.re ⟨rfl, rfl, rfl, rfl, rfl, rfl, rfl, rfl, trivial⟩))) ?_
                    clear hS
                    clear a
                    intro a hS
                    refine c_cond hS rfl (fun hb292 => ?_) (fun hb292 => ?_)
                    · replace H := ite_t hb292 H
                      refine c_pure1 [(1, .slice A1 p1.length cap1), (5, .slice A17 v29.1.length cap18), (6, .slice A26 v29.2.length cap27), (9, .pointer (some ⟨b212, 0, none⟩)), (11, .int .u64 r259.2), (12, .int .i64 m2_2)] (fun R hR => st_val hS rfl rfl rfl (r_move hS rfl rfl) fun a293 hS293 => st_val hS293 rfl rfl rfl (r_assign hS293 rfl rfl) fun a294 hS294 => wpList_nil (hR _ (hS294.re ⟨rfl, rfl, rfl, rfl, rfl, rfl, trivial⟩))) ?_
                      clear hS
                      clear a
                      intro a hS
                      have e := Option.some.inj H
                      subst e
                      exact ⟨g284, hS.re ⟨rfl, rfl, rfl, rfl, rfl, rfl, trivial⟩, h19, h213, h217, h221, h225, h28, hp1, hF⟩
                    · replace H := ite_f hb292 H
                      refine wp_skip ?_
                      have e := Option.some.inj H
                      subst e
                      exact ⟨g284, hS.re ⟨rfl, rfl, rfl, rfl, rfl, rfl, trivial⟩, h19, h213, h217, h221, h225, h28, hp1, hF⟩
                  · clear H
                    clear hp1 h19 h28 h217 h221 h225 h213 h246 hF
                    clear hS
                    rintro a w268 ⟨g268, hS, h19, h213, h217, h221, h225, h28, hp1, hF⟩
                    have H := Hl271
                    clear Hl271
                    refine c_pure [(1, .slice A1 p1.length cap1), (5, .slice A17 v29.1.length cap18), (6, .slice A26 v29.2.length cap27), (9, .pointer (some ⟨b212, 0, none⟩)), (11, .int .u64 v269.2), (12, .int .i64 m2_2), (18, .slice none 0 0)] (fun R hR => st_val hS rfl rfl rfl (r_assign hS rfl rfl) fun a295 hS295 => wpList_nil (hR _ (hS295.re ⟨rfl, rfl, rfl, rfl, rfl, rfl, rfl, trivial⟩))) ?_
                    clear hS
                    clear a
                    intro a hS
                    obtain ⟨v300, H, Hl302⟩ := bind_el H
                    refine c_cut (fun a w296 => ∃ (g296 : Nat → Nat), ∃ (A297 : Option Addr), ∃ (cap298 : Nat), Sl 177 a [(1, .slice A1 p1.length cap1), (5, .slice A17 v29.1.length cap18), (6, .slice A26 v29.2.length cap27), (9, .pointer (some ⟨b212, 0, none⟩)), (11, .int .u64 v269.2), (12, .int .i64 m2_2), (18, .slice A297 v300.length cap298)] ∧ OwS kd_api_IdleDevice 30 w296 g296 (N + 0) A17 cap18 v29.1 ∧ Bx w296 g296 (N + 8) b212 85 [.slice A215 v269.1.devices.length cap216, .slice A219 v269.1.links.length cap220, .slice A223 v269.1.order.length cap224, .int .u64 v269.1.now] ∧ OwS kd_runtimepm_device 88 w296 g296 (N + 8 + 1) A215 cap216 v269.1.devices ∧ OwS kd_api_Link 67 w296 g296 (N + 8 + 3) A219 cap220 v269.1.links ∧ OwS (kint .i64) 3 w296 g296 (N + 8 + 5) A223 cap224 v269.1.order ∧ OwS kd_api_Link 67 w296 g296 (N + 4) A26 cap27 v29.2 ∧ OwS (kint .i64) 3 w296 g296 (N + 21) A297 cap298 v300 ∧ RdS kd_law28_Call w296 g296 C1 A1 cap1 p1 ∧ Fr (fun q => N ≤ q) w g w296 g296) ?_ ?_
                    · refine c_pure [(1, .slice A1 p1.length cap1), (5, .slice A17 v29.1.length cap18), (6, .slice A26 v29.2.length cap27), (9, .pointer (some ⟨b212, 0, none⟩)), (11, .int .u64 v269.2), (12, .int .i64 m2_2), (18, .slice none 0 0), (19, .int .i64 0)] (fun R hR => st_val hS rfl rfl rfl (r_assign hS rfl rfl) fun a303 hS303 => wpList_nil (hR _ (hS303.re ⟨rfl, rfl, rfl, rfl, rfl, rfl, rfl, rfl, trivial⟩))) ?_
                      clear hS
                      clear a
                      intro a hS
                      refine wp_block ?_
                      refine wp_loop_ghost (fun kq => fun a w304 => ∃ (m3_0 : List Int), ∃ (m3_1 : Int), ∃ (g304 : Nat → Nat), ∃ (A305 : Option Addr), ∃ (cap306 : Nat), law28_RuntimepmClosure.l3 v29 v269 kq m3_0 m3_1 = some v300 ∧ Sl 177 a [(1, .slice A1 p1.length cap1), (5, .slice A17 v29.1.length cap18), (6, .slice A26 v29.2.length cap27), (9, .pointer (some ⟨b212, 0, none⟩)), (11, .int .u64 v269.2), (12, .int .i64 m2_2), (18, .slice A305 m3_0.length cap306), (19, .int .i64 m3_1)] ∧ OwS kd_api_IdleDevice 30 w304 g304 (N + 0) A17 cap18 v29.1 ∧ Bx w304 g304 (N + 8) b212 85 [.slice A215 v269.1.devices.length cap216, .slice A219 v269.1.links.length cap220, .slice A223 v269.1.order.length cap224, .int .u64 v269.1.now] ∧ OwS kd_runtimepm_device 88 w304 g304 (N + 8 + 1) A215 cap216 v269.1.devices ∧ OwS kd_api_Link 67 w304 g304 (N + 8 + 3) A219 cap220 v269.1.links ∧ OwS (kint .i64) 3 w304 g304 (N + 8 + 5) A223 cap224 v269.1.order ∧ OwS kd_api_Link 67 w304 g304 (N + 4) A26 cap27 v29.2 ∧ OwS (kint .i64) 3 w304 g304 (N + 21) A305 cap306 m3_0 ∧ RdS kd_law28_Call w304 g304 C1 A1 cap1 p1 ∧ Fr (fun q => N ≤ q) w g w304 g304) FUEL ?_ ?_
                      · exact ⟨[], 0, g268, none, 0, H, hS.re ⟨rfl, rfl, rfl, rfl, rfl, rfl, rfl, rfl, trivial⟩, h19, h213, h217, h221, h225, h28, OwS.nil (kint .i64) 3 w268 g268 (N + 21), hp1, hF⟩
                      · clear H
                        clear hp1 h19 h28 h217 h221 h225 h213 hF
                        clear hS
                        rintro k308 a w304 ⟨m3_0, m3_1, g304, A305, cap306, hpre0, hS, h19, h213, h217, h221, h225, h28, h307, hp1, hF⟩
                        have H := hpre0
                        clear hpre0
                        cases k308 with
                        | zero => exact absurd H (by simp [law28_RuntimepmClosure.l3])
                        | succ k308 =>
                          rw [law28_RuntimepmClosure.l3] at H
                          refine wp_seq ?_
                          refine c_pure [(1, .slice A1 p1.length cap1), (5, .slice A17 v29.1.length cap18), (6, .slice A26 v29.2.length cap27), (9, .pointer (some ⟨b212, 0, none⟩)), (11, .int .u64 v269.2), (12, .int .i64 m2_2), (18, .slice A305 m3_0.length cap306), (19, .int .i64 m3_1), (124, .bool (decide (m3_1 < (v29.1.length : Int))))] (fun R hR => st_val hS rfl rfl rfl (r_move hS rfl rfl) fun a309 hS309 => st_val hS309 rfl rfl rfl (r_move hS309 rfl rfl) fun a310 hS310 => st_val hS310 rfl rfl rfl (r_len (e := 30) (sz := 3) (by_ := 40) hS310 rfl rfl (by kernel_rfl)) fun a311 hS311 => st_val hS311 rfl rfl rfl (r_bin hS311 rfl rfl rfl b_lss) fun a312 hS312 => wpList_nil (hR _ (hS312.re ⟨rfl, rfl, rfl, rfl, rfl, rfl, rfl, rfl, rfl, trivial⟩))) ?_
                          clear hS
                          clear a
                          intro a hS
                          refine c_cond hS rfl (fun hb313 => ?_) (fun hb313 => ?_)
                          · replace H := ite_t hb313 H
                            refine wp_skip ?_
                            change Code.wp _ _ _ _ _
                            obtain ⟨v318, H, Hl320⟩ := bind_el H
                            refine c_cut (fun a w314 => ∃ (g314 : Nat → Nat), ∃ (A315 : Option Addr), ∃ (cap316 : Nat), Sl 177 a [(1, .slice A1 p1.length cap1), (5, .slice A17 v29.1.length cap18), (6, .slice A26 v29.2.length cap27), (9, .pointer (some ⟨b212, 0, none⟩)), (11, .int .u64 v269.2), (12, .int .i64 m2_2), (18, .slice A315 v318.length cap316), (19, .int .i64 m3_1)] ∧ OwS kd_api_IdleDevice 30 w314 g314 (N + 0) A17 cap18 v29.1 ∧ Bx w314 g314 (N + 8) b212 85 [.slice A215 v269.1.devices.length cap216, .slice A219 v269.1.links.length cap220, .slice A223 v269.1.order.length cap224, .int .u64 v269.1.now] ∧ OwS kd_runtimepm_device 88 w314 g314 (N + 8 + 1) A215 cap216 v269.1.devices ∧ OwS kd_api_Link 67 w314 g314 (N + 8 + 3) A219 cap220 v269.1.links ∧ OwS (kint .i64) 3 w314 g314 (N + 8 + 5) A223 cap224 v269.1.order ∧ OwS kd_api_Link 67 w314 g314 (N + 4) A26 cap27 v29.2 ∧ OwS (kint .i64) 3 w314 g314 (N + 21) A315 cap316 v318 ∧ RdS kd_law28_Call w314 g314 C1 A1 cap1 p1 ∧ Fr (fun q => N ≤ q) w g w314 g314) ?_ ?_
                            · refine wp_block ?_
                              obtain ⟨r323, hr324, H⟩ := bind_el H
                              refine c_region (fun K hK => ?_)
                              refine st_val hS rfl rfl rfl (r_move hS rfl rfl) fun a321 hS321 => st_val hS321 rfl rfl rfl (r_move hS321 rfl rfl) fun a322 hS322 => ?_
                              refine st_enter hS322 rfl rfl rfl (r_call hS322 rfl rfl (by kernel_rfl)) (runtimepm_Manager_Usage.calls (c0 := N + 8) (b_p0 := b212) (A_devices_p0 := A215) (cap_devices_p0 := cap216) (A_links_p0 := A219) (cap_links_p0 := cap220) (A_order_p0 := A223) (cap_order_p0 := cap224) (p0 := v269.1) (p1 := m3_1) (g := g304) (N + 25)  ⟨h213, h217, h221, h225⟩ (by omega) hr324) ?_
                              rintro _ a325 w326 ⟨g326, rfl, F326⟩ hS325
                              replace h19 := OwS.fr h19 F326 (fun c' hc (hm : N + 25 ≤ c') => by omega)
                              replace h213 := h213.fr F326 (fun (hm : N + 25 ≤ N + 8) => by omega)
                              replace h217 := OwS.fr h217 F326 (fun c' hc (hm : N + 25 ≤ c') => by omega)
                              replace h221 := OwS.fr h221 F326 (fun c' hc (hm : N + 25 ≤ c') => by omega)
                              replace h225 := OwS.fr h225 F326 (fun c' hc (hm : N + 25 ≤ c') => by omega)
                              replace h28 := OwS.fr h28 F326 (fun c' hc (hm : N + 25 ≤ c') => by omega)
                              replace h307 := OwS.fr h307 F326 (fun c' hc (hm : N + 25 ≤ c') => by omega)
                              replace hp1 := RdS.fr hp1 F326 (by decide) (fun q (hq : C1 q) (hm : N + 25 ≤ q) => by have := hC1 q hq; omega)
                              replace hF := hF.trans F326 (fun c' (hm : N + 25 ≤ c') => by show N ≤ c'; omega)
                              refine st_val hS325 rfl rfl rfl (r_bin hS325 rfl rfl rfl b_gtr) fun a327 hS327 => wpList_nil (hK _ _ ?_)
                              replace hS : Sl 177 _ [(1, .slice A1 p1.length cap1), (5, .slice A17 v29.1.length cap18), (6, .slice A26 v29.2.length cap27), (9, .pointer (some ⟨b212, 0, none⟩)), (11, .int .u64 v269.2), (12, .int .i64 m2_2), (18, .slice A305 m3_0.length cap306), (19, .int .i64 m3_1), (130, .bool (decide (0 < r323)))] := hS327.re ⟨rfl, rfl, rfl, rfl, rfl, rfl, rfl, rfl, rfl, trivial⟩
                              clear hK K
                              try clear hS321 hS322 hS325 hS327
                              obtain ⟨a, ha⟩ : ∃ a', a' = a327 := ⟨_, rfl⟩
                              rw [← ha] at hS ⊢; clear ha
                              refine c_cond hS rfl (fun hb328 => ?_) (fun hb328 => ?_)
                              · replace H := ite_t hb328 H
                                obtain ⟨y336, hy337, H⟩ := bind_el H
                                refine c_region1 (fun K hK => ?_)
                                refine st_val hS rfl rfl rfl (r_move hS rfl rfl) fun a329 hS329 => st_val hS329 rfl rfl rfl (r_move hS329 rfl rfl) fun a330 hS330 => ?_
                                refine st_eff hS330 rfl rfl rfl (e_lit (e := 3) (parts := [(0, .int .i64 m3_1)]) (cs := [.int .i64 m3_1]) (kint .i64) [m3_1] (N + 19) g326 hS330 rfl rfl (fun _ => by kernel_rfl) rfl (by decide) (Rows.cons (cs := [.int .i64 m3_1]) rfl Rows.nil)) ?_
                                rintro _ a334 w335 g335 ⟨⟨A331, rfl, h332⟩, F335⟩ hS334
                                replace h19 := OwS.fr h19 F335 (fun _ _ h => h)
                                replace h213 := h213.fr F335 (fun h => h)
                                replace h217 := OwS.fr h217 F335 (fun _ _ h => h)
                                replace h221 := OwS.fr h221 F335 (fun _ _ h => h)
                                replace h225 := OwS.fr h225 F335 (fun _ _ h => h)
                                replace h28 := OwS.fr h28 F335 (fun _ _ h => h)
                                replace h307 := OwS.fr h307 F335 (fun _ _ h => h)
                                replace hp1 := RdS.fr hp1 F335 (by decide) (fun _ _ h => h)
                                replace hF := hF.trans F335 (fun _ h => h.elim)
                                refine st_eff hS334 rfl rfl rfl (e_append (e := 3) (sz := 1) (by_ := 8) (z := [.int .i64 0]) (kd := (kint .i64)) g335 hS334 rfl rfl rfl rfl (by kernel_rfl) (by kernel_rfl) rfl rfl rfl rfl h307 (OwD.rdx h332) (fun _ _ _ h => h) hy337) ?_
                                rintro _ a342 w343 g343 ⟨⟨A338, cap339, rfl, h340⟩, F343⟩ hS342
                                replace h19 := OwS.fr h19 F343 (fun c' hc (hm : c' = N + 21) => by omega)
                                replace h213 := h213.fr F343 (fun (hm : N + 8 = N + 21) => by omega)
                                replace h217 := OwS.fr h217 F343 (fun c' hc (hm : c' = N + 21) => by omega)
                                replace h221 := OwS.fr h221 F343 (fun c' hc (hm : c' = N + 21) => by omega)
                                replace h225 := OwS.fr h225 F343 (fun c' hc (hm : c' = N + 21) => by omega)
                                replace h332 := OwS.fr h332 F343 (fun c' hc (hm : c' = N + 21) => by omega)
                                replace h28 := OwS.fr h28 F343 (fun c' hc (hm : c' = N + 21) => by omega)
                                replace hp1 := RdS.fr hp1 F343 (by decide) (fun q (hq : C1 q) (hm : q = N + 21) => by have := hC1 q hq; omega)
                                replace hF := hF.trans F343 (fun c' (hm : c' = N + 21) => by show N ≤ c'; omega)
                                refine st_val hS342 rfl rfl rfl (r_assign hS342 rfl rfl) fun a344 hS344 => wpList_nil (hK _ _ ?_)
                                replace hS : Sl 177 _ [(1, .slice A1 p1.length cap1), (5, .slice A17 v29.1.length cap18), (6, .slice A26 v29.2.length cap27), (9, .pointer (some ⟨b212, 0, none⟩)), (11, .int .u64 v269.2), (12, .int .i64 m2_2), (18, .slice A338 y336.length cap339), (19, .int .i64 m3_1)] := hS344.re ⟨rfl, rfl, rfl, rfl, rfl, rfl, rfl, rfl, trivial⟩
                                clear hK K
                                try clear hS329 hS330 hS334 hS342 hS344
                                obtain ⟨a, ha⟩ : ∃ a', a' = a344 := ⟨_, rfl⟩
                                rw [← ha] at hS ⊢; clear ha
                                have e := Option.some.inj H
                                subst e
                                exact ⟨g343, A338, cap339, hS.re ⟨rfl, rfl, rfl, rfl, rfl, rfl, rfl, rfl, trivial⟩, h19, h213, h217, h221, h225, h28, h340, hp1, hF⟩
                              · replace H := ite_f hb328 H
                                refine wp_skip ?_
                                have e := Option.some.inj H
                                subst e
                                exact ⟨g326, A305, cap306, hS.re ⟨rfl, rfl, rfl, rfl, rfl, rfl, rfl, rfl, trivial⟩, h19, h213, h217, h221, h225, h28, h307, hp1, hF⟩
                            · clear H
                              clear hp1 h19 h28 h217 h221 h225 h213 h307 hF
                              clear hS
                              rintro a w314 ⟨g314, A315, cap316, hS, h19, h213, h217, h221, h225, h28, h317, hp1, hF⟩
                              have H := Hl320
                              clear Hl320
                              refine c_pure1 [(1, .slice A1 p1.length cap1), (5, .slice A17 v29.1.length cap18), (6, .slice A26 v29.2.length cap27), (9, .pointer (some ⟨b212, 0, none⟩)), (11, .int .u64 v269.2), (12, .int .i64 m2_2), (18, .slice A315 v318.length cap316), (19, .int .i64 (wi (m3_1 + 1)))] (fun R hR => st_val hS rfl rfl rfl (r_move hS rfl rfl) fun a345 hS345 => st_val hS345 rfl rfl rfl (r_bin hS345 rfl rfl rfl b_add) fun a346 hS346 => st_val hS346 rfl rfl rfl (r_assign hS346 rfl rfl) fun a347 hS347 => wpList_nil (hR _ (hS347.re ⟨rfl, rfl, rfl, rfl, rfl, rfl, rfl, rfl, trivial⟩))) ?_
                              clear hS
                              clear a
                              intro a hS
                              refine ⟨k308, Nat.lt_succ_self _, ?_⟩
                              exact ⟨v318, wi (m3_1 + 1), g314, A315, cap316, H, hS.re ⟨rfl, rfl, rfl, rfl, rfl, rfl, rfl, rfl, trivial⟩, h19, h213, h217, h221, h225, h28, h317, hp1, hF⟩
                          · replace H := ite_f hb313 H
                            refine wp_exit ?_
                            have e := Option.some.inj H
                            subst e
                            exact ⟨g304, A305, cap306, hS.re ⟨rfl, rfl, rfl, rfl, rfl, rfl, rfl, trivial⟩, h19, h213, h217, h221, h225, h28, h307, hp1, hF⟩
                    · clear H
                      clear hp1 h19 h28 h217 h221 h225 h213 hF
                      clear hS
                      rintro a w296 ⟨g296, A297, cap298, hS, h19, h213, h217, h221, h225, h28, h299, hp1, hF⟩
                      have H := Hl302
                      clear Hl302
                      obtain ⟨r352, hr353, H⟩ := bind_el H
                      refine c_region (fun K hK => ?_)
                      refine st_val hS rfl rfl rfl (r_move hS rfl rfl) fun a348 hS348 => st_val hS348 rfl rfl rfl (r_len (e := 30) (sz := 3) (by_ := 40) hS348 rfl rfl (by kernel_rfl)) fun a349 hS349 => st_val hS349 rfl rfl rfl (r_move hS349 rfl rfl) fun a350 hS350 => st_val hS350 rfl rfl rfl (r_move hS350 rfl rfl) fun a351 hS351 => ?_
                      refine st_enter hS351 rfl rfl rfl (r_call hS351 rfl rfl (by kernel_rfl)) (depgraph_Suppliers.calls (C1 := (fun q => q = N + 4)) (C2 := (fun q => q = N + 21)) (p0 := (v29.1.length : Int)) (p1 := v29.2) (p2 := v300) (g := g296) (N + 25) (N + 23) (OwD.rdf (fun _ _ _ _ _ _ h => h) h28) (fun q (hq : q = N + 4) => by omega) (OwD.rdf (fun _ _ _ _ _ _ h => h) h299) (fun q (hq : q = N + 21) => by omega) (by omega) hr353) ?_
                      rintro _ a358 w359 ⟨g359, A354, cap355, rfl, h356, F359⟩ hS358
                      replace h19 := OwS.fr h19 F359 (fun c' hc (hm : (N + 23 ≤ c' ∧ c' < N + 23 + 2) ∨ N + 25 ≤ c') => by omega)
                      replace h213 := h213.fr F359 (fun (hm : (N + 23 ≤ N + 8 ∧ N + 8 < N + 23 + 2) ∨ N + 25 ≤ N + 8) => by omega)
                      replace h217 := OwS.fr h217 F359 (fun c' hc (hm : (N + 23 ≤ c' ∧ c' < N + 23 + 2) ∨ N + 25 ≤ c') => by omega)
                      replace h221 := OwS.fr h221 F359 (fun c' hc (hm : (N + 23 ≤ c' ∧ c' < N + 23 + 2) ∨ N + 25 ≤ c') => by omega)
                      replace h225 := OwS.fr h225 F359 (fun c' hc (hm : (N + 23 ≤ c' ∧ c' < N + 23 + 2) ∨ N + 25 ≤ c') => by omega)
                      replace h28 := OwS.fr h28 F359 (fun c' hc (hm : (N + 23 ≤ c' ∧ c' < N + 23 + 2) ∨ N + 25 ≤ c') => by omega)
                      replace h299 := OwS.fr h299 F359 (fun c' hc (hm : (N + 23 ≤ c' ∧ c' < N + 23 + 2) ∨ N + 25 ≤ c') => by omega)
                      replace hp1 := RdS.fr hp1 F359 (by decide) (fun q (hq : C1 q) (hm : (N + 23 ≤ q ∧ q < N + 23 + 2) ∨ N + 25 ≤ q) => by have := hC1 q hq; omega)
                      replace hF := hF.trans F359 (fun c' (hm : (N + 23 ≤ c' ∧ c' < N + 23 + 2) ∨ N + 25 ≤ c') => by show N ≤ c'; omega)
                      refine st_val hS358 rfl rfl rfl (r_move hS358 rfl rfl) fun a360 hS360 => st_val hS360 rfl rfl rfl (r_extract hS360 rfl rfl rfl) fun a361 hS361 => st_val hS361 rfl rfl rfl (r_extract hS361 rfl rfl rfl) fun a362 hS362 => st_val hS362 rfl rfl rfl (r_assign hS362 rfl rfl) fun a363 hS363 => st_val hS363 rfl rfl rfl (r_assign hS363 rfl rfl) fun a364 hS364 => wpList_nil (hK _ _ ?_)
                      replace hS : Sl 177 _ [(1, .slice A1 p1.length cap1), (5, .slice A17 v29.1.length cap18), (6, .slice A26 v29.2.length cap27), (9, .pointer (some ⟨b212, 0, none⟩)), (11, .int .u64 v269.2), (12, .int .i64 m2_2), (20, .slice A354 r352.1.length cap355), (21, .int .i64 r352.2)] := hS364.re ⟨rfl, rfl, rfl, rfl, rfl, rfl, rfl, rfl, trivial⟩
                      clear hK K
                      try clear hS348 hS349 hS350 hS351 hS358 hS360 hS361 hS362 hS363 hS364
                      obtain ⟨a, ha⟩ : ∃ a', a' = a364 := ⟨_, rfl⟩
                      rw [← ha] at hS ⊢; clear ha
                      refine wp_seq ?_
                      refine c_pure [(1, .slice A1 p1.length cap1), (5, .slice A17 v29.1.length cap18), (6, .slice A26 v29.2.length cap27), (9, .pointer (some ⟨b212, 0, none⟩)), (11, .int .u64 v269.2), (12, .int .i64 m2_2), (20, .slice A354 r352.1.length cap355), (144, .bool (r352.2 != 0))] (fun R hR => st_val hS rfl rfl rfl (r_move hS rfl rfl) fun a365 hS365 => st_val hS365 rfl rfl rfl (r_bin hS365 rfl rfl rfl b_neq) fun a366 hS366 => wpList_nil (hR _ (hS366.re ⟨rfl, rfl, rfl, rfl, rfl, rfl, rfl, rfl, trivial⟩))) ?_
                      clear hS
                      clear a
                      intro a hS
                      refine c_cond hS rfl (fun hb367 => ?_) (fun hb367 => ?_)
                      · replace H := ite_t hb367 H
                        refine c_pure [(4, .bool false)] (fun R hR => st_val hS rfl rfl rfl (r_assign hS rfl rfl) fun a368 hS368 => wpList_nil (hR _ (hS368.re ⟨rfl, trivial⟩))) ?_
                        clear hS
                        clear a
                        intro a hS
                        refine wp_ret ?_
                        have e := Option.some.inj H
                        subst e
                        replace H := Fl.go_out Hl238
                        have e := Option.some.inj H
                        subst e
                        replace H := Fl.go_out Hl208
                        have e := Option.some.inj H
                        subst e
                        repeat (with_reducible first | refine then_ret ?_ | refine inBlock_ret ?_)
                        exact c_ret1 hS Try.results11 rfl ⟨_, rfl, g359, rfl, hF⟩
                      · replace H := ite_f hb367 H
                        refine wp_skip ?_
                        change Code.wp _ _ _ _ _
                        refine c_pure [(1, .slice A1 p1.length cap1), (5, .slice A17 v29.1.length cap18), (6, .slice A26 v29.2.length cap27), (9, .pointer (some ⟨b212, 0, none⟩)), (11, .int .u64 v269.2), (12, .int .i64 m2_2), (20, .slice A354 r352.1.length cap355), (22, .int .i64 0)] (fun R hR => st_val hS rfl rfl rfl (r_assign hS rfl rfl) fun a369 hS369 => wpList_nil (hR _ (hS369.re ⟨rfl, rfl, rfl, rfl, rfl, rfl, rfl, rfl, trivial⟩))) ?_
                        clear hS
                        clear a
                        intro a hS
                        obtain ⟨o372, H, Hl373⟩ := bind_el H
                        refine c_cut (fun a w370 => ∃ (v371 : Int), ∃ (g370 : Nat → Nat), o372 = .nxt v371 ∧ Sl 177 a [(1, .slice A1 p1.length cap1), (5, .slice A17 v29.1.length cap18), (6, .slice A26 v29.2.length cap27), (9, .pointer (some ⟨b212, 0, none⟩)), (11, .int .u64 v269.2), (12, .int .i64 m2_2), (20, .slice A354 r352.1.length cap355), (22, .int .i64 v371)] ∧ OwS kd_api_IdleDevice 30 w370 g370 (N + 0) A17 cap18 v29.1 ∧ Bx w370 g370 (N + 8) b212 85 [.slice A215 v269.1.devices.length cap216, .slice A219 v269.1.links.length cap220, .slice A223 v269.1.order.length cap224, .int .u64 v269.1.now] ∧ OwS kd_runtimepm_device 88 w370 g370 (N + 8 + 1) A215 cap216 v269.1.devices ∧ OwS kd_api_Link 67 w370 g370 (N + 8 + 3) A219 cap220 v269.1.links ∧ OwS (kint .i64) 3 w370 g370 (N + 8 + 5) A223 cap224 v269.1.order ∧ OwS (kint .i64) 3 w370 g370 (N + 23) A354 cap355 r352.1 ∧ OwS kd_api_Link 67 w370 g370 (N + 4) A26 cap27 v29.2 ∧ RdS kd_law28_Call w370 g370 C1 A1 cap1 p1 ∧ Fr (fun q => N ≤ q) w g w370 g370) ?_ ?_
                        · refine c_pure [(1, .slice A1 p1.length cap1), (5, .slice A17 v29.1.length cap18), (6, .slice A26 v29.2.length cap27), (9, .pointer (some ⟨b212, 0, none⟩)), (11, .int .u64 v269.2), (12, .int .i64 m2_2), (20, .slice A354 r352.1.length cap355), (22, .int .i64 0), (23, .int .i64 0)] (fun R hR => st_val hS rfl rfl rfl (r_assign hS rfl rfl) fun a374 hS374 => wpList_nil (hR _ (hS374.re ⟨rfl, rfl, rfl, rfl, rfl, rfl, rfl, rfl, rfl, trivial⟩))) ?_
                          clear hS
                          clear a
                          intro a hS
                          refine wp_block ?_
                          refine wp_loop_ghost (fun kq => fun a w375 => ∃ (m4_0 : Int), ∃ (m4_1 : Int), ∃ (g375 : Nat → Nat), law28_RuntimepmClosure.l4 v29 v269 r352 kq m4_0 m4_1 = some o372 ∧ Sl 177 a [(1, .slice A1 p1.length cap1), (5, .slice A17 v29.1.length cap18), (6, .slice A26 v29.2.length cap27), (9, .pointer (some ⟨b212, 0, none⟩)), (11, .int .u64 v269.2), (12, .int .i64 m2_2), (20, .slice A354 r352.1.length cap355), (22, .int .i64 m4_0), (23, .int .i64 m4_1)] ∧ OwS kd_api_IdleDevice 30 w375 g375 (N + 0) A17 cap18 v29.1 ∧ Bx w375 g375 (N + 8) b212 85 [.slice A215 v269.1.devices.length cap216, .slice A219 v269.1.links.length cap220, .slice A223 v269.1.order.length cap224, .int .u64 v269.1.now] ∧ OwS kd_runtimepm_device 88 w375 g375 (N + 8 + 1) A215 cap216 v269.1.devices ∧ OwS kd_api_Link 67 w375 g375 (N + 8 + 3) A219 cap220 v269.1.links ∧ OwS (kint .i64) 3 w375 g375 (N + 8 + 5) A223 cap224 v269.1.order ∧ OwS (kint .i64) 3 w375 g375 (N + 23) A354 cap355 r352.1 ∧ OwS kd_api_Link 67 w375 g375 (N + 4) A26 cap27 v29.2 ∧ RdS kd_law28_Call w375 g375 C1 A1 cap1 p1 ∧ Fr (fun q => N ≤ q) w g w375 g375) FUEL ?_ ?_
                          · exact ⟨0, 0, g359, H, hS.re ⟨rfl, rfl, rfl, rfl, rfl, rfl, rfl, rfl, rfl, trivial⟩, h19, h213, h217, h221, h225, h356, h28, hp1, hF⟩
                          · clear H
                            clear hp1 h19 h28 h217 h221 h225 h213 h356 hF
                            clear hS
                            rintro k376 a w375 ⟨m4_0, m4_1, g375, hpre0, hS, h19, h213, h217, h221, h225, h356, h28, hp1, hF⟩
                            have H := hpre0
                            clear hpre0
                            cases k376 with
                            | zero => exact absurd H (by simp [law28_RuntimepmClosure.l4])
                            | succ k376 =>
                              rw [law28_RuntimepmClosure.l4] at H
                              refine wp_seq ?_
                              refine c_pure [(1, .slice A1 p1.length cap1), (5, .slice A17 v29.1.length cap18), (6, .slice A26 v29.2.length cap27), (9, .pointer (some ⟨b212, 0, none⟩)), (11, .int .u64 v269.2), (12, .int .i64 m2_2), (20, .slice A354 r352.1.length cap355), (22, .int .i64 m4_0), (23, .int .i64 m4_1), (148, .bool (decide (m4_1 < (v29.1.length : Int))))] (fun R hR => st_val hS rfl rfl rfl (r_move hS rfl rfl) fun a377 hS377 => st_val hS377 rfl rfl rfl (r_move hS377 rfl rfl) fun a378 hS378 => st_val hS378 rfl rfl rfl (r_len (e := 30) (sz := 3) (by_ := 40) hS378 rfl rfl (by kernel_rfl)) fun a379 hS379 => st_val hS379 rfl rfl rfl (r_bin hS379 rfl rfl rfl b_lss) fun a380 hS380 => wpList_nil (hR _ (hS380.re ⟨rfl, rfl, rfl, rfl, rfl, rfl, rfl, rfl, rfl, rfl, trivial⟩))) ?_
                              clear hS
                              clear a
                              intro a hS
                              refine c_cond hS rfl (fun hb381 => ?_) (fun hb381 => ?_)
                              · replace H := ite_t hb381 H
                                refine wp_skip ?_
                                change Code.wp _ _ _ _ _
                                obtain ⟨o384, H, Hl385⟩ := bind_el H
                                refine c_cut (fun a w382 => ∃ (v383 : Int), ∃ (g382 : Nat → Nat), o384 = .nxt v383 ∧ Sl 177 a [(1, .slice A1 p1.length cap1), (5, .slice A17 v29.1.length cap18), (6, .slice A26 v29.2.length cap27), (9, .pointer (some ⟨b212, 0, none⟩)), (11, .int .u64 v269.2), (12, .int .i64 m2_2), (20, .slice A354 r352.1.length cap355), (22, .int .i64 v383), (23, .int .i64 m4_1)] ∧ OwS kd_api_IdleDevice 30 w382 g382 (N + 0) A17 cap18 v29.1 ∧ Bx w382 g382 (N + 8) b212 85 [.slice A215 v269.1.devices.length cap216, .slice A219 v269.1.links.length cap220, .slice A223 v269.1.order.length cap224, .int .u64 v269.1.now] ∧ OwS kd_runtimepm_device 88 w382 g382 (N + 8 + 1) A215 cap216 v269.1.devices ∧ OwS kd_api_Link 67 w382 g382 (N + 8 + 3) A219 cap220 v269.1.links ∧ OwS (kint .i64) 3 w382 g382 (N + 8 + 5) A223 cap224 v269.1.order ∧ OwS (kint .i64) 3 w382 g382 (N + 23) A354 cap355 r352.1 ∧ OwS kd_api_Link 67 w382 g382 (N + 4) A26 cap27 v29.2 ∧ RdS kd_law28_Call w382 g382 C1 A1 cap1 p1 ∧ Fr (fun q => N ≤ q) w g w382 g382) ?_ ?_
                                · refine wp_block ?_
                                  refine wp_seq ?_
                                  obtain ⟨r388, hr389, H⟩ := bind_el H
                                  obtain ⟨t406, ht407, H⟩ := bind_el H
                                  refine c_region (fun K hK => ?_)
                                  refine st_val hS rfl rfl rfl (r_move hS rfl rfl) fun a386 hS386 => st_val hS386 rfl rfl rfl (r_move hS386 rfl rfl) fun a387 hS387 => ?_
                                  refine st_enter hS387 rfl rfl rfl (r_call hS387 rfl rfl (by kernel_rfl)) (runtimepm_Manager_Active.calls (c0 := N + 8) (b_p0 := b212) (A_devices_p0 := A215) (cap_devices_p0 := cap216) (A_links_p0 := A219) (cap_links_p0 := cap220) (A_order_p0 := A223) (cap_order_p0 := cap224) (p0 := v269.1) (p1 := m4_1) (g := g375) (N + 25)  ⟨h213, h217, h221, h225⟩ (by omega) hr389) ?_
                                  rintro _ a390 w391 ⟨g391, rfl, F391⟩ hS390
                                  replace h19 := OwS.fr h19 F391 (fun c' hc (hm : N + 25 ≤ c') => by omega)
                                  replace h213 := h213.fr F391 (fun (hm : N + 25 ≤ N + 8) => by omega)
                                  replace h217 := OwS.fr h217 F391 (fun c' hc (hm : N + 25 ≤ c') => by omega)
                                  replace h221 := OwS.fr h221 F391 (fun c' hc (hm : N + 25 ≤ c') => by omega)
                                  replace h225 := OwS.fr h225 F391 (fun c' hc (hm : N + 25 ≤ c') => by omega)
                                  replace h356 := OwS.fr h356 F391 (fun c' hc (hm : N + 25 ≤ c') => by omega)
                                  replace h28 := OwS.fr h28 F391 (fun c' hc (hm : N + 25 ≤ c') => by omega)
                                  replace hp1 := RdS.fr hp1 F391 (by decide) (fun q (hq : C1 q) (hm : N + 25 ≤ q) => by have := hC1 q hq; omega)
                                  replace hF := hF.trans F391 (fun c' (hm : N + 25 ≤ c') => by show N ≤ c'; omega)
                                  refine st_val hS390 rfl rfl rfl (r_move hS390 rfl rfl) fun a392 hS392 => st_val hS392 rfl rfl rfl (r_move hS392 rfl rfl) fun a393 hS393 => st_val hS393 rfl rfl rfl (r_len (e := 3) (sz := 1) (by_ := 8) hS393 rfl rfl (by kernel_rfl)) fun a394 hS394 => st_val hS394 rfl rfl rfl (r_bin hS394 rfl rfl rfl b_lss) fun a395 hS395 => st_val hS395 rfl rfl rfl (r_move hS395 rfl rfl) fun a396 hS396 => ?_
                                  refine g_join (N := 177) 7 [(1, .slice A1 p1.length cap1), (5, .slice A17 v29.1.length cap18), (6, .slice A26 v29.2.length cap27), (9, .pointer (some ⟨b212, 0, none⟩)), (11, .int .u64 v269.2), (12, .int .i64 m2_2), (20, .slice A354 r352.1.length cap355), (22, .int .i64 m4_0), (23, .int .i64 m4_1), (153, .bool r388), (165, .bool t406)] ?_ (fun hk => ?_)
                                  rotate_left
                                  · rcases Bool.eq_false_or_eq_true (decide (m4_0 < (r352.1.length : Int))) with hb397 | hb397
                                    · have H := ite_t hb397 ht407
                                      obtain ⟨x410, hx411, H⟩ := bind_el H
                                      have e416 := Option.some.inj H
                                      refine st_valW hS396 (want_on hS396 rfl rfl rfl hb397) rfl rfl (r_move hS396 rfl rfl) fun a408 hS408 => st_valW hS408 (want_on hS408 rfl rfl rfl hb397) rfl rfl (r_move hS408 rfl rfl) fun a409 hS409 => st_valW hS409 (want_on hS409 rfl rfl rfl hb397) rfl rfl (r_index (e := 3) (sz := 1) (by_ := 8) hS409 rfl rfl rfl (by kernel_rfl) (RdS.some_ (OwS.rd h356) hx411) (idx_lo hx411) (idx_hi hx411)) fun a412 hS412 => st_valW hS412 (want_on hS412 rfl rfl rfl hb397) rfl rfl (r_load1 (n := 1) hS412 rfl rfl (by kernel_rfl) (RdS.cell (i := m4_0) (sz := 1) (j := 0) (OwS.rd h356) hx411 rfl)) fun a413 hS413 => st_valW hS413 (want_on hS413 rfl rfl rfl hb397) rfl rfl (r_move hS413 rfl rfl) fun a414 hS414 => st_valW hS414 (want_on hS414 rfl rfl rfl hb397) rfl rfl (r_bin hS414 rfl rfl rfl b_eql) fun a415 hS415 => st_val hS415 rfl rfl rfl (r_pickT hS415 rfl rfl rfl hb397) fun a417 hS417 => hk _ (hS417.re ⟨rfl, rfl, rfl, rfl, rfl, rfl, rfl, rfl, rfl, rfl, (by rw [← e416]; rfl), trivial⟩)
                                    · have H := ite_f hb397 ht407
                                      have e418 := Option.some.inj H
                                      refine st_off hS396 (want_off hS396 rfl rfl rfl hb397) rfl rfl fun a419 hS419 => st_off hS419 (want_off hS419 rfl rfl rfl hb397) rfl rfl fun a420 hS420 => st_off hS420 (want_off hS420 rfl rfl rfl hb397) rfl rfl fun a421 hS421 => st_off hS421 (want_off hS421 rfl rfl rfl hb397) rfl rfl fun a422 hS422 => st_off hS422 (want_off hS422 rfl rfl rfl hb397) rfl rfl fun a423 hS423 => st_off hS423 (want_off hS423 rfl rfl rfl hb397) rfl rfl fun a424 hS424 => st_val hS424 rfl rfl rfl (r_pickF hS424 rfl rfl rfl hb397) fun a425 hS425 => hk _ (hS425.re ⟨rfl, rfl, rfl, rfl, rfl, rfl, rfl, rfl, rfl, rfl, (by rw [← e418]; rfl), trivial⟩)
                                  intro a426 hS426
                                  refine st_val hS426 rfl rfl rfl (r_binB hS426 rfl rfl rfl (b_neqB (by kernel_rfl))) fun a427 hS427 => wpList_nil (hK _ _ ?_)
                                  replace hS : Sl 177 _ [(1, .slice A1 p1.length cap1), (5, .slice A17 v29.1.length cap18), (6, .slice A26 v29.2.length cap27), (9, .pointer (some ⟨b212, 0, none⟩)), (11, .int .u64 v269.2), (12, .int .i64 m2_2), (20, .slice A354 r352.1.length cap355), (22, .int .i64 m4_0), (23, .int .i64 m4_1), (166, .bool (!(r388 == t406)))] := hS427.re ⟨rfl, rfl, rfl, rfl, rfl, rfl, rfl, rfl, rfl, rfl, trivial⟩
                                  clear hK K
                                  try clear hS386 hS387 hS390 hS392 hS393 hS394 hS395 hS396 hS426 hS427
                                  obtain ⟨a, ha⟩ : ∃ a', a' = a427 := ⟨_, rfl⟩
                                  rw [← ha] at hS ⊢; clear ha
                                  refine c_cond hS rfl (fun hb428 => ?_) (fun hb428 => ?_)
                                  · replace H := ite_t hb428 H
                                    refine c_pure [(4, .bool false)] (fun R hR => st_val hS rfl rfl rfl (r_assign hS rfl rfl) fun a429 hS429 => wpList_nil (hR _ (hS429.re ⟨rfl, trivial⟩))) ?_
                                    clear hS
                                    clear a
                                    intro a hS
                                    refine wp_ret ?_
                                    have e := Option.some.inj H
                                    subst e
                                    replace H := Fl.go_out Hl385
                                    have e := Option.some.inj H
                                    subst e
                                    replace H := Fl.go_out Hl373
                                    have e := Option.some.inj H
                                    subst e
                                    replace H := Fl.go_out Hl238
                                    have e := Option.some.inj H
                                    subst e
                                    replace H := Fl.go_out Hl208
                                    have e := Option.some.inj H
                                    subst e
                                    repeat (with_reducible first | refine then_ret ?_ | refine inBlock_ret ?_)
                                    exact c_ret1 hS Try.results11 rfl ⟨_, rfl, g391, rfl, hF⟩
                                  · replace H := ite_f hb428 H
                                    refine wp_skip ?_
                                    change Code.wp _ _ _ _ _
                                    obtain ⟨r432, hr433, H⟩ := bind_el H
                                    refine c_region (fun K hK => ?_)
                                    refine st_val hS rfl rfl rfl (r_move hS rfl rfl) fun a430 hS430 => st_val hS430 rfl rfl rfl (r_move hS430 rfl rfl) fun a431 hS431 => ?_
                                    refine st_enter hS431 rfl rfl rfl (r_call hS431 rfl rfl (by kernel_rfl)) (runtimepm_Manager_Active.calls (c0 := N + 8) (b_p0 := b212) (A_devices_p0 := A215) (cap_devices_p0 := cap216) (A_links_p0 := A219) (cap_links_p0 := cap220) (A_order_p0 := A223) (cap_order_p0 := cap224) (p0 := v269.1) (p1 := m4_1) (g := g391) (N + 25)  ⟨h213, h217, h221, h225⟩ (by omega) hr433) ?_
                                    rintro _ a434 w435 ⟨g435, rfl, F435⟩ hS434
                                    replace h19 := OwS.fr h19 F435 (fun c' hc (hm : N + 25 ≤ c') => by omega)
                                    replace h213 := h213.fr F435 (fun (hm : N + 25 ≤ N + 8) => by omega)
                                    replace h217 := OwS.fr h217 F435 (fun c' hc (hm : N + 25 ≤ c') => by omega)
                                    replace h221 := OwS.fr h221 F435 (fun c' hc (hm : N + 25 ≤ c') => by omega)
                                    replace h225 := OwS.fr h225 F435 (fun c' hc (hm : N + 25 ≤ c') => by omega)
                                    replace h356 := OwS.fr h356 F435 (fun c' hc (hm : N + 25 ≤ c') => by omega)
                                    replace h28 := OwS.fr h28 F435 (fun c' hc (hm : N + 25 ≤ c') => by omega)
                                    replace hp1 := RdS.fr hp1 F435 (by decide) (fun q (hq : C1 q) (hm : N + 25 ≤ q) => by have := hC1 q hq; omega)
                                    replace hF := hF.trans F435 (fun c' (hm : N + 25 ≤ c') => by show N ≤ c'; omega)
                                    refine wpList_nil (hK _ _ ?_)
                                    replace hS : Sl 177 _ [(1, .slice A1 p1.length cap1), (5, .slice A17 v29.1.length cap18), (6, .slice A26 v29.2.length cap27), (9, .pointer (some ⟨b212, 0, none⟩)), (11, .int .u64 v269.2), (12, .int .i64 m2_2), (20, .slice A354 r352.1.length cap355), (22, .int .i64 m4_0), (23, .int .i64 m4_1), (169, .bool r432)] := hS434.re ⟨rfl, rfl, rfl, rfl, rfl, rfl, rfl, rfl, rfl, rfl, trivial⟩
                                    clear hK K
                                    try clear hS430 hS431 hS434
                                    obtain ⟨a, ha⟩ : ∃ a', a' = a434 := ⟨_, rfl⟩
                                    rw [← ha] at hS ⊢; clear ha
                                    refine c_cond hS rfl (fun hb436 => ?_) (fun hb436 => ?_)
                                    · replace H := ite_t hb436 H
                                      refine c_pure1 [(1, .slice A1 p1.length cap1), (5, .slice A17 v29.1.length cap18), (6, .slice A26 v29.2.length cap27), (9, .pointer (some ⟨b212, 0, none⟩)), (11, .int .u64 v269.2), (12, .int .i64 m2_2), (20, .slice A354 r352.1.length cap355), (22, .int .i64 (wi (m4_0 + 1))), (23, .int .i64 m4_1)] (fun R hR => st_val hS rfl rfl rfl (r_move hS rfl rfl) fun a437 hS437 => st_val hS437 rfl rfl rfl (r_bin hS437 rfl rfl rfl b_add) fun a438 hS438 => st_val hS438 rfl rfl rfl (r_assign hS438 rfl rfl) fun a439 hS439 => wpList_nil (hR _ (hS439.re ⟨rfl, rfl, rfl, rfl, rfl, rfl, rfl, rfl, rfl, trivial⟩))) ?_
                                      clear hS
                                      clear a
                                      intro a hS
                                      have e := Option.some.inj H
                                      exact ⟨wi (m4_0 + 1), g435, e.symm, hS.re ⟨rfl, rfl, rfl, rfl, rfl, rfl, rfl, rfl, rfl, trivial⟩, h19, h213, h217, h221, h225, h356, h28, hp1, hF⟩
                                    · replace H := ite_f hb436 H
                                      refine wp_skip ?_
                                      have e := Option.some.inj H
                                      exact ⟨m4_0, g435, e.symm, hS.re ⟨rfl, rfl, rfl, rfl, rfl, rfl, rfl, rfl, rfl, trivial⟩, h19, h213, h217, h221, h225, h356, h28, hp1, hF⟩
                                · clear H
                                  clear hp1 h19 h28 h217 h221 h225 h213 h356 hF
                                  clear hS
                                  rintro a w382 ⟨v383, g382, hpre0, hS, h19, h213, h217, h221, h225, h356, h28, hp1, hF⟩
                                  subst hpre0
                                  have H := Fl.go_nxt Hl385
                                  clear Hl385
                                  refine c_pure1 [(1, .slice A1 p1.length cap1), (5, .slice A17 v29.1.length cap18), (6, .slice A26 v29.2.length cap27), (9, .pointer (some ⟨b212, 0, none⟩)), (11, .int .u64 v269.2), (12, .int .i64 m2_2), (20, .slice A354 r352.1.length cap355), (22, .int .i64 v383), (23, .int .i64 (wi (m4_1 + 1)))] (fun R hR => st_val hS rfl rfl rfl (r_move hS rfl rfl) fun a440 hS440 => st_val hS440 rfl rfl rfl (r_bin hS440 rfl rfl rfl b_add) fun a441 hS441 => st_val hS441 rfl rfl rfl (r_assign hS441 rfl rfl) fun a442 hS442 => wpList_nil (hR _ (hS442.re ⟨rfl, rfl, rfl, rfl, rfl, rfl, rfl, rfl, rfl, trivial⟩))) ?_
                                  clear hS
                                  clear a
                                  intro a hS
                                  refine ⟨k376, Nat.lt_succ_self _, ?_⟩
                                  exact ⟨v383, wi (m4_1 + 1), g382, H, hS.re ⟨rfl, rfl, rfl, rfl, rfl, rfl, rfl, rfl, rfl, trivial⟩, h19, h213, h217, h221, h225, h356, h28, hp1, hF⟩
                              · replace H := ite_f hb381 H
                                refine wp_exit ?_
                                have e := Option.some.inj H
                                exact ⟨m4_0, g375, e.symm, hS.re ⟨rfl, rfl, rfl, rfl, rfl, rfl, rfl, rfl, trivial⟩, h19, h213, h217, h221, h225, h356, h28, hp1, hF⟩
                        · clear H
                          clear hp1 h19 h28 h217 h221 h225 h213 h356 hF
                          clear hS
                          rintro a w370 ⟨v371, g370, hpre0, hS, h19, h213, h217, h221, h225, h356, h28, hp1, hF⟩
                          subst hpre0
                          have H := Fl.go_nxt Hl373
                          clear Hl373
                          refine c_pure [(1, .slice A1 p1.length cap1), (5, .slice A17 v29.1.length cap18), (6, .slice A26 v29.2.length cap27), (9, .pointer (some ⟨b212, 0, none⟩)), (11, .int .u64 v269.2), (12, .int .i64 m2_2), (175, .bool (v371 != (r352.1.length : Int)))] (fun R hR => st_val hS rfl rfl rfl (r_move hS rfl rfl) fun a443 hS443 => st_val hS443 rfl rfl rfl (r_move hS443 rfl rfl) fun a444 hS444 => st_val hS444 rfl rfl rfl (r_len (e := 3) (sz := 1) (by_ := 8) hS444 rfl rfl (by kernel_rfl)) fun a445 hS445 => st_val hS445 rfl rfl rfl (r_bin hS445 rfl rfl rfl b_neq) fun a446 hS446 => wpList_nil (hR _ (hS446.re ⟨rfl, rfl, rfl, rfl, rfl, rfl, rfl, trivial⟩))) ?_
                          clear hS
                          clear a
                          intro a hS
                          refine c_cond hS rfl (fun hb447 => ?_) (fun hb447 => ?_)
                          · replace H := ite_t hb447 H
                            refine c_pure [(4, .bool false)] (fun R hR => st_val hS rfl rfl rfl (r_assign hS rfl rfl) fun a448 hS448 => wpList_nil (hR _ (hS448.re ⟨rfl, trivial⟩))) ?_
                            clear hS
                            clear a
                            intro a hS
                            refine wp_ret ?_
                            have e := Option.some.inj H
                            subst e
                            replace H := Fl.go_out Hl238
                            have e := Option.some.inj H
                            subst e
                            replace H := Fl.go_out Hl208
                            have e := Option.some.inj H
                            subst e
                            repeat (with_reducible first | refine then_ret ?_ | refine inBlock_ret ?_)
                            exact c_ret1 hS Try.results11 rfl ⟨_, rfl, g370, rfl, hF⟩
                          · replace H := ite_f hb447 H
                            refine wp_skip ?_
                            have e := Option.some.inj H
                            exact ⟨(v269.1, v269.2), g370, e.symm, hS.re ⟨rfl, rfl, rfl, rfl, rfl, rfl, trivial⟩, h19, h213, h217, h221, h225, h28, hp1, hF⟩
                · clear H
                  clear hp1 h19 h28 h217 h221 h225 h213 hF
                  clear hS
                  rintro a w235 ⟨v236, g235, hpre0, hS, h19, h213, h217, h221, h225, h28, hp1, hF⟩
                  subst hpre0
                  have H := Fl.go_nxt Hl238
                  clear Hl238
                  refine c_pure1 [(1, .slice A1 p1.length cap1), (5, .slice A17 v29.1.length cap18), (6, .slice A26 v29.2.length cap27), (9, .pointer (some ⟨b212, 0, none⟩)), (11, .int .u64 v236.2), (12, .int .i64 (wi (m2_2 + 1)))] (fun R hR => st_val hS rfl rfl rfl (r_move hS rfl rfl) fun a449 hS449 => st_val hS449 rfl rfl rfl (r_bin hS449 rfl rfl rfl b_add) fun a450 hS450 => st_val hS450 rfl rfl rfl (r_assign hS450 rfl rfl) fun a451 hS451 => wpList_nil (hR _ (hS451.re ⟨rfl, rfl, rfl, rfl, rfl, rfl, trivial⟩))) ?_
                  clear hS
                  clear a
                  intro a hS
                  refine ⟨k229, Nat.lt_succ_self _, ?_⟩
                  exact ⟨v236.1, v236.2, wi (m2_2 + 1), g235, H, hS.re ⟨rfl, rfl, rfl, rfl, rfl, rfl, trivial⟩, h19, h213, h217, h221, h225, h28, hp1, hF⟩
              · replace H := ite_f hb234 H
                refine wp_exit ?_
                have e := Option.some.inj H
                exact ⟨g228, e.symm, hS.re trivial, hF⟩
        · clear H
          clear hp1 h19 h28 h180 hF
          clear hS
          rintro a w205 ⟨g205, hpre0, hS, hF⟩
          subst hpre0
          have H := Fl.go_nxt Hl208
          clear Hl208
          obtain ⟨r452, hr453, H⟩ := bind_el H
          refine c_region (fun K hK => ?_)
          refine st_enter hS rfl rfl rfl (r_call hS rfl rfl (by kernel_rfl)) (law28_awake.calls (g := g205) (N + 25)   hr453) ?_
          rintro _ a454 w455 ⟨g455, rfl, F455⟩ hS454
          replace hF := hF.trans F455 (fun c' (hm : N + 25 ≤ c') => by show N ≤ c'; omega)
          refine st_val hS454 rfl rfl rfl (r_assign hS454 rfl rfl) fun a456 hS456 => wpList_nil (hK _ _ ?_)
          replace hS : Sl 177 _ [(4, .bool r452)] := hS456.re ⟨rfl, trivial⟩
          clear hK K
          try clear hS454 hS456
          obtain ⟨a, ha⟩ : ∃ a', a' = a456 := ⟨_, rfl⟩
          rw [← ha] at hS ⊢; clear ha
          refine wp_ret ?_
          have e := Option.some.inj H
          subst e
          repeat (with_reducible first | refine then_ret ?_ | refine inBlock_ret ?_)
          exact c_ret1 hS Try.results11 rfl ⟨_, rfl, g455, rfl, hF⟩

/-- What is left of law28_RuntimepmClosure: about plain values alone. -/
def law28_RuntimepmClosure.Pure : Prop := ∀ (p0 : List api_IdleDevice) (p1 : List law28_Call), (p0.length ≤ maxLen ∧ ∀ p0' ∈ p0, Wf_api_IdleDevice p0') → (p1.length ≤ maxLen ∧ ∀ p1' ∈ p1, Wf_law28_Call p1') → law28_RuntimepmClosure.f p0 p1 = some true

end Go.Proofs.Ytcfcffbjdjacfaa.Sim
