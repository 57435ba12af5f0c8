/-
  Texts of this session, part 3 of 7: the words of the walk, plain functions with the same answers as the Go functions and the proofs of it, plain lemmas. No condition.
  They are, one behind the other: QDepgraphSort QDepgraphOrder QSlicesCloneIntInt QRuntimepmSuppliers QRuntimepmNew QLaw28Awake QHelpMod QLaw28CallAt QLaw28Do QLaw28Large QLaw28Some QRef28ManagerBad.
-/
import Derived.Test.YtcfcffbjdjacfaaProg
import Derived.Test.YtcfcffbjdjacfaaZRuntimepmCallsAgree2

namespace Go.Proofs.Ytcfcffbjdjacfaa.Sim
open Go
set_option linter.unusedVariables false
set_option linter.unusedSimpArgs false

/-! ### y1x: function 70 -/
def y1x.l0 (r4 : (List (List Int)) × (List Int)) : Nat → (List Int) → Int → Option ((List Int))
 | 0, _, _ => none
 | k40 + 1, m0_0, m0_1 => if decide (m0_1 < (r4.2.length : Int)) = true then (((idx r4.2 m0_1).bind fun x50 => if (x50 == 0) = true then ((heap_Push.f (y1p.mk m0_0) m0_1).bind fun r62 => some r62.q) else (some m0_0) : Option ((List Int))).bind fun v46 => y1x.l0 r4 k40 v46 (wi (m0_1 + 1))) else (some m0_0)
def y1x.l2 (y121 : List Int) (x132 : List Int) : Nat → (List Int) → (List Int) → Int → Option (Fl ((List Int)) ((List Int) × (List Int) × (List Int)))
 | 0, _, _, _ => none
 | k147 + 1, m2_0, m2_1, m2_2 => if decide (m2_2 < (x132.length : Int)) = true then (((idx x132 m2_2).bind fun x156 => (idx m2_0 x156).bind fun x163 => (idx (upd m2_0 x156 (wi (x163 - 1))) x156).bind fun x173 => if (x173 == 0) = true then ((heap_Push.f (y1p.mk m2_1) x156).bind fun r182 => some ((upd m2_0 x156 (wi (x163 - 1))), r182.q)) else (some ((upd m2_0 x156 (wi (x163 - 1))), m2_1)) : Option ((List Int) × (List Int))).bind fun v153 => y1x.l2 y121 x132 k147 v153.1 v153.2 (wi (m2_2 + 1))) else (some (.nxt (m2_0, m2_1, y121)))
def y1x.l1 (r4 : (List (List Int)) × (List Int)) : Nat → (List Int) → (List Int) → (List Int) → Option ((List Int))
 | 0, _, _, _ => none
 | k84 + 1, m1_0, m1_1, m1_2 => if decide (0 < (m1_1.length : Int)) = true then (((heap_Pop.f (y1p.mk m1_1)).bind fun r99 => if (!true) = true then (some (.out m1_2)) else ((app m1_2 [r99.2]).bind fun y121 => (idx r4.1 r99.2).bind fun x132 => y1x.l2 y121 x132 FUEL m1_0 r99.1.q 0) : Option (Fl ((List Int)) ((List Int) × (List Int) × (List Int)))).bind fun o96 => o96.go fun v95 => y1x.l1 r4 k84 v95.1 v95.2.1 v95.2.2) else (some m1_2)
def y1x.f (p0 : Int) (p1 : List y0g) : Option ((List Int)) := (y2e.f p0 p1).bind fun r4 => (y1x.l0 r4 FUEL [] 0 : Option ((List Int))).bind fun v30 => (y1x.l1 r4 FUEL r4.2 v30 [] : Option ((List Int))).bind fun v75 => some v75
set_option maxRecDepth 100000 in
set_option maxHeartbeats 4000000 in
theorem y1x.calls {p0 : Int} {p1 : List y0g} {A1 : Option Addr} {cap1 : Nat} {C1 : Nat → Prop} {w : World} {g : Nat → Nat} {out : (List Int)} (N : Nat) (r0 : Nat) (hp1 : RdS y0r w g C1 A1 cap1 p1) (hC1 : ∀ c, C1 c → c < N) (hr0 : r0 + 2 ≤ N) (H : y1x.f p0 p1 = some out) :
  Calls Try.prog 70 #[i6 p0, .slice A1 p1.length cap1] w (fun e w' => ∃ v, e = .returned v ∧ ∃ (g' : Nat → Nat) (A_r0 : Option Addr) (cap_r0 : Nat), v = .slice A_r0 out.length cap_r0 ∧ OwS (kint .i64) 3 w' g' r0 A_r0 cap_r0 out ∧ Fr (fun q => (r0 ≤ q ∧ q < r0 + 2) ∨ N ≤ q) w g w' g') := by
 unfold y1x.f at H
 refine y1k Try.func70 rfl Try.ntmps70 Z (fun a hS => ?_)
 replace hS : Sl 76 a [(0, i6 p0), (1, .slice A1 p1.length cap1)] := hS
 have hF : Fr (fun q => (r0 ≤ q ∧ q < r0 + 2) ∨ N ≤ q) w g w g := Fr.refl _ _ _
 refine y16 [(0, i6 p0), (1, .slice A1 p1.length cap1)] (fun R hR => y00 hS Z Z Z (y02 hS Z Z) fun a1 S1 => wpList_nil (hR _ (S1.re ⟨Z, Z, trivial⟩))) ?_
 clear hS a; intro a hS
 obtain ⟨r4, hr5, H⟩ := y0b H
 refine y0t (fun K hK => ?_)
 refine y00 hS Z Z Z (y03 hS Z Z) fun a2 S2 => y00 S2 Z Z Z (y03 S2 Z Z) fun a3 S3 => ?_
 refine y1y S3 Z Z Z (y2z S3 Z Z (by kernel_rfl)) (y2e.calls (C1 := C1) (p0 := p0) (p1 := p1) (g := g) (N + 11) (N + 0) (N + 2) hp1 (fun q (hq : C1 q) => by have := hC1 q hq; omega) (by omega) (by omega) (by omega) hr5) ?_
 rintro _ a14 w15 ⟨g15, A6, cap7, A10, cap11, rfl, h8, h12, F15⟩ S14
 replace hp1 := RdS.fr hp1 F15 (by decide) (fun q (hq : C1 q) (hm : (N + 0 ≤ q ∧ q < N + 0 + 2) ∨ (N + 2 ≤ q ∧ q < N + 2 + 2) ∨ N + 11 ≤ q) => by have := hC1 q hq; omega)
 replace hF := hF.trans F15 (fun c' (hm : (N + 0 ≤ c' ∧ c' < N + 0 + 2) ∨ (N + 2 ≤ c' ∧ c' < N + 2 + 2) ∨ N + 11 ≤ c') => by (try dsimp only); omega)
 refine y00 S14 Z Z Z (y03 S14 Z Z) fun a16 S16 => y00 S16 Z Z Z (y1z S16 Z Z Z) fun a17 S17 => y00 S17 Z Z Z (y1z S17 Z Z Z) fun a18 S18 => y00 S18 Z Z Z (y02 S18 Z Z) fun a19 S19 => y00 S19 Z Z Z (y02 S19 Z Z) fun a20 S20 => wpList_nil (hK _ _ ?_)
 replace hS : Sl 76 _ [(5, .slice A6 r4.1.length cap7), (6, .slice A10 r4.2.length cap11)] := S20.re ⟨Z, Z, trivial⟩
 clear hK K
 try clear S2 S3 S14 S16 S17 S18 S19 S20
 generalize a20 = a at hS ⊢
 refine y0t (fun K hK => ?_)
 refine y41 hS Z Z Z (e_alloc (cs := [.slice none 0 0]) (N + 4) g15 hS Z (by kernel_rfl)) ?_
 rintro _ a24 w25 g25 ⟨⟨b21, rfl, h22⟩, F25⟩ S24
 replace h12 := OwS.fr h12 F25 (fun _ _ h => h)
 replace h8 := OwS.fr h8 F25 (fun _ _ h => h)
 replace hF := hF.trans F25 (fun _ h => h.elim)
 refine wpList_nil (hK _ _ ?_)
 replace hS : Sl 76 _ [(5, .slice A6 r4.1.length cap7), (6, .slice A10 r4.2.length cap11), (7, .pointer (so b21))] := S24.re ⟨Z, Z, Z, trivial⟩
 clear hK K
 try clear S24
 generalize a24 = a at hS ⊢
 obtain ⟨v30, H, Hl32⟩ := y0b H
 refine y4u (fun a w26 => ∃ (g26 : Nat → Nat), ∃ (A27 : Option Addr), ∃ (cap28 : Nat), Sl 76 a [(5, .slice A6 r4.1.length cap7), (6, .slice A10 r4.2.length cap11), (7, .pointer (so b21))] ∧ OwS (kint .i64) 3 w26 g26 (N + 2) A10 cap11 r4.2 ∧ Bx w26 g26 (N + 4) b21 138 [.slice A27 v30.length cap28] ∧ OwS (kslice (kint .i64) (by decide)) 27 w26 g26 (N + 0) A6 cap7 r4.1 ∧ OwS (kint .i64) 3 w26 g26 (N + 4 + 1) A27 cap28 v30 ∧ Fr (fun q => (r0 ≤ q ∧ q < r0 + 2) ∨ N ≤ q) w g w26 g26) ?_ ?_
 ·refine y16 [(5, .slice A6 r4.1.length cap7), (6, .slice A10 r4.2.length cap11), (7, .pointer (so b21)), (21, .slice A10 r4.2.length cap11), (22, i6 (r4.2.length : Int)), (23, i6 0)] (fun R hR => y00 hS Z Z Z (y03 hS Z Z) fun a33 S33 => y00 S33 Z Z Z (y4x (e := 3) (sz := 1) (by_ := 8) S33 Z Z (by kernel_rfl)) fun a34 S34 => y00 S34 Z Z Z (y03 S34 Z Z) fun a35 S35 => wpList_nil (hR _ (S35.re ⟨Z, Z, Z, Z, Z, Z, trivial⟩))) ?_
  clear hS a; intro a hS
  refine wp_block ?_
  refine wp_loop_ghost (fun kq => fun a w36 => ∃ (m0_0 : List Int), ∃ (m0_1 : Int), ∃ (g36 : Nat → Nat), ∃ (A37 : Option Addr), ∃ (cap38 : Nat), y1x.l0 r4 kq m0_0 m0_1 = some v30 ∧ Sl 76 a [(5, .slice A6 r4.1.length cap7), (6, .slice A10 r4.2.length cap11), (7, .pointer (so b21)), (21, .slice A10 r4.2.length cap11), (22, i6 (r4.2.length : Int)), (23, i6 m0_1)] ∧ OwS (kint .i64) 3 w36 g36 (N + 2) A10 cap11 r4.2 ∧ Bx w36 g36 (N + 4) b21 138 [.slice A37 m0_0.length cap38] ∧ OwS (kslice (kint .i64) (by decide)) 27 w36 g36 (N + 0) A6 cap7 r4.1 ∧ OwS (kint .i64) 3 w36 g36 (N + 4 + 1) A37 cap38 m0_0 ∧ Fr (fun q => (r0 ≤ q ∧ q < r0 + 2) ∨ N ≤ q) w g w36 g36) FUEL ?_ ?_
  ·exact ⟨[], 0, g25, none, 0, H, hS.re ⟨Z, Z, Z, Z, Z, Z, trivial⟩, h12, h22, h8, OwS.nil (kint .i64) 3 w25 g25 (N + 4 + 1), hF⟩
  ·clear H
   clear h8 h12 h22 hF
   clear hS
   rintro k40 a w36 ⟨m0_0, m0_1, g36, A37, cap38, hpre0, hS, h12, h22, h8, h39, hF⟩
   have H := hpre0
   clear hpre0
   cases k40 with
   | zero => exact absurd H (by simp [y1x.l0])
   | succ k40 =>
    rw [y1x.l0] at H
    refine y16 [(5, .slice A6 r4.1.length cap7), (6, .slice A10 r4.2.length cap11), (7, .pointer (so b21)), (21, .slice A10 r4.2.length cap11), (22, i6 (r4.2.length : Int)), (23, i6 m0_1), (24, .bool (decide (m0_1 < (r4.2.length : Int))))] (fun R hR => y00 hS Z Z Z (y2l hS Z Z rfl y4t) fun a41 S41 => wpList_nil (hR _ (S41.re ⟨Z, Z, Z, Z, Z, Z, Z, trivial⟩))) ?_
    clear hS a; intro a hS
    refine c_if hS Z (fun hb42 => ?_) (fun hb42 => ?_)
    ·replace H := y3f hb42 H
     refine wp_skip ?_
     change Code.wp _ _ _ _ _
     obtain ⟨v46, H, Hl48⟩ := y0b H
     refine y4u (fun a w43 => ∃ (g43 : Nat → Nat), ∃ (A44 : Option Addr), ∃ (cap45 : Nat), Sl 76 a [(5, .slice A6 r4.1.length cap7), (6, .slice A10 r4.2.length cap11), (7, .pointer (so b21)), (21, .slice A10 r4.2.length cap11), (22, i6 (r4.2.length : Int)), (23, i6 m0_1)] ∧ OwS (kint .i64) 3 w43 g43 (N + 2) A10 cap11 r4.2 ∧ Bx w43 g43 (N + 4) b21 138 [.slice A44 v46.length cap45] ∧ OwS (kslice (kint .i64) (by decide)) 27 w43 g43 (N + 0) A6 cap7 r4.1 ∧ OwS (kint .i64) 3 w43 g43 (N + 4 + 1) A44 cap45 v46 ∧ Fr (fun q => (r0 ≤ q ∧ q < r0 + 2) ∨ N ≤ q) w g w43 g43) ?_ ?_
     ·refine wp_block ?_
      obtain ⟨x50, hx51, H⟩ := y0b H
      refine y16 [(5, .slice A6 r4.1.length cap7), (6, .slice A10 r4.2.length cap11), (7, .pointer (so b21)), (8, i6 m0_1), (9, i6 x50), (21, .slice A10 r4.2.length cap11), (22, i6 (r4.2.length : Int)), (23, i6 m0_1)] (fun R hR => y00 hS Z Z Z (y03 hS Z Z) fun a49 S49 => y00 S49 Z Z Z (y1j (e := 3) (sz := 1) (by_ := 8) S49 Z Z Z (by kernel_rfl) (RdS.some_ (OwS.rd h12) hx51) (y26 hx51) (y27 hx51)) fun a52 S52 => y00 S52 Z Z Z (y0u (n := 1) S52 Z Z (by kernel_rfl) (RdS.cell (i := m0_1) (sz := 1) (j := 0) (OwS.rd h12) hx51 Z)) fun a53 S53 => y00 S53 Z Z Z (y02 S53 Z Z) fun a54 S54 => y00 S54 Z Z Z (y02 S54 Z Z) fun a55 S55 => wpList_nil (hR _ (S55.re ⟨Z, Z, Z, Z, Z, Z, Z, Z, trivial⟩))) ?_
      clear hS a; intro a hS
      refine y16 [(5, .slice A6 r4.1.length cap7), (6, .slice A10 r4.2.length cap11), (7, .pointer (so b21)), (8, i6 m0_1), (21, .slice A10 r4.2.length cap11), (22, i6 (r4.2.length : Int)), (23, i6 m0_1), (29, .bool (x50 == 0))] (fun R hR => y00 hS Z Z Z (y03 hS Z Z) fun a56 S56 => y00 S56 Z Z Z (y2l S56 Z Z rfl b_eql) fun a57 S57 => wpList_nil (hR _ (S57.re ⟨Z, Z, Z, Z, Z, Z, Z, Z, trivial⟩))) ?_
      clear hS a; intro a hS
      refine y2m hS Z (fun hb58 => ?_) (fun hb58 => ?_)
      ·replace H := y3f hb58 H
       obtain ⟨r62, hr63, H⟩ := y0b H
       refine y3l (fun K hK => ?_)
       refine y00 hS Z Z Z (r_mkif hS Z Z (by kernel_rfl)) fun a59 S59 => y00 S59 Z Z Z (y03 S59 Z Z) fun a60 S60 => y00 S60 Z Z Z (r_mkif S60 Z Z (by kernel_rfl)) fun a61 S61 => ?_
       refine y1y S61 Z Z Z (y2z S61 Z Z (by kernel_rfl)) (heap_Push.calls (c0 := N + 4) (b_p0 := b21) (y4q := A37) (y34 := cap38) (p0 := (y1p.mk m0_0)) (p1 := m0_1) (g := g36) (N + 11)  ⟨h22, h39⟩ (by omega) hr63) ?_
       rintro _ a66 w67 ⟨g67, A64, cap65, rfl, ⟨h22, h39⟩, F67⟩ S66
       replace h12 := OwS.fr h12 F67 (fun c' hc (hm : (N + 4 ≤ c' ∧ c' < N + 4 + 3) ∨ N + 11 ≤ c') => by omega)
       replace h8 := OwS.fr h8 F67 (fun c' hc (hm : (N + 4 ≤ c' ∧ c' < N + 4 + 3) ∨ N + 11 ≤ c') => by omega)
       replace hF := hF.trans F67 (fun c' (hm : (N + 4 ≤ c' ∧ c' < N + 4 + 3) ∨ N + 11 ≤ c') => by (try dsimp only); omega)
       refine wpList_nil (hK _ _ ?_)
       replace hS : Sl 76 _ [(5, .slice A6 r4.1.length cap7), (6, .slice A10 r4.2.length cap11), (7, .pointer (so b21)), (21, .slice A10 r4.2.length cap11), (22, i6 (r4.2.length : Int)), (23, i6 m0_1)] := S66.re ⟨Z, Z, Z, Z, Z, Z, trivial⟩
       clear hK K
       try clear S59 S60 S61 S66
       generalize a66 = a at hS ⊢
       have e := Option.some.inj H
       subst e
       exact ⟨g67, A64, cap65, hS.re ⟨Z, Z, Z, Z, Z, Z, trivial⟩, h12, h22, h8, h39, hF⟩
      ·replace H := y3g hb58 H
       refine wp_skip ?_
       have e := Option.some.inj H
       subst e
       exact ⟨g36, A37, cap38, hS.re ⟨Z, Z, Z, Z, Z, Z, trivial⟩, h12, h22, h8, h39, hF⟩
     ·clear H
      clear h8 h12 h22 h39 hF
      clear hS
      rintro a w43 ⟨g43, A44, cap45, hS, h12, h22, h8, h39, hF⟩
      have H := Hl48
      clear Hl48
      refine y3e [(5, .slice A6 r4.1.length cap7), (6, .slice A10 r4.2.length cap11), (7, .pointer (so b21)), (21, .slice A10 r4.2.length cap11), (22, i6 (r4.2.length : Int)), (23, i6 (wi (m0_1 + 1)))] (fun R hR => y00 hS Z Z Z (y2l hS Z Z rfl y4z) fun a68 S68 => y00 S68 Z Z Z (y03 S68 Z Z) fun a69 S69 => wpList_nil (hR _ (S69.re ⟨Z, Z, Z, Z, Z, Z, trivial⟩))) ?_
      clear hS a; intro a hS
      refine ⟨k40, Nat.lt_succ_self _, ?_⟩
      exact ⟨v46, wi (m0_1 + 1), g43, A44, cap45, H, hS.re ⟨Z, Z, Z, Z, Z, Z, trivial⟩, h12, h22, h8, h39, hF⟩
    ·replace H := y3g hb42 H
     refine wp_exit ?_
     have e := Option.some.inj H
     subst e
     exact ⟨g36, A37, cap38, hS.re ⟨Z, Z, Z, trivial⟩, h12, h22, h8, h39, hF⟩
 ·clear H
  clear h8 h12 h22 hF
  clear hS
  rintro a w26 ⟨g26, A27, cap28, hS, h12, h22, h8, h29, hF⟩
  have H := Hl32
  clear Hl32
  refine y16 [(5, .slice A6 r4.1.length cap7), (6, .slice A10 r4.2.length cap11), (7, .pointer (so b21)), (10, .slice none 0 0)] (fun R hR => y00 hS Z Z Z (y02 hS Z Z) fun a70 S70 => wpList_nil (hR _ (S70.re ⟨Z, Z, Z, Z, trivial⟩))) ?_
  clear hS a; intro a hS
  obtain ⟨v75, H, Hl77⟩ := y0b H
  refine y4u (fun a w71 => ∃ (g71 : Nat → Nat), ∃ (A72 : Option Addr), ∃ (cap73 : Nat), Sl 76 a [(10, .slice A72 v75.length cap73)] ∧ OwS (kint .i64) 3 w71 g71 (N + 9) A72 cap73 v75 ∧ Fr (fun q => (r0 ≤ q ∧ q < r0 + 2) ∨ N ≤ q) w g w71 g71) ?_ ?_
  ·refine wp_block ?_
   refine wp_loop_ghost (fun kq => fun a w78 => ∃ (m1_0 : List Int), ∃ (m1_1 : List Int), ∃ (m1_2 : List Int), ∃ (g78 : Nat → Nat), ∃ (A79 : Option Addr), ∃ (cap80 : Nat), ∃ (A81 : Option Addr), ∃ (cap82 : Nat), y1x.l1 r4 kq m1_0 m1_1 m1_2 = some v75 ∧ Sl 76 a [(5, .slice A6 r4.1.length cap7), (6, .slice A10 m1_0.length cap11), (7, .pointer (so b21)), (10, .slice A81 m1_2.length cap82)] ∧ OwS (kint .i64) 3 w78 g78 (N + 2) A10 cap11 m1_0 ∧ Bx w78 g78 (N + 4) b21 138 [.slice A79 m1_1.length cap80] ∧ OwS (kslice (kint .i64) (by decide)) 27 w78 g78 (N + 0) A6 cap7 r4.1 ∧ OwS (kint .i64) 3 w78 g78 (N + 4 + 1) A79 cap80 m1_1 ∧ OwS (kint .i64) 3 w78 g78 (N + 9) A81 cap82 m1_2 ∧ Fr (fun q => (r0 ≤ q ∧ q < r0 + 2) ∨ N ≤ q) w g w78 g78) FUEL ?_ ?_
   ·exact ⟨r4.2, v30, [], g26, A27, cap28, none, 0, H, hS.re ⟨Z, Z, Z, Z, trivial⟩, h12, h22, h8, h29, OwS.nil (kint .i64) 3 w26 g26 (N + 9), hF⟩
   ·clear H
    clear h8 h12 h22 h29 hF
    clear hS
    rintro k84 a w78 ⟨m1_0, m1_1, m1_2, g78, A79, cap80, A81, cap82, hpre0, hS, h12, h22, h8, h29, h83, hF⟩
    have H := hpre0
    clear hpre0
    cases k84 with
    | zero => exact absurd H (by simp [y1x.l1])
    | succ k84 =>
     rw [y1x.l1] at H
     refine wp_seq ?_
     refine y16 [(5, .slice A6 r4.1.length cap7), (6, .slice A10 m1_0.length cap11), (7, .pointer (so b21)), (10, .slice A81 m1_2.length cap82), (37, .bool (decide (0 < (m1_1.length : Int))))] (fun R hR => y00 hS Z Z Z (y0u (n := 1) hS Z Z (by kernel_rfl) (Bx.cell h22 Z)) fun a85 S85 => y00 S85 Z Z Z (y4x (e := 3) (sz := 1) (by_ := 8) S85 Z Z (by kernel_rfl)) fun a86 S86 => y00 S86 Z Z Z (y2l S86 Z Z rfl b_gtr) fun a87 S87 => wpList_nil (hR _ (S87.re ⟨Z, Z, Z, Z, Z, trivial⟩))) ?_
     clear hS a; intro a hS
     refine y2m hS Z (fun hb88 => ?_) (fun hb88 => ?_)
     ·replace H := y3f hb88 H
      refine wp_skip ?_
      change Code.wp _ _ _ _ _
      obtain ⟨o96, H, Hl97⟩ := y0b H
      refine c_cut1 (fun a w89 => ∃ (v95 : (List Int) × (List Int) × (List Int)), ∃ (g89 : Nat → Nat), ∃ (A90 : Option Addr), ∃ (cap91 : Nat), ∃ (A92 : Option Addr), ∃ (cap93 : Nat), o96 = .nxt v95 ∧ Sl 76 a [(5, .slice A6 r4.1.length cap7), (6, .slice A10 v95.1.length cap11), (7, .pointer (so b21)), (10, .slice A92 v95.2.2.length cap93)] ∧ OwS (kint .i64) 3 w89 g89 (N + 2) A10 cap11 v95.1 ∧ Bx w89 g89 (N + 4) b21 138 [.slice A90 v95.2.1.length cap91] ∧ OwS (kslice (kint .i64) (by decide)) 27 w89 g89 (N + 0) A6 cap7 r4.1 ∧ OwS (kint .i64) 3 w89 g89 (N + 4 + 1) A90 cap91 v95.2.1 ∧ OwS (kint .i64) 3 w89 g89 (N + 9) A92 cap93 v95.2.2 ∧ Fr (fun q => (r0 ≤ q ∧ q < r0 + 2) ∨ N ≤ q) w g w89 g89) ?_ ?_
      ·refine wp_block ?_
       obtain ⟨r99, hr100, H⟩ := y0b H
       refine y0t (fun K hK => ?_)
       refine y00 hS Z Z Z (r_mkif hS Z Z (by kernel_rfl)) fun a98 S98 => ?_
       refine y1y S98 Z Z Z (y2z S98 Z Z (by kernel_rfl)) (heap_Pop.calls (c0 := N + 4) (b_p0 := b21) (y4q := A79) (y34 := cap80) (p0 := (y1p.mk m1_1)) (g := g78) (N + 11)  ⟨h22, h29⟩ (by omega) hr100) ?_
       rintro _ a103 w104 ⟨g104, A101, cap102, rfl, ⟨h22, h29⟩, F104⟩ S103
       replace h12 := OwS.fr h12 F104 (fun c' hc (hm : (N + 4 ≤ c' ∧ c' < N + 4 + 3) ∨ N + 11 ≤ c') => by omega)
       replace h8 := OwS.fr h8 F104 (fun c' hc (hm : (N + 4 ≤ c' ∧ c' < N + 4 + 3) ∨ N + 11 ≤ c') => by omega)
       replace h83 := OwS.fr h83 F104 (fun c' hc (hm : (N + 4 ≤ c' ∧ c' < N + 4 + 3) ∨ N + 11 ≤ c') => by omega)
       replace hF := hF.trans F104 (fun c' (hm : (N + 4 ≤ c' ∧ c' < N + 4 + 3) ∨ N + 11 ≤ c') => by (try dsimp only); omega)
       refine y00 S103 Z Z Z (r_assert S103 Z Z (by kernel_rfl)) fun a105 S105 => y00 S105 Z Z Z (y03 S105 Z Z) fun a106 S106 => y00 S106 Z Z Z (y1z S106 Z Z Z) fun a107 S107 => y00 S107 Z Z Z (y1z S107 Z Z Z) fun a108 S108 => y00 S108 Z Z Z (y02 S108 Z Z) fun a109 S109 => y00 S109 Z Z Z (y02 S109 Z Z) fun a110 S110 => wpList_nil (hK _ _ ?_)
       replace hS : Sl 76 _ [(5, .slice A6 r4.1.length cap7), (6, .slice A10 m1_0.length cap11), (7, .pointer (so b21)), (10, .slice A81 m1_2.length cap82), (11, i6 r99.2), (12, .bool true)] := S110.re ⟨Z, Z, Z, Z, Z, Z, trivial⟩
       clear hK K
       try clear S98 S103 S105 S106 S107 S108 S109 S110
       generalize a110 = a at hS ⊢
       refine wp_seq ?_
       refine y16 [(5, .slice A6 r4.1.length cap7), (6, .slice A10 m1_0.length cap11), (7, .pointer (so b21)), (10, .slice A81 m1_2.length cap82), (11, i6 r99.2), (45, .bool (!true))] (fun R hR => y00 hS Z Z Z (y03 hS Z Z) fun a111 S111 => y00 S111 Z Z Z (r_not S111 Z Z) fun a112 S112 => wpList_nil (hR _ (S112.re ⟨Z, Z, Z, Z, Z, Z, trivial⟩))) ?_
       clear hS a; intro a hS
       refine y2m hS Z (fun hb113 => ?_) (fun hb113 => ?_)
       ·replace H := y3f hb113 H
        refine wp_exit ?_
        have e := Option.some.inj H
        subst e
        replace H := Fl.go_out Hl97
        have e := Option.some.inj H
        subst e
        exact ⟨g104, A81, cap82, hS.re ⟨Z, trivial⟩, h83, hF⟩
       ·replace H := y3g hb113 H
        refine wp_skip ?_
        change Code.wp _ _ _ _ _
        obtain ⟨y121, hy122, H⟩ := y0b H
        refine y0t (fun K hK => ?_)
        refine y00 hS Z Z Z (y03 hS Z Z) fun a114 S114 => y00 S114 Z Z Z (y03 S114 Z Z) fun a115 S115 => ?_
        refine y41 S115 Z Z Z (e_lit (e := 3) (parts := [(0, i6 r99.2)]) (cs := [i6 r99.2]) (kint .i64) [r99.2] (N + 7) g104 S115 Z Z (fun _ => by kernel_rfl) Z (by decide) (Rows.cons (cs := [i6 r99.2]) rfl Rows.nil)) ?_
        rintro _ a119 w120 g120 ⟨⟨A116, rfl, h117⟩, F120⟩ S119
        replace h12 := OwS.fr h12 F120 (fun _ _ h => h)
        replace h22 := h22.fr F120 (fun h => h)
        replace h8 := OwS.fr h8 F120 (fun _ _ h => h)
        replace h29 := OwS.fr h29 F120 (fun _ _ h => h)
        replace h83 := OwS.fr h83 F120 (fun _ _ h => h)
        replace hF := hF.trans F120 (fun _ h => h.elim)
        refine y41 S119 Z Z Z (y4g (e := 3) (sz := 1) (by_ := 8) (z := [i6 0]) (kd := (kint .i64)) g120 S119 Z Z Z Z (by kernel_rfl) (by kernel_rfl) Z Z Z Z h83 (OwD.rdx h117) (fun _ _ _ h => h) hy122) ?_
        rintro _ a127 w128 g128 ⟨⟨A123, cap124, rfl, h125⟩, F128⟩ S127
        replace h117 := OwS.fr h117 F128 (fun c' hc (hm : c' = N + 9) => by omega)
        replace h12 := OwS.fr h12 F128 (fun c' hc (hm : c' = N + 9) => by omega)
        replace h22 := h22.fr F128 (fun (hm : N + 4 = N + 9) => by omega)
        replace h8 := OwS.fr h8 F128 (fun c' hc (hm : c' = N + 9) => by omega)
        replace h29 := OwS.fr h29 F128 (fun c' hc (hm : c' = N + 9) => by omega)
        replace hF := hF.trans F128 (fun c' (hm : c' = N + 9) => by (try dsimp only); omega)
        refine y00 S127 Z Z Z (y02 S127 Z Z) fun a129 S129 => wpList_nil (hK _ _ ?_)
        replace hS : Sl 76 _ [(5, .slice A6 r4.1.length cap7), (6, .slice A10 m1_0.length cap11), (7, .pointer (so b21)), (10, .slice A123 y121.length cap124), (11, i6 r99.2)] := S129.re ⟨Z, Z, Z, Z, Z, trivial⟩
        clear hK K
        try clear S114 S115 S119 S127 S129
        generalize a129 = a at hS ⊢
        obtain ⟨x132, hx133, H⟩ := y0b H
        refine y0t (fun K hK => ?_)
        refine y00 hS Z Z Z (y03 hS Z Z) fun a130 S130 => y00 S130 Z Z Z (y03 S130 Z Z) fun a131 S131 => ?_
        obtain ⟨_, ⟨A135, cap136, rfl, h137⟩, hel134⟩ := El.of (OwD.rdx h8) hx133 (by decide)
        replace hel134 : El w128 g128 (fun q => q = N + 0) A6 (r99.2.toNat * 1) [.slice A135 x132.length cap136] := hel134
        refine y00 S131 Z Z Z (y1j (e := 27) (sz := 1) (by_ := 24) S131 Z Z Z (by kernel_rfl) (RdS.some_ (OwS.rd h8) hx133) (y26 hx133) (y27 hx133)) fun a140 S140 => y00 S140 Z Z Z (y0u (n := 1) S140 Z Z (by kernel_rfl) (El.cell (j := 0) hel134 Z)) fun a141 S141 => y00 S141 Z Z Z (y4x (e := 3) (sz := 1) (by_ := 8) S141 Z Z (by kernel_rfl)) fun a142 S142 => y00 S142 Z Z Z (y03 S142 Z Z) fun a143 S143 => wpList_nil (hK _ _ ?_)
        replace hS : Sl 76 _ [(5, .slice A6 r4.1.length cap7), (6, .slice A10 m1_0.length cap11), (7, .pointer (so b21)), (10, .slice A123 y121.length cap124), (53, .slice A135 x132.length cap136), (54, i6 (x132.length : Int)), (55, i6 0)] := S143.re ⟨Z, Z, Z, Z, Z, Z, Z, trivial⟩
        clear hK K
        try clear S130 S131 S140 S141 S142 S143
        generalize a143 = a at hS ⊢
        refine wp_block ?_
        refine wp_loop_ghost (fun kq => fun a w144 => ∃ (m2_0 : List Int), ∃ (m2_1 : List Int), ∃ (m2_2 : Int), ∃ (g144 : Nat → Nat), ∃ (A145 : Option Addr), ∃ (cap146 : Nat), y1x.l2 y121 x132 kq m2_0 m2_1 m2_2 = some o96 ∧ Sl 76 a [(5, .slice A6 r4.1.length cap7), (6, .slice A10 m2_0.length cap11), (7, .pointer (so b21)), (10, .slice A123 y121.length cap124), (53, .slice A135 x132.length cap136), (54, i6 (x132.length : Int)), (55, i6 m2_2)] ∧ OwS (kint .i64) 3 w144 g144 (N + 9) A123 cap124 y121 ∧ OwS (kint .i64) 3 w144 g144 (N + 2) A10 cap11 m2_0 ∧ RdS (kint .i64) w144 g144 (fun q => q = N + 0 + 1) A135 cap136 x132 ∧ Bx w144 g144 (N + 4) b21 138 [.slice A145 m2_1.length cap146] ∧ OwS (kslice (kint .i64) (by decide)) 27 w144 g144 (N + 0) A6 cap7 r4.1 ∧ OwS (kint .i64) 3 w144 g144 (N + 4 + 1) A145 cap146 m2_1 ∧ Fr (fun q => (r0 ≤ q ∧ q < r0 + 2) ∨ N ≤ q) w g w144 g144) FUEL ?_ ?_
        ·exact ⟨m1_0, r99.1.q, 0, g128, A101, cap102, H, hS.re ⟨Z, Z, Z, Z, Z, Z, Z, trivial⟩, h125, h12, h137, h22, h8, h29, hF⟩
        ·clear H
         clear h8 h12 h22 h29 h125 h137 hF
         clear hS
         rintro k147 a w144 ⟨m2_0, m2_1, m2_2, g144, A145, cap146, hpre0, hS, h125, h12, h137, h22, h8, h29, hF⟩
         have H := hpre0
         clear hpre0
         cases k147 with
         | zero => exact absurd H (by simp [y1x.l2])
         | succ k147 =>
          rw [y1x.l2] at H
          refine y16 [(5, .slice A6 r4.1.length cap7), (6, .slice A10 m2_0.length cap11), (7, .pointer (so b21)), (10, .slice A123 y121.length cap124), (53, .slice A135 x132.length cap136), (54, i6 (x132.length : Int)), (55, i6 m2_2), (56, .bool (decide (m2_2 < (x132.length : Int))))] (fun R hR => y00 hS Z Z Z (y2l hS Z Z rfl y4t) fun a148 S148 => wpList_nil (hR _ (S148.re ⟨Z, Z, Z, Z, Z, Z, Z, Z, trivial⟩))) ?_
          clear hS a; intro a hS
          refine c_if hS Z (fun hb149 => ?_) (fun hb149 => ?_)
          ·replace H := y3f hb149 H
           refine wp_skip ?_
           change Code.wp _ _ _ _ _
           obtain ⟨v153, H, Hl155⟩ := y0b H
           refine y4u (fun a w150 => ∃ (g150 : Nat → Nat), ∃ (A151 : Option Addr), ∃ (cap152 : Nat), Sl 76 a [(5, .slice A6 r4.1.length cap7), (6, .slice A10 v153.1.length cap11), (7, .pointer (so b21)), (10, .slice A123 y121.length cap124), (53, .slice A135 x132.length cap136), (54, i6 (x132.length : Int)), (55, i6 m2_2)] ∧ OwS (kint .i64) 3 w150 g150 (N + 9) A123 cap124 y121 ∧ OwS (kint .i64) 3 w150 g150 (N + 2) A10 cap11 v153.1 ∧ RdS (kint .i64) w150 g150 (fun q => q = N + 0 + 1) A135 cap136 x132 ∧ Bx w150 g150 (N + 4) b21 138 [.slice A151 v153.2.length cap152] ∧ OwS (kslice (kint .i64) (by decide)) 27 w150 g150 (N + 0) A6 cap7 r4.1 ∧ OwS (kint .i64) 3 w150 g150 (N + 4 + 1) A151 cap152 v153.2 ∧ Fr (fun q => (r0 ≤ q ∧ q < r0 + 2) ∨ N ≤ q) w g w150 g150) ?_ ?_
           ·refine wp_block ?_
            obtain ⟨x156, hx157, H⟩ := y0b H
            refine y16 [(5, .slice A6 r4.1.length cap7), (6, .slice A10 m2_0.length cap11), (7, .pointer (so b21)), (10, .slice A123 y121.length cap124), (14, i6 x156), (53, .slice A135 x132.length cap136), (54, i6 (x132.length : Int)), (55, i6 m2_2)] (fun R hR => y00 hS Z Z Z (y1j (e := 3) (sz := 1) (by_ := 8) hS Z Z Z (by kernel_rfl) (RdS.some_ h137 hx157) (y26 hx157) (y27 hx157)) fun a158 S158 => y00 S158 Z Z Z (y0u (n := 1) S158 Z Z (by kernel_rfl) (RdS.cell (i := m2_2) (sz := 1) (j := 0) h137 hx157 Z)) fun a159 S159 => y00 S159 Z Z Z (y02 S159 Z Z) fun a160 S160 => wpList_nil (hR _ (S160.re ⟨Z, Z, Z, Z, Z, Z, Z, Z, trivial⟩))) ?_
            clear hS a; intro a hS
            obtain ⟨x163, hx164, H⟩ := y0b H
            refine y0t (fun K hK => ?_)
            refine y00 hS Z Z Z (y03 hS Z Z) fun a161 S161 => y00 S161 Z Z Z (y03 S161 Z Z) fun a162 S162 => y00 S162 Z Z Z (y1j (e := 3) (sz := 1) (by_ := 8) S162 Z Z Z (by kernel_rfl) (RdS.some_ (OwS.rd h12) hx164) (y26 hx164) (y27 hx164)) fun a165 S165 => y00 S165 Z Z Z (y0u (n := 1) S165 Z Z (by kernel_rfl) (RdS.cell (i := x156) (sz := 1) (j := 0) (OwS.rd h12) hx164 Z)) fun a166 S166 => y00 S166 Z Z Z (y2l S166 Z Z rfl b_sub) fun a167 S167 => y00 S167 Z Z Z (y1j (e := 3) (sz := 1) (by_ := 8) S167 Z Z Z (by kernel_rfl) (RdS.some_ (OwS.rd h12) hx164) (y26 hx164) (y27 hx164)) fun a168 S168 => ?_
            refine y3s S168 Z Z (y4l (n := 1) (bb := false) (kd := (kint .i64)) (j := 0) (x' := wi (x163 - 1)) (us := [i6 (wi (x163 - 1))]) g144 S168 Z Z Z Z (by kernel_rfl) Z Z (by intro v hv; simp only [List.mem_cons, List.not_mem_nil, or_false] at hv; rcases hv with rfl <;> rfl) h12 hx164 Z (fun _ _ cs hR => by rw [show cs = _ from hR]; rfl)) ?_
            rintro a169 w170 g170 ⟨h12, F170⟩ S169
            replace h125 := OwS.fr h125 F170 (fun c' hc (hm : c' = N + 2) => by omega)
            replace h137 := RdS.fr h137 F170 (by decide) (fun q (hq : q = N + 0 + 1) (hm : q = N + 2) => by omega)
            replace h22 := h22.fr F170 (fun (hm : N + 4 = N + 2) => by omega)
            replace h8 := OwS.fr h8 F170 (fun c' hc (hm : c' = N + 2) => by omega)
            replace h29 := OwS.fr h29 F170 (fun c' hc (hm : c' = N + 2) => by omega)
            replace hF := hF.trans F170 (fun c' (hm : c' = N + 2) => by (try dsimp only); omega)
            have hT : Sl 76 a169 [(5, .slice A6 r4.1.length cap7), (6, .slice A10 m2_0.length cap11), (7, .pointer (so b21)), (10, .slice A123 y121.length cap124), (14, i6 x156), (53, .slice A135 x132.length cap136), (54, i6 (x132.length : Int)), (55, i6 m2_2)] := S169.re ⟨Z, Z, Z, Z, Z, Z, Z, Z, trivial⟩
            replace S169 : Sl 76 a169 [(5, .slice A6 r4.1.length cap7), (6, .slice A10 (upd m2_0 x156 (wi (x163 - 1))).length cap11), (7, .pointer (so b21)), (10, .slice A123 y121.length cap124), (14, i6 x156), (53, .slice A135 x132.length cap136), (54, i6 (x132.length : Int)), (55, i6 m2_2)] := by simpa only [y1w] using hT
            clear hT
            refine wpList_nil (hK _ _ ?_)
            replace hS : Sl 76 _ [(5, .slice A6 r4.1.length cap7), (6, .slice A10 (upd m2_0 x156 (wi (x163 - 1))).length cap11), (7, .pointer (so b21)), (10, .slice A123 y121.length cap124), (14, i6 x156), (53, .slice A135 x132.length cap136), (54, i6 (x132.length : Int)), (55, i6 m2_2)] := S169.re ⟨Z, Z, Z, Z, Z, Z, Z, Z, trivial⟩
            clear hK K
            try clear S161 S162 S165 S166 S167 S168 S169
            generalize a169 = a at hS ⊢
            obtain ⟨x173, hx174, H⟩ := y0b H
            refine y16 [(5, .slice A6 r4.1.length cap7), (6, .slice A10 (upd m2_0 x156 (wi (x163 - 1))).length cap11), (7, .pointer (so b21)), (10, .slice A123 y121.length cap124), (14, i6 x156), (53, .slice A135 x132.length cap136), (54, i6 (x132.length : Int)), (55, i6 m2_2), (69, .bool (x173 == 0))] (fun R hR => y00 hS Z Z Z (y03 hS Z Z) fun a171 S171 => y00 S171 Z Z Z (y03 S171 Z Z) fun a172 S172 => y00 S172 Z Z Z (y1j (e := 3) (sz := 1) (by_ := 8) S172 Z Z Z (by kernel_rfl) (RdS.some_ (OwS.rd h12) hx174) (y26 hx174) (y27 hx174)) fun a175 S175 => y00 S175 Z Z Z (y0u (n := 1) S175 Z Z (by kernel_rfl) (RdS.cell (i := x156) (sz := 1) (j := 0) (OwS.rd h12) hx174 Z)) fun a176 S176 => y00 S176 Z Z Z (y2l S176 Z Z rfl b_eql) fun a177 S177 => wpList_nil (hR _ (S177.re ⟨Z, Z, Z, Z, Z, Z, Z, Z, Z, trivial⟩))) ?_
            clear hS a; intro a hS
            refine y2m hS Z (fun hb178 => ?_) (fun hb178 => ?_)
            ·replace H := y3f hb178 H
             obtain ⟨r182, hr183, H⟩ := y0b H
             refine y3l (fun K hK => ?_)
             refine y00 hS Z Z Z (r_mkif hS Z Z (by kernel_rfl)) fun a179 S179 => y00 S179 Z Z Z (y03 S179 Z Z) fun a180 S180 => y00 S180 Z Z Z (r_mkif S180 Z Z (by kernel_rfl)) fun a181 S181 => ?_
             refine y1y S181 Z Z Z (y2z S181 Z Z (by kernel_rfl)) (heap_Push.calls (c0 := N + 4) (b_p0 := b21) (y4q := A145) (y34 := cap146) (p0 := (y1p.mk m2_1)) (p1 := x156) (g := g170) (N + 11)  ⟨h22, h29⟩ (by omega) hr183) ?_
             rintro _ a186 w187 ⟨g187, A184, cap185, rfl, ⟨h22, h29⟩, F187⟩ S186
             replace h125 := OwS.fr h125 F187 (fun c' hc (hm : (N + 4 ≤ c' ∧ c' < N + 4 + 3) ∨ N + 11 ≤ c') => by omega)
             replace h12 := OwS.fr h12 F187 (fun c' hc (hm : (N + 4 ≤ c' ∧ c' < N + 4 + 3) ∨ N + 11 ≤ c') => by omega)
             replace h137 := RdS.fr h137 F187 (by decide) (fun q (hq : q = N + 0 + 1) (hm : (N + 4 ≤ q ∧ q < N + 4 + 3) ∨ N + 11 ≤ q) => by omega)
             replace h8 := OwS.fr h8 F187 (fun c' hc (hm : (N + 4 ≤ c' ∧ c' < N + 4 + 3) ∨ N + 11 ≤ c') => by omega)
             replace hF := hF.trans F187 (fun c' (hm : (N + 4 ≤ c' ∧ c' < N + 4 + 3) ∨ N + 11 ≤ c') => by (try dsimp only); omega)
             refine wpList_nil (hK _ _ ?_)
             replace hS : Sl 76 _ [(5, .slice A6 r4.1.length cap7), (6, .slice A10 (upd m2_0 x156 (wi (x163 - 1))).length cap11), (7, .pointer (so b21)), (10, .slice A123 y121.length cap124), (53, .slice A135 x132.length cap136), (54, i6 (x132.length : Int)), (55, i6 m2_2)] := S186.re ⟨Z, Z, Z, Z, Z, Z, Z, trivial⟩
             clear hK K
             try clear S179 S180 S181 S186
             generalize a186 = a at hS ⊢
             have e := Option.some.inj H
             subst e
             exact ⟨g187, A184, cap185, hS.re ⟨Z, Z, Z, Z, Z, Z, Z, trivial⟩, h125, h12, h137, h22, h8, h29, hF⟩
            ·replace H := y3g hb178 H
             refine wp_skip ?_
             have e := Option.some.inj H
             subst e
             exact ⟨g170, A145, cap146, hS.re ⟨Z, Z, Z, Z, Z, Z, Z, trivial⟩, h125, h12, h137, h22, h8, h29, hF⟩
           ·clear H
            clear h8 h12 h22 h29 h125 h137 hF
            clear hS
            rintro a w150 ⟨g150, A151, cap152, hS, h125, h12, h137, h22, h8, h29, hF⟩
            have H := Hl155
            clear Hl155
            refine y3e [(5, .slice A6 r4.1.length cap7), (6, .slice A10 v153.1.length cap11), (7, .pointer (so b21)), (10, .slice A123 y121.length cap124), (53, .slice A135 x132.length cap136), (54, i6 (x132.length : Int)), (55, i6 (wi (m2_2 + 1)))] (fun R hR => y00 hS Z Z Z (y2l hS Z Z rfl y4z) fun a188 S188 => y00 S188 Z Z Z (y03 S188 Z Z) fun a189 S189 => wpList_nil (hR _ (S189.re ⟨Z, Z, Z, Z, Z, Z, Z, trivial⟩))) ?_
            clear hS a; intro a hS
            refine ⟨k147, Nat.lt_succ_self _, ?_⟩
            exact ⟨v153.1, v153.2, wi (m2_2 + 1), g150, A151, cap152, H, hS.re ⟨Z, Z, Z, Z, Z, Z, Z, trivial⟩, h125, h12, h137, h22, h8, h29, hF⟩
          ·replace H := y3g hb149 H
           refine wp_exit ?_
           have e := Option.some.inj H
           exact ⟨(m2_0, m2_1, y121), g144, A145, cap146, A123, cap124, e.symm, hS.re ⟨Z, Z, Z, Z, trivial⟩, h12, h22, h8, h29, h125, hF⟩
      ·clear H
       clear h8 h12 h22 h29 h83 hF
       clear hS
       rintro a w89 ⟨v95, g89, A90, cap91, A92, cap93, hpre0, hS, h12, h22, h8, h29, h94, hF⟩
       subst hpre0
       have H := Fl.go_nxt Hl97
       clear Hl97
       refine ⟨k84, Nat.lt_succ_self _, ?_⟩
       exact ⟨v95.1, v95.2.1, v95.2.2, g89, A90, cap91, A92, cap93, H, hS.re ⟨Z, Z, Z, Z, trivial⟩, h12, h22, h8, h29, h94, hF⟩
     ·replace H := y3g hb88 H
      refine wp_exit ?_
      have e := Option.some.inj H
      subst e
      exact ⟨g78, A81, cap82, hS.re ⟨Z, trivial⟩, h83, hF⟩
  ·clear H
   clear h8 h12 h22 h29 hF
   clear hS
   rintro a w71 ⟨g71, A72, cap73, hS, h74, hF⟩
   have H := Hl77
   clear Hl77
   refine y16 [(4, .slice A72 v75.length cap73)] (fun R hR => y00 hS Z Z Z (y03 hS Z Z) fun a190 S190 => y00 S190 Z Z Z (y02 S190 Z Z) fun a191 S191 => wpList_nil (hR _ (S191.re ⟨Z, trivial⟩))) ?_
   clear hS a; intro a hS
   refine wp_ret ?_
   have e := Option.some.inj H
   subst e
   have F192 := Fr.y2f w71 g71 (N + 9) r0
   replace h74 := h74.y2f r0
   replace hF := hF.trans F192 (fun c' (hm : c' = N + 9 ∨ c' = N + 9 + 1) => by (try dsimp only); omega)
   repeat (with_reducible first | refine y1i ?_ | refine y0o ?_)
   exact y3v hS Try.results70 rfl ⟨_, rfl, (y2f g71 (N + 9) r0), A72, cap73, rfl, h74, hF⟩


end Go.Proofs.Ytcfcffbjdjacfaa.Sim

namespace Go.Proofs.Ytcfcffbjdjacfaa.Sim
open Go
set_option linter.unusedVariables false
set_option linter.unusedSimpArgs false

/-! ### depgraph_Order: function 45 -/
def depgraph_Order.f (p0 : Int) (p1 : List y0g) : Option ((List Int) × Int) := (y1r.f p0 p1).bind fun r5 => if (r5 != 0) = true then (some ([], r5)) else ((y1x.f p0 p1).bind fun r18 => if decide ((r18.length : Int) < p0) = true then (some ([], 18)) else (some (r18, 0)))
set_option maxRecDepth 100000 in
set_option maxHeartbeats 4000000 in
theorem depgraph_Order.calls {p0 : Int} {p1 : List y0g} {A1 : Option Addr} {cap1 : Nat} {C1 : Nat → Prop} {w : World} {g : Nat → Nat} {out : (List Int) × Int} (N : Nat) (r0 : Nat) (hp1 : RdS y0r w g C1 A1 cap1 p1) (hC1 : ∀ c, C1 c → c < N) (hr0 : r0 + 2 ≤ N) (H : depgraph_Order.f p0 p1 = some out) :
  Calls Try.prog 45 #[i6 p0, .slice A1 p1.length cap1] w (fun e w' => ∃ v, e = .returned v ∧ ∃ (g' : Nat → Nat) (A_r0 : Option Addr) (cap_r0 : Nat), v = .tuple #[.slice A_r0 out.1.length cap_r0, i6 out.2] ∧ OwS (kint .i64) 3 w' g' r0 A_r0 cap_r0 out.1 ∧ Fr (fun q => (r0 ≤ q ∧ q < r0 + 2) ∨ N ≤ q) w g w' g') := by
 unfold depgraph_Order.f at H
 refine y1k Try.func45 rfl Try.ntmps45 Z (fun a hS => ?_)
 replace hS : Sl 22 a [(0, i6 p0), (1, .slice A1 p1.length cap1)] := hS
 have hF : Fr (fun q => (r0 ≤ q ∧ q < r0 + 2) ∨ N ≤ q) w g w g := Fr.refl _ _ _
 refine y16 [(0, i6 p0), (1, .slice A1 p1.length cap1)] (fun R hR => y00 hS Z Z Z (y02 hS Z Z) fun a1 S1 => y00 S1 Z Z Z (y02 S1 Z Z) fun a2 S2 => wpList_nil (hR _ (S2.re ⟨Z, Z, trivial⟩))) ?_
 clear hS a; intro a hS
 refine wp_seq ?_
 obtain ⟨r5, hr6, H⟩ := y0b H
 refine y0t (fun K hK => ?_)
 refine y00 hS Z Z Z (y03 hS Z Z) fun a3 S3 => y00 S3 Z Z Z (y03 S3 Z Z) fun a4 S4 => ?_
 refine y1y S4 Z Z Z (y2z S4 Z Z (by kernel_rfl)) (y1r.calls (C1 := C1) (p0 := p0) (p1 := p1) (g := g) (N + 2)  hp1 (fun q (hq : C1 q) => by have := hC1 q hq; omega) hr6) ?_
 rintro _ a7 w8 ⟨g8, rfl, F8⟩ S7
 replace hp1 := RdS.fr hp1 F8 (by decide) (fun q (hq : C1 q) (hm : N + 2 ≤ q) => by have := hC1 q hq; omega)
 replace hF := hF.trans F8 (fun c' (hm : N + 2 ≤ c') => by (try dsimp only); omega)
 refine y00 S7 Z Z Z (y02 S7 Z Z) fun a9 S9 => wpList_nil (hK _ _ ?_)
 replace hS : Sl 22 _ [(0, i6 p0), (1, .slice A1 p1.length cap1), (6, i6 r5)] := S9.re ⟨Z, Z, Z, trivial⟩
 clear hK K
 try clear S3 S4 S7 S9
 generalize a9 = a at hS ⊢
 refine y16 [(0, i6 p0), (1, .slice A1 p1.length cap1), (6, i6 r5), (12, .bool (r5 != 0))] (fun R hR => y00 hS Z Z Z (y03 hS Z Z) fun a10 S10 => y00 S10 Z Z Z (y2l S10 Z Z rfl b_neq) fun a11 S11 => wpList_nil (hR _ (S11.re ⟨Z, Z, Z, Z, trivial⟩))) ?_
 clear hS a; intro a hS
 refine y2m hS Z (fun hb12 => ?_) (fun hb12 => ?_)
 ·replace H := y3f hb12 H
  refine y16 [(4, .slice none 0 0), (5, i6 r5)] (fun R hR => y00 hS Z Z Z (y03 hS Z Z) fun a13 S13 => y00 S13 Z Z Z (y02 S13 Z Z) fun a14 S14 => y00 S14 Z Z Z (y02 S14 Z Z) fun a15 S15 => wpList_nil (hR _ (S15.re ⟨Z, Z, trivial⟩))) ?_
  clear hS a; intro a hS
  refine wp_ret ?_
  have e := Option.some.inj H
  subst e
  repeat (with_reducible first | refine y1i ?_ | refine y0o ?_)
  exact y4d hS Try.results45 Z rfl ⟨_, rfl, g8, none, 0, rfl, OwS.nil (kint .i64) 3 w8 g8 r0, hF⟩
 ·replace H := y3g hb12 H
  refine wp_skip ?_
  change Code.wp _ _ _ _ _
  obtain ⟨r18, hr19, H⟩ := y0b H
  refine y0t (fun K hK => ?_)
  refine y00 hS Z Z Z (y03 hS Z Z) fun a16 S16 => y00 S16 Z Z Z (y03 S16 Z Z) fun a17 S17 => ?_
  refine y1y S17 Z Z Z (y2z S17 Z Z (by kernel_rfl)) (y1x.calls (C1 := C1) (p0 := p0) (p1 := p1) (g := g8) (N + 2) (N + 0) hp1 (fun q (hq : C1 q) => by have := hC1 q hq; omega) (by omega) hr19) ?_
  rintro _ a24 w25 ⟨g25, A20, cap21, rfl, h22, F25⟩ S24
  replace hp1 := RdS.fr hp1 F25 (by decide) (fun q (hq : C1 q) (hm : (N + 0 ≤ q ∧ q < N + 0 + 2) ∨ N + 2 ≤ q) => by have := hC1 q hq; omega)
  replace hF := hF.trans F25 (fun c' (hm : (N + 0 ≤ c' ∧ c' < N + 0 + 2) ∨ N + 2 ≤ c') => by (try dsimp only); omega)
  refine y00 S24 Z Z Z (y02 S24 Z Z) fun a26 S26 => wpList_nil (hK _ _ ?_)
  replace hS : Sl 22 _ [(0, i6 p0), (7, .slice A20 r18.length cap21)] := S26.re ⟨Z, Z, trivial⟩
  clear hK K
  try clear S16 S17 S24 S26
  generalize a26 = a at hS ⊢
  refine wp_seq ?_
  refine y16 [(7, .slice A20 r18.length cap21), (20, .bool (decide ((r18.length : Int) < p0)))] (fun R hR => y00 hS Z Z Z (y03 hS Z Z) fun a27 S27 => y00 S27 Z Z Z (y4x (e := 3) (sz := 1) (by_ := 8) S27 Z Z (by kernel_rfl)) fun a28 S28 => y00 S28 Z Z Z (y03 S28 Z Z) fun a29 S29 => y00 S29 Z Z Z (y2l S29 Z Z rfl y4t) fun a30 S30 => wpList_nil (hR _ (S30.re ⟨Z, Z, trivial⟩))) ?_
  clear hS a; intro a hS
  refine y2m hS Z (fun hb31 => ?_) (fun hb31 => ?_)
  ·replace H := y3f hb31 H
   refine y16 [(4, .slice none 0 0), (5, i6 18)] (fun R hR => y00 hS Z Z Z (y02 hS Z Z) fun a32 S32 => y00 S32 Z Z Z (y02 S32 Z Z) fun a33 S33 => wpList_nil (hR _ (S33.re ⟨Z, Z, trivial⟩))) ?_
   clear hS a; intro a hS
   refine wp_ret ?_
   have e := Option.some.inj H
   subst e
   repeat (with_reducible first | refine y1i ?_ | refine y0o ?_)
   exact y4d hS Try.results45 Z rfl ⟨_, rfl, g25, none, 0, rfl, OwS.nil (kint .i64) 3 w25 g25 r0, hF⟩
  ·replace H := y3g hb31 H
   refine wp_skip ?_
   change Code.wp _ _ _ _ _
   refine y16 [(4, .slice A20 r18.length cap21), (5, i6 0)] (fun R hR => y00 hS Z Z Z (y03 hS Z Z) fun a34 S34 => y00 S34 Z Z Z (y02 S34 Z Z) fun a35 S35 => y00 S35 Z Z Z (y02 S35 Z Z) fun a36 S36 => wpList_nil (hR _ (S36.re ⟨Z, Z, trivial⟩))) ?_
   clear hS a; intro a hS
   refine wp_ret ?_
   have e := Option.some.inj H
   subst e
   have F37 := Fr.y2f w25 g25 (N + 0) r0
   replace h22 := h22.y2f r0
   replace hF := hF.trans F37 (fun c' (hm : c' = N + 0 ∨ c' = N + 0 + 1) => by (try dsimp only); omega)
   repeat (with_reducible first | refine y1i ?_ | refine y0o ?_)
   exact y4d hS Try.results45 Z rfl ⟨_, rfl, (y2f g25 (N + 0) r0), A20, cap21, rfl, h22, hF⟩


end Go.Proofs.Ytcfcffbjdjacfaa.Sim

namespace Go.Proofs.Ytcfcffbjdjacfaa.Sim
open Go
set_option linter.unusedVariables false
set_option linter.unusedSimpArgs false

/-! ### y3x: function 64 -/
def y3x.f (p0 : List Int) : Option ((List Int)) := (app ([] : List Int) p0).bind fun y13 => some y13
set_option maxRecDepth 100000 in
set_option maxHeartbeats 4000000 in
theorem y3x.calls {p0 : List Int} {A0 : Option Addr} {cap0 : Nat} {C0 : Nat → Prop} {w : World} {g : Nat → Nat} {out : (List Int)} (N : Nat) (r0 : Nat) (hp0 : RdS (kint .i64) w g C0 A0 cap0 p0) (hC0 : ∀ c, C0 c → c < N) (hr0 : r0 + 2 ≤ N) (H : y3x.f p0 = some out) :
  Calls Try.prog 64 #[.slice A0 p0.length cap0] w (fun e w' => ∃ v, e = .returned v ∧ ∃ (g' : Nat → Nat) (A_r0 : Option Addr) (cap_r0 : Nat), v = .slice A_r0 out.length cap_r0 ∧ OwS (kint .i64) 3 w' g' r0 A_r0 cap_r0 out ∧ Fr (fun q => (r0 ≤ q ∧ q < r0 + 2) ∨ N ≤ q) w g w' g') := by
 unfold y3x.f at H
 refine y1k Try.func64 rfl Try.ntmps64 Z (fun a hS => ?_)
 replace hS : Sl 8 a [(0, .slice A0 p0.length cap0)] := hS
 have hF : Fr (fun q => (r0 ≤ q ∧ q < r0 + 2) ∨ N ≤ q) w g w g := Fr.refl _ _ _
 refine y16 [(0, .slice A0 p0.length cap0)] (fun R hR => y00 hS Z Z Z (y02 hS Z Z) fun a1 S1 => wpList_nil (hR _ (S1.re ⟨Z, trivial⟩))) ?_
 clear hS a; intro a hS
 refine wp_seq ?_
 refine y16 [(0, .slice A0 p0.length cap0), (4, .bool A0.isNone)] (fun R hR => y00 hS Z Z Z (y03 hS Z Z) fun a2 S2 => y00 S2 Z Z Z (r_slNil (E := 3) S2 Z Z (by kernel_rfl)) fun a3 S3 => wpList_nil (hR _ (S3.re ⟨Z, Z, trivial⟩))) ?_
 clear hS a; intro a hS
 refine y2m hS Z (fun hb4 => ?_) (fun hb4 => ?_)
 ·have hn5 := RdS.none_ hp0 hb4
  subst hn5
  replace H : some [] = some out := by first | exact H | simpa [app] using H
  refine y16 [(2, .slice none 0 0)] (fun R hR => y00 hS Z Z Z (y02 hS Z Z) fun a6 S6 => wpList_nil (hR _ (S6.re ⟨Z, trivial⟩))) ?_
  clear hS a; intro a hS
  refine wp_ret ?_
  have e := Option.some.inj H
  subst e
  repeat (with_reducible first | refine y1i ?_ | refine y0o ?_)
  exact y3v hS Try.results64 rfl ⟨_, rfl, g, none, 0, rfl, OwS.nil (kint .i64) 3 w g r0, hF⟩
 ·refine wp_skip ?_
  change Code.wp _ _ _ _ _
  obtain ⟨y13, hy14, H⟩ := y0b H
  refine y0t (fun K hK => ?_)
  refine y41 hS Z Z Z (e_lit (e := 3) (parts := []) (cs := []) (kint .i64) ([] : List Int) (N + 0) g hS Z Z (fun _ => by kernel_rfl) Z (by decide) Rows.nil) ?_
  rintro _ a10 w11 g11 ⟨⟨A7, rfl, h8⟩, F11⟩ S10
  replace hp0 := RdS.fr hp0 F11 (by decide) (fun _ _ h => h)
  replace hF := hF.trans F11 (fun _ h => h.elim)
  refine y00 S10 Z Z Z (y03 S10 Z Z) fun a12 S12 => ?_
  refine y41 S12 Z Z Z (y4g (e := 3) (sz := 1) (by_ := 8) (z := [i6 0]) (kd := (kint .i64)) g11 S12 Z Z Z Z (by kernel_rfl) (by kernel_rfl) Z Z Z Z h8 hp0 (fun _ _ _ h => h) hy14) ?_
  rintro _ a19 w20 g20 ⟨⟨A15, cap16, rfl, h17⟩, F20⟩ S19
  replace hp0 := RdS.fr hp0 F20 (by decide) (fun q (hq : C0 q) (hm : q = N + 0) => by have := hC0 q hq; omega)
  replace hF := hF.trans F20 (fun c' (hm : c' = N + 0) => by (try dsimp only); omega)
  refine y00 S19 Z Z Z (y02 S19 Z Z) fun a21 S21 => wpList_nil (hK _ _ ?_)
  replace hS : Sl 8 _ [(2, .slice A15 y13.length cap16)] := S21.re ⟨Z, trivial⟩
  clear hK K
  try clear S10 S12 S19 S21
  generalize a21 = a at hS ⊢
  refine wp_ret ?_
  have e := Option.some.inj H
  subst e
  have F22 := Fr.y2f w20 g20 (N + 0) r0
  replace h17 := h17.y2f r0
  replace hF := hF.trans F22 (fun c' (hm : c' = N + 0 ∨ c' = N + 0 + 1) => by (try dsimp only); omega)
  repeat (with_reducible first | refine y1i ?_ | refine y0o ?_)
  exact y3v hS Try.results64 rfl ⟨_, rfl, (y2f g20 (N + 0) r0), A15, cap16, rfl, h17, hF⟩


end Go.Proofs.Ytcfcffbjdjacfaa.Sim

namespace Go.Proofs.Ytcfcffbjdjacfaa.Sim
open Go
set_option linter.unusedVariables false
set_option linter.unusedSimpArgs false

/-! ### y3p: function 44 -/
def y3p.f (p0 : y08) : Option ((List Int)) := if decide (p0.Parent < 0) = true then ((y3x.f p0.Suppliers).bind fun r13 => some r13) else ((app [p0.Parent] p0.Suppliers).bind fun y32 => some y32)
set_option maxRecDepth 100000 in
set_option maxHeartbeats 4000000 in
theorem y3p.calls {p0 : y08} {C0 : Nat → Prop} {A0_0 : Option Addr} {cap0_0 : Nat} {w : World} {g : Nat → Nat} {out : (List Int)} (N : Nat) (r0 : Nat) (hp0_0 : RdS (kint .i64) w g C0 A0_0 cap0_0 p0.Suppliers) (hC0 : ∀ c, C0 c → c < N) (hr0 : r0 + 2 ≤ N) (H : y3p.f p0 = some out) :
  Calls Try.prog 44 #[.agg #[i6 p0.Parent, .slice A0_0 p0.Suppliers.length cap0_0, .int .u64 p0.Delay]] w (fun e w' => ∃ v, e = .returned v ∧ ∃ (g' : Nat → Nat) (A_r0 : Option Addr) (cap_r0 : Nat), v = .slice A_r0 out.length cap_r0 ∧ OwS (kint .i64) 3 w' g' r0 A_r0 cap_r0 out ∧ Fr (fun q => (r0 ≤ q ∧ q < r0 + 2) ∨ N ≤ q) w g w' g') := by
 unfold y3p.f at H
 refine y1k Try.func44 rfl Try.ntmps44 Z (fun a hS => ?_)
 replace hS : Sl 15 a [(0, .agg #[i6 p0.Parent, .slice A0_0 p0.Suppliers.length cap0_0, .int .u64 p0.Delay])] := hS
 have hF : Fr (fun q => (r0 ≤ q ∧ q < r0 + 2) ∨ N ≤ q) w g w g := Fr.refl _ _ _
 refine y0t (fun K hK => ?_)
 refine y41 hS Z Z Z (e_box (cs := [i6 p0.Parent, .slice A0_0 p0.Suppliers.length cap0_0, .int .u64 p0.Delay]) (N + 0) g hS Z Z Z) ?_
 rintro _ a4 w5 g5 ⟨⟨b1, rfl, h2⟩, F5⟩ S4
 replace hp0_0 := RdS.fr hp0_0 F5 (by decide) (fun _ _ h => h)
 replace hF := hF.trans F5 (fun _ h => h.elim)
 refine y00 S4 Z Z Z (y02 S4 Z Z) fun a6 S6 => wpList_nil (hK _ _ ?_)
 replace hS : Sl 15 _ [(1, .pointer (so b1))] := S6.re ⟨Z, trivial⟩
 clear hK K
 try clear S4 S6
 generalize a6 = a at hS ⊢
 refine wp_seq ?_
 refine y16 [(1, .pointer (so b1)), (5, .bool (decide (p0.Parent < 0)))] (fun R hR => y00 hS Z Z Z (y1e (off := 0) hS Z Z (by kernel_rfl)) fun a7 S7 => y00 S7 Z Z Z (y0u (n := 1) S7 Z Z (by kernel_rfl) (Bx.cell h2 Z)) fun a8 S8 => y00 S8 Z Z Z (y2l S8 Z Z rfl y4t) fun a9 S9 => wpList_nil (hR _ (S9.re ⟨Z, Z, trivial⟩))) ?_
 clear hS a; intro a hS
 refine y2m hS Z (fun hb10 => ?_) (fun hb10 => ?_)
 ·replace H := y3f hb10 H
  obtain ⟨r13, hr14, H⟩ := y0b H
  refine y0t (fun K hK => ?_)
  refine y00 hS Z Z Z (y1e (off := 1) hS Z Z (by kernel_rfl)) fun a11 S11 => y00 S11 Z Z Z (y0u (n := 1) S11 Z Z (by kernel_rfl) (Bx.cell h2 Z)) fun a12 S12 => ?_
  refine y1y S12 Z Z Z (y2z S12 Z Z (by kernel_rfl)) (y3x.calls (C0 := C0) (p0 := p0.Suppliers) (g := g5) (N + 6) (N + 2) hp0_0 (fun q (hq : C0 q) => by have := hC0 q hq; omega) (by omega) hr14) ?_
  rintro _ a19 w20 ⟨g20, A15, cap16, rfl, h17, F20⟩ S19
  replace h2 := h2.fr F20 (fun (hm : (N + 2 ≤ N + 0 ∧ N + 0 < N + 2 + 2) ∨ N + 6 ≤ N + 0) => by omega)
  replace hp0_0 := RdS.fr hp0_0 F20 (by decide) (fun q (hq : C0 q) (hm : (N + 2 ≤ q ∧ q < N + 2 + 2) ∨ N + 6 ≤ q) => by have := hC0 q hq; omega)
  replace hF := hF.trans F20 (fun c' (hm : (N + 2 ≤ c' ∧ c' < N + 2 + 2) ∨ N + 6 ≤ c') => by (try dsimp only); omega)
  refine y00 S19 Z Z Z (y02 S19 Z Z) fun a21 S21 => wpList_nil (hK _ _ ?_)
  replace hS : Sl 15 _ [(2, .slice A15 r13.length cap16)] := S21.re ⟨Z, trivial⟩
  clear hK K
  try clear S11 S12 S19 S21
  generalize a21 = a at hS ⊢
  refine wp_ret ?_
  have e := Option.some.inj H
  subst e
  have F22 := Fr.y2f w20 g20 (N + 2) r0
  replace h17 := h17.y2f r0
  replace hF := hF.trans F22 (fun c' (hm : c' = N + 2 ∨ c' = N + 2 + 1) => by (try dsimp only); omega)
  repeat (with_reducible first | refine y1i ?_ | refine y0o ?_)
  exact y3v hS Try.results44 rfl ⟨_, rfl, (y2f g20 (N + 2) r0), A15, cap16, rfl, h17, hF⟩
 ·replace H := y3g hb10 H
  refine wp_skip ?_
  change Code.wp _ _ _ _ _
  obtain ⟨y32, hy33, H⟩ := y0b H
  refine y0t (fun K hK => ?_)
  refine y00 hS Z Z Z (y1e (off := 0) hS Z Z (by kernel_rfl)) fun a23 S23 => y00 S23 Z Z Z (y0u (n := 1) S23 Z Z (by kernel_rfl) (Bx.cell h2 Z)) fun a24 S24 => ?_
  refine y41 S24 Z Z Z (e_lit (e := 3) (parts := [(0, i6 p0.Parent)]) (cs := [i6 p0.Parent]) (kint .i64) [p0.Parent] (N + 4) g5 S24 Z Z (fun _ => by kernel_rfl) Z (by decide) (Rows.cons (cs := [i6 p0.Parent]) rfl Rows.nil)) ?_
  rintro _ a28 w29 g29 ⟨⟨A25, rfl, h26⟩, F29⟩ S28
  replace h2 := h2.fr F29 (fun h => h)
  replace hp0_0 := RdS.fr hp0_0 F29 (by decide) (fun _ _ h => h)
  replace hF := hF.trans F29 (fun _ h => h.elim)
  refine y00 S28 Z Z Z (y1e (off := 1) S28 Z Z (by kernel_rfl)) fun a30 S30 => y00 S30 Z Z Z (y0u (n := 1) S30 Z Z (by kernel_rfl) (Bx.cell h2 Z)) fun a31 S31 => ?_
  refine y41 S31 Z Z Z (y4g (e := 3) (sz := 1) (by_ := 8) (z := [i6 0]) (kd := (kint .i64)) g29 S31 Z Z Z Z (by kernel_rfl) (by kernel_rfl) Z Z Z Z h26 hp0_0 (fun _ _ _ h => h) hy33) ?_
  rintro _ a38 w39 g39 ⟨⟨A34, cap35, rfl, h36⟩, F39⟩ S38
  replace h2 := h2.fr F39 (fun (hm : N + 0 = N + 4) => by omega)
  replace hp0_0 := RdS.fr hp0_0 F39 (by decide) (fun q (hq : C0 q) (hm : q = N + 4) => by have := hC0 q hq; omega)
  replace hF := hF.trans F39 (fun c' (hm : c' = N + 4) => by (try dsimp only); omega)
  refine y00 S38 Z Z Z (y02 S38 Z Z) fun a40 S40 => wpList_nil (hK _ _ ?_)
  replace hS : Sl 15 _ [(2, .slice A34 y32.length cap35)] := S40.re ⟨Z, trivial⟩
  clear hK K
  try clear S23 S24 S28 S30 S31 S38 S40
  generalize a40 = a at hS ⊢
  refine wp_ret ?_
  have e := Option.some.inj H
  subst e
  have F41 := Fr.y2f w39 g39 (N + 4) r0
  replace h36 := h36.y2f r0
  replace hF := hF.trans F41 (fun c' (hm : c' = N + 4 ∨ c' = N + 4 + 1) => by (try dsimp only); omega)
  repeat (with_reducible first | refine y1i ?_ | refine y0o ?_)
  exact y3v hS Try.results44 rfl ⟨_, rfl, (y2f g39 (N + 4) r0), A34, cap35, rfl, h36, hF⟩


end Go.Proofs.Ytcfcffbjdjacfaa.Sim

namespace Go.Proofs.Ytcfcffbjdjacfaa.Sim
open Go
set_option linter.unusedVariables false
set_option linter.unusedSimpArgs false

/-! ### y2b: function 19 -/
def y2b.l1 (p0 : List y08) (m0_1 : Int) (x163 : y0k) : Nat → y01 → Int → Option (Fl (Fl ((Option y01) × Int) (y01)) (y01))
 | 0, _, _ => none
 | k183 + 1, m1_0, m1_1 => if decide (m1_1 < (x163.suppliers.length : Int)) = true then ((idx x163.suppliers m1_1).bind fun x186 => if ((decide (x186 < 0)) || (decide ((p0.length : Int) ≤ x186))) = true then (some (.out (.out ((none : Option y01), 1)))) else ((app m1_0.links [(y0g.mk m0_1 x186)]).bind fun y223 => (idx m1_0.devices x186).bind fun x235 => (app x235.consumers [m0_1]).bind fun y252 => y2b.l1 p0 m0_1 x163 k183 (y01.mk (upd m1_0.devices x186 ({ x235 with consumers := y252 } : y0k)) y223 ([] : List Int) m1_0.now) (wi (m1_1 + 1)))) else (some (.nxt (y01.mk m1_0.devices m1_0.links ([] : List Int) m1_0.now)))
def y2b.l0 (p0 : List y08) : Nat → y01 → Int → Option (Fl ((Option y01) × Int) (y01))
 | 0, _, _ => none
 | k44 + 1, m0_0, m0_1 => if decide (m0_1 < (p0.length : Int)) = true then (((idx p0 m0_1).bind fun x56 => if ((decide (x56.Parent < (-1))) || (decide (1048576 < x56.Delay))) = true then (some (.out (.out ((none : Option y01), 1)))) else ((y3p.f x56).bind fun r94 => (idx m0_0.devices m0_1).bind fun x100 => (idx (upd m0_0.devices m0_1 ({ x100 with delay := x56.Delay } : y0k)) m0_1).bind fun x110 => (idx (upd (upd m0_0.devices m0_1 ({ x100 with delay := x56.Delay } : y0k)) m0_1 ({ x110 with suppliers := r94 } : y0k)) m0_1).bind fun x163 => y2b.l1 p0 m0_1 x163 FUEL (y01.mk (upd (upd m0_0.devices m0_1 ({ x100 with delay := x56.Delay } : y0k)) m0_1 ({ x110 with suppliers := r94 } : y0k)) m0_0.links ([] : List Int) m0_0.now) 0) : Option (Fl (Fl ((Option y01) × Int) (y01)) (y01))).bind fun o53 => o53.go fun v52 => y2b.l0 p0 k44 (y01.mk v52.devices v52.links ([] : List Int) v52.now) (wi (m0_1 + 1))) else (some (.nxt (y01.mk m0_0.devices m0_0.links ([] : List Int) m0_0.now)))
def y2b.f (p0 : List y08) : Option ((Option y01) × Int) := if decide (64 < (p0.length : Int)) = true then (some ((none : Option y01), 1)) else ((mk (p0.length : Int) (y0k.mk 0 ([] : List Int) ([] : List Int) false 0 0)).bind fun y12 => (y2b.l0 p0 FUEL (y01.mk y12 ([] : List y0g) ([] : List Int) 0) 0 : Option (Fl ((Option y01) × Int) (y01))).bind fun o34 => o34.go fun v33 => (depgraph_Order.f (p0.length : Int) v33.links).bind fun r309 => if (r309.2 != 0) = true then (some ((none : Option y01), r309.2)) else (some ((some (y01.mk v33.devices v33.links r309.1 v33.now)), 0)))
set_option maxRecDepth 100000 in
set_option maxHeartbeats 4000000 in
theorem y2b.calls {p0 : List y08} {A0 : Option Addr} {cap0 : Nat} {C0 : Nat → Prop} {w : World} {g : Nat → Nat} {out : (Option y01) × Int} (N : Nat) (r0 : Nat) (hp0 : RdS y0f w g C0 A0 cap0 p0) (hC0 : ∀ c, C0 c → c < N) (hr0 : r0 + 7 ≤ N) (H : y2b.f p0 = some out) :
  Calls Try.prog 19 #[.slice A0 p0.length cap0] w (fun e w' => ∃ v, e = .returned v ∧ ∃ (g' : Nat → Nat) (p_r0 : Option Addr), v = .tuple #[.pointer p_r0, i6 out.2] ∧ y3c w' g' r0 p_r0 out.1 ∧ Fr (fun q => (r0 ≤ q ∧ q < r0 + 7) ∨ N ≤ q) w g w' g') := by
 unfold y2b.f at H
 refine y1k Try.func19 rfl Try.ntmps19 Z (fun a hS => ?_)
 replace hS : Sl 122 a [(0, .slice A0 p0.length cap0)] := hS
 have hF : Fr (fun q => (r0 ≤ q ∧ q < r0 + 7) ∨ N ≤ q) w g w g := Fr.refl _ _ _
 refine y16 [(0, .slice A0 p0.length cap0)] (fun R hR => y00 hS Z Z Z (y02 hS Z Z) fun a1 S1 => y00 S1 Z Z Z (y02 S1 Z Z) fun a2 S2 => wpList_nil (hR _ (S2.re ⟨Z, trivial⟩))) ?_
 clear hS a; intro a hS
 refine y16 [(0, .slice A0 p0.length cap0), (4, i6 (p0.length : Int))] (fun R hR => y00 hS Z Z Z (y03 hS Z Z) fun a3 S3 => y00 S3 Z Z Z (y4x (e := 30) (sz := 3) (by_ := 40) S3 Z Z (by kernel_rfl)) fun a4 S4 => y00 S4 Z Z Z (y02 S4 Z Z) fun a5 S5 => wpList_nil (hR _ (S5.re ⟨Z, Z, trivial⟩))) ?_
 clear hS a; intro a hS
 refine wp_seq ?_
 refine y16 [(0, .slice A0 p0.length cap0), (4, i6 (p0.length : Int)), (15, .bool (decide (64 < (p0.length : Int))))] (fun R hR => y00 hS Z Z Z (y03 hS Z Z) fun a6 S6 => y00 S6 Z Z Z (y2l S6 Z Z rfl b_gtr) fun a7 S7 => wpList_nil (hR _ (S7.re ⟨Z, Z, Z, trivial⟩))) ?_
 clear hS a; intro a hS
 refine y2m hS Z (fun hb8 => ?_) (fun hb8 => ?_)
 ·replace H := y3f hb8 H
  refine y16 [(2, .pointer none), (3, i6 1)] (fun R hR => y00 hS Z Z Z (y02 hS Z Z) fun a9 S9 => y00 S9 Z Z Z (y02 S9 Z Z) fun a10 S10 => wpList_nil (hR _ (S10.re ⟨Z, Z, trivial⟩))) ?_
  clear hS a; intro a hS
  refine wp_ret ?_
  have e := Option.some.inj H
  subst e
  repeat (with_reducible first | refine y1i ?_ | refine y0o ?_)
  exact y4d hS Try.results19 Z rfl ⟨_, rfl, g, none, rfl, rfl, hF⟩
 ·replace H := y3g hb8 H
  refine wp_skip ?_
  change Code.wp _ _ _ _ _
  obtain ⟨y12, hy13, H⟩ := y0b H
  refine y0t (fun K hK => ?_)
  refine y00 hS Z Z Z (y03 hS Z Z) fun a11 S11 => ?_
  refine y41 S11 Z Z Z (e_makeN y44 (kint .i64) (fun x => x.consumers) (e := 88) (sz := 6) (by_ := 80) (E := 3) (z := [.int .u64 0, .slice none 0 0, .slice none 0 0, .bool false, i6 0, .int .u64 0]) (N + 0) g S11 Z Z (by kernel_rfl) (by kernel_rfl) Z Z Z (fun w g C => ⟨none, 0, rfl, RdS.nil _ _ _ _⟩) rfl hy13) ?_
  rintro _ a19 w20 g20 ⟨⟨A14, cap15, hs16, rfl, h17⟩, F20⟩ S19
  replace hp0 := RdS.fr hp0 F20 (by decide) (fun _ _ h => h)
  replace hF := hF.trans F20 (fun _ h => h.elim)
  refine y00 S19 Z Z Z (r_build (parts := [(0, .slice A14 y12.length cap15)]) (u := .agg #[.slice A14 y12.length cap15, .slice none 0 0, .slice none 0 0, .int .u64 0]) S19 Z Z (fun _ => by kernel_rfl)) fun a21 S21 => ?_
  refine y41 S21 Z Z Z (e_box (cs := [.slice A14 y12.length cap15, .slice none 0 0, .slice none 0 0, .int .u64 0]) (N + 4) g20 S21 Z Z Z) ?_
  rintro _ a25 w26 g26 ⟨⟨b22, rfl, h23⟩, F26⟩ S25
  replace h17 := OwN.fr h17 F26 (fun h => h) (fun h => h) (fun h => h) (fun h => h)
  replace hp0 := RdS.fr hp0 F26 (by decide) (fun _ _ h => h)
  replace hF := hF.trans F26 (fun _ h => h.elim)
  refine y00 S25 Z Z Z (y02 S25 Z Z) fun a27 S27 => wpList_nil (hK _ _ ?_)
  replace hS : Sl 122 _ [(0, .slice A0 p0.length cap0), (4, i6 (p0.length : Int)), (5, .pointer (so b22))] := S27.re ⟨Z, Z, Z, trivial⟩
  clear hK K
  try clear S11 S19 S21 S25 S27
  generalize a27 = a at hS ⊢
  obtain ⟨o34, H, Hl35⟩ := y0b H
  refine y4u (fun a w28 => ∃ (v33 : y01), ∃ (g28 : Nat → Nat), ∃ (hs29 : List (Option Addr × Nat)), ∃ (A30 : Option Addr), ∃ (cap31 : Nat), o34 = .nxt v33 ∧ Sl 122 a [(4, i6 (p0.length : Int)), (5, .pointer (so b22))] ∧ OwN y44 (kint .i64) (fun x => x.consumers) 88 3 w28 g28 (N + 0) A14 cap15 hs29 v33.devices (fun _ => False) ∧ Bx w28 g28 (N + 4) b22 85 [.slice A14 v33.devices.length cap15, .slice A30 v33.links.length cap31, .slice none 0 0, .int .u64 v33.now] ∧ OwS y0r 67 w28 g28 (N + 17) A30 cap31 v33.links ∧ Fr (fun q => (r0 ≤ q ∧ q < r0 + 7) ∨ N ≤ q) w g w28 g28) ?_ ?_
  ·refine y16 [(4, i6 (p0.length : Int)), (5, .pointer (so b22)), (20, .slice A0 p0.length cap0), (21, i6 (p0.length : Int)), (22, i6 0)] (fun R hR => y00 hS Z Z Z (y03 hS Z Z) fun a36 S36 => y00 S36 Z Z Z (y4x (e := 30) (sz := 3) (by_ := 40) S36 Z Z (by kernel_rfl)) fun a37 S37 => y00 S37 Z Z Z (y03 S37 Z Z) fun a38 S38 => wpList_nil (hR _ (S38.re ⟨Z, Z, Z, Z, Z, trivial⟩))) ?_
   clear hS a; intro a hS
   refine wp_block ?_
   refine wp_loop_ghost (fun kq => fun a w39 => ∃ (m0_0 : y01), ∃ (m0_1 : Int), ∃ (g39 : Nat → Nat), ∃ (hs40 : List (Option Addr × Nat)), ∃ (A41 : Option Addr), ∃ (cap42 : Nat), y2b.l0 p0 kq m0_0 m0_1 = some o34 ∧ Sl 122 a [(4, i6 (p0.length : Int)), (5, .pointer (so b22)), (20, .slice A0 p0.length cap0), (21, i6 (p0.length : Int)), (22, i6 m0_1)] ∧ OwN y44 (kint .i64) (fun x => x.consumers) 88 3 w39 g39 (N + 0) A14 cap15 hs40 m0_0.devices (fun _ => False) ∧ Bx w39 g39 (N + 4) b22 85 [.slice A14 m0_0.devices.length cap15, .slice A41 m0_0.links.length cap42, .slice none 0 0, .int .u64 m0_0.now] ∧ OwS y0r 67 w39 g39 (N + 17) A41 cap42 m0_0.links ∧ RdS y0f w39 g39 C0 A0 cap0 p0 ∧ Fr (fun q => (r0 ≤ q ∧ q < r0 + 7) ∨ N ≤ q) w g w39 g39) FUEL ?_ ?_
   ·exact ⟨(y01.mk y12 ([] : List y0g) ([] : List Int) 0), 0, g26, hs16, none, 0, H, hS.re ⟨Z, Z, Z, Z, Z, trivial⟩, h17, h23, OwS.nil y0r 67 w26 g26 (N + 17), hp0, hF⟩
   ·clear H
    clear hp0 h17 h23 hF
    clear hS
    rintro k44 a w39 ⟨m0_0, m0_1, g39, hs40, A41, cap42, hpre0, hS, h17, h23, h43, hp0, hF⟩
    have H := hpre0
    clear hpre0
    cases k44 with
    | zero => exact absurd H (by simp [y2b.l0])
    | succ k44 =>
     rw [y2b.l0] at H
     refine y16 [(4, i6 (p0.length : Int)), (5, .pointer (so b22)), (20, .slice A0 p0.length cap0), (21, i6 (p0.length : Int)), (22, i6 m0_1), (23, .bool (decide (m0_1 < (p0.length : Int))))] (fun R hR => y00 hS Z Z Z (y2l hS Z Z rfl y4t) fun a45 S45 => wpList_nil (hR _ (S45.re ⟨Z, Z, Z, Z, Z, Z, trivial⟩))) ?_
     clear hS a; intro a hS
     refine c_if hS Z (fun hb46 => ?_) (fun hb46 => ?_)
     ·replace H := y3f hb46 H
      refine wp_skip ?_
      change Code.wp _ _ _ _ _
      obtain ⟨o53, H, Hl54⟩ := y0b H
      refine y4u (fun a w47 => ∃ (v52 : y01), ∃ (g47 : Nat → Nat), ∃ (hs48 : List (Option Addr × Nat)), ∃ (A49 : Option Addr), ∃ (cap50 : Nat), o53 = .nxt v52 ∧ Sl 122 a [(4, i6 (p0.length : Int)), (5, .pointer (so b22)), (20, .slice A0 p0.length cap0), (21, i6 (p0.length : Int)), (22, i6 m0_1)] ∧ OwN y44 (kint .i64) (fun x => x.consumers) 88 3 w47 g47 (N + 0) A14 cap15 hs48 v52.devices (fun _ => False) ∧ Bx w47 g47 (N + 4) b22 85 [.slice A14 v52.devices.length cap15, .slice A49 v52.links.length cap50, .slice none 0 0, .int .u64 v52.now] ∧ OwS y0r 67 w47 g47 (N + 17) A49 cap50 v52.links ∧ RdS y0f w47 g47 C0 A0 cap0 p0 ∧ Fr (fun q => (r0 ≤ q ∧ q < r0 + 7) ∨ N ≤ q) w g w47 g47) ?_ ?_
      ·refine wp_block ?_
       obtain ⟨x56, hx57, H⟩ := y0b H
       refine y0t (fun K hK => ?_)
       refine y00 hS Z Z Z (y03 hS Z Z) fun a55 S55 => ?_
       obtain ⟨_, ⟨A59, cap60, rfl, h61⟩, hel58⟩ := El.of hp0 hx57 (by decide)
       replace hel58 : El w39 g39 C0 A0 (m0_1.toNat * 3) [i6 x56.Parent, .slice A59 x56.Suppliers.length cap60, .int .u64 x56.Delay] := hel58
       refine y00 S55 Z Z Z (y1j (e := 30) (sz := 3) (by_ := 40) S55 Z Z Z (by kernel_rfl) (RdS.some_ hp0 hx57) (y26 hx57) (y27 hx57)) fun a64 S64 => y00 S64 Z Z Z (r_loadN (n := 3) (cs := [i6 x56.Parent, .slice A59 x56.Suppliers.length cap60, .int .u64 x56.Delay]) S64 Z Z (by kernel_rfl) Z (El.cells_off hel58 0 3)) fun a65 S65 => ?_
       refine y41 S65 Z Z Z (e_alloc (cs := [i6 0, .slice none 0 0, .int .u64 0]) (N + 11) g39 S65 Z (by kernel_rfl)) ?_
       rintro _ a69 w70 g70 ⟨⟨b66, rfl, h67⟩, F70⟩ S69
       replace h17 := OwN.fr h17 F70 (fun h => h) (fun h => h) (fun h => h) (fun h => h)
       replace h23 := h23.fr F70 (fun h => h)
       replace h61 := RdS.fr h61 F70 (by decide) (fun _ _ h => h)
       replace hel58 := hel58.fr F70 (fun _ _ h => h)
       replace h43 := OwS.fr h43 F70 (fun _ _ h => h)
       replace hp0 := RdS.fr hp0 F70 (by decide) (fun _ _ h => h)
       replace hF := hF.trans F70 (fun _ h => h.elim)
       refine y00 S69 Z Z Z (y02 S69 Z Z) fun a71 S71 => ?_
       refine y3s S71 Z Z (y4a (n := 3) (bb := true) (cs' := [i6 x56.Parent, .slice A59 x56.Suppliers.length cap60, .int .u64 x56.Delay]) g70 S71 Z Z Z (by kernel_rfl) Z Z Z h67 Z Z) ?_
       rintro a72 w73 g73 ⟨h67, F73⟩ S72
       replace h17 := OwN.fr h17 F73 (fun (hm : N + 0 = N + 11) => by omega) (fun (hm : N + 0 + 1 = N + 11) => by omega) (fun (hm : N + 0 + 2 = N + 11) => by omega) (fun (hm : N + 0 + 3 = N + 11) => by omega)
       replace h23 := h23.fr F73 (fun (hm : N + 4 = N + 11) => by omega)
       replace h61 := RdS.fr h61 F73 (by decide) (fun q (hq : C0 q) (hm : q = N + 11) => by have := hC0 q hq; omega)
       replace hel58 := hel58.fr F73 (fun q (hq : C0 q) (hm : q = N + 11) => by have := hC0 q hq; omega)
       replace h43 := OwS.fr h43 F73 (fun c' hc (hm : c' = N + 11) => by omega)
       replace hp0 := RdS.fr hp0 F73 (by decide) (fun q (hq : C0 q) (hm : q = N + 11) => by have := hC0 q hq; omega)
       replace hF := hF.trans F73 (fun c' (hm : c' = N + 11) => by (try dsimp only); omega)
       refine wpList_nil (hK _ _ ?_)
       replace hS : Sl 122 _ [(4, i6 (p0.length : Int)), (5, .pointer (so b22)), (6, i6 m0_1), (7, .pointer (so b66)), (20, .slice A0 p0.length cap0), (21, i6 (p0.length : Int)), (22, i6 m0_1)] := S72.re ⟨Z, Z, Z, Z, Z, Z, Z, trivial⟩
       clear hK K
       try clear S55 S64 S65 S69 S71 S72
       generalize a72 = a at hS ⊢
       refine wp_seq ?_
       refine y0t (fun K hK => ?_)
       refine y00 hS Z Z Z (y1e (off := 0) hS Z Z (by kernel_rfl)) fun a74 S74 => y00 S74 Z Z Z (y0u (n := 1) S74 Z Z (by kernel_rfl) (Bx.cell h67 Z)) fun a75 S75 => y00 S75 Z Z Z (y2l S75 Z Z rfl y4t) fun a76 S76 => y00 S76 Z Z Z (y03 S76 Z Z) fun a77 S77 => ?_
       refine y4b (N := 122) 4 [(4, i6 (p0.length : Int)), (5, .pointer (so b22)), (6, i6 m0_1), (7, .pointer (so b66)), (20, .slice A0 p0.length cap0), (21, i6 (p0.length : Int)), (22, i6 m0_1), (34, .bool ((decide (x56.Parent < (-1))) || (decide (1048576 < x56.Delay))))] ?_ (fun hk => ?_)
       rotate_left
       ·rcases Bool.eq_false_or_eq_true (decide (x56.Parent < (-1))) with hb78 | hb78
        ·refine y1c S77 (y05 S77 Z Z rfl hb78) Z Z fun a82 S82 => y1c S82 (y05 S82 Z Z rfl hb78) Z Z fun a83 S83 => y1c S83 (y05 S83 Z Z rfl hb78) Z Z fun a84 S84 => y00 S84 Z Z Z (y2s S84 Z Z rfl hb78) fun a85 S85 => hk _ (S85.re ⟨rfl, rfl, rfl, rfl, rfl, rfl, rfl, (by rw [hb78]; rfl), trivial⟩)
        ·refine y0p S77 (y0a S77 Z Z rfl hb78) Z Z (y1e (off := 2) S77 Z Z (by kernel_rfl)) fun a86 S86 => y0p S86 (y0a S86 Z Z rfl hb78) Z Z (y0u (n := 1) S86 Z Z (by kernel_rfl) (Bx.cell h67 Z)) fun a87 S87 => y0p S87 (y0a S87 Z Z rfl hb78) Z Z (y2l S87 Z Z rfl b_gtr) fun a88 S88 => y00 S88 Z Z Z (y2t S88 Z Z rfl hb78) fun a89 S89 => hk _ (S89.re ⟨rfl, rfl, rfl, rfl, rfl, rfl, rfl, (by rw [hb78]; rfl), trivial⟩)
       intro a90 S90
       refine wpList_nil (hK _ _ ?_)
       replace hS : Sl 122 _ [(4, i6 (p0.length : Int)), (5, .pointer (so b22)), (6, i6 m0_1), (7, .pointer (so b66)), (20, .slice A0 p0.length cap0), (21, i6 (p0.length : Int)), (22, i6 m0_1), (34, .bool ((decide (x56.Parent < (-1))) || (decide (1048576 < x56.Delay))))] := S90.re ⟨Z, Z, Z, Z, Z, Z, Z, Z, trivial⟩
       clear hK K
       try clear S74 S75 S76 S77 S90
       generalize a90 = a at hS ⊢
       refine y2m hS Z (fun hb91 => ?_) (fun hb91 => ?_)
       ·replace H := y3f hb91 H
        refine y16 [(2, .pointer none), (3, i6 1)] (fun R hR => y00 hS Z Z Z (y02 hS Z Z) fun a92 S92 => y00 S92 Z Z Z (y02 S92 Z Z) fun a93 S93 => wpList_nil (hR _ (S93.re ⟨Z, Z, trivial⟩))) ?_
        clear hS a; intro a hS
        refine wp_ret ?_
        have e := Option.some.inj H
        subst e
        replace H := Fl.go_out Hl54
        have e := Option.some.inj H
        subst e
        replace H := Fl.go_out Hl35
        have e := Option.some.inj H
        subst e
        repeat (with_reducible first | refine y1i ?_ | refine y0o ?_)
        exact y4d hS Try.results19 Z rfl ⟨_, rfl, g73, none, rfl, rfl, hF⟩
       ·replace H := y3g hb91 H
        refine wp_skip ?_
        change Code.wp _ _ _ _ _
        obtain ⟨r94, hr95, H⟩ := y0b H
        obtain ⟨x100, hx101, H⟩ := y0b H
        obtain ⟨h102, hh103⟩ := OwN.hd h17 hx101
        obtain ⟨x110, hx111, H⟩ := y0b H
        refine c_draw (fun K hK => y4m (fun q => N + 25 ≤ q ∨ (N + 13 ≤ q ∧ q < N + 13 + 2)) g73 [16, 19] 20 (ba 0 20) (by kernel_rfl) Z Z (fun w118 hw118 => ?_))
        have F118 : Fr (fun _ => False) w73 g73 w118 g73 := by rw [hw118]; exact Fr.drew _ _ _
        replace h17 := OwN.fr h17 F118 (fun h => h) (fun h => h) (fun h => h) (fun h => h)
        replace h23 := h23.fr F118 (fun h => h)
        replace h61 := RdS.fr h61 F118 (by decide) (fun _ _ h => h)
        replace h67 := h67.fr F118 (fun h => h)
        replace h43 := OwS.fr h43 F118 (fun _ _ h => h)
        replace hp0 := RdS.fr hp0 F118 (by decide) (fun _ _ h => h)
        replace hF := hF.trans F118 (fun _ h => h.elim)
        have hC : Fr (fun q => N + 25 ≤ q ∨ (N + 13 ≤ q ∧ q < N + 13 + 2)) w118 g73 w118 g73 := Fr.refl _ _ _
        refine y1b hS 0 (ba 1 19) Z Z Z Z (by kernel_rfl) (fun _ _ _ h => h) (fun _ => (y03 hS Z Z)) fun a119 S119 => y1b S119 1 (ba 2 18) Z Z Z Z (by kernel_rfl) (fun _ _ _ h => h) (fun _ => (y4s S119 Z Z)) fun a120 S120 => y1b S120 2 (ba 3 17) Z Z Z Z (by kernel_rfl) (fun _ _ _ h => h) (fun _ => (y1e (off := 0) S120 Z Z (by kernel_rfl))) fun a121 S121 => y3w S121 3 (ba 4 16) Z Z Z Z (by kernel_rfl) (fun _ _ _ h => h) ⟨_, hC⟩ (fun w' g' Fz => (y0u (n := 1) S121 Z Z (by kernel_rfl) (Bx.cell (h23.fr Fz (fun (hm : N + 25 ≤ N + 4 ∨ (N + 13 ≤ N + 4 ∧ N + 4 < N + 13 + 2)) => by omega)) Z))) fun a122 S122 => y1b S122 4 (ba 5 15) Z Z Z Z (by kernel_rfl) (fun _ _ _ h => h) (fun _ => (y03 S122 Z Z)) fun a123 S123 => y1b S123 5 (ba 6 14) Z Z Z Z (by kernel_rfl) (fun _ _ _ h => h) (fun _ => (y03 S123 Z Z)) fun a124 S124 => y1b S124 6 (ba 7 13) Z Z Z Z (by kernel_rfl) (fun _ _ _ h => h) (fun _ => (y4s S124 Z Z)) fun a125 S125 => y1b S125 7 (ba 8 12) Z Z Z Z (by kernel_rfl) (fun _ _ _ h => h) (fun _ => (y1e (off := 0) S125 Z Z (by kernel_rfl))) fun a126 S126 => y3w S126 8 (ba 9 11) Z Z Z Z (by kernel_rfl) (fun _ _ _ h => h) ⟨_, hC⟩ (fun w' g' Fz => (y0u (n := 1) S126 Z Z (by kernel_rfl) (Bx.cell (h23.fr Fz (fun (hm : N + 25 ≤ N + 4 ∨ (N + 13 ≤ N + 4 ∧ N + 4 < N + 13 + 2)) => by omega)) Z))) fun a127 S127 => y1b S127 9 (ba 10 10) Z Z Z Z (by kernel_rfl) (fun _ _ _ h => h) (fun _ => (y03 S127 Z Z)) fun a128 S128 => y1b S128 10 (ba 11 9) Z Z Z Z (by kernel_rfl) (fun _ _ _ h => h) (fun _ => (y1e (off := 2) S128 Z Z (by kernel_rfl))) fun a129 S129 => y3w S129 11 (ba 12 8) Z Z Z Z (by kernel_rfl) (fun _ _ _ h => h) ⟨_, hC⟩ (fun w' g' Fz => (y0u (n := 1) S129 Z Z (by kernel_rfl) (Bx.cell (h67.fr Fz (fun (hm : N + 25 ≤ N + 11 ∨ (N + 13 ≤ N + 11 ∧ N + 11 < N + 13 + 2)) => by omega)) Z))) fun a130 S130 => y3w S130 12 (ba 13 7) Z Z Z Z (by kernel_rfl) (fun _ _ _ h => h) ⟨_, hC⟩ (fun w' g' Fz => (r_loadN (n := 3) (cs := [i6 x56.Parent, .slice A59 x56.Suppliers.length cap60, .int .u64 x56.Delay]) S130 Z Z (by kernel_rfl) Z (Bx.cells_off (h67.fr Fz (fun (hm : N + 25 ≤ N + 11 ∨ (N + 13 ≤ N + 11 ∧ N + 11 < N + 13 + 2)) => by omega)) 0 3))) fun a131 S131 => ?_
        refine d_one 13 (ba 14 6) Z (by kernel_rfl) (arm_call S131 Z Z Z (y2z S131 Z Z (by kernel_rfl)) (y3p.calls (C0 := C0) (p0 := x56) (g := g73) (N + 25) (N + 13) h61 (fun q (hq : C0 q) => by have := hC0 q hq; omega) (by omega) hr95) (fun _ _ ⟨g', _, _, _, _, Fz⟩ _ => ⟨g', hC.trans Fz (fun c' (hm : (N + 13 ≤ c' ∧ c' < N + 13 + 2) ∨ N + 25 ≤ c') => by (try dsimp only); omega)⟩) ?_)
        rintro _ a136 w137 ⟨g137, A132, cap133, rfl, h134, F137⟩ S136
        have hC137 := hC.trans F137 (fun c' (hm : (N + 13 ≤ c' ∧ c' < N + 13 + 2) ∨ N + 25 ≤ c') => by (try dsimp only); omega)
        replace h17 := OwN.fr h17 F137 (fun (hm : (N + 13 ≤ N + 0 ∧ N + 0 < N + 13 + 2) ∨ N + 25 ≤ N + 0) => by omega) (fun (hm : (N + 13 ≤ N + 0 + 1 ∧ N + 0 + 1 < N + 13 + 2) ∨ N + 25 ≤ N + 0 + 1) => by omega) (fun (hm : (N + 13 ≤ N + 0 + 2 ∧ N + 0 + 2 < N + 13 + 2) ∨ N + 25 ≤ N + 0 + 2) => by omega) (fun (hm : (N + 13 ≤ N + 0 + 3 ∧ N + 0 + 3 < N + 13 + 2) ∨ N + 25 ≤ N + 0 + 3) => by omega)
        replace h23 := h23.fr F137 (fun (hm : (N + 13 ≤ N + 4 ∧ N + 4 < N + 13 + 2) ∨ N + 25 ≤ N + 4) => by omega)
        replace h61 := RdS.fr h61 F137 (by decide) (fun q (hq : C0 q) (hm : (N + 13 ≤ q ∧ q < N + 13 + 2) ∨ N + 25 ≤ q) => by have := hC0 q hq; omega)
        replace h67 := h67.fr F137 (fun (hm : (N + 13 ≤ N + 11 ∧ N + 11 < N + 13 + 2) ∨ N + 25 ≤ N + 11) => by omega)
        replace h43 := OwS.fr h43 F137 (fun c' hc (hm : (N + 13 ≤ c' ∧ c' < N + 13 + 2) ∨ N + 25 ≤ c') => by omega)
        replace hp0 := RdS.fr hp0 F137 (by decide) (fun q (hq : C0 q) (hm : (N + 13 ≤ q ∧ q < N + 13 + 2) ∨ N + 25 ≤ q) => by have := hC0 q hq; omega)
        replace hF := hF.trans F137 (fun c' (hm : (N + 13 ≤ c' ∧ c' < N + 13 + 2) ∨ N + 25 ≤ c') => by (try dsimp only); omega)
        obtain ⟨_, ⟨A139, cap140, rfl, h141⟩, hel138⟩ := OwN.el h17 hx101 hh103 (by decide)
        replace hel138 : El w137 g137 (fun q => q = N + 0) A14 (m0_1.toNat * 6) [.int .u64 x100.delay, .slice A139 x100.suppliers.length cap140, .slice h102.1 x100.consumers.length h102.2, .bool x100.active, i6 x100.count, .int .u64 x100.idle] := hel138
        refine y1b S136 14 (ba 15 5) Z Z Z Z (by kernel_rfl) (fun _ _ _ h => h) (fun _ => (y1j (e := 88) (sz := 6) (by_ := 80) S136 Z Z Z (by kernel_rfl) (OwN.some_ h17 hx101) (y26 hx101) (y27 hx101))) fun a144 S144 => y1b S144 15 (ba 16 4) Z Z Z Z (by kernel_rfl) (fun _ _ _ h => h) (fun _ => (y2w (off := 0) S144 Z Z (by kernel_rfl))) fun a145 S145 => ?_
        refine d_one 16 (ba 17 3) Z (by kernel_rfl) (arm_effS S145 Z Z (e_storeN (n := 1) (bb := false) (kz := y44) (j := 0) (x' := ({ x100 with delay := x56.Delay } : y0k)) (us := [.int .u64 x56.Delay]) g137 S145 Z Z Z Z (by kernel_rfl) Z Z (by intro v hv; simp only [List.mem_cons, List.not_mem_nil, or_false] at hv; rcases hv with rfl <;> rfl) h17 hx101 hh103 Z Z (fun cs hR => by obtain ⟨A0, cap0, rfl, h0⟩ := hR; exact ⟨A0, cap0, rfl, h0⟩)) (.inl (by decide)) ?_)
        rintro a146 w147 g147 ⟨h17, F147⟩ S146
        replace h134 := OwS.fr h134 F147 (fun c' hc (hm : c' = N + 0) => by omega)
        replace h141 := RdS.fr h141 F147 (by decide) (fun q (hq : q = N + 0 + 1) (hm : q = N + 0) => by omega)
        replace h23 := h23.fr F147 (fun (hm : N + 4 = N + 0) => by omega)
        replace h61 := RdS.fr h61 F147 (by decide) (fun q (hq : C0 q) (hm : q = N + 0) => by have := hC0 q hq; omega)
        replace h67 := h67.fr F147 (fun (hm : N + 11 = N + 0) => by omega)
        replace h43 := OwS.fr h43 F147 (fun c' hc (hm : c' = N + 0) => by omega)
        replace hp0 := RdS.fr hp0 F147 (by decide) (fun q (hq : C0 q) (hm : q = N + 0) => by have := hC0 q hq; omega)
        replace hF := hF.trans F147 (fun c' (hm : c' = N + 0) => by (try dsimp only); omega)
        replace h23 : Bx w147 g147 (N + 4) b22 85 [.slice A14 (upd m0_0.devices m0_1 ({ x100 with delay := x56.Delay } : y0k)).length cap15, .slice A41 m0_0.links.length cap42, .slice none 0 0, .int .u64 m0_0.now] := by simpa only [y1w] using h23
        have hT : Sl 122 a146 [(4, i6 (p0.length : Int)), (5, .pointer (so b22)), (6, i6 m0_1), (20, .slice A0 p0.length cap0), (21, i6 (p0.length : Int)), (22, i6 m0_1), (43, .slice A14 m0_0.devices.length cap15), (44, i6 m0_1), (48, .slice A132 r94.length cap133)] := S146.re ⟨Z, Z, Z, Z, Z, Z, Z, Z, Z, trivial⟩
        replace S146 : Sl 122 a146 [(4, i6 (p0.length : Int)), (5, .pointer (so b22)), (6, i6 m0_1), (20, .slice A0 p0.length cap0), (21, i6 (p0.length : Int)), (22, i6 m0_1), (43, .slice A14 (upd m0_0.devices m0_1 ({ x100 with delay := x56.Delay } : y0k)).length cap15), (44, i6 m0_1), (48, .slice A132 r94.length cap133)] := by simpa only [y1w] using hT
        clear hT
        obtain ⟨_, ⟨A149, cap150, rfl, h151⟩, hel148⟩ := OwN.el h17 hx111 hh103 (by decide)
        replace hel148 : El w147 g147 (fun q => q = N + 0) A14 (m0_1.toNat * 6) [.int .u64 x110.delay, .slice A149 x110.suppliers.length cap150, .slice h102.1 x110.consumers.length h102.2, .bool x110.active, i6 x110.count, .int .u64 x110.idle] := hel148
        refine y1b S146 17 (ba 18 2) Z Z Z Z (by kernel_rfl) (fun _ _ _ h => h) (fun _ => (y1j (e := 88) (sz := 6) (by_ := 80) S146 Z Z Z (by kernel_rfl) (OwN.some_ h17 hx111) (y26 hx111) (y27 hx111))) fun a154 S154 => y1b S154 18 (ba 19 1) Z Z Z Z (by kernel_rfl) (fun _ _ _ h => h) (fun _ => (y2w (off := 1) S154 Z Z (by kernel_rfl))) fun a155 S155 => ?_
        refine d_one 19 (ba 20 0) Z (by kernel_rfl) (arm_effS S155 Z Z (e_storeNS (k := (kint .i64)) (k' := (kint .i64)) (E' := 3) (j := 1) (x' := ({ x110 with suppliers := r94 } : y0k)) (ys := r94) (fun _ _ _ _ _ _ _ _ h => h) (fun _ _ _ _ _ _ _ _ h => h) (by decide) g147 S155 Z Z Z Z (by kernel_rfl) Z h17 hx111 hh103 Z h134 (by omega) Z (fun _ cs hr hR => by obtain ⟨A0, cap0, rfl, h0⟩ := hR; exact ⟨A132, cap133, rfl, hr⟩)) (.inl (by decide)) ?_)
        rintro a156 w157 g157 ⟨h17, F157⟩ S156
        replace h141 := RdS.fr h141 F157 (by decide) (fun q (hq : q = N + 0 + 1) (hm : q = N + 0 ∨ q = N + 13) => by omega)
        replace h151 := RdS.fr h151 F157 (by decide) (fun q (hq : q = N + 0 + 1) (hm : q = N + 0 ∨ q = N + 13) => by omega)
        replace h23 := h23.fr F157 (fun (hm : N + 4 = N + 0 ∨ N + 4 = N + 13) => by omega)
        replace h61 := RdS.fr h61 F157 (by decide) (fun q (hq : C0 q) (hm : q = N + 0 ∨ q = N + 13) => by have := hC0 q hq; omega)
        replace h67 := h67.fr F157 (fun (hm : N + 11 = N + 0 ∨ N + 11 = N + 13) => by omega)
        replace h43 := OwS.fr h43 F157 (fun c' hc (hm : c' = N + 0 ∨ c' = N + 13) => by omega)
        replace hp0 := RdS.fr hp0 F157 (by decide) (fun q (hq : C0 q) (hm : q = N + 0 ∨ q = N + 13) => by have := hC0 q hq; omega)
        replace hF := hF.trans F157 (fun c' (hm : c' = N + 0 ∨ c' = N + 13) => by (try dsimp only); omega)
        replace h23 : Bx w157 g157 (N + 4) b22 85 [.slice A14 (upd (upd m0_0.devices m0_1 ({ x100 with delay := x56.Delay } : y0k)) m0_1 ({ x110 with suppliers := r94 } : y0k)).length cap15, .slice A41 m0_0.links.length cap42, .slice none 0 0, .int .u64 m0_0.now] := by simpa only [y1w] using h23
        refine y4v (by kernel_rfl) (hK _ _ ?_)
        replace hS : Sl 122 _ [(4, i6 (p0.length : Int)), (5, .pointer (so b22)), (6, i6 m0_1), (20, .slice A0 p0.length cap0), (21, i6 (p0.length : Int)), (22, i6 m0_1)] := S156.re ⟨Z, Z, Z, Z, Z, Z, trivial⟩
        clear hK K hC
        try clear S119 S120 S121 S122 S123 S124 S125 S126 S127 S128 S129 S130 S131 S136 S144 S145 S146 S154 S155 S156
        generalize a156 = a at hS ⊢
        obtain ⟨x163, hx164, H⟩ := y0b H
        refine y0t (fun K hK => ?_)
        refine y00 hS Z Z Z (y03 hS Z Z) fun a158 S158 => y00 S158 Z Z Z (y4s S158 Z Z) fun a159 S159 => y00 S159 Z Z Z (y1e (off := 0) S159 Z Z (by kernel_rfl)) fun a160 S160 => y00 S160 Z Z Z (y0u (n := 1) S160 Z Z (by kernel_rfl) (Bx.cell h23 Z)) fun a161 S161 => y00 S161 Z Z Z (y03 S161 Z Z) fun a162 S162 => ?_
        obtain ⟨h165, hh166⟩ := OwN.hd h17 hx164
        obtain ⟨_, ⟨A168, cap169, rfl, h170⟩, hel167⟩ := OwN.el h17 hx164 hh166 (by decide)
        replace hel167 : El w157 g157 (fun q => q = N + 0) A14 (m0_1.toNat * 6) [.int .u64 x163.delay, .slice A168 x163.suppliers.length cap169, .slice h165.1 x163.consumers.length h165.2, .bool x163.active, i6 x163.count, .int .u64 x163.idle] := hel167
        refine y00 S162 Z Z Z (y1j (e := 88) (sz := 6) (by_ := 80) S162 Z Z Z (by kernel_rfl) (OwN.some_ h17 hx164) (y26 hx164) (y27 hx164)) fun a173 S173 => y00 S173 Z Z Z (y2w (off := 1) S173 Z Z (by kernel_rfl)) fun a174 S174 => y00 S174 Z Z Z (y0u (n := 1) S174 Z Z (by kernel_rfl) (El.cell (j := 1) hel167 Z)) fun a175 S175 => y00 S175 Z Z Z (y4x (e := 3) (sz := 1) (by_ := 8) S175 Z Z (by kernel_rfl)) fun a176 S176 => y00 S176 Z Z Z (y03 S176 Z Z) fun a177 S177 => wpList_nil (hK _ _ ?_)
        replace hS : Sl 122 _ [(4, i6 (p0.length : Int)), (5, .pointer (so b22)), (6, i6 m0_1), (20, .slice A0 p0.length cap0), (21, i6 (p0.length : Int)), (22, i6 m0_1), (60, .slice A168 x163.suppliers.length cap169), (61, i6 (x163.suppliers.length : Int)), (62, i6 0)] := S177.re ⟨Z, Z, Z, Z, Z, Z, Z, Z, Z, trivial⟩
        clear hK K
        try clear S158 S159 S160 S161 S162 S173 S174 S175 S176 S177
        generalize a177 = a at hS ⊢
        refine wp_block ?_
        refine wp_loop_ghost (fun kq => fun a w178 => ∃ (m1_0 : y01), ∃ (m1_1 : Int), ∃ (g178 : Nat → Nat), ∃ (hs179 : List (Option Addr × Nat)), ∃ (A180 : Option Addr), ∃ (cap181 : Nat), y2b.l1 p0 m0_1 x163 kq m1_0 m1_1 = some o53 ∧ Sl 122 a [(4, i6 (p0.length : Int)), (5, .pointer (so b22)), (6, i6 m0_1), (20, .slice A0 p0.length cap0), (21, i6 (p0.length : Int)), (22, i6 m0_1), (60, .slice A168 x163.suppliers.length cap169), (61, i6 (x163.suppliers.length : Int)), (62, i6 m1_1)] ∧ RdS (kint .i64) w178 g178 (fun q => q = N + 0 + 1) A168 cap169 x163.suppliers ∧ OwN y44 (kint .i64) (fun x => x.consumers) 88 3 w178 g178 (N + 0) A14 cap15 hs179 m1_0.devices (fun _ => False) ∧ Bx w178 g178 (N + 4) b22 85 [.slice A14 m1_0.devices.length cap15, .slice A180 m1_0.links.length cap181, .slice none 0 0, .int .u64 m1_0.now] ∧ OwS y0r 67 w178 g178 (N + 17) A180 cap181 m1_0.links ∧ RdS y0f w178 g178 C0 A0 cap0 p0 ∧ Fr (fun q => (r0 ≤ q ∧ q < r0 + 7) ∨ N ≤ q) w g w178 g178) FUEL ?_ ?_
        ·exact ⟨(y01.mk (upd (upd m0_0.devices m0_1 ({ x100 with delay := x56.Delay } : y0k)) m0_1 ({ x110 with suppliers := r94 } : y0k)) m0_0.links ([] : List Int) m0_0.now), 0, g157, hs40, A41, cap42, H, hS.re ⟨Z, Z, Z, Z, Z, Z, Z, Z, Z, trivial⟩, h170, h17, h23, h43, hp0, hF⟩
        ·clear H
         clear hp0 h17 h23 h43 h170 hF
         clear hS
         rintro k183 a w178 ⟨m1_0, m1_1, g178, hs179, A180, cap181, hpre0, hS, h170, h17, h23, h182, hp0, hF⟩
         have H := hpre0
         clear hpre0
         cases k183 with
         | zero => exact absurd H (by simp [y2b.l1])
         | succ k183 =>
          rw [y2b.l1] at H
          refine y16 [(4, i6 (p0.length : Int)), (5, .pointer (so b22)), (6, i6 m0_1), (20, .slice A0 p0.length cap0), (21, i6 (p0.length : Int)), (22, i6 m0_1), (60, .slice A168 x163.suppliers.length cap169), (61, i6 (x163.suppliers.length : Int)), (62, i6 m1_1), (63, .bool (decide (m1_1 < (x163.suppliers.length : Int))))] (fun R hR => y00 hS Z Z Z (y2l hS Z Z rfl y4t) fun a184 S184 => wpList_nil (hR _ (S184.re ⟨Z, Z, Z, Z, Z, Z, Z, Z, Z, Z, trivial⟩))) ?_
          clear hS a; intro a hS
          refine c_if hS Z (fun hb185 => ?_) (fun hb185 => ?_)
          ·replace H := y3f hb185 H
           refine wp_skip ?_
           change Code.wp _ _ _ _ _
           refine wp_seq ?_
           refine wp_block ?_
           obtain ⟨x186, hx187, H⟩ := y0b H
           refine y16 [(4, i6 (p0.length : Int)), (5, .pointer (so b22)), (6, i6 m0_1), (9, i6 x186), (20, .slice A0 p0.length cap0), (21, i6 (p0.length : Int)), (22, i6 m0_1), (60, .slice A168 x163.suppliers.length cap169), (61, i6 (x163.suppliers.length : Int)), (62, i6 m1_1)] (fun R hR => y00 hS Z Z Z (y1j (e := 3) (sz := 1) (by_ := 8) hS Z Z Z (by kernel_rfl) (RdS.some_ h170 hx187) (y26 hx187) (y27 hx187)) fun a188 S188 => y00 S188 Z Z Z (y0u (n := 1) S188 Z Z (by kernel_rfl) (RdS.cell (i := m1_1) (sz := 1) (j := 0) h170 hx187 Z)) fun a189 S189 => y00 S189 Z Z Z (y02 S189 Z Z) fun a190 S190 => wpList_nil (hR _ (S190.re ⟨Z, Z, Z, Z, Z, Z, Z, Z, Z, Z, trivial⟩))) ?_
           clear hS a; intro a hS
           refine wp_seq ?_
           refine y0t (fun K hK => ?_)
           refine y00 hS Z Z Z (y03 hS Z Z) fun a191 S191 => y00 S191 Z Z Z (y2l S191 Z Z rfl y4t) fun a192 S192 => y00 S192 Z Z Z (y03 S192 Z Z) fun a193 S193 => ?_
           refine y4b (N := 122) 4 [(4, i6 (p0.length : Int)), (5, .pointer (so b22)), (6, i6 m0_1), (9, i6 x186), (20, .slice A0 p0.length cap0), (21, i6 (p0.length : Int)), (22, i6 m0_1), (60, .slice A168 x163.suppliers.length cap169), (61, i6 (x163.suppliers.length : Int)), (62, i6 m1_1), (72, .bool ((decide (x186 < 0)) || (decide ((p0.length : Int) ≤ x186))))] ?_ (fun hk => ?_)
           rotate_left
           ·rcases Bool.eq_false_or_eq_true (decide (x186 < 0)) with hb194 | hb194
            ·refine y1c S193 (y05 S193 Z Z rfl hb194) Z Z fun a198 S198 => y1c S198 (y05 S198 Z Z rfl hb194) Z Z fun a199 S199 => y1c S199 (y05 S199 Z Z rfl hb194) Z Z fun a200 S200 => y00 S200 Z Z Z (y2s S200 Z Z rfl hb194) fun a201 S201 => hk _ (S201.re ⟨rfl, rfl, rfl, rfl, rfl, rfl, rfl, rfl, rfl, rfl, (by rw [hb194]; rfl), trivial⟩)
            ·refine y0p S193 (y0a S193 Z Z rfl hb194) Z Z (y03 S193 Z Z) fun a202 S202 => y0p S202 (y0a S202 Z Z rfl hb194) Z Z (y03 S202 Z Z) fun a203 S203 => y0p S203 (y0a S203 Z Z rfl hb194) Z Z (y2l S203 Z Z rfl b_geq) fun a204 S204 => y00 S204 Z Z Z (y2t S204 Z Z rfl hb194) fun a205 S205 => hk _ (S205.re ⟨rfl, rfl, rfl, rfl, rfl, rfl, rfl, rfl, rfl, rfl, (by rw [hb194]; rfl), trivial⟩)
           intro a206 S206
           refine wpList_nil (hK _ _ ?_)
           replace hS : Sl 122 _ [(4, i6 (p0.length : Int)), (5, .pointer (so b22)), (6, i6 m0_1), (9, i6 x186), (20, .slice A0 p0.length cap0), (21, i6 (p0.length : Int)), (22, i6 m0_1), (60, .slice A168 x163.suppliers.length cap169), (61, i6 (x163.suppliers.length : Int)), (62, i6 m1_1), (72, .bool ((decide (x186 < 0)) || (decide ((p0.length : Int) ≤ x186))))] := S206.re ⟨Z, Z, Z, Z, Z, Z, Z, Z, Z, Z, Z, trivial⟩
           clear hK K
           try clear S191 S192 S193 S206
           generalize a206 = a at hS ⊢
           refine y2m hS Z (fun hb207 => ?_) (fun hb207 => ?_)
           ·replace H := y3f hb207 H
            refine y16 [(2, .pointer none), (3, i6 1)] (fun R hR => y00 hS Z Z Z (y02 hS Z Z) fun a208 S208 => y00 S208 Z Z Z (y02 S208 Z Z) fun a209 S209 => wpList_nil (hR _ (S209.re ⟨Z, Z, trivial⟩))) ?_
            clear hS a; intro a hS
            refine wp_ret ?_
            have e := Option.some.inj H
            subst e
            replace H := Fl.go_out Hl54
            have e := Option.some.inj H
            subst e
            replace H := Fl.go_out Hl35
            have e := Option.some.inj H
            subst e
            repeat (with_reducible first | refine y1i ?_ | refine y0o ?_)
            exact y4d hS Try.results19 Z rfl ⟨_, rfl, g178, none, rfl, rfl, hF⟩
           ·replace H := y3g hb207 H
            refine wp_skip ?_
            change Code.wp _ _ _ _ _
            obtain ⟨y223, hy224, H⟩ := y0b H
            refine y0t (fun K hK => ?_)
            refine y00 hS Z Z Z (y03 hS Z Z) fun a210 S210 => y00 S210 Z Z Z (y03 S210 Z Z) fun a211 S211 => y00 S211 Z Z Z (y4s S211 Z Z) fun a212 S212 => y00 S212 Z Z Z (y1e (off := 1) S212 Z Z (by kernel_rfl)) fun a213 S213 => y00 S213 Z Z Z (y0u (n := 1) S213 Z Z (by kernel_rfl) (Bx.cell h23 Z)) fun a214 S214 => y00 S214 Z Z Z (y03 S214 Z Z) fun a215 S215 => y00 S215 Z Z Z (y03 S215 Z Z) fun a216 S216 => y00 S216 Z Z Z (r_build (parts := [(0, i6 m0_1), (1, i6 x186)]) (u := .agg #[i6 m0_1, i6 x186]) S216 Z Z (fun _ => by kernel_rfl)) fun a217 S217 => ?_
            refine y41 S217 Z Z Z (e_lit (e := 67) (parts := [(0, .agg #[i6 m0_1, i6 x186])]) (cs := [i6 m0_1, i6 x186]) y0r [(y0g.mk m0_1 x186)] (N + 15) g178 S217 Z Z (fun _ => by kernel_rfl) Z (by decide) (Rows.cons (cs := [i6 m0_1, i6 x186]) rfl Rows.nil)) ?_
            rintro _ a221 w222 g222 ⟨⟨A218, rfl, h219⟩, F222⟩ S221
            replace h170 := RdS.fr h170 F222 (by decide) (fun _ _ h => h)
            replace h17 := OwN.fr h17 F222 (fun h => h) (fun h => h) (fun h => h) (fun h => h)
            replace h23 := h23.fr F222 (fun h => h)
            replace h182 := OwS.fr h182 F222 (fun _ _ h => h)
            replace hp0 := RdS.fr hp0 F222 (by decide) (fun _ _ h => h)
            replace hF := hF.trans F222 (fun _ h => h.elim)
            refine y41 S221 Z Z Z (y4g (e := 67) (sz := 2) (by_ := 16) (z := [i6 0, i6 0]) (kd := y0r) g222 S221 Z Z Z Z (by kernel_rfl) (by kernel_rfl) Z Z Z Z h182 (OwD.rdx h219) (fun _ _ _ h => h) hy224) ?_
            rintro _ a229 w230 g230 ⟨⟨A225, cap226, rfl, h227⟩, F230⟩ S229
            replace h170 := RdS.fr h170 F230 (by decide) (fun q (hq : q = N + 0 + 1) (hm : q = N + 17) => by omega)
            replace h17 := OwN.fr h17 F230 (fun (hm : N + 0 = N + 17) => by omega) (fun (hm : N + 0 + 1 = N + 17) => by omega) (fun (hm : N + 0 + 2 = N + 17) => by omega) (fun (hm : N + 0 + 3 = N + 17) => by omega)
            replace h219 := OwS.fr h219 F230 (fun c' hc (hm : c' = N + 17) => by omega)
            replace h23 := h23.fr F230 (fun (hm : N + 4 = N + 17) => by omega)
            replace hp0 := RdS.fr hp0 F230 (by decide) (fun q (hq : C0 q) (hm : q = N + 17) => by have := hC0 q hq; omega)
            replace hF := hF.trans F230 (fun c' (hm : c' = N + 17) => by (try dsimp only); omega)
            refine y00 S229 Z Z Z (y4s S229 Z Z) fun a231 S231 => y00 S231 Z Z Z (y1e (off := 1) S231 Z Z (by kernel_rfl)) fun a232 S232 => ?_
            refine y3s S232 Z Z (y4a (n := 1) (bb := false) (cs' := [.slice A14 m1_0.devices.length cap15, .slice A225 y223.length cap226, .slice none 0 0, .int .u64 m1_0.now]) g230 S232 Z Z Z (by kernel_rfl) Z Z Z h23 Z Z) ?_
            rintro a233 w234 g234 ⟨h23, F234⟩ S233
            replace h170 := RdS.fr h170 F234 (by decide) (fun q (hq : q = N + 0 + 1) (hm : q = N + 4) => by omega)
            replace h17 := OwN.fr h17 F234 (fun (hm : N + 0 = N + 4) => by omega) (fun (hm : N + 0 + 1 = N + 4) => by omega) (fun (hm : N + 0 + 2 = N + 4) => by omega) (fun (hm : N + 0 + 3 = N + 4) => by omega)
            replace h219 := OwS.fr h219 F234 (fun c' hc (hm : c' = N + 4) => by omega)
            replace h227 := OwS.fr h227 F234 (fun c' hc (hm : c' = N + 4) => by omega)
            replace hp0 := RdS.fr hp0 F234 (by decide) (fun q (hq : C0 q) (hm : q = N + 4) => by have := hC0 q hq; omega)
            replace hF := hF.trans F234 (fun c' (hm : c' = N + 4) => by (try dsimp only); omega)
            refine wpList_nil (hK _ _ ?_)
            replace hS : Sl 122 _ [(4, i6 (p0.length : Int)), (5, .pointer (so b22)), (6, i6 m0_1), (9, i6 x186), (20, .slice A0 p0.length cap0), (21, i6 (p0.length : Int)), (22, i6 m0_1), (60, .slice A168 x163.suppliers.length cap169), (61, i6 (x163.suppliers.length : Int)), (62, i6 m1_1)] := S233.re ⟨Z, Z, Z, Z, Z, Z, Z, Z, Z, Z, trivial⟩
            clear hK K
            try clear S210 S211 S212 S213 S214 S215 S216 S217 S221 S229 S231 S232 S233
            generalize a233 = a at hS ⊢
            obtain ⟨x235, hx236, H⟩ := y0b H
            obtain ⟨h237, hh238⟩ := OwN.hd h17 hx236
            obtain ⟨y252, hy253, H⟩ := y0b H
            obtain ⟨hN249, hm250, F251⟩ := OwN.take (fun _ _ _ _ _ _ _ _ h => h) h17 hx236 hh238 (N + 21) ⟨by omega, by omega, by omega⟩
            clear h17
            replace h170 := RdS.fr h170 F251 (by decide) (fun q (hq : q = N + 0 + 1) (hm : q = N + 0 + 2) => by omega)
            replace h227 := OwS.fr h227 F251 (fun c' hc (hm : c' = N + 0 + 2) => by omega)
            replace h23 := h23.fr F251 (fun (hm : N + 4 = N + 0 + 2) => by omega)
            replace hp0 := RdS.fr hp0 F251 (by decide) (fun q (hq : C0 q) (hm : q = N + 0 + 2) => by have := hC0 q hq; omega)
            replace hF := hF.trans F251 (fun c' (hm : c' = N + 0 + 2) => by (try dsimp only); omega)
            refine c_draw1 (fun K hK => y4m (fun q => q = N + 21) (dyeA g234 h237.1 (N + 21)) [18] 19 (ba 0 19) (by kernel_rfl) Z Z (fun w264 hw264 => ?_))
            have F264 : Fr (fun _ => False) w234 (dyeA g234 h237.1 (N + 21)) w264 (dyeA g234 h237.1 (N + 21)) := by rw [hw264]; exact Fr.drew _ _ _
            replace h170 := RdS.fr h170 F264 (by decide) (fun _ _ h => h)
            replace hm250 := OwN.fr hm250 F264 (fun h => h) (fun h => h) (fun h => h) (fun h => h)
            replace h227 := OwS.fr h227 F264 (fun _ _ h => h)
            replace h23 := h23.fr F264 (fun h => h)
            replace hN249 := OwS.fr hN249 F264 (fun _ _ h => h)
            replace hp0 := RdS.fr hp0 F264 (by decide) (fun _ _ h => h)
            replace hF := hF.trans F264 (fun _ h => h.elim)
            have hC : Fr (fun q => q = N + 21) w264 (dyeA g234 h237.1 (N + 21)) w264 (dyeA g234 h237.1 (N + 21)) := Fr.refl _ _ _
            refine y1b hS 0 (ba 1 18) Z Z Z Z (by kernel_rfl) (fun _ _ _ h => h) (fun _ => (y03 hS Z Z)) fun a265 S265 => y1b S265 1 (ba 2 17) Z Z Z Z (by kernel_rfl) (fun _ _ _ h => h) (fun _ => (y4s S265 Z Z)) fun a266 S266 => y1b S266 2 (ba 3 16) Z Z Z Z (by kernel_rfl) (fun _ _ _ h => h) (fun _ => (y1e (off := 0) S266 Z Z (by kernel_rfl))) fun a267 S267 => y3w S267 3 (ba 4 15) Z Z Z Z (by kernel_rfl) (fun _ _ _ h => h) ⟨_, hC⟩ (fun w' g' Fz => (y0u (n := 1) S267 Z Z (by kernel_rfl) (Bx.cell (h23.fr Fz (fun (hm : N + 4 = N + 21) => by omega)) Z))) fun a268 S268 => y1b S268 4 (ba 5 14) Z Z Z Z (by kernel_rfl) (fun _ _ _ h => h) (fun _ => (y03 S268 Z Z)) fun a269 S269 => y1b S269 5 (ba 6 13) Z Z Z Z (by kernel_rfl) (fun _ _ _ h => h) (fun _ => (y03 S269 Z Z)) fun a270 S270 => y1b S270 6 (ba 7 12) Z Z Z Z (by kernel_rfl) (fun _ _ _ h => h) (fun _ => (y4s S270 Z Z)) fun a271 S271 => y1b S271 7 (ba 8 11) Z Z Z Z (by kernel_rfl) (fun _ _ _ h => h) (fun _ => (y1e (off := 0) S271 Z Z (by kernel_rfl))) fun a272 S272 => y3w S272 8 (ba 9 10) Z Z Z Z (by kernel_rfl) (fun _ _ _ h => h) ⟨_, hC⟩ (fun w' g' Fz => (y0u (n := 1) S272 Z Z (by kernel_rfl) (Bx.cell (h23.fr Fz (fun (hm : N + 4 = N + 21) => by omega)) Z))) fun a273 S273 => y1b S273 9 (ba 10 9) Z Z Z Z (by kernel_rfl) (fun _ _ _ h => h) (fun _ => (y03 S273 Z Z)) fun a274 S274 => ?_
            obtain ⟨_, ⟨A276, cap277, rfl, h278⟩, hel275⟩ := OwN.el hm250 hx236 hh238 (by decide)
            replace hel275 : El w264 (dyeA g234 h237.1 (N + 21)) (fun q => q = N + 0) A14 (x186.toNat * 6) [.int .u64 x235.delay, .slice A276 x235.suppliers.length cap277, .slice h237.1 x235.consumers.length h237.2, .bool x235.active, i6 x235.count, .int .u64 x235.idle] := hel275
            refine y1b S274 10 (ba 11 8) Z Z Z Z (by kernel_rfl) (fun _ _ _ h => h) (fun _ => (y1j (e := 88) (sz := 6) (by_ := 80) S274 Z Z Z (by kernel_rfl) (OwN.some_ hm250 hx236) (y26 hx236) (y27 hx236))) fun a281 S281 => y1b S281 11 (ba 12 7) Z Z Z Z (by kernel_rfl) (fun _ _ _ h => h) (fun _ => (y2w (off := 2) S281 Z Z (by kernel_rfl))) fun a282 S282 => y3w S282 12 (ba 13 6) Z Z Z Z (by kernel_rfl) (fun _ _ _ h => h) ⟨_, hC⟩ (fun w' g' Fz => (y0u (n := 1) S282 Z Z (by kernel_rfl) (El.cell (j := 2) (hel275.fr Fz (fun q (hq : q = N + 0) (hm : q = N + 21) => by omega)) Z))) fun a283 S283 => y1b S283 13 (ba 14 5) Z Z Z Z (by kernel_rfl) (fun _ _ _ h => h) (fun _ => (y03 S283 Z Z)) fun a284 S284 => ?_
            refine d_one 14 (ba 15 4) Z (by kernel_rfl) (y43 S284 Z Z Z (e_lit (e := 3) (parts := [(0, i6 m0_1)]) (cs := [i6 m0_1]) (kint .i64) [m0_1] (N + 19) (dyeA g234 h237.1 (N + 21)) S284 Z Z (fun _ => by kernel_rfl) Z (by decide) (Rows.cons (cs := [i6 m0_1]) rfl Rows.nil)) (fun _ _ g' hR _ => ⟨g', hC.trans hR.2 (fun _ h => h.elim)⟩) ?_)
            rintro _ a288 w289 g289 ⟨⟨A285, rfl, h286⟩, F289⟩ S288
            have hC289 := hC.trans F289 (fun _ h => h.elim)
            replace h170 := RdS.fr h170 F289 (by decide) (fun _ _ h => h)
            replace hm250 := OwN.fr hm250 F289 (fun h => h) (fun h => h) (fun h => h) (fun h => h)
            replace h227 := OwS.fr h227 F289 (fun _ _ h => h)
            replace h23 := h23.fr F289 (fun h => h)
            replace hN249 := OwS.fr hN249 F289 (fun _ _ h => h)
            replace h278 := RdS.fr h278 F289 (by decide) (fun _ _ h => h)
            replace hel275 := hel275.fr F289 (fun _ _ h => h)
            replace hp0 := RdS.fr hp0 F289 (by decide) (fun _ _ h => h)
            replace hF := hF.trans F289 (fun _ h => h.elim)
            refine d_one 15 (ba 16 3) Z (by kernel_rfl) (y43 S288 Z Z Z (y4g (e := 3) (sz := 1) (by_ := 8) (z := [i6 0]) (kd := (kint .i64)) g289 S288 Z Z Z Z (by kernel_rfl) (by kernel_rfl) Z Z Z rfl hN249 (OwD.rdx h286) (fun _ _ _ h => h) hy253) (fun _ _ g' hR _ => ⟨g', hC289.trans hR.2 (fun c' (hm : c' = N + 21) => by (try dsimp only); omega)⟩) ?_)
            rintro _ a294 w295 g295 ⟨⟨A290, cap291, rfl, h292⟩, F295⟩ S294
            have hC295 := hC289.trans F295 (fun c' (hm : c' = N + 21) => by (try dsimp only); omega)
            replace h170 := RdS.fr h170 F295 (by decide) (fun q (hq : q = N + 0 + 1) (hm : q = N + 21) => by omega)
            replace hm250 := OwN.fr hm250 F295 (fun (hm : N + 0 = N + 21) => by omega) (fun (hm : N + 0 + 1 = N + 21) => by omega) (fun (hm : N + 0 + 2 = N + 21) => by omega) (fun (hm : N + 0 + 3 = N + 21) => by omega)
            replace h227 := OwS.fr h227 F295 (fun c' hc (hm : c' = N + 21) => by omega)
            replace h23 := h23.fr F295 (fun (hm : N + 4 = N + 21) => by omega)
            replace h278 := RdS.fr h278 F295 (by decide) (fun q (hq : q = N + 0 + 1) (hm : q = N + 21) => by omega)
            replace hel275 := hel275.fr F295 (fun q (hq : q = N + 0) (hm : q = N + 21) => by omega)
            replace h286 := OwS.fr h286 F295 (fun c' hc (hm : c' = N + 21) => by omega)
            replace hp0 := RdS.fr hp0 F295 (by decide) (fun q (hq : C0 q) (hm : q = N + 21) => by have := hC0 q hq; omega)
            replace hF := hF.trans F295 (fun c' (hm : c' = N + 21) => by (try dsimp only); omega)
            refine y1b S294 16 (ba 17 2) Z Z Z Z (by kernel_rfl) (fun _ _ _ h => h) (fun _ => (y1j (e := 88) (sz := 6) (by_ := 80) S294 Z Z Z (by kernel_rfl) (OwN.some_ hm250 hx236) (y26 hx236) (y27 hx236))) fun a296 S296 => y1b S296 17 (ba 18 1) Z Z Z Z (by kernel_rfl) (fun _ _ _ h => h) (fun _ => (y2w (off := 2) S296 Z Z (by kernel_rfl))) fun a297 S297 => ?_
            refine d_one 18 (ba 19 0) Z (by kernel_rfl) (arm_effS S297 Z Z (e_storeNH (k := (kint .i64)) (j := 2) (x' := ({ x235 with consumers := y252 } : y0k)) (ys := y252) (fun _ _ _ _ _ _ _ _ h => h) g295 S297 Z Z Z Z (by kernel_rfl) rfl hm250 hx236 hh238 Z h292 ⟨by omega, by omega, by omega⟩ Z (fun cs hR => by obtain ⟨A0, cap0, rfl, h0⟩ := hR; exact ⟨A0, cap0, rfl, h0⟩)) (.inl (by decide)) ?_)
            rintro a298 w299 g299 ⟨hm250, F299⟩ S298
            replace h170 := RdS.fr h170 F299 (by decide) (fun q (hq : q = N + 0 + 1) (hm : q = N + 0 ∨ q = N + 21) => by omega)
            replace h227 := OwS.fr h227 F299 (fun c' hc (hm : c' = N + 0 ∨ c' = N + 21) => by omega)
            replace h23 := h23.fr F299 (fun (hm : N + 4 = N + 0 ∨ N + 4 = N + 21) => by omega)
            replace h278 := RdS.fr h278 F299 (by decide) (fun q (hq : q = N + 0 + 1) (hm : q = N + 0 ∨ q = N + 21) => by omega)
            replace h286 := OwS.fr h286 F299 (fun c' hc (hm : c' = N + 0 ∨ c' = N + 21) => by omega)
            replace hp0 := RdS.fr hp0 F299 (by decide) (fun q (hq : C0 q) (hm : q = N + 0 ∨ q = N + 21) => by have := hC0 q hq; omega)
            replace hF := hF.trans F299 (fun c' (hm : c' = N + 0 ∨ c' = N + 21) => by (try dsimp only); omega)
            replace h23 : Bx w299 g299 (N + 4) b22 85 [.slice A14 (upd m1_0.devices x186 ({ x235 with consumers := y252 } : y0k)).length cap15, .slice A225 y223.length cap226, .slice none 0 0, .int .u64 m1_0.now] := by simpa only [y1w] using h23
            refine y4v (by kernel_rfl) (hK _ _ ?_)
            replace hS : Sl 122 _ [(4, i6 (p0.length : Int)), (5, .pointer (so b22)), (6, i6 m0_1), (20, .slice A0 p0.length cap0), (21, i6 (p0.length : Int)), (22, i6 m0_1), (60, .slice A168 x163.suppliers.length cap169), (61, i6 (x163.suppliers.length : Int)), (62, i6 m1_1)] := S298.re ⟨Z, Z, Z, Z, Z, Z, Z, Z, Z, trivial⟩
            clear hK K hC
            try clear S265 S266 S267 S268 S269 S270 S271 S272 S273 S274 S281 S282 S283 S284 S288 S294 S296 S297 S298
            generalize a298 = a at hS ⊢
            change Code.wp _ _ _ _ _
            refine y3e [(4, i6 (p0.length : Int)), (5, .pointer (so b22)), (6, i6 m0_1), (20, .slice A0 p0.length cap0), (21, i6 (p0.length : Int)), (22, i6 m0_1), (60, .slice A168 x163.suppliers.length cap169), (61, i6 (x163.suppliers.length : Int)), (62, i6 (wi (m1_1 + 1)))] (fun R hR => y00 hS Z Z Z (y2l hS Z Z rfl y4z) fun a300 S300 => y00 S300 Z Z Z (y03 S300 Z Z) fun a301 S301 => wpList_nil (hR _ (S301.re ⟨Z, Z, Z, Z, Z, Z, Z, Z, Z, trivial⟩))) ?_
            clear hS a; intro a hS
            refine ⟨k183, Nat.lt_succ_self _, ?_⟩
            exact ⟨(y01.mk (upd m1_0.devices x186 ({ x235 with consumers := y252 } : y0k)) y223 ([] : List Int) m1_0.now), wi (m1_1 + 1), g299, (upd hs179 x186 (A290, cap291)), A225, cap226, H, hS.re ⟨Z, Z, Z, Z, Z, Z, Z, Z, Z, trivial⟩, h170, hm250, h23, h227, hp0, hF⟩
          ·replace H := y3g hb185 H
           refine wp_exit ?_
           have e := Option.some.inj H
           exact ⟨(y01.mk m1_0.devices m1_0.links ([] : List Int) m1_0.now), g178, hs179, A180, cap181, e.symm, hS.re ⟨Z, Z, Z, Z, Z, trivial⟩, h17, h23, h182, hp0, hF⟩
      ·clear H
       clear hp0 h17 h23 h43 hF
       clear hS
       rintro a w47 ⟨v52, g47, hs48, A49, cap50, hpre0, hS, h17, h23, h51, hp0, hF⟩
       subst hpre0
       have H := Fl.go_nxt Hl54
       clear Hl54
       refine y3e [(4, i6 (p0.length : Int)), (5, .pointer (so b22)), (20, .slice A0 p0.length cap0), (21, i6 (p0.length : Int)), (22, i6 (wi (m0_1 + 1)))] (fun R hR => y00 hS Z Z Z (y2l hS Z Z rfl y4z) fun a302 S302 => y00 S302 Z Z Z (y03 S302 Z Z) fun a303 S303 => wpList_nil (hR _ (S303.re ⟨Z, Z, Z, Z, Z, trivial⟩))) ?_
       clear hS a; intro a hS
       refine ⟨k44, Nat.lt_succ_self _, ?_⟩
       exact ⟨(y01.mk v52.devices v52.links ([] : List Int) v52.now), wi (m0_1 + 1), g47, hs48, A49, cap50, H, hS.re ⟨Z, Z, Z, Z, Z, trivial⟩, h17, h23, h51, hp0, hF⟩
     ·replace H := y3g hb46 H
      refine wp_exit ?_
      have e := Option.some.inj H
      exact ⟨(y01.mk m0_0.devices m0_0.links ([] : List Int) m0_0.now), g39, hs40, A41, cap42, e.symm, hS.re ⟨Z, Z, trivial⟩, h17, h23, h43, hF⟩
  ·clear H
   clear hp0 h17 h23 hF
   clear hS
   rintro a w28 ⟨v33, g28, hs29, A30, cap31, hpre0, hS, h17, h23, h32, hF⟩
   subst hpre0
   have H := Fl.go_nxt Hl35
   clear Hl35
   obtain ⟨r309, hr310, H⟩ := y0b H
   refine y0t (fun K hK => ?_)
   refine y00 hS Z Z Z (y03 hS Z Z) fun a304 S304 => y00 S304 Z Z Z (y03 S304 Z Z) fun a305 S305 => y00 S305 Z Z Z (y4s S305 Z Z) fun a306 S306 => y00 S306 Z Z Z (y1e (off := 1) S306 Z Z (by kernel_rfl)) fun a307 S307 => y00 S307 Z Z Z (y0u (n := 1) S307 Z Z (by kernel_rfl) (Bx.cell h23 Z)) fun a308 S308 => ?_
   refine y1y S308 Z Z Z (y2z S308 Z Z (by kernel_rfl)) (depgraph_Order.calls (C1 := (fun q => q = N + 17)) (p0 := (p0.length : Int)) (p1 := v33.links) (g := g28) (N + 25) (N + 23) (OwD.rdf (fun _ _ _ _ _ _ h => h) h32) (fun q (hq : q = N + 17) => by omega) (by omega) hr310) ?_
   rintro _ a315 w316 ⟨g316, A311, cap312, rfl, h313, F316⟩ S315
   replace h17 := OwN.fr h17 F316 (fun (hm : (N + 23 ≤ N + 0 ∧ N + 0 < N + 23 + 2) ∨ N + 25 ≤ N + 0) => by omega) (fun (hm : (N + 23 ≤ N + 0 + 1 ∧ N + 0 + 1 < N + 23 + 2) ∨ N + 25 ≤ N + 0 + 1) => by omega) (fun (hm : (N + 23 ≤ N + 0 + 2 ∧ N + 0 + 2 < N + 23 + 2) ∨ N + 25 ≤ N + 0 + 2) => by omega) (fun (hm : (N + 23 ≤ N + 0 + 3 ∧ N + 0 + 3 < N + 23 + 2) ∨ N + 25 ≤ N + 0 + 3) => by omega)
   replace h23 := h23.fr F316 (fun (hm : (N + 23 ≤ N + 4 ∧ N + 4 < N + 23 + 2) ∨ N + 25 ≤ N + 4) => by omega)
   replace h32 := OwS.fr h32 F316 (fun c' hc (hm : (N + 23 ≤ c' ∧ c' < N + 23 + 2) ∨ N + 25 ≤ c') => by omega)
   replace hF := hF.trans F316 (fun c' (hm : (N + 23 ≤ c' ∧ c' < N + 23 + 2) ∨ N + 25 ≤ c') => by (try dsimp only); omega)
   refine y00 S315 Z Z Z (y03 S315 Z Z) fun a317 S317 => y00 S317 Z Z Z (y1z S317 Z Z Z) fun a318 S318 => y00 S318 Z Z Z (y1z S318 Z Z Z) fun a319 S319 => y00 S319 Z Z Z (y02 S319 Z Z) fun a320 S320 => y00 S320 Z Z Z (y02 S320 Z Z) fun a321 S321 => wpList_nil (hK _ _ ?_)
   replace hS : Sl 122 _ [(5, .pointer (so b22)), (10, .slice A311 r309.1.length cap312), (11, i6 r309.2)] := S321.re ⟨Z, Z, Z, trivial⟩
   clear hK K
   try clear S304 S305 S306 S307 S308 S315 S317 S318 S319 S320 S321
   generalize a321 = a at hS ⊢
   refine wp_seq ?_
   refine y16 [(5, .pointer (so b22)), (10, .slice A311 r309.1.length cap312), (11, i6 r309.2), (115, .bool (r309.2 != 0))] (fun R hR => y00 hS Z Z Z (y03 hS Z Z) fun a322 S322 => y00 S322 Z Z Z (y2l S322 Z Z rfl b_neq) fun a323 S323 => wpList_nil (hR _ (S323.re ⟨Z, Z, Z, Z, trivial⟩))) ?_
   clear hS a; intro a hS
   refine y2m hS Z (fun hb324 => ?_) (fun hb324 => ?_)
   ·replace H := y3f hb324 H
    refine y16 [(2, .pointer none), (3, i6 r309.2)] (fun R hR => y00 hS Z Z Z (y03 hS Z Z) fun a325 S325 => y00 S325 Z Z Z (y02 S325 Z Z) fun a326 S326 => y00 S326 Z Z Z (y02 S326 Z Z) fun a327 S327 => wpList_nil (hR _ (S327.re ⟨Z, Z, trivial⟩))) ?_
    clear hS a; intro a hS
    refine wp_ret ?_
    have e := Option.some.inj H
    subst e
    repeat (with_reducible first | refine y1i ?_ | refine y0o ?_)
    exact y4d hS Try.results19 Z rfl ⟨_, rfl, g316, none, rfl, rfl, hF⟩
   ·replace H := y3g hb324 H
    refine wp_skip ?_
    change Code.wp _ _ _ _ _
    refine y0t (fun K hK => ?_)
    refine y00 hS Z Z Z (y03 hS Z Z) fun a328 S328 => y00 S328 Z Z Z (y03 S328 Z Z) fun a329 S329 => y00 S329 Z Z Z (y4s S329 Z Z) fun a330 S330 => y00 S330 Z Z Z (y1e (off := 2) S330 Z Z (by kernel_rfl)) fun a331 S331 => ?_
    refine y3s S331 Z Z (y4a (n := 1) (bb := false) (cs' := [.slice A14 v33.devices.length cap15, .slice A30 v33.links.length cap31, .slice A311 r309.1.length cap312, .int .u64 v33.now]) g316 S331 Z Z Z (by kernel_rfl) Z Z Z h23 Z Z) ?_
    rintro a332 w333 g333 ⟨h23, F333⟩ S332
    replace h17 := OwN.fr h17 F333 (fun (hm : N + 0 = N + 4) => by omega) (fun (hm : N + 0 + 1 = N + 4) => by omega) (fun (hm : N + 0 + 2 = N + 4) => by omega) (fun (hm : N + 0 + 3 = N + 4) => by omega)
    replace h313 := OwS.fr h313 F333 (fun c' hc (hm : c' = N + 4) => by omega)
    replace h32 := OwS.fr h32 F333 (fun c' hc (hm : c' = N + 4) => by omega)
    replace hF := hF.trans F333 (fun c' (hm : c' = N + 4) => by (try dsimp only); omega)
    refine wpList_nil (hK _ _ ?_)
    replace hS : Sl 122 _ [(5, .pointer (so b22))] := S332.re ⟨Z, trivial⟩
    clear hK K
    try clear S328 S329 S330 S331 S332
    generalize a332 = a at hS ⊢
    refine y16 [(2, .pointer (so b22)), (3, i6 0)] (fun R hR => y00 hS Z Z Z (y03 hS Z Z) fun a334 S334 => y00 S334 Z Z Z (y02 S334 Z Z) fun a335 S335 => y00 S335 Z Z Z (y02 S335 Z Z) fun a336 S336 => wpList_nil (hR _ (S336.re ⟨Z, Z, trivial⟩))) ?_
    clear hS a; intro a hS
    refine wp_ret ?_
    have e := Option.some.inj H
    subst e
    have F337 : Fr (fun q => q = N + 4) w333 g333 w333 (y4y g333 (N + 4) r0) := Fr.y4y w333 g333 (N + 4) r0 rfl
    replace h23 := Bx.y4y h23 r0
    replace h17 := OwN.fr h17 F337 (fun (hm : N + 0 = N + 4) => by omega) (fun (hm : N + 0 + 1 = N + 4) => by omega) (fun (hm : N + 0 + 2 = N + 4) => by omega) (fun (hm : N + 0 + 3 = N + 4) => by omega)
    replace h313 := OwS.fr h313 F337 (fun c' hc (hm : c' = N + 4) => by omega)
    replace h32 := OwS.fr h32 F337 (fun c' hc (hm : c' = N + 4) => by omega)
    replace hF := hF.trans F337 (fun c' (hm : c' = N + 4) => by (try dsimp only); omega)
    have F338 : Fr (fun q => q = N + 0 + 2) w333 (y4y g333 (N + 4) r0) w333 (y4y (y4y g333 (N + 4) r0) (N + 0 + 2) (N + 0 + 1)) := Fr.y4y w333 (y4y g333 (N + 4) r0) (N + 0 + 2) (N + 0 + 1) rfl
    replace h17 : OwS y1h 88 w333 (y4y (y4y g333 (N + 4) r0) (N + 0 + 2) (N + 0 + 1)) (N + 0) A14 cap15 v33.devices := OwN.toS (fun _ _ _ _ _ _ _ _ h => h) Z (by decide) kz_runtimepm_device_to h17
    replace h23 := h23.fr F338 (fun (hm : r0 = N + 0 + 2) => by omega)
    replace h313 := OwS.fr h313 F338 (fun c' hc (hm : c' = N + 0 + 2) => by omega)
    replace h32 := OwS.fr h32 F338 (fun c' hc (hm : c' = N + 0 + 2) => by omega)
    replace hF := hF.trans F338 (fun c' (hm : c' = N + 0 + 2) => by (try dsimp only); omega)
    have F339 := Fr.y2f w333 (y4y (y4y g333 (N + 4) r0) (N + 0 + 2) (N + 0 + 1)) (N + 0) (r0 + 1)
    replace h17 := h17.y2f (r0 + 1)
    replace h23 := h23.fr F339 (fun (hm : r0 = N + 0 ∨ r0 = N + 0 + 1) => by omega)
    replace h313 := OwS.fr h313 F339 (fun c' hc (hm : c' = N + 0 ∨ c' = N + 0 + 1) => by omega)
    replace h32 := OwS.fr h32 F339 (fun c' hc (hm : c' = N + 0 ∨ c' = N + 0 + 1) => by omega)
    replace hF := hF.trans F339 (fun c' (hm : c' = N + 0 ∨ c' = N + 0 + 1) => by (try dsimp only); omega)
    have F340 := Fr.y2f w333 (y2f (y4y (y4y g333 (N + 4) r0) (N + 0 + 2) (N + 0 + 1)) (N + 0) (r0 + 1)) (N + 17) (r0 + 3)
    replace h32 := h32.y2f (r0 + 3)
    replace h17 := OwS.fr h17 F340 (fun c' hc (hm : c' = N + 17 ∨ c' = N + 17 + 1) => by omega)
    replace h23 := h23.fr F340 (fun (hm : r0 = N + 17 ∨ r0 = N + 17 + 1) => by omega)
    replace h313 := OwS.fr h313 F340 (fun c' hc (hm : c' = N + 17 ∨ c' = N + 17 + 1) => by omega)
    replace hF := hF.trans F340 (fun c' (hm : c' = N + 17 ∨ c' = N + 17 + 1) => by (try dsimp only); omega)
    have F341 := Fr.y2f w333 (y2f (y2f (y4y (y4y g333 (N + 4) r0) (N + 0 + 2) (N + 0 + 1)) (N + 0) (r0 + 1)) (N + 17) (r0 + 3)) (N + 23) (r0 + 5)
    replace h313 := h313.y2f (r0 + 5)
    replace h17 := OwS.fr h17 F341 (fun c' hc (hm : c' = N + 23 ∨ c' = N + 23 + 1) => by omega)
    replace h23 := h23.fr F341 (fun (hm : r0 = N + 23 ∨ r0 = N + 23 + 1) => by omega)
    replace h32 := OwS.fr h32 F341 (fun c' hc (hm : c' = N + 23 ∨ c' = N + 23 + 1) => by omega)
    replace hF := hF.trans F341 (fun c' (hm : c' = N + 23 ∨ c' = N + 23 + 1) => by (try dsimp only); omega)
    repeat (with_reducible first | refine y1i ?_ | refine y0o ?_)
    exact y4d hS Try.results19 Z rfl ⟨_, rfl, (y2f (y2f (y2f (y4y (y4y g333 (N + 4) r0) (N + 0 + 2) (N + 0 + 1)) (N + 0) (r0 + 1)) (N + 17) (r0 + 3)) (N + 23) (r0 + 5)), (so b22), rfl, ⟨b22, A14, cap15, A30, cap31, A311, cap312, rfl, h23, h17, h32, h313⟩, hF⟩


end Go.Proofs.Ytcfcffbjdjacfaa.Sim

namespace Go.Proofs.Ytcfcffbjdjacfaa.Sim
open Go
set_option linter.unusedVariables false
set_option linter.unusedSimpArgs false

/-! ### law28_awake: function 16 -/
def law28_awake.f  : Option (Bool) := (y2b.f [(y08.mk (-1) ([] : List Int) 0), (y08.mk 0 ([] : List Int) 5)]).bind fun r9 => if ((r9.2 != 0) || r9.1.isNone) = true then (some false) else ((r9.1).bind fun st36 => (y1u.f st36 1 10).bind fun r55 => (y31.f r55.1 1 20).bind fun r69 => (y2g.f r69.1).bind fun r83 => (y2n.f r69.1 30).bind fun r93 => (if ((((((r55.2.2 == 0) && (r69.2.2 == 0)) && (r93.2.2 == 0)) && r83.2) && (r83.1 == 25)) && ((r69.2.1.length : Int) == 0)) = true then (y1n.f r55.2.1 [(y0e.mk 0 true 10), (y0e.mk 1 true 10)]).bind fun r173 => some r173 else some false).bind fun t177 => (if t177 = true then (y1n.f r93.2.1 [(y0e.mk 1 false 25), (y0e.mk 0 false 25)]).bind fun r212 => some r212 else some false).bind fun t216 => some t216)
set_option maxRecDepth 100000 in
set_option maxHeartbeats 4000000 in
theorem law28_awake.calls  {w : World} {g : Nat → Nat} {out : Bool} (N : Nat)  (H : law28_awake.f  = some out) :
  Calls Try.prog 16 #[] w (fun e w' => ∃ v, e = .returned v ∧ ∃ (g' : Nat → Nat), v = .bool out ∧ Fr (fun q => N ≤ q) w g w' g') := by
 unfold law28_awake.f at H
 refine y1k Try.func16 rfl Try.ntmps16 Z (fun a hS => ?_)
 replace hS : Sl 80 a [] := hS
 have hF : Fr (fun q => N ≤ q) w g w g := Fr.refl _ _ _
 refine y16 [] (fun R hR => y00 hS Z Z Z (y02 hS Z Z) fun a1 S1 => wpList_nil (hR _ (S1.re trivial))) ?_
 clear hS a; intro a hS
 obtain ⟨r9, hr10, H⟩ := y0b H
 refine y0t (fun K hK => ?_)
 refine y00 hS Z Z Z (r_build (parts := [(0, i6 (-1))]) (u := .agg #[i6 (-1), .slice none 0 0, .int .u64 0]) hS Z Z (fun _ => by kernel_rfl)) fun a2 S2 => y00 S2 Z Z Z (r_build (parts := [(0, i6 0), (2, .int .u64 5)]) (u := .agg #[i6 0, .slice none 0 0, .int .u64 5]) S2 Z Z (fun _ => by kernel_rfl)) fun a3 S3 => ?_
 refine y41 S3 Z Z Z (e_litD (D := (fun _ => False)) (e := 30) (parts := [(0, .agg #[i6 (-1), .slice none 0 0, .int .u64 0]), (1, .agg #[i6 0, .slice none 0 0, .int .u64 5])]) (cs := [i6 (-1), .slice none 0 0, .int .u64 0, i6 0, .slice none 0 0, .int .u64 5]) y0f [(y08.mk (-1) ([] : List Int) 0), (y08.mk 0 ([] : List Int) 5)] (N + 0) g S3 Z Z (fun _ => by kernel_rfl) Z (by decide) (Rows.cons (cs := [i6 (-1), .slice none 0 0, .int .u64 0]) ⟨none, 0, rfl, RdS.nil (kint .i64) w g (fun _ => False)⟩ (Rows.cons (cs := [i6 0, .slice none 0 0, .int .u64 5]) ⟨none, 0, rfl, RdS.nil (kint .i64) w g (fun _ => False)⟩ Rows.nil))) ?_
 rintro _ a7 w8 g8 ⟨⟨A4, rfl, h5⟩, F8⟩ S7
 replace hF := hF.trans F8 (fun _ h => h.elim)
 refine y1y S7 Z Z Z (y2z S7 Z Z (by kernel_rfl)) (y2b.calls (C0 := (fun q => q = N + 0)) (p0 := [(y08.mk (-1) ([] : List Int) 0), (y08.mk 0 ([] : List Int) 5)]) (g := g8) (N + 19) (N + 2) (RdS.weak (OwD.rd h5) (fun _ h => Or.elim h id False.elim)) (fun q (hq : q = N + 0) => by omega) (by omega) hr10) ?_
 rintro _ a14 w15 ⟨g15, p11, rfl, h12, F15⟩ S14
 replace h5 := OwD.fr h5 F15 (fun (hm : (N + 2 ≤ N + 0 ∧ N + 0 < N + 2 + 7) ∨ N + 19 ≤ N + 0) => by omega) (fun _ h => False.elim h)
 replace hF := hF.trans F15 (fun c' (hm : (N + 2 ≤ c' ∧ c' < N + 2 + 7) ∨ N + 19 ≤ c') => by (try dsimp only); omega)
 refine y00 S14 Z Z Z (y03 S14 Z Z) fun a16 S16 => y00 S16 Z Z Z (y1z S16 Z Z Z) fun a17 S17 => y00 S17 Z Z Z (y1z S17 Z Z Z) fun a18 S18 => y00 S18 Z Z Z (y02 S18 Z Z) fun a19 S19 => y00 S19 Z Z Z (y02 S19 Z Z) fun a20 S20 => wpList_nil (hK _ _ ?_)
 replace hS : Sl 80 _ [(1, .pointer p11), (2, i6 r9.2)] := S20.re ⟨Z, Z, trivial⟩
 clear hK K
 try clear S2 S3 S7 S14 S16 S17 S18 S19 S20
 generalize a20 = a at hS ⊢
 refine wp_seq ?_
 refine y0t (fun K hK => ?_)
 refine y00 hS Z Z Z (y03 hS Z Z) fun a21 S21 => y00 S21 Z Z Z (y2l S21 Z Z rfl b_neq) fun a22 S22 => y00 S22 Z Z Z (y03 S22 Z Z) fun a23 S23 => ?_
 refine y4b (N := 80) 3 [(1, .pointer p11), (23, .bool ((r9.2 != 0) || r9.1.isNone))] ?_ (fun hk => ?_)
 rotate_left
 ·rcases Bool.eq_false_or_eq_true ((r9.2 != 0)) with hb24 | hb24
  ·refine y1c S23 (y05 S23 Z Z rfl hb24) Z Z fun a27 S27 => y1c S27 (y05 S27 Z Z rfl hb24) Z Z fun a28 S28 => y00 S28 Z Z Z (y2s S28 Z Z rfl hb24) fun a29 S29 => hk _ (S29.re ⟨rfl, (by rw [hb24]; rfl), trivial⟩)
  ·refine y0p S23 (y0a S23 Z Z rfl hb24) Z Z (y03 S23 Z Z) fun a30 S30 => y0p S30 (y0a S30 Z Z rfl hb24) Z Z (r_optEq S30 Z Z (by kernel_rfl) (y3c.isNone h12)) fun a31 S31 => y00 S31 Z Z Z (y2t S31 Z Z rfl hb24) fun a32 S32 => hk _ (S32.re ⟨rfl, (by rw [hb24]; rfl), trivial⟩)
 intro a33 S33
 refine wpList_nil (hK _ _ ?_)
 replace hS : Sl 80 _ [(1, .pointer p11), (23, .bool ((r9.2 != 0) || r9.1.isNone))] := S33.re ⟨Z, Z, trivial⟩
 clear hK K
 try clear S21 S22 S23 S33
 generalize a33 = a at hS ⊢
 refine y2m hS Z (fun hb34 => ?_) (fun hb34 => ?_)
 ·replace H := y3f hb34 H
  refine y16 [(0, .bool false)] (fun R hR => y00 hS Z Z Z (y02 hS Z Z) fun a35 S35 => wpList_nil (hR _ (S35.re ⟨Z, trivial⟩))) ?_
  clear hS a; intro a hS
  refine wp_ret ?_
  have e := Option.some.inj H
  subst e
  repeat (with_reducible first | refine y1i ?_ | refine y0o ?_)
  exact y3v hS Try.results16 rfl ⟨_, rfl, g15, rfl, hF⟩
 ·replace H := y3g hb34 H
  refine wp_skip ?_
  change Code.wp _ _ _ _ _
  obtain ⟨st36, hst37, H⟩ := y0b H
  rw [hst37] at h12
  obtain ⟨b38, A41, cap42, A45, cap46, A49, cap50, hp53, h39, h43, h47, h51⟩ := h12
  subst hp53
  obtain ⟨r55, hr56, H⟩ := y0b H
  refine y0t (fun K hK => ?_)
  refine y00 hS Z Z Z (y03 hS Z Z) fun a54 S54 => ?_
  refine y1y S54 Z Z Z (y2z S54 Z Z (by kernel_rfl)) (y1u.calls (c0 := N + 2) (b_p0 := b38) (y09 := A41) (y07 := cap42) (y0v := A45) (y0l := cap46) (y0q := A49) (y0h := cap50) (p0 := st36) (p1 := 1) (p2 := 10) (g := g15) (N + 19) (N + 9) ⟨h39, h43, h47, h51⟩ (by omega) (by omega) (by omega) hr56) ?_
  rintro _ a61 w62 ⟨g62, A57, cap58, rfl, ⟨h39, h43, h47, h51⟩, h59, F62⟩ S61
  replace hF := hF.trans F62 (fun c' (hm : (N + 2 ≤ c' ∧ c' < N + 2 + 7) ∨ (N + 9 ≤ c' ∧ c' < N + 9 + 2) ∨ N + 19 ≤ c') => by (try dsimp only); omega)
  refine y00 S61 Z Z Z (y03 S61 Z Z) fun a63 S63 => y00 S63 Z Z Z (y1z S63 Z Z Z) fun a64 S64 => y00 S64 Z Z Z (y1z S64 Z Z Z) fun a65 S65 => y00 S65 Z Z Z (y02 S65 Z Z) fun a66 S66 => y00 S66 Z Z Z (y02 S66 Z Z) fun a67 S67 => wpList_nil (hK _ _ ?_)
  replace hS : Sl 80 _ [(1, .pointer (so b38)), (3, .slice A57 r55.2.1.length cap58), (4, i6 r55.2.2)] := S67.re ⟨Z, Z, Z, trivial⟩
  clear hK K
  try clear S54 S61 S63 S64 S65 S66 S67
  generalize a67 = a at hS ⊢
  obtain ⟨r69, hr70, H⟩ := y0b H
  refine y0t (fun K hK => ?_)
  refine y00 hS Z Z Z (y03 hS Z Z) fun a68 S68 => ?_
  refine y1y S68 Z Z Z (y2z S68 Z Z (by kernel_rfl)) (y31.calls (c0 := N + 2) (b_p0 := b38) (y09 := A41) (y07 := cap42) (y0v := A45) (y0l := cap46) (y0q := A49) (y0h := cap50) (p0 := r55.1) (p1 := 1) (p2 := 20) (g := g62) (N + 19) (N + 11) ⟨h39, h43, h47, h51⟩ (by omega) (by omega) (by omega) hr70) ?_
  rintro _ a75 w76 ⟨g76, A71, cap72, rfl, ⟨h39, h43, h47, h51⟩, h73, F76⟩ S75
  replace h59 := OwS.fr h59 F76 (fun c' hc (hm : (N + 2 ≤ c' ∧ c' < N + 2 + 7) ∨ (N + 11 ≤ c' ∧ c' < N + 11 + 2) ∨ N + 19 ≤ c') => by omega)
  replace hF := hF.trans F76 (fun c' (hm : (N + 2 ≤ c' ∧ c' < N + 2 + 7) ∨ (N + 11 ≤ c' ∧ c' < N + 11 + 2) ∨ N + 19 ≤ c') => by (try dsimp only); omega)
  refine y00 S75 Z Z Z (y03 S75 Z Z) fun a77 S77 => y00 S77 Z Z Z (y1z S77 Z Z Z) fun a78 S78 => y00 S78 Z Z Z (y1z S78 Z Z Z) fun a79 S79 => y00 S79 Z Z Z (y02 S79 Z Z) fun a80 S80 => y00 S80 Z Z Z (y02 S80 Z Z) fun a81 S81 => wpList_nil (hK _ _ ?_)
  replace hS : Sl 80 _ [(1, .pointer (so b38)), (3, .slice A57 r55.2.1.length cap58), (4, i6 r55.2.2), (5, .slice A71 r69.2.1.length cap72), (6, i6 r69.2.2)] := S81.re ⟨Z, Z, Z, Z, Z, trivial⟩
  clear hK K
  try clear S68 S75 S77 S78 S79 S80 S81
  generalize a81 = a at hS ⊢
  obtain ⟨r83, hr84, H⟩ := y0b H
  refine y0t (fun K hK => ?_)
  refine y00 hS Z Z Z (y03 hS Z Z) fun a82 S82 => ?_
  refine y1y S82 Z Z Z (y2z S82 Z Z (by kernel_rfl)) (y2g.calls (c0 := N + 2) (b_p0 := b38) (y09 := A41) (y07 := cap42) (y0v := A45) (y0l := cap46) (y0q := A49) (y0h := cap50) (p0 := r69.1) (g := g76) (N + 19)  ⟨h39, h43, h47, h51⟩ (by omega) hr84) ?_
  rintro _ a85 w86 ⟨g86, rfl, F86⟩ S85
  replace h39 := h39.fr F86 (fun (hm : N + 19 ≤ N + 2) => by omega)
  replace h43 := OwS.fr h43 F86 (fun c' hc (hm : N + 19 ≤ c') => by omega)
  replace h47 := OwS.fr h47 F86 (fun c' hc (hm : N + 19 ≤ c') => by omega)
  replace h51 := OwS.fr h51 F86 (fun c' hc (hm : N + 19 ≤ c') => by omega)
  replace h59 := OwS.fr h59 F86 (fun c' hc (hm : N + 19 ≤ c') => by omega)
  replace h73 := OwS.fr h73 F86 (fun c' hc (hm : N + 19 ≤ c') => by omega)
  replace hF := hF.trans F86 (fun c' (hm : N + 19 ≤ c') => by (try dsimp only); omega)
  refine y00 S85 Z Z Z (y03 S85 Z Z) fun a87 S87 => y00 S87 Z Z Z (y1z S87 Z Z Z) fun a88 S88 => y00 S88 Z Z Z (y1z S88 Z Z Z) fun a89 S89 => y00 S89 Z Z Z (y02 S89 Z Z) fun a90 S90 => y00 S90 Z Z Z (y02 S90 Z Z) fun a91 S91 => wpList_nil (hK _ _ ?_)
  replace hS : Sl 80 _ [(1, .pointer (so b38)), (3, .slice A57 r55.2.1.length cap58), (4, i6 r55.2.2), (5, .slice A71 r69.2.1.length cap72), (6, i6 r69.2.2), (7, .int .u64 r83.1), (8, .bool r83.2)] := S91.re ⟨Z, Z, Z, Z, Z, Z, Z, trivial⟩
  clear hK K
  try clear S82 S85 S87 S88 S89 S90 S91
  generalize a91 = a at hS ⊢
  obtain ⟨r93, hr94, H⟩ := y0b H
  refine y0t (fun K hK => ?_)
  refine y00 hS Z Z Z (y03 hS Z Z) fun a92 S92 => ?_
  refine y1y S92 Z Z Z (y2z S92 Z Z (by kernel_rfl)) (y2n.calls (c0 := N + 2) (b_p0 := b38) (y09 := A41) (y07 := cap42) (y0v := A45) (y0l := cap46) (y0q := A49) (y0h := cap50) (p0 := r69.1) (p1 := 30) (g := g86) (N + 19) (N + 13) ⟨h39, h43, h47, h51⟩ (by omega) (by omega) (by omega) hr94) ?_
  rintro _ a99 w100 ⟨g100, A95, cap96, rfl, ⟨h39, h43, h47, h51⟩, h97, F100⟩ S99
  replace h59 := OwS.fr h59 F100 (fun c' hc (hm : (N + 2 ≤ c' ∧ c' < N + 2 + 7) ∨ (N + 13 ≤ c' ∧ c' < N + 13 + 2) ∨ N + 19 ≤ c') => by omega)
  replace h73 := OwS.fr h73 F100 (fun c' hc (hm : (N + 2 ≤ c' ∧ c' < N + 2 + 7) ∨ (N + 13 ≤ c' ∧ c' < N + 13 + 2) ∨ N + 19 ≤ c') => by omega)
  replace hF := hF.trans F100 (fun c' (hm : (N + 2 ≤ c' ∧ c' < N + 2 + 7) ∨ (N + 13 ≤ c' ∧ c' < N + 13 + 2) ∨ N + 19 ≤ c') => by (try dsimp only); omega)
  refine y00 S99 Z Z Z (y03 S99 Z Z) fun a101 S101 => y00 S101 Z Z Z (y1z S101 Z Z Z) fun a102 S102 => y00 S102 Z Z Z (y1z S102 Z Z Z) fun a103 S103 => y00 S103 Z Z Z (y02 S103 Z Z) fun a104 S104 => y00 S104 Z Z Z (y02 S104 Z Z) fun a105 S105 => wpList_nil (hK _ _ ?_)
  replace hS : Sl 80 _ [(3, .slice A57 r55.2.1.length cap58), (4, i6 r55.2.2), (5, .slice A71 r69.2.1.length cap72), (6, i6 r69.2.2), (7, .int .u64 r83.1), (8, .bool r83.2), (9, .slice A95 r93.2.1.length cap96), (10, i6 r93.2.2)] := S105.re ⟨Z, Z, Z, Z, Z, Z, Z, Z, trivial⟩
  clear hK K
  try clear S92 S99 S101 S102 S103 S104 S105
  generalize a105 = a at hS ⊢
  obtain ⟨t177, ht178, H⟩ := y0b H
  obtain ⟨t216, ht217, H⟩ := y0b H
  refine y0t (fun K hK => ?_)
  refine y00 hS Z Z Z (y03 hS Z Z) fun a106 S106 => y00 S106 Z Z Z (y2l S106 Z Z rfl b_eql) fun a107 S107 => y00 S107 Z Z Z (y03 S107 Z Z) fun a108 S108 => ?_
  refine y4b (N := 80) 3 [(3, .slice A57 r55.2.1.length cap58), (5, .slice A71 r69.2.1.length cap72), (7, .int .u64 r83.1), (8, .bool r83.2), (9, .slice A95 r93.2.1.length cap96), (10, i6 r93.2.2), (49, .bool ((r55.2.2 == 0) && (r69.2.2 == 0)))] ?_ (fun hk => ?_)
  rotate_left
  ·rcases Bool.eq_false_or_eq_true ((r55.2.2 == 0)) with hb109 | hb109
   ·refine y0p S108 (y0a S108 Z Z rfl hb109) Z Z (y03 S108 Z Z) fun a112 S112 => y0p S112 (y0a S112 Z Z rfl hb109) Z Z (y2l S112 Z Z rfl b_eql) fun a113 S113 => y00 S113 Z Z Z (y2s S113 Z Z rfl hb109) fun a114 S114 => hk _ (S114.re ⟨rfl, rfl, rfl, rfl, rfl, rfl, (by rw [hb109]; rfl), trivial⟩)
   ·refine y1c S108 (y05 S108 Z Z rfl hb109) Z Z fun a115 S115 => y1c S115 (y05 S115 Z Z rfl hb109) Z Z fun a116 S116 => y00 S116 Z Z Z (y2t S116 Z Z rfl hb109) fun a117 S117 => hk _ (S117.re ⟨rfl, rfl, rfl, rfl, rfl, rfl, (by rw [hb109]; rfl), trivial⟩)
  intro a118 S118
  refine y00 S118 Z Z Z (y03 S118 Z Z) fun a119 S119 => ?_
  refine y4b (N := 80) 3 [(3, .slice A57 r55.2.1.length cap58), (5, .slice A71 r69.2.1.length cap72), (7, .int .u64 r83.1), (8, .bool r83.2), (9, .slice A95 r93.2.1.length cap96), (53, .bool (((r55.2.2 == 0) && (r69.2.2 == 0)) && (r93.2.2 == 0)))] ?_ (fun hk => ?_)
  rotate_left
  ·rcases Bool.eq_false_or_eq_true (((r55.2.2 == 0) && (r69.2.2 == 0))) with hb120 | hb120
   ·refine y0p S119 (y0a S119 Z Z rfl hb120) Z Z (y03 S119 Z Z) fun a123 S123 => y0p S123 (y0a S123 Z Z rfl hb120) Z Z (y2l S123 Z Z rfl b_eql) fun a124 S124 => y00 S124 Z Z Z (y2s S124 Z Z rfl hb120) fun a125 S125 => hk _ (S125.re ⟨rfl, rfl, rfl, rfl, rfl, (by rw [hb120]; rfl), trivial⟩)
   ·refine y1c S119 (y05 S119 Z Z rfl hb120) Z Z fun a126 S126 => y1c S126 (y05 S126 Z Z rfl hb120) Z Z fun a127 S127 => y00 S127 Z Z Z (y2t S127 Z Z rfl hb120) fun a128 S128 => hk _ (S128.re ⟨rfl, rfl, rfl, rfl, rfl, (by rw [hb120]; rfl), trivial⟩)
  intro a129 S129
  refine y00 S129 Z Z Z (y03 S129 Z Z) fun a130 S130 => ?_
  refine y4b (N := 80) 2 [(3, .slice A57 r55.2.1.length cap58), (5, .slice A71 r69.2.1.length cap72), (7, .int .u64 r83.1), (9, .slice A95 r93.2.1.length cap96), (56, .bool ((((r55.2.2 == 0) && (r69.2.2 == 0)) && (r93.2.2 == 0)) && r83.2))] ?_ (fun hk => ?_)
  rotate_left
  ·rcases Bool.eq_false_or_eq_true ((((r55.2.2 == 0) && (r69.2.2 == 0)) && (r93.2.2 == 0))) with hb131 | hb131
   ·refine y0p S130 (y0a S130 Z Z rfl hb131) Z Z (y03 S130 Z Z) fun a133 S133 => y00 S133 Z Z Z (y2s S133 Z Z rfl hb131) fun a134 S134 => hk _ (S134.re ⟨rfl, rfl, rfl, rfl, (by rw [hb131]; rfl), trivial⟩)
   ·refine y1c S130 (y05 S130 Z Z rfl hb131) Z Z fun a135 S135 => y00 S135 Z Z Z (y2t S135 Z Z rfl hb131) fun a136 S136 => hk _ (S136.re ⟨rfl, rfl, rfl, rfl, (by rw [hb131]; rfl), trivial⟩)
  intro a137 S137
  refine y00 S137 Z Z Z (y03 S137 Z Z) fun a138 S138 => ?_
  refine y4b (N := 80) 3 [(3, .slice A57 r55.2.1.length cap58), (5, .slice A71 r69.2.1.length cap72), (9, .slice A95 r93.2.1.length cap96), (60, .bool (((((r55.2.2 == 0) && (r69.2.2 == 0)) && (r93.2.2 == 0)) && r83.2) && (r83.1 == 25)))] ?_ (fun hk => ?_)
  rotate_left
  ·rcases Bool.eq_false_or_eq_true (((((r55.2.2 == 0) && (r69.2.2 == 0)) && (r93.2.2 == 0)) && r83.2)) with hb139 | hb139
   ·refine y0p S138 (y0a S138 Z Z rfl hb139) Z Z (y03 S138 Z Z) fun a142 S142 => y0p S142 (y0a S142 Z Z rfl hb139) Z Z (y2l S142 Z Z rfl b_eql) fun a143 S143 => y00 S143 Z Z Z (y2s S143 Z Z rfl hb139) fun a144 S144 => hk _ (S144.re ⟨rfl, rfl, rfl, (by rw [hb139]; rfl), trivial⟩)
   ·refine y1c S138 (y05 S138 Z Z rfl hb139) Z Z fun a145 S145 => y1c S145 (y05 S145 Z Z rfl hb139) Z Z fun a146 S146 => y00 S146 Z Z Z (y2t S146 Z Z rfl hb139) fun a147 S147 => hk _ (S147.re ⟨rfl, rfl, rfl, (by rw [hb139]; rfl), trivial⟩)
  intro a148 S148
  refine y00 S148 Z Z Z (y03 S148 Z Z) fun a149 S149 => ?_
  refine y4b (N := 80) 4 [(3, .slice A57 r55.2.1.length cap58), (9, .slice A95 r93.2.1.length cap96), (65, .bool ((((((r55.2.2 == 0) && (r69.2.2 == 0)) && (r93.2.2 == 0)) && r83.2) && (r83.1 == 25)) && ((r69.2.1.length : Int) == 0)))] ?_ (fun hk => ?_)
  rotate_left
  ·rcases Bool.eq_false_or_eq_true ((((((r55.2.2 == 0) && (r69.2.2 == 0)) && (r93.2.2 == 0)) && r83.2) && (r83.1 == 25))) with hb150 | hb150
   ·refine y0p S149 (y0a S149 Z Z rfl hb150) Z Z (y03 S149 Z Z) fun a154 S154 => y0p S154 (y0a S154 Z Z rfl hb150) Z Z (y4x (e := 47) (sz := 3) (by_ := 24) S154 Z Z (by kernel_rfl)) fun a155 S155 => y0p S155 (y0a S155 Z Z rfl hb150) Z Z (y2l S155 Z Z rfl b_eql) fun a156 S156 => y00 S156 Z Z Z (y2s S156 Z Z rfl hb150) fun a157 S157 => hk _ (S157.re ⟨rfl, rfl, (by rw [hb150]; rfl), trivial⟩)
   ·refine y1c S149 (y05 S149 Z Z rfl hb150) Z Z fun a158 S158 => y1c S158 (y05 S158 Z Z rfl hb150) Z Z fun a159 S159 => y1c S159 (y05 S159 Z Z rfl hb150) Z Z fun a160 S160 => y00 S160 Z Z Z (y2t S160 Z Z rfl hb150) fun a161 S161 => hk _ (S161.re ⟨rfl, rfl, (by rw [hb150]; rfl), trivial⟩)
  intro a162 S162
  refine y00 S162 Z Z Z (y03 S162 Z Z) fun a163 S163 => ?_
  refine g_joinR 6 (fun a w179 => ∃ (g179 : Nat → Nat), Sl 80 a [(9, .slice A95 r93.2.1.length cap96), (72, .bool t177)] ∧ OwS y18 47 w179 g179 (N + 13) A95 cap96 r93.2.1 ∧ Fr (fun q => N ≤ q) w g w179 g179) ?_ (fun hk => ?_)
  rotate_left
  ·rcases Bool.eq_false_or_eq_true (((((((r55.2.2 == 0) && (r69.2.2 == 0)) && (r93.2.2 == 0)) && r83.2) && (r83.1 == 25)) && ((r69.2.1.length : Int) == 0))) with hb164 | hb164
   ·have H := y3f hb164 ht178
    obtain ⟨r188, hr189, H⟩ := y0b H
    have e192 := Option.some.inj H
    refine y0p S163 (y0a S163 Z Z rfl hb164) Z Z (y03 S163 Z Z) fun a180 S180 => y0p S180 (y0a S180 Z Z rfl hb164) Z Z (r_build (parts := [(0, i6 0), (1, .bool true), (2, .int .u64 10)]) (u := .agg #[i6 0, .bool true, .int .u64 10]) S180 Z Z (fun _ => by kernel_rfl)) fun a181 S181 => y0p S181 (y0a S181 Z Z rfl hb164) Z Z (r_build (parts := [(0, i6 1), (1, .bool true), (2, .int .u64 10)]) (u := .agg #[i6 1, .bool true, .int .u64 10]) S181 Z Z (fun _ => by kernel_rfl)) fun a182 S182 => ?_
    refine st_effW S182 (y0a S182 Z Z rfl hb164) Z Z (e_lit (e := 47) (parts := [(0, .agg #[i6 0, .bool true, .int .u64 10]), (1, .agg #[i6 1, .bool true, .int .u64 10])]) (cs := [i6 0, .bool true, .int .u64 10, i6 1, .bool true, .int .u64 10]) y18 [(y0e.mk 0 true 10), (y0e.mk 1 true 10)] (N + 15) g100 S182 Z Z (fun _ => by kernel_rfl) Z (by decide) (Rows.cons (cs := [i6 0, .bool true, .int .u64 10]) Z (Rows.cons (cs := [i6 1, .bool true, .int .u64 10]) rfl Rows.nil))) ?_
    rintro _ a186 w187 g187 ⟨⟨A183, rfl, h184⟩, F187⟩ S186
    replace h59 := OwS.fr h59 F187 (fun _ _ h => h)
    replace h73 := OwS.fr h73 F187 (fun _ _ h => h)
    replace h97 := OwS.fr h97 F187 (fun _ _ h => h)
    replace hF := hF.trans F187 (fun _ h => h.elim)
    refine st_enterW S186 (y0a S186 Z Z rfl hb164) Z Z (y2z S186 Z Z (by kernel_rfl)) (y1n.calls (C0 := (fun q => q = N + 9)) (C1 := (fun q => q = N + 15)) (p0 := r55.2.1) (p1 := [(y0e.mk 0 true 10), (y0e.mk 1 true 10)]) (g := g187) (N + 19)  (OwD.rdf (fun _ _ _ _ _ _ h => h) h59) (fun q (hq : q = N + 9) => by omega) (OwD.rdf (fun _ _ _ _ _ _ h => h) h184) (fun q (hq : q = N + 15) => by omega) hr189) ?_
    rintro _ a190 w191 ⟨g191, rfl, F191⟩ S190
    replace h184 := OwS.fr h184 F191 (fun c' hc (hm : N + 19 ≤ c') => by omega)
    replace h59 := OwS.fr h59 F191 (fun c' hc (hm : N + 19 ≤ c') => by omega)
    replace h73 := OwS.fr h73 F191 (fun c' hc (hm : N + 19 ≤ c') => by omega)
    replace h97 := OwS.fr h97 F191 (fun c' hc (hm : N + 19 ≤ c') => by omega)
    replace hF := hF.trans F191 (fun c' (hm : N + 19 ≤ c') => by (try dsimp only); omega)
    refine y00 S190 Z Z Z (y2s S190 Z Z rfl hb164) fun a193 S193 => hk _ _ ?_
    exact ⟨g191, S193.re ⟨rfl, (by rw [← e192]; rfl), trivial⟩, h97, hF⟩
   ·have H := y3g hb164 ht178
    have e194 := Option.some.inj H
    refine y1c S163 (y05 S163 Z Z rfl hb164) Z Z fun a195 S195 => y1c S195 (y05 S195 Z Z rfl hb164) Z Z fun a196 S196 => y1c S196 (y05 S196 Z Z rfl hb164) Z Z fun a197 S197 => y1c S197 (y05 S197 Z Z rfl hb164) Z Z fun a198 S198 => y1c S198 (y05 S198 Z Z rfl hb164) Z Z fun a199 S199 => y00 S199 Z Z Z (y2t S199 Z Z rfl hb164) fun a200 S200 => hk _ _ ?_
    exact ⟨g100, S200.re ⟨rfl, (by rw [← e194]; rfl), trivial⟩, h97, hF⟩
  rintro a201 w179 ⟨g179, S201, h97, hF⟩
  refine y00 S201 Z Z Z (y03 S201 Z Z) fun a202 S202 => ?_
  refine g_joinR 6 (fun a w218 => ∃ (g218 : Nat → Nat), Sl 80 a [(79, .bool t216)] ∧ Fr (fun q => N ≤ q) w g w218 g218) ?_ (fun hk => ?_)
  rotate_left
  ·rcases Bool.eq_false_or_eq_true (t177) with hb203 | hb203
   ·have H := y3f hb203 ht217
    obtain ⟨r227, hr228, H⟩ := y0b H
    have e231 := Option.some.inj H
    refine y0p S202 (y0a S202 Z Z rfl hb203) Z Z (y03 S202 Z Z) fun a219 S219 => y0p S219 (y0a S219 Z Z rfl hb203) Z Z (r_build (parts := [(0, i6 1), (2, .int .u64 25)]) (u := .agg #[i6 1, .bool false, .int .u64 25]) S219 Z Z (fun _ => by kernel_rfl)) fun a220 S220 => y0p S220 (y0a S220 Z Z rfl hb203) Z Z (r_build (parts := [(0, i6 0), (2, .int .u64 25)]) (u := .agg #[i6 0, .bool false, .int .u64 25]) S220 Z Z (fun _ => by kernel_rfl)) fun a221 S221 => ?_
    refine st_effW S221 (y0a S221 Z Z rfl hb203) Z Z (e_lit (e := 47) (parts := [(0, .agg #[i6 1, .bool false, .int .u64 25]), (1, .agg #[i6 0, .bool false, .int .u64 25])]) (cs := [i6 1, .bool false, .int .u64 25, i6 0, .bool false, .int .u64 25]) y18 [(y0e.mk 1 false 25), (y0e.mk 0 false 25)] (N + 17) g179 S221 Z Z (fun _ => by kernel_rfl) Z (by decide) (Rows.cons (cs := [i6 1, .bool false, .int .u64 25]) Z (Rows.cons (cs := [i6 0, .bool false, .int .u64 25]) rfl Rows.nil))) ?_
    rintro _ a225 w226 g226 ⟨⟨A222, rfl, h223⟩, F226⟩ S225
    replace h97 := OwS.fr h97 F226 (fun _ _ h => h)
    replace hF := hF.trans F226 (fun _ h => h.elim)
    refine st_enterW S225 (y0a S225 Z Z rfl hb203) Z Z (y2z S225 Z Z (by kernel_rfl)) (y1n.calls (C0 := (fun q => q = N + 13)) (C1 := (fun q => q = N + 17)) (p0 := r93.2.1) (p1 := [(y0e.mk 1 false 25), (y0e.mk 0 false 25)]) (g := g226) (N + 19)  (OwD.rdf (fun _ _ _ _ _ _ h => h) h97) (fun q (hq : q = N + 13) => by omega) (OwD.rdf (fun _ _ _ _ _ _ h => h) h223) (fun q (hq : q = N + 17) => by omega) hr228) ?_
    rintro _ a229 w230 ⟨g230, rfl, F230⟩ S229
    replace h223 := OwS.fr h223 F230 (fun c' hc (hm : N + 19 ≤ c') => by omega)
    replace h97 := OwS.fr h97 F230 (fun c' hc (hm : N + 19 ≤ c') => by omega)
    replace hF := hF.trans F230 (fun c' (hm : N + 19 ≤ c') => by (try dsimp only); omega)
    refine y00 S229 Z Z Z (y2s S229 Z Z rfl hb203) fun a232 S232 => hk _ _ ?_
    exact ⟨g230, S232.re ⟨(by rw [← e231]; rfl), trivial⟩, hF⟩
   ·have H := y3g hb203 ht217
    have e233 := Option.some.inj H
    refine y1c S202 (y05 S202 Z Z rfl hb203) Z Z fun a234 S234 => y1c S234 (y05 S234 Z Z rfl hb203) Z Z fun a235 S235 => y1c S235 (y05 S235 Z Z rfl hb203) Z Z fun a236 S236 => y1c S236 (y05 S236 Z Z rfl hb203) Z Z fun a237 S237 => y1c S237 (y05 S237 Z Z rfl hb203) Z Z fun a238 S238 => y00 S238 Z Z Z (y2t S238 Z Z rfl hb203) fun a239 S239 => hk _ _ ?_
    exact ⟨g179, S239.re ⟨(by rw [← e233]; rfl), trivial⟩, hF⟩
  rintro a240 w218 ⟨g218, S240, hF⟩
  refine y00 S240 Z Z Z (y02 S240 Z Z) fun a241 S241 => wpList_nil (hK _ _ ?_)
  replace hS : Sl 80 _ [(0, .bool t216)] := S241.re ⟨Z, trivial⟩
  clear hK K
  try clear S106 S107 S108 S118 S119 S129 S130 S137 S138 S148 S149 S162 S163 S201 S202 S240 S241
  generalize a241 = a at hS ⊢
  refine wp_ret ?_
  have e := Option.some.inj H
  subst e
  repeat (with_reducible first | refine y1i ?_ | refine y0o ?_)
  exact y3v hS Try.results16 rfl ⟨_, rfl, g218, rfl, hF⟩


end Go.Proofs.Ytcfcffbjdjacfaa.Sim

namespace Go.Proofs.Ytcfcffbjdjacfaa.Sim
open Go
set_option linter.unusedVariables false
set_option linter.unusedSimpArgs false

/-! ### y4r: function 18 -/
def y4r.f (p0 : Int) (p1 : Int) : Option (Int) := if (wu (p1)) = 0 then none else some (wi ((Int.tmod (wu (p0)) (wu (p1)))))
set_option maxRecDepth 100000 in
set_option maxHeartbeats 4000000 in
theorem y4r.calls {p0 : Int} {p1 : Int} {w : World} {g : Nat → Nat} {out : Int} (N : Nat)  (H : y4r.f p0 p1 = some out) :
  Calls Try.prog 18 #[i6 p0, i6 p1] w (fun e w' => ∃ v, e = .returned v ∧ ∃ (g' : Nat → Nat), v = i6 out ∧ Fr (fun q => N ≤ q) w g w' g') := by
 unfold y4r.f at H
 refine y1k Try.func18 rfl Try.ntmps18 Z (fun a hS => ?_)
 replace hS : Sl 11 a [(0, i6 p0), (1, i6 p1)] := hS
 have hF : Fr (fun q => N ≤ q) w g w g := Fr.refl _ _ _
 refine y16 [(0, i6 p0), (1, i6 p1)] (fun R hR => y00 hS Z Z Z (y02 hS Z Z) fun a1 S1 => wpList_nil (hR _ (S1.re ⟨Z, Z, trivial⟩))) ?_
 clear hS a; intro a hS
 obtain ⟨hq6, H⟩ := nz_el H
 refine y16 [(4, i6 (wi ((Int.tmod (wu (p0)) (wu (p1))))))] (fun R hR => y00 hS Z Z Z (y03 hS Z Z) fun a2 S2 => y00 S2 Z Z Z (r_convert (k' := .u64) S2 Z Z (by kernel_rfl)) fun a3 S3 => y00 S3 Z Z Z (y03 S3 Z Z) fun a4 S4 => y00 S4 Z Z Z (r_convert (k' := .u64) S4 Z Z (by kernel_rfl)) fun a5 S5 => y00 S5 Z Z Z (y2l S5 Z Z Z (b_rem hq6)) fun a7 S7 => y00 S7 Z Z Z (r_convert (k' := .i64) S7 Z Z (by kernel_rfl)) fun a8 S8 => y00 S8 Z Z Z (y02 S8 Z Z) fun a9 S9 => wpList_nil (hR _ (S9.re ⟨Z, trivial⟩))) ?_
 clear hS a; intro a hS
 refine wp_ret ?_
 have e := Option.some.inj H
 subst e
 repeat (with_reducible first | refine y1i ?_ | refine y0o ?_)
 exact y3v hS Try.results18 rfl ⟨_, rfl, g, rfl, hF⟩


end Go.Proofs.Ytcfcffbjdjacfaa.Sim

namespace Go.Proofs.Ytcfcffbjdjacfaa.Sim
open Go
set_option linter.unusedVariables false
set_option linter.unusedSimpArgs false

/-! ### y3z: function 25 -/
def y3z.f (p0 : y3t) (p1 : Int) (p2 : Int) : Option (Int × Int) := if (p0.Raw || (p1 == 0)) = true then (some (p0.Device, p0.Wait)) else ((y4r.f p0.Device p1).bind fun r29 => some (r29, wu (p2 + (Int.tmod p0.Wait 15))))
set_option maxRecDepth 100000 in
set_option maxHeartbeats 4000000 in
theorem y3z.calls {p0 : y3t} {p1 : Int} {p2 : Int} {w : World} {g : Nat → Nat} {out : Int × Int} (N : Nat)  (H : y3z.f p0 p1 p2 = some out) :
  Calls Try.prog 25 #[.agg #[i6 p0.Kind, i6 p0.Device, .int .u64 p0.Wait, .bool p0.Raw], i6 p1, .int .u64 p2] w (fun e w' => ∃ v, e = .returned v ∧ ∃ (g' : Nat → Nat), v = .tuple #[i6 out.1, .int .u64 out.2] ∧ Fr (fun q => N ≤ q) w g w' g') := by
 unfold y3z.f at H
 refine y1k Try.func25 rfl Try.ntmps25 Z (fun a hS => ?_)
 replace hS : Sl 27 a [(0, .agg #[i6 p0.Kind, i6 p0.Device, .int .u64 p0.Wait, .bool p0.Raw]), (1, i6 p1), (2, .int .u64 p2)] := hS
 have hF : Fr (fun q => N ≤ q) w g w g := Fr.refl _ _ _
 refine y0t (fun K hK => ?_)
 refine y41 hS Z Z Z (e_box (cs := [i6 p0.Kind, i6 p0.Device, .int .u64 p0.Wait, .bool p0.Raw]) (N + 0) g hS Z Z Z) ?_
 rintro _ a4 w5 g5 ⟨⟨b1, rfl, h2⟩, F5⟩ S4
 replace hF := hF.trans F5 (fun _ h => h.elim)
 refine y00 S4 Z Z Z (y02 S4 Z Z) fun a6 S6 => y00 S6 Z Z Z (y02 S6 Z Z) fun a7 S7 => wpList_nil (hK _ _ ?_)
 replace hS : Sl 27 _ [(1, i6 p1), (2, .int .u64 p2), (3, .pointer (so b1))] := S7.re ⟨Z, Z, Z, trivial⟩
 clear hK K
 try clear S4 S6 S7
 generalize a7 = a at hS ⊢
 refine wp_seq ?_
 refine y0t (fun K hK => ?_)
 refine y00 hS Z Z Z (y1e (off := 3) hS Z Z (by kernel_rfl)) fun a8 S8 => y00 S8 Z Z Z (y0u (n := 1) S8 Z Z (by kernel_rfl) (Bx.cell h2 Z)) fun a9 S9 => y00 S9 Z Z Z (y03 S9 Z Z) fun a10 S10 => ?_
 refine y4b (N := 27) 3 [(1, i6 p1), (2, .int .u64 p2), (3, .pointer (so b1)), (13, .bool (p0.Raw || (p1 == 0)))] ?_ (fun hk => ?_)
 rotate_left
 ·rcases Bool.eq_false_or_eq_true (p0.Raw) with hb11 | hb11
  ·refine y1c S10 (y05 S10 Z Z rfl hb11) Z Z fun a14 S14 => y1c S14 (y05 S14 Z Z rfl hb11) Z Z fun a15 S15 => y00 S15 Z Z Z (y2s S15 Z Z rfl hb11) fun a16 S16 => hk _ (S16.re ⟨rfl, rfl, rfl, (by rw [hb11]; rfl), trivial⟩)
  ·refine y0p S10 (y0a S10 Z Z rfl hb11) Z Z (y03 S10 Z Z) fun a17 S17 => y0p S17 (y0a S17 Z Z rfl hb11) Z Z (y2l S17 Z Z rfl b_eql) fun a18 S18 => y00 S18 Z Z Z (y2t S18 Z Z rfl hb11) fun a19 S19 => hk _ (S19.re ⟨rfl, rfl, rfl, (by rw [hb11]; rfl), trivial⟩)
 intro a20 S20
 refine wpList_nil (hK _ _ ?_)
 replace hS : Sl 27 _ [(1, i6 p1), (2, .int .u64 p2), (3, .pointer (so b1)), (13, .bool (p0.Raw || (p1 == 0)))] := S20.re ⟨Z, Z, Z, Z, trivial⟩
 clear hK K
 try clear S8 S9 S10 S20
 generalize a20 = a at hS ⊢
 refine y2m hS Z (fun hb21 => ?_) (fun hb21 => ?_)
 ·replace H := y3f hb21 H
  refine c_draw (fun K hK => y4m (fun q => False) g5 [] 6 (ba 0 6) (by kernel_rfl) Z Z (fun w22 hw22 => ?_))
  have F22 : Fr (fun _ => False) w5 g5 w22 g5 := by rw [hw22]; exact Fr.drew _ _ _
  replace h2 := h2.fr F22 (fun h => h)
  replace hF := hF.trans F22 (fun _ h => h.elim)
  have hC : Fr (fun q => False) w22 g5 w22 g5 := Fr.refl _ _ _
  refine y1b hS 0 (ba 1 5) Z Z Z Z (by kernel_rfl) (fun _ _ _ h => h) (fun _ => (y1e (off := 1) hS Z Z (by kernel_rfl))) fun a23 S23 => y3w S23 1 (ba 2 4) Z Z Z Z (by kernel_rfl) (fun _ _ _ h => h) ⟨_, hC⟩ (fun w' g' Fz => (y0u (n := 1) S23 Z Z (by kernel_rfl) (Bx.cell (h2.fr Fz (fun h => h)) Z))) fun a24 S24 => y1b S24 2 (ba 3 3) Z Z Z Z (by kernel_rfl) (fun _ _ _ h => h) (fun _ => (y1e (off := 2) S24 Z Z (by kernel_rfl))) fun a25 S25 => y3w S25 3 (ba 4 2) Z Z Z Z (by kernel_rfl) (fun _ _ _ h => h) ⟨_, hC⟩ (fun w' g' Fz => (y0u (n := 1) S25 Z Z (by kernel_rfl) (Bx.cell (h2.fr Fz (fun h => h)) Z))) fun a26 S26 => y1b S26 4 (ba 5 1) Z Z Z Z (by kernel_rfl) (fun _ _ _ h => h) (fun _ => (y02 S26 Z Z)) fun a27 S27 => y1b S27 5 (ba 6 0) Z Z Z Z (by kernel_rfl) (fun _ _ _ h => h) (fun _ => (y02 S27 Z Z)) fun a28 S28 => y4v (by kernel_rfl) (hK _ _ ?_)
  replace hS : Sl 27 _ [(6, i6 p0.Device), (7, .int .u64 p0.Wait)] := S28.re ⟨Z, Z, trivial⟩
  clear hK K hC
  try clear S23 S24 S25 S26 S27 S28
  generalize a28 = a at hS ⊢
  refine wp_ret ?_
  have e := Option.some.inj H
  subst e
  repeat (with_reducible first | refine y1i ?_ | refine y0o ?_)
  exact y4d hS Try.results25 Z rfl ⟨_, rfl, g5, rfl, hF⟩
 ·replace H := y3g hb21 H
  refine wp_skip ?_
  change Code.wp _ _ _ _ _
  obtain ⟨r29, hr30, H⟩ := y0b H
  refine c_draw (fun K hK => y4m (fun q => N + 2 ≤ q) g5 [] 11 (ba 0 11) (by kernel_rfl) Z Z (fun w31 hw31 => ?_))
  have F31 : Fr (fun _ => False) w5 g5 w31 g5 := by rw [hw31]; exact Fr.drew _ _ _
  replace h2 := h2.fr F31 (fun h => h)
  replace hF := hF.trans F31 (fun _ h => h.elim)
  have hC : Fr (fun q => N + 2 ≤ q) w31 g5 w31 g5 := Fr.refl _ _ _
  refine y1b hS 0 (ba 1 10) Z Z Z Z (by kernel_rfl) (fun _ _ _ h => h) (fun _ => (y1e (off := 1) hS Z Z (by kernel_rfl))) fun a32 S32 => y3w S32 1 (ba 2 9) Z Z Z Z (by kernel_rfl) (fun _ _ _ h => h) ⟨_, hC⟩ (fun w' g' Fz => (y0u (n := 1) S32 Z Z (by kernel_rfl) (Bx.cell (h2.fr Fz (fun (hm : N + 2 ≤ N + 0) => by omega)) Z))) fun a33 S33 => y1b S33 2 (ba 3 8) Z Z Z Z (by kernel_rfl) (fun _ _ _ h => h) (fun _ => (y03 S33 Z Z)) fun a34 S34 => y1b S34 4 #[tt_, tt_, tt_, ff_, tt_, ff_, ff_, ff_, ff_, ff_, ff_] Z Z Z Z (by kernel_rfl) (fun _ _ _ h => h) (fun _ => (y03 S34 Z Z)) fun a35 S35 => y1b S35 5 #[tt_, tt_, tt_, ff_, tt_, tt_, ff_, ff_, ff_, ff_, ff_] Z Z Z Z (by kernel_rfl) (fun _ _ _ h => h) (fun _ => (y1e (off := 2) S35 Z Z (by kernel_rfl))) fun a36 S36 => y3w S36 6 #[tt_, tt_, tt_, ff_, tt_, tt_, tt_, ff_, ff_, ff_, ff_] Z Z Z Z (by kernel_rfl) (fun _ _ _ h => h) ⟨_, hC⟩ (fun w' g' Fz => (y0u (n := 1) S36 Z Z (by kernel_rfl) (Bx.cell (h2.fr Fz (fun (hm : N + 2 ≤ N + 0) => by omega)) Z))) fun a37 S37 => y1b S37 7 #[tt_, tt_, tt_, ff_, tt_, tt_, tt_, tt_, ff_, ff_, ff_] Z Z Z Z (by kernel_rfl) (fun _ _ _ h => h) (fun _ => (y2l S37 Z Z Z (b_rem (by decide)))) fun a38 S38 => y1b S38 8 #[tt_, tt_, tt_, ff_, tt_, tt_, tt_, tt_, tt_, ff_, ff_] Z Z Z Z (by kernel_rfl) (fun _ _ _ h => h) (fun _ => (y2l S38 Z Z rfl y4z)) fun a39 S39 => ?_
  refine d_one 3 (ba 9 2) Z (by kernel_rfl) (arm_call S39 Z Z Z (y2z S39 Z Z (by kernel_rfl)) (y4r.calls (p0 := p0.Device) (p1 := p1) (g := g5) (N + 2)   hr30) (fun _ _ ⟨g', _, Fz⟩ _ => ⟨g', hC.trans Fz (fun c' (hm : N + 2 ≤ c') => by (try dsimp only); omega)⟩) ?_)
  rintro _ a40 w41 ⟨g41, rfl, F41⟩ S40
  have hC41 := hC.trans F41 (fun c' (hm : N + 2 ≤ c') => by (try dsimp only); omega)
  replace h2 := h2.fr F41 (fun (hm : N + 2 ≤ N + 0) => by omega)
  replace hF := hF.trans F41 (fun c' (hm : N + 2 ≤ c') => by (try dsimp only); omega)
  refine y1b S40 9 (ba 10 1) Z Z Z Z (by kernel_rfl) (fun _ _ _ h => h) (fun _ => (y02 S40 Z Z)) fun a42 S42 => y1b S42 10 (ba 11 0) Z Z Z Z (by kernel_rfl) (fun _ _ _ h => h) (fun _ => (y02 S42 Z Z)) fun a43 S43 => y4v (by kernel_rfl) (hK _ _ ?_)
  replace hS : Sl 27 _ [(6, i6 r29), (7, .int .u64 (wu (p2 + (Int.tmod p0.Wait 15))))] := S43.re ⟨Z, Z, trivial⟩
  clear hK K hC
  try clear S32 S33 S34 S35 S36 S37 S38 S39 S40 S42 S43
  generalize a43 = a at hS ⊢
  refine wp_ret ?_
  have e := Option.some.inj H
  subst e
  repeat (with_reducible first | refine y1i ?_ | refine y0o ?_)
  exact y4d hS Try.results25 Z rfl ⟨_, rfl, g41, rfl, hF⟩


end Go.Proofs.Ytcfcffbjdjacfaa.Sim

namespace Go.Proofs.Ytcfcffbjdjacfaa.Sim
open Go
set_option linter.unusedVariables false
set_option linter.unusedSimpArgs false

/-! ### law28_do: function 26 -/
def law28_do.f (p0 : y01) (p1 : y3t) (p2 : Int) (p3 : Int) : Option (y01 × (List y0e) × Int) := (y3z.f p1 p2 p3).bind fun r11 => (y4r.f p1.Kind 4).bind fun r22 => if (r22 == 2) = true then ((y31.f p0 r11.1 r11.2).bind fun r32 => some (r32.1, r32.2.1, r32.2.2)) else (if (r22 == 3) = true then ((y2n.f p0 r11.2).bind fun r50 => some (r50.1, r50.2.1, r50.2.2)) else ((y1u.f p0 r11.1 r11.2).bind fun r66 => some (r66.1, r66.2.1, r66.2.2)))
set_option maxRecDepth 100000 in
set_option maxHeartbeats 4000000 in
theorem law28_do.calls {p0 : y01} {c0 : Nat}  {b_p0 : Nat} {y09 : Option Addr} {y07 : Nat} {y0v : Option Addr} {y0l : Nat} {y0q : Option Addr} {y0h : Nat} {p1 : y3t} {p2 : Int} {p3 : Int} {w : World} {g : Nat → Nat} {out : y01 × (List y0e) × Int} (N : Nat) (r0 : Nat) (hp0 : y1v w g c0 b_p0 y09 y07 y0v y0l y0q y0h p0) (hc0 : c0 + 7 ≤ N) (hr0 : r0 + 2 ≤ N) (hq0_0 : r0 + 2 ≤ c0 ∨ c0 + 7 ≤ r0) (H : law28_do.f p0 p1 p2 p3 = some out) :
  Calls Try.prog 26 #[.pointer (so b_p0), .agg #[i6 p1.Kind, i6 p1.Device, .int .u64 p1.Wait, .bool p1.Raw], i6 p2, .int .u64 p3] w (fun e w' => ∃ v, e = .returned v ∧ ∃ (g' : Nat → Nat) (A_r0 : Option Addr) (cap_r0 : Nat), v = .tuple #[.slice A_r0 out.2.1.length cap_r0, i6 out.2.2] ∧ y1v w' g' c0 b_p0 y09 y07 y0v y0l y0q y0h out.1 ∧ OwS y18 47 w' g' r0 A_r0 cap_r0 out.2.1 ∧ Fr (fun q => (c0 ≤ q ∧ q < c0 + 7) ∨ (r0 ≤ q ∧ q < r0 + 2) ∨ N ≤ q) w g w' g') := by
 unfold law28_do.f at H
 refine y1k Try.func26 rfl Try.ntmps26 Z (fun a hS => ?_)
 replace hS : Sl 43 a [(0, .pointer (so b_p0)), (1, .agg #[i6 p1.Kind, i6 p1.Device, .int .u64 p1.Wait, .bool p1.Raw]), (2, i6 p2), (3, .int .u64 p3)] := hS
 have hF : Fr (fun q => (c0 ≤ q ∧ q < c0 + 7) ∨ (r0 ≤ q ∧ q < r0 + 2) ∨ N ≤ q) w g w g := Fr.refl _ _ _
 obtain ⟨hb0, y04, y0j, y0i⟩ := hp0
 refine y0t (fun K hK => ?_)
 refine y41 hS Z Z Z (e_box (cs := [i6 p1.Kind, i6 p1.Device, .int .u64 p1.Wait, .bool p1.Raw]) (N + 0) g hS Z Z Z) ?_
 rintro _ a4 w5 g5 ⟨⟨b1, rfl, h2⟩, F5⟩ S4
 replace hb0 := hb0.fr F5 (fun h => h)
 replace y04 := OwS.fr y04 F5 (fun _ _ h => h)
 replace y0j := OwS.fr y0j F5 (fun _ _ h => h)
 replace y0i := OwS.fr y0i F5 (fun _ _ h => h)
 replace hF := hF.trans F5 (fun _ h => h.elim)
 refine y00 S4 Z Z Z (y02 S4 Z Z) fun a6 S6 => y00 S6 Z Z Z (y02 S6 Z Z) fun a7 S7 => wpList_nil (hK _ _ ?_)
 replace hS : Sl 43 _ [(0, .pointer (so b_p0)), (2, i6 p2), (3, .int .u64 p3), (5, .pointer (so b1))] := S7.re ⟨Z, Z, Z, Z, trivial⟩
 clear hK K
 try clear S4 S6 S7
 generalize a7 = a at hS ⊢
 obtain ⟨r11, hr12, H⟩ := y0b H
 refine y0t (fun K hK => ?_)
 refine y00 hS Z Z Z (r_loadN (n := 4) (cs := [i6 p1.Kind, i6 p1.Device, .int .u64 p1.Wait, .bool p1.Raw]) hS Z Z (by kernel_rfl) Z (Bx.cells_off h2 0 4)) fun a8 S8 => y00 S8 Z Z Z (y03 S8 Z Z) fun a9 S9 => y00 S9 Z Z Z (y03 S9 Z Z) fun a10 S10 => ?_
 refine y1y S10 Z Z Z (y2z S10 Z Z (by kernel_rfl)) (y3z.calls (p0 := p1) (p1 := p2) (p2 := p3) (g := g5) (N + 8)   hr12) ?_
 rintro _ a13 w14 ⟨g14, rfl, F14⟩ S13
 replace h2 := h2.fr F14 (fun (hm : N + 8 ≤ N + 0) => by omega)
 replace hb0 := hb0.fr F14 (fun (hm : N + 8 ≤ c0) => by omega)
 replace y04 := OwS.fr y04 F14 (fun c' hc (hm : N + 8 ≤ c') => by omega)
 replace y0j := OwS.fr y0j F14 (fun c' hc (hm : N + 8 ≤ c') => by omega)
 replace y0i := OwS.fr y0i F14 (fun c' hc (hm : N + 8 ≤ c') => by omega)
 replace hF := hF.trans F14 (fun c' (hm : N + 8 ≤ c') => by (try dsimp only); omega)
 refine y00 S13 Z Z Z (y03 S13 Z Z) fun a15 S15 => y00 S15 Z Z Z (y1z S15 Z Z Z) fun a16 S16 => y00 S16 Z Z Z (y1z S16 Z Z Z) fun a17 S17 => y00 S17 Z Z Z (y02 S17 Z Z) fun a18 S18 => y00 S18 Z Z Z (y02 S18 Z Z) fun a19 S19 => wpList_nil (hK _ _ ?_)
 replace hS : Sl 43 _ [(0, .pointer (so b_p0)), (5, .pointer (so b1)), (10, i6 r11.1), (11, .int .u64 r11.2)] := S19.re ⟨Z, Z, Z, Z, trivial⟩
 clear hK K
 try clear S8 S9 S10 S13 S15 S16 S17 S18 S19
 generalize a19 = a at hS ⊢
 refine wp_seq ?_
 obtain ⟨r22, hr23, H⟩ := y0b H
 refine y0t (fun K hK => ?_)
 refine y00 hS Z Z Z (y1e (off := 0) hS Z Z (by kernel_rfl)) fun a20 S20 => y00 S20 Z Z Z (y0u (n := 1) S20 Z Z (by kernel_rfl) (Bx.cell h2 Z)) fun a21 S21 => ?_
 refine y1y S21 Z Z Z (y2z S21 Z Z (by kernel_rfl)) (y4r.calls (p0 := p1.Kind) (p1 := 4) (g := g14) (N + 8)   hr23) ?_
 rintro _ a24 w25 ⟨g25, rfl, F25⟩ S24
 replace h2 := h2.fr F25 (fun (hm : N + 8 ≤ N + 0) => by omega)
 replace hb0 := hb0.fr F25 (fun (hm : N + 8 ≤ c0) => by omega)
 replace y04 := OwS.fr y04 F25 (fun c' hc (hm : N + 8 ≤ c') => by omega)
 replace y0j := OwS.fr y0j F25 (fun c' hc (hm : N + 8 ≤ c') => by omega)
 replace y0i := OwS.fr y0i F25 (fun c' hc (hm : N + 8 ≤ c') => by omega)
 replace hF := hF.trans F25 (fun c' (hm : N + 8 ≤ c') => by (try dsimp only); omega)
 refine wpList_nil (hK _ _ ?_)
 replace hS : Sl 43 _ [(0, .pointer (so b_p0)), (10, i6 r11.1), (11, .int .u64 r11.2), (21, i6 r22)] := S24.re ⟨Z, Z, Z, Z, trivial⟩
 clear hK K
 try clear S20 S21 S24
 generalize a24 = a at hS ⊢
 refine wp_block ?_
 refine y16 [(0, .pointer (so b_p0)), (10, i6 r11.1), (11, .int .u64 r11.2), (21, i6 r22), (22, .bool (r22 == 2))] (fun R hR => y00 hS Z Z Z (y2l hS Z Z rfl b_eql) fun a26 S26 => y00 S26 Z Z Z (y02 S26 Z Z) fun a27 S27 => wpList_nil (hR _ (S27.re ⟨Z, Z, Z, Z, Z, trivial⟩))) ?_
 clear hS a; intro a hS
 refine y2m hS Z (fun hb28 => ?_) (fun hb28 => ?_)
 ·replace H := y3f hb28 H
  obtain ⟨r32, hr33, H⟩ := y0b H
  refine y0t (fun K hK => ?_)
  refine y00 hS Z Z Z (y03 hS Z Z) fun a29 S29 => y00 S29 Z Z Z (y03 S29 Z Z) fun a30 S30 => y00 S30 Z Z Z (y03 S30 Z Z) fun a31 S31 => ?_
  refine y1y S31 Z Z Z (y2z S31 Z Z (by kernel_rfl)) (y31.calls (c0 := c0) (b_p0 := b_p0) (y09 := y09) (y07 := y07) (y0v := y0v) (y0l := y0l) (y0q := y0q) (y0h := y0h) (p0 := p0) (p1 := r11.1) (p2 := r11.2) (g := g25) (N + 8) (N + 2) ⟨hb0, y04, y0j, y0i⟩ (by omega) (by omega) (by omega) hr33) ?_
  rintro _ a38 w39 ⟨g39, A34, cap35, rfl, ⟨hb0, y04, y0j, y0i⟩, h36, F39⟩ S38
  replace hF := hF.trans F39 (fun c' (hm : (c0 ≤ c' ∧ c' < c0 + 7) ∨ (N + 2 ≤ c' ∧ c' < N + 2 + 2) ∨ N + 8 ≤ c') => by (try dsimp only); omega)
  refine y00 S38 Z Z Z (y1z S38 Z Z Z) fun a40 S40 => y00 S40 Z Z Z (y1z S40 Z Z Z) fun a41 S41 => y00 S41 Z Z Z (y02 S41 Z Z) fun a42 S42 => y00 S42 Z Z Z (y02 S42 Z Z) fun a43 S43 => wpList_nil (hK _ _ ?_)
  replace hS : Sl 43 _ [(8, .slice A34 r32.2.1.length cap35), (9, i6 r32.2.2)] := S43.re ⟨Z, Z, trivial⟩
  clear hK K
  try clear S29 S30 S31 S38 S40 S41 S42 S43
  generalize a43 = a at hS ⊢
  refine wp_ret ?_
  have e := Option.some.inj H
  subst e
  have F44 := Fr.y2f w39 g39 (N + 2) r0
  replace h36 := h36.y2f r0
  replace hb0 := hb0.fr F44 (fun (hm : c0 = N + 2 ∨ c0 = N + 2 + 1) => by omega)
  replace y04 := OwS.fr y04 F44 (fun c' hc (hm : c' = N + 2 ∨ c' = N + 2 + 1) => by omega)
  replace y0j := OwS.fr y0j F44 (fun c' hc (hm : c' = N + 2 ∨ c' = N + 2 + 1) => by omega)
  replace y0i := OwS.fr y0i F44 (fun c' hc (hm : c' = N + 2 ∨ c' = N + 2 + 1) => by omega)
  replace hF := hF.trans F44 (fun c' (hm : c' = N + 2 ∨ c' = N + 2 + 1) => by (try dsimp only); omega)
  repeat (with_reducible first | refine y1i ?_ | refine y0o ?_)
  exact y4d hS Try.results26 Z rfl ⟨_, rfl, (y2f g39 (N + 2) r0), A34, cap35, rfl, ⟨hb0, y04, y0j, y0i⟩, h36, hF⟩
 ·replace H := y3g hb28 H
  refine y16 [(0, .pointer (so b_p0)), (10, i6 r11.1), (11, .int .u64 r11.2), (30, .bool (r22 == 3))] (fun R hR => y00 hS Z Z Z (y2l hS Z Z rfl b_eql) fun a45 S45 => y00 S45 Z Z Z (y02 S45 Z Z) fun a46 S46 => wpList_nil (hR _ (S46.re ⟨Z, Z, Z, Z, trivial⟩))) ?_
  clear hS a; intro a hS
  refine y2m hS Z (fun hb47 => ?_) (fun hb47 => ?_)
  ·replace H := y3f hb47 H
   obtain ⟨r50, hr51, H⟩ := y0b H
   refine y0t (fun K hK => ?_)
   refine y00 hS Z Z Z (y03 hS Z Z) fun a48 S48 => y00 S48 Z Z Z (y03 S48 Z Z) fun a49 S49 => ?_
   refine y1y S49 Z Z Z (y2z S49 Z Z (by kernel_rfl)) (y2n.calls (c0 := c0) (b_p0 := b_p0) (y09 := y09) (y07 := y07) (y0v := y0v) (y0l := y0l) (y0q := y0q) (y0h := y0h) (p0 := p0) (p1 := r11.2) (g := g25) (N + 8) (N + 4) ⟨hb0, y04, y0j, y0i⟩ (by omega) (by omega) (by omega) hr51) ?_
   rintro _ a56 w57 ⟨g57, A52, cap53, rfl, ⟨hb0, y04, y0j, y0i⟩, h54, F57⟩ S56
   replace hF := hF.trans F57 (fun c' (hm : (c0 ≤ c' ∧ c' < c0 + 7) ∨ (N + 4 ≤ c' ∧ c' < N + 4 + 2) ∨ N + 8 ≤ c') => by (try dsimp only); omega)
   refine y00 S56 Z Z Z (y1z S56 Z Z Z) fun a58 S58 => y00 S58 Z Z Z (y1z S58 Z Z Z) fun a59 S59 => y00 S59 Z Z Z (y02 S59 Z Z) fun a60 S60 => y00 S60 Z Z Z (y02 S60 Z Z) fun a61 S61 => wpList_nil (hK _ _ ?_)
   replace hS : Sl 43 _ [(8, .slice A52 r50.2.1.length cap53), (9, i6 r50.2.2)] := S61.re ⟨Z, Z, trivial⟩
   clear hK K
   try clear S48 S49 S56 S58 S59 S60 S61
   generalize a61 = a at hS ⊢
   refine wp_ret ?_
   have e := Option.some.inj H
   subst e
   have F62 := Fr.y2f w57 g57 (N + 4) r0
   replace h54 := h54.y2f r0
   replace hb0 := hb0.fr F62 (fun (hm : c0 = N + 4 ∨ c0 = N + 4 + 1) => by omega)
   replace y04 := OwS.fr y04 F62 (fun c' hc (hm : c' = N + 4 ∨ c' = N + 4 + 1) => by omega)
   replace y0j := OwS.fr y0j F62 (fun c' hc (hm : c' = N + 4 ∨ c' = N + 4 + 1) => by omega)
   replace y0i := OwS.fr y0i F62 (fun c' hc (hm : c' = N + 4 ∨ c' = N + 4 + 1) => by omega)
   replace hF := hF.trans F62 (fun c' (hm : c' = N + 4 ∨ c' = N + 4 + 1) => by (try dsimp only); omega)
   repeat (with_reducible first | refine y1i ?_ | refine y0o ?_)
   exact y4d hS Try.results26 Z rfl ⟨_, rfl, (y2f g57 (N + 4) r0), A52, cap53, rfl, ⟨hb0, y04, y0j, y0i⟩, h54, hF⟩
  ·replace H := y3g hb47 H
   refine wp_skip ?_
   change Code.wp _ _ _ _ _
   obtain ⟨r66, hr67, H⟩ := y0b H
   refine y0t (fun K hK => ?_)
   refine y00 hS Z Z Z (y03 hS Z Z) fun a63 S63 => y00 S63 Z Z Z (y03 S63 Z Z) fun a64 S64 => y00 S64 Z Z Z (y03 S64 Z Z) fun a65 S65 => ?_
   refine y1y S65 Z Z Z (y2z S65 Z Z (by kernel_rfl)) (y1u.calls (c0 := c0) (b_p0 := b_p0) (y09 := y09) (y07 := y07) (y0v := y0v) (y0l := y0l) (y0q := y0q) (y0h := y0h) (p0 := p0) (p1 := r11.1) (p2 := r11.2) (g := g25) (N + 8) (N + 6) ⟨hb0, y04, y0j, y0i⟩ (by omega) (by omega) (by omega) hr67) ?_
   rintro _ a72 w73 ⟨g73, A68, cap69, rfl, ⟨hb0, y04, y0j, y0i⟩, h70, F73⟩ S72
   replace hF := hF.trans F73 (fun c' (hm : (c0 ≤ c' ∧ c' < c0 + 7) ∨ (N + 6 ≤ c' ∧ c' < N + 6 + 2) ∨ N + 8 ≤ c') => by (try dsimp only); omega)
   refine y00 S72 Z Z Z (y1z S72 Z Z Z) fun a74 S74 => y00 S74 Z Z Z (y1z S74 Z Z Z) fun a75 S75 => y00 S75 Z Z Z (y02 S75 Z Z) fun a76 S76 => y00 S76 Z Z Z (y02 S76 Z Z) fun a77 S77 => wpList_nil (hK _ _ ?_)
   replace hS : Sl 43 _ [(8, .slice A68 r66.2.1.length cap69), (9, i6 r66.2.2)] := S77.re ⟨Z, Z, trivial⟩
   clear hK K
   try clear S63 S64 S65 S72 S74 S75 S76 S77
   generalize a77 = a at hS ⊢
   refine wp_ret ?_
   have e := Option.some.inj H
   subst e
   have F78 := Fr.y2f w73 g73 (N + 6) r0
   replace h70 := h70.y2f r0
   replace hb0 := hb0.fr F78 (fun (hm : c0 = N + 6 ∨ c0 = N + 6 + 1) => by omega)
   replace y04 := OwS.fr y04 F78 (fun c' hc (hm : c' = N + 6 ∨ c' = N + 6 + 1) => by omega)
   replace y0j := OwS.fr y0j F78 (fun c' hc (hm : c' = N + 6 ∨ c' = N + 6 + 1) => by omega)
   replace y0i := OwS.fr y0i F78 (fun c' hc (hm : c' = N + 6 ∨ c' = N + 6 + 1) => by omega)
   replace hF := hF.trans F78 (fun c' (hm : c' = N + 6 ∨ c' = N + 6 + 1) => by (try dsimp only); omega)
   repeat (with_reducible first | refine y1i ?_ | refine y0o ?_)
   exact y4d hS Try.results26 Z rfl ⟨_, rfl, (y2f g73 (N + 6) r0), A68, cap69, rfl, ⟨hb0, y04, y0j, y0i⟩, h70, hF⟩


end Go.Proofs.Ytcfcffbjdjacfaa.Sim

namespace Go.Proofs.Ytcfcffbjdjacfaa.Sim
open Go
set_option linter.unusedVariables false
set_option linter.unusedSimpArgs false

/-! ### y3o: function 15 -/
def y3o.l0 (p0 : List y08) : Nat → Int → Option (Fl (Bool) (Unit))
 | 0, _ => none
 | k25 + 1, m0_0 => if decide (m0_0 < (p0.length : Int)) = true then ((idx p0 m0_0).bind fun x33 => if decide (20 < (x33.Suppliers.length : Int)) = true then (some (.out true)) else (y3o.l0 p0 k25 (wi (m0_0 + 1)))) else (some (.nxt ()))
def y3o.f (p0 : List y08) (p1 : List y3t) : Option (Bool) := if ((decide (20 < (p0.length : Int))) || (decide (40 < (p1.length : Int)))) = true then (some true) else ((y3o.l0 p0 FUEL 0 : Option (Fl (Bool) (Unit))).bind fun o22 => o22.go fun _ => some false)
set_option maxRecDepth 100000 in
set_option maxHeartbeats 4000000 in
theorem y3o.calls {p0 : List y08} {A0 : Option Addr} {cap0 : Nat} {C0 : Nat → Prop} {p1 : List y3t} {A1 : Option Addr} {cap1 : Nat} {C1 : Nat → Prop} {w : World} {g : Nat → Nat} {out : Bool} (N : Nat) (hp0 : RdS y0f w g C0 A0 cap0 p0) (hC0 : ∀ c, C0 c → c < N) (hp1 : RdS kd_law28_Call w g C1 A1 cap1 p1) (hC1 : ∀ c, C1 c → c < N) (H : y3o.f p0 p1 = some out) :
  Calls Try.prog 15 #[.slice A0 p0.length cap0, .slice A1 p1.length cap1] w (fun e w' => ∃ v, e = .returned v ∧ ∃ (g' : Nat → Nat), v = .bool out ∧ Fr (fun q => N ≤ q) w g w' g') := by
 unfold y3o.f at H
 refine y1k Try.func15 rfl Try.ntmps15 Z (fun a hS => ?_)
 replace hS : Sl 27 a [(0, .slice A0 p0.length cap0), (1, .slice A1 p1.length cap1)] := hS
 have hF : Fr (fun q => N ≤ q) w g w g := Fr.refl _ _ _
 refine y16 [(0, .slice A0 p0.length cap0), (1, .slice A1 p1.length cap1)] (fun R hR => y00 hS Z Z Z (y02 hS Z Z) fun a1 S1 => wpList_nil (hR _ (S1.re ⟨Z, Z, trivial⟩))) ?_
 clear hS a; intro a hS
 refine wp_seq ?_
 refine y0t (fun K hK => ?_)
 refine y00 hS Z Z Z (y03 hS Z Z) fun a2 S2 => y00 S2 Z Z Z (y4x (e := 30) (sz := 3) (by_ := 40) S2 Z Z (by kernel_rfl)) fun a3 S3 => y00 S3 Z Z Z (y2l S3 Z Z rfl b_gtr) fun a4 S4 => y00 S4 Z Z Z (y03 S4 Z Z) fun a5 S5 => ?_
 refine y4b (N := 27) 4 [(0, .slice A0 p0.length cap0), (13, .bool ((decide (20 < (p0.length : Int))) || (decide (40 < (p1.length : Int)))))] ?_ (fun hk => ?_)
 rotate_left
 ·rcases Bool.eq_false_or_eq_true (decide (20 < (p0.length : Int))) with hb6 | hb6
  ·refine y1c S5 (y05 S5 Z Z rfl hb6) Z Z fun a10 S10 => y1c S10 (y05 S10 Z Z rfl hb6) Z Z fun a11 S11 => y1c S11 (y05 S11 Z Z rfl hb6) Z Z fun a12 S12 => y00 S12 Z Z Z (y2s S12 Z Z rfl hb6) fun a13 S13 => hk _ (S13.re ⟨rfl, (by rw [hb6]; rfl), trivial⟩)
  ·refine y0p S5 (y0a S5 Z Z rfl hb6) Z Z (y03 S5 Z Z) fun a14 S14 => y0p S14 (y0a S14 Z Z rfl hb6) Z Z (y4x (e := 54) (sz := 4) (by_ := 32) S14 Z Z (by kernel_rfl)) fun a15 S15 => y0p S15 (y0a S15 Z Z rfl hb6) Z Z (y2l S15 Z Z rfl b_gtr) fun a16 S16 => y00 S16 Z Z Z (y2t S16 Z Z rfl hb6) fun a17 S17 => hk _ (S17.re ⟨rfl, (by rw [hb6]; rfl), trivial⟩)
 intro a18 S18
 refine wpList_nil (hK _ _ ?_)
 replace hS : Sl 27 _ [(0, .slice A0 p0.length cap0), (13, .bool ((decide (20 < (p0.length : Int))) || (decide (40 < (p1.length : Int)))))] := S18.re ⟨Z, Z, trivial⟩
 clear hK K
 try clear S2 S3 S4 S5 S18
 generalize a18 = a at hS ⊢
 refine y2m hS Z (fun hb19 => ?_) (fun hb19 => ?_)
 ·replace H := y3f hb19 H
  refine y16 [(4, .bool true)] (fun R hR => y00 hS Z Z Z (y02 hS Z Z) fun a20 S20 => wpList_nil (hR _ (S20.re ⟨Z, trivial⟩))) ?_
  clear hS a; intro a hS
  refine wp_ret ?_
  have e := Option.some.inj H
  subst e
  repeat (with_reducible first | refine y1i ?_ | refine y0o ?_)
  exact y3v hS Try.results15 rfl ⟨_, rfl, g, rfl, hF⟩
 ·replace H := y3g hb19 H
  refine wp_skip ?_
  change Code.wp _ _ _ _ _
  obtain ⟨o22, H, Hl23⟩ := y0b H
  refine y4u (fun a w' => o22 = .nxt () ∧ w = w' ∧ Sl 27 a []) ?_ ?_
  ·refine y16 [(0, .slice A0 p0.length cap0), (5, i6 0)] (fun R hR => y00 hS Z Z Z (y02 hS Z Z) fun a24 S24 => wpList_nil (hR _ (S24.re ⟨Z, Z, trivial⟩))) ?_
   clear hS a; intro a hS
   refine wp_block ?_
   refine wp_loop_ghost (fun kq => fun a w' => ∃ (m0_0 : Int), y3o.l0 p0 kq m0_0 = some o22 ∧ w = w' ∧ Sl 27 a [(0, .slice A0 p0.length cap0), (5, i6 m0_0)]) FUEL ?_ ?_
   ·exact ⟨0, H, rfl, hS.re ⟨Z, Z, trivial⟩⟩
   ·clear H
    clear hS
    rintro k25 a w' ⟨m0_0, hpre0, hw, hS⟩
    subst hw
    have H := hpre0
    clear hpre0
    cases k25 with
    | zero => exact absurd H (by simp [y3o.l0])
    | succ k25 =>
     rw [y3o.l0] at H
     refine wp_seq ?_
     refine y16 [(0, .slice A0 p0.length cap0), (5, i6 m0_0), (17, .bool (decide (m0_0 < (p0.length : Int))))] (fun R hR => y00 hS Z Z Z (y03 hS Z Z) fun a26 S26 => y00 S26 Z Z Z (y03 S26 Z Z) fun a27 S27 => y00 S27 Z Z Z (y4x (e := 30) (sz := 3) (by_ := 40) S27 Z Z (by kernel_rfl)) fun a28 S28 => y00 S28 Z Z Z (y2l S28 Z Z rfl y4t) fun a29 S29 => wpList_nil (hR _ (S29.re ⟨Z, Z, Z, trivial⟩))) ?_
     clear hS a; intro a hS
     refine y2m hS Z (fun hb30 => ?_) (fun hb30 => ?_)
     ·replace H := y3f hb30 H
      refine wp_skip ?_
      change Code.wp _ _ _ _ _
      refine wp_seq ?_
      refine wp_block ?_
      obtain ⟨x33, hx34, H⟩ := y0b H
      refine y0t (fun K hK => ?_)
      refine y00 hS Z Z Z (y03 hS Z Z) fun a31 S31 => y00 S31 Z Z Z (y03 S31 Z Z) fun a32 S32 => ?_
      obtain ⟨_, ⟨A36, cap37, rfl, h38⟩, hel35⟩ := El.of hp0 hx34 (by decide)
      replace hel35 : El w g C0 A0 (m0_0.toNat * 3) [i6 x33.Parent, .slice A36 x33.Suppliers.length cap37, .int .u64 x33.Delay] := hel35
      refine y00 S32 Z Z Z (y1j (e := 30) (sz := 3) (by_ := 40) S32 Z Z Z (by kernel_rfl) (RdS.some_ hp0 hx34) (y26 hx34) (y27 hx34)) fun a41 S41 => y00 S41 Z Z Z (y2w (off := 1) S41 Z Z (by kernel_rfl)) fun a42 S42 => y00 S42 Z Z Z (y0u (n := 1) S42 Z Z (by kernel_rfl) (El.cell (j := 1) hel35 Z)) fun a43 S43 => y00 S43 Z Z Z (y4x (e := 3) (sz := 1) (by_ := 8) S43 Z Z (by kernel_rfl)) fun a44 S44 => y00 S44 Z Z Z (y2l S44 Z Z rfl b_gtr) fun a45 S45 => wpList_nil (hK _ _ ?_)
      replace hS : Sl 27 _ [(0, .slice A0 p0.length cap0), (5, i6 m0_0), (26, .bool (decide (20 < (x33.Suppliers.length : Int))))] := S45.re ⟨Z, Z, Z, trivial⟩
      clear hK K
      try clear S31 S32 S41 S42 S43 S44 S45
      generalize a45 = a at hS ⊢
      refine y2m hS Z (fun hb46 => ?_) (fun hb46 => ?_)
      ·replace H := y3f hb46 H
       refine y16 [(4, .bool true)] (fun R hR => y00 hS Z Z Z (y02 hS Z Z) fun a47 S47 => wpList_nil (hR _ (S47.re ⟨Z, trivial⟩))) ?_
       clear hS a; intro a hS
       refine wp_ret ?_
       have e := Option.some.inj H
       subst e
       replace H := Fl.go_out Hl23
       have e := Option.some.inj H
       subst e
       repeat (with_reducible first | refine y1i ?_ | refine y0o ?_)
       exact y3v hS Try.results15 rfl ⟨_, rfl, g, rfl, hF⟩
      ·replace H := y3g hb46 H
       refine wp_skip ?_
       change Code.wp _ _ _ _ _
       refine y3e [(0, .slice A0 p0.length cap0), (5, i6 (wi (m0_0 + 1)))] (fun R hR => y00 hS Z Z Z (y03 hS Z Z) fun a48 S48 => y00 S48 Z Z Z (y2l S48 Z Z rfl y4z) fun a49 S49 => y00 S49 Z Z Z (y02 S49 Z Z) fun a50 S50 => wpList_nil (hR _ (S50.re ⟨Z, Z, trivial⟩))) ?_
       clear hS a; intro a hS
       refine ⟨k25, Nat.lt_succ_self _, ?_⟩
       exact ⟨wi (m0_0 + 1), H, rfl, hS.re ⟨Z, Z, trivial⟩⟩
     ·replace H := y3g hb30 H
      refine wp_exit ?_
      have e := Option.some.inj H
      exact ⟨e.symm, rfl, hS.re trivial⟩
  ·clear H
   clear hS
   rintro a w' ⟨hpre0, hw, hS⟩
   subst hpre0
   subst hw
   have H := Fl.go_nxt Hl23
   clear Hl23
   refine y16 [(4, .bool false)] (fun R hR => y00 hS Z Z Z (y02 hS Z Z) fun a51 S51 => wpList_nil (hR _ (S51.re ⟨Z, trivial⟩))) ?_
   clear hS a; intro a hS
   refine wp_ret ?_
   have e := Option.some.inj H
   subst e
   repeat (with_reducible first | refine y1i ?_ | refine y0o ?_)
   exact y3v hS Try.results15 rfl ⟨_, rfl, g, rfl, hF⟩


end Go.Proofs.Ytcfcffbjdjacfaa.Sim

namespace Go.Proofs.Ytcfcffbjdjacfaa.Sim
open Go
set_option linter.unusedVariables false
set_option linter.unusedSimpArgs false

/-! ### y1t: function 17 -/
def y1t.l2 (m1_0 : y08) (r194 : Int) : Nat → Bool → Int → Option (Bool)
 | 0, _, _ => none
 | k208 + 1, m2_0, m2_1 => if decide (m2_1 < (m1_0.Suppliers.length : Int)) = true then ((if m2_0 = true then (idx m1_0.Suppliers m2_1).bind fun x221 => some (x221 != r194) else some false).bind fun t227 => y1t.l2 m1_0 r194 k208 t227 (wi (m2_1 + 1))) else (some m2_0)
def y1t.l1 (m0_1 : Int) (x31 : y08) : Nat → y08 → Int → Option (y08)
 | 0, _, _ => none
 | k143 + 1, m1_0, m1_1 => if ((decide (m1_1 < (x31.Suppliers.length : Int))) && (decide (0 < m0_1))) = true then (((idx x31.Suppliers m1_1).bind fun x189 => (y4r.f x189 m0_1).bind fun r194 => (y1t.l2 m1_0 r194 FUEL (r194 != m1_0.Parent) 0 : Option (Bool)).bind fun v204 => if v204 = true then ((app m1_0.Suppliers [r194]).bind fun y264 => some (y08.mk m1_0.Parent y264 m1_0.Delay)) else (some m1_0) : Option (y08)).bind fun v174 => y1t.l1 m0_1 x31 k143 v174 (wi (m1_1 + 1))) else (some m1_0)
def y1t.l0 (p0 : List y08) : Nat → (List y08) → Int → Option ((List y08))
 | 0, _, _ => none
 | k19 + 1, m0_0, m0_1 => if decide (m0_1 < (min (p0.length : Int) 8)) = true then (((idx p0 m0_1).bind fun x31 => (y4r.f x31.Parent (wi (m0_1 + 1))).bind fun r39 => (y1t.l1 m0_1 x31 FUEL (y08.mk (wi (r39 - 1)) ([] : List Int) (Int.tmod x31.Delay 12)) 0 : Option (y08)).bind fun v135 => (app m0_0 [v135]).bind fun y286 => some y286 : Option ((List y08))).bind fun v28 => y1t.l0 p0 k19 v28 (wi (m0_1 + 1))) else (some m0_0)
def y1t.l4 (p0 : List y08) (x332 : y08) : Nat → y08 → Int → Option (y08)
 | 0, _, _ => none
 | k397 + 1, m4_0, m4_1 => if decide (m4_1 < (x332.Suppliers.length : Int)) = true then ((idx x332.Suppliers m4_1).bind fun x419 => (app m4_0.Suppliers [wi ((wi ((min (p0.length : Int) 8) - 1)) - x419)]).bind fun y424 => y1t.l4 p0 x332 k397 (y08.mk m4_0.Parent y424 m4_0.Delay) (wi (m4_1 + 1))) else (some m4_0)
def y1t.l3 (p0 : List y08) (v11 : (List y08)) : Nat → (List y08) → Int → Option ((List y08))
 | 0, _, _ => none
 | k321 + 1, m3_0, m3_1 => if decide (m3_1 < (min (p0.length : Int) 8)) = true then (((idx v11 m3_1).bind fun x332 => (if decide (0 ≤ x332.Parent) = true then (some (y08.mk (wi ((wi ((min (p0.length : Int) 8) - 1)) - x332.Parent)) ([] : List Int) x332.Delay)) else (some (y08.mk (-1) ([] : List Int) x332.Delay)) : Option (y08)).bind fun v352 => (y1t.l4 p0 x332 FUEL (y08.mk v352.Parent ([] : List Int) v352.Delay) 0 : Option (y08)).bind fun v389 => (idx m3_0 (wi ((wi ((min (p0.length : Int) 8) - 1)) - m3_1))).bind fun x473 => some (upd m3_0 (wi ((wi ((min (p0.length : Int) 8) - 1)) - m3_1)) v389) : Option ((List y08))).bind fun v327 => y1t.l3 p0 v11 k321 v327 (wi (m3_1 + 1))) else (some m3_0)
def y1t.f (p0 : List y08) : Option ((List y08)) := (y1t.l0 p0 FUEL [] 0 : Option ((List y08))).bind fun v11 => if ((Int.tmod (min (p0.length : Int) 8) 2) == 0) = true then (some v11) else ((mk (min (p0.length : Int) 8) (y08.mk 0 ([] : List Int) 0)).bind fun y306 => (y1t.l3 p0 v11 FUEL y306 0 : Option ((List y08))).bind fun v316 => some v316)
set_option maxRecDepth 100000 in
set_option maxHeartbeats 4000000 in
theorem y1t.calls {p0 : List y08} {A0 : Option Addr} {cap0 : Nat} {C0 : Nat → Prop} {w : World} {g : Nat → Nat} {out : (List y08)} (N : Nat) (r0 : Nat) (hp0 : RdS y0f w g C0 A0 cap0 p0) (hC0 : ∀ c, C0 c → c < N) (hr0 : r0 + 2 ≤ N) (H : y1t.f p0 = some out) :
  Calls Try.prog 17 #[.slice A0 p0.length cap0] w (fun e w' => ∃ v, e = .returned v ∧ ∃ (g' : Nat → Nat) (A_r0 : Option Addr) (cap_r0 : Nat), v = .slice A_r0 out.length cap_r0 ∧ OwS y0f 30 w' g' r0 A_r0 cap_r0 out ∧ Fr (fun q => (r0 ≤ q ∧ q < r0 + 2) ∨ N ≤ q) w g w' g') := by
 unfold y1t.f at H
 refine y1k Try.func17 rfl Try.ntmps17 Z (fun a hS => ?_)
 replace hS : Sl 161 a [(0, .slice A0 p0.length cap0)] := hS
 have hF : Fr (fun q => (r0 ≤ q ∧ q < r0 + 2) ∨ N ≤ q) w g w g := Fr.refl _ _ _
 refine y16 [(0, .slice A0 p0.length cap0)] (fun R hR => y00 hS Z Z Z (y02 hS Z Z) fun a1 S1 => wpList_nil (hR _ (S1.re ⟨Z, trivial⟩))) ?_
 clear hS a; intro a hS
 refine y16 [(0, .slice A0 p0.length cap0), (3, .slice none 0 0)] (fun R hR => y00 hS Z Z Z (y02 hS Z Z) fun a2 S2 => wpList_nil (hR _ (S2.re ⟨Z, Z, trivial⟩))) ?_
 clear hS a; intro a hS
 refine y16 [(0, .slice A0 p0.length cap0), (3, .slice none 0 0), (4, i6 (min (p0.length : Int) 8))] (fun R hR => y00 hS Z Z Z (y03 hS Z Z) fun a3 S3 => y00 S3 Z Z Z (y4x (e := 30) (sz := 3) (by_ := 40) S3 Z Z (by kernel_rfl)) fun a4 S4 => y00 S4 Z Z Z (r_min S4 Z Z Z) fun a5 S5 => y00 S5 Z Z Z (y02 S5 Z Z) fun a6 S6 => wpList_nil (hR _ (S6.re ⟨Z, Z, Z, trivial⟩))) ?_
 clear hS a; intro a hS
 obtain ⟨v11, H, Hl13⟩ := y0b H
 refine y4u (fun a w7 => ∃ (g7 : Nat → Nat), ∃ (A8 : Option Addr), ∃ (cap9 : Nat), Sl 161 a [(3, .slice A8 v11.length cap9), (4, i6 (min (p0.length : Int) 8))] ∧ OwS y0f 30 w7 g7 (N + 10) A8 cap9 v11 ∧ Fr (fun q => (r0 ≤ q ∧ q < r0 + 2) ∨ N ≤ q) w g w7 g7) ?_ ?_
 ·refine y16 [(0, .slice A0 p0.length cap0), (3, .slice none 0 0), (4, i6 (min (p0.length : Int) 8)), (5, i6 0)] (fun R hR => y00 hS Z Z Z (y02 hS Z Z) fun a14 S14 => wpList_nil (hR _ (S14.re ⟨Z, Z, Z, Z, trivial⟩))) ?_
  clear hS a; intro a hS
  refine wp_block ?_
  refine wp_loop_ghost (fun kq => fun a w15 => ∃ (m0_0 : List y08), ∃ (m0_1 : Int), ∃ (g15 : Nat → Nat), ∃ (A16 : Option Addr), ∃ (cap17 : Nat), y1t.l0 p0 kq m0_0 m0_1 = some v11 ∧ Sl 161 a [(0, .slice A0 p0.length cap0), (3, .slice A16 m0_0.length cap17), (4, i6 (min (p0.length : Int) 8)), (5, i6 m0_1)] ∧ OwS y0f 30 w15 g15 (N + 10) A16 cap17 m0_0 ∧ RdS y0f w15 g15 C0 A0 cap0 p0 ∧ Fr (fun q => (r0 ≤ q ∧ q < r0 + 2) ∨ N ≤ q) w g w15 g15) FUEL ?_ ?_
  ·exact ⟨[], 0, g, none, 0, H, hS.re ⟨Z, Z, Z, Z, trivial⟩, OwS.nil y0f 30 w g (N + 10), hp0, hF⟩
  ·clear H
   clear hp0 hF
   clear hS
   rintro k19 a w15 ⟨m0_0, m0_1, g15, A16, cap17, hpre0, hS, h18, hp0, hF⟩
   have H := hpre0
   clear hpre0
   cases k19 with
   | zero => exact absurd H (by simp [y1t.l0])
   | succ k19 =>
    rw [y1t.l0] at H
    refine wp_seq ?_
    refine y16 [(0, .slice A0 p0.length cap0), (3, .slice A16 m0_0.length cap17), (4, i6 (min (p0.length : Int) 8)), (5, i6 m0_1), (20, .bool (decide (m0_1 < (min (p0.length : Int) 8))))] (fun R hR => y00 hS Z Z Z (y03 hS Z Z) fun a20 S20 => y00 S20 Z Z Z (y03 S20 Z Z) fun a21 S21 => y00 S21 Z Z Z (y2l S21 Z Z rfl y4t) fun a22 S22 => wpList_nil (hR _ (S22.re ⟨Z, Z, Z, Z, Z, trivial⟩))) ?_
    clear hS a; intro a hS
    refine y2m hS Z (fun hb23 => ?_) (fun hb23 => ?_)
    ·replace H := y3f hb23 H
     refine wp_skip ?_
     change Code.wp _ _ _ _ _
     obtain ⟨v28, H, Hl30⟩ := y0b H
     refine y4u (fun a w24 => ∃ (g24 : Nat → Nat), ∃ (A25 : Option Addr), ∃ (cap26 : Nat), Sl 161 a [(0, .slice A0 p0.length cap0), (3, .slice A25 v28.length cap26), (4, i6 (min (p0.length : Int) 8)), (5, i6 m0_1)] ∧ OwS y0f 30 w24 g24 (N + 10) A25 cap26 v28 ∧ RdS y0f w24 g24 C0 A0 cap0 p0 ∧ Fr (fun q => (r0 ≤ q ∧ q < r0 + 2) ∨ N ≤ q) w g w24 g24) ?_ ?_
     ·refine wp_block ?_
      obtain ⟨x31, hx32, H⟩ := y0b H
      obtain ⟨r39, hr40, H⟩ := y0b H
      refine y4u (fun a w86 => ∃ (g86 : Nat → Nat), ∃ (b87 : Nat), Sl 161 a [(0, .slice A0 p0.length cap0), (3, .slice A16 m0_0.length cap17), (4, i6 (min (p0.length : Int) 8)), (5, i6 m0_1), (6, .pointer (so b87))] ∧ OwS y0f 30 w86 g86 (N + 10) A16 cap17 m0_0 ∧ Bx w86 g86 (N + 0) b87 30 [i6 (wi (r39 - 1)), .slice none 0 0, .int .u64 (Int.tmod x31.Delay 12)] ∧ RdS y0f w86 g86 C0 A0 cap0 p0 ∧ Fr (fun q => (r0 ≤ q ∧ q < r0 + 2) ∨ N ≤ q) w g w86 g86) (y4m (fun q => N + 20 ≤ q) g15 [17] 18 (ba 0 18) (by kernel_rfl) Z Z (fun w89 hw89 => ?_)) ?_
      ·have F89 : Fr (fun _ => False) w15 g15 w89 g15 := by rw [hw89]; exact Fr.drew _ _ _
       replace h18 := OwS.fr h18 F89 (fun _ _ h => h)
       replace hp0 := RdS.fr hp0 F89 (by decide) (fun _ _ h => h)
       replace hF := hF.trans F89 (fun _ h => h.elim)
       have hC : Fr (fun q => N + 20 ≤ q) w89 g15 w89 g15 := Fr.refl _ _ _
       refine y1b hS 0 (ba 1 17) Z Z Z Z (by kernel_rfl) (fun _ _ _ h => h) (fun _ => (y03 hS Z Z)) fun a90 S90 => y1b S90 1 (ba 2 16) Z Z Z Z (by kernel_rfl) (fun _ _ _ h => h) (fun _ => (y03 S90 Z Z)) fun a91 S91 => ?_
       obtain ⟨_, ⟨A93, cap94, rfl, h95⟩, hel92⟩ := El.of hp0 hx32 (by decide)
       replace hel92 : El w89 g15 C0 A0 (m0_1.toNat * 3) [i6 x31.Parent, .slice A93 x31.Suppliers.length cap94, .int .u64 x31.Delay] := hel92
       refine y1b S91 2 (ba 3 15) Z Z Z Z (by kernel_rfl) (fun _ _ _ h => h) (fun _ => (y1j (e := 30) (sz := 3) (by_ := 40) S91 Z Z Z (by kernel_rfl) (RdS.some_ hp0 hx32) (y26 hx32) (y27 hx32))) fun a98 S98 => y1b S98 3 (ba 4 14) Z Z Z Z (by kernel_rfl) (fun _ _ _ h => h) (fun _ => (y2w (off := 0) S98 Z Z (by kernel_rfl))) fun a99 S99 => y3w S99 4 (ba 5 13) Z Z Z Z (by kernel_rfl) (fun _ _ _ h => h) ⟨_, hC⟩ (fun w' g' Fz => (y0u (n := 1) S99 Z Z (by kernel_rfl) (El.cell (j := 0) (hel92.fr Fz (fun q (hq : C0 q) (hm : N + 20 ≤ q) => by have := hC0 q hq; omega)) Z))) fun a100 S100 => y1b S100 5 (ba 6 12) Z Z Z Z (by kernel_rfl) (fun _ _ _ h => h) (fun _ => (y03 S100 Z Z)) fun a101 S101 => y1b S101 6 (ba 7 11) Z Z Z Z (by kernel_rfl) (fun _ _ _ h => h) (fun _ => (y2l S101 Z Z rfl y4z)) fun a102 S102 => y1b S102 9 #[tt_, tt_, tt_, tt_, tt_, tt_, tt_, ff_, ff_, tt_, ff_, ff_, ff_, ff_, ff_, ff_, ff_, ff_] Z Z Z Z (by kernel_rfl) (fun _ _ _ h => h) (fun _ => (y03 S102 Z Z)) fun a103 S103 => y1b S103 10 #[tt_, tt_, tt_, tt_, tt_, tt_, tt_, ff_, ff_, tt_, tt_, ff_, ff_, ff_, ff_, ff_, ff_, ff_] Z Z Z Z (by kernel_rfl) (fun _ _ _ h => h) (fun _ => (y03 S103 Z Z)) fun a104 S104 => y1b S104 11 #[tt_, tt_, tt_, tt_, tt_, tt_, tt_, ff_, ff_, tt_, tt_, tt_, ff_, ff_, ff_, ff_, ff_, ff_] Z Z Z Z (by kernel_rfl) (fun _ _ _ h => h) (fun _ => (y1j (e := 30) (sz := 3) (by_ := 40) S104 Z Z Z (by kernel_rfl) (RdS.some_ hp0 hx32) (y26 hx32) (y27 hx32))) fun a105 S105 => y1b S105 12 #[tt_, tt_, tt_, tt_, tt_, tt_, tt_, ff_, ff_, tt_, tt_, tt_, tt_, ff_, ff_, ff_, ff_, ff_] Z Z Z Z (by kernel_rfl) (fun _ _ _ h => h) (fun _ => (y2w (off := 2) S105 Z Z (by kernel_rfl))) fun a106 S106 => y3w S106 13 #[tt_, tt_, tt_, tt_, tt_, tt_, tt_, ff_, ff_, tt_, tt_, tt_, tt_, tt_, ff_, ff_, ff_, ff_] Z Z Z Z (by kernel_rfl) (fun _ _ _ h => h) ⟨_, hC⟩ (fun w' g' Fz => (y0u (n := 1) S106 Z Z (by kernel_rfl) (El.cell (j := 2) (hel92.fr Fz (fun q (hq : C0 q) (hm : N + 20 ≤ q) => by have := hC0 q hq; omega)) Z))) fun a107 S107 => y1b S107 14 #[tt_, tt_, tt_, tt_, tt_, tt_, tt_, ff_, ff_, tt_, tt_, tt_, tt_, tt_, tt_, ff_, ff_, ff_] Z Z Z Z (by kernel_rfl) (fun _ _ _ h => h) (fun _ => (y2l S107 Z Z Z (b_rem (by decide)))) fun a108 S108 => ?_
       refine d_two 7 16 #[tt_, tt_, tt_, tt_, tt_, tt_, tt_, tt_, ff_, tt_, tt_, tt_, tt_, tt_, tt_, ff_, ff_, ff_] #[tt_, tt_, tt_, tt_, tt_, tt_, tt_, ff_, ff_, tt_, tt_, tt_, tt_, tt_, tt_, ff_, tt_, ff_] Z Z (by kernel_rfl) (arm_call S108 Z Z Z (y2z S108 Z Z (by kernel_rfl)) (y4r.calls (p0 := x31.Parent) (p1 := (wi (m0_1 + 1))) (g := g15) (N + 20)   hr40) (fun _ _ ⟨g', _, Fz⟩ _ => ⟨g', hC.trans Fz (fun c' (hm : N + 20 ≤ c') => by (try dsimp only); omega)⟩) ?_) (y43 S108 Z Z Z (e_alloc (cs := [i6 0, .slice none 0 0, .int .u64 0]) (N + 0) g15 S108 Z (by kernel_rfl)) (fun _ _ g' hR _ => ⟨g', hC.trans hR.2 (fun _ h => h.elim)⟩) ?_)
       ·rintro _ a109 w110 ⟨g110, rfl, F110⟩ S109
        have hC110 := hC.trans F110 (fun c' (hm : N + 20 ≤ c') => by (try dsimp only); omega)
        replace h95 := RdS.fr h95 F110 (by decide) (fun q (hq : C0 q) (hm : N + 20 ≤ q) => by have := hC0 q hq; omega)
        replace hel92 := hel92.fr F110 (fun q (hq : C0 q) (hm : N + 20 ≤ q) => by have := hC0 q hq; omega)
        replace h18 := OwS.fr h18 F110 (fun c' hc (hm : N + 20 ≤ c') => by omega)
        replace hp0 := RdS.fr hp0 F110 (by decide) (fun q (hq : C0 q) (hm : N + 20 ≤ q) => by have := hC0 q hq; omega)
        replace hF := hF.trans F110 (fun c' (hm : N + 20 ≤ c') => by (try dsimp only); omega)
        refine y1b S109 8 (ba 15 3) Z Z Z Z (by kernel_rfl) (fun _ _ _ h => h) (fun _ => (y2l S109 Z Z rfl b_sub)) fun a111 S111 => y1b S111 15 (ba 16 2) Z Z Z Z (by kernel_rfl) (fun _ _ _ h => h) (fun _ => (r_build (parts := [(0, i6 (wi (r39 - 1))), (2, .int .u64 (Int.tmod x31.Delay 12))]) (u := .agg #[i6 (wi (r39 - 1)), .slice none 0 0, .int .u64 (Int.tmod x31.Delay 12)]) S111 Z Z (fun _ => by kernel_rfl))) fun a112 S112 => ?_
        refine d_one 16 (ba 17 1) Z (by kernel_rfl) (y43 S112 Z Z Z (e_alloc (cs := [i6 0, .slice none 0 0, .int .u64 0]) (N + 0) g110 S112 Z (by kernel_rfl)) (fun _ _ g' hR _ => ⟨g', hC110.trans hR.2 (fun _ h => h.elim)⟩) ?_)
        rintro _ a116 w117 g117 ⟨⟨b113, rfl, h114⟩, F117⟩ S116
        have hC117 := hC110.trans F117 (fun _ h => h.elim)
        replace h95 := RdS.fr h95 F117 (by decide) (fun _ _ h => h)
        replace hel92 := hel92.fr F117 (fun _ _ h => h)
        replace h18 := OwS.fr h18 F117 (fun _ _ h => h)
        replace hp0 := RdS.fr hp0 F117 (by decide) (fun _ _ h => h)
        replace hF := hF.trans F117 (fun _ h => h.elim)
        refine d_one 17 (ba 18 0) Z (by kernel_rfl) (arm_effS S116 Z Z (y4a (n := 3) (bb := true) (cs' := [i6 (wi (r39 - 1)), .slice none 0 0, .int .u64 (Int.tmod x31.Delay 12)]) g117 S116 Z Z Z (by kernel_rfl) Z Z Z h114 Z Z) (.inl (by decide)) ?_)
        rintro a118 w119 g119 ⟨h114, F119⟩ S118
        replace h95 := RdS.fr h95 F119 (by decide) (fun q (hq : C0 q) (hm : q = N + 0) => by have := hC0 q hq; omega)
        replace hel92 := hel92.fr F119 (fun q (hq : C0 q) (hm : q = N + 0) => by have := hC0 q hq; omega)
        replace h18 := OwS.fr h18 F119 (fun c' hc (hm : c' = N + 0) => by omega)
        replace hp0 := RdS.fr hp0 F119 (by decide) (fun q (hq : C0 q) (hm : q = N + 0) => by have := hC0 q hq; omega)
        replace hF := hF.trans F119 (fun c' (hm : c' = N + 0) => by (try dsimp only); omega)
        refine y4v (by kernel_rfl) ?_
        exact ⟨g119, b113, S118.re ⟨Z, Z, Z, Z, Z, trivial⟩, h18, h114, hp0, hF⟩
       ·rintro _ a123 w124 g124 ⟨⟨b120, rfl, h121⟩, F124⟩ S123
        have hC124 := hC.trans F124 (fun _ h => h.elim)
        replace h95 := RdS.fr h95 F124 (by decide) (fun _ _ h => h)
        replace hel92 := hel92.fr F124 (fun _ _ h => h)
        replace h18 := OwS.fr h18 F124 (fun _ _ h => h)
        replace hp0 := RdS.fr hp0 F124 (by decide) (fun _ _ h => h)
        replace hF := hF.trans F124 (fun _ h => h.elim)
        refine d_one 7 #[tt_, tt_, tt_, tt_, tt_, tt_, tt_, tt_, ff_, tt_, tt_, tt_, tt_, tt_, tt_, ff_, tt_, ff_] Z (by kernel_rfl) (arm_call S123 Z Z Z (y2z S123 Z Z (by kernel_rfl)) (y4r.calls (p0 := x31.Parent) (p1 := (wi (m0_1 + 1))) (g := g124) (N + 20)   hr40) (fun _ _ ⟨g', _, Fz⟩ _ => ⟨g', hC124.trans Fz (fun c' (hm : N + 20 ≤ c') => by (try dsimp only); omega)⟩) ?_)
        rintro _ a125 w126 ⟨g126, rfl, F126⟩ S125
        have hC126 := hC124.trans F126 (fun c' (hm : N + 20 ≤ c') => by (try dsimp only); omega)
        replace h121 := h121.fr F126 (fun (hm : N + 20 ≤ N + 0) => by omega)
        replace h95 := RdS.fr h95 F126 (by decide) (fun q (hq : C0 q) (hm : N + 20 ≤ q) => by have := hC0 q hq; omega)
        replace hel92 := hel92.fr F126 (fun q (hq : C0 q) (hm : N + 20 ≤ q) => by have := hC0 q hq; omega)
        replace h18 := OwS.fr h18 F126 (fun c' hc (hm : N + 20 ≤ c') => by omega)
        replace hp0 := RdS.fr hp0 F126 (by decide) (fun q (hq : C0 q) (hm : N + 20 ≤ q) => by have := hC0 q hq; omega)
        replace hF := hF.trans F126 (fun c' (hm : N + 20 ≤ c') => by (try dsimp only); omega)
        refine y1b S125 8 #[tt_, tt_, tt_, tt_, tt_, tt_, tt_, tt_, tt_, tt_, tt_, tt_, tt_, tt_, tt_, ff_, tt_, ff_] Z Z Z Z (by kernel_rfl) (fun _ _ _ h => h) (fun _ => (y2l S125 Z Z rfl b_sub)) fun a127 S127 => y1b S127 15 (ba 17 1) Z Z Z Z (by kernel_rfl) (fun _ _ _ h => h) (fun _ => (r_build (parts := [(0, i6 (wi (r39 - 1))), (2, .int .u64 (Int.tmod x31.Delay 12))]) (u := .agg #[i6 (wi (r39 - 1)), .slice none 0 0, .int .u64 (Int.tmod x31.Delay 12)]) S127 Z Z (fun _ => by kernel_rfl))) fun a128 S128 => ?_
        refine d_one 17 (ba 18 0) Z (by kernel_rfl) (arm_effS S128 Z Z (y4a (n := 3) (bb := true) (cs' := [i6 (wi (r39 - 1)), .slice none 0 0, .int .u64 (Int.tmod x31.Delay 12)]) g126 S128 Z Z Z (by kernel_rfl) Z Z Z h121 Z Z) (.inl (by decide)) ?_)
        rintro a129 w130 g130 ⟨h121, F130⟩ S129
        replace h95 := RdS.fr h95 F130 (by decide) (fun q (hq : C0 q) (hm : q = N + 0) => by have := hC0 q hq; omega)
        replace hel92 := hel92.fr F130 (fun q (hq : C0 q) (hm : q = N + 0) => by have := hC0 q hq; omega)
        replace h18 := OwS.fr h18 F130 (fun c' hc (hm : c' = N + 0) => by omega)
        replace hp0 := RdS.fr hp0 F130 (by decide) (fun q (hq : C0 q) (hm : q = N + 0) => by have := hC0 q hq; omega)
        replace hF := hF.trans F130 (fun c' (hm : c' = N + 0) => by (try dsimp only); omega)
        refine y4v (by kernel_rfl) ?_
        exact ⟨g130, b120, S129.re ⟨Z, Z, Z, Z, Z, trivial⟩, h18, h121, hp0, hF⟩
      clear hp0 h18 hF
      clear hS
      rintro a w86 ⟨g86, b87, hS, h18, h88, hp0, hF⟩
      obtain ⟨v135, H, Hl137⟩ := y0b H
      refine y4u (fun a w131 => ∃ (g131 : Nat → Nat), ∃ (A132 : Option Addr), ∃ (cap133 : Nat), Sl 161 a [(0, .slice A0 p0.length cap0), (3, .slice A16 m0_0.length cap17), (4, i6 (min (p0.length : Int) 8)), (5, i6 m0_1), (6, .pointer (so b87))] ∧ OwS (kint .i64) 3 w131 g131 (N + 6) A132 cap133 v135.Suppliers ∧ OwS y0f 30 w131 g131 (N + 10) A16 cap17 m0_0 ∧ Bx w131 g131 (N + 0) b87 30 [i6 v135.Parent, .slice A132 v135.Suppliers.length cap133, .int .u64 v135.Delay] ∧ RdS y0f w131 g131 C0 A0 cap0 p0 ∧ Fr (fun q => (r0 ≤ q ∧ q < r0 + 2) ∨ N ≤ q) w g w131 g131) ?_ ?_
      ·refine y16 [(0, .slice A0 p0.length cap0), (3, .slice A16 m0_0.length cap17), (4, i6 (min (p0.length : Int) 8)), (5, i6 m0_1), (6, .pointer (so b87)), (7, i6 0)] (fun R hR => y00 hS Z Z Z (y02 hS Z Z) fun a138 S138 => wpList_nil (hR _ (S138.re ⟨Z, Z, Z, Z, Z, Z, trivial⟩))) ?_
       clear hS a; intro a hS
       refine wp_block ?_
       refine wp_loop_ghost (fun kq => fun a w139 => ∃ (m1_0 : y08), ∃ (m1_1 : Int), ∃ (g139 : Nat → Nat), ∃ (A140 : Option Addr), ∃ (cap141 : Nat), y1t.l1 m0_1 x31 kq m1_0 m1_1 = some v135 ∧ Sl 161 a [(0, .slice A0 p0.length cap0), (3, .slice A16 m0_0.length cap17), (4, i6 (min (p0.length : Int) 8)), (5, i6 m0_1), (6, .pointer (so b87)), (7, i6 m1_1)] ∧ OwS (kint .i64) 3 w139 g139 (N + 6) A140 cap141 m1_0.Suppliers ∧ OwS y0f 30 w139 g139 (N + 10) A16 cap17 m0_0 ∧ Bx w139 g139 (N + 0) b87 30 [i6 m1_0.Parent, .slice A140 m1_0.Suppliers.length cap141, .int .u64 m1_0.Delay] ∧ RdS y0f w139 g139 C0 A0 cap0 p0 ∧ Fr (fun q => (r0 ≤ q ∧ q < r0 + 2) ∨ N ≤ q) w g w139 g139) FUEL ?_ ?_
       ·exact ⟨(y08.mk (wi (r39 - 1)) ([] : List Int) (Int.tmod x31.Delay 12)), 0, g86, none, 0, H, hS.re ⟨Z, Z, Z, Z, Z, Z, trivial⟩, OwS.nil (kint .i64) 3 w86 g86 (N + 6), h18, h88, hp0, hF⟩
       ·clear H
        clear hp0 h18 h88 hF
        clear hS
        rintro k143 a w139 ⟨m1_0, m1_1, g139, A140, cap141, hpre0, hS, h142, h18, h88, hp0, hF⟩
        have H := hpre0
        clear hpre0
        cases k143 with
        | zero => exact absurd H (by simp [y1t.l1])
        | succ k143 =>
         rw [y1t.l1] at H
         refine wp_seq ?_
         refine y0t (fun K hK => ?_)
         refine y00 hS Z Z Z (y03 hS Z Z) fun a144 S144 => y00 S144 Z Z Z (y03 S144 Z Z) fun a145 S145 => y00 S145 Z Z Z (y03 S145 Z Z) fun a146 S146 => ?_
         obtain ⟨_, ⟨A148, cap149, rfl, h150⟩, hel147⟩ := El.of hp0 hx32 (by decide)
         replace hel147 : El w139 g139 C0 A0 (m0_1.toNat * 3) [i6 x31.Parent, .slice A148 x31.Suppliers.length cap149, .int .u64 x31.Delay] := hel147
         refine y00 S146 Z Z Z (y1j (e := 30) (sz := 3) (by_ := 40) S146 Z Z Z (by kernel_rfl) (RdS.some_ hp0 hx32) (y26 hx32) (y27 hx32)) fun a153 S153 => y00 S153 Z Z Z (y2w (off := 1) S153 Z Z (by kernel_rfl)) fun a154 S154 => y00 S154 Z Z Z (y0u (n := 1) S154 Z Z (by kernel_rfl) (El.cell (j := 1) hel147 Z)) fun a155 S155 => y00 S155 Z Z Z (y4x (e := 3) (sz := 1) (by_ := 8) S155 Z Z (by kernel_rfl)) fun a156 S156 => y00 S156 Z Z Z (y2l S156 Z Z rfl y4t) fun a157 S157 => y00 S157 Z Z Z (y03 S157 Z Z) fun a158 S158 => ?_
         refine y4b (N := 161) 3 [(0, .slice A0 p0.length cap0), (3, .slice A16 m0_0.length cap17), (4, i6 (min (p0.length : Int) 8)), (5, i6 m0_1), (6, .pointer (so b87)), (7, i6 m1_1), (50, .bool ((decide (m1_1 < (x31.Suppliers.length : Int))) && (decide (0 < m0_1))))] ?_ (fun hk => ?_)
         rotate_left
         ·rcases Bool.eq_false_or_eq_true (decide (m1_1 < (x31.Suppliers.length : Int))) with hb159 | hb159
          ·refine y0p S158 (y0a S158 Z Z rfl hb159) Z Z (y03 S158 Z Z) fun a162 S162 => y0p S162 (y0a S162 Z Z rfl hb159) Z Z (y2l S162 Z Z rfl b_gtr) fun a163 S163 => y00 S163 Z Z Z (y2s S163 Z Z rfl hb159) fun a164 S164 => hk _ (S164.re ⟨rfl, rfl, rfl, rfl, rfl, rfl, (by rw [hb159]; rfl), trivial⟩)
          ·refine y1c S158 (y05 S158 Z Z rfl hb159) Z Z fun a165 S165 => y1c S165 (y05 S165 Z Z rfl hb159) Z Z fun a166 S166 => y00 S166 Z Z Z (y2t S166 Z Z rfl hb159) fun a167 S167 => hk _ (S167.re ⟨rfl, rfl, rfl, rfl, rfl, rfl, (by rw [hb159]; rfl), trivial⟩)
         intro a168 S168
         refine wpList_nil (hK _ _ ?_)
         replace hS : Sl 161 _ [(0, .slice A0 p0.length cap0), (3, .slice A16 m0_0.length cap17), (4, i6 (min (p0.length : Int) 8)), (5, i6 m0_1), (6, .pointer (so b87)), (7, i6 m1_1), (50, .bool ((decide (m1_1 < (x31.Suppliers.length : Int))) && (decide (0 < m0_1))))] := S168.re ⟨Z, Z, Z, Z, Z, Z, Z, trivial⟩
         clear hK K
         try clear S144 S145 S146 S153 S154 S155 S156 S157 S158 S168
         generalize a168 = a at hS ⊢
         refine y2m hS Z (fun hb169 => ?_) (fun hb169 => ?_)
         ·replace H := y3f hb169 H
          refine wp_skip ?_
          change Code.wp _ _ _ _ _
          obtain ⟨v174, H, Hl176⟩ := y0b H
          refine y4u (fun a w170 => ∃ (g170 : Nat → Nat), ∃ (A171 : Option Addr), ∃ (cap172 : Nat), Sl 161 a [(0, .slice A0 p0.length cap0), (3, .slice A16 m0_0.length cap17), (4, i6 (min (p0.length : Int) 8)), (5, i6 m0_1), (6, .pointer (so b87)), (7, i6 m1_1)] ∧ OwS (kint .i64) 3 w170 g170 (N + 6) A171 cap172 v174.Suppliers ∧ OwS y0f 30 w170 g170 (N + 10) A16 cap17 m0_0 ∧ Bx w170 g170 (N + 0) b87 30 [i6 v174.Parent, .slice A171 v174.Suppliers.length cap172, .int .u64 v174.Delay] ∧ RdS y0f w170 g170 C0 A0 cap0 p0 ∧ Fr (fun q => (r0 ≤ q ∧ q < r0 + 2) ∨ N ≤ q) w g w170 g170) ?_ ?_
          ·refine wp_block ?_
           obtain ⟨x189, hx190, H⟩ := y0b H
           obtain ⟨r194, hr195, H⟩ := y0b H
           refine y0t (fun K hK => ?_)
           refine y00 hS Z Z Z (y03 hS Z Z) fun a177 S177 => y00 S177 Z Z Z (y03 S177 Z Z) fun a178 S178 => ?_
           obtain ⟨_, ⟨A180, cap181, rfl, h182⟩, hel179⟩ := El.of hp0 hx32 (by decide)
           replace hel179 : El w139 g139 C0 A0 (m0_1.toNat * 3) [i6 x31.Parent, .slice A180 x31.Suppliers.length cap181, .int .u64 x31.Delay] := hel179
           refine y00 S178 Z Z Z (y1j (e := 30) (sz := 3) (by_ := 40) S178 Z Z Z (by kernel_rfl) (RdS.some_ hp0 hx32) (y26 hx32) (y27 hx32)) fun a185 S185 => y00 S185 Z Z Z (y2w (off := 1) S185 Z Z (by kernel_rfl)) fun a186 S186 => y00 S186 Z Z Z (y0u (n := 1) S186 Z Z (by kernel_rfl) (El.cell (j := 1) hel179 Z)) fun a187 S187 => y00 S187 Z Z Z (y03 S187 Z Z) fun a188 S188 => y00 S188 Z Z Z (y1j (e := 3) (sz := 1) (by_ := 8) S188 Z Z Z (by kernel_rfl) (RdS.some_ h182 hx190) (y26 hx190) (y27 hx190)) fun a191 S191 => y00 S191 Z Z Z (y0u (n := 1) S191 Z Z (by kernel_rfl) (RdS.cell (i := m1_1) (sz := 1) (j := 0) h182 hx190 Z)) fun a192 S192 => y00 S192 Z Z Z (y03 S192 Z Z) fun a193 S193 => ?_
           refine y1y S193 Z Z Z (y2z S193 Z Z (by kernel_rfl)) (y4r.calls (p0 := x189) (p1 := m0_1) (g := g139) (N + 20)   hr195) ?_
           rintro _ a196 w197 ⟨g197, rfl, F197⟩ S196
           replace h182 := RdS.fr h182 F197 (by decide) (fun q (hq : C0 q) (hm : N + 20 ≤ q) => by have := hC0 q hq; omega)
           replace hel179 := hel179.fr F197 (fun q (hq : C0 q) (hm : N + 20 ≤ q) => by have := hC0 q hq; omega)
           replace h142 := OwS.fr h142 F197 (fun c' hc (hm : N + 20 ≤ c') => by omega)
           replace h18 := OwS.fr h18 F197 (fun c' hc (hm : N + 20 ≤ c') => by omega)
           replace h88 := h88.fr F197 (fun (hm : N + 20 ≤ N + 0) => by omega)
           replace hp0 := RdS.fr hp0 F197 (by decide) (fun q (hq : C0 q) (hm : N + 20 ≤ q) => by have := hC0 q hq; omega)
           replace hF := hF.trans F197 (fun c' (hm : N + 20 ≤ c') => by (try dsimp only); omega)
           refine y00 S196 Z Z Z (y02 S196 Z Z) fun a198 S198 => wpList_nil (hK _ _ ?_)
           replace hS : Sl 161 _ [(0, .slice A0 p0.length cap0), (3, .slice A16 m0_0.length cap17), (4, i6 (min (p0.length : Int) 8)), (5, i6 m0_1), (6, .pointer (so b87)), (7, i6 m1_1), (8, i6 r194)] := S198.re ⟨Z, Z, Z, Z, Z, Z, Z, trivial⟩
           clear hK K
           try clear S177 S178 S185 S186 S187 S188 S191 S192 S193 S196 S198
           generalize a198 = a at hS ⊢
           refine y16 [(0, .slice A0 p0.length cap0), (3, .slice A16 m0_0.length cap17), (4, i6 (min (p0.length : Int) 8)), (5, i6 m0_1), (6, .pointer (so b87)), (7, i6 m1_1), (8, i6 r194), (9, .bool (r194 != m1_0.Parent))] (fun R hR => y00 hS Z Z Z (y03 hS Z Z) fun a199 S199 => y00 S199 Z Z Z (y1e (off := 0) S199 Z Z (by kernel_rfl)) fun a200 S200 => y00 S200 Z Z Z (y0u (n := 1) S200 Z Z (by kernel_rfl) (Bx.cell h88 Z)) fun a201 S201 => y00 S201 Z Z Z (y2l S201 Z Z rfl b_neq) fun a202 S202 => y00 S202 Z Z Z (y02 S202 Z Z) fun a203 S203 => wpList_nil (hR _ (S203.re ⟨Z, Z, Z, Z, Z, Z, Z, Z, trivial⟩))) ?_
           clear hS a; intro a hS
           obtain ⟨v204, H, Hl206⟩ := y0b H
           refine y4u (fun a w' => w197 = w' ∧ Sl 161 a [(0, .slice A0 p0.length cap0), (3, .slice A16 m0_0.length cap17), (4, i6 (min (p0.length : Int) 8)), (5, i6 m0_1), (6, .pointer (so b87)), (7, i6 m1_1), (8, i6 r194), (9, .bool v204)]) ?_ ?_
           ·refine y16 [(0, .slice A0 p0.length cap0), (3, .slice A16 m0_0.length cap17), (4, i6 (min (p0.length : Int) 8)), (5, i6 m0_1), (6, .pointer (so b87)), (7, i6 m1_1), (8, i6 r194), (9, .bool (r194 != m1_0.Parent)), (10, i6 0)] (fun R hR => y00 hS Z Z Z (y02 hS Z Z) fun a207 S207 => wpList_nil (hR _ (S207.re ⟨Z, Z, Z, Z, Z, Z, Z, Z, Z, trivial⟩))) ?_
            clear hS a; intro a hS
            refine wp_block ?_
            refine wp_loop_ghost (fun kq => fun a w' => ∃ (m2_0 : Bool), ∃ (m2_1 : Int), y1t.l2 m1_0 r194 kq m2_0 m2_1 = some v204 ∧ w197 = w' ∧ Sl 161 a [(0, .slice A0 p0.length cap0), (3, .slice A16 m0_0.length cap17), (4, i6 (min (p0.length : Int) 8)), (5, i6 m0_1), (6, .pointer (so b87)), (7, i6 m1_1), (8, i6 r194), (9, .bool m2_0), (10, i6 m2_1)]) FUEL ?_ ?_
            ·exact ⟨(r194 != m1_0.Parent), 0, H, rfl, hS.re ⟨Z, Z, Z, Z, Z, Z, Z, Z, Z, trivial⟩⟩
            ·clear H
             clear hS
             rintro k208 a w' ⟨m2_0, m2_1, hpre0, hw, hS⟩
             subst hw
             have H := hpre0
             clear hpre0
             cases k208 with
             | zero => exact absurd H (by simp [y1t.l2])
             | succ k208 =>
              rw [y1t.l2] at H
              refine wp_seq ?_
              refine y16 [(0, .slice A0 p0.length cap0), (3, .slice A16 m0_0.length cap17), (4, i6 (min (p0.length : Int) 8)), (5, i6 m0_1), (6, .pointer (so b87)), (7, i6 m1_1), (8, i6 r194), (9, .bool m2_0), (10, i6 m2_1), (71, .bool (decide (m2_1 < (m1_0.Suppliers.length : Int))))] (fun R hR => y00 hS Z Z Z (y03 hS Z Z) fun a209 S209 => y00 S209 Z Z Z (y1e (off := 1) S209 Z Z (by kernel_rfl)) fun a210 S210 => y00 S210 Z Z Z (y0u (n := 1) S210 Z Z (by kernel_rfl) (Bx.cell h88 Z)) fun a211 S211 => y00 S211 Z Z Z (y4x (e := 3) (sz := 1) (by_ := 8) S211 Z Z (by kernel_rfl)) fun a212 S212 => y00 S212 Z Z Z (y2l S212 Z Z rfl y4t) fun a213 S213 => wpList_nil (hR _ (S213.re ⟨Z, Z, Z, Z, Z, Z, Z, Z, Z, Z, trivial⟩))) ?_
              clear hS a; intro a hS
              refine y2m hS Z (fun hb214 => ?_) (fun hb214 => ?_)
              ·replace H := y3f hb214 H
               refine wp_skip ?_
               change Code.wp _ _ _ _ _
               refine wp_seq ?_
               refine wp_block ?_
               obtain ⟨t227, ht228, H⟩ := y0b H
               refine y3l (fun K hK => ?_)
               refine y00 hS Z Z Z (y03 hS Z Z) fun a215 S215 => y00 S215 Z Z Z (y03 S215 Z Z) fun a216 S216 => ?_
               refine y4b (N := 161) 8 [(0, .slice A0 p0.length cap0), (3, .slice A16 m0_0.length cap17), (4, i6 (min (p0.length : Int) 8)), (5, i6 m0_1), (6, .pointer (so b87)), (7, i6 m1_1), (8, i6 r194), (9, .bool m2_0), (10, i6 m2_1), (83, .bool t227)] ?_ (fun hk => ?_)
               rotate_left
               ·rcases Bool.eq_false_or_eq_true (m2_0) with hb217 | hb217
                ·have H := y3f hb217 ht228
                 obtain ⟨x232, hx233, H⟩ := y0b H
                 have e238 := Option.some.inj H
                 refine y0p S216 (y0a S216 Z Z rfl hb217) Z Z (y1e (off := 1) S216 Z Z (by kernel_rfl)) fun a229 S229 => y0p S229 (y0a S229 Z Z rfl hb217) Z Z (y0u (n := 1) S229 Z Z (by kernel_rfl) (Bx.cell h88 Z)) fun a230 S230 => y0p S230 (y0a S230 Z Z rfl hb217) Z Z (y03 S230 Z Z) fun a231 S231 => y0p S231 (y0a S231 Z Z rfl hb217) Z Z (y1j (e := 3) (sz := 1) (by_ := 8) S231 Z Z Z (by kernel_rfl) (RdS.some_ (OwS.rd h142) hx233) (y26 hx233) (y27 hx233)) fun a234 S234 => y0p S234 (y0a S234 Z Z rfl hb217) Z Z (y0u (n := 1) S234 Z Z (by kernel_rfl) (RdS.cell (i := m2_1) (sz := 1) (j := 0) (OwS.rd h142) hx233 Z)) fun a235 S235 => y0p S235 (y0a S235 Z Z rfl hb217) Z Z (y03 S235 Z Z) fun a236 S236 => y0p S236 (y0a S236 Z Z rfl hb217) Z Z (y2l S236 Z Z rfl b_neq) fun a237 S237 => y00 S237 Z Z Z (y2s S237 Z Z rfl hb217) fun a239 S239 => hk _ (S239.re ⟨rfl, rfl, rfl, rfl, rfl, rfl, rfl, rfl, rfl, (by rw [← e238]; rfl), trivial⟩)
                ·have H := y3g hb217 ht228
                 have e240 := Option.some.inj H
                 refine y1c S216 (y05 S216 Z Z rfl hb217) Z Z fun a241 S241 => y1c S241 (y05 S241 Z Z rfl hb217) Z Z fun a242 S242 => y1c S242 (y05 S242 Z Z rfl hb217) Z Z fun a243 S243 => y1c S243 (y05 S243 Z Z rfl hb217) Z Z fun a244 S244 => y1c S244 (y05 S244 Z Z rfl hb217) Z Z fun a245 S245 => y1c S245 (y05 S245 Z Z rfl hb217) Z Z fun a246 S246 => y1c S246 (y05 S246 Z Z rfl hb217) Z Z fun a247 S247 => y00 S247 Z Z Z (y2t S247 Z Z rfl hb217) fun a248 S248 => hk _ (S248.re ⟨rfl, rfl, rfl, rfl, rfl, rfl, rfl, rfl, rfl, (by rw [← e240]; rfl), trivial⟩)
               intro a249 S249
               refine y00 S249 Z Z Z (y02 S249 Z Z) fun a250 S250 => wpList_nil (hK _ _ ?_)
               replace hS : Sl 161 _ [(0, .slice A0 p0.length cap0), (3, .slice A16 m0_0.length cap17), (4, i6 (min (p0.length : Int) 8)), (5, i6 m0_1), (6, .pointer (so b87)), (7, i6 m1_1), (8, i6 r194), (9, .bool t227), (10, i6 m2_1)] := S250.re ⟨Z, Z, Z, Z, Z, Z, Z, Z, Z, trivial⟩
               clear hK K
               try clear S215 S216 S249 S250
               generalize a250 = a at hS ⊢
               change Code.wp _ _ _ _ _
               refine y3e [(0, .slice A0 p0.length cap0), (3, .slice A16 m0_0.length cap17), (4, i6 (min (p0.length : Int) 8)), (5, i6 m0_1), (6, .pointer (so b87)), (7, i6 m1_1), (8, i6 r194), (9, .bool t227), (10, i6 (wi (m2_1 + 1)))] (fun R hR => y00 hS Z Z Z (y03 hS Z Z) fun a251 S251 => y00 S251 Z Z Z (y2l S251 Z Z rfl y4z) fun a252 S252 => y00 S252 Z Z Z (y02 S252 Z Z) fun a253 S253 => wpList_nil (hR _ (S253.re ⟨Z, Z, Z, Z, Z, Z, Z, Z, Z, trivial⟩))) ?_
               clear hS a; intro a hS
               refine ⟨k208, Nat.lt_succ_self _, ?_⟩
               exact ⟨t227, wi (m2_1 + 1), H, rfl, hS.re ⟨Z, Z, Z, Z, Z, Z, Z, Z, Z, trivial⟩⟩
              ·replace H := y3g hb214 H
               refine wp_exit ?_
               have e := Option.some.inj H
               subst e
               exact ⟨rfl, hS.re ⟨Z, Z, Z, Z, Z, Z, Z, Z, trivial⟩⟩
           ·clear H
            clear hS
            rintro a w' ⟨hw, hS⟩
            subst hw
            have H := Hl206
            clear Hl206
            refine y16 [(0, .slice A0 p0.length cap0), (3, .slice A16 m0_0.length cap17), (4, i6 (min (p0.length : Int) 8)), (5, i6 m0_1), (6, .pointer (so b87)), (7, i6 m1_1), (8, i6 r194), (84, .bool v204)] (fun R hR => y00 hS Z Z Z (y03 hS Z Z) fun a254 S254 => wpList_nil (hR _ (S254.re ⟨Z, Z, Z, Z, Z, Z, Z, Z, trivial⟩))) ?_
            clear hS a; intro a hS
            refine y2m hS Z (fun hb255 => ?_) (fun hb255 => ?_)
            ·replace H := y3f hb255 H
             obtain ⟨y264, hy265, H⟩ := y0b H
             refine y3l (fun K hK => ?_)
             refine y00 hS Z Z Z (y1e (off := 1) hS Z Z (by kernel_rfl)) fun a256 S256 => y00 S256 Z Z Z (y0u (n := 1) S256 Z Z (by kernel_rfl) (Bx.cell h88 Z)) fun a257 S257 => y00 S257 Z Z Z (y03 S257 Z Z) fun a258 S258 => ?_
             refine y41 S258 Z Z Z (e_lit (e := 3) (parts := [(0, i6 r194)]) (cs := [i6 r194]) (kint .i64) [r194] (N + 4) g197 S258 Z Z (fun _ => by kernel_rfl) Z (by decide) (Rows.cons (cs := [i6 r194]) rfl Rows.nil)) ?_
             rintro _ a262 w263 g263 ⟨⟨A259, rfl, h260⟩, F263⟩ S262
             replace h142 := OwS.fr h142 F263 (fun _ _ h => h)
             replace h18 := OwS.fr h18 F263 (fun _ _ h => h)
             replace h88 := h88.fr F263 (fun h => h)
             replace hp0 := RdS.fr hp0 F263 (by decide) (fun _ _ h => h)
             replace hF := hF.trans F263 (fun _ h => h.elim)
             refine y41 S262 Z Z Z (y4g (e := 3) (sz := 1) (by_ := 8) (z := [i6 0]) (kd := (kint .i64)) g263 S262 Z Z Z Z (by kernel_rfl) (by kernel_rfl) Z Z Z Z h142 (OwD.rdx h260) (fun _ _ _ h => h) hy265) ?_
             rintro _ a270 w271 g271 ⟨⟨A266, cap267, rfl, h268⟩, F271⟩ S270
             replace h260 := OwS.fr h260 F271 (fun c' hc (hm : c' = N + 6) => by omega)
             replace h18 := OwS.fr h18 F271 (fun c' hc (hm : c' = N + 6) => by omega)
             replace h88 := h88.fr F271 (fun (hm : N + 0 = N + 6) => by omega)
             replace hp0 := RdS.fr hp0 F271 (by decide) (fun q (hq : C0 q) (hm : q = N + 6) => by have := hC0 q hq; omega)
             replace hF := hF.trans F271 (fun c' (hm : c' = N + 6) => by (try dsimp only); omega)
             refine y00 S270 Z Z Z (y1e (off := 1) S270 Z Z (by kernel_rfl)) fun a272 S272 => ?_
             refine y3s S272 Z Z (y4a (n := 1) (bb := false) (cs' := [i6 m1_0.Parent, .slice A266 y264.length cap267, .int .u64 m1_0.Delay]) g271 S272 Z Z Z (by kernel_rfl) Z Z Z h88 Z Z) ?_
             rintro a273 w274 g274 ⟨h88, F274⟩ S273
             replace h260 := OwS.fr h260 F274 (fun c' hc (hm : c' = N + 0) => by omega)
             replace h268 := OwS.fr h268 F274 (fun c' hc (hm : c' = N + 0) => by omega)
             replace h18 := OwS.fr h18 F274 (fun c' hc (hm : c' = N + 0) => by omega)
             replace hp0 := RdS.fr hp0 F274 (by decide) (fun q (hq : C0 q) (hm : q = N + 0) => by have := hC0 q hq; omega)
             replace hF := hF.trans F274 (fun c' (hm : c' = N + 0) => by (try dsimp only); omega)
             refine wpList_nil (hK _ _ ?_)
             replace hS : Sl 161 _ [(0, .slice A0 p0.length cap0), (3, .slice A16 m0_0.length cap17), (4, i6 (min (p0.length : Int) 8)), (5, i6 m0_1), (6, .pointer (so b87)), (7, i6 m1_1)] := S273.re ⟨Z, Z, Z, Z, Z, Z, trivial⟩
             clear hK K
             try clear S256 S257 S258 S262 S270 S272 S273
             generalize a273 = a at hS ⊢
             have e := Option.some.inj H
             subst e
             exact ⟨g274, A266, cap267, hS.re ⟨Z, Z, Z, Z, Z, Z, trivial⟩, h268, h18, h88, hp0, hF⟩
            ·replace H := y3g hb255 H
             refine wp_skip ?_
             have e := Option.some.inj H
             subst e
             exact ⟨g197, A140, cap141, hS.re ⟨Z, Z, Z, Z, Z, Z, trivial⟩, h142, h18, h88, hp0, hF⟩
          ·clear H
           clear hp0 h18 h88 h142 hF
           clear hS
           rintro a w170 ⟨g170, A171, cap172, hS, h173, h18, h88, hp0, hF⟩
           have H := Hl176
           clear Hl176
           refine y3e [(0, .slice A0 p0.length cap0), (3, .slice A16 m0_0.length cap17), (4, i6 (min (p0.length : Int) 8)), (5, i6 m0_1), (6, .pointer (so b87)), (7, i6 (wi (m1_1 + 1)))] (fun R hR => y00 hS Z Z Z (y03 hS Z Z) fun a275 S275 => y00 S275 Z Z Z (y2l S275 Z Z rfl y4z) fun a276 S276 => y00 S276 Z Z Z (y02 S276 Z Z) fun a277 S277 => wpList_nil (hR _ (S277.re ⟨Z, Z, Z, Z, Z, Z, trivial⟩))) ?_
           clear hS a; intro a hS
           refine ⟨k143, Nat.lt_succ_self _, ?_⟩
           exact ⟨v174, wi (m1_1 + 1), g170, A171, cap172, H, hS.re ⟨Z, Z, Z, Z, Z, Z, trivial⟩, h173, h18, h88, hp0, hF⟩
         ·replace H := y3g hb169 H
          refine wp_exit ?_
          have e := Option.some.inj H
          subst e
          exact ⟨g139, A140, cap141, hS.re ⟨Z, Z, Z, Z, Z, trivial⟩, h142, h18, h88, hp0, hF⟩
      ·clear H
       clear hp0 h18 h88 hF
       clear hS
       rintro a w131 ⟨g131, A132, cap133, hS, h134, h18, h88, hp0, hF⟩
       have H := Hl137
       clear Hl137
       obtain ⟨y286, hy287, H⟩ := y0b H
       refine y3l (fun K hK => ?_)
       refine y00 hS Z Z Z (y03 hS Z Z) fun a278 S278 => y00 S278 Z Z Z (r_loadN (n := 3) (cs := [i6 v135.Parent, .slice A132 v135.Suppliers.length cap133, .int .u64 v135.Delay]) S278 Z Z (by kernel_rfl) Z (Bx.cells_off h88 0 3)) fun a279 S279 => ?_
       refine y41 S279 Z Z Z (e_litD (D := (fun q => q = N + 6)) (e := 30) (parts := [(0, .agg #[i6 v135.Parent, .slice A132 v135.Suppliers.length cap133, .int .u64 v135.Delay])]) (cs := [i6 v135.Parent, .slice A132 v135.Suppliers.length cap133, .int .u64 v135.Delay]) y0f [v135] (N + 8) g131 S279 Z Z (fun _ => by kernel_rfl) Z (by decide) (Rows.cons (cs := [i6 v135.Parent, .slice A132 v135.Suppliers.length cap133, .int .u64 v135.Delay]) ⟨A132, cap133, rfl, (OwD.rdf (fun _ _ _ _ _ _ h => h) h134)⟩ Rows.nil)) ?_
       rintro _ a283 w284 g284 ⟨⟨A280, rfl, h281⟩, F284⟩ S283
       replace h134 := OwS.fr h134 F284 (fun _ _ h => h)
       replace h18 := OwS.fr h18 F284 (fun _ _ h => h)
       replace h88 := h88.fr F284 (fun h => h)
       replace hp0 := RdS.fr hp0 F284 (by decide) (fun _ _ h => h)
       replace hF := hF.trans F284 (fun _ h => h.elim)
       have F285 : Fr (fun q => q = N + 6) w284 g284 w284 (y4y g284 (N + 6) (N + 10 + 1)) := Fr.y4y w284 g284 (N + 6) (N + 10 + 1) rfl
       replace h281 : OwD y0f 30 w284 (y4y g284 (N + 6) (N + 10 + 1)) (N + 8) (fun q => q = N + 10 + 1) A280 1 [v135] := OwD.recolC h281 (N + 6) (N + 10 + 1) (by omega) (fun q (hq : q = N + 6) => show (fun q => q = N + 10 + 1) (if q = N + 6 then N + 10 + 1 else q) from (by rw [if_pos hq] <;> exact rfl))
       replace h134 : RdS (kint .i64) w284 (y4y g284 (N + 6) (N + 10 + 1)) (fun q => q = N + 10 + 1) A132 cap133 v135.Suppliers := RdS.recolC (OwD.rdf (fun _ _ _ _ _ _ h => h) h134) (by decide) (N + 6) (N + 10 + 1) (fun q (hq : q = N + 6) => show (fun q => q = N + 10 + 1) (if q = N + 6 then N + 10 + 1 else q) from (by rw [if_pos hq] <;> exact rfl))
       replace h18 := OwS.fr h18 F285 (fun c' hc (hm : c' = N + 6) => by omega)
       replace h88 := h88.fr F285 (fun (hm : N + 0 = N + 6) => by omega)
       replace hp0 := RdS.fr hp0 F285 (by decide) (fun q (hq : C0 q) (hm : q = N + 6) => by have := hC0 q hq; omega)
       replace hF := hF.trans F285 (fun c' (hm : c' = N + 6) => by (try dsimp only); omega)
       refine y41 S283 Z Z Z (y4g (e := 30) (sz := 3) (by_ := 40) (z := [i6 0, .slice none 0 0, .int .u64 0]) (kd := y0f) (y4y g284 (N + 6) (N + 10 + 1)) S283 Z Z Z Z (by kernel_rfl) (by kernel_rfl) Z Z Z Z h18 (OwD.rdx h281) (fun _ _ _ h => h) hy287) ?_
       rintro _ a292 w293 g293 ⟨⟨A288, cap289, rfl, h290⟩, F293⟩ S292
       replace h281 := OwD.fr h281 F293 (fun (hm : N + 8 = N + 10) => by omega) (fun q (hq : q = N + 10 + 1) (hm : q = N + 10) => by omega)
       replace h134 := RdS.fr h134 F293 (by decide) (fun q (hq : q = N + 10 + 1) (hm : q = N + 10) => by omega)
       replace h88 := h88.fr F293 (fun (hm : N + 0 = N + 10) => by omega)
       replace hp0 := RdS.fr hp0 F293 (by decide) (fun q (hq : C0 q) (hm : q = N + 10) => by have := hC0 q hq; omega)
       replace hF := hF.trans F293 (fun c' (hm : c' = N + 10) => by (try dsimp only); omega)
       refine y00 S292 Z Z Z (y02 S292 Z Z) fun a294 S294 => wpList_nil (hK _ _ ?_)
       replace hS : Sl 161 _ [(0, .slice A0 p0.length cap0), (3, .slice A288 y286.length cap289), (4, i6 (min (p0.length : Int) 8)), (5, i6 m0_1)] := S294.re ⟨Z, Z, Z, Z, trivial⟩
       clear hK K
       try clear S278 S279 S283 S292 S294
       generalize a294 = a at hS ⊢
       have e := Option.some.inj H
       subst e
       exact ⟨g293, A288, cap289, hS.re ⟨Z, Z, Z, Z, trivial⟩, h290, hp0, hF⟩
     ·clear H
      clear hp0 h18 hF
      clear hS
      rintro a w24 ⟨g24, A25, cap26, hS, h27, hp0, hF⟩
      have H := Hl30
      clear Hl30
      refine y3e [(0, .slice A0 p0.length cap0), (3, .slice A25 v28.length cap26), (4, i6 (min (p0.length : Int) 8)), (5, i6 (wi (m0_1 + 1)))] (fun R hR => y00 hS Z Z Z (y03 hS Z Z) fun a295 S295 => y00 S295 Z Z Z (y2l S295 Z Z rfl y4z) fun a296 S296 => y00 S296 Z Z Z (y02 S296 Z Z) fun a297 S297 => wpList_nil (hR _ (S297.re ⟨Z, Z, Z, Z, trivial⟩))) ?_
      clear hS a; intro a hS
      refine ⟨k19, Nat.lt_succ_self _, ?_⟩
      exact ⟨v28, wi (m0_1 + 1), g24, A25, cap26, H, hS.re ⟨Z, Z, Z, Z, trivial⟩, h27, hp0, hF⟩
    ·replace H := y3g hb23 H
     refine wp_exit ?_
     have e := Option.some.inj H
     subst e
     exact ⟨g15, A16, cap17, hS.re ⟨Z, Z, trivial⟩, h18, hF⟩
 ·clear H
  clear hp0 hF
  clear hS
  rintro a w7 ⟨g7, A8, cap9, hS, h10, hF⟩
  have H := Hl13
  clear Hl13
  refine wp_seq ?_
  refine y16 [(3, .slice A8 v11.length cap9), (4, i6 (min (p0.length : Int) 8)), (97, .bool ((Int.tmod (min (p0.length : Int) 8) 2) == 0))] (fun R hR => y00 hS Z Z Z (y03 hS Z Z) fun a298 S298 => y00 S298 Z Z Z (y2l S298 Z Z Z (b_rem (by decide))) fun a299 S299 => y00 S299 Z Z Z (y2l S299 Z Z rfl b_eql) fun a300 S300 => wpList_nil (hR _ (S300.re ⟨Z, Z, Z, trivial⟩))) ?_
  clear hS a; intro a hS
  refine y2m hS Z (fun hb301 => ?_) (fun hb301 => ?_)
  ·replace H := y3f hb301 H
   refine y16 [(2, .slice A8 v11.length cap9)] (fun R hR => y00 hS Z Z Z (y03 hS Z Z) fun a302 S302 => y00 S302 Z Z Z (y02 S302 Z Z) fun a303 S303 => wpList_nil (hR _ (S303.re ⟨Z, trivial⟩))) ?_
   clear hS a; intro a hS
   refine wp_ret ?_
   have e := Option.some.inj H
   subst e
   have F304 := Fr.y2f w7 g7 (N + 10) r0
   replace h10 := h10.y2f r0
   replace hF := hF.trans F304 (fun c' (hm : c' = N + 10 ∨ c' = N + 10 + 1) => by (try dsimp only); omega)
   repeat (with_reducible first | refine y1i ?_ | refine y0o ?_)
   exact y3v hS Try.results17 rfl ⟨_, rfl, (y2f g7 (N + 10) r0), A8, cap9, rfl, h10, hF⟩
  ·replace H := y3g hb301 H
   refine wp_skip ?_
   change Code.wp _ _ _ _ _
   obtain ⟨y306, hy307, H⟩ := y0b H
   refine y0t (fun K hK => ?_)
   refine y00 hS Z Z Z (y03 hS Z Z) fun a305 S305 => ?_
   refine y41 S305 Z Z Z (e_make (e := 30) (sz := 3) (by_ := 40) (z := [i6 0, .slice none 0 0, .int .u64 0]) (kd := y0f) (N + 12) g7 S305 Z Z (by kernel_rfl) (by kernel_rfl) Z Z Z (fun w g C => ⟨none, 0, rfl, RdS.nil _ _ _ _⟩) hy307) ?_
   rintro _ a312 w313 g313 ⟨⟨A308, cap309, rfl, h310⟩, F313⟩ S312
   replace h10 := OwS.fr h10 F313 (fun _ _ h => h)
   replace hF := hF.trans F313 (fun _ h => h.elim)
   refine y00 S312 Z Z Z (y02 S312 Z Z) fun a314 S314 => wpList_nil (hK _ _ ?_)
   replace hS : Sl 161 _ [(3, .slice A8 v11.length cap9), (4, i6 (min (p0.length : Int) 8)), (11, .slice A308 y306.length cap309)] := S314.re ⟨Z, Z, Z, trivial⟩
   clear hK K
   try clear S305 S312 S314
   generalize a314 = a at hS ⊢
   obtain ⟨v316, H, Hl318⟩ := y0b H
   refine y4u (fun a w315 => ∃ (g315 : Nat → Nat), Sl 161 a [(11, .slice A308 v316.length cap309)] ∧ OwS y0f 30 w315 g315 (N + 12) A308 cap309 v316 ∧ Fr (fun q => (r0 ≤ q ∧ q < r0 + 2) ∨ N ≤ q) w g w315 g315) ?_ ?_
   ·refine y16 [(3, .slice A8 v11.length cap9), (4, i6 (min (p0.length : Int) 8)), (11, .slice A308 y306.length cap309), (12, i6 0)] (fun R hR => y00 hS Z Z Z (y02 hS Z Z) fun a319 S319 => wpList_nil (hR _ (S319.re ⟨Z, Z, Z, Z, trivial⟩))) ?_
    clear hS a; intro a hS
    refine wp_block ?_
    refine wp_loop_ghost (fun kq => fun a w320 => ∃ (m3_0 : List y08), ∃ (m3_1 : Int), ∃ (g320 : Nat → Nat), y1t.l3 p0 v11 kq m3_0 m3_1 = some v316 ∧ Sl 161 a [(3, .slice A8 v11.length cap9), (4, i6 (min (p0.length : Int) 8)), (11, .slice A308 m3_0.length cap309), (12, i6 m3_1)] ∧ OwS y0f 30 w320 g320 (N + 12) A308 cap309 m3_0 ∧ OwS y0f 30 w320 g320 (N + 10) A8 cap9 v11 ∧ Fr (fun q => (r0 ≤ q ∧ q < r0 + 2) ∨ N ≤ q) w g w320 g320) FUEL ?_ ?_
    ·exact ⟨y306, 0, g313, H, hS.re ⟨Z, Z, Z, Z, trivial⟩, h310, h10, hF⟩
    ·clear H
     clear h10 h310 hF
     clear hS
     rintro k321 a w320 ⟨m3_0, m3_1, g320, hpre0, hS, h310, h10, hF⟩
     have H := hpre0
     clear hpre0
     cases k321 with
     | zero => exact absurd H (by simp [y1t.l3])
     | succ k321 =>
      rw [y1t.l3] at H
      refine wp_seq ?_
      refine y16 [(3, .slice A8 v11.length cap9), (4, i6 (min (p0.length : Int) 8)), (11, .slice A308 m3_0.length cap309), (12, i6 m3_1), (103, .bool (decide (m3_1 < (min (p0.length : Int) 8))))] (fun R hR => y00 hS Z Z Z (y03 hS Z Z) fun a322 S322 => y00 S322 Z Z Z (y03 S322 Z Z) fun a323 S323 => y00 S323 Z Z Z (y2l S323 Z Z rfl y4t) fun a324 S324 => wpList_nil (hR _ (S324.re ⟨Z, Z, Z, Z, Z, trivial⟩))) ?_
      clear hS a; intro a hS
      refine y2m hS Z (fun hb325 => ?_) (fun hb325 => ?_)
      ·replace H := y3f hb325 H
       refine wp_skip ?_
       change Code.wp _ _ _ _ _
       obtain ⟨v327, H, Hl329⟩ := y0b H
       refine y4u (fun a w326 => ∃ (g326 : Nat → Nat), Sl 161 a [(3, .slice A8 v11.length cap9), (4, i6 (min (p0.length : Int) 8)), (11, .slice A308 v327.length cap309), (12, i6 m3_1)] ∧ OwS y0f 30 w326 g326 (N + 12) A308 cap309 v327 ∧ OwS y0f 30 w326 g326 (N + 10) A8 cap9 v11 ∧ Fr (fun q => (r0 ≤ q ∧ q < r0 + 2) ∨ N ≤ q) w g w326 g326) ?_ ?_
       ·refine wp_block ?_
        obtain ⟨x332, hx333, H⟩ := y0b H
        refine y0t (fun K hK => ?_)
        refine y00 hS Z Z Z (y03 hS Z Z) fun a330 S330 => y00 S330 Z Z Z (y03 S330 Z Z) fun a331 S331 => ?_
        obtain ⟨_, ⟨A335, cap336, rfl, h337⟩, hel334⟩ := El.of (OwD.rdx h10) hx333 (by decide)
        replace hel334 : El w320 g320 (fun q => q = N + 10) A8 (m3_1.toNat * 3) [i6 x332.Parent, .slice A335 x332.Suppliers.length cap336, .int .u64 x332.Delay] := hel334
        refine y00 S331 Z Z Z (y1j (e := 30) (sz := 3) (by_ := 40) S331 Z Z Z (by kernel_rfl) (RdS.some_ (OwS.rd h10) hx333) (y26 hx333) (y27 hx333)) fun a340 S340 => y00 S340 Z Z Z (y2w (off := 2) S340 Z Z (by kernel_rfl)) fun a341 S341 => y00 S341 Z Z Z (y0u (n := 1) S341 Z Z (by kernel_rfl) (El.cell (j := 2) hel334 Z)) fun a342 S342 => y00 S342 Z Z Z (r_build (parts := [(0, i6 (-1)), (2, .int .u64 x332.Delay)]) (u := .agg #[i6 (-1), .slice none 0 0, .int .u64 x332.Delay]) S342 Z Z (fun _ => by kernel_rfl)) fun a343 S343 => ?_
        refine y41 S343 Z Z Z (e_alloc (cs := [i6 0, .slice none 0 0, .int .u64 0]) (N + 14) g320 S343 Z (by kernel_rfl)) ?_
        rintro _ a347 w348 g348 ⟨⟨b344, rfl, h345⟩, F348⟩ S347
        replace h310 := OwS.fr h310 F348 (fun _ _ h => h)
        replace h337 := RdS.fr h337 F348 (by decide) (fun _ _ h => h)
        replace hel334 := hel334.fr F348 (fun _ _ h => h)
        replace h10 := OwS.fr h10 F348 (fun _ _ h => h)
        replace hF := hF.trans F348 (fun _ h => h.elim)
        refine y3s S347 Z Z (y4a (n := 3) (bb := true) (cs' := [i6 (-1), .slice none 0 0, .int .u64 x332.Delay]) g348 S347 Z Z Z (by kernel_rfl) Z Z Z h345 Z Z) ?_
        rintro a349 w350 g350 ⟨h345, F350⟩ S349
        replace h310 := OwS.fr h310 F350 (fun c' hc (hm : c' = N + 14) => by omega)
        replace h337 := RdS.fr h337 F350 (by decide) (fun q (hq : q = N + 10 + 1) (hm : q = N + 14) => by omega)
        replace hel334 := hel334.fr F350 (fun q (hq : q = N + 10) (hm : q = N + 14) => by omega)
        replace h10 := OwS.fr h10 F350 (fun c' hc (hm : c' = N + 14) => by omega)
        replace hF := hF.trans F350 (fun c' (hm : c' = N + 14) => by (try dsimp only); omega)
        refine wpList_nil (hK _ _ ?_)
        replace hS : Sl 161 _ [(3, .slice A8 v11.length cap9), (4, i6 (min (p0.length : Int) 8)), (11, .slice A308 m3_0.length cap309), (12, i6 m3_1), (13, .pointer (so b344))] := S349.re ⟨Z, Z, Z, Z, Z, trivial⟩
        clear hK K
        try clear S330 S331 S340 S341 S342 S343 S347 S349
        generalize a349 = a at hS ⊢
        obtain ⟨v352, H, Hl354⟩ := y0b H
        refine y4u (fun a w351 => ∃ (g351 : Nat → Nat), Sl 161 a [(3, .slice A8 v11.length cap9), (4, i6 (min (p0.length : Int) 8)), (11, .slice A308 m3_0.length cap309), (12, i6 m3_1), (13, .pointer (so b344))] ∧ OwS y0f 30 w351 g351 (N + 12) A308 cap309 m3_0 ∧ Bx w351 g351 (N + 14) b344 30 [i6 v352.Parent, .slice none 0 0, .int .u64 v352.Delay] ∧ OwS y0f 30 w351 g351 (N + 10) A8 cap9 v11 ∧ Fr (fun q => (r0 ≤ q ∧ q < r0 + 2) ∨ N ≤ q) w g w351 g351) ?_ ?_
        ·refine y0t (fun K hK => ?_)
         refine y00 hS Z Z Z (y03 hS Z Z) fun a355 S355 => y00 S355 Z Z Z (y03 S355 Z Z) fun a356 S356 => ?_
         obtain ⟨_, ⟨A358, cap359, rfl, h360⟩, hel357⟩ := El.of (OwD.rdx h10) hx333 (by decide)
         replace hel357 : El w350 g350 (fun q => q = N + 10) A8 (m3_1.toNat * 3) [i6 x332.Parent, .slice A358 x332.Suppliers.length cap359, .int .u64 x332.Delay] := hel357
         refine y00 S356 Z Z Z (y1j (e := 30) (sz := 3) (by_ := 40) S356 Z Z Z (by kernel_rfl) (RdS.some_ (OwS.rd h10) hx333) (y26 hx333) (y27 hx333)) fun a363 S363 => y00 S363 Z Z Z (y2w (off := 0) S363 Z Z (by kernel_rfl)) fun a364 S364 => y00 S364 Z Z Z (y0u (n := 1) S364 Z Z (by kernel_rfl) (El.cell (j := 0) hel357 Z)) fun a365 S365 => y00 S365 Z Z Z (y2l S365 Z Z rfl b_geq) fun a366 S366 => wpList_nil (hK _ _ ?_)
         replace hS : Sl 161 _ [(3, .slice A8 v11.length cap9), (4, i6 (min (p0.length : Int) 8)), (11, .slice A308 m3_0.length cap309), (12, i6 m3_1), (13, .pointer (so b344)), (117, .bool (decide (0 ≤ x332.Parent)))] := S366.re ⟨Z, Z, Z, Z, Z, Z, trivial⟩
         clear hK K
         try clear S355 S356 S363 S364 S365 S366
         generalize a366 = a at hS ⊢
         refine y2m hS Z (fun hb367 => ?_) (fun hb367 => ?_)
         ·replace H := y3f hb367 H
          refine y3l (fun K hK => ?_)
          refine y00 hS Z Z Z (y03 hS Z Z) fun a368 S368 => y00 S368 Z Z Z (y2l S368 Z Z rfl b_sub) fun a369 S369 => y00 S369 Z Z Z (y03 S369 Z Z) fun a370 S370 => y00 S370 Z Z Z (y03 S370 Z Z) fun a371 S371 => ?_
          obtain ⟨_, ⟨A373, cap374, rfl, h375⟩, hel372⟩ := El.of (OwD.rdx h10) hx333 (by decide)
          replace hel372 : El w350 g350 (fun q => q = N + 10) A8 (m3_1.toNat * 3) [i6 x332.Parent, .slice A373 x332.Suppliers.length cap374, .int .u64 x332.Delay] := hel372
          refine y00 S371 Z Z Z (y1j (e := 30) (sz := 3) (by_ := 40) S371 Z Z Z (by kernel_rfl) (RdS.some_ (OwS.rd h10) hx333) (y26 hx333) (y27 hx333)) fun a378 S378 => y00 S378 Z Z Z (y2w (off := 0) S378 Z Z (by kernel_rfl)) fun a379 S379 => y00 S379 Z Z Z (y0u (n := 1) S379 Z Z (by kernel_rfl) (El.cell (j := 0) hel372 Z)) fun a380 S380 => y00 S380 Z Z Z (y2l S380 Z Z rfl b_sub) fun a381 S381 => y00 S381 Z Z Z (y1e (off := 0) S381 Z Z (by kernel_rfl)) fun a382 S382 => ?_
          refine y3s S382 Z Z (y4a (n := 1) (bb := false) (cs' := [i6 (wi ((wi ((min (p0.length : Int) 8) - 1)) - x332.Parent)), .slice none 0 0, .int .u64 x332.Delay]) g350 S382 Z Z Z (by kernel_rfl) Z Z Z h345 Z Z) ?_
          rintro a383 w384 g384 ⟨h345, F384⟩ S383
          replace h310 := OwS.fr h310 F384 (fun c' hc (hm : c' = N + 14) => by omega)
          replace h375 := RdS.fr h375 F384 (by decide) (fun q (hq : q = N + 10 + 1) (hm : q = N + 14) => by omega)
          replace hel372 := hel372.fr F384 (fun q (hq : q = N + 10) (hm : q = N + 14) => by omega)
          replace h10 := OwS.fr h10 F384 (fun c' hc (hm : c' = N + 14) => by omega)
          replace hF := hF.trans F384 (fun c' (hm : c' = N + 14) => by (try dsimp only); omega)
          refine wpList_nil (hK _ _ ?_)
          replace hS : Sl 161 _ [(3, .slice A8 v11.length cap9), (4, i6 (min (p0.length : Int) 8)), (11, .slice A308 m3_0.length cap309), (12, i6 m3_1), (13, .pointer (so b344))] := S383.re ⟨Z, Z, Z, Z, Z, trivial⟩
          clear hK K
          try clear S368 S369 S370 S371 S378 S379 S380 S381 S382 S383
          generalize a383 = a at hS ⊢
          have e := Option.some.inj H
          subst e
          exact ⟨g384, hS.re ⟨Z, Z, Z, Z, Z, trivial⟩, h310, h345, h10, hF⟩
         ·replace H := y3g hb367 H
          refine wp_skip ?_
          have e := Option.some.inj H
          subst e
          exact ⟨g350, hS.re ⟨Z, Z, Z, Z, Z, trivial⟩, h310, h345, h10, hF⟩
        ·clear H
         clear h10 h310 h345 hF
         clear hS
         rintro a w351 ⟨g351, hS, h310, h345, h10, hF⟩
         have H := Hl354
         clear Hl354
         obtain ⟨v389, H, Hl391⟩ := y0b H
         refine y4u (fun a w385 => ∃ (g385 : Nat → Nat), ∃ (A386 : Option Addr), ∃ (cap387 : Nat), Sl 161 a [(3, .slice A8 v11.length cap9), (4, i6 (min (p0.length : Int) 8)), (11, .slice A308 m3_0.length cap309), (12, i6 m3_1), (13, .pointer (so b344))] ∧ OwS y0f 30 w385 g385 (N + 12) A308 cap309 m3_0 ∧ Bx w385 g385 (N + 14) b344 30 [i6 v389.Parent, .slice A386 v389.Suppliers.length cap387, .int .u64 v389.Delay] ∧ OwS y0f 30 w385 g385 (N + 10) A8 cap9 v11 ∧ OwS (kint .i64) 3 w385 g385 (N + 18) A386 cap387 v389.Suppliers ∧ Fr (fun q => (r0 ≤ q ∧ q < r0 + 2) ∨ N ≤ q) w g w385 g385) ?_ ?_
         ·refine y16 [(3, .slice A8 v11.length cap9), (4, i6 (min (p0.length : Int) 8)), (11, .slice A308 m3_0.length cap309), (12, i6 m3_1), (13, .pointer (so b344)), (14, i6 0)] (fun R hR => y00 hS Z Z Z (y02 hS Z Z) fun a392 S392 => wpList_nil (hR _ (S392.re ⟨Z, Z, Z, Z, Z, Z, trivial⟩))) ?_
          clear hS a; intro a hS
          refine wp_block ?_
          refine wp_loop_ghost (fun kq => fun a w393 => ∃ (m4_0 : y08), ∃ (m4_1 : Int), ∃ (g393 : Nat → Nat), ∃ (A394 : Option Addr), ∃ (cap395 : Nat), y1t.l4 p0 x332 kq m4_0 m4_1 = some v389 ∧ Sl 161 a [(3, .slice A8 v11.length cap9), (4, i6 (min (p0.length : Int) 8)), (11, .slice A308 m3_0.length cap309), (12, i6 m3_1), (13, .pointer (so b344)), (14, i6 m4_1)] ∧ OwS y0f 30 w393 g393 (N + 12) A308 cap309 m3_0 ∧ Bx w393 g393 (N + 14) b344 30 [i6 m4_0.Parent, .slice A394 m4_0.Suppliers.length cap395, .int .u64 m4_0.Delay] ∧ OwS y0f 30 w393 g393 (N + 10) A8 cap9 v11 ∧ OwS (kint .i64) 3 w393 g393 (N + 18) A394 cap395 m4_0.Suppliers ∧ Fr (fun q => (r0 ≤ q ∧ q < r0 + 2) ∨ N ≤ q) w g w393 g393) FUEL ?_ ?_
          ·exact ⟨(y08.mk v352.Parent ([] : List Int) v352.Delay), 0, g351, none, 0, H, hS.re ⟨Z, Z, Z, Z, Z, Z, trivial⟩, h310, h345, h10, OwS.nil (kint .i64) 3 w351 g351 (N + 18), hF⟩
          ·clear H
           clear h10 h310 h345 hF
           clear hS
           rintro k397 a w393 ⟨m4_0, m4_1, g393, A394, cap395, hpre0, hS, h310, h345, h10, h396, hF⟩
           have H := hpre0
           clear hpre0
           cases k397 with
           | zero => exact absurd H (by simp [y1t.l4])
           | succ k397 =>
            rw [y1t.l4] at H
            refine wp_seq ?_
            refine y0t (fun K hK => ?_)
            refine y00 hS Z Z Z (y03 hS Z Z) fun a398 S398 => y00 S398 Z Z Z (y03 S398 Z Z) fun a399 S399 => y00 S399 Z Z Z (y03 S399 Z Z) fun a400 S400 => ?_
            obtain ⟨_, ⟨A402, cap403, rfl, h404⟩, hel401⟩ := El.of (OwD.rdx h10) hx333 (by decide)
            replace hel401 : El w393 g393 (fun q => q = N + 10) A8 (m3_1.toNat * 3) [i6 x332.Parent, .slice A402 x332.Suppliers.length cap403, .int .u64 x332.Delay] := hel401
            refine y00 S400 Z Z Z (y1j (e := 30) (sz := 3) (by_ := 40) S400 Z Z Z (by kernel_rfl) (RdS.some_ (OwS.rd h10) hx333) (y26 hx333) (y27 hx333)) fun a407 S407 => y00 S407 Z Z Z (y2w (off := 1) S407 Z Z (by kernel_rfl)) fun a408 S408 => y00 S408 Z Z Z (y0u (n := 1) S408 Z Z (by kernel_rfl) (El.cell (j := 1) hel401 Z)) fun a409 S409 => y00 S409 Z Z Z (y4x (e := 3) (sz := 1) (by_ := 8) S409 Z Z (by kernel_rfl)) fun a410 S410 => y00 S410 Z Z Z (y2l S410 Z Z rfl y4t) fun a411 S411 => wpList_nil (hK _ _ ?_)
            replace hS : Sl 161 _ [(3, .slice A8 v11.length cap9), (4, i6 (min (p0.length : Int) 8)), (11, .slice A308 m3_0.length cap309), (12, i6 m3_1), (13, .pointer (so b344)), (14, i6 m4_1), (134, .bool (decide (m4_1 < (x332.Suppliers.length : Int))))] := S411.re ⟨Z, Z, Z, Z, Z, Z, Z, trivial⟩
            clear hK K
            try clear S398 S399 S400 S407 S408 S409 S410 S411
            generalize a411 = a at hS ⊢
            refine y2m hS Z (fun hb412 => ?_) (fun hb412 => ?_)
            ·replace H := y3f hb412 H
             refine wp_skip ?_
             change Code.wp _ _ _ _ _
             refine wp_seq ?_
             refine wp_block ?_
             obtain ⟨x419, hx420, H⟩ := y0b H
             obtain ⟨y424, hy425, H⟩ := y0b H
             refine c_draw1 (fun K hK => y4m (fun q => q = N + 18) g393 [16] 17 (ba 0 17) (by kernel_rfl) Z Z (fun w430 hw430 => ?_))
             have F430 : Fr (fun _ => False) w393 g393 w430 g393 := by rw [hw430]; exact Fr.drew _ _ _
             replace h310 := OwS.fr h310 F430 (fun _ _ h => h)
             replace h345 := h345.fr F430 (fun h => h)
             replace h10 := OwS.fr h10 F430 (fun _ _ h => h)
             replace h396 := OwS.fr h396 F430 (fun _ _ h => h)
             replace hF := hF.trans F430 (fun _ h => h.elim)
             have hC : Fr (fun q => q = N + 18) w430 g393 w430 g393 := Fr.refl _ _ _
             refine y1b hS 0 (ba 1 16) Z Z Z Z (by kernel_rfl) (fun _ _ _ h => h) (fun _ => (y1e (off := 1) hS Z Z (by kernel_rfl))) fun a431 S431 => y3w S431 1 (ba 2 15) Z Z Z Z (by kernel_rfl) (fun _ _ _ h => h) ⟨_, hC⟩ (fun w' g' Fz => (y0u (n := 1) S431 Z Z (by kernel_rfl) (Bx.cell (h345.fr Fz (fun (hm : N + 14 = N + 18) => by omega)) Z))) fun a432 S432 => y1b S432 2 (ba 3 14) Z Z Z Z (by kernel_rfl) (fun _ _ _ h => h) (fun _ => (y03 S432 Z Z)) fun a433 S433 => y1b S433 3 (ba 4 13) Z Z Z Z (by kernel_rfl) (fun _ _ _ h => h) (fun _ => (y2l S433 Z Z rfl b_sub)) fun a434 S434 => y1b S434 4 (ba 5 12) Z Z Z Z (by kernel_rfl) (fun _ _ _ h => h) (fun _ => (y03 S434 Z Z)) fun a435 S435 => y1b S435 5 (ba 6 11) Z Z Z Z (by kernel_rfl) (fun _ _ _ h => h) (fun _ => (y03 S435 Z Z)) fun a436 S436 => ?_
             obtain ⟨_, ⟨A438, cap439, rfl, h440⟩, hel437⟩ := El.of (OwD.rdx h10) hx333 (by decide)
             replace hel437 : El w430 g393 (fun q => q = N + 10) A8 (m3_1.toNat * 3) [i6 x332.Parent, .slice A438 x332.Suppliers.length cap439, .int .u64 x332.Delay] := hel437
             refine y1b S436 6 (ba 7 10) Z Z Z Z (by kernel_rfl) (fun _ _ _ h => h) (fun _ => (y1j (e := 30) (sz := 3) (by_ := 40) S436 Z Z Z (by kernel_rfl) (RdS.some_ (OwS.rd h10) hx333) (y26 hx333) (y27 hx333))) fun a443 S443 => y1b S443 7 (ba 8 9) Z Z Z Z (by kernel_rfl) (fun _ _ _ h => h) (fun _ => (y2w (off := 1) S443 Z Z (by kernel_rfl))) fun a444 S444 => y3w S444 8 (ba 9 8) Z Z Z Z (by kernel_rfl) (fun _ _ _ h => h) ⟨_, hC⟩ (fun w' g' Fz => (y0u (n := 1) S444 Z Z (by kernel_rfl) (El.cell (j := 1) (hel437.fr Fz (fun q (hq : q = N + 10) (hm : q = N + 18) => by omega)) Z))) fun a445 S445 => y1b S445 9 (ba 10 7) Z Z Z Z (by kernel_rfl) (fun _ _ _ h => h) (fun _ => (y03 S445 Z Z)) fun a446 S446 => y1b S446 10 (ba 11 6) Z Z Z Z (by kernel_rfl) (fun _ _ _ h => h) (fun _ => (y1j (e := 3) (sz := 1) (by_ := 8) S446 Z Z Z (by kernel_rfl) (RdS.some_ h440 hx420) (y26 hx420) (y27 hx420))) fun a447 S447 => y3w S447 11 (ba 12 5) Z Z Z Z (by kernel_rfl) (fun _ _ _ h => h) ⟨_, hC⟩ (fun w' g' Fz => (y0u (n := 1) S447 Z Z (by kernel_rfl) (RdS.cell (i := m4_1) (sz := 1) (j := 0) (RdS.fr h440 Fz (by decide) (fun q (hq : q = N + 10 + 1) (hm : q = N + 18) => by omega)) hx420 Z))) fun a448 S448 => y1b S448 12 (ba 13 4) Z Z Z Z (by kernel_rfl) (fun _ _ _ h => h) (fun _ => (y2l S448 Z Z rfl b_sub)) fun a449 S449 => ?_
             refine d_one 13 (ba 14 3) Z (by kernel_rfl) (y43 S449 Z Z Z (e_lit (e := 3) (parts := [(0, i6 (wi ((wi ((min (p0.length : Int) 8) - 1)) - x419)))]) (cs := [i6 (wi ((wi ((min (p0.length : Int) 8) - 1)) - x419))]) (kint .i64) [wi ((wi ((min (p0.length : Int) 8) - 1)) - x419)] (N + 16) g393 S449 Z Z (fun _ => by kernel_rfl) Z (by decide) (Rows.cons (cs := [i6 (wi ((wi ((min (p0.length : Int) 8) - 1)) - x419))]) rfl Rows.nil)) (fun _ _ g' hR _ => ⟨g', hC.trans hR.2 (fun _ h => h.elim)⟩) ?_)
             rintro _ a453 w454 g454 ⟨⟨A450, rfl, h451⟩, F454⟩ S453
             have hC454 := hC.trans F454 (fun _ h => h.elim)
             replace h310 := OwS.fr h310 F454 (fun _ _ h => h)
             replace h345 := h345.fr F454 (fun h => h)
             replace h440 := RdS.fr h440 F454 (by decide) (fun _ _ h => h)
             replace hel437 := hel437.fr F454 (fun _ _ h => h)
             replace h10 := OwS.fr h10 F454 (fun _ _ h => h)
             replace h396 := OwS.fr h396 F454 (fun _ _ h => h)
             replace hF := hF.trans F454 (fun _ h => h.elim)
             refine d_one 14 (ba 15 2) Z (by kernel_rfl) (y43 S453 Z Z Z (y4g (e := 3) (sz := 1) (by_ := 8) (z := [i6 0]) (kd := (kint .i64)) g454 S453 Z Z Z Z (by kernel_rfl) (by kernel_rfl) Z Z Z Z h396 (OwD.rdx h451) (fun _ _ _ h => h) hy425) (fun _ _ g' hR _ => ⟨g', hC454.trans hR.2 (fun c' (hm : c' = N + 18) => by (try dsimp only); omega)⟩) ?_)
             rintro _ a459 w460 g460 ⟨⟨A455, cap456, rfl, h457⟩, F460⟩ S459
             have hC460 := hC454.trans F460 (fun c' (hm : c' = N + 18) => by (try dsimp only); omega)
             replace h310 := OwS.fr h310 F460 (fun c' hc (hm : c' = N + 18) => by omega)
             replace h345 := h345.fr F460 (fun (hm : N + 14 = N + 18) => by omega)
             replace h440 := RdS.fr h440 F460 (by decide) (fun q (hq : q = N + 10 + 1) (hm : q = N + 18) => by omega)
             replace hel437 := hel437.fr F460 (fun q (hq : q = N + 10) (hm : q = N + 18) => by omega)
             replace h451 := OwS.fr h451 F460 (fun c' hc (hm : c' = N + 18) => by omega)
             replace h10 := OwS.fr h10 F460 (fun c' hc (hm : c' = N + 18) => by omega)
             replace hF := hF.trans F460 (fun c' (hm : c' = N + 18) => by (try dsimp only); omega)
             refine y1b S459 15 (ba 16 1) Z Z Z Z (by kernel_rfl) (fun _ _ _ h => h) (fun _ => (y1e (off := 1) S459 Z Z (by kernel_rfl))) fun a461 S461 => ?_
             refine d_one 16 (ba 17 0) Z (by kernel_rfl) (arm_effS S461 Z Z (y4a (n := 1) (bb := false) (cs' := [i6 m4_0.Parent, .slice A455 y424.length cap456, .int .u64 m4_0.Delay]) g460 S461 Z Z Z (by kernel_rfl) Z Z Z h345 Z Z) (.inl (by decide)) ?_)
             rintro a462 w463 g463 ⟨h345, F463⟩ S462
             replace h310 := OwS.fr h310 F463 (fun c' hc (hm : c' = N + 14) => by omega)
             replace h440 := RdS.fr h440 F463 (by decide) (fun q (hq : q = N + 10 + 1) (hm : q = N + 14) => by omega)
             replace hel437 := hel437.fr F463 (fun q (hq : q = N + 10) (hm : q = N + 14) => by omega)
             replace h451 := OwS.fr h451 F463 (fun c' hc (hm : c' = N + 14) => by omega)
             replace h457 := OwS.fr h457 F463 (fun c' hc (hm : c' = N + 14) => by omega)
             replace h10 := OwS.fr h10 F463 (fun c' hc (hm : c' = N + 14) => by omega)
             replace hF := hF.trans F463 (fun c' (hm : c' = N + 14) => by (try dsimp only); omega)
             refine y4v (by kernel_rfl) (hK _ _ ?_)
             replace hS : Sl 161 _ [(3, .slice A8 v11.length cap9), (4, i6 (min (p0.length : Int) 8)), (11, .slice A308 m3_0.length cap309), (12, i6 m3_1), (13, .pointer (so b344)), (14, i6 m4_1)] := S462.re ⟨Z, Z, Z, Z, Z, Z, trivial⟩
             clear hK K hC
             try clear S431 S432 S433 S434 S435 S436 S443 S444 S445 S446 S447 S448 S449 S453 S459 S461 S462
             generalize a462 = a at hS ⊢
             change Code.wp _ _ _ _ _
             refine y3e [(3, .slice A8 v11.length cap9), (4, i6 (min (p0.length : Int) 8)), (11, .slice A308 m3_0.length cap309), (12, i6 m3_1), (13, .pointer (so b344)), (14, i6 (wi (m4_1 + 1)))] (fun R hR => y00 hS Z Z Z (y03 hS Z Z) fun a464 S464 => y00 S464 Z Z Z (y2l S464 Z Z rfl y4z) fun a465 S465 => y00 S465 Z Z Z (y02 S465 Z Z) fun a466 S466 => wpList_nil (hR _ (S466.re ⟨Z, Z, Z, Z, Z, Z, trivial⟩))) ?_
             clear hS a; intro a hS
             refine ⟨k397, Nat.lt_succ_self _, ?_⟩
             exact ⟨(y08.mk m4_0.Parent y424 m4_0.Delay), wi (m4_1 + 1), g463, A455, cap456, H, hS.re ⟨Z, Z, Z, Z, Z, Z, trivial⟩, h310, h345, h10, h457, hF⟩
            ·replace H := y3g hb412 H
             refine wp_exit ?_
             have e := Option.some.inj H
             subst e
             exact ⟨g393, A394, cap395, hS.re ⟨Z, Z, Z, Z, Z, trivial⟩, h310, h345, h10, h396, hF⟩
         ·clear H
          clear h10 h310 h345 hF
          clear hS
          rintro a w385 ⟨g385, A386, cap387, hS, h310, h345, h10, h388, hF⟩
          have H := Hl391
          clear Hl391
          obtain ⟨x473, hx474, H⟩ := y0b H
          refine y3l (fun K hK => ?_)
          refine y00 hS Z Z Z (y03 hS Z Z) fun a467 S467 => y00 S467 Z Z Z (y03 S467 Z Z) fun a468 S468 => y00 S468 Z Z Z (y2l S468 Z Z rfl b_sub) fun a469 S469 => y00 S469 Z Z Z (y03 S469 Z Z) fun a470 S470 => y00 S470 Z Z Z (y2l S470 Z Z rfl b_sub) fun a471 S471 => y00 S471 Z Z Z (r_loadN (n := 3) (cs := [i6 v389.Parent, .slice A386 v389.Suppliers.length cap387, .int .u64 v389.Delay]) S471 Z Z (by kernel_rfl) Z (Bx.cells_off h345 0 3)) fun a472 S472 => ?_
          obtain ⟨_, ⟨A476, cap477, rfl, h478⟩, hel475⟩ := El.of (OwD.rdx h310) hx474 (by decide)
          replace hel475 : El w385 g385 (fun q => q = N + 12) A308 ((wi ((wi ((min (p0.length : Int) 8) - 1)) - m3_1)).toNat * 3) [i6 x473.Parent, .slice A476 x473.Suppliers.length cap477, .int .u64 x473.Delay] := hel475
          refine y00 S472 Z Z Z (y1j (e := 30) (sz := 3) (by_ := 40) S472 Z Z Z (by kernel_rfl) (RdS.some_ (OwS.rd h310) hx474) (y26 hx474) (y27 hx474)) fun a481 S481 => ?_
          have F482 : Fr (fun q => q = N + 18) w385 g385 w385 (y4y g385 (N + 18) (N + 12 + 1)) := Fr.y4y w385 g385 (N + 18) (N + 12 + 1) rfl
          replace h310 := OwS.fr h310 F482 (fun c' hc (hm : c' = N + 18) => by omega)
          replace h345 := h345.fr F482 (fun (hm : N + 14 = N + 18) => by omega)
          replace h478 := RdS.fr h478 F482 (by decide) (fun q (hq : q = N + 12 + 1) (hm : q = N + 18) => by omega)
          replace hel475 := hel475.fr F482 (fun q (hq : q = N + 12) (hm : q = N + 18) => by omega)
          replace h10 := OwS.fr h10 F482 (fun c' hc (hm : c' = N + 18) => by omega)
          replace h388 : RdS (kint .i64) w385 (y4y g385 (N + 18) (N + 12 + 1)) (fun q => q = N + 12 + 1) A386 cap387 v389.Suppliers := RdS.recolC (OwD.rdf (fun _ _ _ _ _ _ h => h) h388) (by decide) (N + 18) (N + 12 + 1) (fun q (hq : q = N + 18) => show (fun q => q = N + 12 + 1) (if q = N + 18 then N + 12 + 1 else q) from (by rw [if_pos hq] <;> exact rfl))
          replace hF := hF.trans F482 (fun c' (hm : c' = N + 18) => by (try dsimp only); omega)
          refine y3s S481 Z Z (e_storeW (n := 3) (bb := true) (kd := y0f) (x' := v389) (us := [i6 v389.Parent, .slice A386 v389.Suppliers.length cap387, .int .u64 v389.Delay]) (y4y g385 (N + 18) (N + 12 + 1)) S481 Z Z Z Z (by kernel_rfl) Z Z h310 (fun q (hq : q = N + 12 + 1) => by omega) hx474 ⟨A386, cap387, rfl, h388⟩) ?_
          rintro a483 w484 g484 ⟨h310, F484⟩ S483
          replace h345 := h345.fr F484 (fun (hm : N + 14 = N + 12) => by omega)
          replace h478 := RdS.fr h478 F484 (by decide) (fun q (hq : q = N + 12 + 1) (hm : q = N + 12) => by omega)
          replace h10 := OwS.fr h10 F484 (fun c' hc (hm : c' = N + 12) => by omega)
          replace h388 := RdS.fr h388 F484 (by decide) (fun q (hq : q = N + 12 + 1) (hm : q = N + 12) => by omega)
          replace hF := hF.trans F484 (fun c' (hm : c' = N + 12) => by (try dsimp only); omega)
          have hT : Sl 161 a483 [(3, .slice A8 v11.length cap9), (4, i6 (min (p0.length : Int) 8)), (11, .slice A308 m3_0.length cap309), (12, i6 m3_1)] := S483.re ⟨Z, Z, Z, Z, trivial⟩
          replace S483 : Sl 161 a483 [(3, .slice A8 v11.length cap9), (4, i6 (min (p0.length : Int) 8)), (11, .slice A308 (upd m3_0 (wi ((wi ((min (p0.length : Int) 8) - 1)) - m3_1)) v389).length cap309), (12, i6 m3_1)] := by simpa only [y1w] using hT
          clear hT
          refine wpList_nil (hK _ _ ?_)
          replace hS : Sl 161 _ [(3, .slice A8 v11.length cap9), (4, i6 (min (p0.length : Int) 8)), (11, .slice A308 (upd m3_0 (wi ((wi ((min (p0.length : Int) 8) - 1)) - m3_1)) v389).length cap309), (12, i6 m3_1)] := S483.re ⟨Z, Z, Z, Z, trivial⟩
          clear hK K
          try clear S467 S468 S469 S470 S471 S472 S481 S483
          generalize a483 = a at hS ⊢
          have e := Option.some.inj H
          subst e
          exact ⟨g484, hS.re ⟨Z, Z, Z, Z, trivial⟩, h310, h10, hF⟩
       ·clear H
        clear h10 h310 hF
        clear hS
        rintro a w326 ⟨g326, hS, h310, h10, hF⟩
        have H := Hl329
        clear Hl329
        refine y3e [(3, .slice A8 v11.length cap9), (4, i6 (min (p0.length : Int) 8)), (11, .slice A308 v327.length cap309), (12, i6 (wi (m3_1 + 1)))] (fun R hR => y00 hS Z Z Z (y03 hS Z Z) fun a485 S485 => y00 S485 Z Z Z (y2l S485 Z Z rfl y4z) fun a486 S486 => y00 S486 Z Z Z (y02 S486 Z Z) fun a487 S487 => wpList_nil (hR _ (S487.re ⟨Z, Z, Z, Z, trivial⟩))) ?_
        clear hS a; intro a hS
        refine ⟨k321, Nat.lt_succ_self _, ?_⟩
        exact ⟨v327, wi (m3_1 + 1), g326, H, hS.re ⟨Z, Z, Z, Z, trivial⟩, h310, h10, hF⟩
      ·replace H := y3g hb325 H
       refine wp_exit ?_
       have e := Option.some.inj H
       subst e
       exact ⟨g320, hS.re ⟨Z, trivial⟩, h310, hF⟩
   ·clear H
    clear h10 h310 hF
    clear hS
    rintro a w315 ⟨g315, hS, h310, hF⟩
    have H := Hl318
    clear Hl318
    refine y16 [(2, .slice A308 v316.length cap309)] (fun R hR => y00 hS Z Z Z (y03 hS Z Z) fun a488 S488 => y00 S488 Z Z Z (y02 S488 Z Z) fun a489 S489 => wpList_nil (hR _ (S489.re ⟨Z, trivial⟩))) ?_
    clear hS a; intro a hS
    refine wp_ret ?_
    have e := Option.some.inj H
    subst e
    have F490 := Fr.y2f w315 g315 (N + 12) r0
    replace h310 := h310.y2f r0
    replace hF := hF.trans F490 (fun c' (hm : c' = N + 12 ∨ c' = N + 12 + 1) => by (try dsimp only); omega)
    repeat (with_reducible first | refine y1i ?_ | refine y0o ?_)
    exact y3v hS Try.results17 rfl ⟨_, rfl, (y2f g315 (N + 12) r0), A308, cap309, rfl, h310, hF⟩


end Go.Proofs.Ytcfcffbjdjacfaa.Sim

namespace Go.Proofs.Ytcfcffbjdjacfaa.Sim
open Go
set_option linter.unusedVariables false
set_option linter.unusedSimpArgs false

/-! ### y36: function 73 -/
def y36.f (p0 : y06) (p1 : Int) : Option (Bool) := some ((decide (p1 < p0.Clock)) || (decide (1152921504606846976 < p1)))
set_option maxRecDepth 100000 in
set_option maxHeartbeats 4000000 in
theorem y36.calls {p0 : y06} {c0 : Nat} {y2a : Nat → Prop} {b_p0 : Nat} {y2o : Option Addr} {y1l : Nat} {y0x : Option Addr} {y0m : Nat} {y24 : Option Addr} {y1d : Nat} {y1m : Option Addr} {y0y : Nat} {y0z : Option Addr} {y0n : Nat} {p1 : Int} {w : World} {g : Nat → Nat} {out : Bool} (N : Nat) (hp0 : y2q w g c0 y2a b_p0 y2o y1l y0x y0m y24 y1d y1m y0y y0z y0n p0) (hc0 : c0 + 9 ≤ N) (y33 : ∀ c, y2a c → c < N ∧ (c < c0 ∨ c0 + 9 ≤ c)) (H : y36.f p0 p1 = some out) :
  Calls Try.prog 73 #[.pointer (so b_p0), .int .u64 p1] w (fun e w' => ∃ v, e = .returned v ∧ ∃ (g' : Nat → Nat), v = .bool out ∧ Fr (fun q => N ≤ q) w g w' g') := by
 unfold y36.f at H
 refine y1k Try.func73 rfl Try.ntmps73 Z (fun a hS => ?_)
 replace hS : Sl 15 a [(0, .pointer (so b_p0)), (1, .int .u64 p1)] := hS
 have hF : Fr (fun q => N ≤ q) w g w g := Fr.refl _ _ _
 obtain ⟨hb0, y2v, y0c, y1o, y14, y0d⟩ := hp0
 refine y16 [(0, .pointer (so b_p0)), (1, .int .u64 p1)] (fun R hR => y00 hS Z Z Z (y02 hS Z Z) fun a1 S1 => wpList_nil (hR _ (S1.re ⟨Z, Z, trivial⟩))) ?_
 clear hS a; intro a hS
 refine y0t (fun K hK => ?_)
 refine y00 hS Z Z Z (y03 hS Z Z) fun a2 S2 => y00 S2 Z Z Z (y03 S2 Z Z) fun a3 S3 => y00 S3 Z Z Z (y4s S3 Z Z) fun a4 S4 => y00 S4 Z Z Z (y1e (off := 5) S4 Z Z (by kernel_rfl)) fun a5 S5 => y00 S5 Z Z Z (y0u (n := 1) S5 Z Z (by kernel_rfl) (Bx.cell hb0 Z)) fun a6 S6 => y00 S6 Z Z Z (y2l S6 Z Z rfl y4t) fun a7 S7 => y00 S7 Z Z Z (y03 S7 Z Z) fun a8 S8 => ?_
 refine y4b (N := 15) 3 [(14, .bool ((decide (p1 < p0.Clock)) || (decide (1152921504606846976 < p1))))] ?_ (fun hk => ?_)
 rotate_left
 ·rcases Bool.eq_false_or_eq_true (decide (p1 < p0.Clock)) with hb9 | hb9
  ·refine y1c S8 (y05 S8 Z Z rfl hb9) Z Z fun a12 S12 => y1c S12 (y05 S12 Z Z rfl hb9) Z Z fun a13 S13 => y00 S13 Z Z Z (y2s S13 Z Z rfl hb9) fun a14 S14 => hk _ (S14.re ⟨(by rw [hb9]; rfl), trivial⟩)
  ·refine y0p S8 (y0a S8 Z Z rfl hb9) Z Z (y03 S8 Z Z) fun a15 S15 => y0p S15 (y0a S15 Z Z rfl hb9) Z Z (y2l S15 Z Z rfl b_gtr) fun a16 S16 => y00 S16 Z Z Z (y2t S16 Z Z rfl hb9) fun a17 S17 => hk _ (S17.re ⟨(by rw [hb9]; rfl), trivial⟩)
 intro a18 S18
 refine y00 S18 Z Z Z (y02 S18 Z Z) fun a19 S19 => wpList_nil (hK _ _ ?_)
 replace hS : Sl 15 _ [(4, .bool ((decide (p1 < p0.Clock)) || (decide (1152921504606846976 < p1))))] := S19.re ⟨Z, trivial⟩
 clear hK K
 try clear S2 S3 S4 S5 S6 S7 S8 S18 S19
 generalize a19 = a at hS ⊢
 refine wp_ret ?_
 have e := Option.some.inj H
 subst e
 repeat (with_reducible first | refine y1i ?_ | refine y0o ?_)
 exact y3v hS Try.results73 rfl ⟨_, rfl, g, rfl, hF⟩


end Go.Proofs.Ytcfcffbjdjacfaa.Sim
