/-
  Texts of this session, part 2 of 8: the words of the walk, plain functions with the same answers as the Go functions and the proofs of it, plain lemmas. No condition.
  They are, one behind the other: QDepgraphAdjacent QDepgraphQueueLen QDepgraphQueuePop QDepgraphQueueSwap QDepgraphQueueLess QHeapDown QHeapPop QDepgraphQueuePush QHeapUp QHeapPush QDepgraphSort QDepgraphValidate QDepgraphCheck QRailsNew QSlicesCloneIntInt.
-/
import Derived.Test.YtfhhklkmbcnhnaaProg
import Derived.Test.YtfhhklkmbcnhnaaZDeviceHierarchy1

namespace Go.Proofs.Ytfhhklkmbcnhnaa.Sim
open Go
set_option linter.unusedVariables false
set_option linter.unusedSimpArgs false

/-! ### depgraph_adjacent: function 77 -/
def depgraph_adjacent.l0 (p1 : List api_Link) : Nat → (List (List Int)) → (List Int) → Int → Option ((List (List Int)) × (List Int))
  | 0, _, _, _ => none
  | k100 + 1, m0_0, m0_1, m0_2 => if decide (m0_2 < (p1.length : Int)) = true then ((idx p1 m0_2).bind fun x103 => (idx m0_0 x103.Supplier).bind fun x114 => (app x114 [x103.Consumer]).bind fun y125 => (idx m0_1 x103.Consumer).bind fun x159 => depgraph_adjacent.l0 p1 k100 (upd m0_0 x103.Supplier y125) (upd m0_1 x103.Consumer (wi (x159 + 1))) (wi (m0_2 + 1))) else (some (m0_0, m0_1))
def depgraph_adjacent.f (p0 : Int) (p1 : List api_Link) : Option ((List (List Int)) × (List Int)) := (mk p0 ([] : List Int)).bind fun y3 => (mk p0 0).bind fun y10 => (depgraph_adjacent.l0 p1 FUEL y3 y10 0 : Option ((List (List Int)) × (List Int))).bind fun v92 => some (v92.1, v92.2)
set_option maxRecDepth 100000 in
set_option maxHeartbeats 4000000 in
theorem depgraph_adjacent.calls {p0 : Int} {p1 : List api_Link} {A1 : Option Addr} {cap1 : Nat} {C1 : Nat → Prop} {w : World} {g : Nat → Nat} {out : (List (List Int)) × (List Int)} (N : Nat) (r0 : Nat) (r1 : Nat) (hp1 : RdS kd_api_Link w g C1 A1 cap1 p1) (hC1 : ∀ c, C1 c → c < N) (hr0 : r0 + 2 ≤ N) (hr1 : r1 + 2 ≤ N) (ht1_0 : r1 + 2 ≤ r0 ∨ r0 + 2 ≤ r1) (H : depgraph_adjacent.f p0 p1 = some out) :
    Calls Try.prog 77 #[.int .i64 p0, .slice A1 p1.length cap1] w (fun e w' => ∃ v, e = .returned v ∧ ∃ (g' : Nat → Nat) (A_r0 : Option Addr) (cap_r0 : Nat) (A_r1 : Option Addr) (cap_r1 : Nat), v = .tuple #[.slice A_r0 out.1.length cap_r0, .slice A_r1 out.2.length cap_r1] ∧ OwS (kslice (kint .i64) (by decide)) 29 w' g' r0 A_r0 cap_r0 out.1 ∧ OwS (kint .i64) 3 w' g' r1 A_r1 cap_r1 out.2 ∧ Fr (fun q => (r0 ≤ q ∧ q < r0 + 2) ∨ (r1 ≤ q ∧ q < r1 + 2) ∨ N ≤ q) w g w' g') := by
  unfold depgraph_adjacent.f at H
  refine calls_enter Try.func77 rfl Try.ntmps77 rfl (fun a hS => ?_)
  replace hS : Sl 41 a [(0, .int .i64 p0), (1, .slice A1 p1.length cap1)] := hS
  have hF : Fr (fun q => (r0 ≤ q ∧ q < r0 + 2) ∨ (r1 ≤ q ∧ q < r1 + 2) ∨ N ≤ q) w g w g := Fr.refl _ _ _
  refine c_pure [(0, .int .i64 p0), (1, .slice A1 p1.length cap1)] (fun R hR => st_val hS rfl rfl rfl (r_assign hS rfl rfl) fun a1 hS1 => st_val hS1 rfl rfl rfl (r_assign hS1 rfl rfl) fun a2 hS2 => wpList_nil (hR _ (hS2.re ⟨rfl, rfl, trivial⟩))) ?_
  clear hS
  clear a
  intro a hS
  obtain ⟨y3, hy4, H⟩ := bind_el H
  obtain ⟨y10, hy11, H⟩ := bind_el H
  refine c_cut (fun a w49 => ∃ (g49 : Nat → Nat), ∃ (hs53 : List (Option Addr × Nat)), ∃ (A50 : Option Addr), ∃ (cap51 : Nat), ∃ (A54 : Option Addr), ∃ (cap55 : Nat), Sl 41 a [(1, .slice A1 p1.length cap1), (4, .slice A50 y3.length cap51), (5, .slice A54 y10.length cap55)] ∧ OwM (kint .i64) 29 3 w49 g49 (N + 0) A50 cap51 hs53 y3 (fun _ => False) ∧ OwS (kint .i64) 3 w49 g49 (N + 3) A54 cap55 y10 ∧ RdS kd_api_Link w49 g49 C1 A1 cap1 p1 ∧ Fr (fun q => (r0 ≤ q ∧ q < r0 + 2) ∨ (r1 ≤ q ∧ q < r1 + 2) ∨ N ≤ q) w g w49 g49) (d_start (fun q => False) g [] 6 #[false, false, false, false, false, false] (by kernel_rfl) rfl rfl (fun w57 hw57 => ?_)) ?_
  · have F57 : Fr (fun _ => False) w g w57 g := by rw [hw57]; exact Fr.drew _ _ _
    replace hp1 := RdS.fr hp1 F57 (by decide) (fun _ _ h => h)
    replace hF := hF.trans F57 (fun _ h => h.elim)
    have hC : Fr (fun q => False) w57 g w57 g := Fr.refl _ _ _
    refine d_pure hS 0 #[true, false, false, false, false, false] rfl rfl rfl rfl (by kernel_rfl) (fun _ _ _ h => h) (fun _ => (r_move hS rfl rfl)) fun a58 hS58 => d_pure hS58 2 #[true, false, true, false, false, false] rfl rfl rfl rfl (by kernel_rfl) (fun _ _ _ h => h) (fun _ => (r_move hS58 rfl rfl)) fun a59 hS59 => ?_
    refine d_two 1 3 #[true, true, true, false, false, false] #[true, false, true, true, false, false] rfl rfl (by kernel_rfl) (arm_eff hS59 rfl rfl rfl (e_makeM (kint .i64) (e := 29) (sz := 1) (by_ := 24) (E := 3) (N + 0) g hS59 rfl rfl (by kernel_rfl) (by kernel_rfl) rfl rfl hy4) (fun _ _ g' hR _ => ⟨g', hC.trans hR.2 (fun _ h => h.elim)⟩) ?_) (arm_eff hS59 rfl rfl rfl (e_make (e := 3) (sz := 1) (by_ := 8) (z := [.int .i64 0]) (kd := (kint .i64)) (N + 3) g hS59 rfl rfl (by kernel_rfl) (by kernel_rfl) rfl rfl rfl (fun _ _ _ => by exact rfl) hy11) (fun _ _ g' hR _ => ⟨g', hC.trans hR.2 (fun _ h => h.elim)⟩) ?_)
    · rintro _ a65 w66 g66 ⟨⟨A60, cap61, hs62, rfl, h63⟩, F66⟩ hS65
      have hC66 := hC.trans F66 (fun _ h => h.elim)
      replace hp1 := RdS.fr hp1 F66 (by decide) (fun _ _ h => h)
      replace hF := hF.trans F66 (fun _ h => h.elim)
      refine d_pure hS65 4 #[true, true, true, false, true, false] rfl rfl rfl rfl (by kernel_rfl) (fun _ _ _ h => h) (fun _ => (r_assign hS65 rfl rfl)) fun a67 hS67 => ?_
      refine d_one 3 #[true, true, true, true, true, false] rfl (by kernel_rfl) (arm_eff hS67 rfl rfl rfl (e_make (e := 3) (sz := 1) (by_ := 8) (z := [.int .i64 0]) (kd := (kint .i64)) (N + 3) g66 hS67 rfl rfl (by kernel_rfl) (by kernel_rfl) rfl rfl rfl (fun _ _ _ => by exact rfl) hy11) (fun _ _ g' hR _ => ⟨g', hC66.trans hR.2 (fun _ h => h.elim)⟩) ?_)
      rintro _ a72 w73 g73 ⟨⟨A68, cap69, rfl, h70⟩, F73⟩ hS72
      have hC73 := hC66.trans F73 (fun _ h => h.elim)
      replace h63 := OwM.fr h63 F73 (fun h => h) (fun h => h) (fun h => h)
      replace hp1 := RdS.fr hp1 F73 (by decide) (fun _ _ h => h)
      replace hF := hF.trans F73 (fun _ h => h.elim)
      refine d_pure hS72 5 #[true, true, true, true, true, true] rfl rfl rfl rfl (by kernel_rfl) (fun _ _ _ h => h) (fun _ => (r_assign hS72 rfl rfl)) fun a74 hS74 => d_done (by kernel_rfl) ?_
      exact ⟨g73, hs62, A60, cap61, A68, cap69, hS74.re ⟨rfl, rfl, rfl, trivial⟩, h63, h70, hp1, hF⟩
    · rintro _ a79 w80 g80 ⟨⟨A75, cap76, rfl, h77⟩, F80⟩ hS79
      have hC80 := hC.trans F80 (fun _ h => h.elim)
      replace hp1 := RdS.fr hp1 F80 (by decide) (fun _ _ h => h)
      replace hF := hF.trans F80 (fun _ h => h.elim)
      refine d_one 1 #[true, true, true, true, false, false] rfl (by kernel_rfl) (arm_eff hS79 rfl rfl rfl (e_makeM (kint .i64) (e := 29) (sz := 1) (by_ := 24) (E := 3) (N + 0) g80 hS79 rfl rfl (by kernel_rfl) (by kernel_rfl) rfl rfl hy4) (fun _ _ g' hR _ => ⟨g', hC80.trans hR.2 (fun _ h => h.elim)⟩) ?_)
      rintro _ a86 w87 g87 ⟨⟨A81, cap82, hs83, rfl, h84⟩, F87⟩ hS86
      have hC87 := hC80.trans F87 (fun _ h => h.elim)
      replace h77 := OwS.fr h77 F87 (fun _ _ h => h)
      replace hp1 := RdS.fr hp1 F87 (by decide) (fun _ _ h => h)
      replace hF := hF.trans F87 (fun _ h => h.elim)
      refine d_pure hS86 4 #[true, true, true, true, true, false] rfl rfl rfl rfl (by kernel_rfl) (fun _ _ _ h => h) (fun _ => (r_assign hS86 rfl rfl)) fun a88 hS88 => d_pure hS88 5 #[true, true, true, true, true, true] rfl rfl rfl rfl (by kernel_rfl) (fun _ _ _ h => h) (fun _ => (r_assign hS88 rfl rfl)) fun a89 hS89 => d_done (by kernel_rfl) ?_
      exact ⟨g87, hs83, A81, cap82, A75, cap76, hS89.re ⟨rfl, rfl, rfl, trivial⟩, h84, h77, hp1, hF⟩
  clear hp1 hF
  clear hS
  rintro a w49 ⟨g49, hs53, A50, cap51, A54, cap55, hS, h52, h56, hp1, hF⟩
  obtain ⟨v92, H, Hl94⟩ := bind_el H
  refine c_cut (fun a w90 => ∃ (g90 : Nat → Nat), ∃ (hs91 : List (Option Addr × Nat)), Sl 41 a [(4, .slice A50 v92.1.length cap51), (5, .slice A54 v92.2.length cap55)] ∧ OwM (kint .i64) 29 3 w90 g90 (N + 0) A50 cap51 hs91 v92.1 (fun _ => False) ∧ OwS (kint .i64) 3 w90 g90 (N + 3) A54 cap55 v92.2 ∧ Fr (fun q => (r0 ≤ q ∧ q < r0 + 2) ∨ (r1 ≤ q ∧ q < r1 + 2) ∨ N ≤ q) w g w90 g90) ?_ ?_
  · refine c_pure [(4, .slice A50 y3.length cap51), (5, .slice A54 y10.length cap55), (12, .slice A1 p1.length cap1), (13, .int .i64 (p1.length : Int)), (14, .int .i64 0)] (fun R hR => st_val hS rfl rfl rfl (r_move hS rfl rfl) fun a95 hS95 => st_val hS95 rfl rfl rfl (r_len (e := 103) (sz := 2) (by_ := 16) hS95 rfl rfl (by kernel_rfl)) fun a96 hS96 => st_val hS96 rfl rfl rfl (r_move hS96 rfl rfl) fun a97 hS97 => wpList_nil (hR _ (hS97.re ⟨rfl, rfl, rfl, rfl, rfl, trivial⟩))) ?_
    clear hS
    clear a
    intro a hS
    refine wp_block ?_
    refine wp_loop_ghost (fun kq => fun a w98 => ∃ (m0_0 : List (List Int)), ∃ (m0_1 : List Int), ∃ (m0_2 : Int), ∃ (g98 : Nat → Nat), ∃ (hs99 : List (Option Addr × Nat)), depgraph_adjacent.l0 p1 kq m0_0 m0_1 m0_2 = some v92 ∧ Sl 41 a [(4, .slice A50 m0_0.length cap51), (5, .slice A54 m0_1.length cap55), (12, .slice A1 p1.length cap1), (13, .int .i64 (p1.length : Int)), (14, .int .i64 m0_2)] ∧ OwM (kint .i64) 29 3 w98 g98 (N + 0) A50 cap51 hs99 m0_0 (fun _ => False) ∧ OwS (kint .i64) 3 w98 g98 (N + 3) A54 cap55 m0_1 ∧ RdS kd_api_Link w98 g98 C1 A1 cap1 p1 ∧ Fr (fun q => (r0 ≤ q ∧ q < r0 + 2) ∨ (r1 ≤ q ∧ q < r1 + 2) ∨ N ≤ q) w g w98 g98) FUEL ?_ ?_
    · exact ⟨y3, y10, 0, g49, hs53, H, hS.re ⟨rfl, rfl, rfl, rfl, rfl, trivial⟩, h52, h56, hp1, hF⟩
    · clear H
      clear hp1 h52 h56 hF
      clear hS
      rintro k100 a w98 ⟨m0_0, m0_1, m0_2, g98, hs99, hpre0, hS, h52, h56, hp1, hF⟩
      have H := hpre0
      clear hpre0
      cases k100 with
      | zero => exact absurd H (by simp [depgraph_adjacent.l0])
      | succ k100 =>
        rw [depgraph_adjacent.l0] at H
        refine c_pure [(4, .slice A50 m0_0.length cap51), (5, .slice A54 m0_1.length cap55), (12, .slice A1 p1.length cap1), (13, .int .i64 (p1.length : Int)), (14, .int .i64 m0_2), (15, .bool (decide (m0_2 < (p1.length : Int))))] (fun R hR => st_val hS rfl rfl rfl (r_bin hS rfl rfl rfl b_lss) fun a101 hS101 => wpList_nil (hR _ (hS101.re ⟨rfl, rfl, rfl, rfl, rfl, rfl, trivial⟩))) ?_
        clear hS
        clear a
        intro a hS
        refine c_if hS rfl (fun hb102 => ?_) (fun hb102 => ?_)
        · replace H := ite_t hb102 H
          refine wp_skip ?_
          change Code.wp _ _ _ _ _
          refine wp_seq ?_
          refine wp_block ?_
          obtain ⟨x103, hx104, H⟩ := bind_el H
          refine c_region (fun K hK => ?_)
          refine st_val hS rfl rfl rfl (r_index (e := 103) (sz := 2) (by_ := 16) hS rfl rfl rfl (by kernel_rfl) (RdS.some_ hp1 hx104) (idx_lo hx104) (idx_hi hx104)) fun a105 hS105 => st_val hS105 rfl rfl rfl (r_loadN (n := 2) (cs := [.int .i64 x103.Consumer, .int .i64 x103.Supplier]) hS105 rfl rfl (by kernel_rfl) rfl (RdS.cells_off hp1 hx104 0 2)) fun a106 hS106 => ?_
          refine st_eff hS106 rfl rfl rfl (e_alloc (cs := [.int .i64 0, .int .i64 0]) (N + 5) g98 hS106 rfl (by kernel_rfl)) ?_
          rintro _ a110 w111 g111 ⟨⟨b107, rfl, h108⟩, F111⟩ hS110
          replace h52 := OwM.fr h52 F111 (fun h => h) (fun h => h) (fun h => h)
          replace h56 := OwS.fr h56 F111 (fun _ _ h => h)
          replace hp1 := RdS.fr hp1 F111 (by decide) (fun _ _ h => h)
          replace hF := hF.trans F111 (fun _ h => h.elim)
          refine st_effS hS110 rfl rfl (e_storeB (n := 2) (bb := true) (cs' := [.int .i64 x103.Consumer, .int .i64 x103.Supplier]) g111 hS110 rfl rfl rfl (by kernel_rfl) rfl rfl rfl h108 rfl rfl) ?_
          rintro a112 w113 g113 ⟨h108, F113⟩ hS112
          replace h52 := OwM.fr h52 F113 (fun (hm : N + 0 = N + 5) => by omega) (fun (hm : N + 0 + 1 = N + 5) => by omega) (fun (hm : N + 0 + 2 = N + 5) => by omega)
          replace h56 := OwS.fr h56 F113 (fun c' hc (hm : c' = N + 5) => by omega)
          replace hp1 := RdS.fr hp1 F113 (by decide) (fun q (hq : C1 q) (hm : q = N + 5) => by have := hC1 q hq; omega)
          replace hF := hF.trans F113 (fun c' (hm : c' = N + 5) => by show (r0 ≤ c' ∧ c' < r0 + 2) ∨ (r1 ≤ c' ∧ c' < r1 + 2) ∨ N ≤ c'; omega)
          refine wpList_nil (hK _ _ ?_)
          replace hS : Sl 41 _ [(4, .slice A50 m0_0.length cap51), (5, .slice A54 m0_1.length cap55), (7, .pointer (some ⟨b107, 0, none⟩)), (12, .slice A1 p1.length cap1), (13, .int .i64 (p1.length : Int)), (14, .int .i64 m0_2)] := hS112.re ⟨rfl, rfl, rfl, rfl, rfl, rfl, trivial⟩
          clear hK K
          try clear hS105 hS106 hS110 hS112
          obtain ⟨a, ha⟩ : ∃ a', a' = a112 := ⟨_, rfl⟩
          rw [← ha] at hS ⊢; clear ha
          obtain ⟨x114, hx115, H⟩ := bind_el H
          obtain ⟨h116, hh117⟩ := OwM.hd h52 hx115
          obtain ⟨y125, hy126, H⟩ := bind_el H
          obtain ⟨hN122, hm123, F124⟩ := OwM.take (fun _ _ _ _ _ _ _ _ h => h) h52 hx115 hh117 (N + 9) ⟨by omega, by omega⟩
          clear h52
          replace h108 := h108.fr F124 (fun (hm : N + 5 = N + 0 + 1) => by omega)
          replace h56 := OwS.fr h56 F124 (fun c' hc (hm : c' = N + 0 + 1) => by omega)
          replace hp1 := RdS.fr hp1 F124 (by decide) (fun q (hq : C1 q) (hm : q = N + 0 + 1) => by have := hC1 q hq; omega)
          replace hF := hF.trans F124 (fun c' (hm : c' = N + 0 + 1) => by show (r0 ≤ c' ∧ c' < r0 + 2) ∨ (r1 ≤ c' ∧ c' < r1 + 2) ∨ N ≤ c'; omega)
          refine c_draw (fun K hK => d_start (fun q => q = N + 9) (dyeA g113 h116.1 (N + 9)) [13] 14 #[false, false, false, false, false, false, false, false, false, false, false, false, false, false] (by kernel_rfl) rfl rfl (fun w131 hw131 => ?_))
          have F131 : Fr (fun _ => False) w113 (dyeA g113 h116.1 (N + 9)) w131 (dyeA g113 h116.1 (N + 9)) := by rw [hw131]; exact Fr.drew _ _ _
          replace h108 := h108.fr F131 (fun h => h)
          replace hN122 := OwS.fr hN122 F131 (fun _ _ h => h)
          replace hm123 := OwM.fr hm123 F131 (fun h => h) (fun h => h) (fun h => h)
          replace h56 := OwS.fr h56 F131 (fun _ _ h => h)
          replace hp1 := RdS.fr hp1 F131 (by decide) (fun _ _ h => h)
          replace hF := hF.trans F131 (fun _ h => h.elim)
          have hC : Fr (fun q => q = N + 9) w131 (dyeA g113 h116.1 (N + 9)) w131 (dyeA g113 h116.1 (N + 9)) := Fr.refl _ _ _
          refine d_pure hS 0 #[true, false, false, false, false, false, false, false, false, false, false, false, false, false] rfl rfl rfl rfl (by kernel_rfl) (fun _ _ _ h => h) (fun _ => (r_move hS rfl rfl)) fun a132 hS132 => d_pure hS132 1 #[true, true, false, false, false, false, false, false, false, false, false, false, false, false] rfl rfl rfl rfl (by kernel_rfl) (fun _ _ _ h => h) (fun _ => (r_fieldB (off := 1) hS132 rfl rfl (by kernel_rfl))) fun a133 hS133 => d_take hS133 2 #[true, true, true, false, false, false, false, false, false, false, false, false, false, false] rfl rfl rfl rfl (by kernel_rfl) (fun _ _ _ h => h) ⟨_, hC⟩ (fun w' g' Fz => (r_load1 (n := 1) hS133 rfl rfl (by kernel_rfl) (Bx.cell (h108.fr Fz (fun (hm : N + 5 = N + 9) => by omega)) rfl))) fun a134 hS134 => d_pure hS134 3 #[true, true, true, true, false, false, false, false, false, false, false, false, false, false] rfl rfl rfl rfl (by kernel_rfl) (fun _ _ _ h => h) (fun _ => (r_move hS134 rfl rfl)) fun a135 hS135 => d_pure hS135 4 #[true, true, true, true, true, false, false, false, false, false, false, false, false, false] rfl rfl rfl rfl (by kernel_rfl) (fun _ _ _ h => h) (fun _ => (r_fieldB (off := 1) hS135 rfl rfl (by kernel_rfl))) fun a136 hS136 => d_take hS136 5 #[true, true, true, true, true, true, false, false, false, false, false, false, false, false] rfl rfl rfl rfl (by kernel_rfl) (fun _ _ _ h => h) ⟨_, hC⟩ (fun w' g' Fz => (r_load1 (n := 1) hS136 rfl rfl (by kernel_rfl) (Bx.cell (h108.fr Fz (fun (hm : N + 5 = N + 9) => by omega)) rfl))) fun a137 hS137 => d_pure hS137 6 #[true, true, true, true, true, true, true, false, false, false, false, false, false, false] rfl rfl rfl rfl (by kernel_rfl) (fun _ _ _ h => h) (fun _ => (r_index (e := 29) (sz := 1) (by_ := 24) hS137 rfl rfl rfl (by kernel_rfl) (OwM.some_ hm123 hx115) (idx_lo hx115) (idx_hi hx115))) fun a138 hS138 => d_take hS138 7 #[true, true, true, true, true, true, true, true, false, false, false, false, false, false] rfl rfl rfl rfl (by kernel_rfl) (fun _ _ _ h => h) ⟨_, hC⟩ (fun w' g' Fz => (r_load1 (n := 1) hS138 rfl rfl (by kernel_rfl) (OwM.cell (OwM.fr hm123 Fz (fun (hm : N + 0 = N + 9) => by omega) (fun (hm : N + 0 + 1 = N + 9) => by omega) (fun (hm : N + 0 + 2 = N + 9) => by omega)) hx115 hh117))) fun a139 hS139 => d_pure hS139 8 #[true, true, true, true, true, true, true, true, true, false, false, false, false, false] rfl rfl rfl rfl (by kernel_rfl) (fun _ _ _ h => h) (fun _ => (r_fieldB (off := 0) hS139 rfl rfl (by kernel_rfl))) fun a140 hS140 => d_take hS140 9 #[true, true, true, true, true, true, true, true, true, true, false, false, false, false] rfl rfl rfl rfl (by kernel_rfl) (fun _ _ _ h => h) ⟨_, hC⟩ (fun w' g' Fz => (r_load1 (n := 1) hS140 rfl rfl (by kernel_rfl) (Bx.cell (h108.fr Fz (fun (hm : N + 5 = N + 9) => by omega)) rfl))) fun a141 hS141 => ?_
          refine d_one 10 #[true, true, true, true, true, true, true, true, true, true, true, false, false, false] rfl (by kernel_rfl) (arm_eff hS141 rfl rfl rfl (e_lit (e := 3) (parts := [(0, .int .i64 x103.Consumer)]) (cs := [.int .i64 x103.Consumer]) (kint .i64) [x103.Consumer] (N + 7) (dyeA g113 h116.1 (N + 9)) hS141 rfl rfl (fun _ => by kernel_rfl) rfl (by decide) (Rows.cons (cs := [.int .i64 x103.Consumer]) rfl Rows.nil)) (fun _ _ g' hR _ => ⟨g', hC.trans hR.2 (fun _ h => h.elim)⟩) ?_)
          rintro _ a145 w146 g146 ⟨⟨A142, rfl, h143⟩, F146⟩ hS145
          have hC146 := hC.trans F146 (fun _ h => h.elim)
          replace h108 := h108.fr F146 (fun h => h)
          replace hN122 := OwS.fr hN122 F146 (fun _ _ h => h)
          replace hm123 := OwM.fr hm123 F146 (fun h => h) (fun h => h) (fun h => h)
          replace h56 := OwS.fr h56 F146 (fun _ _ h => h)
          replace hp1 := RdS.fr hp1 F146 (by decide) (fun _ _ h => h)
          replace hF := hF.trans F146 (fun _ h => h.elim)
          refine d_one 11 #[true, true, true, true, true, true, true, true, true, true, true, true, false, false] rfl (by kernel_rfl) (arm_eff hS145 rfl rfl rfl (e_append (e := 3) (sz := 1) (by_ := 8) (z := [.int .i64 0]) (kd := (kint .i64)) g146 hS145 rfl rfl rfl rfl (by kernel_rfl) (by kernel_rfl) rfl rfl rfl rfl hN122 (OwD.rdx h143) (fun _ _ _ h => h) hy126) (fun _ _ g' hR _ => ⟨g', hC146.trans hR.2 (fun c' (hm : c' = N + 9) => by show c' = N + 9; omega)⟩) ?_)
          rintro _ a151 w152 g152 ⟨⟨A147, cap148, rfl, h149⟩, F152⟩ hS151
          have hC152 := hC146.trans F152 (fun c' (hm : c' = N + 9) => by show c' = N + 9; omega)
          replace h108 := h108.fr F152 (fun (hm : N + 5 = N + 9) => by omega)
          replace h143 := OwS.fr h143 F152 (fun c' hc (hm : c' = N + 9) => by omega)
          replace hm123 := OwM.fr hm123 F152 (fun (hm : N + 0 = N + 9) => by omega) (fun (hm : N + 0 + 1 = N + 9) => by omega) (fun (hm : N + 0 + 2 = N + 9) => by omega)
          replace h56 := OwS.fr h56 F152 (fun c' hc (hm : c' = N + 9) => by omega)
          replace hp1 := RdS.fr hp1 F152 (by decide) (fun q (hq : C1 q) (hm : q = N + 9) => by have := hC1 q hq; omega)
          replace hF := hF.trans F152 (fun c' (hm : c' = N + 9) => by show (r0 ≤ c' ∧ c' < r0 + 2) ∨ (r1 ≤ c' ∧ c' < r1 + 2) ∨ N ≤ c'; omega)
          refine d_pure hS151 12 #[true, true, true, true, true, true, true, true, true, true, true, true, true, false] rfl rfl rfl rfl (by kernel_rfl) (fun _ _ _ h => h) (fun _ => (r_index (e := 29) (sz := 1) (by_ := 24) hS151 rfl rfl rfl (by kernel_rfl) (OwM.some_ hm123 hx115) (idx_lo hx115) (idx_hi hx115))) fun a153 hS153 => ?_
          refine d_one 13 #[true, true, true, true, true, true, true, true, true, true, true, true, true, true] rfl (by kernel_rfl) (arm_effS hS153 rfl rfl (e_storeM (k := (kint .i64)) (fun _ _ _ _ _ _ _ _ h => h) g152 hS153 rfl rfl rfl rfl (by kernel_rfl) rfl hm123 hx115 hh117 h149 ⟨by omega, by omega⟩) (.inl (by decide)) ?_)
          rintro a154 w155 g155 ⟨hm123, F155⟩ hS154
          replace h108 := h108.fr F155 (fun (hm : N + 5 = N + 0 ∨ N + 5 = N + 9) => by omega)
          replace h143 := OwS.fr h143 F155 (fun c' hc (hm : c' = N + 0 ∨ c' = N + 9) => by omega)
          replace h56 := OwS.fr h56 F155 (fun c' hc (hm : c' = N + 0 ∨ c' = N + 9) => by omega)
          replace hp1 := RdS.fr hp1 F155 (by decide) (fun q (hq : C1 q) (hm : q = N + 0 ∨ q = N + 9) => by have := hC1 q hq; omega)
          replace hF := hF.trans F155 (fun c' (hm : c' = N + 0 ∨ c' = N + 9) => by show (r0 ≤ c' ∧ c' < r0 + 2) ∨ (r1 ≤ c' ∧ c' < r1 + 2) ∨ N ≤ c'; omega)
          have hT : Sl 41 a154 [(4, .slice A50 m0_0.length cap51), (5, .slice A54 m0_1.length cap55), (7, .pointer (some ⟨b107, 0, none⟩)), (12, .slice A1 p1.length cap1), (13, .int .i64 (p1.length : Int)), (14, .int .i64 m0_2)] := hS154.re ⟨rfl, rfl, rfl, rfl, rfl, rfl, trivial⟩
          replace hS154 : Sl 41 a154 [(4, .slice A50 (upd m0_0 x103.Supplier y125).length cap51), (5, .slice A54 m0_1.length cap55), (7, .pointer (some ⟨b107, 0, none⟩)), (12, .slice A1 p1.length cap1), (13, .int .i64 (p1.length : Int)), (14, .int .i64 m0_2)] := by simpa only [upd_length] using hT
          clear hT
          refine d_done (by kernel_rfl) (hK _ _ ?_)
          replace hS : Sl 41 _ [(4, .slice A50 (upd m0_0 x103.Supplier y125).length cap51), (5, .slice A54 m0_1.length cap55), (7, .pointer (some ⟨b107, 0, none⟩)), (12, .slice A1 p1.length cap1), (13, .int .i64 (p1.length : Int)), (14, .int .i64 m0_2)] := hS154.re ⟨rfl, rfl, rfl, rfl, rfl, rfl, trivial⟩
          clear hK K hC
          try clear hS132 hS133 hS134 hS135 hS136 hS137 hS138 hS139 hS140 hS141 hS145 hS151 hS153 hS154
          obtain ⟨a, ha⟩ : ∃ a', a' = a154 := ⟨_, rfl⟩
          rw [← ha] at hS ⊢; clear ha
          obtain ⟨x159, hx160, H⟩ := bind_el H
          refine c_region1 (fun K hK => ?_)
          refine st_val hS rfl rfl rfl (r_move hS rfl rfl) fun a156 hS156 => st_val hS156 rfl rfl rfl (r_fieldB (off := 0) hS156 rfl rfl (by kernel_rfl)) fun a157 hS157 => st_val hS157 rfl rfl rfl (r_load1 (n := 1) hS157 rfl rfl (by kernel_rfl) (Bx.cell h108 rfl)) fun a158 hS158 => st_val hS158 rfl rfl rfl (r_index (e := 3) (sz := 1) (by_ := 8) hS158 rfl rfl rfl (by kernel_rfl) (RdS.some_ (OwS.rd h56) hx160) (idx_lo hx160) (idx_hi hx160)) fun a161 hS161 => st_val hS161 rfl rfl rfl (r_load1 (n := 1) hS161 rfl rfl (by kernel_rfl) (RdS.cell (i := x103.Consumer) (sz := 1) (j := 0) (OwS.rd h56) hx160 rfl)) fun a162 hS162 => st_val hS162 rfl rfl rfl (r_bin hS162 rfl rfl rfl b_add) fun a163 hS163 => st_val hS163 rfl rfl rfl (r_index (e := 3) (sz := 1) (by_ := 8) hS163 rfl rfl rfl (by kernel_rfl) (RdS.some_ (OwS.rd h56) hx160) (idx_lo hx160) (idx_hi hx160)) fun a164 hS164 => ?_
          refine st_effS hS164 rfl rfl (e_storeE (n := 1) (bb := false) (kd := (kint .i64)) (j := 0) (x' := wi (x159 + 1)) (us := [.int .i64 (wi (x159 + 1))]) g155 hS164 rfl rfl rfl rfl (by kernel_rfl) rfl rfl (by intro v hv; simp only [List.mem_cons, List.not_mem_nil, or_false] at hv; rcases hv with rfl <;> rfl) h56 hx160 rfl (fun _ _ cs hR => by rw [show cs = _ from hR]; rfl)) ?_
          rintro a165 w166 g166 ⟨h56, F166⟩ hS165
          replace h108 := h108.fr F166 (fun (hm : N + 5 = N + 3) => by omega)
          replace hm123 := OwM.fr hm123 F166 (fun (hm : N + 0 = N + 3) => by omega) (fun (hm : N + 0 + 1 = N + 3) => by omega) (fun (hm : N + 0 + 2 = N + 3) => by omega)
          replace hp1 := RdS.fr hp1 F166 (by decide) (fun q (hq : C1 q) (hm : q = N + 3) => by have := hC1 q hq; omega)
          replace hF := hF.trans F166 (fun c' (hm : c' = N + 3) => by show (r0 ≤ c' ∧ c' < r0 + 2) ∨ (r1 ≤ c' ∧ c' < r1 + 2) ∨ N ≤ c'; omega)
          have hT : Sl 41 a165 [(4, .slice A50 (upd m0_0 x103.Supplier y125).length cap51), (5, .slice A54 m0_1.length cap55), (12, .slice A1 p1.length cap1), (13, .int .i64 (p1.length : Int)), (14, .int .i64 m0_2)] := hS165.re ⟨rfl, rfl, rfl, rfl, rfl, trivial⟩
          replace hS165 : Sl 41 a165 [(4, .slice A50 (upd m0_0 x103.Supplier y125).length cap51), (5, .slice A54 (upd m0_1 x103.Consumer (wi (x159 + 1))).length cap55), (12, .slice A1 p1.length cap1), (13, .int .i64 (p1.length : Int)), (14, .int .i64 m0_2)] := by simpa only [upd_length] using hT
          clear hT
          refine wpList_nil (hK _ _ ?_)
          replace hS : Sl 41 _ [(4, .slice A50 (upd m0_0 x103.Supplier y125).length cap51), (5, .slice A54 (upd m0_1 x103.Consumer (wi (x159 + 1))).length cap55), (12, .slice A1 p1.length cap1), (13, .int .i64 (p1.length : Int)), (14, .int .i64 m0_2)] := hS165.re ⟨rfl, rfl, rfl, rfl, rfl, trivial⟩
          clear hK K
          try clear hS156 hS157 hS158 hS161 hS162 hS163 hS164 hS165
          obtain ⟨a, ha⟩ : ∃ a', a' = a165 := ⟨_, rfl⟩
          rw [← ha] at hS ⊢; clear ha
          change Code.wp _ _ _ _ _
          refine c_pure1 [(4, .slice A50 (upd m0_0 x103.Supplier y125).length cap51), (5, .slice A54 (upd m0_1 x103.Consumer (wi (x159 + 1))).length cap55), (12, .slice A1 p1.length cap1), (13, .int .i64 (p1.length : Int)), (14, .int .i64 (wi (m0_2 + 1)))] (fun R hR => st_val hS rfl rfl rfl (r_bin hS rfl rfl rfl b_add) fun a167 hS167 => st_val hS167 rfl rfl rfl (r_move hS167 rfl rfl) fun a168 hS168 => wpList_nil (hR _ (hS168.re ⟨rfl, rfl, rfl, rfl, rfl, trivial⟩))) ?_
          clear hS
          clear a
          intro a hS
          refine ⟨k100, Nat.lt_succ_self _, ?_⟩
          exact ⟨(upd m0_0 x103.Supplier y125), (upd m0_1 x103.Consumer (wi (x159 + 1))), wi (m0_2 + 1), g166, (upd hs99 x103.Supplier (A147, cap148)), H, hS.re ⟨rfl, rfl, rfl, rfl, rfl, trivial⟩, hm123, h56, hp1, hF⟩
        · replace H := ite_f hb102 H
          refine wp_exit ?_
          have e := Option.some.inj H
          subst e
          exact ⟨g98, hs99, hS.re ⟨rfl, rfl, trivial⟩, h52, h56, hF⟩
  · clear H
    clear hp1 h52 h56 hF
    clear hS
    rintro a w90 ⟨g90, hs91, hS, h52, h56, hF⟩
    have H := Hl94
    clear Hl94
    refine c_pure [(4, .slice A50 v92.1.length cap51), (5, .slice A54 v92.2.length cap55)] (fun R hR => st_val hS rfl rfl rfl (r_move hS rfl rfl) fun a169 hS169 => st_val hS169 rfl rfl rfl (r_move hS169 rfl rfl) fun a170 hS170 => st_val hS170 rfl rfl rfl (r_assign hS170 rfl rfl) fun a171 hS171 => st_val hS171 rfl rfl rfl (r_assign hS171 rfl rfl) fun a172 hS172 => wpList_nil (hR _ (hS172.re ⟨rfl, rfl, trivial⟩))) ?_
    clear hS
    clear a
    intro a hS
    refine wp_ret ?_
    have e := Option.some.inj H
    subst e
    have h173 := OwM.toS (fun _ _ _ _ _ _ _ _ h => h) (by decide) h52
    have F174 := Fr.recol2 w90 g90 (N + 0) r0
    replace h173 := h173.recol2 r0
    replace h56 := OwS.fr h56 F174 (fun c' hc (hm : c' = N + 0 ∨ c' = N + 0 + 1) => by omega)
    replace hF := hF.trans F174 (fun c' (hm : c' = N + 0 ∨ c' = N + 0 + 1) => by show (r0 ≤ c' ∧ c' < r0 + 2) ∨ (r1 ≤ c' ∧ c' < r1 + 2) ∨ N ≤ c'; omega)
    have F175 := Fr.recol2 w90 (recol2 g90 (N + 0) r0) (N + 3) r1
    replace h56 := h56.recol2 r1
    replace h173 := OwS.fr h173 F175 (fun c' hc (hm : c' = N + 3 ∨ c' = N + 3 + 1) => by omega)
    replace hF := hF.trans F175 (fun c' (hm : c' = N + 3 ∨ c' = N + 3 + 1) => by show (r0 ≤ c' ∧ c' < r0 + 2) ∨ (r1 ≤ c' ∧ c' < r1 + 2) ∨ N ≤ c'; omega)
    repeat (with_reducible first | refine then_ret ?_ | refine inBlock_ret ?_)
    exact c_ret2 hS Try.results77 rfl rfl ⟨_, rfl, (recol2 (recol2 g90 (N + 0) r0) (N + 3) r1), A50, cap51, A54, cap55, rfl, h173, h56, hF⟩


end Go.Proofs.Ytfhhklkmbcnhnaa.Sim

namespace Go.Proofs.Ytfhhklkmbcnhnaa.Sim
open Go
set_option linter.unusedVariables false
set_option linter.unusedSimpArgs false

/-! ### depgraph_queue_Len: function 98 -/
def depgraph_queue_Len.f (p0 : List Int) : Option (Int) := some (p0.length : Int)
set_option maxRecDepth 100000 in
set_option maxHeartbeats 4000000 in
theorem depgraph_queue_Len.calls {p0 : List Int} {A0 : Option Addr} {cap0 : Nat} {C0 : Nat → Prop} {w : World} {g : Nat → Nat} {out : Int} (N : Nat) (hp0 : RdS (kint .i64) w g C0 A0 cap0 p0) (hC0 : ∀ c, C0 c → c < N) (H : depgraph_queue_Len.f p0 = some out) :
    Calls Try.prog 98 #[.slice A0 p0.length cap0] w (fun e w' => ∃ v, e = .returned v ∧ ∃ (g' : Nat → Nat), v = .int .i64 out ∧ Fr (fun q => N ≤ q) w g w' g') := by
  unfold depgraph_queue_Len.f at H
  refine calls_enter Try.func98 rfl Try.ntmps98 rfl (fun a hS => ?_)
  replace hS : Sl 5 a [(0, .slice A0 p0.length cap0)] := hS
  have hF : Fr (fun q => N ≤ q) w g w g := Fr.refl _ _ _
  refine c_pure [(0, .slice A0 p0.length cap0)] (fun R hR => st_val hS rfl rfl rfl (r_assign hS rfl rfl) fun a1 hS1 => wpList_nil (hR _ (hS1.re ⟨rfl, trivial⟩))) ?_
  clear hS
  clear a
  intro a hS
  refine c_pure [(2, .int .i64 (p0.length : Int))] (fun R hR => st_val hS rfl rfl rfl (r_move hS rfl rfl) fun a2 hS2 => st_val hS2 rfl rfl rfl (r_len (e := 3) (sz := 1) (by_ := 8) hS2 rfl rfl (by kernel_rfl)) fun a3 hS3 => st_val hS3 rfl rfl rfl (r_assign hS3 rfl rfl) fun a4 hS4 => wpList_nil (hR _ (hS4.re ⟨rfl, trivial⟩))) ?_
  clear hS
  clear a
  intro a hS
  refine wp_ret ?_
  have e := Option.some.inj H
  subst e
  repeat (with_reducible first | refine then_ret ?_ | refine inBlock_ret ?_)
  exact c_ret1 hS Try.results98 rfl ⟨_, rfl, g, rfl, hF⟩


end Go.Proofs.Ytfhhklkmbcnhnaa.Sim

namespace Go.Proofs.Ytfhhklkmbcnhnaa.Sim
open Go
set_option linter.unusedVariables false
set_option linter.unusedSimpArgs false

/-! ### depgraph_queue_Pop: function 101 -/
def depgraph_queue_Pop.f (p0 : depgraph_queue) : Option (depgraph_queue × Int) := (idx p0.q (wi ((p0.q.length : Int) - 1))).bind fun x12 => (slc p0.q 0 (wi ((p0.q.length : Int) - 1))).bind fun y22 => some ((depgraph_queue.mk y22), x12)
set_option maxRecDepth 100000 in
set_option maxHeartbeats 4000000 in
theorem depgraph_queue_Pop.calls {p0 : depgraph_queue} {c0 : Nat}  {b_p0 : Nat} {A_q_p0 : Option Addr} {cap_q_p0 : Nat} {w : World} {g : Nat → Nat} {out : depgraph_queue × Int} (N : Nat) (hp0 : depgraph_queue_At w g c0 b_p0 A_q_p0 cap_q_p0 p0) (hc0 : c0 + 3 ≤ N) (H : depgraph_queue_Pop.f p0 = some out) :
    Calls Try.prog 101 #[.pointer (some ⟨b_p0, 0, none⟩)] w (fun e w' => ∃ v, e = .returned v ∧ ∃ (g' : Nat → Nat) (A_q_q0 : Option Addr) (cap_q_q0 : Nat), v = .iface 3 (.int .i64 out.2) ∧ depgraph_queue_At w' g' c0 b_p0 A_q_q0 cap_q_q0 out.1 ∧ Fr (fun q => (c0 ≤ q ∧ q < c0 + 3) ∨ N ≤ q) w g w' g') := by
  unfold depgraph_queue_Pop.f at H
  refine calls_enter Try.func101 rfl Try.ntmps101 rfl (fun a hS => ?_)
  replace hS : Sl 25 a [(0, .pointer (some ⟨b_p0, 0, none⟩))] := hS
  have hF : Fr (fun q => (c0 ≤ q ∧ q < c0 + 3) ∨ N ≤ q) w g w g := Fr.refl _ _ _
  obtain ⟨hb0, hf0_q⟩ := hp0
  refine c_pure [(0, .pointer (some ⟨b_p0, 0, none⟩))] (fun R hR => st_val hS rfl rfl rfl (r_assign hS rfl rfl) fun a1 hS1 => wpList_nil (hR _ (hS1.re ⟨rfl, trivial⟩))) ?_
  clear hS
  clear a
  intro a hS
  refine c_pure [(0, .pointer (some ⟨b_p0, 0, none⟩)), (3, .int .i64 (wi ((p0.q.length : Int) - 1)))] (fun R hR => st_val hS rfl rfl rfl (r_move hS rfl rfl) fun a2 hS2 => st_val hS2 rfl rfl rfl (r_nil hS2 rfl rfl) fun a3 hS3 => st_val hS3 rfl rfl rfl (r_load1 (n := 1) hS3 rfl rfl (by kernel_rfl) (Bx.cell hb0 rfl)) fun a4 hS4 => st_val hS4 rfl rfl rfl (r_len (e := 3) (sz := 1) (by_ := 8) hS4 rfl rfl (by kernel_rfl)) fun a5 hS5 => st_val hS5 rfl rfl rfl (r_bin hS5 rfl rfl rfl b_sub) fun a6 hS6 => st_val hS6 rfl rfl rfl (r_assign hS6 rfl rfl) fun a7 hS7 => wpList_nil (hR _ (hS7.re ⟨rfl, rfl, trivial⟩))) ?_
  clear hS
  clear a
  intro a hS
  obtain ⟨x12, hx13, H⟩ := bind_el H
  refine c_pure [(0, .pointer (some ⟨b_p0, 0, none⟩)), (3, .int .i64 (wi ((p0.q.length : Int) - 1))), (4, .int .i64 x12)] (fun R hR => st_val hS rfl rfl rfl (r_move hS rfl rfl) fun a8 hS8 => st_val hS8 rfl rfl rfl (r_nil hS8 rfl rfl) fun a9 hS9 => st_val hS9 rfl rfl rfl (r_load1 (n := 1) hS9 rfl rfl (by kernel_rfl) (Bx.cell hb0 rfl)) fun a10 hS10 => st_val hS10 rfl rfl rfl (r_move hS10 rfl rfl) fun a11 hS11 => st_val hS11 rfl rfl rfl (r_index (e := 3) (sz := 1) (by_ := 8) hS11 rfl rfl rfl (by kernel_rfl) (RdS.some_ (OwS.rd hf0_q) hx13) (idx_lo hx13) (idx_hi hx13)) fun a14 hS14 => st_val hS14 rfl rfl rfl (r_load1 (n := 1) hS14 rfl rfl (by kernel_rfl) (RdS.cell (i := wi ((p0.q.length : Int) - 1)) (sz := 1) (j := 0) (OwS.rd hf0_q) hx13 rfl)) fun a15 hS15 => st_val hS15 rfl rfl rfl (r_assign hS15 rfl rfl) fun a16 hS16 => wpList_nil (hR _ (hS16.re ⟨rfl, rfl, rfl, trivial⟩))) ?_
  clear hS
  clear a
  intro a hS
  obtain ⟨y22, hy23, H⟩ := bind_el H
  refine c_region (fun K hK => ?_)
  refine st_val hS rfl rfl rfl (r_move hS rfl rfl) fun a17 hS17 => st_val hS17 rfl rfl rfl (r_move hS17 rfl rfl) fun a18 hS18 => st_val hS18 rfl rfl rfl (r_nil hS18 rfl rfl) fun a19 hS19 => st_val hS19 rfl rfl rfl (r_load1 (n := 1) hS19 rfl rfl (by kernel_rfl) (Bx.cell hb0 rfl)) fun a20 hS20 => st_val hS20 rfl rfl rfl (r_move hS20 rfl rfl) fun a21 hS21 => ?_
  have h24 := OwS.slc0 hf0_q hy23
  refine st_val hS21 rfl rfl rfl (r_slice (e := 3) (sz := 1) (by_ := 8) (l := 0) (h := wi ((p0.q.length : Int) - 1)) hS21 rfl rfl (by kernel_rfl) rfl rfl hy23 (OwS.rd hf0_q).1) fun a26 hS26 => st_val hS26 rfl rfl rfl (r_nil hS26 rfl rfl) fun a27 hS27 => ?_
  refine st_effS hS27 rfl rfl (e_storeB (n := 1) (bb := false) (cs' := [.slice (slA A_q_p0 cap_q_p0 (0 : Int).toNat 1) y22.length (cap_q_p0 - (0 : Int).toNat)]) g hS27 rfl rfl rfl (by kernel_rfl) rfl rfl rfl hb0 rfl rfl) ?_
  rintro a28 w29 g29 ⟨hb0, F29⟩ hS28
  replace h24 := OwS.fr h24 F29 (fun c' hc (hm : c' = c0) => by omega)
  replace hF := hF.trans F29 (fun c' (hm : c' = c0) => by show (c0 ≤ c' ∧ c' < c0 + 3) ∨ N ≤ c'; omega)
  refine wpList_nil (hK _ _ ?_)
  replace hS : Sl 25 _ [(4, .int .i64 x12)] := hS28.re ⟨rfl, trivial⟩
  clear hK K
  try clear hS17 hS18 hS19 hS20 hS21 hS26 hS27 hS28
  obtain ⟨a, ha⟩ : ∃ a', a' = a28 := ⟨_, rfl⟩
  rw [← ha] at hS ⊢; clear ha
  refine c_pure [(2, .iface 3 (.int .i64 x12))] (fun R hR => st_val hS rfl rfl rfl (r_move hS rfl rfl) fun a30 hS30 => st_val hS30 rfl rfl rfl (r_mkif hS30 rfl rfl (by kernel_rfl)) fun a31 hS31 => st_val hS31 rfl rfl rfl (r_assign hS31 rfl rfl) fun a32 hS32 => wpList_nil (hR _ (hS32.re ⟨rfl, trivial⟩))) ?_
  clear hS
  clear a
  intro a hS
  refine wp_ret ?_
  have e := Option.some.inj H
  subst e
  repeat (with_reducible first | refine then_ret ?_ | refine inBlock_ret ?_)
  exact c_ret1 hS Try.results101 rfl ⟨_, rfl, g29, (slA A_q_p0 cap_q_p0 (0 : Int).toNat 1), (cap_q_p0 - (0 : Int).toNat), rfl, ⟨hb0, h24⟩, hF⟩


end Go.Proofs.Ytfhhklkmbcnhnaa.Sim

namespace Go.Proofs.Ytfhhklkmbcnhnaa.Sim
open Go
set_option linter.unusedVariables false
set_option linter.unusedSimpArgs false

/-! ### depgraph_queue_Swap: function 100 -/
def depgraph_queue_Swap.f (p0 : List Int) (p1 : Int) (p2 : Int) : Option ((List Int)) := (idx p0 p2).bind fun x1 => (idx p0 p1).bind fun x3 => (idx (upd p0 p1 x1) p2).bind fun x5 => some (upd (upd p0 p1 x1) p2 x3)
set_option maxRecDepth 100000 in
set_option maxHeartbeats 4000000 in
theorem depgraph_queue_Swap.calls {p0 : List Int} {A0 : Option Addr} {cap0 : Nat} {c0 : Nat} {p1 : Int} {p2 : Int} {w : World} {g : Nat → Nat} {out : (List Int)} (N : Nat) (hp0 : OwS (kint .i64) 3 w g c0 A0 cap0 p0) (hc0 : c0 + 2 ≤ N) (H : depgraph_queue_Swap.f p0 p1 p2 = some out) :
    Calls Try.prog 100 #[.slice A0 p0.length cap0, .int .i64 p1, .int .i64 p2] w (fun e w' => ∃ v, e = .returned v ∧ ∃ (g' : Nat → Nat), v = .tuple #[] ∧ OwS (kint .i64) 3 w' g' c0 A0 cap0 out ∧ out.length = p0.length ∧ Fr (fun q => (c0 ≤ q ∧ q < c0 + 2) ∨ N ≤ q) w g w' g') := by
  unfold depgraph_queue_Swap.f at H
  refine calls_enter Try.func100 rfl Try.ntmps100 rfl (fun a hS => ?_)
  replace hS : Sl 20 a [(0, .slice A0 p0.length cap0), (1, .int .i64 p1), (2, .int .i64 p2)] := hS
  have hF : Fr (fun q => (c0 ≤ q ∧ q < c0 + 2) ∨ N ≤ q) w g w g := Fr.refl _ _ _
  have hl0 : p0.length = p0.length := rfl
  obtain ⟨x1, hx2, H⟩ := bind_el H
  obtain ⟨x3, hx4, H⟩ := bind_el H
  obtain ⟨x5, hx6, H⟩ := bind_el H
  refine c_draw1 (fun K hK => d_start (fun q => False) g [13, 15] 16 #[false, false, false, false, false, false, false, false, false, false, false, false, false, false, false, false] (by kernel_rfl) rfl rfl (fun w7 hw7 => ?_))
  have F7 : Fr (fun _ => False) w g w7 g := by rw [hw7]; exact Fr.drew _ _ _
  replace hp0 := OwS.fr hp0 F7 (fun _ _ h => h)
  replace hF := hF.trans F7 (fun _ h => h.elim)
  have hC : Fr (fun q => False) w7 g w7 g := Fr.refl _ _ _
  refine d_pure hS 0 #[true, false, false, false, false, false, false, false, false, false, false, false, false, false, false, false] rfl rfl rfl rfl (by kernel_rfl) (fun _ _ _ h => h) (fun _ => (r_move hS rfl rfl)) fun a8 hS8 => d_pure hS8 1 #[true, true, false, false, false, false, false, false, false, false, false, false, false, false, false, false] rfl rfl rfl rfl (by kernel_rfl) (fun _ _ _ h => h) (fun _ => (r_move hS8 rfl rfl)) fun a9 hS9 => d_pure hS9 2 #[true, true, true, false, false, false, false, false, false, false, false, false, false, false, false, false] rfl rfl rfl rfl (by kernel_rfl) (fun _ _ _ h => h) (fun _ => (r_move hS9 rfl rfl)) fun a10 hS10 => d_pure hS10 3 #[true, true, true, true, false, false, false, false, false, false, false, false, false, false, false, false] rfl rfl rfl rfl (by kernel_rfl) (fun _ _ _ h => h) (fun _ => (r_move hS10 rfl rfl)) fun a11 hS11 => d_pure hS11 4 #[true, true, true, true, true, false, false, false, false, false, false, false, false, false, false, false] rfl rfl rfl rfl (by kernel_rfl) (fun _ _ _ h => h) (fun _ => (r_move hS11 rfl rfl)) fun a12 hS12 => d_pure hS12 5 #[true, true, true, true, true, true, false, false, false, false, false, false, false, false, false, false] rfl rfl rfl rfl (by kernel_rfl) (fun _ _ _ h => h) (fun _ => (r_move hS12 rfl rfl)) fun a13 hS13 => d_pure hS13 6 #[true, true, true, true, true, true, true, false, false, false, false, false, false, false, false, false] rfl rfl rfl rfl (by kernel_rfl) (fun _ _ _ h => h) (fun _ => (r_index (e := 3) (sz := 1) (by_ := 8) hS13 rfl rfl rfl (by kernel_rfl) (RdS.some_ (OwS.rd hp0) hx2) (idx_lo hx2) (idx_hi hx2))) fun a14 hS14 => d_take hS14 7 #[true, true, true, true, true, true, true, true, false, false, false, false, false, false, false, false] rfl rfl rfl rfl (by kernel_rfl) (fun _ _ _ h => h) ⟨_, hC⟩ (fun w' g' Fz => (r_load1 (n := 1) hS14 rfl rfl (by kernel_rfl) (RdS.cell (i := p2) (sz := 1) (j := 0) (OwS.rd (OwS.fr hp0 Fz (fun _ _ h => h))) hx2 rfl))) fun a15 hS15 => d_pure hS15 8 #[true, true, true, true, true, true, true, true, true, false, false, false, false, false, false, false] rfl rfl rfl rfl (by kernel_rfl) (fun _ _ _ h => h) (fun _ => (r_move hS15 rfl rfl)) fun a16 hS16 => d_pure hS16 9 #[true, true, true, true, true, true, true, true, true, true, false, false, false, false, false, false] rfl rfl rfl rfl (by kernel_rfl) (fun _ _ _ h => h) (fun _ => (r_move hS16 rfl rfl)) fun a17 hS17 => d_pure hS17 10 #[true, true, true, true, true, true, true, true, true, true, true, false, false, false, false, false] rfl rfl rfl rfl (by kernel_rfl) (fun _ _ _ h => h) (fun _ => (r_index (e := 3) (sz := 1) (by_ := 8) hS17 rfl rfl rfl (by kernel_rfl) (RdS.some_ (OwS.rd hp0) hx4) (idx_lo hx4) (idx_hi hx4))) fun a18 hS18 => d_take hS18 11 #[true, true, true, true, true, true, true, true, true, true, true, true, false, false, false, false] rfl rfl rfl rfl (by kernel_rfl) (fun _ _ _ h => h) ⟨_, hC⟩ (fun w' g' Fz => (r_load1 (n := 1) hS18 rfl rfl (by kernel_rfl) (RdS.cell (i := p1) (sz := 1) (j := 0) (OwS.rd (OwS.fr hp0 Fz (fun _ _ h => h))) hx4 rfl))) fun a19 hS19 => d_pure hS19 12 #[true, true, true, true, true, true, true, true, true, true, true, true, true, false, false, false] rfl rfl rfl rfl (by kernel_rfl) (fun _ _ _ h => h) (fun _ => (r_index (e := 3) (sz := 1) (by_ := 8) hS19 rfl rfl rfl (by kernel_rfl) (RdS.some_ (OwS.rd hp0) hx4) (idx_lo hx4) (idx_hi hx4))) fun a20 hS20 => ?_
  refine d_one 13 #[true, true, true, true, true, true, true, true, true, true, true, true, true, true, false, false] rfl (by kernel_rfl) (arm_effS hS20 rfl rfl (e_storeE (n := 1) (bb := false) (kd := (kint .i64)) (j := 0) (x' := x1) (us := [.int .i64 x1]) g hS20 rfl rfl rfl rfl (by kernel_rfl) rfl rfl (by intro v hv; simp only [List.mem_cons, List.not_mem_nil, or_false] at hv; rcases hv with rfl <;> rfl) hp0 hx4 rfl (fun _ _ cs hR => by rw [show cs = _ from hR]; rfl)) (.inl (by decide)) ?_)
  rintro a21 w22 g22 ⟨hp0, F22⟩ hS21
  replace hF := hF.trans F22 (fun c' (hm : c' = c0) => by show (c0 ≤ c' ∧ c' < c0 + 2) ∨ N ≤ c'; omega)
  have hT : Sl 20 a21 [(8, .slice A0 p0.length cap0), (9, .int .i64 p2), (17, .int .i64 x3)] := hS21.re ⟨rfl, rfl, rfl, trivial⟩
  replace hS21 : Sl 20 a21 [(8, .slice A0 (upd p0 p1 x1).length cap0), (9, .int .i64 p2), (17, .int .i64 x3)] := by simpa only [upd_length] using hT
  clear hT
  refine d_pure hS21 14 #[true, true, true, true, true, true, true, true, true, true, true, true, true, true, true, false] rfl rfl rfl rfl (by kernel_rfl) (fun _ _ _ h => h) (fun _ => (r_index (e := 3) (sz := 1) (by_ := 8) hS21 rfl rfl rfl (by kernel_rfl) (RdS.some_ (OwS.rd hp0) hx6) (idx_lo hx6) (idx_hi hx6))) fun a23 hS23 => ?_
  refine d_one 15 #[true, true, true, true, true, true, true, true, true, true, true, true, true, true, true, true] rfl (by kernel_rfl) (arm_effS hS23 rfl rfl (e_storeE (n := 1) (bb := false) (kd := (kint .i64)) (j := 0) (x' := x3) (us := [.int .i64 x3]) g22 hS23 rfl rfl rfl rfl (by kernel_rfl) rfl rfl (by intro v hv; simp only [List.mem_cons, List.not_mem_nil, or_false] at hv; rcases hv with rfl <;> rfl) hp0 hx6 rfl (fun _ _ cs hR => by rw [show cs = _ from hR]; rfl)) (.inl (by decide)) ?_)
  rintro a24 w25 g25 ⟨hp0, F25⟩ hS24
  replace hF := hF.trans F25 (fun c' (hm : c' = c0) => by show (c0 ≤ c' ∧ c' < c0 + 2) ∨ N ≤ c'; omega)
  refine d_done (by kernel_rfl) (hK _ _ ?_)
  replace hS : Sl 20 _ [] := hS24.re trivial
  clear hK K hC
  try clear hS8 hS9 hS10 hS11 hS12 hS13 hS14 hS15 hS16 hS17 hS18 hS19 hS20 hS21 hS23 hS24
  obtain ⟨a, ha⟩ : ∃ a', a' = a24 := ⟨_, rfl⟩
  rw [← ha] at hS ⊢; clear ha
  have e := Option.some.inj H
  subst e
  repeat (with_reducible first | refine inBlock_exit ?_ | refine then_exit ?_ | refine inBlock_out (by decide) ?_ | refine inBlock_normal ?_)
  exact c_end0 hS Try.results100 ⟨_, rfl, g25, rfl, hp0, (by first | exact hl0 | (simp only [upd_length] <;> exact hl0)), hF⟩


end Go.Proofs.Ytfhhklkmbcnhnaa.Sim

namespace Go.Proofs.Ytfhhklkmbcnhnaa.Sim
open Go
set_option linter.unusedVariables false
set_option linter.unusedSimpArgs false

/-! ### depgraph_queue_Less: function 99 -/
def depgraph_queue_Less.f (p0 : List Int) (p1 : Int) (p2 : Int) : Option (Bool) := (idx p0 p1).bind fun x5 => (idx p0 p2).bind fun x11 => some (decide (x5 < x11))
set_option maxRecDepth 100000 in
set_option maxHeartbeats 4000000 in
theorem depgraph_queue_Less.calls {p0 : List Int} {A0 : Option Addr} {cap0 : Nat} {C0 : Nat → Prop} {p1 : Int} {p2 : Int} {w : World} {g : Nat → Nat} {out : Bool} (N : Nat) (hp0 : RdS (kint .i64) w g C0 A0 cap0 p0) (hC0 : ∀ c, C0 c → c < N) (H : depgraph_queue_Less.f p0 p1 p2 = some out) :
    Calls Try.prog 99 #[.slice A0 p0.length cap0, .int .i64 p1, .int .i64 p2] w (fun e w' => ∃ v, e = .returned v ∧ ∃ (g' : Nat → Nat), v = .bool out ∧ Fr (fun q => N ≤ q) w g w' g') := by
  unfold depgraph_queue_Less.f at H
  refine calls_enter Try.func99 rfl Try.ntmps99 rfl (fun a hS => ?_)
  replace hS : Sl 16 a [(0, .slice A0 p0.length cap0), (1, .int .i64 p1), (2, .int .i64 p2)] := hS
  have hF : Fr (fun q => N ≤ q) w g w g := Fr.refl _ _ _
  refine c_pure [(0, .slice A0 p0.length cap0), (1, .int .i64 p1), (2, .int .i64 p2)] (fun R hR => st_val hS rfl rfl rfl (r_assign hS rfl rfl) fun a1 hS1 => wpList_nil (hR _ (hS1.re ⟨rfl, rfl, rfl, trivial⟩))) ?_
  clear hS
  clear a
  intro a hS
  obtain ⟨x5, hx6, H⟩ := bind_el H
  obtain ⟨x11, hx12, H⟩ := bind_el H
  refine c_draw (fun K hK => d_start (fun q => False) g [] 10 #[false, false, false, false, false, false, false, false, false, false] (by kernel_rfl) rfl rfl (fun w2 hw2 => ?_))
  have F2 : Fr (fun _ => False) w g w2 g := by rw [hw2]; exact Fr.drew _ _ _
  replace hp0 := RdS.fr hp0 F2 (by decide) (fun _ _ h => h)
  replace hF := hF.trans F2 (fun _ h => h.elim)
  have hC : Fr (fun q => False) w2 g w2 g := Fr.refl _ _ _
  refine d_pure hS 0 #[true, false, false, false, false, false, false, false, false, false] rfl rfl rfl rfl (by kernel_rfl) (fun _ _ _ h => h) (fun _ => (r_move hS rfl rfl)) fun a3 hS3 => d_pure hS3 1 #[true, true, false, false, false, false, false, false, false, false] rfl rfl rfl rfl (by kernel_rfl) (fun _ _ _ h => h) (fun _ => (r_move hS3 rfl rfl)) fun a4 hS4 => d_pure hS4 2 #[true, true, true, false, false, false, false, false, false, false] rfl rfl rfl rfl (by kernel_rfl) (fun _ _ _ h => h) (fun _ => (r_index (e := 3) (sz := 1) (by_ := 8) hS4 rfl rfl rfl (by kernel_rfl) (RdS.some_ hp0 hx6) (idx_lo hx6) (idx_hi hx6))) fun a7 hS7 => d_take hS7 3 #[true, true, true, true, false, false, false, false, false, false] rfl rfl rfl rfl (by kernel_rfl) (fun _ _ _ h => h) ⟨_, hC⟩ (fun w' g' Fz => (r_load1 (n := 1) hS7 rfl rfl (by kernel_rfl) (RdS.cell (i := p1) (sz := 1) (j := 0) (RdS.fr hp0 Fz (by decide) (fun _ _ h => h)) hx6 rfl))) fun a8 hS8 => d_pure hS8 4 #[true, true, true, true, true, false, false, false, false, false] rfl rfl rfl rfl (by kernel_rfl) (fun _ _ _ h => h) (fun _ => (r_move hS8 rfl rfl)) fun a9 hS9 => d_pure hS9 5 #[true, true, true, true, true, true, false, false, false, false] rfl rfl rfl rfl (by kernel_rfl) (fun _ _ _ h => h) (fun _ => (r_move hS9 rfl rfl)) fun a10 hS10 => d_pure hS10 6 #[true, true, true, true, true, true, true, false, false, false] rfl rfl rfl rfl (by kernel_rfl) (fun _ _ _ h => h) (fun _ => (r_index (e := 3) (sz := 1) (by_ := 8) hS10 rfl rfl rfl (by kernel_rfl) (RdS.some_ hp0 hx12) (idx_lo hx12) (idx_hi hx12))) fun a13 hS13 => d_take hS13 7 #[true, true, true, true, true, true, true, true, false, false] rfl rfl rfl rfl (by kernel_rfl) (fun _ _ _ h => h) ⟨_, hC⟩ (fun w' g' Fz => (r_load1 (n := 1) hS13 rfl rfl (by kernel_rfl) (RdS.cell (i := p2) (sz := 1) (j := 0) (RdS.fr hp0 Fz (by decide) (fun _ _ h => h)) hx12 rfl))) fun a14 hS14 => d_pure hS14 8 #[true, true, true, true, true, true, true, true, true, false] rfl rfl rfl rfl (by kernel_rfl) (fun _ _ _ h => h) (fun _ => (r_bin hS14 rfl rfl rfl b_lss)) fun a15 hS15 => d_pure hS15 9 #[true, true, true, true, true, true, true, true, true, true] rfl rfl rfl rfl (by kernel_rfl) (fun _ _ _ h => h) (fun _ => (r_assign hS15 rfl rfl)) fun a16 hS16 => d_done (by kernel_rfl) (hK _ _ ?_)
  replace hS : Sl 16 _ [(6, .bool (decide (x5 < x11)))] := hS16.re ⟨rfl, trivial⟩
  clear hK K hC
  try clear hS3 hS4 hS7 hS8 hS9 hS10 hS13 hS14 hS15 hS16
  obtain ⟨a, ha⟩ : ∃ a', a' = a16 := ⟨_, rfl⟩
  rw [← ha] at hS ⊢; clear ha
  refine wp_ret ?_
  have e := Option.some.inj H
  subst e
  repeat (with_reducible first | refine then_ret ?_ | refine inBlock_ret ?_)
  exact c_ret1 hS Try.results99 rfl ⟨_, rfl, g, rfl, hF⟩


end Go.Proofs.Ytfhhklkmbcnhnaa.Sim

namespace Go.Proofs.Ytfhhklkmbcnhnaa.Sim
open Go
set_option linter.unusedVariables false
set_option linter.unusedSimpArgs false

/-! ### heap_down: function 81 -/
def heap_down.l0 (p2 : Int) : Nat → (List Int) → Int → Option (Int × (List Int))
  | 0, _, _ => none
  | k9 + 1, m0_0, m0_1 => if ((decide (p2 ≤ (wi ((wi (2 * m0_1)) + 1)))) || (decide ((wi ((wi (2 * m0_1)) + 1)) < 0))) = true then (some (m0_1, m0_0)) else (((if decide ((wi ((wi ((wi (2 * m0_1)) + 1)) + 1)) < p2) = true then (depgraph_queue_Less.f m0_0 (wi ((wi ((wi (2 * m0_1)) + 1)) + 1)) (wi ((wi (2 * m0_1)) + 1))).bind fun r46 => some r46 else some false).bind fun t50 => if t50 = true then (some (wi ((wi ((wi (2 * m0_1)) + 1)) + 1))) else (some (wi ((wi (2 * m0_1)) + 1))) : Option (Int)).bind fun v32 => (depgraph_queue_Less.f m0_0 v32 m0_1).bind fun r75 => if (!r75) = true then (some (m0_1, m0_0)) else ((depgraph_queue_Swap.f m0_0 m0_1 v32).bind fun r84 => heap_down.l0 p2 k9 r84 v32))
def heap_down.f (p0 : depgraph_queue) (p1 : Int) (p2 : Int) : Option (depgraph_queue × Bool) := (heap_down.l0 p2 FUEL p0.q p1 : Option (Int × (List Int))).bind fun v5 => some ((depgraph_queue.mk v5.2), decide (p1 < v5.1))
set_option maxRecDepth 100000 in
set_option maxHeartbeats 4000000 in
theorem heap_down.calls {p0 : depgraph_queue} {c0 : Nat}  {b_p0 : Nat} {A_q_p0 : Option Addr} {cap_q_p0 : Nat} {p1 : Int} {p2 : Int} {w : World} {g : Nat → Nat} {out : depgraph_queue × Bool} (N : Nat) (hp0 : depgraph_queue_At w g c0 b_p0 A_q_p0 cap_q_p0 p0) (hc0 : c0 + 3 ≤ N) (H : heap_down.f p0 p1 p2 = some out) :
    Calls Try.prog 81 #[.iface 121 (.pointer (some ⟨b_p0, 0, none⟩)), .int .i64 p1, .int .i64 p2] w (fun e w' => ∃ v, e = .returned v ∧ ∃ (g' : Nat → Nat), v = .bool out.2 ∧ depgraph_queue_At w' g' c0 b_p0 A_q_p0 cap_q_p0 out.1 ∧ Fr (fun q => (c0 ≤ q ∧ q < c0 + 3) ∨ N ≤ q) w g w' g') := by
  unfold heap_down.f at H
  refine calls_enter Try.func81 rfl Try.ntmps81 rfl (fun a hS => ?_)
  replace hS : Sl 48 a [(0, .iface 121 (.pointer (some ⟨b_p0, 0, none⟩))), (1, .int .i64 p1), (2, .int .i64 p2)] := hS
  have hF : Fr (fun q => (c0 ≤ q ∧ q < c0 + 3) ∨ N ≤ q) w g w g := Fr.refl _ _ _
  obtain ⟨hb0, hf0_q⟩ := hp0
  refine c_pure [(0, .iface 121 (.pointer (some ⟨b_p0, 0, none⟩))), (1, .int .i64 p1), (2, .int .i64 p2)] (fun R hR => st_val hS rfl rfl rfl (r_assign hS rfl rfl) fun a1 hS1 => wpList_nil (hR _ (hS1.re ⟨rfl, rfl, rfl, trivial⟩))) ?_
  clear hS
  clear a
  intro a hS
  refine c_pure [(0, .iface 121 (.pointer (some ⟨b_p0, 0, none⟩))), (1, .int .i64 p1), (2, .int .i64 p2), (7, .int .i64 p1)] (fun R hR => st_val hS rfl rfl rfl (r_move hS rfl rfl) fun a2 hS2 => st_val hS2 rfl rfl rfl (r_assign hS2 rfl rfl) fun a3 hS3 => wpList_nil (hR _ (hS3.re ⟨rfl, rfl, rfl, rfl, trivial⟩))) ?_
  clear hS
  clear a
  intro a hS
  obtain ⟨v5, H, Hl7⟩ := bind_el H
  refine c_cut (fun a w4 => ∃ (g4 : Nat → Nat), Sl 48 a [(1, .int .i64 p1), (7, .int .i64 v5.1)] ∧ Bx w4 g4 (c0) b_p0 119 [.slice A_q_p0 v5.2.length cap_q_p0] ∧ OwS (kint .i64) 3 w4 g4 (c0 + 1) A_q_p0 cap_q_p0 v5.2 ∧ Fr (fun q => (c0 ≤ q ∧ q < c0 + 3) ∨ N ≤ q) w g w4 g4) ?_ ?_
  · refine wp_block ?_
    refine wp_loop_ghost (fun kq => fun a w8 => ∃ (m0_0 : List Int), ∃ (m0_1 : Int), ∃ (g8 : Nat → Nat), heap_down.l0 p2 kq m0_0 m0_1 = some v5 ∧ Sl 48 a [(0, .iface 121 (.pointer (some ⟨b_p0, 0, none⟩))), (1, .int .i64 p1), (2, .int .i64 p2), (7, .int .i64 m0_1)] ∧ Bx w8 g8 (c0) b_p0 119 [.slice A_q_p0 m0_0.length cap_q_p0] ∧ OwS (kint .i64) 3 w8 g8 (c0 + 1) A_q_p0 cap_q_p0 m0_0 ∧ Fr (fun q => (c0 ≤ q ∧ q < c0 + 3) ∨ N ≤ q) w g w8 g8) FUEL ?_ ?_
    · exact ⟨p0.q, p1, g, H, hS.re ⟨rfl, rfl, rfl, rfl, trivial⟩, hb0, hf0_q, hF⟩
    · clear H
      clear hf0_q hb0 hF
      clear hS
      rintro k9 a w8 ⟨m0_0, m0_1, g8, hpre0, hS, hb0, hf0_q, hF⟩
      have H := hpre0
      clear hpre0
      cases k9 with
      | zero => exact absurd H (by simp [heap_down.l0])
      | succ k9 =>
        rw [heap_down.l0] at H
        refine wp_block ?_
        refine c_pure [(0, .iface 121 (.pointer (some ⟨b_p0, 0, none⟩))), (1, .int .i64 p1), (2, .int .i64 p2), (7, .int .i64 m0_1), (8, .int .i64 (wi ((wi (2 * m0_1)) + 1)))] (fun R hR => st_val hS rfl rfl rfl (r_move hS rfl rfl) fun a10 hS10 => st_val hS10 rfl rfl rfl (r_bin hS10 rfl rfl rfl b_mul) fun a11 hS11 => st_val hS11 rfl rfl rfl (r_bin hS11 rfl rfl rfl b_add) fun a12 hS12 => st_val hS12 rfl rfl rfl (r_assign hS12 rfl rfl) fun a13 hS13 => wpList_nil (hR _ (hS13.re ⟨rfl, rfl, rfl, rfl, rfl, trivial⟩))) ?_
        clear hS
        clear a
        intro a hS
        refine wp_seq ?_
        refine c_region (fun K hK => ?_)
        refine st_val hS rfl rfl rfl (r_move hS rfl rfl) fun a14 hS14 => st_val hS14 rfl rfl rfl (r_move hS14 rfl rfl) fun a15 hS15 => st_val hS15 rfl rfl rfl (r_bin hS15 rfl rfl rfl b_geq) fun a16 hS16 => st_val hS16 rfl rfl rfl (r_move hS16 rfl rfl) fun a17 hS17 => ?_
        refine g_join (N := 48) 3 [(0, .iface 121 (.pointer (some ⟨b_p0, 0, none⟩))), (1, .int .i64 p1), (2, .int .i64 p2), (7, .int .i64 m0_1), (8, .int .i64 (wi ((wi (2 * m0_1)) + 1))), (21, .bool ((decide (p2 ≤ (wi ((wi (2 * m0_1)) + 1)))) || (decide ((wi ((wi (2 * m0_1)) + 1)) < 0))))] ?_ (fun hk => ?_)
        rotate_left
        · rcases Bool.eq_false_or_eq_true (decide (p2 ≤ (wi ((wi (2 * m0_1)) + 1)))) with hb18 | hb18
          · refine st_off hS17 (want_off hS17 rfl rfl rfl hb18) rfl rfl fun a21 hS21 => st_off hS21 (want_off hS21 rfl rfl rfl hb18) rfl rfl fun a22 hS22 => st_val hS22 rfl rfl rfl (r_pickT hS22 rfl rfl rfl hb18) fun a23 hS23 => hk _ (hS23.re ⟨rfl, rfl, rfl, rfl, rfl, (by rw [hb18]; rfl), trivial⟩)
          · refine st_valW hS17 (want_on hS17 rfl rfl rfl hb18) rfl rfl (r_move hS17 rfl rfl) fun a24 hS24 => st_valW hS24 (want_on hS24 rfl rfl rfl hb18) rfl rfl (r_bin hS24 rfl rfl rfl b_lss) fun a25 hS25 => st_val hS25 rfl rfl rfl (r_pickF hS25 rfl rfl rfl hb18) fun a26 hS26 => hk _ (hS26.re ⟨rfl, rfl, rfl, rfl, rfl, (by rw [hb18]; rfl), trivial⟩)
        intro a27 hS27
        refine wpList_nil (hK _ _ ?_)
        replace hS : Sl 48 _ [(0, .iface 121 (.pointer (some ⟨b_p0, 0, none⟩))), (1, .int .i64 p1), (2, .int .i64 p2), (7, .int .i64 m0_1), (8, .int .i64 (wi ((wi (2 * m0_1)) + 1))), (21, .bool ((decide (p2 ≤ (wi ((wi (2 * m0_1)) + 1)))) || (decide ((wi ((wi (2 * m0_1)) + 1)) < 0))))] := hS27.re ⟨rfl, rfl, rfl, rfl, rfl, rfl, trivial⟩
        clear hK K
        try clear hS14 hS15 hS16 hS17 hS27
        obtain ⟨a, ha⟩ : ∃ a', a' = a27 := ⟨_, rfl⟩
        rw [← ha] at hS ⊢; clear ha
        refine c_cond hS rfl (fun hb28 => ?_) (fun hb28 => ?_)
        · replace H := ite_t hb28 H
          refine wp_exit ?_
          have e := Option.some.inj H
          subst e
          exact ⟨g8, hS.re ⟨rfl, rfl, trivial⟩, hb0, hf0_q, hF⟩
        · replace H := ite_f hb28 H
          refine wp_skip ?_
          change Code.wp _ _ _ _ _
          refine c_pure [(0, .iface 121 (.pointer (some ⟨b_p0, 0, none⟩))), (1, .int .i64 p1), (2, .int .i64 p2), (7, .int .i64 m0_1), (8, .int .i64 (wi ((wi (2 * m0_1)) + 1))), (9, .int .i64 (wi ((wi (2 * m0_1)) + 1)))] (fun R hR => st_val hS rfl rfl rfl (r_move hS rfl rfl) fun a29 hS29 => st_val hS29 rfl rfl rfl (r_assign hS29 rfl rfl) fun a30 hS30 => wpList_nil (hR _ (hS30.re ⟨rfl, rfl, rfl, rfl, rfl, rfl, trivial⟩))) ?_
          clear hS
          clear a
          intro a hS
          obtain ⟨v32, H, Hl34⟩ := bind_el H
          refine c_cut (fun a w31 => ∃ (g31 : Nat → Nat), Sl 48 a [(0, .iface 121 (.pointer (some ⟨b_p0, 0, none⟩))), (1, .int .i64 p1), (2, .int .i64 p2), (7, .int .i64 m0_1), (9, .int .i64 v32)] ∧ Bx w31 g31 (c0) b_p0 119 [.slice A_q_p0 m0_0.length cap_q_p0] ∧ OwS (kint .i64) 3 w31 g31 (c0 + 1) A_q_p0 cap_q_p0 m0_0 ∧ Fr (fun q => (c0 ≤ q ∧ q < c0 + 3) ∨ N ≤ q) w g w31 g31) ?_ ?_
          · refine c_pure [(0, .iface 121 (.pointer (some ⟨b_p0, 0, none⟩))), (1, .int .i64 p1), (2, .int .i64 p2), (7, .int .i64 m0_1), (8, .int .i64 (wi ((wi (2 * m0_1)) + 1))), (9, .int .i64 (wi ((wi (2 * m0_1)) + 1))), (10, .int .i64 (wi ((wi ((wi (2 * m0_1)) + 1)) + 1)))] (fun R hR => st_val hS rfl rfl rfl (r_move hS rfl rfl) fun a35 hS35 => st_val hS35 rfl rfl rfl (r_bin hS35 rfl rfl rfl b_add) fun a36 hS36 => st_val hS36 rfl rfl rfl (r_assign hS36 rfl rfl) fun a37 hS37 => wpList_nil (hR _ (hS37.re ⟨rfl, rfl, rfl, rfl, rfl, rfl, rfl, trivial⟩))) ?_
            clear hS
            clear a
            intro a hS
            obtain ⟨t50, ht51, H⟩ := bind_el H
            refine c_region (fun K hK => ?_)
            refine st_val hS rfl rfl rfl (r_move hS rfl rfl) fun a38 hS38 => st_val hS38 rfl rfl rfl (r_move hS38 rfl rfl) fun a39 hS39 => st_val hS39 rfl rfl rfl (r_bin hS39 rfl rfl rfl b_lss) fun a40 hS40 => st_val hS40 rfl rfl rfl (r_move hS40 rfl rfl) fun a41 hS41 => ?_
            refine g_joinR 5 (fun a w52 => ∃ (g52 : Nat → Nat), Sl 48 a [(0, .iface 121 (.pointer (some ⟨b_p0, 0, none⟩))), (1, .int .i64 p1), (2, .int .i64 p2), (7, .int .i64 m0_1), (9, .int .i64 (wi ((wi (2 * m0_1)) + 1))), (10, .int .i64 (wi ((wi ((wi (2 * m0_1)) + 1)) + 1))), (33, .bool t50)] ∧ Bx w52 g52 (c0) b_p0 119 [.slice A_q_p0 m0_0.length cap_q_p0] ∧ OwS (kint .i64) 3 w52 g52 (c0 + 1) A_q_p0 cap_q_p0 m0_0 ∧ Fr (fun q => (c0 ≤ q ∧ q < c0 + 3) ∨ N ≤ q) w g w52 g52) ?_ (fun hk => ?_)
            rotate_left
            · rcases Bool.eq_false_or_eq_true (decide ((wi ((wi ((wi (2 * m0_1)) + 1)) + 1)) < p2)) with hb42 | hb42
              · have H := ite_t hb42 ht51
                obtain ⟨r56, hr57, H⟩ := bind_el H
                have e60 := Option.some.inj H
                refine st_valW hS41 (want_on hS41 rfl rfl rfl hb42) rfl rfl (r_move hS41 rfl rfl) fun a53 hS53 => st_valW hS53 (want_on hS53 rfl rfl rfl hb42) rfl rfl (r_move hS53 rfl rfl) fun a54 hS54 => st_valW hS54 (want_on hS54 rfl rfl rfl hb42) rfl rfl (r_move hS54 rfl rfl) fun a55 hS55 => ?_
                refine st_enterW hS55 (want_on hS55 rfl rfl rfl hb42) rfl rfl (r_invoke (T := 121) (E := 119) (f := 99) (n := 1) (b := false) hS55 rfl rfl rfl (by kernel_rfl) (by kernel_rfl) (by kernel_rfl) (.inr ⟨rfl, (by kernel_rfl), Bx.cell hb0 rfl⟩)) (depgraph_queue_Less.calls (C0 := (fun q => q = c0 + 1)) (p0 := m0_0) (p1 := (wi ((wi ((wi (2 * m0_1)) + 1)) + 1))) (p2 := (wi ((wi (2 * m0_1)) + 1))) (g := g8) (N + 0)  (OwD.rdf (fun _ _ _ _ _ _ h => h) hf0_q) (fun q (hq : q = c0 + 1) => by omega) hr57) ?_
                rintro _ a58 w59 ⟨g59, rfl, F59⟩ hS58
                replace hb0 := hb0.fr F59 (fun (hm : N + 0 ≤ c0) => by omega)
                replace hf0_q := OwS.fr hf0_q F59 (fun c' hc (hm : N + 0 ≤ c') => by omega)
                replace hF := hF.trans F59 (fun c' (hm : N + 0 ≤ c') => by show (c0 ≤ c' ∧ c' < c0 + 3) ∨ N ≤ c'; omega)
                refine st_val hS58 rfl rfl rfl (r_pickT hS58 rfl rfl rfl hb42) fun a61 hS61 => hk _ _ ?_
                exact ⟨g59, hS61.re ⟨rfl, rfl, rfl, rfl, rfl, rfl, (by rw [← e60]; rfl), trivial⟩, hb0, hf0_q, hF⟩
              · have H := ite_f hb42 ht51
                have e62 := Option.some.inj H
                refine st_off hS41 (want_off hS41 rfl rfl rfl hb42) rfl rfl fun a63 hS63 => st_off hS63 (want_off hS63 rfl rfl rfl hb42) rfl rfl fun a64 hS64 => st_off hS64 (want_off hS64 rfl rfl rfl hb42) rfl rfl fun a65 hS65 => st_off hS65 (want_off hS65 rfl rfl rfl hb42) rfl rfl fun a66 hS66 => st_val hS66 rfl rfl rfl (r_pickF hS66 rfl rfl rfl hb42) fun a67 hS67 => hk _ _ ?_
                exact ⟨g8, hS67.re ⟨rfl, rfl, rfl, rfl, rfl, rfl, (by rw [← e62]; rfl), trivial⟩, hb0, hf0_q, hF⟩
            rintro a68 w52 ⟨g52, hS68, hb0, hf0_q, hF⟩
            refine wpList_nil (hK _ _ ?_)
            replace hS : Sl 48 _ [(0, .iface 121 (.pointer (some ⟨b_p0, 0, none⟩))), (1, .int .i64 p1), (2, .int .i64 p2), (7, .int .i64 m0_1), (9, .int .i64 (wi ((wi (2 * m0_1)) + 1))), (10, .int .i64 (wi ((wi ((wi (2 * m0_1)) + 1)) + 1))), (33, .bool t50)] := hS68.re ⟨rfl, rfl, rfl, rfl, rfl, rfl, rfl, trivial⟩
            clear hK K
            try clear hS38 hS39 hS40 hS41 hS68
            obtain ⟨a, ha⟩ : ∃ a', a' = a68 := ⟨_, rfl⟩
            rw [← ha] at hS ⊢; clear ha
            refine c_cond hS rfl (fun hb69 => ?_) (fun hb69 => ?_)
            · replace H := ite_t hb69 H
              refine c_pure1 [(0, .iface 121 (.pointer (some ⟨b_p0, 0, none⟩))), (1, .int .i64 p1), (2, .int .i64 p2), (7, .int .i64 m0_1), (9, .int .i64 (wi ((wi ((wi (2 * m0_1)) + 1)) + 1)))] (fun R hR => st_val hS rfl rfl rfl (r_move hS rfl rfl) fun a70 hS70 => st_val hS70 rfl rfl rfl (r_assign hS70 rfl rfl) fun a71 hS71 => wpList_nil (hR _ (hS71.re ⟨rfl, rfl, rfl, rfl, rfl, trivial⟩))) ?_
              clear hS
              clear a
              intro a hS
              have e := Option.some.inj H
              subst e
              exact ⟨g52, hS.re ⟨rfl, rfl, rfl, rfl, rfl, trivial⟩, hb0, hf0_q, hF⟩
            · replace H := ite_f hb69 H
              refine wp_skip ?_
              have e := Option.some.inj H
              subst e
              exact ⟨g52, hS.re ⟨rfl, rfl, rfl, rfl, rfl, trivial⟩, hb0, hf0_q, hF⟩
          · clear H
            clear hf0_q hb0 hF
            clear hS
            rintro a w31 ⟨g31, hS, hb0, hf0_q, hF⟩
            have H := Hl34
            clear Hl34
            refine wp_seq ?_
            obtain ⟨r75, hr76, H⟩ := bind_el H
            refine c_region (fun K hK => ?_)
            refine st_val hS rfl rfl rfl (r_move hS rfl rfl) fun a72 hS72 => st_val hS72 rfl rfl rfl (r_move hS72 rfl rfl) fun a73 hS73 => st_val hS73 rfl rfl rfl (r_move hS73 rfl rfl) fun a74 hS74 => ?_
            refine st_enter hS74 rfl rfl rfl (r_invoke (T := 121) (E := 119) (f := 99) (n := 1) (b := false) hS74 rfl rfl rfl (by kernel_rfl) (by kernel_rfl) (by kernel_rfl) (.inr ⟨rfl, (by kernel_rfl), Bx.cell hb0 rfl⟩)) (depgraph_queue_Less.calls (C0 := (fun q => q = c0 + 1)) (p0 := m0_0) (p1 := v32) (p2 := m0_1) (g := g31) (N + 0)  (OwD.rdf (fun _ _ _ _ _ _ h => h) hf0_q) (fun q (hq : q = c0 + 1) => by omega) hr76) ?_
            rintro _ a77 w78 ⟨g78, rfl, F78⟩ hS77
            replace hb0 := hb0.fr F78 (fun (hm : N + 0 ≤ c0) => by omega)
            replace hf0_q := OwS.fr hf0_q F78 (fun c' hc (hm : N + 0 ≤ c') => by omega)
            replace hF := hF.trans F78 (fun c' (hm : N + 0 ≤ c') => by show (c0 ≤ c' ∧ c' < c0 + 3) ∨ N ≤ c'; omega)
            refine st_val hS77 rfl rfl rfl (r_not hS77 rfl rfl) fun a79 hS79 => wpList_nil (hK _ _ ?_)
            replace hS : Sl 48 _ [(0, .iface 121 (.pointer (some ⟨b_p0, 0, none⟩))), (1, .int .i64 p1), (2, .int .i64 p2), (7, .int .i64 m0_1), (9, .int .i64 v32), (39, .bool (!r75))] := hS79.re ⟨rfl, rfl, rfl, rfl, rfl, rfl, trivial⟩
            clear hK K
            try clear hS72 hS73 hS74 hS77 hS79
            obtain ⟨a, ha⟩ : ∃ a', a' = a79 := ⟨_, rfl⟩
            rw [← ha] at hS ⊢; clear ha
            refine c_cond hS rfl (fun hb80 => ?_) (fun hb80 => ?_)
            · replace H := ite_t hb80 H
              refine wp_exit ?_
              have e := Option.some.inj H
              subst e
              exact ⟨g78, hS.re ⟨rfl, rfl, trivial⟩, hb0, hf0_q, hF⟩
            · replace H := ite_f hb80 H
              refine wp_skip ?_
              change Code.wp _ _ _ _ _
              obtain ⟨r84, hr85, H⟩ := bind_el H
              refine c_region (fun K hK => ?_)
              refine st_val hS rfl rfl rfl (r_move hS rfl rfl) fun a81 hS81 => st_val hS81 rfl rfl rfl (r_move hS81 rfl rfl) fun a82 hS82 => st_val hS82 rfl rfl rfl (r_move hS82 rfl rfl) fun a83 hS83 => ?_
              refine st_enter hS83 rfl rfl rfl (r_invoke (T := 121) (E := 119) (f := 100) (n := 1) (b := false) hS83 rfl rfl rfl (by kernel_rfl) (by kernel_rfl) (by kernel_rfl) (.inr ⟨rfl, (by kernel_rfl), Bx.cell hb0 rfl⟩)) (depgraph_queue_Swap.calls (c0 := c0 + 1) (A0 := A_q_p0) (cap0 := cap_q_p0) (p0 := m0_0) (p1 := m0_1) (p2 := v32) (g := g78) (N + 0)  hf0_q (by omega) hr85) ?_
              rintro _ a87 w88 ⟨g88, rfl, hf0_q, hl86, F88⟩ hS87
              replace hb0 := hb0.fr F88 (fun (hm : (c0 + 1 ≤ c0 ∧ c0 < c0 + 1 + 2) ∨ N + 0 ≤ c0) => by omega)
              replace hF := hF.trans F88 (fun c' (hm : (c0 + 1 ≤ c' ∧ c' < c0 + 1 + 2) ∨ N + 0 ≤ c') => by show (c0 ≤ c' ∧ c' < c0 + 3) ∨ N ≤ c'; omega)
              replace hb0 : Bx w88 g88 (c0) b_p0 119 [.slice A_q_p0 r84.length cap_q_p0] := by simpa only [hl86] using hb0
              refine wpList_nil (hK _ _ ?_)
              replace hS : Sl 48 _ [(0, .iface 121 (.pointer (some ⟨b_p0, 0, none⟩))), (1, .int .i64 p1), (2, .int .i64 p2), (9, .int .i64 v32)] := hS87.re ⟨rfl, rfl, rfl, rfl, trivial⟩
              clear hK K
              try clear hS81 hS82 hS83 hS87
              obtain ⟨a, ha⟩ : ∃ a', a' = a87 := ⟨_, rfl⟩
              rw [← ha] at hS ⊢; clear ha
              refine c_pure1 [(0, .iface 121 (.pointer (some ⟨b_p0, 0, none⟩))), (1, .int .i64 p1), (2, .int .i64 p2), (7, .int .i64 v32)] (fun R hR => st_val hS rfl rfl rfl (r_move hS rfl rfl) fun a89 hS89 => st_val hS89 rfl rfl rfl (r_assign hS89 rfl rfl) fun a90 hS90 => wpList_nil (hR _ (hS90.re ⟨rfl, rfl, rfl, rfl, trivial⟩))) ?_
              clear hS
              clear a
              intro a hS
              refine ⟨k9, Nat.lt_succ_self _, ?_⟩
              exact ⟨r84, v32, g88, H, hS.re ⟨rfl, rfl, rfl, rfl, trivial⟩, hb0, hf0_q, hF⟩
  · clear H
    clear hf0_q hb0 hF
    clear hS
    rintro a w4 ⟨g4, hS, hb0, hf0_q, hF⟩
    have H := Hl7
    clear Hl7
    refine c_pure [(6, .bool (decide (p1 < v5.1)))] (fun R hR => st_val hS rfl rfl rfl (r_move hS rfl rfl) fun a91 hS91 => st_val hS91 rfl rfl rfl (r_move hS91 rfl rfl) fun a92 hS92 => st_val hS92 rfl rfl rfl (r_bin hS92 rfl rfl rfl b_gtr) fun a93 hS93 => st_val hS93 rfl rfl rfl (r_assign hS93 rfl rfl) fun a94 hS94 => wpList_nil (hR _ (hS94.re ⟨rfl, trivial⟩))) ?_
    clear hS
    clear a
    intro a hS
    refine wp_ret ?_
    have e := Option.some.inj H
    subst e
    repeat (with_reducible first | refine then_ret ?_ | refine inBlock_ret ?_)
    exact c_ret1 hS Try.results81 rfl ⟨_, rfl, g4, rfl, ⟨hb0, hf0_q⟩, hF⟩


end Go.Proofs.Ytfhhklkmbcnhnaa.Sim

namespace Go.Proofs.Ytfhhklkmbcnhnaa.Sim
open Go
set_option linter.unusedVariables false
set_option linter.unusedSimpArgs false

/-! ### heap_Pop: function 79 -/
def heap_Pop.f (p0 : depgraph_queue) : Option (depgraph_queue × Int) := (depgraph_queue_Len.f p0.q).bind fun r3 => (depgraph_queue_Swap.f p0.q 0 (wi (r3 - 1))).bind fun r11 => (heap_down.f (depgraph_queue.mk r11) 0 (wi (r3 - 1))).bind fun r18 => (depgraph_queue_Pop.f r18.1).bind fun r23 => some (r23.1, r23.2)
set_option maxRecDepth 100000 in
set_option maxHeartbeats 4000000 in
theorem heap_Pop.calls {p0 : depgraph_queue} {c0 : Nat}  {b_p0 : Nat} {A_q_p0 : Option Addr} {cap_q_p0 : Nat} {w : World} {g : Nat → Nat} {out : depgraph_queue × Int} (N : Nat) (hp0 : depgraph_queue_At w g c0 b_p0 A_q_p0 cap_q_p0 p0) (hc0 : c0 + 3 ≤ N) (H : heap_Pop.f p0 = some out) :
    Calls Try.prog 79 #[.iface 121 (.pointer (some ⟨b_p0, 0, none⟩))] w (fun e w' => ∃ v, e = .returned v ∧ ∃ (g' : Nat → Nat) (A_q_q0 : Option Addr) (cap_q_q0 : Nat), v = .iface 3 (.int .i64 out.2) ∧ depgraph_queue_At w' g' c0 b_p0 A_q_q0 cap_q_q0 out.1 ∧ Fr (fun q => (c0 ≤ q ∧ q < c0 + 3) ∨ N ≤ q) w g w' g') := by
  unfold heap_Pop.f at H
  refine calls_enter Try.func79 rfl Try.ntmps79 rfl (fun a hS => ?_)
  replace hS : Sl 15 a [(0, .iface 121 (.pointer (some ⟨b_p0, 0, none⟩)))] := hS
  have hF : Fr (fun q => (c0 ≤ q ∧ q < c0 + 3) ∨ N ≤ q) w g w g := Fr.refl _ _ _
  obtain ⟨hb0, hf0_q⟩ := hp0
  refine c_pure [(0, .iface 121 (.pointer (some ⟨b_p0, 0, none⟩)))] (fun R hR => st_val hS rfl rfl rfl (r_assign hS rfl rfl) fun a1 hS1 => wpList_nil (hR _ (hS1.re ⟨rfl, trivial⟩))) ?_
  clear hS
  clear a
  intro a hS
  obtain ⟨r3, hr4, H⟩ := bind_el H
  refine c_region (fun K hK => ?_)
  refine st_val hS rfl rfl rfl (r_move hS rfl rfl) fun a2 hS2 => ?_
  refine st_enter hS2 rfl rfl rfl (r_invoke (T := 121) (E := 119) (f := 98) (n := 1) (b := false) hS2 rfl rfl rfl (by kernel_rfl) (by kernel_rfl) (by kernel_rfl) (.inr ⟨rfl, (by kernel_rfl), Bx.cell hb0 rfl⟩)) (depgraph_queue_Len.calls (C0 := (fun q => q = c0 + 1)) (p0 := p0.q) (g := g) (N + 0)  (OwD.rdf (fun _ _ _ _ _ _ h => h) hf0_q) (fun q (hq : q = c0 + 1) => by omega) hr4) ?_
  rintro _ a5 w6 ⟨g6, rfl, F6⟩ hS5
  replace hb0 := hb0.fr F6 (fun (hm : N + 0 ≤ c0) => by omega)
  replace hf0_q := OwS.fr hf0_q F6 (fun c' hc (hm : N + 0 ≤ c') => by omega)
  replace hF := hF.trans F6 (fun c' (hm : N + 0 ≤ c') => by show (c0 ≤ c' ∧ c' < c0 + 3) ∨ N ≤ c'; omega)
  refine st_val hS5 rfl rfl rfl (r_bin hS5 rfl rfl rfl b_sub) fun a7 hS7 => st_val hS7 rfl rfl rfl (r_assign hS7 rfl rfl) fun a8 hS8 => wpList_nil (hK _ _ ?_)
  replace hS : Sl 15 _ [(0, .iface 121 (.pointer (some ⟨b_p0, 0, none⟩))), (3, .int .i64 (wi (r3 - 1)))] := hS8.re ⟨rfl, rfl, trivial⟩
  clear hK K
  try clear hS2 hS5 hS7 hS8
  obtain ⟨a, ha⟩ : ∃ a', a' = a8 := ⟨_, rfl⟩
  rw [← ha] at hS ⊢; clear ha
  obtain ⟨r11, hr12, H⟩ := bind_el H
  refine c_region (fun K hK => ?_)
  refine st_val hS rfl rfl rfl (r_move hS rfl rfl) fun a9 hS9 => st_val hS9 rfl rfl rfl (r_move hS9 rfl rfl) fun a10 hS10 => ?_
  refine st_enter hS10 rfl rfl rfl (r_invoke (T := 121) (E := 119) (f := 100) (n := 1) (b := false) hS10 rfl rfl rfl (by kernel_rfl) (by kernel_rfl) (by kernel_rfl) (.inr ⟨rfl, (by kernel_rfl), Bx.cell hb0 rfl⟩)) (depgraph_queue_Swap.calls (c0 := c0 + 1) (A0 := A_q_p0) (cap0 := cap_q_p0) (p0 := p0.q) (p1 := 0) (p2 := (wi (r3 - 1))) (g := g6) (N + 0)  hf0_q (by omega) hr12) ?_
  rintro _ a14 w15 ⟨g15, rfl, hf0_q, hl13, F15⟩ hS14
  replace hb0 := hb0.fr F15 (fun (hm : (c0 + 1 ≤ c0 ∧ c0 < c0 + 1 + 2) ∨ N + 0 ≤ c0) => by omega)
  replace hF := hF.trans F15 (fun c' (hm : (c0 + 1 ≤ c' ∧ c' < c0 + 1 + 2) ∨ N + 0 ≤ c') => by show (c0 ≤ c' ∧ c' < c0 + 3) ∨ N ≤ c'; omega)
  replace hb0 : Bx w15 g15 (c0) b_p0 119 [.slice A_q_p0 r11.length cap_q_p0] := by simpa only [hl13] using hb0
  refine wpList_nil (hK _ _ ?_)
  replace hS : Sl 15 _ [(0, .iface 121 (.pointer (some ⟨b_p0, 0, none⟩))), (3, .int .i64 (wi (r3 - 1)))] := hS14.re ⟨rfl, rfl, trivial⟩
  clear hK K
  try clear hS9 hS10 hS14
  obtain ⟨a, ha⟩ : ∃ a', a' = a14 := ⟨_, rfl⟩
  rw [← ha] at hS ⊢; clear ha
  obtain ⟨r18, hr19, H⟩ := bind_el H
  refine c_region (fun K hK => ?_)
  refine st_val hS rfl rfl rfl (r_move hS rfl rfl) fun a16 hS16 => st_val hS16 rfl rfl rfl (r_move hS16 rfl rfl) fun a17 hS17 => ?_
  refine st_enter hS17 rfl rfl rfl (r_call hS17 rfl rfl (by kernel_rfl)) (heap_down.calls (c0 := c0) (b_p0 := b_p0) (A_q_p0 := A_q_p0) (cap_q_p0 := cap_q_p0) (p0 := (depgraph_queue.mk r11)) (p1 := 0) (p2 := (wi (r3 - 1))) (g := g15) (N + 0)  ⟨hb0, hf0_q⟩ (by omega) hr19) ?_
  rintro _ a20 w21 ⟨g21, rfl, ⟨hb0, hf0_q⟩, F21⟩ hS20
  replace hF := hF.trans F21 (fun c' (hm : (c0 ≤ c' ∧ c' < c0 + 3) ∨ N + 0 ≤ c') => by show (c0 ≤ c' ∧ c' < c0 + 3) ∨ N ≤ c'; omega)
  refine wpList_nil (hK _ _ ?_)
  replace hS : Sl 15 _ [(0, .iface 121 (.pointer (some ⟨b_p0, 0, none⟩)))] := hS20.re ⟨rfl, trivial⟩
  clear hK K
  try clear hS16 hS17 hS20
  obtain ⟨a, ha⟩ : ∃ a', a' = a20 := ⟨_, rfl⟩
  rw [← ha] at hS ⊢; clear ha
  obtain ⟨r23, hr24, H⟩ := bind_el H
  refine c_region (fun K hK => ?_)
  refine st_val hS rfl rfl rfl (r_move hS rfl rfl) fun a22 hS22 => ?_
  refine st_enter hS22 rfl rfl rfl (r_invoke (T := 121) (E := 119) (f := 101) (n := 1) (b := true) hS22 rfl rfl rfl (by kernel_rfl) (by kernel_rfl) (by kernel_rfl) (.inl ⟨rfl, rfl⟩)) (depgraph_queue_Pop.calls (c0 := c0) (b_p0 := b_p0) (A_q_p0 := A_q_p0) (cap_q_p0 := cap_q_p0) (p0 := r18.1) (g := g21) (N + 0)  ⟨hb0, hf0_q⟩ (by omega) hr24) ?_
  rintro _ a27 w28 ⟨g28, A25, cap26, rfl, ⟨hb0, hf0_q⟩, F28⟩ hS27
  replace hF := hF.trans F28 (fun c' (hm : (c0 ≤ c' ∧ c' < c0 + 3) ∨ N + 0 ≤ c') => by show (c0 ≤ c' ∧ c' < c0 + 3) ∨ N ≤ c'; omega)
  refine st_val hS27 rfl rfl rfl (r_assign hS27 rfl rfl) fun a29 hS29 => wpList_nil (hK _ _ ?_)
  replace hS : Sl 15 _ [(2, .iface 3 (.int .i64 r23.2))] := hS29.re ⟨rfl, trivial⟩
  clear hK K
  try clear hS22 hS27 hS29
  obtain ⟨a, ha⟩ : ∃ a', a' = a29 := ⟨_, rfl⟩
  rw [← ha] at hS ⊢; clear ha
  refine wp_ret ?_
  have e := Option.some.inj H
  subst e
  repeat (with_reducible first | refine then_ret ?_ | refine inBlock_ret ?_)
  exact c_ret1 hS Try.results79 rfl ⟨_, rfl, g28, A25, cap26, rfl, ⟨hb0, hf0_q⟩, hF⟩


end Go.Proofs.Ytfhhklkmbcnhnaa.Sim

namespace Go.Proofs.Ytfhhklkmbcnhnaa.Sim
open Go
set_option linter.unusedVariables false
set_option linter.unusedSimpArgs false

/-! ### depgraph_queue_Push: function 102 -/
def depgraph_queue_Push.f (p0 : depgraph_queue) (p1 : Int) : Option (depgraph_queue) := (app p0.q [p1]).bind fun y20 => some (depgraph_queue.mk y20)
set_option maxRecDepth 100000 in
set_option maxHeartbeats 4000000 in
theorem depgraph_queue_Push.calls {p0 : depgraph_queue} {c0 : Nat}  {b_p0 : Nat} {A_q_p0 : Option Addr} {cap_q_p0 : Nat} {p1 : Int} {w : World} {g : Nat → Nat} {out : depgraph_queue} (N : Nat) (hp0 : depgraph_queue_At w g c0 b_p0 A_q_p0 cap_q_p0 p0) (hc0 : c0 + 3 ≤ N) (H : depgraph_queue_Push.f p0 p1 = some out) :
    Calls Try.prog 102 #[.pointer (some ⟨b_p0, 0, none⟩), .iface 3 (.int .i64 p1)] w (fun e w' => ∃ v, e = .returned v ∧ ∃ (g' : Nat → Nat) (A_q_q0 : Option Addr) (cap_q_q0 : Nat), v = .tuple #[] ∧ depgraph_queue_At w' g' c0 b_p0 A_q_q0 cap_q_q0 out ∧ Fr (fun q => (c0 ≤ q ∧ q < c0 + 3) ∨ N ≤ q) w g w' g') := by
  unfold depgraph_queue_Push.f at H
  refine calls_enter Try.func102 rfl Try.ntmps102 rfl (fun a hS => ?_)
  replace hS : Sl 20 a [(0, .pointer (some ⟨b_p0, 0, none⟩)), (1, .iface 3 (.int .i64 p1))] := hS
  have hF : Fr (fun q => (c0 ≤ q ∧ q < c0 + 3) ∨ N ≤ q) w g w g := Fr.refl _ _ _
  obtain ⟨hb0, hf0_q⟩ := hp0
  refine c_pure [(0, .pointer (some ⟨b_p0, 0, none⟩)), (4, .int .i64 p1), (5, .bool true)] (fun R hR => st_val hS rfl rfl rfl (r_move hS rfl rfl) fun a1 hS1 => st_val hS1 rfl rfl rfl (r_assert hS1 rfl rfl (by kernel_rfl)) fun a2 hS2 => st_val hS2 rfl rfl rfl (r_move hS2 rfl rfl) fun a3 hS3 => st_val hS3 rfl rfl rfl (r_extract hS3 rfl rfl rfl) fun a4 hS4 => st_val hS4 rfl rfl rfl (r_extract hS4 rfl rfl rfl) fun a5 hS5 => st_val hS5 rfl rfl rfl (r_assign hS5 rfl rfl) fun a6 hS6 => st_val hS6 rfl rfl rfl (r_assign hS6 rfl rfl) fun a7 hS7 => wpList_nil (hR _ (hS7.re ⟨rfl, rfl, rfl, trivial⟩))) ?_
  clear hS
  clear a
  intro a hS
  refine c_pure [(0, .pointer (some ⟨b_p0, 0, none⟩)), (4, .int .i64 p1), (11, .bool true)] (fun R hR => st_val hS rfl rfl rfl (r_move hS rfl rfl) fun a8 hS8 => wpList_nil (hR _ (hS8.re ⟨rfl, rfl, rfl, trivial⟩))) ?_
  clear hS
  clear a
  intro a hS
  refine c_cond hS rfl (fun hb9 => ?_) (fun hb9 => ?_)
  · obtain ⟨y20, hy21, H⟩ := bind_el H
    refine c_region1 (fun K hK => ?_)
    refine st_val hS rfl rfl rfl (r_move hS rfl rfl) fun a10 hS10 => st_val hS10 rfl rfl rfl (r_move hS10 rfl rfl) fun a11 hS11 => st_val hS11 rfl rfl rfl (r_nil hS11 rfl rfl) fun a12 hS12 => st_val hS12 rfl rfl rfl (r_load1 (n := 1) hS12 rfl rfl (by kernel_rfl) (Bx.cell hb0 rfl)) fun a13 hS13 => st_val hS13 rfl rfl rfl (r_move hS13 rfl rfl) fun a14 hS14 => ?_
    refine st_eff hS14 rfl rfl rfl (e_lit (e := 3) (parts := [(0, .int .i64 p1)]) (cs := [.int .i64 p1]) (kint .i64) [p1] (N + 0) g hS14 rfl rfl (fun _ => by kernel_rfl) rfl (by decide) (Rows.cons (cs := [.int .i64 p1]) rfl Rows.nil)) ?_
    rintro _ a18 w19 g19 ⟨⟨A15, rfl, h16⟩, F19⟩ hS18
    replace hb0 := hb0.fr F19 (fun h => h)
    replace hf0_q := OwS.fr hf0_q F19 (fun _ _ h => h)
    replace hF := hF.trans F19 (fun _ h => h.elim)
    refine st_eff hS18 rfl rfl rfl (e_append (e := 3) (sz := 1) (by_ := 8) (z := [.int .i64 0]) (kd := (kint .i64)) g19 hS18 rfl rfl rfl rfl (by kernel_rfl) (by kernel_rfl) rfl rfl rfl rfl hf0_q (OwD.rdx h16) (fun _ _ _ h => h) hy21) ?_
    rintro _ a26 w27 g27 ⟨⟨A22, cap23, rfl, h24⟩, F27⟩ hS26
    replace h16 := OwS.fr h16 F27 (fun c' hc (hm : c' = c0 + 1) => by omega)
    replace hb0 := hb0.fr F27 (fun (hm : c0 = c0 + 1) => by omega)
    replace hF := hF.trans F27 (fun c' (hm : c' = c0 + 1) => by show (c0 ≤ c' ∧ c' < c0 + 3) ∨ N ≤ c'; omega)
    refine st_val hS26 rfl rfl rfl (r_nil hS26 rfl rfl) fun a28 hS28 => ?_
    refine st_effS hS28 rfl rfl (e_storeB (n := 1) (bb := false) (cs' := [.slice A22 y20.length cap23]) g27 hS28 rfl rfl rfl (by kernel_rfl) rfl rfl rfl hb0 rfl rfl) ?_
    rintro a29 w30 g30 ⟨hb0, F30⟩ hS29
    replace h16 := OwS.fr h16 F30 (fun c' hc (hm : c' = c0) => by omega)
    replace h24 := OwS.fr h24 F30 (fun c' hc (hm : c' = c0) => by omega)
    replace hF := hF.trans F30 (fun c' (hm : c' = c0) => by show (c0 ≤ c' ∧ c' < c0 + 3) ∨ N ≤ c'; omega)
    refine wpList_nil (hK _ _ ?_)
    replace hS : Sl 20 _ [] := hS29.re trivial
    clear hK K
    try clear hS10 hS11 hS12 hS13 hS14 hS18 hS26 hS28 hS29
    obtain ⟨a, ha⟩ : ∃ a', a' = a29 := ⟨_, rfl⟩
    rw [← ha] at hS ⊢; clear ha
    have e := Option.some.inj H
    subst e
    repeat (with_reducible first | refine inBlock_exit ?_ | refine then_exit ?_ | refine inBlock_out (by decide) ?_ | refine inBlock_normal ?_)
    exact c_end0 hS Try.results102 ⟨_, rfl, g30, A22, cap23, rfl, ⟨hb0, h24⟩, hF⟩
  · exact absurd hb9 (by decide)


end Go.Proofs.Ytfhhklkmbcnhnaa.Sim

namespace Go.Proofs.Ytfhhklkmbcnhnaa.Sim
open Go
set_option linter.unusedVariables false
set_option linter.unusedSimpArgs false

/-! ### heap_up: function 80 -/
def heap_up.l0 : Nat → (List Int) → Int → Option (depgraph_queue)
  | 0, _, _ => none
  | k2 + 1, m0_0, m0_1 => (if ((wi (Int.tdiv (wi (m0_1 - 1)) 2)) == m0_1) = true then some true else (depgraph_queue_Less.f m0_0 m0_1 (wi (Int.tdiv (wi (m0_1 - 1)) 2))).bind fun r15 => some (!r15)).bind fun t20 => if t20 = true then (some (depgraph_queue.mk m0_0)) else ((depgraph_queue_Swap.f m0_0 (wi (Int.tdiv (wi (m0_1 - 1)) 2)) m0_1).bind fun r45 => heap_up.l0 k2 r45 (wi (Int.tdiv (wi (m0_1 - 1)) 2)))
def heap_up.f (p0 : depgraph_queue) (p1 : Int) : Option (depgraph_queue) := heap_up.l0 FUEL p0.q p1
set_option maxRecDepth 100000 in
set_option maxHeartbeats 4000000 in
theorem heap_up.calls {p0 : depgraph_queue} {c0 : Nat}  {b_p0 : Nat} {A_q_p0 : Option Addr} {cap_q_p0 : Nat} {p1 : Int} {w : World} {g : Nat → Nat} {out : depgraph_queue} (N : Nat) (hp0 : depgraph_queue_At w g c0 b_p0 A_q_p0 cap_q_p0 p0) (hc0 : c0 + 3 ≤ N) (H : heap_up.f p0 p1 = some out) :
    Calls Try.prog 80 #[.iface 121 (.pointer (some ⟨b_p0, 0, none⟩)), .int .i64 p1] w (fun e w' => ∃ v, e = .returned v ∧ ∃ (g' : Nat → Nat), v = .tuple #[] ∧ depgraph_queue_At w' g' c0 b_p0 A_q_p0 cap_q_p0 out ∧ Fr (fun q => (c0 ≤ q ∧ q < c0 + 3) ∨ N ≤ q) w g w' g') := by
  unfold heap_up.f at H
  refine calls_enter Try.func80 rfl Try.ntmps80 rfl (fun a hS => ?_)
  replace hS : Sl 23 a [(0, .iface 121 (.pointer (some ⟨b_p0, 0, none⟩))), (1, .int .i64 p1)] := hS
  have hF : Fr (fun q => (c0 ≤ q ∧ q < c0 + 3) ∨ N ≤ q) w g w g := Fr.refl _ _ _
  obtain ⟨hb0, hf0_q⟩ := hp0
  refine wp_block ?_
  refine wp_loop_ghost (fun kq => fun a w1 => ∃ (m0_0 : List Int), ∃ (m0_1 : Int), ∃ (g1 : Nat → Nat), heap_up.l0 kq m0_0 m0_1 = some out ∧ Sl 23 a [(0, .iface 121 (.pointer (some ⟨b_p0, 0, none⟩))), (1, .int .i64 m0_1)] ∧ Bx w1 g1 (c0) b_p0 119 [.slice A_q_p0 m0_0.length cap_q_p0] ∧ OwS (kint .i64) 3 w1 g1 (c0 + 1) A_q_p0 cap_q_p0 m0_0 ∧ Fr (fun q => (c0 ≤ q ∧ q < c0 + 3) ∨ N ≤ q) w g w1 g1) FUEL ?_ ?_
  · exact ⟨p0.q, p1, g, H, hS.re ⟨rfl, rfl, trivial⟩, hb0, hf0_q, hF⟩
  · clear H
    clear hf0_q hb0 hF
    clear hS
    rintro k2 a w1 ⟨m0_0, m0_1, g1, hpre0, hS, hb0, hf0_q, hF⟩
    have H := hpre0
    clear hpre0
    cases k2 with
    | zero => exact absurd H (by simp [heap_up.l0])
    | succ k2 =>
      rw [heap_up.l0] at H
      refine wp_block ?_
      refine c_pure [(0, .iface 121 (.pointer (some ⟨b_p0, 0, none⟩))), (1, .int .i64 m0_1), (4, .int .i64 (wi (Int.tdiv (wi (m0_1 - 1)) 2)))] (fun R hR => st_val hS rfl rfl rfl (r_move hS rfl rfl) fun a3 hS3 => st_val hS3 rfl rfl rfl (r_bin hS3 rfl rfl rfl b_sub) fun a4 hS4 => st_val hS4 rfl rfl rfl (r_bin hS4 rfl rfl rfl (b_quo (by decide))) fun a5 hS5 => st_val hS5 rfl rfl rfl (r_assign hS5 rfl rfl) fun a6 hS6 => wpList_nil (hR _ (hS6.re ⟨rfl, rfl, rfl, trivial⟩))) ?_
      clear hS
      clear a
      intro a hS
      refine wp_seq ?_
      obtain ⟨t20, ht21, H⟩ := bind_el H
      refine c_region (fun K hK => ?_)
      refine st_val hS rfl rfl rfl (r_move hS rfl rfl) fun a7 hS7 => st_val hS7 rfl rfl rfl (r_move hS7 rfl rfl) fun a8 hS8 => st_val hS8 rfl rfl rfl (r_bin hS8 rfl rfl rfl b_eql) fun a9 hS9 => st_val hS9 rfl rfl rfl (r_move hS9 rfl rfl) fun a10 hS10 => ?_
      refine g_joinR 6 (fun a w22 => ∃ (g22 : Nat → Nat), Sl 23 a [(0, .iface 121 (.pointer (some ⟨b_p0, 0, none⟩))), (1, .int .i64 m0_1), (4, .int .i64 (wi (Int.tdiv (wi (m0_1 - 1)) 2))), (17, .bool t20)] ∧ Bx w22 g22 (c0) b_p0 119 [.slice A_q_p0 m0_0.length cap_q_p0] ∧ OwS (kint .i64) 3 w22 g22 (c0 + 1) A_q_p0 cap_q_p0 m0_0 ∧ Fr (fun q => (c0 ≤ q ∧ q < c0 + 3) ∨ N ≤ q) w g w22 g22) ?_ (fun hk => ?_)
      rotate_left
      · rcases Bool.eq_false_or_eq_true (((wi (Int.tdiv (wi (m0_1 - 1)) 2)) == m0_1)) with hb11 | hb11
        · have H := ite_t hb11 ht21
          have e23 := Option.some.inj H
          refine st_off hS10 (want_off hS10 rfl rfl rfl hb11) rfl rfl fun a24 hS24 => st_off hS24 (want_off hS24 rfl rfl rfl hb11) rfl rfl fun a25 hS25 => st_off hS25 (want_off hS25 rfl rfl rfl hb11) rfl rfl fun a26 hS26 => st_off hS26 (want_off hS26 rfl rfl rfl hb11) rfl rfl fun a27 hS27 => st_off hS27 (want_off hS27 rfl rfl rfl hb11) rfl rfl fun a28 hS28 => st_val hS28 rfl rfl rfl (r_pickT hS28 rfl rfl rfl hb11) fun a29 hS29 => hk _ _ ?_
          exact ⟨g1, hS29.re ⟨rfl, rfl, rfl, (by rw [← e23]; rfl), trivial⟩, hb0, hf0_q, hF⟩
        · have H := ite_f hb11 ht21
          obtain ⟨r33, hr34, H⟩ := bind_el H
          have e38 := Option.some.inj H
          refine st_valW hS10 (want_on hS10 rfl rfl rfl hb11) rfl rfl (r_move hS10 rfl rfl) fun a30 hS30 => st_valW hS30 (want_on hS30 rfl rfl rfl hb11) rfl rfl (r_move hS30 rfl rfl) fun a31 hS31 => st_valW hS31 (want_on hS31 rfl rfl rfl hb11) rfl rfl (r_move hS31 rfl rfl) fun a32 hS32 => ?_
          refine st_enterW hS32 (want_on hS32 rfl rfl rfl hb11) rfl rfl (r_invoke (T := 121) (E := 119) (f := 99) (n := 1) (b := false) hS32 rfl rfl rfl (by kernel_rfl) (by kernel_rfl) (by kernel_rfl) (.inr ⟨rfl, (by kernel_rfl), Bx.cell hb0 rfl⟩)) (depgraph_queue_Less.calls (C0 := (fun q => q = c0 + 1)) (p0 := m0_0) (p1 := m0_1) (p2 := (wi (Int.tdiv (wi (m0_1 - 1)) 2))) (g := g1) (N + 0)  (OwD.rdf (fun _ _ _ _ _ _ h => h) hf0_q) (fun q (hq : q = c0 + 1) => by omega) hr34) ?_
          rintro _ a35 w36 ⟨g36, rfl, F36⟩ hS35
          replace hb0 := hb0.fr F36 (fun (hm : N + 0 ≤ c0) => by omega)
          replace hf0_q := OwS.fr hf0_q F36 (fun c' hc (hm : N + 0 ≤ c') => by omega)
          replace hF := hF.trans F36 (fun c' (hm : N + 0 ≤ c') => by show (c0 ≤ c' ∧ c' < c0 + 3) ∨ N ≤ c'; omega)
          refine st_valW hS35 (want_on hS35 rfl rfl rfl hb11) rfl rfl (r_not hS35 rfl rfl) fun a37 hS37 => ?_
          refine st_val hS37 rfl rfl rfl (r_pickF hS37 rfl rfl rfl hb11) fun a39 hS39 => hk _ _ ?_
          exact ⟨g36, hS39.re ⟨rfl, rfl, rfl, (by rw [← e38]; rfl), trivial⟩, hb0, hf0_q, hF⟩
      rintro a40 w22 ⟨g22, hS40, hb0, hf0_q, hF⟩
      refine wpList_nil (hK _ _ ?_)
      replace hS : Sl 23 _ [(0, .iface 121 (.pointer (some ⟨b_p0, 0, none⟩))), (1, .int .i64 m0_1), (4, .int .i64 (wi (Int.tdiv (wi (m0_1 - 1)) 2))), (17, .bool t20)] := hS40.re ⟨rfl, rfl, rfl, rfl, trivial⟩
      clear hK K
      try clear hS7 hS8 hS9 hS10 hS40
      obtain ⟨a, ha⟩ : ∃ a', a' = a40 := ⟨_, rfl⟩
      rw [← ha] at hS ⊢; clear ha
      refine c_cond hS rfl (fun hb41 => ?_) (fun hb41 => ?_)
      · replace H := ite_t hb41 H
        refine wp_exit ?_
        have e := Option.some.inj H
        subst e
        repeat (with_reducible first | refine inBlock_exit ?_ | refine then_exit ?_ | refine inBlock_out (by decide) ?_ | refine inBlock_normal ?_)
        exact c_end0 hS Try.results80 ⟨_, rfl, g22, rfl, ⟨hb0, hf0_q⟩, hF⟩
      · replace H := ite_f hb41 H
        refine wp_skip ?_
        change Code.wp _ _ _ _ _
        obtain ⟨r45, hr46, H⟩ := bind_el H
        refine c_region (fun K hK => ?_)
        refine st_val hS rfl rfl rfl (r_move hS rfl rfl) fun a42 hS42 => st_val hS42 rfl rfl rfl (r_move hS42 rfl rfl) fun a43 hS43 => st_val hS43 rfl rfl rfl (r_move hS43 rfl rfl) fun a44 hS44 => ?_
        refine st_enter hS44 rfl rfl rfl (r_invoke (T := 121) (E := 119) (f := 100) (n := 1) (b := false) hS44 rfl rfl rfl (by kernel_rfl) (by kernel_rfl) (by kernel_rfl) (.inr ⟨rfl, (by kernel_rfl), Bx.cell hb0 rfl⟩)) (depgraph_queue_Swap.calls (c0 := c0 + 1) (A0 := A_q_p0) (cap0 := cap_q_p0) (p0 := m0_0) (p1 := (wi (Int.tdiv (wi (m0_1 - 1)) 2))) (p2 := m0_1) (g := g22) (N + 0)  hf0_q (by omega) hr46) ?_
        rintro _ a48 w49 ⟨g49, rfl, hf0_q, hl47, F49⟩ hS48
        replace hb0 := hb0.fr F49 (fun (hm : (c0 + 1 ≤ c0 ∧ c0 < c0 + 1 + 2) ∨ N + 0 ≤ c0) => by omega)
        replace hF := hF.trans F49 (fun c' (hm : (c0 + 1 ≤ c' ∧ c' < c0 + 1 + 2) ∨ N + 0 ≤ c') => by show (c0 ≤ c' ∧ c' < c0 + 3) ∨ N ≤ c'; omega)
        replace hb0 : Bx w49 g49 (c0) b_p0 119 [.slice A_q_p0 r45.length cap_q_p0] := by simpa only [hl47] using hb0
        refine wpList_nil (hK _ _ ?_)
        replace hS : Sl 23 _ [(0, .iface 121 (.pointer (some ⟨b_p0, 0, none⟩))), (4, .int .i64 (wi (Int.tdiv (wi (m0_1 - 1)) 2)))] := hS48.re ⟨rfl, rfl, trivial⟩
        clear hK K
        try clear hS42 hS43 hS44 hS48
        obtain ⟨a, ha⟩ : ∃ a', a' = a48 := ⟨_, rfl⟩
        rw [← ha] at hS ⊢; clear ha
        refine c_pure1 [(0, .iface 121 (.pointer (some ⟨b_p0, 0, none⟩))), (1, .int .i64 (wi (Int.tdiv (wi (m0_1 - 1)) 2)))] (fun R hR => st_val hS rfl rfl rfl (r_move hS rfl rfl) fun a50 hS50 => st_val hS50 rfl rfl rfl (r_assign hS50 rfl rfl) fun a51 hS51 => wpList_nil (hR _ (hS51.re ⟨rfl, rfl, trivial⟩))) ?_
        clear hS
        clear a
        intro a hS
        refine ⟨k2, Nat.lt_succ_self _, ?_⟩
        exact ⟨r45, wi (Int.tdiv (wi (m0_1 - 1)) 2), g49, H, hS.re ⟨rfl, rfl, trivial⟩, hb0, hf0_q, hF⟩


end Go.Proofs.Ytfhhklkmbcnhnaa.Sim

namespace Go.Proofs.Ytfhhklkmbcnhnaa.Sim
open Go
set_option linter.unusedVariables false
set_option linter.unusedSimpArgs false

/-! ### heap_Push: function 78 -/
def heap_Push.f (p0 : depgraph_queue) (p1 : Int) : Option (depgraph_queue) := (depgraph_queue_Push.f p0 p1).bind fun r3 => (depgraph_queue_Len.f r3.q).bind fun r11 => (heap_up.f r3 (wi (r11 - 1))).bind fun r16 => some r16
set_option maxRecDepth 100000 in
set_option maxHeartbeats 4000000 in
theorem heap_Push.calls {p0 : depgraph_queue} {c0 : Nat}  {b_p0 : Nat} {A_q_p0 : Option Addr} {cap_q_p0 : Nat} {p1 : Int} {w : World} {g : Nat → Nat} {out : depgraph_queue} (N : Nat) (hp0 : depgraph_queue_At w g c0 b_p0 A_q_p0 cap_q_p0 p0) (hc0 : c0 + 3 ≤ N) (H : heap_Push.f p0 p1 = some out) :
    Calls Try.prog 78 #[.iface 121 (.pointer (some ⟨b_p0, 0, none⟩)), .iface 3 (.int .i64 p1)] w (fun e w' => ∃ v, e = .returned v ∧ ∃ (g' : Nat → Nat) (A_q_q0 : Option Addr) (cap_q_q0 : Nat), v = .tuple #[] ∧ depgraph_queue_At w' g' c0 b_p0 A_q_q0 cap_q_q0 out ∧ Fr (fun q => (c0 ≤ q ∧ q < c0 + 3) ∨ N ≤ q) w g w' g') := by
  unfold heap_Push.f at H
  refine calls_enter Try.func78 rfl Try.ntmps78 rfl (fun a hS => ?_)
  replace hS : Sl 12 a [(0, .iface 121 (.pointer (some ⟨b_p0, 0, none⟩))), (1, .iface 3 (.int .i64 p1))] := hS
  have hF : Fr (fun q => (c0 ≤ q ∧ q < c0 + 3) ∨ N ≤ q) w g w g := Fr.refl _ _ _
  obtain ⟨hb0, hf0_q⟩ := hp0
  obtain ⟨r3, hr4, H⟩ := bind_el H
  refine c_region (fun K hK => ?_)
  refine st_val hS rfl rfl rfl (r_move hS rfl rfl) fun a1 hS1 => st_val hS1 rfl rfl rfl (r_move hS1 rfl rfl) fun a2 hS2 => ?_
  refine st_enter hS2 rfl rfl rfl (r_invoke (T := 121) (E := 119) (f := 102) (n := 1) (b := true) hS2 rfl rfl rfl (by kernel_rfl) (by kernel_rfl) (by kernel_rfl) (.inl ⟨rfl, rfl⟩)) (depgraph_queue_Push.calls (c0 := c0) (b_p0 := b_p0) (A_q_p0 := A_q_p0) (cap_q_p0 := cap_q_p0) (p0 := p0) (p1 := p1) (g := g) (N + 0)  ⟨hb0, hf0_q⟩ (by omega) hr4) ?_
  rintro _ a7 w8 ⟨g8, A5, cap6, rfl, ⟨hb0, hf0_q⟩, F8⟩ hS7
  replace hF := hF.trans F8 (fun c' (hm : (c0 ≤ c' ∧ c' < c0 + 3) ∨ N + 0 ≤ c') => by show (c0 ≤ c' ∧ c' < c0 + 3) ∨ N ≤ c'; omega)
  refine wpList_nil (hK _ _ ?_)
  replace hS : Sl 12 _ [(0, .iface 121 (.pointer (some ⟨b_p0, 0, none⟩)))] := hS7.re ⟨rfl, trivial⟩
  clear hK K
  try clear hS1 hS2 hS7
  obtain ⟨a, ha⟩ : ∃ a', a' = a7 := ⟨_, rfl⟩
  rw [← ha] at hS ⊢; clear ha
  obtain ⟨r11, hr12, H⟩ := bind_el H
  obtain ⟨r16, hr17, H⟩ := bind_el H
  refine c_region1 (fun K hK => ?_)
  refine st_val hS rfl rfl rfl (r_move hS rfl rfl) fun a9 hS9 => st_val hS9 rfl rfl rfl (r_move hS9 rfl rfl) fun a10 hS10 => ?_
  refine st_enter hS10 rfl rfl rfl (r_invoke (T := 121) (E := 119) (f := 98) (n := 1) (b := false) hS10 rfl rfl rfl (by kernel_rfl) (by kernel_rfl) (by kernel_rfl) (.inr ⟨rfl, (by kernel_rfl), Bx.cell hb0 rfl⟩)) (depgraph_queue_Len.calls (C0 := (fun q => q = c0 + 1)) (p0 := r3.q) (g := g8) (N + 0)  (OwD.rdf (fun _ _ _ _ _ _ h => h) hf0_q) (fun q (hq : q = c0 + 1) => by omega) hr12) ?_
  rintro _ a13 w14 ⟨g14, rfl, F14⟩ hS13
  replace hb0 := hb0.fr F14 (fun (hm : N + 0 ≤ c0) => by omega)
  replace hf0_q := OwS.fr hf0_q F14 (fun c' hc (hm : N + 0 ≤ c') => by omega)
  replace hF := hF.trans F14 (fun c' (hm : N + 0 ≤ c') => by show (c0 ≤ c' ∧ c' < c0 + 3) ∨ N ≤ c'; omega)
  refine st_val hS13 rfl rfl rfl (r_bin hS13 rfl rfl rfl b_sub) fun a15 hS15 => ?_
  refine st_enter hS15 rfl rfl rfl (r_call hS15 rfl rfl (by kernel_rfl)) (heap_up.calls (c0 := c0) (b_p0 := b_p0) (A_q_p0 := A5) (cap_q_p0 := cap6) (p0 := r3) (p1 := (wi (r11 - 1))) (g := g14) (N + 0)  ⟨hb0, hf0_q⟩ (by omega) hr17) ?_
  rintro _ a18 w19 ⟨g19, rfl, ⟨hb0, hf0_q⟩, F19⟩ hS18
  replace hF := hF.trans F19 (fun c' (hm : (c0 ≤ c' ∧ c' < c0 + 3) ∨ N + 0 ≤ c') => by show (c0 ≤ c' ∧ c' < c0 + 3) ∨ N ≤ c'; omega)
  refine wpList_nil (hK _ _ ?_)
  replace hS : Sl 12 _ [] := hS18.re trivial
  clear hK K
  try clear hS9 hS10 hS13 hS15 hS18
  obtain ⟨a, ha⟩ : ∃ a', a' = a18 := ⟨_, rfl⟩
  rw [← ha] at hS ⊢; clear ha
  have e := Option.some.inj H
  subst e
  repeat (with_reducible first | refine inBlock_exit ?_ | refine then_exit ?_ | refine inBlock_out (by decide) ?_ | refine inBlock_normal ?_)
  exact c_end0 hS Try.results78 ⟨_, rfl, g19, A5, cap6, rfl, ⟨hb0, hf0_q⟩, hF⟩


end Go.Proofs.Ytfhhklkmbcnhnaa.Sim

namespace Go.Proofs.Ytfhhklkmbcnhnaa.Sim
open Go
set_option linter.unusedVariables false
set_option linter.unusedSimpArgs false

/-! ### depgraph_sort: function 75 -/
def depgraph_sort.l0 (r4 : (List (List Int)) × (List Int)) : Nat → (List Int) → Int → Option ((List Int))
  | 0, _, _ => none
  | k40 + 1, m0_0, m0_1 => if decide (m0_1 < (r4.2.length : Int)) = true then (((idx r4.2 m0_1).bind fun x50 => if (x50 == 0) = true then ((heap_Push.f (depgraph_queue.mk m0_0) m0_1).bind fun r62 => some r62.q) else (some m0_0) : Option ((List Int))).bind fun v46 => depgraph_sort.l0 r4 k40 v46 (wi (m0_1 + 1))) else (some m0_0)
def depgraph_sort.l2 (y121 : List Int) (x132 : List Int) : Nat → (List Int) → (List Int) → Int → Option (Fl ((List Int)) ((List Int) × (List Int) × (List Int)))
  | 0, _, _, _ => none
  | k147 + 1, m2_0, m2_1, m2_2 => if decide (m2_2 < (x132.length : Int)) = true then (((idx x132 m2_2).bind fun x156 => (idx m2_0 x156).bind fun x163 => (idx (upd m2_0 x156 (wi (x163 - 1))) x156).bind fun x173 => if (x173 == 0) = true then ((heap_Push.f (depgraph_queue.mk m2_1) x156).bind fun r182 => some ((upd m2_0 x156 (wi (x163 - 1))), r182.q)) else (some ((upd m2_0 x156 (wi (x163 - 1))), m2_1)) : Option ((List Int) × (List Int))).bind fun v153 => depgraph_sort.l2 y121 x132 k147 v153.1 v153.2 (wi (m2_2 + 1))) else (some (.nxt (m2_0, m2_1, y121)))
def depgraph_sort.l1 (r4 : (List (List Int)) × (List Int)) : Nat → (List Int) → (List Int) → (List Int) → Option ((List Int))
  | 0, _, _, _ => none
  | k84 + 1, m1_0, m1_1, m1_2 => if decide (0 < (m1_1.length : Int)) = true then (((heap_Pop.f (depgraph_queue.mk m1_1)).bind fun r99 => if (!true) = true then (some (.out m1_2)) else ((app m1_2 [r99.2]).bind fun y121 => (idx r4.1 r99.2).bind fun x132 => depgraph_sort.l2 y121 x132 FUEL m1_0 r99.1.q 0) : Option (Fl ((List Int)) ((List Int) × (List Int) × (List Int)))).bind fun o96 => o96.go fun v95 => depgraph_sort.l1 r4 k84 v95.1 v95.2.1 v95.2.2) else (some m1_2)
def depgraph_sort.f (p0 : Int) (p1 : List api_Link) : Option ((List Int)) := (depgraph_adjacent.f p0 p1).bind fun r4 => (depgraph_sort.l0 r4 FUEL [] 0 : Option ((List Int))).bind fun v30 => (depgraph_sort.l1 r4 FUEL r4.2 v30 [] : Option ((List Int))).bind fun v75 => some v75
set_option maxRecDepth 100000 in
set_option maxHeartbeats 4000000 in
theorem depgraph_sort.calls {p0 : Int} {p1 : List api_Link} {A1 : Option Addr} {cap1 : Nat} {C1 : Nat → Prop} {w : World} {g : Nat → Nat} {out : (List Int)} (N : Nat) (r0 : Nat) (hp1 : RdS kd_api_Link w g C1 A1 cap1 p1) (hC1 : ∀ c, C1 c → c < N) (hr0 : r0 + 2 ≤ N) (H : depgraph_sort.f p0 p1 = some out) :
    Calls Try.prog 75 #[.int .i64 p0, .slice A1 p1.length cap1] w (fun e w' => ∃ v, e = .returned v ∧ ∃ (g' : Nat → Nat) (A_r0 : Option Addr) (cap_r0 : Nat), v = .slice A_r0 out.length cap_r0 ∧ OwS (kint .i64) 3 w' g' r0 A_r0 cap_r0 out ∧ Fr (fun q => (r0 ≤ q ∧ q < r0 + 2) ∨ N ≤ q) w g w' g') := by
  unfold depgraph_sort.f at H
  refine calls_enter Try.func75 rfl Try.ntmps75 rfl (fun a hS => ?_)
  replace hS : Sl 76 a [(0, .int .i64 p0), (1, .slice A1 p1.length cap1)] := hS
  have hF : Fr (fun q => (r0 ≤ q ∧ q < r0 + 2) ∨ N ≤ q) w g w g := Fr.refl _ _ _
  refine c_pure [(0, .int .i64 p0), (1, .slice A1 p1.length cap1)] (fun R hR => st_val hS rfl rfl rfl (r_assign hS rfl rfl) fun a1 hS1 => wpList_nil (hR _ (hS1.re ⟨rfl, rfl, trivial⟩))) ?_
  clear hS
  clear a
  intro a hS
  obtain ⟨r4, hr5, H⟩ := bind_el H
  refine c_region (fun K hK => ?_)
  refine st_val hS rfl rfl rfl (r_move hS rfl rfl) fun a2 hS2 => st_val hS2 rfl rfl rfl (r_move hS2 rfl rfl) fun a3 hS3 => ?_
  refine st_enter hS3 rfl rfl rfl (r_call hS3 rfl rfl (by kernel_rfl)) (depgraph_adjacent.calls (C1 := C1) (p0 := p0) (p1 := p1) (g := g) (N + 11) (N + 0) (N + 2) hp1 (fun q (hq : C1 q) => by have := hC1 q hq; omega) (by omega) (by omega) (by omega) hr5) ?_
  rintro _ a14 w15 ⟨g15, A6, cap7, A10, cap11, rfl, h8, h12, F15⟩ hS14
  replace hp1 := RdS.fr hp1 F15 (by decide) (fun q (hq : C1 q) (hm : (N + 0 ≤ q ∧ q < N + 0 + 2) ∨ (N + 2 ≤ q ∧ q < N + 2 + 2) ∨ N + 11 ≤ q) => by have := hC1 q hq; omega)
  replace hF := hF.trans F15 (fun c' (hm : (N + 0 ≤ c' ∧ c' < N + 0 + 2) ∨ (N + 2 ≤ c' ∧ c' < N + 2 + 2) ∨ N + 11 ≤ c') => by show (r0 ≤ c' ∧ c' < r0 + 2) ∨ N ≤ c'; omega)
  refine st_val hS14 rfl rfl rfl (r_move hS14 rfl rfl) fun a16 hS16 => st_val hS16 rfl rfl rfl (r_extract hS16 rfl rfl rfl) fun a17 hS17 => st_val hS17 rfl rfl rfl (r_extract hS17 rfl rfl rfl) fun a18 hS18 => st_val hS18 rfl rfl rfl (r_assign hS18 rfl rfl) fun a19 hS19 => st_val hS19 rfl rfl rfl (r_assign hS19 rfl rfl) fun a20 hS20 => wpList_nil (hK _ _ ?_)
  replace hS : Sl 76 _ [(5, .slice A6 r4.1.length cap7), (6, .slice A10 r4.2.length cap11)] := hS20.re ⟨rfl, rfl, trivial⟩
  clear hK K
  try clear hS2 hS3 hS14 hS16 hS17 hS18 hS19 hS20
  obtain ⟨a, ha⟩ : ∃ a', a' = a20 := ⟨_, rfl⟩
  rw [← ha] at hS ⊢; clear ha
  refine c_region (fun K hK => ?_)
  refine st_eff hS rfl rfl rfl (e_alloc (cs := [.slice none 0 0]) (N + 4) g15 hS rfl (by kernel_rfl)) ?_
  rintro _ a24 w25 g25 ⟨⟨b21, rfl, h22⟩, F25⟩ hS24
  replace h12 := OwS.fr h12 F25 (fun _ _ h => h)
  replace h8 := OwS.fr h8 F25 (fun _ _ h => h)
  replace hF := hF.trans F25 (fun _ h => h.elim)
  refine wpList_nil (hK _ _ ?_)
  replace hS : Sl 76 _ [(5, .slice A6 r4.1.length cap7), (6, .slice A10 r4.2.length cap11), (7, .pointer (some ⟨b21, 0, none⟩))] := hS24.re ⟨rfl, rfl, rfl, trivial⟩
  clear hK K
  try clear hS24
  obtain ⟨a, ha⟩ : ∃ a', a' = a24 := ⟨_, rfl⟩
  rw [← ha] at hS ⊢; clear ha
  obtain ⟨v30, H, Hl32⟩ := bind_el H
  refine c_cut (fun a w26 => ∃ (g26 : Nat → Nat), ∃ (A27 : Option Addr), ∃ (cap28 : Nat), Sl 76 a [(5, .slice A6 r4.1.length cap7), (6, .slice A10 r4.2.length cap11), (7, .pointer (some ⟨b21, 0, none⟩))] ∧ OwS (kint .i64) 3 w26 g26 (N + 2) A10 cap11 r4.2 ∧ Bx w26 g26 (N + 4) b21 119 [.slice A27 v30.length cap28] ∧ OwS (kslice (kint .i64) (by decide)) 29 w26 g26 (N + 0) A6 cap7 r4.1 ∧ OwS (kint .i64) 3 w26 g26 (N + 4 + 1) A27 cap28 v30 ∧ Fr (fun q => (r0 ≤ q ∧ q < r0 + 2) ∨ N ≤ q) w g w26 g26) ?_ ?_
  · refine c_pure [(5, .slice A6 r4.1.length cap7), (6, .slice A10 r4.2.length cap11), (7, .pointer (some ⟨b21, 0, none⟩)), (21, .slice A10 r4.2.length cap11), (22, .int .i64 (r4.2.length : Int)), (23, .int .i64 0)] (fun R hR => st_val hS rfl rfl rfl (r_move hS rfl rfl) fun a33 hS33 => st_val hS33 rfl rfl rfl (r_len (e := 3) (sz := 1) (by_ := 8) hS33 rfl rfl (by kernel_rfl)) fun a34 hS34 => st_val hS34 rfl rfl rfl (r_move hS34 rfl rfl) fun a35 hS35 => wpList_nil (hR _ (hS35.re ⟨rfl, rfl, rfl, rfl, rfl, rfl, trivial⟩))) ?_
    clear hS
    clear a
    intro a hS
    refine wp_block ?_
    refine wp_loop_ghost (fun kq => fun a w36 => ∃ (m0_0 : List Int), ∃ (m0_1 : Int), ∃ (g36 : Nat → Nat), ∃ (A37 : Option Addr), ∃ (cap38 : Nat), depgraph_sort.l0 r4 kq m0_0 m0_1 = some v30 ∧ Sl 76 a [(5, .slice A6 r4.1.length cap7), (6, .slice A10 r4.2.length cap11), (7, .pointer (some ⟨b21, 0, none⟩)), (21, .slice A10 r4.2.length cap11), (22, .int .i64 (r4.2.length : Int)), (23, .int .i64 m0_1)] ∧ OwS (kint .i64) 3 w36 g36 (N + 2) A10 cap11 r4.2 ∧ Bx w36 g36 (N + 4) b21 119 [.slice A37 m0_0.length cap38] ∧ OwS (kslice (kint .i64) (by decide)) 29 w36 g36 (N + 0) A6 cap7 r4.1 ∧ OwS (kint .i64) 3 w36 g36 (N + 4 + 1) A37 cap38 m0_0 ∧ Fr (fun q => (r0 ≤ q ∧ q < r0 + 2) ∨ N ≤ q) w g w36 g36) FUEL ?_ ?_
    · exact ⟨[], 0, g25, none, 0, H, hS.re ⟨rfl, rfl, rfl, rfl, rfl, rfl, trivial⟩, h12, h22, h8, OwS.nil (kint .i64) 3 w25 g25 (N + 4 + 1), hF⟩
    · clear H
      clear h8 h12 h22 hF
      clear hS
      rintro k40 a w36 ⟨m0_0, m0_1, g36, A37, cap38, hpre0, hS, h12, h22, h8, h39, hF⟩
      have H := hpre0
      clear hpre0
      cases k40 with
      | zero => exact absurd H (by simp [depgraph_sort.l0])
      | succ k40 =>
        rw [depgraph_sort.l0] at H
        refine c_pure [(5, .slice A6 r4.1.length cap7), (6, .slice A10 r4.2.length cap11), (7, .pointer (some ⟨b21, 0, none⟩)), (21, .slice A10 r4.2.length cap11), (22, .int .i64 (r4.2.length : Int)), (23, .int .i64 m0_1), (24, .bool (decide (m0_1 < (r4.2.length : Int))))] (fun R hR => st_val hS rfl rfl rfl (r_bin hS rfl rfl rfl b_lss) fun a41 hS41 => wpList_nil (hR _ (hS41.re ⟨rfl, rfl, rfl, rfl, rfl, rfl, rfl, trivial⟩))) ?_
        clear hS
        clear a
        intro a hS
        refine c_if hS rfl (fun hb42 => ?_) (fun hb42 => ?_)
        · replace H := ite_t hb42 H
          refine wp_skip ?_
          change Code.wp _ _ _ _ _
          obtain ⟨v46, H, Hl48⟩ := bind_el H
          refine c_cut (fun a w43 => ∃ (g43 : Nat → Nat), ∃ (A44 : Option Addr), ∃ (cap45 : Nat), Sl 76 a [(5, .slice A6 r4.1.length cap7), (6, .slice A10 r4.2.length cap11), (7, .pointer (some ⟨b21, 0, none⟩)), (21, .slice A10 r4.2.length cap11), (22, .int .i64 (r4.2.length : Int)), (23, .int .i64 m0_1)] ∧ OwS (kint .i64) 3 w43 g43 (N + 2) A10 cap11 r4.2 ∧ Bx w43 g43 (N + 4) b21 119 [.slice A44 v46.length cap45] ∧ OwS (kslice (kint .i64) (by decide)) 29 w43 g43 (N + 0) A6 cap7 r4.1 ∧ OwS (kint .i64) 3 w43 g43 (N + 4 + 1) A44 cap45 v46 ∧ Fr (fun q => (r0 ≤ q ∧ q < r0 + 2) ∨ N ≤ q) w g w43 g43) ?_ ?_
          · refine wp_block ?_
            obtain ⟨x50, hx51, H⟩ := bind_el H
            refine c_pure [(5, .slice A6 r4.1.length cap7), (6, .slice A10 r4.2.length cap11), (7, .pointer (some ⟨b21, 0, none⟩)), (8, .int .i64 m0_1), (9, .int .i64 x50), (21, .slice A10 r4.2.length cap11), (22, .int .i64 (r4.2.length : Int)), (23, .int .i64 m0_1)] (fun R hR => st_val hS rfl rfl rfl (r_move hS rfl rfl) fun a49 hS49 => st_val hS49 rfl rfl rfl (r_index (e := 3) (sz := 1) (by_ := 8) hS49 rfl rfl rfl (by kernel_rfl) (RdS.some_ (OwS.rd h12) hx51) (idx_lo hx51) (idx_hi hx51)) fun a52 hS52 => st_val hS52 rfl rfl rfl (r_load1 (n := 1) hS52 rfl rfl (by kernel_rfl) (RdS.cell (i := m0_1) (sz := 1) (j := 0) (OwS.rd h12) hx51 rfl)) fun a53 hS53 => st_val hS53 rfl rfl rfl (r_assign hS53 rfl rfl) fun a54 hS54 => st_val hS54 rfl rfl rfl (r_assign hS54 rfl rfl) fun a55 hS55 => wpList_nil (hR _ (hS55.re ⟨rfl, rfl, rfl, rfl, rfl, rfl, rfl, rfl, trivial⟩))) ?_
            clear hS
            clear a
            intro a hS
            refine c_pure [(5, .slice A6 r4.1.length cap7), (6, .slice A10 r4.2.length cap11), (7, .pointer (some ⟨b21, 0, none⟩)), (8, .int .i64 m0_1), (21, .slice A10 r4.2.length cap11), (22, .int .i64 (r4.2.length : Int)), (23, .int .i64 m0_1), (29, .bool (x50 == 0))] (fun R hR => st_val hS rfl rfl rfl (r_move hS rfl rfl) fun a56 hS56 => st_val hS56 rfl rfl rfl (r_bin hS56 rfl rfl rfl b_eql) fun a57 hS57 => wpList_nil (hR _ (hS57.re ⟨rfl, rfl, rfl, rfl, rfl, rfl, rfl, rfl, trivial⟩))) ?_
            clear hS
            clear a
            intro a hS
            refine c_cond hS rfl (fun hb58 => ?_) (fun hb58 => ?_)
            · replace H := ite_t hb58 H
              obtain ⟨r62, hr63, H⟩ := bind_el H
              refine c_region1 (fun K hK => ?_)
              refine st_val hS rfl rfl rfl (r_mkif hS rfl rfl (by kernel_rfl)) fun a59 hS59 => st_val hS59 rfl rfl rfl (r_move hS59 rfl rfl) fun a60 hS60 => st_val hS60 rfl rfl rfl (r_mkif hS60 rfl rfl (by kernel_rfl)) fun a61 hS61 => ?_
              refine st_enter hS61 rfl rfl rfl (r_call hS61 rfl rfl (by kernel_rfl)) (heap_Push.calls (c0 := N + 4) (b_p0 := b21) (A_q_p0 := A37) (cap_q_p0 := cap38) (p0 := (depgraph_queue.mk m0_0)) (p1 := m0_1) (g := g36) (N + 11)  ⟨h22, h39⟩ (by omega) hr63) ?_
              rintro _ a66 w67 ⟨g67, A64, cap65, rfl, ⟨h22, h39⟩, F67⟩ hS66
              replace h12 := OwS.fr h12 F67 (fun c' hc (hm : (N + 4 ≤ c' ∧ c' < N + 4 + 3) ∨ N + 11 ≤ c') => by omega)
              replace h8 := OwS.fr h8 F67 (fun c' hc (hm : (N + 4 ≤ c' ∧ c' < N + 4 + 3) ∨ N + 11 ≤ c') => by omega)
              replace hF := hF.trans F67 (fun c' (hm : (N + 4 ≤ c' ∧ c' < N + 4 + 3) ∨ N + 11 ≤ c') => by show (r0 ≤ c' ∧ c' < r0 + 2) ∨ N ≤ c'; omega)
              refine wpList_nil (hK _ _ ?_)
              replace hS : Sl 76 _ [(5, .slice A6 r4.1.length cap7), (6, .slice A10 r4.2.length cap11), (7, .pointer (some ⟨b21, 0, none⟩)), (21, .slice A10 r4.2.length cap11), (22, .int .i64 (r4.2.length : Int)), (23, .int .i64 m0_1)] := hS66.re ⟨rfl, rfl, rfl, rfl, rfl, rfl, trivial⟩
              clear hK K
              try clear hS59 hS60 hS61 hS66
              obtain ⟨a, ha⟩ : ∃ a', a' = a66 := ⟨_, rfl⟩
              rw [← ha] at hS ⊢; clear ha
              have e := Option.some.inj H
              subst e
              exact ⟨g67, A64, cap65, hS.re ⟨rfl, rfl, rfl, rfl, rfl, rfl, trivial⟩, h12, h22, h8, h39, hF⟩
            · replace H := ite_f hb58 H
              refine wp_skip ?_
              have e := Option.some.inj H
              subst e
              exact ⟨g36, A37, cap38, hS.re ⟨rfl, rfl, rfl, rfl, rfl, rfl, trivial⟩, h12, h22, h8, h39, hF⟩
          · clear H
            clear h8 h12 h22 h39 hF
            clear hS
            rintro a w43 ⟨g43, A44, cap45, hS, h12, h22, h8, h39, hF⟩
            have H := Hl48
            clear Hl48
            refine c_pure1 [(5, .slice A6 r4.1.length cap7), (6, .slice A10 r4.2.length cap11), (7, .pointer (some ⟨b21, 0, none⟩)), (21, .slice A10 r4.2.length cap11), (22, .int .i64 (r4.2.length : Int)), (23, .int .i64 (wi (m0_1 + 1)))] (fun R hR => st_val hS rfl rfl rfl (r_bin hS rfl rfl rfl b_add) fun a68 hS68 => st_val hS68 rfl rfl rfl (r_move hS68 rfl rfl) fun a69 hS69 => wpList_nil (hR _ (hS69.re ⟨rfl, rfl, rfl, rfl, rfl, rfl, trivial⟩))) ?_
            clear hS
            clear a
            intro a hS
            refine ⟨k40, Nat.lt_succ_self _, ?_⟩
            exact ⟨v46, wi (m0_1 + 1), g43, A44, cap45, H, hS.re ⟨rfl, rfl, rfl, rfl, rfl, rfl, trivial⟩, h12, h22, h8, h39, hF⟩
        · replace H := ite_f hb42 H
          refine wp_exit ?_
          have e := Option.some.inj H
          subst e
          exact ⟨g36, A37, cap38, hS.re ⟨rfl, rfl, rfl, trivial⟩, h12, h22, h8, h39, hF⟩
  · clear H
    clear h8 h12 h22 hF
    clear hS
    rintro a w26 ⟨g26, A27, cap28, hS, h12, h22, h8, h29, hF⟩
    have H := Hl32
    clear Hl32
    refine c_pure [(5, .slice A6 r4.1.length cap7), (6, .slice A10 r4.2.length cap11), (7, .pointer (some ⟨b21, 0, none⟩)), (10, .slice none 0 0)] (fun R hR => st_val hS rfl rfl rfl (r_assign hS rfl rfl) fun a70 hS70 => wpList_nil (hR _ (hS70.re ⟨rfl, rfl, rfl, rfl, trivial⟩))) ?_
    clear hS
    clear a
    intro a hS
    obtain ⟨v75, H, Hl77⟩ := bind_el H
    refine c_cut (fun a w71 => ∃ (g71 : Nat → Nat), ∃ (A72 : Option Addr), ∃ (cap73 : Nat), Sl 76 a [(10, .slice A72 v75.length cap73)] ∧ OwS (kint .i64) 3 w71 g71 (N + 9) A72 cap73 v75 ∧ Fr (fun q => (r0 ≤ q ∧ q < r0 + 2) ∨ N ≤ q) w g w71 g71) ?_ ?_
    · refine wp_block ?_
      refine wp_loop_ghost (fun kq => fun a w78 => ∃ (m1_0 : List Int), ∃ (m1_1 : List Int), ∃ (m1_2 : List Int), ∃ (g78 : Nat → Nat), ∃ (A79 : Option Addr), ∃ (cap80 : Nat), ∃ (A81 : Option Addr), ∃ (cap82 : Nat), depgraph_sort.l1 r4 kq m1_0 m1_1 m1_2 = some v75 ∧ Sl 76 a [(5, .slice A6 r4.1.length cap7), (6, .slice A10 m1_0.length cap11), (7, .pointer (some ⟨b21, 0, none⟩)), (10, .slice A81 m1_2.length cap82)] ∧ OwS (kint .i64) 3 w78 g78 (N + 2) A10 cap11 m1_0 ∧ Bx w78 g78 (N + 4) b21 119 [.slice A79 m1_1.length cap80] ∧ OwS (kslice (kint .i64) (by decide)) 29 w78 g78 (N + 0) A6 cap7 r4.1 ∧ OwS (kint .i64) 3 w78 g78 (N + 4 + 1) A79 cap80 m1_1 ∧ OwS (kint .i64) 3 w78 g78 (N + 9) A81 cap82 m1_2 ∧ Fr (fun q => (r0 ≤ q ∧ q < r0 + 2) ∨ N ≤ q) w g w78 g78) FUEL ?_ ?_
      · exact ⟨r4.2, v30, [], g26, A27, cap28, none, 0, H, hS.re ⟨rfl, rfl, rfl, rfl, trivial⟩, h12, h22, h8, h29, OwS.nil (kint .i64) 3 w26 g26 (N + 9), hF⟩
      · clear H
        clear h8 h12 h22 h29 hF
        clear hS
        rintro k84 a w78 ⟨m1_0, m1_1, m1_2, g78, A79, cap80, A81, cap82, hpre0, hS, h12, h22, h8, h29, h83, hF⟩
        have H := hpre0
        clear hpre0
        cases k84 with
        | zero => exact absurd H (by simp [depgraph_sort.l1])
        | succ k84 =>
          rw [depgraph_sort.l1] at H
          refine wp_seq ?_
          refine c_pure [(5, .slice A6 r4.1.length cap7), (6, .slice A10 m1_0.length cap11), (7, .pointer (some ⟨b21, 0, none⟩)), (10, .slice A81 m1_2.length cap82), (37, .bool (decide (0 < (m1_1.length : Int))))] (fun R hR => st_val hS rfl rfl rfl (r_load1 (n := 1) hS rfl rfl (by kernel_rfl) (Bx.cell h22 rfl)) fun a85 hS85 => st_val hS85 rfl rfl rfl (r_len (e := 3) (sz := 1) (by_ := 8) hS85 rfl rfl (by kernel_rfl)) fun a86 hS86 => st_val hS86 rfl rfl rfl (r_bin hS86 rfl rfl rfl b_gtr) fun a87 hS87 => wpList_nil (hR _ (hS87.re ⟨rfl, rfl, rfl, rfl, rfl, trivial⟩))) ?_
          clear hS
          clear a
          intro a hS
          refine c_cond hS rfl (fun hb88 => ?_) (fun hb88 => ?_)
          · replace H := ite_t hb88 H
            refine wp_skip ?_
            change Code.wp _ _ _ _ _
            obtain ⟨o96, H, Hl97⟩ := bind_el H
            refine c_cut1 (fun a w89 => ∃ (v95 : (List Int) × (List Int) × (List Int)), ∃ (g89 : Nat → Nat), ∃ (A90 : Option Addr), ∃ (cap91 : Nat), ∃ (A92 : Option Addr), ∃ (cap93 : Nat), o96 = .nxt v95 ∧ Sl 76 a [(5, .slice A6 r4.1.length cap7), (6, .slice A10 v95.1.length cap11), (7, .pointer (some ⟨b21, 0, none⟩)), (10, .slice A92 v95.2.2.length cap93)] ∧ OwS (kint .i64) 3 w89 g89 (N + 2) A10 cap11 v95.1 ∧ Bx w89 g89 (N + 4) b21 119 [.slice A90 v95.2.1.length cap91] ∧ OwS (kslice (kint .i64) (by decide)) 29 w89 g89 (N + 0) A6 cap7 r4.1 ∧ OwS (kint .i64) 3 w89 g89 (N + 4 + 1) A90 cap91 v95.2.1 ∧ OwS (kint .i64) 3 w89 g89 (N + 9) A92 cap93 v95.2.2 ∧ Fr (fun q => (r0 ≤ q ∧ q < r0 + 2) ∨ N ≤ q) w g w89 g89) ?_ ?_
            · refine wp_block ?_
              obtain ⟨r99, hr100, H⟩ := bind_el H
              refine c_region (fun K hK => ?_)
              refine st_val hS rfl rfl rfl (r_mkif hS rfl rfl (by kernel_rfl)) fun a98 hS98 => ?_
              refine st_enter hS98 rfl rfl rfl (r_call hS98 rfl rfl (by kernel_rfl)) (heap_Pop.calls (c0 := N + 4) (b_p0 := b21) (A_q_p0 := A79) (cap_q_p0 := cap80) (p0 := (depgraph_queue.mk m1_1)) (g := g78) (N + 11)  ⟨h22, h29⟩ (by omega) hr100) ?_
              rintro _ a103 w104 ⟨g104, A101, cap102, rfl, ⟨h22, h29⟩, F104⟩ hS103
              replace h12 := OwS.fr h12 F104 (fun c' hc (hm : (N + 4 ≤ c' ∧ c' < N + 4 + 3) ∨ N + 11 ≤ c') => by omega)
              replace h8 := OwS.fr h8 F104 (fun c' hc (hm : (N + 4 ≤ c' ∧ c' < N + 4 + 3) ∨ N + 11 ≤ c') => by omega)
              replace h83 := OwS.fr h83 F104 (fun c' hc (hm : (N + 4 ≤ c' ∧ c' < N + 4 + 3) ∨ N + 11 ≤ c') => by omega)
              replace hF := hF.trans F104 (fun c' (hm : (N + 4 ≤ c' ∧ c' < N + 4 + 3) ∨ N + 11 ≤ c') => by show (r0 ≤ c' ∧ c' < r0 + 2) ∨ N ≤ c'; omega)
              refine st_val hS103 rfl rfl rfl (r_assert hS103 rfl rfl (by kernel_rfl)) fun a105 hS105 => st_val hS105 rfl rfl rfl (r_move hS105 rfl rfl) fun a106 hS106 => st_val hS106 rfl rfl rfl (r_extract hS106 rfl rfl rfl) fun a107 hS107 => st_val hS107 rfl rfl rfl (r_extract hS107 rfl rfl rfl) fun a108 hS108 => st_val hS108 rfl rfl rfl (r_assign hS108 rfl rfl) fun a109 hS109 => st_val hS109 rfl rfl rfl (r_assign hS109 rfl rfl) fun a110 hS110 => wpList_nil (hK _ _ ?_)
              replace hS : Sl 76 _ [(5, .slice A6 r4.1.length cap7), (6, .slice A10 m1_0.length cap11), (7, .pointer (some ⟨b21, 0, none⟩)), (10, .slice A81 m1_2.length cap82), (11, .int .i64 r99.2), (12, .bool true)] := hS110.re ⟨rfl, rfl, rfl, rfl, rfl, rfl, trivial⟩
              clear hK K
              try clear hS98 hS103 hS105 hS106 hS107 hS108 hS109 hS110
              obtain ⟨a, ha⟩ : ∃ a', a' = a110 := ⟨_, rfl⟩
              rw [← ha] at hS ⊢; clear ha
              refine wp_seq ?_
              refine c_pure [(5, .slice A6 r4.1.length cap7), (6, .slice A10 m1_0.length cap11), (7, .pointer (some ⟨b21, 0, none⟩)), (10, .slice A81 m1_2.length cap82), (11, .int .i64 r99.2), (45, .bool (!true))] (fun R hR => st_val hS rfl rfl rfl (r_move hS rfl rfl) fun a111 hS111 => st_val hS111 rfl rfl rfl (r_not hS111 rfl rfl) fun a112 hS112 => wpList_nil (hR _ (hS112.re ⟨rfl, rfl, rfl, rfl, rfl, rfl, trivial⟩))) ?_
              clear hS
              clear a
              intro a hS
              refine c_cond hS rfl (fun hb113 => ?_) (fun hb113 => ?_)
              · replace H := ite_t hb113 H
                refine wp_exit ?_
                have e := Option.some.inj H
                subst e
                replace H := Fl.go_out Hl97
                have e := Option.some.inj H
                subst e
                exact ⟨g104, A81, cap82, hS.re ⟨rfl, trivial⟩, h83, hF⟩
              · replace H := ite_f hb113 H
                refine wp_skip ?_
                change Code.wp _ _ _ _ _
                obtain ⟨y121, hy122, H⟩ := bind_el H
                refine c_region (fun K hK => ?_)
                refine st_val hS rfl rfl rfl (r_move hS rfl rfl) fun a114 hS114 => st_val hS114 rfl rfl rfl (r_move hS114 rfl rfl) fun a115 hS115 => ?_
                refine st_eff hS115 rfl rfl rfl (e_lit (e := 3) (parts := [(0, .int .i64 r99.2)]) (cs := [.int .i64 r99.2]) (kint .i64) [r99.2] (N + 7) g104 hS115 rfl rfl (fun _ => by kernel_rfl) rfl (by decide) (Rows.cons (cs := [.int .i64 r99.2]) rfl Rows.nil)) ?_
                rintro _ a119 w120 g120 ⟨⟨A116, rfl, h117⟩, F120⟩ hS119
                replace h12 := OwS.fr h12 F120 (fun _ _ h => h)
                replace h22 := h22.fr F120 (fun h => h)
                replace h8 := OwS.fr h8 F120 (fun _ _ h => h)
                replace h29 := OwS.fr h29 F120 (fun _ _ h => h)
                replace h83 := OwS.fr h83 F120 (fun _ _ h => h)
                replace hF := hF.trans F120 (fun _ h => h.elim)
                refine st_eff hS119 rfl rfl rfl (e_append (e := 3) (sz := 1) (by_ := 8) (z := [.int .i64 0]) (kd := (kint .i64)) g120 hS119 rfl rfl rfl rfl (by kernel_rfl) (by kernel_rfl) rfl rfl rfl rfl h83 (OwD.rdx h117) (fun _ _ _ h => h) hy122) ?_
                rintro _ a127 w128 g128 ⟨⟨A123, cap124, rfl, h125⟩, F128⟩ hS127
                replace h117 := OwS.fr h117 F128 (fun c' hc (hm : c' = N + 9) => by omega)
                replace h12 := OwS.fr h12 F128 (fun c' hc (hm : c' = N + 9) => by omega)
                replace h22 := h22.fr F128 (fun (hm : N + 4 = N + 9) => by omega)
                replace h8 := OwS.fr h8 F128 (fun c' hc (hm : c' = N + 9) => by omega)
                replace h29 := OwS.fr h29 F128 (fun c' hc (hm : c' = N + 9) => by omega)
                replace hF := hF.trans F128 (fun c' (hm : c' = N + 9) => by show (r0 ≤ c' ∧ c' < r0 + 2) ∨ N ≤ c'; omega)
                refine st_val hS127 rfl rfl rfl (r_assign hS127 rfl rfl) fun a129 hS129 => wpList_nil (hK _ _ ?_)
                replace hS : Sl 76 _ [(5, .slice A6 r4.1.length cap7), (6, .slice A10 m1_0.length cap11), (7, .pointer (some ⟨b21, 0, none⟩)), (10, .slice A123 y121.length cap124), (11, .int .i64 r99.2)] := hS129.re ⟨rfl, rfl, rfl, rfl, rfl, trivial⟩
                clear hK K
                try clear hS114 hS115 hS119 hS127 hS129
                obtain ⟨a, ha⟩ : ∃ a', a' = a129 := ⟨_, rfl⟩
                rw [← ha] at hS ⊢; clear ha
                obtain ⟨x132, hx133, H⟩ := bind_el H
                refine c_region (fun K hK => ?_)
                refine st_val hS rfl rfl rfl (r_move hS rfl rfl) fun a130 hS130 => st_val hS130 rfl rfl rfl (r_move hS130 rfl rfl) fun a131 hS131 => ?_
                obtain ⟨_, ⟨A135, cap136, rfl, h137⟩, hel134⟩ := El.of (OwD.rdx h8) hx133 (by decide)
                replace hel134 : El w128 g128 (fun q => q = N + 0) A6 (r99.2.toNat * 1) [.slice A135 x132.length cap136] := hel134
                refine st_val hS131 rfl rfl rfl (r_index (e := 29) (sz := 1) (by_ := 24) hS131 rfl rfl rfl (by kernel_rfl) (RdS.some_ (OwS.rd h8) hx133) (idx_lo hx133) (idx_hi hx133)) fun a140 hS140 => st_val hS140 rfl rfl rfl (r_load1 (n := 1) hS140 rfl rfl (by kernel_rfl) (El.cell (j := 0) hel134 rfl)) fun a141 hS141 => st_val hS141 rfl rfl rfl (r_len (e := 3) (sz := 1) (by_ := 8) hS141 rfl rfl (by kernel_rfl)) fun a142 hS142 => st_val hS142 rfl rfl rfl (r_move hS142 rfl rfl) fun a143 hS143 => wpList_nil (hK _ _ ?_)
                replace hS : Sl 76 _ [(5, .slice A6 r4.1.length cap7), (6, .slice A10 m1_0.length cap11), (7, .pointer (some ⟨b21, 0, none⟩)), (10, .slice A123 y121.length cap124), (53, .slice A135 x132.length cap136), (54, .int .i64 (x132.length : Int)), (55, .int .i64 0)] := hS143.re ⟨rfl, rfl, rfl, rfl, rfl, rfl, rfl, trivial⟩
                clear hK K
                try clear hS130 hS131 hS140 hS141 hS142 hS143
                obtain ⟨a, ha⟩ : ∃ a', a' = a143 := ⟨_, rfl⟩
                rw [← ha] at hS ⊢; clear ha
                refine wp_block ?_
                refine wp_loop_ghost (fun kq => fun a w144 => ∃ (m2_0 : List Int), ∃ (m2_1 : List Int), ∃ (m2_2 : Int), ∃ (g144 : Nat → Nat), ∃ (A145 : Option Addr), ∃ (cap146 : Nat), depgraph_sort.l2 y121 x132 kq m2_0 m2_1 m2_2 = some o96 ∧ Sl 76 a [(5, .slice A6 r4.1.length cap7), (6, .slice A10 m2_0.length cap11), (7, .pointer (some ⟨b21, 0, none⟩)), (10, .slice A123 y121.length cap124), (53, .slice A135 x132.length cap136), (54, .int .i64 (x132.length : Int)), (55, .int .i64 m2_2)] ∧ OwS (kint .i64) 3 w144 g144 (N + 9) A123 cap124 y121 ∧ OwS (kint .i64) 3 w144 g144 (N + 2) A10 cap11 m2_0 ∧ RdS (kint .i64) w144 g144 (fun q => q = N + 0 + 1) A135 cap136 x132 ∧ Bx w144 g144 (N + 4) b21 119 [.slice A145 m2_1.length cap146] ∧ OwS (kslice (kint .i64) (by decide)) 29 w144 g144 (N + 0) A6 cap7 r4.1 ∧ OwS (kint .i64) 3 w144 g144 (N + 4 + 1) A145 cap146 m2_1 ∧ Fr (fun q => (r0 ≤ q ∧ q < r0 + 2) ∨ N ≤ q) w g w144 g144) FUEL ?_ ?_
                · exact ⟨m1_0, r99.1.q, 0, g128, A101, cap102, H, hS.re ⟨rfl, rfl, rfl, rfl, rfl, rfl, rfl, trivial⟩, h125, h12, h137, h22, h8, h29, hF⟩
                · clear H
                  clear h8 h12 h22 h29 h125 h137 hF
                  clear hS
                  rintro k147 a w144 ⟨m2_0, m2_1, m2_2, g144, A145, cap146, hpre0, hS, h125, h12, h137, h22, h8, h29, hF⟩
                  have H := hpre0
                  clear hpre0
                  cases k147 with
                  | zero => exact absurd H (by simp [depgraph_sort.l2])
                  | succ k147 =>
                    rw [depgraph_sort.l2] at H
                    refine c_pure [(5, .slice A6 r4.1.length cap7), (6, .slice A10 m2_0.length cap11), (7, .pointer (some ⟨b21, 0, none⟩)), (10, .slice A123 y121.length cap124), (53, .slice A135 x132.length cap136), (54, .int .i64 (x132.length : Int)), (55, .int .i64 m2_2), (56, .bool (decide (m2_2 < (x132.length : Int))))] (fun R hR => st_val hS rfl rfl rfl (r_bin hS rfl rfl rfl b_lss) fun a148 hS148 => wpList_nil (hR _ (hS148.re ⟨rfl, rfl, rfl, rfl, rfl, rfl, rfl, rfl, trivial⟩))) ?_
                    clear hS
                    clear a
                    intro a hS
                    refine c_if hS rfl (fun hb149 => ?_) (fun hb149 => ?_)
                    · replace H := ite_t hb149 H
                      refine wp_skip ?_
                      change Code.wp _ _ _ _ _
                      obtain ⟨v153, H, Hl155⟩ := bind_el H
                      refine c_cut (fun a w150 => ∃ (g150 : Nat → Nat), ∃ (A151 : Option Addr), ∃ (cap152 : Nat), Sl 76 a [(5, .slice A6 r4.1.length cap7), (6, .slice A10 v153.1.length cap11), (7, .pointer (some ⟨b21, 0, none⟩)), (10, .slice A123 y121.length cap124), (53, .slice A135 x132.length cap136), (54, .int .i64 (x132.length : Int)), (55, .int .i64 m2_2)] ∧ OwS (kint .i64) 3 w150 g150 (N + 9) A123 cap124 y121 ∧ OwS (kint .i64) 3 w150 g150 (N + 2) A10 cap11 v153.1 ∧ RdS (kint .i64) w150 g150 (fun q => q = N + 0 + 1) A135 cap136 x132 ∧ Bx w150 g150 (N + 4) b21 119 [.slice A151 v153.2.length cap152] ∧ OwS (kslice (kint .i64) (by decide)) 29 w150 g150 (N + 0) A6 cap7 r4.1 ∧ OwS (kint .i64) 3 w150 g150 (N + 4 + 1) A151 cap152 v153.2 ∧ Fr (fun q => (r0 ≤ q ∧ q < r0 + 2) ∨ N ≤ q) w g w150 g150) ?_ ?_
                      · refine wp_block ?_
                        obtain ⟨x156, hx157, H⟩ := bind_el H
                        refine c_pure [(5, .slice A6 r4.1.length cap7), (6, .slice A10 m2_0.length cap11), (7, .pointer (some ⟨b21, 0, none⟩)), (10, .slice A123 y121.length cap124), (14, .int .i64 x156), (53, .slice A135 x132.length cap136), (54, .int .i64 (x132.length : Int)), (55, .int .i64 m2_2)] (fun R hR => st_val hS rfl rfl rfl (r_index (e := 3) (sz := 1) (by_ := 8) hS rfl rfl rfl (by kernel_rfl) (RdS.some_ h137 hx157) (idx_lo hx157) (idx_hi hx157)) fun a158 hS158 => st_val hS158 rfl rfl rfl (r_load1 (n := 1) hS158 rfl rfl (by kernel_rfl) (RdS.cell (i := m2_2) (sz := 1) (j := 0) h137 hx157 rfl)) fun a159 hS159 => st_val hS159 rfl rfl rfl (r_assign hS159 rfl rfl) fun a160 hS160 => wpList_nil (hR _ (hS160.re ⟨rfl, rfl, rfl, rfl, rfl, rfl, rfl, rfl, trivial⟩))) ?_
                        clear hS
                        clear a
                        intro a hS
                        obtain ⟨x163, hx164, H⟩ := bind_el H
                        refine c_region (fun K hK => ?_)
                        refine st_val hS rfl rfl rfl (r_move hS rfl rfl) fun a161 hS161 => st_val hS161 rfl rfl rfl (r_move hS161 rfl rfl) fun a162 hS162 => st_val hS162 rfl rfl rfl (r_index (e := 3) (sz := 1) (by_ := 8) hS162 rfl rfl rfl (by kernel_rfl) (RdS.some_ (OwS.rd h12) hx164) (idx_lo hx164) (idx_hi hx164)) fun a165 hS165 => st_val hS165 rfl rfl rfl (r_load1 (n := 1) hS165 rfl rfl (by kernel_rfl) (RdS.cell (i := x156) (sz := 1) (j := 0) (OwS.rd h12) hx164 rfl)) fun a166 hS166 => st_val hS166 rfl rfl rfl (r_bin hS166 rfl rfl rfl b_sub) fun a167 hS167 => st_val hS167 rfl rfl rfl (r_index (e := 3) (sz := 1) (by_ := 8) hS167 rfl rfl rfl (by kernel_rfl) (RdS.some_ (OwS.rd h12) hx164) (idx_lo hx164) (idx_hi hx164)) fun a168 hS168 => ?_
                        refine st_effS hS168 rfl rfl (e_storeE (n := 1) (bb := false) (kd := (kint .i64)) (j := 0) (x' := wi (x163 - 1)) (us := [.int .i64 (wi (x163 - 1))]) g144 hS168 rfl rfl rfl rfl (by kernel_rfl) rfl rfl (by intro v hv; simp only [List.mem_cons, List.not_mem_nil, or_false] at hv; rcases hv with rfl <;> rfl) h12 hx164 rfl (fun _ _ cs hR => by rw [show cs = _ from hR]; rfl)) ?_
                        rintro a169 w170 g170 ⟨h12, F170⟩ hS169
                        replace h125 := OwS.fr h125 F170 (fun c' hc (hm : c' = N + 2) => by omega)
                        replace h137 := RdS.fr h137 F170 (by decide) (fun q (hq : q = N + 0 + 1) (hm : q = N + 2) => by omega)
                        replace h22 := h22.fr F170 (fun (hm : N + 4 = N + 2) => by omega)
                        replace h8 := OwS.fr h8 F170 (fun c' hc (hm : c' = N + 2) => by omega)
                        replace h29 := OwS.fr h29 F170 (fun c' hc (hm : c' = N + 2) => by omega)
                        replace hF := hF.trans F170 (fun c' (hm : c' = N + 2) => by show (r0 ≤ c' ∧ c' < r0 + 2) ∨ N ≤ c'; omega)
                        have hT : Sl 76 a169 [(5, .slice A6 r4.1.length cap7), (6, .slice A10 m2_0.length cap11), (7, .pointer (some ⟨b21, 0, none⟩)), (10, .slice A123 y121.length cap124), (14, .int .i64 x156), (53, .slice A135 x132.length cap136), (54, .int .i64 (x132.length : Int)), (55, .int .i64 m2_2)] := hS169.re ⟨rfl, rfl, rfl, rfl, rfl, rfl, rfl, rfl, trivial⟩
                        replace hS169 : Sl 76 a169 [(5, .slice A6 r4.1.length cap7), (6, .slice A10 (upd m2_0 x156 (wi (x163 - 1))).length cap11), (7, .pointer (some ⟨b21, 0, none⟩)), (10, .slice A123 y121.length cap124), (14, .int .i64 x156), (53, .slice A135 x132.length cap136), (54, .int .i64 (x132.length : Int)), (55, .int .i64 m2_2)] := by simpa only [upd_length] using hT
                        clear hT
                        refine wpList_nil (hK _ _ ?_)
                        replace hS : Sl 76 _ [(5, .slice A6 r4.1.length cap7), (6, .slice A10 (upd m2_0 x156 (wi (x163 - 1))).length cap11), (7, .pointer (some ⟨b21, 0, none⟩)), (10, .slice A123 y121.length cap124), (14, .int .i64 x156), (53, .slice A135 x132.length cap136), (54, .int .i64 (x132.length : Int)), (55, .int .i64 m2_2)] := hS169.re ⟨rfl, rfl, rfl, rfl, rfl, rfl, rfl, rfl, trivial⟩
                        clear hK K
                        try clear hS161 hS162 hS165 hS166 hS167 hS168 hS169
                        obtain ⟨a, ha⟩ : ∃ a', a' = a169 := ⟨_, rfl⟩
                        rw [← ha] at hS ⊢; clear ha
                        obtain ⟨x173, hx174, H⟩ := bind_el H
                        refine c_pure [(5, .slice A6 r4.1.length cap7), (6, .slice A10 (upd m2_0 x156 (wi (x163 - 1))).length cap11), (7, .pointer (some ⟨b21, 0, none⟩)), (10, .slice A123 y121.length cap124), (14, .int .i64 x156), (53, .slice A135 x132.length cap136), (54, .int .i64 (x132.length : Int)), (55, .int .i64 m2_2), (69, .bool (x173 == 0))] (fun R hR => st_val hS rfl rfl rfl (r_move hS rfl rfl) fun a171 hS171 => st_val hS171 rfl rfl rfl (r_move hS171 rfl rfl) fun a172 hS172 => st_val hS172 rfl rfl rfl (r_index (e := 3) (sz := 1) (by_ := 8) hS172 rfl rfl rfl (by kernel_rfl) (RdS.some_ (OwS.rd h12) hx174) (idx_lo hx174) (idx_hi hx174)) fun a175 hS175 => st_val hS175 rfl rfl rfl (r_load1 (n := 1) hS175 rfl rfl (by kernel_rfl) (RdS.cell (i := x156) (sz := 1) (j := 0) (OwS.rd h12) hx174 rfl)) fun a176 hS176 => st_val hS176 rfl rfl rfl (r_bin hS176 rfl rfl rfl b_eql) fun a177 hS177 => wpList_nil (hR _ (hS177.re ⟨rfl, rfl, rfl, rfl, rfl, rfl, rfl, rfl, rfl, trivial⟩))) ?_
                        clear hS
                        clear a
                        intro a hS
                        refine c_cond hS rfl (fun hb178 => ?_) (fun hb178 => ?_)
                        · replace H := ite_t hb178 H
                          obtain ⟨r182, hr183, H⟩ := bind_el H
                          refine c_region1 (fun K hK => ?_)
                          refine st_val hS rfl rfl rfl (r_mkif hS rfl rfl (by kernel_rfl)) fun a179 hS179 => st_val hS179 rfl rfl rfl (r_move hS179 rfl rfl) fun a180 hS180 => st_val hS180 rfl rfl rfl (r_mkif hS180 rfl rfl (by kernel_rfl)) fun a181 hS181 => ?_
                          refine st_enter hS181 rfl rfl rfl (r_call hS181 rfl rfl (by kernel_rfl)) (heap_Push.calls (c0 := N + 4) (b_p0 := b21) (A_q_p0 := A145) (cap_q_p0 := cap146) (p0 := (depgraph_queue.mk m2_1)) (p1 := x156) (g := g170) (N + 11)  ⟨h22, h29⟩ (by omega) hr183) ?_
                          rintro _ a186 w187 ⟨g187, A184, cap185, rfl, ⟨h22, h29⟩, F187⟩ hS186
                          replace h125 := OwS.fr h125 F187 (fun c' hc (hm : (N + 4 ≤ c' ∧ c' < N + 4 + 3) ∨ N + 11 ≤ c') => by omega)
                          replace h12 := OwS.fr h12 F187 (fun c' hc (hm : (N + 4 ≤ c' ∧ c' < N + 4 + 3) ∨ N + 11 ≤ c') => by omega)
                          replace h137 := RdS.fr h137 F187 (by decide) (fun q (hq : q = N + 0 + 1) (hm : (N + 4 ≤ q ∧ q < N + 4 + 3) ∨ N + 11 ≤ q) => by omega)
                          replace h8 := OwS.fr h8 F187 (fun c' hc (hm : (N + 4 ≤ c' ∧ c' < N + 4 + 3) ∨ N + 11 ≤ c') => by omega)
                          replace hF := hF.trans F187 (fun c' (hm : (N + 4 ≤ c' ∧ c' < N + 4 + 3) ∨ N + 11 ≤ c') => by show (r0 ≤ c' ∧ c' < r0 + 2) ∨ N ≤ c'; omega)
                          refine wpList_nil (hK _ _ ?_)
                          replace hS : Sl 76 _ [(5, .slice A6 r4.1.length cap7), (6, .slice A10 (upd m2_0 x156 (wi (x163 - 1))).length cap11), (7, .pointer (some ⟨b21, 0, none⟩)), (10, .slice A123 y121.length cap124), (53, .slice A135 x132.length cap136), (54, .int .i64 (x132.length : Int)), (55, .int .i64 m2_2)] := hS186.re ⟨rfl, rfl, rfl, rfl, rfl, rfl, rfl, trivial⟩
                          clear hK K
                          try clear hS179 hS180 hS181 hS186
                          obtain ⟨a, ha⟩ : ∃ a', a' = a186 := ⟨_, rfl⟩
                          rw [← ha] at hS ⊢; clear ha
                          have e := Option.some.inj H
                          subst e
                          exact ⟨g187, A184, cap185, hS.re ⟨rfl, rfl, rfl, rfl, rfl, rfl, rfl, trivial⟩, h125, h12, h137, h22, h8, h29, hF⟩
                        · replace H := ite_f hb178 H
                          refine wp_skip ?_
                          have e := Option.some.inj H
                          subst e
                          exact ⟨g170, A145, cap146, hS.re ⟨rfl, rfl, rfl, rfl, rfl, rfl, rfl, trivial⟩, h125, h12, h137, h22, h8, h29, hF⟩
                      · clear H
                        clear h8 h12 h22 h29 h125 h137 hF
                        clear hS
                        rintro a w150 ⟨g150, A151, cap152, hS, h125, h12, h137, h22, h8, h29, hF⟩
                        have H := Hl155
                        clear Hl155
                        refine c_pure1 [(5, .slice A6 r4.1.length cap7), (6, .slice A10 v153.1.length cap11), (7, .pointer (some ⟨b21, 0, none⟩)), (10, .slice A123 y121.length cap124), (53, .slice A135 x132.length cap136), (54, .int .i64 (x132.length : Int)), (55, .int .i64 (wi (m2_2 + 1)))] (fun R hR => st_val hS rfl rfl rfl (r_bin hS rfl rfl rfl b_add) fun a188 hS188 => st_val hS188 rfl rfl rfl (r_move hS188 rfl rfl) fun a189 hS189 => wpList_nil (hR _ (hS189.re ⟨rfl, rfl, rfl, rfl, rfl, rfl, rfl, trivial⟩))) ?_
                        clear hS
                        clear a
                        intro a hS
                        refine ⟨k147, Nat.lt_succ_self _, ?_⟩
                        exact ⟨v153.1, v153.2, wi (m2_2 + 1), g150, A151, cap152, H, hS.re ⟨rfl, rfl, rfl, rfl, rfl, rfl, rfl, trivial⟩, h125, h12, h137, h22, h8, h29, hF⟩
                    · replace H := ite_f hb149 H
                      refine wp_exit ?_
                      have e := Option.some.inj H
                      exact ⟨(m2_0, m2_1, y121), g144, A145, cap146, A123, cap124, e.symm, hS.re ⟨rfl, rfl, rfl, rfl, trivial⟩, h12, h22, h8, h29, h125, hF⟩
            · clear H
              clear h8 h12 h22 h29 h83 hF
              clear hS
              rintro a w89 ⟨v95, g89, A90, cap91, A92, cap93, hpre0, hS, h12, h22, h8, h29, h94, hF⟩
              subst hpre0
              have H := Fl.go_nxt Hl97
              clear Hl97
              refine ⟨k84, Nat.lt_succ_self _, ?_⟩
              exact ⟨v95.1, v95.2.1, v95.2.2, g89, A90, cap91, A92, cap93, H, hS.re ⟨rfl, rfl, rfl, rfl, trivial⟩, h12, h22, h8, h29, h94, hF⟩
          · replace H := ite_f hb88 H
            refine wp_exit ?_
            have e := Option.some.inj H
            subst e
            exact ⟨g78, A81, cap82, hS.re ⟨rfl, trivial⟩, h83, hF⟩
    · clear H
      clear h8 h12 h22 h29 hF
      clear hS
      rintro a w71 ⟨g71, A72, cap73, hS, h74, hF⟩
      have H := Hl77
      clear Hl77
      refine c_pure [(4, .slice A72 v75.length cap73)] (fun R hR => st_val hS rfl rfl rfl (r_move hS rfl rfl) fun a190 hS190 => st_val hS190 rfl rfl rfl (r_assign hS190 rfl rfl) fun a191 hS191 => wpList_nil (hR _ (hS191.re ⟨rfl, trivial⟩))) ?_
      clear hS
      clear a
      intro a hS
      refine wp_ret ?_
      have e := Option.some.inj H
      subst e
      have F192 := Fr.recol2 w71 g71 (N + 9) r0
      replace h74 := h74.recol2 r0
      replace hF := hF.trans F192 (fun c' (hm : c' = N + 9 ∨ c' = N + 9 + 1) => by show (r0 ≤ c' ∧ c' < r0 + 2) ∨ N ≤ c'; omega)
      repeat (with_reducible first | refine then_ret ?_ | refine inBlock_ret ?_)
      exact c_ret1 hS Try.results75 rfl ⟨_, rfl, (recol2 g71 (N + 9) r0), A72, cap73, rfl, h74, hF⟩


end Go.Proofs.Ytfhhklkmbcnhnaa.Sim

namespace Go.Proofs.Ytfhhklkmbcnhnaa.Sim
open Go
set_option linter.unusedVariables false
set_option linter.unusedSimpArgs false

/-! ### depgraph_validate: function 74 -/
def depgraph_validate.l0 (p0 : Int) (p1 : List api_Link) : Nat → Int → Option (Fl (Int) (Unit))
  | 0, _ => none
  | k39 + 1, m0_0 => if decide (m0_0 < (p1.length : Int)) = true then ((idx p1 m0_0).bind fun x42 => if ((((decide (x42.Consumer < 0)) || (decide (p0 ≤ x42.Consumer))) || (decide (x42.Supplier < 0))) || (decide (p0 ≤ x42.Supplier))) = true then (some (.out 1)) else (depgraph_validate.l0 p0 p1 k39 (wi (m0_0 + 1)))) else (some (.nxt ()))
def depgraph_validate.l1 (p1 : List api_Link) : Nat → (List api_Link) → Int → Option (Fl (Int) (Unit))
  | 0, _, _ => none
  | k122 + 1, m1_0, m1_1 => if decide (m1_1 < (p1.length : Int)) = true then ((idx p1 m1_1).bind fun x125 => if decide (x125 ∈ m1_0) = true then (some (.out 7)) else (depgraph_validate.l1 p1 k122 (m1_0 ++ [x125]) (wi (m1_1 + 1)))) else (some (.nxt ()))
def depgraph_validate.f (p0 : Int) (p1 : List api_Link) : Option (Int) := if (((decide (p0 < 0)) || (decide (128 < p0))) || (decide (1024 < (p1.length : Int)))) = true then (some 1) else ((depgraph_validate.l0 p0 p1 FUEL 0 : Option (Fl (Int) (Unit))).bind fun o33 => o33.go fun _ => (depgraph_validate.l1 p1 FUEL ([] : List api_Link) 0 : Option (Fl (Int) (Unit))).bind fun o116 => o116.go fun _ => some 0)
set_option maxRecDepth 100000 in
set_option maxHeartbeats 4000000 in
theorem depgraph_validate.calls {p0 : Int} {p1 : List api_Link} {A1 : Option Addr} {cap1 : Nat} {C1 : Nat → Prop} {w : World} {g : Nat → Nat} {out : Int} (N : Nat) (hp1 : RdS kd_api_Link w g C1 A1 cap1 p1) (hC1 : ∀ c, C1 c → c < N) (H : depgraph_validate.f p0 p1 = some out) :
    Calls Try.prog 74 #[.int .i64 p0, .slice A1 p1.length cap1] w (fun e w' => ∃ v, e = .returned v ∧ ∃ (g' : Nat → Nat), v = .int .i64 out ∧ Fr (fun q => N ≤ q) w g w' g') := by
  unfold depgraph_validate.f at H
  refine calls_enter Try.func74 rfl Try.ntmps74 rfl (fun a hS => ?_)
  replace hS : Sl 61 a [(0, .int .i64 p0), (1, .slice A1 p1.length cap1)] := hS
  have hF : Fr (fun q => N ≤ q) w g w g := Fr.refl _ _ _
  refine c_pure [(0, .int .i64 p0), (1, .slice A1 p1.length cap1)] (fun R hR => st_val hS rfl rfl rfl (r_assign hS rfl rfl) fun a1 hS1 => wpList_nil (hR _ (hS1.re ⟨rfl, rfl, trivial⟩))) ?_
  clear hS
  clear a
  intro a hS
  refine wp_seq ?_
  refine c_region (fun K hK => ?_)
  refine st_val hS rfl rfl rfl (r_move hS rfl rfl) fun a2 hS2 => st_val hS2 rfl rfl rfl (r_bin hS2 rfl rfl rfl b_lss) fun a3 hS3 => st_val hS3 rfl rfl rfl (r_move hS3 rfl rfl) fun a4 hS4 => ?_
  refine g_join (N := 61) 3 [(0, .int .i64 p0), (1, .slice A1 p1.length cap1), (15, .bool ((decide (p0 < 0)) || (decide (128 < p0))))] ?_ (fun hk => ?_)
  rotate_left
  · rcases Bool.eq_false_or_eq_true (decide (p0 < 0)) with hb5 | hb5
    · refine st_off hS4 (want_off hS4 rfl rfl rfl hb5) rfl rfl fun a8 hS8 => st_off hS8 (want_off hS8 rfl rfl rfl hb5) rfl rfl fun a9 hS9 => st_val hS9 rfl rfl rfl (r_pickT hS9 rfl rfl rfl hb5) fun a10 hS10 => hk _ (hS10.re ⟨rfl, rfl, (by rw [hb5]; rfl), trivial⟩)
    · refine st_valW hS4 (want_on hS4 rfl rfl rfl hb5) rfl rfl (r_move hS4 rfl rfl) fun a11 hS11 => st_valW hS11 (want_on hS11 rfl rfl rfl hb5) rfl rfl (r_bin hS11 rfl rfl rfl b_gtr) fun a12 hS12 => st_val hS12 rfl rfl rfl (r_pickF hS12 rfl rfl rfl hb5) fun a13 hS13 => hk _ (hS13.re ⟨rfl, rfl, (by rw [hb5]; rfl), trivial⟩)
  intro a14 hS14
  refine st_val hS14 rfl rfl rfl (r_move hS14 rfl rfl) fun a15 hS15 => ?_
  refine g_join (N := 61) 4 [(0, .int .i64 p0), (1, .slice A1 p1.length cap1), (20, .bool (((decide (p0 < 0)) || (decide (128 < p0))) || (decide (1024 < (p1.length : Int)))))] ?_ (fun hk => ?_)
  rotate_left
  · rcases Bool.eq_false_or_eq_true (((decide (p0 < 0)) || (decide (128 < p0)))) with hb16 | hb16
    · refine st_off hS15 (want_off hS15 rfl rfl rfl hb16) rfl rfl fun a20 hS20 => st_off hS20 (want_off hS20 rfl rfl rfl hb16) rfl rfl fun a21 hS21 => st_off hS21 (want_off hS21 rfl rfl rfl hb16) rfl rfl fun a22 hS22 => st_val hS22 rfl rfl rfl (r_pickT hS22 rfl rfl rfl hb16) fun a23 hS23 => hk _ (hS23.re ⟨rfl, rfl, (by rw [hb16]; rfl), trivial⟩)
    · refine st_valW hS15 (want_on hS15 rfl rfl rfl hb16) rfl rfl (r_move hS15 rfl rfl) fun a24 hS24 => st_valW hS24 (want_on hS24 rfl rfl rfl hb16) rfl rfl (r_len (e := 103) (sz := 2) (by_ := 16) hS24 rfl rfl (by kernel_rfl)) fun a25 hS25 => st_valW hS25 (want_on hS25 rfl rfl rfl hb16) rfl rfl (r_bin hS25 rfl rfl rfl b_gtr) fun a26 hS26 => st_val hS26 rfl rfl rfl (r_pickF hS26 rfl rfl rfl hb16) fun a27 hS27 => hk _ (hS27.re ⟨rfl, rfl, (by rw [hb16]; rfl), trivial⟩)
  intro a28 hS28
  refine wpList_nil (hK _ _ ?_)
  replace hS : Sl 61 _ [(0, .int .i64 p0), (1, .slice A1 p1.length cap1), (20, .bool (((decide (p0 < 0)) || (decide (128 < p0))) || (decide (1024 < (p1.length : Int)))))] := hS28.re ⟨rfl, rfl, rfl, trivial⟩
  clear hK K
  try clear hS2 hS3 hS4 hS14 hS15 hS28
  obtain ⟨a, ha⟩ : ∃ a', a' = a28 := ⟨_, rfl⟩
  rw [← ha] at hS ⊢; clear ha
  refine c_cond hS rfl (fun hb29 => ?_) (fun hb29 => ?_)
  · replace H := ite_t hb29 H
    refine c_pure [(4, .int .i64 1)] (fun R hR => st_val hS rfl rfl rfl (r_assign hS rfl rfl) fun a30 hS30 => wpList_nil (hR _ (hS30.re ⟨rfl, trivial⟩))) ?_
    clear hS
    clear a
    intro a hS
    refine wp_ret ?_
    have e := Option.some.inj H
    subst e
    repeat (with_reducible first | refine then_ret ?_ | refine inBlock_ret ?_)
    exact c_ret1 hS Try.results74 rfl ⟨_, rfl, g, rfl, hF⟩
  · replace H := ite_f hb29 H
    refine wp_skip ?_
    change Code.wp _ _ _ _ _
    obtain ⟨o33, H, Hl34⟩ := bind_el H
    refine c_cut (fun a w31 => ∃ (g31 : Nat → Nat), o33 = .nxt () ∧ Sl 61 a [(1, .slice A1 p1.length cap1)] ∧ RdS kd_api_Link w31 g31 C1 A1 cap1 p1 ∧ Fr (fun q => N ≤ q) w g w31 g31) ?_ ?_
    · refine c_pure [(0, .int .i64 p0), (1, .slice A1 p1.length cap1), (21, .slice A1 p1.length cap1), (22, .int .i64 (p1.length : Int)), (23, .int .i64 0)] (fun R hR => st_val hS rfl rfl rfl (r_move hS rfl rfl) fun a35 hS35 => st_val hS35 rfl rfl rfl (r_len (e := 103) (sz := 2) (by_ := 16) hS35 rfl rfl (by kernel_rfl)) fun a36 hS36 => st_val hS36 rfl rfl rfl (r_move hS36 rfl rfl) fun a37 hS37 => wpList_nil (hR _ (hS37.re ⟨rfl, rfl, rfl, rfl, rfl, trivial⟩))) ?_
      clear hS
      clear a
      intro a hS
      refine wp_block ?_
      refine wp_loop_ghost (fun kq => fun a w38 => ∃ (m0_0 : Int), ∃ (g38 : Nat → Nat), depgraph_validate.l0 p0 p1 kq m0_0 = some o33 ∧ Sl 61 a [(0, .int .i64 p0), (1, .slice A1 p1.length cap1), (21, .slice A1 p1.length cap1), (22, .int .i64 (p1.length : Int)), (23, .int .i64 m0_0)] ∧ RdS kd_api_Link w38 g38 C1 A1 cap1 p1 ∧ Fr (fun q => N ≤ q) w g w38 g38) FUEL ?_ ?_
      · exact ⟨0, g, H, hS.re ⟨rfl, rfl, rfl, rfl, rfl, trivial⟩, hp1, hF⟩
      · clear H
        clear hp1 hF
        clear hS
        rintro k39 a w38 ⟨m0_0, g38, hpre0, hS, hp1, hF⟩
        have H := hpre0
        clear hpre0
        cases k39 with
        | zero => exact absurd H (by simp [depgraph_validate.l0])
        | succ k39 =>
          rw [depgraph_validate.l0] at H
          refine c_pure [(0, .int .i64 p0), (1, .slice A1 p1.length cap1), (21, .slice A1 p1.length cap1), (22, .int .i64 (p1.length : Int)), (23, .int .i64 m0_0), (24, .bool (decide (m0_0 < (p1.length : Int))))] (fun R hR => st_val hS rfl rfl rfl (r_bin hS rfl rfl rfl b_lss) fun a40 hS40 => wpList_nil (hR _ (hS40.re ⟨rfl, rfl, rfl, rfl, rfl, rfl, trivial⟩))) ?_
          clear hS
          clear a
          intro a hS
          refine c_if hS rfl (fun hb41 => ?_) (fun hb41 => ?_)
          · replace H := ite_t hb41 H
            refine wp_skip ?_
            change Code.wp _ _ _ _ _
            refine wp_seq ?_
            refine wp_block ?_
            obtain ⟨x42, hx43, H⟩ := bind_el H
            refine c_region (fun K hK => ?_)
            refine st_val hS rfl rfl rfl (r_index (e := 103) (sz := 2) (by_ := 16) hS rfl rfl rfl (by kernel_rfl) (RdS.some_ hp1 hx43) (idx_lo hx43) (idx_hi hx43)) fun a44 hS44 => st_val hS44 rfl rfl rfl (r_loadN (n := 2) (cs := [.int .i64 x42.Consumer, .int .i64 x42.Supplier]) hS44 rfl rfl (by kernel_rfl) rfl (RdS.cells_off hp1 hx43 0 2)) fun a45 hS45 => ?_
            refine st_eff hS45 rfl rfl rfl (e_alloc (cs := [.int .i64 0, .int .i64 0]) (N + 0) g38 hS45 rfl (by kernel_rfl)) ?_
            rintro _ a49 w50 g50 ⟨⟨b46, rfl, h47⟩, F50⟩ hS49
            replace hp1 := RdS.fr hp1 F50 (by decide) (fun _ _ h => h)
            replace hF := hF.trans F50 (fun _ h => h.elim)
            refine st_effS hS49 rfl rfl (e_storeB (n := 2) (bb := true) (cs' := [.int .i64 x42.Consumer, .int .i64 x42.Supplier]) g50 hS49 rfl rfl rfl (by kernel_rfl) rfl rfl rfl h47 rfl rfl) ?_
            rintro a51 w52 g52 ⟨h47, F52⟩ hS51
            replace hp1 := RdS.fr hp1 F52 (by decide) (fun q (hq : C1 q) (hm : q = N + 0) => by have := hC1 q hq; omega)
            replace hF := hF.trans F52 (fun c' (hm : c' = N + 0) => by show N ≤ c'; omega)
            refine wpList_nil (hK _ _ ?_)
            replace hS : Sl 61 _ [(0, .int .i64 p0), (1, .slice A1 p1.length cap1), (6, .pointer (some ⟨b46, 0, none⟩)), (21, .slice A1 p1.length cap1), (22, .int .i64 (p1.length : Int)), (23, .int .i64 m0_0)] := hS51.re ⟨rfl, rfl, rfl, rfl, rfl, rfl, trivial⟩
            clear hK K
            try clear hS44 hS45 hS49 hS51
            obtain ⟨a, ha⟩ : ∃ a', a' = a51 := ⟨_, rfl⟩
            rw [← ha] at hS ⊢; clear ha
            refine c_region (fun K hK => ?_)
            refine st_val hS rfl rfl rfl (r_fieldB (off := 0) hS rfl rfl (by kernel_rfl)) fun a53 hS53 => st_val hS53 rfl rfl rfl (r_load1 (n := 1) hS53 rfl rfl (by kernel_rfl) (Bx.cell h47 rfl)) fun a54 hS54 => st_val hS54 rfl rfl rfl (r_bin hS54 rfl rfl rfl b_lss) fun a55 hS55 => st_val hS55 rfl rfl rfl (r_move hS55 rfl rfl) fun a56 hS56 => ?_
            refine g_join (N := 61) 5 [(0, .int .i64 p0), (1, .slice A1 p1.length cap1), (6, .pointer (some ⟨b46, 0, none⟩)), (21, .slice A1 p1.length cap1), (22, .int .i64 (p1.length : Int)), (23, .int .i64 m0_0), (35, .bool ((decide (x42.Consumer < 0)) || (decide (p0 ≤ x42.Consumer))))] ?_ (fun hk => ?_)
            rotate_left
            · rcases Bool.eq_false_or_eq_true (decide (x42.Consumer < 0)) with hb57 | hb57
              · refine st_off hS56 (want_off hS56 rfl rfl rfl hb57) rfl rfl fun a62 hS62 => st_off hS62 (want_off hS62 rfl rfl rfl hb57) rfl rfl fun a63 hS63 => st_off hS63 (want_off hS63 rfl rfl rfl hb57) rfl rfl fun a64 hS64 => st_off hS64 (want_off hS64 rfl rfl rfl hb57) rfl rfl fun a65 hS65 => st_val hS65 rfl rfl rfl (r_pickT hS65 rfl rfl rfl hb57) fun a66 hS66 => hk _ (hS66.re ⟨rfl, rfl, rfl, rfl, rfl, rfl, (by rw [hb57]; rfl), trivial⟩)
              · refine st_valW hS56 (want_on hS56 rfl rfl rfl hb57) rfl rfl (r_fieldB (off := 0) hS56 rfl rfl (by kernel_rfl)) fun a67 hS67 => st_valW hS67 (want_on hS67 rfl rfl rfl hb57) rfl rfl (r_load1 (n := 1) hS67 rfl rfl (by kernel_rfl) (Bx.cell h47 rfl)) fun a68 hS68 => st_valW hS68 (want_on hS68 rfl rfl rfl hb57) rfl rfl (r_move hS68 rfl rfl) fun a69 hS69 => st_valW hS69 (want_on hS69 rfl rfl rfl hb57) rfl rfl (r_bin hS69 rfl rfl rfl b_geq) fun a70 hS70 => st_val hS70 rfl rfl rfl (r_pickF hS70 rfl rfl rfl hb57) fun a71 hS71 => hk _ (hS71.re ⟨rfl, rfl, rfl, rfl, rfl, rfl, (by rw [hb57]; rfl), trivial⟩)
            intro a72 hS72
            refine st_val hS72 rfl rfl rfl (r_move hS72 rfl rfl) fun a73 hS73 => ?_
            refine g_join (N := 61) 4 [(0, .int .i64 p0), (1, .slice A1 p1.length cap1), (6, .pointer (some ⟨b46, 0, none⟩)), (21, .slice A1 p1.length cap1), (22, .int .i64 (p1.length : Int)), (23, .int .i64 m0_0), (40, .bool (((decide (x42.Consumer < 0)) || (decide (p0 ≤ x42.Consumer))) || (decide (x42.Supplier < 0))))] ?_ (fun hk => ?_)
            rotate_left
            · rcases Bool.eq_false_or_eq_true (((decide (x42.Consumer < 0)) || (decide (p0 ≤ x42.Consumer)))) with hb74 | hb74
              · refine st_off hS73 (want_off hS73 rfl rfl rfl hb74) rfl rfl fun a78 hS78 => st_off hS78 (want_off hS78 rfl rfl rfl hb74) rfl rfl fun a79 hS79 => st_off hS79 (want_off hS79 rfl rfl rfl hb74) rfl rfl fun a80 hS80 => st_val hS80 rfl rfl rfl (r_pickT hS80 rfl rfl rfl hb74) fun a81 hS81 => hk _ (hS81.re ⟨rfl, rfl, rfl, rfl, rfl, rfl, (by rw [hb74]; rfl), trivial⟩)
              · refine st_valW hS73 (want_on hS73 rfl rfl rfl hb74) rfl rfl (r_fieldB (off := 1) hS73 rfl rfl (by kernel_rfl)) fun a82 hS82 => st_valW hS82 (want_on hS82 rfl rfl rfl hb74) rfl rfl (r_load1 (n := 1) hS82 rfl rfl (by kernel_rfl) (Bx.cell h47 rfl)) fun a83 hS83 => st_valW hS83 (want_on hS83 rfl rfl rfl hb74) rfl rfl (r_bin hS83 rfl rfl rfl b_lss) fun a84 hS84 => st_val hS84 rfl rfl rfl (r_pickF hS84 rfl rfl rfl hb74) fun a85 hS85 => hk _ (hS85.re ⟨rfl, rfl, rfl, rfl, rfl, rfl, (by rw [hb74]; rfl), trivial⟩)
            intro a86 hS86
            refine st_val hS86 rfl rfl rfl (r_move hS86 rfl rfl) fun a87 hS87 => ?_
            refine g_join (N := 61) 5 [(0, .int .i64 p0), (1, .slice A1 p1.length cap1), (21, .slice A1 p1.length cap1), (22, .int .i64 (p1.length : Int)), (23, .int .i64 m0_0), (46, .bool ((((decide (x42.Consumer < 0)) || (decide (p0 ≤ x42.Consumer))) || (decide (x42.Supplier < 0))) || (decide (p0 ≤ x42.Supplier))))] ?_ (fun hk => ?_)
            rotate_left
            · rcases Bool.eq_false_or_eq_true ((((decide (x42.Consumer < 0)) || (decide (p0 ≤ x42.Consumer))) || (decide (x42.Supplier < 0)))) with hb88 | hb88
              · refine st_off hS87 (want_off hS87 rfl rfl rfl hb88) rfl rfl fun a93 hS93 => st_off hS93 (want_off hS93 rfl rfl rfl hb88) rfl rfl fun a94 hS94 => st_off hS94 (want_off hS94 rfl rfl rfl hb88) rfl rfl fun a95 hS95 => st_off hS95 (want_off hS95 rfl rfl rfl hb88) rfl rfl fun a96 hS96 => st_val hS96 rfl rfl rfl (r_pickT hS96 rfl rfl rfl hb88) fun a97 hS97 => hk _ (hS97.re ⟨rfl, rfl, rfl, rfl, rfl, (by rw [hb88]; rfl), trivial⟩)
              · refine st_valW hS87 (want_on hS87 rfl rfl rfl hb88) rfl rfl (r_fieldB (off := 1) hS87 rfl rfl (by kernel_rfl)) fun a98 hS98 => st_valW hS98 (want_on hS98 rfl rfl rfl hb88) rfl rfl (r_load1 (n := 1) hS98 rfl rfl (by kernel_rfl) (Bx.cell h47 rfl)) fun a99 hS99 => st_valW hS99 (want_on hS99 rfl rfl rfl hb88) rfl rfl (r_move hS99 rfl rfl) fun a100 hS100 => st_valW hS100 (want_on hS100 rfl rfl rfl hb88) rfl rfl (r_bin hS100 rfl rfl rfl b_geq) fun a101 hS101 => st_val hS101 rfl rfl rfl (r_pickF hS101 rfl rfl rfl hb88) fun a102 hS102 => hk _ (hS102.re ⟨rfl, rfl, rfl, rfl, rfl, (by rw [hb88]; rfl), trivial⟩)
            intro a103 hS103
            refine wpList_nil (hK _ _ ?_)
            replace hS : Sl 61 _ [(0, .int .i64 p0), (1, .slice A1 p1.length cap1), (21, .slice A1 p1.length cap1), (22, .int .i64 (p1.length : Int)), (23, .int .i64 m0_0), (46, .bool ((((decide (x42.Consumer < 0)) || (decide (p0 ≤ x42.Consumer))) || (decide (x42.Supplier < 0))) || (decide (p0 ≤ x42.Supplier))))] := hS103.re ⟨rfl, rfl, rfl, rfl, rfl, rfl, trivial⟩
            clear hK K
            try clear hS53 hS54 hS55 hS56 hS72 hS73 hS86 hS87 hS103
            obtain ⟨a, ha⟩ : ∃ a', a' = a103 := ⟨_, rfl⟩
            rw [← ha] at hS ⊢; clear ha
            refine c_cond hS rfl (fun hb104 => ?_) (fun hb104 => ?_)
            · replace H := ite_t hb104 H
              refine c_pure [(4, .int .i64 1)] (fun R hR => st_val hS rfl rfl rfl (r_assign hS rfl rfl) fun a105 hS105 => wpList_nil (hR _ (hS105.re ⟨rfl, trivial⟩))) ?_
              clear hS
              clear a
              intro a hS
              refine wp_ret ?_
              have e := Option.some.inj H
              subst e
              replace H := Fl.go_out Hl34
              have e := Option.some.inj H
              subst e
              repeat (with_reducible first | refine then_ret ?_ | refine inBlock_ret ?_)
              exact c_ret1 hS Try.results74 rfl ⟨_, rfl, g52, rfl, hF⟩
            · replace H := ite_f hb104 H
              refine wp_skip ?_
              change Code.wp _ _ _ _ _
              refine c_pure1 [(0, .int .i64 p0), (1, .slice A1 p1.length cap1), (21, .slice A1 p1.length cap1), (22, .int .i64 (p1.length : Int)), (23, .int .i64 (wi (m0_0 + 1)))] (fun R hR => st_val hS rfl rfl rfl (r_bin hS rfl rfl rfl b_add) fun a106 hS106 => st_val hS106 rfl rfl rfl (r_move hS106 rfl rfl) fun a107 hS107 => wpList_nil (hR _ (hS107.re ⟨rfl, rfl, rfl, rfl, rfl, trivial⟩))) ?_
              clear hS
              clear a
              intro a hS
              refine ⟨k39, Nat.lt_succ_self _, ?_⟩
              exact ⟨wi (m0_0 + 1), g52, H, hS.re ⟨rfl, rfl, rfl, rfl, rfl, trivial⟩, hp1, hF⟩
          · replace H := ite_f hb41 H
            refine wp_exit ?_
            have e := Option.some.inj H
            exact ⟨g38, e.symm, hS.re ⟨rfl, trivial⟩, hp1, hF⟩
    · clear H
      clear hp1 hF
      clear hS
      rintro a w31 ⟨g31, hpre0, hS, hp1, hF⟩
      subst hpre0
      have H := Fl.go_nxt Hl34
      clear Hl34
      refine c_region (fun K hK => ?_)
      refine st_eff hS rfl rfl rfl (e_makeMap enc_api_Link (N + 2) g31 hS rfl) ?_
      rintro _ a111 w112 g112 ⟨⟨b108, rfl, h109⟩, F112⟩ hS111
      replace hp1 := RdS.fr hp1 F112 (by decide) (fun _ _ h => h)
      replace hF := hF.trans F112 (fun _ h => h.elim)
      refine st_val hS111 rfl rfl rfl (r_assign hS111 rfl rfl) fun a113 hS113 => wpList_nil (hK _ _ ?_)
      replace hS : Sl 61 _ [(1, .slice A1 p1.length cap1), (7, .map (some b108))] := hS113.re ⟨rfl, rfl, trivial⟩
      clear hK K
      try clear hS111 hS113
      obtain ⟨a, ha⟩ : ∃ a', a' = a113 := ⟨_, rfl⟩
      rw [← ha] at hS ⊢; clear ha
      obtain ⟨o116, H, Hl117⟩ := bind_el H
      refine c_cut (fun a w114 => ∃ (g114 : Nat → Nat), o116 = .nxt () ∧ Sl 61 a [] ∧ Fr (fun q => N ≤ q) w g w114 g114) ?_ ?_
      · refine c_pure [(7, .map (some b108)), (49, .slice A1 p1.length cap1), (50, .int .i64 (p1.length : Int)), (51, .int .i64 0)] (fun R hR => st_val hS rfl rfl rfl (r_move hS rfl rfl) fun a118 hS118 => st_val hS118 rfl rfl rfl (r_len (e := 103) (sz := 2) (by_ := 16) hS118 rfl rfl (by kernel_rfl)) fun a119 hS119 => st_val hS119 rfl rfl rfl (r_move hS119 rfl rfl) fun a120 hS120 => wpList_nil (hR _ (hS120.re ⟨rfl, rfl, rfl, rfl, trivial⟩))) ?_
        clear hS
        clear a
        intro a hS
        refine wp_block ?_
        refine wp_loop_ghost (fun kq => fun a w121 => ∃ (m1_0 : List api_Link), ∃ (m1_1 : Int), ∃ (g121 : Nat → Nat), depgraph_validate.l1 p1 kq m1_0 m1_1 = some o116 ∧ Sl 61 a [(7, .map (some b108)), (49, .slice A1 p1.length cap1), (50, .int .i64 (p1.length : Int)), (51, .int .i64 m1_1)] ∧ MapS enc_api_Link w121 g121 (N + 2) b108 m1_0 ∧ RdS kd_api_Link w121 g121 C1 A1 cap1 p1 ∧ Fr (fun q => N ≤ q) w g w121 g121) FUEL ?_ ?_
        · exact ⟨([] : List api_Link), 0, g112, H, hS.re ⟨rfl, rfl, rfl, rfl, trivial⟩, h109, hp1, hF⟩
        · clear H
          clear hp1 h109 hF
          clear hS
          rintro k122 a w121 ⟨m1_0, m1_1, g121, hpre0, hS, h109, hp1, hF⟩
          have H := hpre0
          clear hpre0
          cases k122 with
          | zero => exact absurd H (by simp [depgraph_validate.l1])
          | succ k122 =>
            rw [depgraph_validate.l1] at H
            refine c_pure [(7, .map (some b108)), (49, .slice A1 p1.length cap1), (50, .int .i64 (p1.length : Int)), (51, .int .i64 m1_1), (52, .bool (decide (m1_1 < (p1.length : Int))))] (fun R hR => st_val hS rfl rfl rfl (r_bin hS rfl rfl rfl b_lss) fun a123 hS123 => wpList_nil (hR _ (hS123.re ⟨rfl, rfl, rfl, rfl, rfl, trivial⟩))) ?_
            clear hS
            clear a
            intro a hS
            refine c_if hS rfl (fun hb124 => ?_) (fun hb124 => ?_)
            · replace H := ite_t hb124 H
              refine wp_skip ?_
              change Code.wp _ _ _ _ _
              refine wp_seq ?_
              refine wp_block ?_
              obtain ⟨x125, hx126, H⟩ := bind_el H
              refine c_region (fun K hK => ?_)
              refine st_val hS rfl rfl rfl (r_index (e := 103) (sz := 2) (by_ := 16) hS rfl rfl rfl (by kernel_rfl) (RdS.some_ hp1 hx126) (idx_lo hx126) (idx_hi hx126)) fun a127 hS127 => st_val hS127 rfl rfl rfl (r_loadN (n := 2) (cs := [.int .i64 x125.Consumer, .int .i64 x125.Supplier]) hS127 rfl rfl (by kernel_rfl) rfl (RdS.cells_off hp1 hx126 0 2)) fun a128 hS128 => ?_
              refine st_eff hS128 rfl rfl rfl (e_alloc (cs := [.int .i64 0, .int .i64 0]) (N + 4) g121 hS128 rfl (by kernel_rfl)) ?_
              rintro _ a132 w133 g133 ⟨⟨b129, rfl, h130⟩, F133⟩ hS132
              replace h109 := MapS.fr h109 F133 (fun h => h)
              replace hp1 := RdS.fr hp1 F133 (by decide) (fun _ _ h => h)
              replace hF := hF.trans F133 (fun _ h => h.elim)
              refine st_effS hS132 rfl rfl (e_storeB (n := 2) (bb := true) (cs' := [.int .i64 x125.Consumer, .int .i64 x125.Supplier]) g133 hS132 rfl rfl rfl (by kernel_rfl) rfl rfl rfl h130 rfl rfl) ?_
              rintro a134 w135 g135 ⟨h130, F135⟩ hS134
              replace h109 := MapS.fr h109 F135 (fun (hm : N + 2 = N + 4) => by omega)
              replace hp1 := RdS.fr hp1 F135 (by decide) (fun q (hq : C1 q) (hm : q = N + 4) => by have := hC1 q hq; omega)
              replace hF := hF.trans F135 (fun c' (hm : c' = N + 4) => by show N ≤ c'; omega)
              refine wpList_nil (hK _ _ ?_)
              replace hS : Sl 61 _ [(7, .map (some b108)), (9, .pointer (some ⟨b129, 0, none⟩)), (49, .slice A1 p1.length cap1), (50, .int .i64 (p1.length : Int)), (51, .int .i64 m1_1)] := hS134.re ⟨rfl, rfl, rfl, rfl, rfl, trivial⟩
              clear hK K
              try clear hS127 hS128 hS132 hS134
              obtain ⟨a, ha⟩ : ∃ a', a' = a134 := ⟨_, rfl⟩
              rw [← ha] at hS ⊢; clear ha
              refine wp_seq ?_
              refine c_pure [(7, .map (some b108)), (9, .pointer (some ⟨b129, 0, none⟩)), (49, .slice A1 p1.length cap1), (50, .int .i64 (p1.length : Int)), (51, .int .i64 m1_1), (57, .bool (decide (x125 ∈ m1_0)))] (fun R hR => st_val hS rfl rfl rfl (r_move hS rfl rfl) fun a136 hS136 => st_val hS136 rfl rfl rfl (r_loadN (n := 2) (cs := [.int .i64 x125.Consumer, .int .i64 x125.Supplier]) hS136 rfl rfl (by kernel_rfl) rfl (Bx.cells_off h130 0 2)) fun a137 hS137 => st_val hS137 rfl rfl rfl (r_lookup (K := 103) (E := 4) (enc := enc_api_Link) (k := x125) hS137 rfl rfl rfl (by kernel_rfl) (by kernel_rfl) key_api_Link h109) fun a138 hS138 => wpList_nil (hR _ (hS138.re ⟨rfl, rfl, rfl, rfl, rfl, rfl, trivial⟩))) ?_
              clear hS
              clear a
              intro a hS
              refine c_cond hS rfl (fun hb139 => ?_) (fun hb139 => ?_)
              · replace H := ite_t hb139 H
                refine c_pure [(4, .int .i64 7)] (fun R hR => st_val hS rfl rfl rfl (r_assign hS rfl rfl) fun a140 hS140 => wpList_nil (hR _ (hS140.re ⟨rfl, trivial⟩))) ?_
                clear hS
                clear a
                intro a hS
                refine wp_ret ?_
                have e := Option.some.inj H
                subst e
                replace H := Fl.go_out Hl117
                have e := Option.some.inj H
                subst e
                repeat (with_reducible first | refine then_ret ?_ | refine inBlock_ret ?_)
                exact c_ret1 hS Try.results74 rfl ⟨_, rfl, g135, rfl, hF⟩
              · replace H := ite_f hb139 H
                refine wp_skip ?_
                change Code.wp _ _ _ _ _
                refine c_region1 (fun K hK => ?_)
                refine st_val hS rfl rfl rfl (r_move hS rfl rfl) fun a141 hS141 => st_val hS141 rfl rfl rfl (r_loadN (n := 2) (cs := [.int .i64 x125.Consumer, .int .i64 x125.Supplier]) hS141 rfl rfl (by kernel_rfl) rfl (Bx.cells_off h130 0 2)) fun a142 hS142 => ?_
                refine st_effS hS142 rfl rfl (e_mapUpdate (K := 103) (E := 4) (enc := enc_api_Link) (k := x125) g135 hS142 rfl rfl rfl rfl (by kernel_rfl) key_api_Link h109 hb139) ?_
                rintro a143 w144 g144 ⟨h109, F144⟩ hS143
                replace h130 := h130.fr F144 (fun (hm : N + 4 = N + 2) => by omega)
                replace hp1 := RdS.fr hp1 F144 (by decide) (fun q (hq : C1 q) (hm : q = N + 2) => by have := hC1 q hq; omega)
                replace hF := hF.trans F144 (fun c' (hm : c' = N + 2) => by show N ≤ c'; omega)
                refine wpList_nil (hK _ _ ?_)
                replace hS : Sl 61 _ [(7, .map (some b108)), (49, .slice A1 p1.length cap1), (50, .int .i64 (p1.length : Int)), (51, .int .i64 m1_1)] := hS143.re ⟨rfl, rfl, rfl, rfl, trivial⟩
                clear hK K
                try clear hS141 hS142 hS143
                obtain ⟨a, ha⟩ : ∃ a', a' = a143 := ⟨_, rfl⟩
                rw [← ha] at hS ⊢; clear ha
                change Code.wp _ _ _ _ _
                refine c_pure1 [(7, .map (some b108)), (49, .slice A1 p1.length cap1), (50, .int .i64 (p1.length : Int)), (51, .int .i64 (wi (m1_1 + 1)))] (fun R hR => st_val hS rfl rfl rfl (r_bin hS rfl rfl rfl b_add) fun a145 hS145 => st_val hS145 rfl rfl rfl (r_move hS145 rfl rfl) fun a146 hS146 => wpList_nil (hR _ (hS146.re ⟨rfl, rfl, rfl, rfl, trivial⟩))) ?_
                clear hS
                clear a
                intro a hS
                refine ⟨k122, Nat.lt_succ_self _, ?_⟩
                exact ⟨(m1_0 ++ [x125]), wi (m1_1 + 1), g144, H, hS.re ⟨rfl, rfl, rfl, rfl, trivial⟩, h109, hp1, hF⟩
            · replace H := ite_f hb124 H
              refine wp_exit ?_
              have e := Option.some.inj H
              exact ⟨g121, e.symm, hS.re trivial, hF⟩
      · clear H
        clear hp1 h109 hF
        clear hS
        rintro a w114 ⟨g114, hpre0, hS, hF⟩
        subst hpre0
        have H := Fl.go_nxt Hl117
        clear Hl117
        refine c_pure [(4, .int .i64 0)] (fun R hR => st_val hS rfl rfl rfl (r_assign hS rfl rfl) fun a147 hS147 => wpList_nil (hR _ (hS147.re ⟨rfl, trivial⟩))) ?_
        clear hS
        clear a
        intro a hS
        refine wp_ret ?_
        have e := Option.some.inj H
        subst e
        repeat (with_reducible first | refine then_ret ?_ | refine inBlock_ret ?_)
        exact c_ret1 hS Try.results74 rfl ⟨_, rfl, g114, rfl, hF⟩


end Go.Proofs.Ytfhhklkmbcnhnaa.Sim

namespace Go.Proofs.Ytfhhklkmbcnhnaa.Sim
open Go
set_option linter.unusedVariables false
set_option linter.unusedSimpArgs false

/-! ### depgraph_Check: function 62 -/
def depgraph_Check.f (p0 : Int) (p1 : List api_Link) : Option (Int) := (depgraph_validate.f p0 p1).bind fun r4 => if (r4 != 0) = true then (some r4) else ((depgraph_sort.f p0 p1).bind fun r16 => if decide ((r16.length : Int) < p0) = true then (some 18) else (some 0))
set_option maxRecDepth 100000 in
set_option maxHeartbeats 4000000 in
theorem depgraph_Check.calls {p0 : Int} {p1 : List api_Link} {A1 : Option Addr} {cap1 : Nat} {C1 : Nat → Prop} {w : World} {g : Nat → Nat} {out : Int} (N : Nat) (hp1 : RdS kd_api_Link w g C1 A1 cap1 p1) (hC1 : ∀ c, C1 c → c < N) (H : depgraph_Check.f p0 p1 = some out) :
    Calls Try.prog 62 #[.int .i64 p0, .slice A1 p1.length cap1] w (fun e w' => ∃ v, e = .returned v ∧ ∃ (g' : Nat → Nat), v = .int .i64 out ∧ Fr (fun q => N ≤ q) w g w' g') := by
  unfold depgraph_Check.f at H
  refine calls_enter Try.func62 rfl Try.ntmps62 rfl (fun a hS => ?_)
  replace hS : Sl 18 a [(0, .int .i64 p0), (1, .slice A1 p1.length cap1)] := hS
  have hF : Fr (fun q => N ≤ q) w g w g := Fr.refl _ _ _
  refine c_pure [(0, .int .i64 p0), (1, .slice A1 p1.length cap1)] (fun R hR => st_val hS rfl rfl rfl (r_assign hS rfl rfl) fun a1 hS1 => wpList_nil (hR _ (hS1.re ⟨rfl, rfl, trivial⟩))) ?_
  clear hS
  clear a
  intro a hS
  refine wp_seq ?_
  obtain ⟨r4, hr5, H⟩ := bind_el H
  refine c_region (fun K hK => ?_)
  refine st_val hS rfl rfl rfl (r_move hS rfl rfl) fun a2 hS2 => st_val hS2 rfl rfl rfl (r_move hS2 rfl rfl) fun a3 hS3 => ?_
  refine st_enter hS3 rfl rfl rfl (r_call hS3 rfl rfl (by kernel_rfl)) (depgraph_validate.calls (C1 := C1) (p0 := p0) (p1 := p1) (g := g) (N + 2)  hp1 (fun q (hq : C1 q) => by have := hC1 q hq; omega) hr5) ?_
  rintro _ a6 w7 ⟨g7, rfl, F7⟩ hS6
  replace hp1 := RdS.fr hp1 F7 (by decide) (fun q (hq : C1 q) (hm : N + 2 ≤ q) => by have := hC1 q hq; omega)
  replace hF := hF.trans F7 (fun c' (hm : N + 2 ≤ c') => by show N ≤ c'; omega)
  refine st_val hS6 rfl rfl rfl (r_assign hS6 rfl rfl) fun a8 hS8 => wpList_nil (hK _ _ ?_)
  replace hS : Sl 18 _ [(0, .int .i64 p0), (1, .slice A1 p1.length cap1), (5, .int .i64 r4)] := hS8.re ⟨rfl, rfl, rfl, trivial⟩
  clear hK K
  try clear hS2 hS3 hS6 hS8
  obtain ⟨a, ha⟩ : ∃ a', a' = a8 := ⟨_, rfl⟩
  rw [← ha] at hS ⊢; clear ha
  refine c_pure [(0, .int .i64 p0), (1, .slice A1 p1.length cap1), (5, .int .i64 r4), (10, .bool (r4 != 0))] (fun R hR => st_val hS rfl rfl rfl (r_move hS rfl rfl) fun a9 hS9 => st_val hS9 rfl rfl rfl (r_bin hS9 rfl rfl rfl b_neq) fun a10 hS10 => wpList_nil (hR _ (hS10.re ⟨rfl, rfl, rfl, rfl, trivial⟩))) ?_
  clear hS
  clear a
  intro a hS
  refine c_cond hS rfl (fun hb11 => ?_) (fun hb11 => ?_)
  · replace H := ite_t hb11 H
    refine c_pure [(4, .int .i64 r4)] (fun R hR => st_val hS rfl rfl rfl (r_move hS rfl rfl) fun a12 hS12 => st_val hS12 rfl rfl rfl (r_assign hS12 rfl rfl) fun a13 hS13 => wpList_nil (hR _ (hS13.re ⟨rfl, trivial⟩))) ?_
    clear hS
    clear a
    intro a hS
    refine wp_ret ?_
    have e := Option.some.inj H
    subst e
    repeat (with_reducible first | refine then_ret ?_ | refine inBlock_ret ?_)
    exact c_ret1 hS Try.results62 rfl ⟨_, rfl, g7, rfl, hF⟩
  · replace H := ite_f hb11 H
    refine wp_skip ?_
    change Code.wp _ _ _ _ _
    refine wp_seq ?_
    obtain ⟨r16, hr17, H⟩ := bind_el H
    refine c_region (fun K hK => ?_)
    refine st_val hS rfl rfl rfl (r_move hS rfl rfl) fun a14 hS14 => st_val hS14 rfl rfl rfl (r_move hS14 rfl rfl) fun a15 hS15 => ?_
    refine st_enter hS15 rfl rfl rfl (r_call hS15 rfl rfl (by kernel_rfl)) (depgraph_sort.calls (C1 := C1) (p0 := p0) (p1 := p1) (g := g7) (N + 2) (N + 0) hp1 (fun q (hq : C1 q) => by have := hC1 q hq; omega) (by omega) hr17) ?_
    rintro _ a22 w23 ⟨g23, A18, cap19, rfl, h20, F23⟩ hS22
    replace hp1 := RdS.fr hp1 F23 (by decide) (fun q (hq : C1 q) (hm : (N + 0 ≤ q ∧ q < N + 0 + 2) ∨ N + 2 ≤ q) => by have := hC1 q hq; omega)
    replace hF := hF.trans F23 (fun c' (hm : (N + 0 ≤ c' ∧ c' < N + 0 + 2) ∨ N + 2 ≤ c') => by show N ≤ c'; omega)
    refine st_val hS22 rfl rfl rfl (r_len (e := 3) (sz := 1) (by_ := 8) hS22 rfl rfl (by kernel_rfl)) fun a24 hS24 => st_val hS24 rfl rfl rfl (r_move hS24 rfl rfl) fun a25 hS25 => st_val hS25 rfl rfl rfl (r_bin hS25 rfl rfl rfl b_lss) fun a26 hS26 => wpList_nil (hK _ _ ?_)
    replace hS : Sl 18 _ [(17, .bool (decide ((r16.length : Int) < p0)))] := hS26.re ⟨rfl, trivial⟩
    clear hK K
    try clear hS14 hS15 hS22 hS24 hS25 hS26
    obtain ⟨a, ha⟩ : ∃ a', a' = a26 := ⟨_, rfl⟩
    rw [← ha] at hS ⊢; clear ha
    refine c_cond hS rfl (fun hb27 => ?_) (fun hb27 => ?_)
    · replace H := ite_t hb27 H
      refine c_pure [(4, .int .i64 18)] (fun R hR => st_val hS rfl rfl rfl (r_assign hS rfl rfl) fun a28 hS28 => wpList_nil (hR _ (hS28.re ⟨rfl, trivial⟩))) ?_
      clear hS
      clear a
      intro a hS
      refine wp_ret ?_
      have e := Option.some.inj H
      subst e
      repeat (with_reducible first | refine then_ret ?_ | refine inBlock_ret ?_)
      exact c_ret1 hS Try.results62 rfl ⟨_, rfl, g23, rfl, hF⟩
    · replace H := ite_f hb27 H
      refine wp_skip ?_
      change Code.wp _ _ _ _ _
      refine c_pure [(4, .int .i64 0)] (fun R hR => st_val hS rfl rfl rfl (r_assign hS rfl rfl) fun a29 hS29 => wpList_nil (hR _ (hS29.re ⟨rfl, trivial⟩))) ?_
      clear hS
      clear a
      intro a hS
      refine wp_ret ?_
      have e := Option.some.inj H
      subst e
      repeat (with_reducible first | refine then_ret ?_ | refine inBlock_ret ?_)
      exact c_ret1 hS Try.results62 rfl ⟨_, rfl, g23, rfl, hF⟩


end Go.Proofs.Ytfhhklkmbcnhnaa.Sim

namespace Go.Proofs.Ytfhhklkmbcnhnaa.Sim
open Go
set_option linter.unusedVariables false
set_option linter.unusedSimpArgs false

/-! ### rails_New: function 49 -/
def rails_New.l0 (p0 : List api_Rail) : Nat → rails_Rails → (List api_Link) → Int → Option (Fl ((Option rails_Rails) × Int) (rails_Rails × (List api_Link)))
  | 0, _, _, _ => none
  | k37 + 1, m0_0, m0_1, m0_2 => if decide (m0_2 < (p0.length : Int)) = true then ((idx p0 m0_2).bind fun x41 => if ((((decide (x41.Supply < (-1))) || (decide ((p0.length : Int) ≤ x41.Supply))) || (decide (1048576 < x41.RampUp))) || (decide (1048576 < x41.RampDown))) = true then (some (.out ((none : Option rails_Rails), 1))) else ((if decide (0 ≤ x41.Supply) = true then ((app m0_1 [(api_Link.mk m0_2 x41.Supply)]).bind fun y128 => some y128) else (some m0_1) : Option ((List api_Link))).bind fun v111 => (app m0_0.list [(rails_rail.mk x41 0 0)]).bind fun y140 => rails_New.l0 p0 k37 (rails_Rails.mk y140 m0_0.now) v111 (wi (m0_2 + 1)))) else (some (.nxt (m0_0, m0_1)))
def rails_New.f (p0 : List api_Rail) : Option ((Option rails_Rails) × Int) := if decide (64 < (p0.length : Int)) = true then (some ((none : Option rails_Rails), 1)) else ((rails_New.l0 p0 FUEL (rails_Rails.mk ([] : List rails_rail) 0) [] 0 : Option (Fl ((Option rails_Rails) × Int) (rails_Rails × (List api_Link)))).bind fun o25 => o25.go fun v24 => (depgraph_Check.f (p0.length : Int) v24.2).bind fun r174 => if (r174 != 0) = true then (some ((none : Option rails_Rails), r174)) else (some ((some v24.1), 0)))
set_option maxRecDepth 100000 in
set_option maxHeartbeats 4000000 in
theorem rails_New.calls {p0 : List api_Rail} {A0 : Option Addr} {cap0 : Nat} {C0 : Nat → Prop} {w : World} {g : Nat → Nat} {out : (Option rails_Rails) × Int} (N : Nat) (r0 : Nat) (hp0 : RdS kd_api_Rail w g C0 A0 cap0 p0) (hC0 : ∀ c, C0 c → c < N) (hr0 : r0 + 3 ≤ N) (H : rails_New.f p0 = some out) :
    Calls Try.prog 49 #[.slice A0 p0.length cap0] w (fun e w' => ∃ v, e = .returned v ∧ ∃ (g' : Nat → Nat) (p_r0 : Option Addr), v = .tuple #[.pointer p_r0, .int .i64 out.2] ∧ rails_Rails_Opt w' g' r0 p_r0 out.1 ∧ Fr (fun q => (r0 ≤ q ∧ q < r0 + 3) ∨ N ≤ q) w g w' g') := by
  unfold rails_New.f at H
  refine calls_enter Try.func49 rfl Try.ntmps49 rfl (fun a hS => ?_)
  replace hS : Sl 71 a [(0, .slice A0 p0.length cap0)] := hS
  have hF : Fr (fun q => (r0 ≤ q ∧ q < r0 + 3) ∨ N ≤ q) w g w g := Fr.refl _ _ _
  refine c_pure [(0, .slice A0 p0.length cap0)] (fun R hR => st_val hS rfl rfl rfl (r_assign hS rfl rfl) fun a1 hS1 => st_val hS1 rfl rfl rfl (r_assign hS1 rfl rfl) fun a2 hS2 => wpList_nil (hR _ (hS2.re ⟨rfl, trivial⟩))) ?_
  clear hS
  clear a
  intro a hS
  refine wp_seq ?_
  refine c_pure [(0, .slice A0 p0.length cap0), (11, .bool (decide (64 < (p0.length : Int))))] (fun R hR => st_val hS rfl rfl rfl (r_move hS rfl rfl) fun a3 hS3 => st_val hS3 rfl rfl rfl (r_len (e := 64) (sz := 3) (by_ := 24) hS3 rfl rfl (by kernel_rfl)) fun a4 hS4 => st_val hS4 rfl rfl rfl (r_bin hS4 rfl rfl rfl b_gtr) fun a5 hS5 => wpList_nil (hR _ (hS5.re ⟨rfl, rfl, trivial⟩))) ?_
  clear hS
  clear a
  intro a hS
  refine c_cond hS rfl (fun hb6 => ?_) (fun hb6 => ?_)
  · replace H := ite_t hb6 H
    refine c_pure [(2, .pointer none), (3, .int .i64 1)] (fun R hR => st_val hS rfl rfl rfl (r_assign hS rfl rfl) fun a7 hS7 => st_val hS7 rfl rfl rfl (r_assign hS7 rfl rfl) fun a8 hS8 => wpList_nil (hR _ (hS8.re ⟨rfl, rfl, trivial⟩))) ?_
    clear hS
    clear a
    intro a hS
    refine wp_ret ?_
    have e := Option.some.inj H
    subst e
    repeat (with_reducible first | refine then_ret ?_ | refine inBlock_ret ?_)
    exact c_ret2 hS Try.results49 rfl rfl ⟨_, rfl, g, none, rfl, rfl, hF⟩
  · replace H := ite_f hb6 H
    refine wp_skip ?_
    change Code.wp _ _ _ _ _
    refine c_region (fun K hK => ?_)
    refine st_val hS rfl rfl rfl (r_build (parts := []) (u := .agg #[.slice none 0 0, .int .u64 0]) hS rfl rfl (fun _ => by kernel_rfl)) fun a9 hS9 => ?_
    refine st_eff hS9 rfl rfl rfl (e_box (cs := [.slice none 0 0, .int .u64 0]) (N + 0) g hS9 rfl rfl rfl) ?_
    rintro _ a13 w14 g14 ⟨⟨b10, rfl, h11⟩, F14⟩ hS13
    replace hp0 := RdS.fr hp0 F14 (by decide) (fun _ _ h => h)
    replace hF := hF.trans F14 (fun _ h => h.elim)
    refine st_val hS13 rfl rfl rfl (r_assign hS13 rfl rfl) fun a15 hS15 => wpList_nil (hK _ _ ?_)
    replace hS : Sl 71 _ [(0, .slice A0 p0.length cap0), (4, .pointer (some ⟨b10, 0, none⟩))] := hS15.re ⟨rfl, rfl, trivial⟩
    clear hK K
    try clear hS9 hS13 hS15
    obtain ⟨a, ha⟩ : ∃ a', a' = a15 := ⟨_, rfl⟩
    rw [← ha] at hS ⊢; clear ha
    refine c_pure [(0, .slice A0 p0.length cap0), (4, .pointer (some ⟨b10, 0, none⟩)), (5, .slice none 0 0)] (fun R hR => st_val hS rfl rfl rfl (r_assign hS rfl rfl) fun a16 hS16 => wpList_nil (hR _ (hS16.re ⟨rfl, rfl, rfl, trivial⟩))) ?_
    clear hS
    clear a
    intro a hS
    obtain ⟨o25, H, Hl26⟩ := bind_el H
    refine c_cut (fun a w17 => ∃ (v24 : rails_Rails × (List api_Link)), ∃ (g17 : Nat → Nat), ∃ (A18 : Option Addr), ∃ (cap19 : Nat), ∃ (A21 : Option Addr), ∃ (cap22 : Nat), o25 = .nxt v24 ∧ Sl 71 a [(0, .slice A0 p0.length cap0), (4, .pointer (some ⟨b10, 0, none⟩)), (5, .slice A21 v24.2.length cap22)] ∧ Bx w17 g17 (N + 0) b10 100 [.slice A18 v24.1.list.length cap19, .int .u64 v24.1.now] ∧ OwS kd_rails_rail 105 w17 g17 (N + 11) A18 cap19 v24.1.list ∧ OwS kd_api_Link 103 w17 g17 (N + 7) A21 cap22 v24.2 ∧ RdS kd_api_Rail w17 g17 C0 A0 cap0 p0 ∧ Fr (fun q => (r0 ≤ q ∧ q < r0 + 3) ∨ N ≤ q) w g w17 g17) ?_ ?_
    · refine c_pure [(0, .slice A0 p0.length cap0), (4, .pointer (some ⟨b10, 0, none⟩)), (5, .slice none 0 0), (14, .slice A0 p0.length cap0), (15, .int .i64 (p0.length : Int)), (16, .int .i64 0)] (fun R hR => st_val hS rfl rfl rfl (r_move hS rfl rfl) fun a27 hS27 => st_val hS27 rfl rfl rfl (r_len (e := 64) (sz := 3) (by_ := 24) hS27 rfl rfl (by kernel_rfl)) fun a28 hS28 => st_val hS28 rfl rfl rfl (r_move hS28 rfl rfl) fun a29 hS29 => wpList_nil (hR _ (hS29.re ⟨rfl, rfl, rfl, rfl, rfl, rfl, trivial⟩))) ?_
      clear hS
      clear a
      intro a hS
      refine wp_block ?_
      refine wp_loop_ghost (fun kq => fun a w30 => ∃ (m0_0 : rails_Rails), ∃ (m0_1 : List api_Link), ∃ (m0_2 : Int), ∃ (g30 : Nat → Nat), ∃ (A31 : Option Addr), ∃ (cap32 : Nat), ∃ (A34 : Option Addr), ∃ (cap35 : Nat), rails_New.l0 p0 kq m0_0 m0_1 m0_2 = some o25 ∧ Sl 71 a [(0, .slice A0 p0.length cap0), (4, .pointer (some ⟨b10, 0, none⟩)), (5, .slice A34 m0_1.length cap35), (14, .slice A0 p0.length cap0), (15, .int .i64 (p0.length : Int)), (16, .int .i64 m0_2)] ∧ Bx w30 g30 (N + 0) b10 100 [.slice A31 m0_0.list.length cap32, .int .u64 m0_0.now] ∧ OwS kd_rails_rail 105 w30 g30 (N + 11) A31 cap32 m0_0.list ∧ OwS kd_api_Link 103 w30 g30 (N + 7) A34 cap35 m0_1 ∧ RdS kd_api_Rail w30 g30 C0 A0 cap0 p0 ∧ Fr (fun q => (r0 ≤ q ∧ q < r0 + 3) ∨ N ≤ q) w g w30 g30) FUEL ?_ ?_
      · exact ⟨(rails_Rails.mk ([] : List rails_rail) 0), [], 0, g14, none, 0, none, 0, H, hS.re ⟨rfl, rfl, rfl, rfl, rfl, rfl, trivial⟩, h11, OwS.nil kd_rails_rail 105 w14 g14 (N + 11), OwS.nil kd_api_Link 103 w14 g14 (N + 7), hp0, hF⟩
      · clear H
        clear hp0 h11 hF
        clear hS
        rintro k37 a w30 ⟨m0_0, m0_1, m0_2, g30, A31, cap32, A34, cap35, hpre0, hS, h11, h33, h36, hp0, hF⟩
        have H := hpre0
        clear hpre0
        cases k37 with
        | zero => exact absurd H (by simp [rails_New.l0])
        | succ k37 =>
          rw [rails_New.l0] at H
          refine c_pure [(0, .slice A0 p0.length cap0), (4, .pointer (some ⟨b10, 0, none⟩)), (5, .slice A34 m0_1.length cap35), (14, .slice A0 p0.length cap0), (15, .int .i64 (p0.length : Int)), (16, .int .i64 m0_2), (17, .bool (decide (m0_2 < (p0.length : Int))))] (fun R hR => st_val hS rfl rfl rfl (r_bin hS rfl rfl rfl b_lss) fun a38 hS38 => wpList_nil (hR _ (hS38.re ⟨rfl, rfl, rfl, rfl, rfl, rfl, rfl, trivial⟩))) ?_
          clear hS
          clear a
          intro a hS
          refine c_if hS rfl (fun hb39 => ?_) (fun hb39 => ?_)
          · replace H := ite_t hb39 H
            refine wp_skip ?_
            change Code.wp _ _ _ _ _
            refine wp_seq ?_
            refine wp_block ?_
            obtain ⟨x41, hx42, H⟩ := bind_el H
            refine c_region (fun K hK => ?_)
            refine st_val hS rfl rfl rfl (r_move hS rfl rfl) fun a40 hS40 => st_val hS40 rfl rfl rfl (r_index (e := 64) (sz := 3) (by_ := 24) hS40 rfl rfl rfl (by kernel_rfl) (RdS.some_ hp0 hx42) (idx_lo hx42) (idx_hi hx42)) fun a43 hS43 => st_val hS43 rfl rfl rfl (r_loadN (n := 3) (cs := [.int .i64 x41.Supply, .int .u64 x41.RampUp, .int .u64 x41.RampDown]) hS43 rfl rfl (by kernel_rfl) rfl (RdS.cells_off hp0 hx42 0 3)) fun a44 hS44 => ?_
            refine st_eff hS44 rfl rfl rfl (e_alloc (cs := [.int .i64 0, .int .u64 0, .int .u64 0]) (N + 3) g30 hS44 rfl (by kernel_rfl)) ?_
            rintro _ a48 w49 g49 ⟨⟨b45, rfl, h46⟩, F49⟩ hS48
            replace h11 := h11.fr F49 (fun h => h)
            replace h33 := OwS.fr h33 F49 (fun _ _ h => h)
            replace h36 := OwS.fr h36 F49 (fun _ _ h => h)
            replace hp0 := RdS.fr hp0 F49 (by decide) (fun _ _ h => h)
            replace hF := hF.trans F49 (fun _ h => h.elim)
            refine st_val hS48 rfl rfl rfl (r_assign hS48 rfl rfl) fun a50 hS50 => ?_
            refine st_effS hS50 rfl rfl (e_storeB (n := 3) (bb := true) (cs' := [.int .i64 x41.Supply, .int .u64 x41.RampUp, .int .u64 x41.RampDown]) g49 hS50 rfl rfl rfl (by kernel_rfl) rfl rfl rfl h46 rfl rfl) ?_
            rintro a51 w52 g52 ⟨h46, F52⟩ hS51
            replace h11 := h11.fr F52 (fun (hm : N + 0 = N + 3) => by omega)
            replace h33 := OwS.fr h33 F52 (fun c' hc (hm : c' = N + 3) => by omega)
            replace h36 := OwS.fr h36 F52 (fun c' hc (hm : c' = N + 3) => by omega)
            replace hp0 := RdS.fr hp0 F52 (by decide) (fun q (hq : C0 q) (hm : q = N + 3) => by have := hC0 q hq; omega)
            replace hF := hF.trans F52 (fun c' (hm : c' = N + 3) => by show (r0 ≤ c' ∧ c' < r0 + 3) ∨ N ≤ c'; omega)
            refine wpList_nil (hK _ _ ?_)
            replace hS : Sl 71 _ [(0, .slice A0 p0.length cap0), (4, .pointer (some ⟨b10, 0, none⟩)), (5, .slice A34 m0_1.length cap35), (6, .int .i64 m0_2), (7, .pointer (some ⟨b45, 0, none⟩)), (14, .slice A0 p0.length cap0), (15, .int .i64 (p0.length : Int)), (16, .int .i64 m0_2)] := hS51.re ⟨rfl, rfl, rfl, rfl, rfl, rfl, rfl, rfl, trivial⟩
            clear hK K
            try clear hS40 hS43 hS44 hS48 hS50 hS51
            obtain ⟨a, ha⟩ : ∃ a', a' = a51 := ⟨_, rfl⟩
            rw [← ha] at hS ⊢; clear ha
            refine wp_seq ?_
            refine c_region (fun K hK => ?_)
            refine st_val hS rfl rfl rfl (r_fieldB (off := 0) hS rfl rfl (by kernel_rfl)) fun a53 hS53 => st_val hS53 rfl rfl rfl (r_load1 (n := 1) hS53 rfl rfl (by kernel_rfl) (Bx.cell h46 rfl)) fun a54 hS54 => st_val hS54 rfl rfl rfl (r_bin hS54 rfl rfl rfl b_lss) fun a55 hS55 => st_val hS55 rfl rfl rfl (r_move hS55 rfl rfl) fun a56 hS56 => ?_
            refine g_join (N := 71) 6 [(0, .slice A0 p0.length cap0), (4, .pointer (some ⟨b10, 0, none⟩)), (5, .slice A34 m0_1.length cap35), (6, .int .i64 m0_2), (7, .pointer (some ⟨b45, 0, none⟩)), (14, .slice A0 p0.length cap0), (15, .int .i64 (p0.length : Int)), (16, .int .i64 m0_2), (30, .bool ((decide (x41.Supply < (-1))) || (decide ((p0.length : Int) ≤ x41.Supply))))] ?_ (fun hk => ?_)
            rotate_left
            · rcases Bool.eq_false_or_eq_true (decide (x41.Supply < (-1))) with hb57 | hb57
              · refine st_off hS56 (want_off hS56 rfl rfl rfl hb57) rfl rfl fun a63 hS63 => st_off hS63 (want_off hS63 rfl rfl rfl hb57) rfl rfl fun a64 hS64 => st_off hS64 (want_off hS64 rfl rfl rfl hb57) rfl rfl fun a65 hS65 => st_off hS65 (want_off hS65 rfl rfl rfl hb57) rfl rfl fun a66 hS66 => st_off hS66 (want_off hS66 rfl rfl rfl hb57) rfl rfl fun a67 hS67 => st_val hS67 rfl rfl rfl (r_pickT hS67 rfl rfl rfl hb57) fun a68 hS68 => hk _ (hS68.re ⟨rfl, rfl, rfl, rfl, rfl, rfl, rfl, rfl, (by rw [hb57]; rfl), trivial⟩)
              · refine st_valW hS56 (want_on hS56 rfl rfl rfl hb57) rfl rfl (r_fieldB (off := 0) hS56 rfl rfl (by kernel_rfl)) fun a69 hS69 => st_valW hS69 (want_on hS69 rfl rfl rfl hb57) rfl rfl (r_load1 (n := 1) hS69 rfl rfl (by kernel_rfl) (Bx.cell h46 rfl)) fun a70 hS70 => st_valW hS70 (want_on hS70 rfl rfl rfl hb57) rfl rfl (r_move hS70 rfl rfl) fun a71 hS71 => st_valW hS71 (want_on hS71 rfl rfl rfl hb57) rfl rfl (r_len (e := 64) (sz := 3) (by_ := 24) hS71 rfl rfl (by kernel_rfl)) fun a72 hS72 => st_valW hS72 (want_on hS72 rfl rfl rfl hb57) rfl rfl (r_bin hS72 rfl rfl rfl b_geq) fun a73 hS73 => st_val hS73 rfl rfl rfl (r_pickF hS73 rfl rfl rfl hb57) fun a74 hS74 => hk _ (hS74.re ⟨rfl, rfl, rfl, rfl, rfl, rfl, rfl, rfl, (by rw [hb57]; rfl), trivial⟩)
            intro a75 hS75
            refine st_val hS75 rfl rfl rfl (r_move hS75 rfl rfl) fun a76 hS76 => ?_
            refine g_join (N := 71) 4 [(0, .slice A0 p0.length cap0), (4, .pointer (some ⟨b10, 0, none⟩)), (5, .slice A34 m0_1.length cap35), (6, .int .i64 m0_2), (7, .pointer (some ⟨b45, 0, none⟩)), (14, .slice A0 p0.length cap0), (15, .int .i64 (p0.length : Int)), (16, .int .i64 m0_2), (35, .bool (((decide (x41.Supply < (-1))) || (decide ((p0.length : Int) ≤ x41.Supply))) || (decide (1048576 < x41.RampUp))))] ?_ (fun hk => ?_)
            rotate_left
            · rcases Bool.eq_false_or_eq_true (((decide (x41.Supply < (-1))) || (decide ((p0.length : Int) ≤ x41.Supply)))) with hb77 | hb77
              · refine st_off hS76 (want_off hS76 rfl rfl rfl hb77) rfl rfl fun a81 hS81 => st_off hS81 (want_off hS81 rfl rfl rfl hb77) rfl rfl fun a82 hS82 => st_off hS82 (want_off hS82 rfl rfl rfl hb77) rfl rfl fun a83 hS83 => st_val hS83 rfl rfl rfl (r_pickT hS83 rfl rfl rfl hb77) fun a84 hS84 => hk _ (hS84.re ⟨rfl, rfl, rfl, rfl, rfl, rfl, rfl, rfl, (by rw [hb77]; rfl), trivial⟩)
              · refine st_valW hS76 (want_on hS76 rfl rfl rfl hb77) rfl rfl (r_fieldB (off := 1) hS76 rfl rfl (by kernel_rfl)) fun a85 hS85 => st_valW hS85 (want_on hS85 rfl rfl rfl hb77) rfl rfl (r_load1 (n := 1) hS85 rfl rfl (by kernel_rfl) (Bx.cell h46 rfl)) fun a86 hS86 => st_valW hS86 (want_on hS86 rfl rfl rfl hb77) rfl rfl (r_bin hS86 rfl rfl rfl b_gtr) fun a87 hS87 => st_val hS87 rfl rfl rfl (r_pickF hS87 rfl rfl rfl hb77) fun a88 hS88 => hk _ (hS88.re ⟨rfl, rfl, rfl, rfl, rfl, rfl, rfl, rfl, (by rw [hb77]; rfl), trivial⟩)
            intro a89 hS89
            refine st_val hS89 rfl rfl rfl (r_move hS89 rfl rfl) fun a90 hS90 => ?_
            refine g_join (N := 71) 4 [(0, .slice A0 p0.length cap0), (4, .pointer (some ⟨b10, 0, none⟩)), (5, .slice A34 m0_1.length cap35), (6, .int .i64 m0_2), (7, .pointer (some ⟨b45, 0, none⟩)), (14, .slice A0 p0.length cap0), (15, .int .i64 (p0.length : Int)), (16, .int .i64 m0_2), (40, .bool ((((decide (x41.Supply < (-1))) || (decide ((p0.length : Int) ≤ x41.Supply))) || (decide (1048576 < x41.RampUp))) || (decide (1048576 < x41.RampDown))))] ?_ (fun hk => ?_)
            rotate_left
            · rcases Bool.eq_false_or_eq_true ((((decide (x41.Supply < (-1))) || (decide ((p0.length : Int) ≤ x41.Supply))) || (decide (1048576 < x41.RampUp)))) with hb91 | hb91
              · refine st_off hS90 (want_off hS90 rfl rfl rfl hb91) rfl rfl fun a95 hS95 => st_off hS95 (want_off hS95 rfl rfl rfl hb91) rfl rfl fun a96 hS96 => st_off hS96 (want_off hS96 rfl rfl rfl hb91) rfl rfl fun a97 hS97 => st_val hS97 rfl rfl rfl (r_pickT hS97 rfl rfl rfl hb91) fun a98 hS98 => hk _ (hS98.re ⟨rfl, rfl, rfl, rfl, rfl, rfl, rfl, rfl, (by rw [hb91]; rfl), trivial⟩)
              · refine st_valW hS90 (want_on hS90 rfl rfl rfl hb91) rfl rfl (r_fieldB (off := 2) hS90 rfl rfl (by kernel_rfl)) fun a99 hS99 => st_valW hS99 (want_on hS99 rfl rfl rfl hb91) rfl rfl (r_load1 (n := 1) hS99 rfl rfl (by kernel_rfl) (Bx.cell h46 rfl)) fun a100 hS100 => st_valW hS100 (want_on hS100 rfl rfl rfl hb91) rfl rfl (r_bin hS100 rfl rfl rfl b_gtr) fun a101 hS101 => st_val hS101 rfl rfl rfl (r_pickF hS101 rfl rfl rfl hb91) fun a102 hS102 => hk _ (hS102.re ⟨rfl, rfl, rfl, rfl, rfl, rfl, rfl, rfl, (by rw [hb91]; rfl), trivial⟩)
            intro a103 hS103
            refine wpList_nil (hK _ _ ?_)
            replace hS : Sl 71 _ [(0, .slice A0 p0.length cap0), (4, .pointer (some ⟨b10, 0, none⟩)), (5, .slice A34 m0_1.length cap35), (6, .int .i64 m0_2), (7, .pointer (some ⟨b45, 0, none⟩)), (14, .slice A0 p0.length cap0), (15, .int .i64 (p0.length : Int)), (16, .int .i64 m0_2), (40, .bool ((((decide (x41.Supply < (-1))) || (decide ((p0.length : Int) ≤ x41.Supply))) || (decide (1048576 < x41.RampUp))) || (decide (1048576 < x41.RampDown))))] := hS103.re ⟨rfl, rfl, rfl, rfl, rfl, rfl, rfl, rfl, rfl, trivial⟩
            clear hK K
            try clear hS53 hS54 hS55 hS56 hS75 hS76 hS89 hS90 hS103
            obtain ⟨a, ha⟩ : ∃ a', a' = a103 := ⟨_, rfl⟩
            rw [← ha] at hS ⊢; clear ha
            refine c_cond hS rfl (fun hb104 => ?_) (fun hb104 => ?_)
            · replace H := ite_t hb104 H
              refine c_pure [(2, .pointer none), (3, .int .i64 1)] (fun R hR => st_val hS rfl rfl rfl (r_assign hS rfl rfl) fun a105 hS105 => st_val hS105 rfl rfl rfl (r_assign hS105 rfl rfl) fun a106 hS106 => wpList_nil (hR _ (hS106.re ⟨rfl, rfl, trivial⟩))) ?_
              clear hS
              clear a
              intro a hS
              refine wp_ret ?_
              have e := Option.some.inj H
              subst e
              replace H := Fl.go_out Hl26
              have e := Option.some.inj H
              subst e
              repeat (with_reducible first | refine then_ret ?_ | refine inBlock_ret ?_)
              exact c_ret2 hS Try.results49 rfl rfl ⟨_, rfl, g52, none, rfl, rfl, hF⟩
            · replace H := ite_f hb104 H
              refine wp_skip ?_
              change Code.wp _ _ _ _ _
              obtain ⟨v111, H, Hl113⟩ := bind_el H
              refine c_cut (fun a w107 => ∃ (g107 : Nat → Nat), ∃ (A108 : Option Addr), ∃ (cap109 : Nat), Sl 71 a [(0, .slice A0 p0.length cap0), (4, .pointer (some ⟨b10, 0, none⟩)), (5, .slice A108 v111.length cap109), (7, .pointer (some ⟨b45, 0, none⟩)), (14, .slice A0 p0.length cap0), (15, .int .i64 (p0.length : Int)), (16, .int .i64 m0_2)] ∧ Bx w107 g107 (N + 0) b10 100 [.slice A31 m0_0.list.length cap32, .int .u64 m0_0.now] ∧ Bx w107 g107 (N + 3) b45 64 [.int .i64 x41.Supply, .int .u64 x41.RampUp, .int .u64 x41.RampDown] ∧ OwS kd_rails_rail 105 w107 g107 (N + 11) A31 cap32 m0_0.list ∧ OwS kd_api_Link 103 w107 g107 (N + 7) A108 cap109 v111 ∧ RdS kd_api_Rail w107 g107 C0 A0 cap0 p0 ∧ Fr (fun q => (r0 ≤ q ∧ q < r0 + 3) ∨ N ≤ q) w g w107 g107) ?_ ?_
              · refine c_pure [(0, .slice A0 p0.length cap0), (4, .pointer (some ⟨b10, 0, none⟩)), (5, .slice A34 m0_1.length cap35), (6, .int .i64 m0_2), (7, .pointer (some ⟨b45, 0, none⟩)), (14, .slice A0 p0.length cap0), (15, .int .i64 (p0.length : Int)), (16, .int .i64 m0_2), (43, .bool (decide (0 ≤ x41.Supply)))] (fun R hR => st_val hS rfl rfl rfl (r_fieldB (off := 0) hS rfl rfl (by kernel_rfl)) fun a114 hS114 => st_val hS114 rfl rfl rfl (r_load1 (n := 1) hS114 rfl rfl (by kernel_rfl) (Bx.cell h46 rfl)) fun a115 hS115 => st_val hS115 rfl rfl rfl (r_bin hS115 rfl rfl rfl b_geq) fun a116 hS116 => wpList_nil (hR _ (hS116.re ⟨rfl, rfl, rfl, rfl, rfl, rfl, rfl, rfl, rfl, trivial⟩))) ?_
                clear hS
                clear a
                intro a hS
                refine c_cond hS rfl (fun hb117 => ?_) (fun hb117 => ?_)
                · replace H := ite_t hb117 H
                  obtain ⟨y128, hy129, H⟩ := bind_el H
                  refine c_region1 (fun K hK => ?_)
                  refine st_val hS rfl rfl rfl (r_move hS rfl rfl) fun a118 hS118 => st_val hS118 rfl rfl rfl (r_move hS118 rfl rfl) fun a119 hS119 => st_val hS119 rfl rfl rfl (r_fieldB (off := 0) hS119 rfl rfl (by kernel_rfl)) fun a120 hS120 => st_val hS120 rfl rfl rfl (r_load1 (n := 1) hS120 rfl rfl (by kernel_rfl) (Bx.cell h46 rfl)) fun a121 hS121 => st_val hS121 rfl rfl rfl (r_build (parts := [(0, .int .i64 m0_2), (1, .int .i64 x41.Supply)]) (u := .agg #[.int .i64 m0_2, .int .i64 x41.Supply]) hS121 rfl rfl (fun _ => by kernel_rfl)) fun a122 hS122 => ?_
                  refine st_eff hS122 rfl rfl rfl (e_lit (e := 103) (parts := [(0, .agg #[.int .i64 m0_2, .int .i64 x41.Supply])]) (cs := [.int .i64 m0_2, .int .i64 x41.Supply]) kd_api_Link [(api_Link.mk m0_2 x41.Supply)] (N + 5) g52 hS122 rfl rfl (fun _ => by kernel_rfl) rfl (by decide) (Rows.cons (cs := [.int .i64 m0_2, .int .i64 x41.Supply]) rfl Rows.nil)) ?_
                  rintro _ a126 w127 g127 ⟨⟨A123, rfl, h124⟩, F127⟩ hS126
                  replace h11 := h11.fr F127 (fun h => h)
                  replace h46 := h46.fr F127 (fun h => h)
                  replace h33 := OwS.fr h33 F127 (fun _ _ h => h)
                  replace h36 := OwS.fr h36 F127 (fun _ _ h => h)
                  replace hp0 := RdS.fr hp0 F127 (by decide) (fun _ _ h => h)
                  replace hF := hF.trans F127 (fun _ h => h.elim)
                  refine st_eff hS126 rfl rfl rfl (e_append (e := 103) (sz := 2) (by_ := 16) (z := [.int .i64 0, .int .i64 0]) (kd := kd_api_Link) g127 hS126 rfl rfl rfl rfl (by kernel_rfl) (by kernel_rfl) rfl rfl rfl rfl h36 (OwD.rdx h124) (fun _ _ _ h => h) hy129) ?_
                  rintro _ a134 w135 g135 ⟨⟨A130, cap131, rfl, h132⟩, F135⟩ hS134
                  replace h11 := h11.fr F135 (fun (hm : N + 0 = N + 7) => by omega)
                  replace h124 := OwS.fr h124 F135 (fun c' hc (hm : c' = N + 7) => by omega)
                  replace h46 := h46.fr F135 (fun (hm : N + 3 = N + 7) => by omega)
                  replace h33 := OwS.fr h33 F135 (fun c' hc (hm : c' = N + 7) => by omega)
                  replace hp0 := RdS.fr hp0 F135 (by decide) (fun q (hq : C0 q) (hm : q = N + 7) => by have := hC0 q hq; omega)
                  replace hF := hF.trans F135 (fun c' (hm : c' = N + 7) => by show (r0 ≤ c' ∧ c' < r0 + 3) ∨ N ≤ c'; omega)
                  refine st_val hS134 rfl rfl rfl (r_assign hS134 rfl rfl) fun a136 hS136 => wpList_nil (hK _ _ ?_)
                  replace hS : Sl 71 _ [(0, .slice A0 p0.length cap0), (4, .pointer (some ⟨b10, 0, none⟩)), (5, .slice A130 y128.length cap131), (7, .pointer (some ⟨b45, 0, none⟩)), (14, .slice A0 p0.length cap0), (15, .int .i64 (p0.length : Int)), (16, .int .i64 m0_2)] := hS136.re ⟨rfl, rfl, rfl, rfl, rfl, rfl, rfl, trivial⟩
                  clear hK K
                  try clear hS118 hS119 hS120 hS121 hS122 hS126 hS134 hS136
                  obtain ⟨a, ha⟩ : ∃ a', a' = a136 := ⟨_, rfl⟩
                  rw [← ha] at hS ⊢; clear ha
                  have e := Option.some.inj H
                  subst e
                  exact ⟨g135, A130, cap131, hS.re ⟨rfl, rfl, rfl, rfl, rfl, rfl, rfl, trivial⟩, h11, h46, h33, h132, hp0, hF⟩
                · replace H := ite_f hb117 H
                  refine wp_skip ?_
                  have e := Option.some.inj H
                  subst e
                  exact ⟨g52, A34, cap35, hS.re ⟨rfl, rfl, rfl, rfl, rfl, rfl, rfl, trivial⟩, h11, h46, h33, h36, hp0, hF⟩
              · clear H
                clear hp0 h11 h33 h36 h46 hF
                clear hS
                rintro a w107 ⟨g107, A108, cap109, hS, h11, h46, h33, h110, hp0, hF⟩
                have H := Hl113
                clear Hl113
                obtain ⟨y140, hy141, H⟩ := bind_el H
                refine c_draw1 (fun K hK => d_start (fun q => q = N + 11) g107 [11] 12 #[false, false, false, false, false, false, false, false, false, false, false, false] (by kernel_rfl) rfl rfl (fun w146 hw146 => ?_))
                have F146 : Fr (fun _ => False) w107 g107 w146 g107 := by rw [hw146]; exact Fr.drew _ _ _
                replace h11 := h11.fr F146 (fun h => h)
                replace h46 := h46.fr F146 (fun h => h)
                replace h33 := OwS.fr h33 F146 (fun _ _ h => h)
                replace h110 := OwS.fr h110 F146 (fun _ _ h => h)
                replace hp0 := RdS.fr hp0 F146 (by decide) (fun _ _ h => h)
                replace hF := hF.trans F146 (fun _ h => h.elim)
                have hC : Fr (fun q => q = N + 11) w146 g107 w146 g107 := Fr.refl _ _ _
                refine d_pure hS 0 #[true, false, false, false, false, false, false, false, false, false, false, false] rfl rfl rfl rfl (by kernel_rfl) (fun _ _ _ h => h) (fun _ => (r_move hS rfl rfl)) fun a147 hS147 => d_pure hS147 1 #[true, true, false, false, false, false, false, false, false, false, false, false] rfl rfl rfl rfl (by kernel_rfl) (fun _ _ _ h => h) (fun _ => (r_move hS147 rfl rfl)) fun a148 hS148 => d_pure hS148 2 #[true, true, true, false, false, false, false, false, false, false, false, false] rfl rfl rfl rfl (by kernel_rfl) (fun _ _ _ h => h) (fun _ => (r_nil hS148 rfl rfl)) fun a149 hS149 => d_pure hS149 3 #[true, true, true, true, false, false, false, false, false, false, false, false] rfl rfl rfl rfl (by kernel_rfl) (fun _ _ _ h => h) (fun _ => (r_fieldB (off := 0) hS149 rfl rfl (by kernel_rfl))) fun a150 hS150 => d_take hS150 4 #[true, true, true, true, true, false, false, false, false, false, false, false] rfl rfl rfl rfl (by kernel_rfl) (fun _ _ _ h => h) ⟨_, hC⟩ (fun w' g' Fz => (r_load1 (n := 1) hS150 rfl rfl (by kernel_rfl) (Bx.cell (h11.fr Fz (fun (hm : N + 0 = N + 11) => by omega)) rfl))) fun a151 hS151 => d_take hS151 5 #[true, true, true, true, true, true, false, false, false, false, false, false] rfl rfl rfl rfl (by kernel_rfl) (fun _ _ _ h => h) ⟨_, hC⟩ (fun w' g' Fz => (r_loadN (n := 3) (cs := [.int .i64 x41.Supply, .int .u64 x41.RampUp, .int .u64 x41.RampDown]) hS151 rfl rfl (by kernel_rfl) rfl (Bx.cells_off (h46.fr Fz (fun (hm : N + 3 = N + 11) => by omega)) 0 3))) fun a152 hS152 => d_pure hS152 6 #[true, true, true, true, true, true, true, false, false, false, false, false] rfl rfl rfl rfl (by kernel_rfl) (fun _ _ _ h => h) (fun _ => (r_build (parts := [(0, .agg #[.int .i64 x41.Supply, .int .u64 x41.RampUp, .int .u64 x41.RampDown])]) (u := .agg #[.int .i64 x41.Supply, .int .u64 x41.RampUp, .int .u64 x41.RampDown, .int .i64 0, .int .u64 0]) hS152 rfl rfl (fun _ => by kernel_rfl))) fun a153 hS153 => ?_
                refine d_one 7 #[true, true, true, true, true, true, true, true, false, false, false, false] rfl (by kernel_rfl) (arm_eff hS153 rfl rfl rfl (e_lit (e := 105) (parts := [(0, .agg #[.int .i64 x41.Supply, .int .u64 x41.RampUp, .int .u64 x41.RampDown, .int .i64 0, .int .u64 0])]) (cs := [.int .i64 x41.Supply, .int .u64 x41.RampUp, .int .u64 x41.RampDown, .int .i64 0, .int .u64 0]) kd_rails_rail [(rails_rail.mk x41 0 0)] (N + 9) g107 hS153 rfl rfl (fun _ => by kernel_rfl) rfl (by decide) (Rows.cons (cs := [.int .i64 x41.Supply, .int .u64 x41.RampUp, .int .u64 x41.RampDown, .int .i64 0, .int .u64 0]) rfl Rows.nil)) (fun _ _ g' hR _ => ⟨g', hC.trans hR.2 (fun _ h => h.elim)⟩) ?_)
                rintro _ a157 w158 g158 ⟨⟨A154, rfl, h155⟩, F158⟩ hS157
                have hC158 := hC.trans F158 (fun _ h => h.elim)
                replace h11 := h11.fr F158 (fun h => h)
                replace h46 := h46.fr F158 (fun h => h)
                replace h33 := OwS.fr h33 F158 (fun _ _ h => h)
                replace h110 := OwS.fr h110 F158 (fun _ _ h => h)
                replace hp0 := RdS.fr hp0 F158 (by decide) (fun _ _ h => h)
                replace hF := hF.trans F158 (fun _ h => h.elim)
                refine d_one 8 #[true, true, true, true, true, true, true, true, true, false, false, false] rfl (by kernel_rfl) (arm_eff hS157 rfl rfl rfl (e_append (e := 105) (sz := 5) (by_ := 40) (z := [.int .i64 0, .int .u64 0, .int .u64 0, .int .i64 0, .int .u64 0]) (kd := kd_rails_rail) g158 hS157 rfl rfl rfl rfl (by kernel_rfl) (by kernel_rfl) rfl rfl rfl rfl h33 (OwD.rdx h155) (fun _ _ _ h => h) hy141) (fun _ _ g' hR _ => ⟨g', hC158.trans hR.2 (fun c' (hm : c' = N + 11) => by show c' = N + 11; omega)⟩) ?_)
                rintro _ a163 w164 g164 ⟨⟨A159, cap160, rfl, h161⟩, F164⟩ hS163
                have hC164 := hC158.trans F164 (fun c' (hm : c' = N + 11) => by show c' = N + 11; omega)
                replace h11 := h11.fr F164 (fun (hm : N + 0 = N + 11) => by omega)
                replace h155 := OwS.fr h155 F164 (fun c' hc (hm : c' = N + 11) => by omega)
                replace h46 := h46.fr F164 (fun (hm : N + 3 = N + 11) => by omega)
                replace h110 := OwS.fr h110 F164 (fun c' hc (hm : c' = N + 11) => by omega)
                replace hp0 := RdS.fr hp0 F164 (by decide) (fun q (hq : C0 q) (hm : q = N + 11) => by have := hC0 q hq; omega)
                replace hF := hF.trans F164 (fun c' (hm : c' = N + 11) => by show (r0 ≤ c' ∧ c' < r0 + 3) ∨ N ≤ c'; omega)
                refine d_pure hS163 9 #[true, true, true, true, true, true, true, true, true, true, false, false] rfl rfl rfl rfl (by kernel_rfl) (fun _ _ _ h => h) (fun _ => (r_nil hS163 rfl rfl)) fun a165 hS165 => d_pure hS165 10 #[true, true, true, true, true, true, true, true, true, true, true, false] rfl rfl rfl rfl (by kernel_rfl) (fun _ _ _ h => h) (fun _ => (r_fieldB (off := 0) hS165 rfl rfl (by kernel_rfl))) fun a166 hS166 => ?_
                refine d_one 11 #[true, true, true, true, true, true, true, true, true, true, true, true] rfl (by kernel_rfl) (arm_effS hS166 rfl rfl (e_storeB (n := 1) (bb := false) (cs' := [.slice A159 y140.length cap160, .int .u64 m0_0.now]) g164 hS166 rfl rfl rfl (by kernel_rfl) rfl rfl rfl h11 rfl rfl) (.inl (by decide)) ?_)
                rintro a167 w168 g168 ⟨h11, F168⟩ hS167
                replace h155 := OwS.fr h155 F168 (fun c' hc (hm : c' = N + 0) => by omega)
                replace h161 := OwS.fr h161 F168 (fun c' hc (hm : c' = N + 0) => by omega)
                replace h46 := h46.fr F168 (fun (hm : N + 3 = N + 0) => by omega)
                replace h110 := OwS.fr h110 F168 (fun c' hc (hm : c' = N + 0) => by omega)
                replace hp0 := RdS.fr hp0 F168 (by decide) (fun q (hq : C0 q) (hm : q = N + 0) => by have := hC0 q hq; omega)
                replace hF := hF.trans F168 (fun c' (hm : c' = N + 0) => by show (r0 ≤ c' ∧ c' < r0 + 3) ∨ N ≤ c'; omega)
                refine d_done (by kernel_rfl) (hK _ _ ?_)
                replace hS : Sl 71 _ [(0, .slice A0 p0.length cap0), (4, .pointer (some ⟨b10, 0, none⟩)), (5, .slice A108 v111.length cap109), (14, .slice A0 p0.length cap0), (15, .int .i64 (p0.length : Int)), (16, .int .i64 m0_2)] := hS167.re ⟨rfl, rfl, rfl, rfl, rfl, rfl, trivial⟩
                clear hK K hC
                try clear hS147 hS148 hS149 hS150 hS151 hS152 hS153 hS157 hS163 hS165 hS166 hS167
                obtain ⟨a, ha⟩ : ∃ a', a' = a167 := ⟨_, rfl⟩
                rw [← ha] at hS ⊢; clear ha
                change Code.wp _ _ _ _ _
                refine c_pure1 [(0, .slice A0 p0.length cap0), (4, .pointer (some ⟨b10, 0, none⟩)), (5, .slice A108 v111.length cap109), (14, .slice A0 p0.length cap0), (15, .int .i64 (p0.length : Int)), (16, .int .i64 (wi (m0_2 + 1)))] (fun R hR => st_val hS rfl rfl rfl (r_bin hS rfl rfl rfl b_add) fun a169 hS169 => st_val hS169 rfl rfl rfl (r_move hS169 rfl rfl) fun a170 hS170 => wpList_nil (hR _ (hS170.re ⟨rfl, rfl, rfl, rfl, rfl, rfl, trivial⟩))) ?_
                clear hS
                clear a
                intro a hS
                refine ⟨k37, Nat.lt_succ_self _, ?_⟩
                exact ⟨(rails_Rails.mk y140 m0_0.now), v111, wi (m0_2 + 1), g168, A159, cap160, A108, cap109, H, hS.re ⟨rfl, rfl, rfl, rfl, rfl, rfl, trivial⟩, h11, h161, h110, hp0, hF⟩
          · replace H := ite_f hb39 H
            refine wp_exit ?_
            have e := Option.some.inj H
            exact ⟨(m0_0, m0_1), g30, A31, cap32, A34, cap35, e.symm, hS.re ⟨rfl, rfl, rfl, trivial⟩, h11, h33, h36, hp0, hF⟩
    · clear H
      clear hp0 h11 hF
      clear hS
      rintro a w17 ⟨v24, g17, A18, cap19, A21, cap22, hpre0, hS, h11, h20, h23, hp0, hF⟩
      subst hpre0
      have H := Fl.go_nxt Hl26
      clear Hl26
      refine wp_seq ?_
      obtain ⟨r174, hr175, H⟩ := bind_el H
      refine c_region (fun K hK => ?_)
      refine st_val hS rfl rfl rfl (r_move hS rfl rfl) fun a171 hS171 => st_val hS171 rfl rfl rfl (r_len (e := 64) (sz := 3) (by_ := 24) hS171 rfl rfl (by kernel_rfl)) fun a172 hS172 => st_val hS172 rfl rfl rfl (r_move hS172 rfl rfl) fun a173 hS173 => ?_
      refine st_enter hS173 rfl rfl rfl (r_call hS173 rfl rfl (by kernel_rfl)) (depgraph_Check.calls (C1 := (fun q => q = N + 7)) (p0 := (p0.length : Int)) (p1 := v24.2) (g := g17) (N + 13)  (OwD.rdf (fun _ _ _ _ _ _ h => h) h23) (fun q (hq : q = N + 7) => by omega) hr175) ?_
      rintro _ a176 w177 ⟨g177, rfl, F177⟩ hS176
      replace h11 := h11.fr F177 (fun (hm : N + 13 ≤ N + 0) => by omega)
      replace h20 := OwS.fr h20 F177 (fun c' hc (hm : N + 13 ≤ c') => by omega)
      replace h23 := OwS.fr h23 F177 (fun c' hc (hm : N + 13 ≤ c') => by omega)
      replace hp0 := RdS.fr hp0 F177 (by decide) (fun q (hq : C0 q) (hm : N + 13 ≤ q) => by have := hC0 q hq; omega)
      replace hF := hF.trans F177 (fun c' (hm : N + 13 ≤ c') => by show (r0 ≤ c' ∧ c' < r0 + 3) ∨ N ≤ c'; omega)
      refine st_val hS176 rfl rfl rfl (r_assign hS176 rfl rfl) fun a178 hS178 => wpList_nil (hK _ _ ?_)
      replace hS : Sl 71 _ [(4, .pointer (some ⟨b10, 0, none⟩)), (8, .int .i64 r174)] := hS178.re ⟨rfl, rfl, trivial⟩
      clear hK K
      try clear hS171 hS172 hS173 hS176 hS178
      obtain ⟨a, ha⟩ : ∃ a', a' = a178 := ⟨_, rfl⟩
      rw [← ha] at hS ⊢; clear ha
      refine c_pure [(4, .pointer (some ⟨b10, 0, none⟩)), (8, .int .i64 r174), (68, .bool (r174 != 0))] (fun R hR => st_val hS rfl rfl rfl (r_move hS rfl rfl) fun a179 hS179 => st_val hS179 rfl rfl rfl (r_bin hS179 rfl rfl rfl b_neq) fun a180 hS180 => wpList_nil (hR _ (hS180.re ⟨rfl, rfl, rfl, trivial⟩))) ?_
      clear hS
      clear a
      intro a hS
      refine c_cond hS rfl (fun hb181 => ?_) (fun hb181 => ?_)
      · replace H := ite_t hb181 H
        refine c_pure [(2, .pointer none), (3, .int .i64 r174)] (fun R hR => st_val hS rfl rfl rfl (r_move hS rfl rfl) fun a182 hS182 => st_val hS182 rfl rfl rfl (r_assign hS182 rfl rfl) fun a183 hS183 => st_val hS183 rfl rfl rfl (r_assign hS183 rfl rfl) fun a184 hS184 => wpList_nil (hR _ (hS184.re ⟨rfl, rfl, trivial⟩))) ?_
        clear hS
        clear a
        intro a hS
        refine wp_ret ?_
        have e := Option.some.inj H
        subst e
        repeat (with_reducible first | refine then_ret ?_ | refine inBlock_ret ?_)
        exact c_ret2 hS Try.results49 rfl rfl ⟨_, rfl, g177, none, rfl, rfl, hF⟩
      · replace H := ite_f hb181 H
        refine wp_skip ?_
        change Code.wp _ _ _ _ _
        refine c_pure [(2, .pointer (some ⟨b10, 0, none⟩)), (3, .int .i64 0)] (fun R hR => st_val hS rfl rfl rfl (r_move hS rfl rfl) fun a185 hS185 => st_val hS185 rfl rfl rfl (r_assign hS185 rfl rfl) fun a186 hS186 => st_val hS186 rfl rfl rfl (r_assign hS186 rfl rfl) fun a187 hS187 => wpList_nil (hR _ (hS187.re ⟨rfl, rfl, trivial⟩))) ?_
        clear hS
        clear a
        intro a hS
        refine wp_ret ?_
        have e := Option.some.inj H
        subst e
        have F188 : Fr (fun q => q = N + 0) w177 g177 w177 (recol g177 (N + 0) r0) := Fr.recol w177 g177 (N + 0) r0 rfl
        replace h11 := Bx.recol h11 r0
        replace h20 := OwS.fr h20 F188 (fun c' hc (hm : c' = N + 0) => by omega)
        replace hF := hF.trans F188 (fun c' (hm : c' = N + 0) => by show (r0 ≤ c' ∧ c' < r0 + 3) ∨ N ≤ c'; omega)
        have F189 := Fr.recol2 w177 (recol g177 (N + 0) r0) (N + 11) (r0 + 1)
        replace h20 := h20.recol2 (r0 + 1)
        replace h11 := h11.fr F189 (fun (hm : r0 = N + 11 ∨ r0 = N + 11 + 1) => by omega)
        replace hF := hF.trans F189 (fun c' (hm : c' = N + 11 ∨ c' = N + 11 + 1) => by show (r0 ≤ c' ∧ c' < r0 + 3) ∨ N ≤ c'; omega)
        repeat (with_reducible first | refine then_ret ?_ | refine inBlock_ret ?_)
        exact c_ret2 hS Try.results49 rfl rfl ⟨_, rfl, (recol2 (recol g177 (N + 0) r0) (N + 11) (r0 + 1)), (some ⟨b10, 0, none⟩), rfl, ⟨b10, A18, cap19, rfl, h11, h20⟩, hF⟩


end Go.Proofs.Ytfhhklkmbcnhnaa.Sim

namespace Go.Proofs.Ytfhhklkmbcnhnaa.Sim
open Go
set_option linter.unusedVariables false
set_option linter.unusedSimpArgs false

/-! ### slices_Clone_int_int: function 50 -/
def slices_Clone_int_int.f (p0 : List Int) : Option ((List Int)) := (app ([] : List Int) p0).bind fun y13 => some y13
set_option maxRecDepth 100000 in
set_option maxHeartbeats 4000000 in
theorem slices_Clone_int_int.calls {p0 : List Int} {A0 : Option Addr} {cap0 : Nat} {C0 : Nat → Prop} {w : World} {g : Nat → Nat} {out : (List Int)} (N : Nat) (r0 : Nat) (hp0 : RdS (kint .i64) w g C0 A0 cap0 p0) (hC0 : ∀ c, C0 c → c < N) (hr0 : r0 + 2 ≤ N) (H : slices_Clone_int_int.f p0 = some out) :
    Calls Try.prog 50 #[.slice A0 p0.length cap0] w (fun e w' => ∃ v, e = .returned v ∧ ∃ (g' : Nat → Nat) (A_r0 : Option Addr) (cap_r0 : Nat), v = .slice A_r0 out.length cap_r0 ∧ OwS (kint .i64) 3 w' g' r0 A_r0 cap_r0 out ∧ Fr (fun q => (r0 ≤ q ∧ q < r0 + 2) ∨ N ≤ q) w g w' g') := by
  unfold slices_Clone_int_int.f at H
  refine calls_enter Try.func50 rfl Try.ntmps50 rfl (fun a hS => ?_)
  replace hS : Sl 8 a [(0, .slice A0 p0.length cap0)] := hS
  have hF : Fr (fun q => (r0 ≤ q ∧ q < r0 + 2) ∨ N ≤ q) w g w g := Fr.refl _ _ _
  refine c_pure [(0, .slice A0 p0.length cap0)] (fun R hR => st_val hS rfl rfl rfl (r_assign hS rfl rfl) fun a1 hS1 => wpList_nil (hR _ (hS1.re ⟨rfl, trivial⟩))) ?_
  clear hS
  clear a
  intro a hS
  refine wp_seq ?_
  refine c_pure [(0, .slice A0 p0.length cap0), (4, .bool A0.isNone)] (fun R hR => st_val hS rfl rfl rfl (r_move hS rfl rfl) fun a2 hS2 => st_val hS2 rfl rfl rfl (r_slNil (E := 3) hS2 rfl rfl (by kernel_rfl)) fun a3 hS3 => wpList_nil (hR _ (hS3.re ⟨rfl, rfl, trivial⟩))) ?_
  clear hS
  clear a
  intro a hS
  refine c_cond hS rfl (fun hb4 => ?_) (fun hb4 => ?_)
  · have hn5 := RdS.none_ hp0 hb4
    subst hn5
    replace H : some [] = some out := by first | exact H | simpa [app] using H
    refine c_pure [(2, .slice none 0 0)] (fun R hR => st_val hS rfl rfl rfl (r_assign hS rfl rfl) fun a6 hS6 => wpList_nil (hR _ (hS6.re ⟨rfl, trivial⟩))) ?_
    clear hS
    clear a
    intro a hS
    refine wp_ret ?_
    have e := Option.some.inj H
    subst e
    repeat (with_reducible first | refine then_ret ?_ | refine inBlock_ret ?_)
    exact c_ret1 hS Try.results50 rfl ⟨_, rfl, g, none, 0, rfl, OwS.nil (kint .i64) 3 w g r0, hF⟩
  · refine wp_skip ?_
    change Code.wp _ _ _ _ _
    obtain ⟨y13, hy14, H⟩ := bind_el H
    refine c_region (fun K hK => ?_)
    refine st_eff hS rfl rfl rfl (e_lit (e := 3) (parts := []) (cs := []) (kint .i64) ([] : List Int) (N + 0) g hS rfl rfl (fun _ => by kernel_rfl) rfl (by decide) Rows.nil) ?_
    rintro _ a10 w11 g11 ⟨⟨A7, rfl, h8⟩, F11⟩ hS10
    replace hp0 := RdS.fr hp0 F11 (by decide) (fun _ _ h => h)
    replace hF := hF.trans F11 (fun _ h => h.elim)
    refine st_val hS10 rfl rfl rfl (r_move hS10 rfl rfl) fun a12 hS12 => ?_
    refine st_eff hS12 rfl rfl rfl (e_append (e := 3) (sz := 1) (by_ := 8) (z := [.int .i64 0]) (kd := (kint .i64)) g11 hS12 rfl rfl rfl rfl (by kernel_rfl) (by kernel_rfl) rfl rfl rfl rfl h8 hp0 (fun _ _ _ h => h) hy14) ?_
    rintro _ a19 w20 g20 ⟨⟨A15, cap16, rfl, h17⟩, F20⟩ hS19
    replace hp0 := RdS.fr hp0 F20 (by decide) (fun q (hq : C0 q) (hm : q = N + 0) => by have := hC0 q hq; omega)
    replace hF := hF.trans F20 (fun c' (hm : c' = N + 0) => by show (r0 ≤ c' ∧ c' < r0 + 2) ∨ N ≤ c'; omega)
    refine st_val hS19 rfl rfl rfl (r_assign hS19 rfl rfl) fun a21 hS21 => wpList_nil (hK _ _ ?_)
    replace hS : Sl 8 _ [(2, .slice A15 y13.length cap16)] := hS21.re ⟨rfl, trivial⟩
    clear hK K
    try clear hS10 hS12 hS19 hS21
    obtain ⟨a, ha⟩ : ∃ a', a' = a21 := ⟨_, rfl⟩
    rw [← ha] at hS ⊢; clear ha
    refine wp_ret ?_
    have e := Option.some.inj H
    subst e
    have F22 := Fr.recol2 w20 g20 (N + 0) r0
    replace h17 := h17.recol2 r0
    replace hF := hF.trans F22 (fun c' (hm : c' = N + 0 ∨ c' = N + 0 + 1) => by show (r0 ≤ c' ∧ c' < r0 + 2) ∨ N ≤ c'; omega)
    repeat (with_reducible first | refine then_ret ?_ | refine inBlock_ret ?_)
    exact c_ret1 hS Try.results50 rfl ⟨_, rfl, (recol2 g20 (N + 0) r0), A15, cap16, rfl, h17, hF⟩


end Go.Proofs.Ytfhhklkmbcnhnaa.Sim
