/-
  Printed by a program of this session (wip/tools): plain functions with the same answers as the Go functions, and the proofs of it.
-/
import Derived.Test.YtfhhklkmbcnhnaaProg
import Derived.Test.YtfhhklkmbcnhnaaR1
namespace Go.Proofs.Ytfhhklkmbcnhnaa.Sim
open Go
set_option linter.unusedVariables false
set_option linter.unusedSimpArgs false

/-! ### device_valid: function 39 -/
def device_valid.l0 (p0 : api_PowerDevice) (p2 : Int) : Nat → Int → Option (Fl (Bool) (Unit))
  | 0, _ => none
  | k15 + 1, m0_0 => if decide (m0_0 < 4) = true then ((idx (Ar4.l p0.Rails) m0_0).bind fun x18 => (device_ascending.f x18).bind fun r29 => (if (!r29) = true then some true else (if decide (0 < (x18.length : Int)) = true then (idx x18 0).bind fun x42 => (if decide (x42 < 0) = true then some true else (idx x18 (wi ((x18.length : Int) - 1))).bind fun x53 => some (decide (p2 ≤ x53))).bind fun t59 => some t59 else some false).bind fun t84 => some t84).bind fun t148 => if t148 = true then (some (.out false)) else (device_valid.l0 p0 p2 k15 (wi (m0_0 + 1)))) else (some (.nxt ()))
def device_valid.l1 (p0 : api_PowerDevice) : Nat → Int → Option (Fl (Bool) (Unit))
  | 0, _ => none
  | k298 + 1, m1_0 => if decide (m1_0 < 6) = true then ((idx (Ar6.l p0.Deepest) m1_0).bind fun x302 => (device_isState.f x302).bind fun r310 => (if (!r310) = true then some true else (if decide (0 < m1_0) = true then (idx (Ar6.l p0.Deepest) (wi (m1_0 - 1))).bind fun x325 => some (decide (x302 < x325)) else some false).bind fun t332 => some t332).bind fun t357 => if t357 = true then (some (.out false)) else (device_valid.l1 p0 k298 (wi (m1_0 + 1)))) else (some (.nxt ()))
def device_valid.f (p0 : api_PowerDevice) (p1 : Int) (p2 : Int) : Option (Bool) := (device_valid.l0 p0 p2 FUEL 0 : Option (Fl (Bool) (Unit))).bind fun o9 => o9.go fun _ => (device_valid.l1 p0 FUEL 0 : Option (Fl (Bool) (Unit))).bind fun o292 => o292.go fun _ => some (((((((decide ((-1) ≤ p0.Parent)) && (decide (p0.Parent < p1))) && (p0.Deepest.a0 == 0)) && (decide (0 ≤ p0.WakeSystem))) && (decide (p0.WakeSystem ≤ 4))) && (decide (0 ≤ p0.WakeDevice))) && (decide (p0.WakeDevice ≤ 3)))
set_option maxRecDepth 100000 in
set_option maxHeartbeats 4000000 in
theorem device_valid.calls {p0 : api_PowerDevice} {C0 : Nat → Prop} {A0_0 : Option Addr} {cap0_0 : Nat} {A0_1 : Option Addr} {cap0_1 : Nat} {A0_2 : Option Addr} {cap0_2 : Nat} {A0_3 : Option Addr} {cap0_3 : Nat} {p1 : Int} {p2 : Int} {w : World} {g : Nat → Nat} {out : Bool} (N : Nat) (hp0_0 : RdS (kint .i64) w g C0 A0_0 cap0_0 p0.Rails.a0) (hp0_1 : RdS (kint .i64) w g C0 A0_1 cap0_1 p0.Rails.a1) (hp0_2 : RdS (kint .i64) w g C0 A0_2 cap0_2 p0.Rails.a2) (hp0_3 : RdS (kint .i64) w g C0 A0_3 cap0_3 p0.Rails.a3) (hC0 : ∀ c, C0 c → c < N) (H : device_valid.f p0 p1 p2 = some out) :
    Calls Try.prog 39 #[.agg #[.int .i64 p0.Parent, .slice A0_0 p0.Rails.a0.length cap0_0, .slice A0_1 p0.Rails.a1.length cap0_1, .slice A0_2 p0.Rails.a2.length cap0_2, .slice A0_3 p0.Rails.a3.length cap0_3, .int .i64 p0.Deepest.a0, .int .i64 p0.Deepest.a1, .int .i64 p0.Deepest.a2, .int .i64 p0.Deepest.a3, .int .i64 p0.Deepest.a4, .int .i64 p0.Deepest.a5, .int .i64 p0.WakeDevice, .int .i64 p0.WakeSystem], .int .i64 p1, .int .i64 p2] w (fun e w' => ∃ v, e = .returned v ∧ ∃ (g' : Nat → Nat), v = .bool out ∧ Fr (fun q => N ≤ q) w g w' g') := by
  unfold device_valid.f at H
  refine calls_enter Try.func39 rfl Try.ntmps39 rfl (fun a hS => ?_)
  replace hS : Sl 99 a [(0, .agg #[.int .i64 p0.Parent, .slice A0_0 p0.Rails.a0.length cap0_0, .slice A0_1 p0.Rails.a1.length cap0_1, .slice A0_2 p0.Rails.a2.length cap0_2, .slice A0_3 p0.Rails.a3.length cap0_3, .int .i64 p0.Deepest.a0, .int .i64 p0.Deepest.a1, .int .i64 p0.Deepest.a2, .int .i64 p0.Deepest.a3, .int .i64 p0.Deepest.a4, .int .i64 p0.Deepest.a5, .int .i64 p0.WakeDevice, .int .i64 p0.WakeSystem]), (1, .int .i64 p1), (2, .int .i64 p2)] := hS
  have hF : Fr (fun q => N ≤ q) w g w g := Fr.refl _ _ _
  refine c_region (fun K hK => ?_)
  refine st_eff hS rfl rfl rfl (e_box (cs := [.int .i64 p0.Parent, .slice A0_0 p0.Rails.a0.length cap0_0, .slice A0_1 p0.Rails.a1.length cap0_1, .slice A0_2 p0.Rails.a2.length cap0_2, .slice A0_3 p0.Rails.a3.length cap0_3, .int .i64 p0.Deepest.a0, .int .i64 p0.Deepest.a1, .int .i64 p0.Deepest.a2, .int .i64 p0.Deepest.a3, .int .i64 p0.Deepest.a4, .int .i64 p0.Deepest.a5, .int .i64 p0.WakeDevice, .int .i64 p0.WakeSystem]) (N + 0) g hS rfl rfl rfl) ?_
  rintro _ a4 w5 g5 ⟨⟨b1, rfl, h2⟩, F5⟩ hS4
  replace hp0_0 := RdS.fr hp0_0 F5 (by decide) (fun _ _ h => h)
  replace hp0_1 := RdS.fr hp0_1 F5 (by decide) (fun _ _ h => h)
  replace hp0_2 := RdS.fr hp0_2 F5 (by decide) (fun _ _ h => h)
  replace hp0_3 := RdS.fr hp0_3 F5 (by decide) (fun _ _ h => h)
  replace hF := hF.trans F5 (fun _ h => h.elim)
  refine st_val hS4 rfl rfl rfl (r_assign hS4 rfl rfl) fun a6 hS6 => wpList_nil (hK _ _ ?_)
  replace hS : Sl 99 _ [(1, .int .i64 p1), (2, .int .i64 p2), (3, .pointer (some ⟨b1, 0, none⟩))] := hS6.re ⟨rfl, rfl, rfl, trivial⟩
  clear hK K
  try clear hS4 hS6
  obtain ⟨a, ha⟩ : ∃ a', a' = a6 := ⟨_, rfl⟩
  rw [← ha] at hS ⊢; clear ha
  obtain ⟨o9, H, Hl10⟩ := bind_el H
  refine c_cut (fun a w7 => ∃ (g7 : Nat → Nat), o9 = .nxt () ∧ Sl 99 a [(1, .int .i64 p1), (3, .pointer (some ⟨b1, 0, none⟩))] ∧ Bx w7 g7 (N + 0) b1 33 [.int .i64 p0.Parent, .slice A0_0 p0.Rails.a0.length cap0_0, .slice A0_1 p0.Rails.a1.length cap0_1, .slice A0_2 p0.Rails.a2.length cap0_2, .slice A0_3 p0.Rails.a3.length cap0_3, .int .i64 p0.Deepest.a0, .int .i64 p0.Deepest.a1, .int .i64 p0.Deepest.a2, .int .i64 p0.Deepest.a3, .int .i64 p0.Deepest.a4, .int .i64 p0.Deepest.a5, .int .i64 p0.WakeDevice, .int .i64 p0.WakeSystem] ∧ RdS (kint .i64) w7 g7 C0 A0_0 cap0_0 p0.Rails.a0 ∧ RdS (kint .i64) w7 g7 C0 A0_1 cap0_1 p0.Rails.a1 ∧ RdS (kint .i64) w7 g7 C0 A0_2 cap0_2 p0.Rails.a2 ∧ RdS (kint .i64) w7 g7 C0 A0_3 cap0_3 p0.Rails.a3 ∧ Fr (fun q => N ≤ q) w g w7 g7) ?_ ?_
  · refine c_pure [(1, .int .i64 p1), (2, .int .i64 p2), (3, .pointer (some ⟨b1, 0, none⟩)), (12, .agg #[.slice A0_0 p0.Rails.a0.length cap0_0, .slice A0_1 p0.Rails.a1.length cap0_1, .slice A0_2 p0.Rails.a2.length cap0_2, .slice A0_3 p0.Rails.a3.length cap0_3]), (13, .int .i64 0)] (fun R hR => st_val hS rfl rfl rfl (r_fieldB (off := 1) hS rfl rfl (by kernel_rfl)) fun a11 hS11 => st_val hS11 rfl rfl rfl (r_loadN (n := 4) (cs := [.slice A0_0 p0.Rails.a0.length cap0_0, .slice A0_1 p0.Rails.a1.length cap0_1, .slice A0_2 p0.Rails.a2.length cap0_2, .slice A0_3 p0.Rails.a3.length cap0_3]) hS11 rfl rfl (by kernel_rfl) rfl (Bx.cells_off h2 1 4)) fun a12 hS12 => st_val hS12 rfl rfl rfl (r_move hS12 rfl rfl) fun a13 hS13 => wpList_nil (hR _ (hS13.re ⟨rfl, rfl, rfl, rfl, rfl, trivial⟩))) ?_
    clear hS
    clear a
    intro a hS
    refine wp_block ?_
    refine wp_loop_ghost (fun kq => fun a w14 => ∃ (m0_0 : Int), ∃ (g14 : Nat → Nat), device_valid.l0 p0 p2 kq m0_0 = some o9 ∧ Sl 99 a [(1, .int .i64 p1), (2, .int .i64 p2), (3, .pointer (some ⟨b1, 0, none⟩)), (12, .agg #[.slice A0_0 p0.Rails.a0.length cap0_0, .slice A0_1 p0.Rails.a1.length cap0_1, .slice A0_2 p0.Rails.a2.length cap0_2, .slice A0_3 p0.Rails.a3.length cap0_3]), (13, .int .i64 m0_0)] ∧ Bx w14 g14 (N + 0) b1 33 [.int .i64 p0.Parent, .slice A0_0 p0.Rails.a0.length cap0_0, .slice A0_1 p0.Rails.a1.length cap0_1, .slice A0_2 p0.Rails.a2.length cap0_2, .slice A0_3 p0.Rails.a3.length cap0_3, .int .i64 p0.Deepest.a0, .int .i64 p0.Deepest.a1, .int .i64 p0.Deepest.a2, .int .i64 p0.Deepest.a3, .int .i64 p0.Deepest.a4, .int .i64 p0.Deepest.a5, .int .i64 p0.WakeDevice, .int .i64 p0.WakeSystem] ∧ RdS (kint .i64) w14 g14 C0 A0_0 cap0_0 p0.Rails.a0 ∧ RdS (kint .i64) w14 g14 C0 A0_1 cap0_1 p0.Rails.a1 ∧ RdS (kint .i64) w14 g14 C0 A0_2 cap0_2 p0.Rails.a2 ∧ RdS (kint .i64) w14 g14 C0 A0_3 cap0_3 p0.Rails.a3 ∧ Fr (fun q => N ≤ q) w g w14 g14) FUEL ?_ ?_
    · exact ⟨0, g5, H, hS.re ⟨rfl, rfl, rfl, rfl, rfl, trivial⟩, h2, hp0_0, hp0_1, hp0_2, hp0_3, hF⟩
    · clear H
      clear hp0_0 hp0_1 hp0_2 hp0_3 h2 hF
      clear hS
      rintro k15 a w14 ⟨m0_0, g14, hpre0, hS, h2, hp0_0, hp0_1, hp0_2, hp0_3, hF⟩
      have H := hpre0
      clear hpre0
      cases k15 with
      | zero => exact absurd H (by simp [device_valid.l0])
      | succ k15 =>
        rw [device_valid.l0] at H
        refine c_pure [(1, .int .i64 p1), (2, .int .i64 p2), (3, .pointer (some ⟨b1, 0, none⟩)), (12, .agg #[.slice A0_0 p0.Rails.a0.length cap0_0, .slice A0_1 p0.Rails.a1.length cap0_1, .slice A0_2 p0.Rails.a2.length cap0_2, .slice A0_3 p0.Rails.a3.length cap0_3]), (13, .int .i64 m0_0), (14, .bool (decide (m0_0 < 4)))] (fun R hR => st_val hS rfl rfl rfl (r_bin hS rfl rfl rfl b_lss) fun a16 hS16 => wpList_nil (hR _ (hS16.re ⟨rfl, rfl, rfl, rfl, rfl, rfl, trivial⟩))) ?_
        clear hS
        clear a
        intro a hS
        refine c_if hS rfl (fun hb17 => ?_) (fun hb17 => ?_)
        · replace H := ite_t hb17 H
          refine wp_skip ?_
          change Code.wp _ _ _ _ _
          refine wp_seq ?_
          refine wp_block ?_
          obtain ⟨x18, hx19, H⟩ := bind_el H
          refine c_region (fun K hK => ?_)
          obtain ⟨A21, cap22, he20, h23⟩ : ∃ (A21 : Option Addr) (cap22 : Nat), (([.slice A0_0 p0.Rails.a0.length cap0_0, .slice A0_1 p0.Rails.a1.length cap0_1, .slice A0_2 p0.Rails.a2.length cap0_2, .slice A0_3 p0.Rails.a3.length cap0_3] : List Value).drop (m0_0.toNat * 1)).take 1 = [.slice A21 x18.length cap22] ∧ RdS (kint .i64) w14 g14 C0 A21 cap22 x18 := by
            rcases Ar4.cases hx19 with ⟨e, e2⟩ | ⟨e, e2⟩ | ⟨e, e2⟩ | ⟨e, e2⟩
            · subst e2; exact ⟨A0_0, cap0_0, (by rw [e] <;> rfl), hp0_0⟩
            · subst e2; exact ⟨A0_1, cap0_1, (by rw [e] <;> rfl), hp0_1⟩
            · subst e2; exact ⟨A0_2, cap0_2, (by rw [e] <;> rfl), hp0_2⟩
            · subst e2; exact ⟨A0_3, cap0_3, (by rw [e] <;> rfl), hp0_3⟩
          refine st_val hS rfl rfl rfl (r_at1 (cs := [.slice A0_0 p0.Rails.a0.length cap0_0, .slice A0_1 p0.Rails.a1.length cap0_1, .slice A0_2 p0.Rails.a2.length cap0_2, .slice A0_3 p0.Rails.a3.length cap0_3]) (v := .slice A21 x18.length cap22) (n := 4) (e := 29) (sz := 1) hS rfl rfl rfl (by kernel_rfl) (idx_lo hx19) (Ar4.lt hx19) he20) fun a26 hS26 => st_val hS26 rfl rfl rfl (r_assign hS26 rfl rfl) fun a27 hS27 => wpList_nil (hK _ _ ?_)
          replace hS : Sl 99 _ [(1, .int .i64 p1), (2, .int .i64 p2), (3, .pointer (some ⟨b1, 0, none⟩)), (8, .slice A21 x18.length cap22), (12, .agg #[.slice A0_0 p0.Rails.a0.length cap0_0, .slice A0_1 p0.Rails.a1.length cap0_1, .slice A0_2 p0.Rails.a2.length cap0_2, .slice A0_3 p0.Rails.a3.length cap0_3]), (13, .int .i64 m0_0)] := hS27.re ⟨rfl, rfl, rfl, rfl, rfl, rfl, trivial⟩
          clear hK K
          try clear hS26 hS27
          obtain ⟨a, ha⟩ : ∃ a', a' = a27 := ⟨_, rfl⟩
          rw [← ha] at hS ⊢; clear ha
          obtain ⟨r29, hr30, H⟩ := bind_el H
          obtain ⟨t148, ht149, H⟩ := bind_el H
          refine c_region (fun K hK => ?_)
          refine st_val hS rfl rfl rfl (r_move hS rfl rfl) fun a28 hS28 => ?_
          refine st_enter hS28 rfl rfl rfl (r_call hS28 rfl rfl (by kernel_rfl)) (device_ascending.calls (C0 := C0) (p0 := x18) (g := g14) (N + 2)  h23 (fun q (hq : C0 q) => by have := hC0 q hq; omega) hr30) ?_
          rintro _ a31 w32 ⟨g32, rfl, F32⟩ hS31
          replace h23 := RdS.fr h23 F32 (by decide) (fun q (hq : C0 q) (hm : N + 2 ≤ q) => by have := hC0 q hq; omega)
          replace h2 := h2.fr F32 (fun (hm : N + 2 ≤ N + 0) => by omega)
          replace hp0_0 := RdS.fr hp0_0 F32 (by decide) (fun q (hq : C0 q) (hm : N + 2 ≤ q) => by have := hC0 q hq; omega)
          replace hp0_1 := RdS.fr hp0_1 F32 (by decide) (fun q (hq : C0 q) (hm : N + 2 ≤ q) => by have := hC0 q hq; omega)
          replace hp0_2 := RdS.fr hp0_2 F32 (by decide) (fun q (hq : C0 q) (hm : N + 2 ≤ q) => by have := hC0 q hq; omega)
          replace hp0_3 := RdS.fr hp0_3 F32 (by decide) (fun q (hq : C0 q) (hm : N + 2 ≤ q) => by have := hC0 q hq; omega)
          replace hF := hF.trans F32 (fun c' (hm : N + 2 ≤ c') => by show N ≤ c'; omega)
          refine st_val hS31 rfl rfl rfl (r_not hS31 rfl rfl) fun a33 hS33 => st_val hS33 rfl rfl rfl (r_move hS33 rfl rfl) fun a34 hS34 => ?_
          refine g_join (N := 99) 20 [(1, .int .i64 p1), (2, .int .i64 p2), (3, .pointer (some ⟨b1, 0, none⟩)), (12, .agg #[.slice A0_0 p0.Rails.a0.length cap0_0, .slice A0_1 p0.Rails.a1.length cap0_1, .slice A0_2 p0.Rails.a2.length cap0_2, .slice A0_3 p0.Rails.a3.length cap0_3]), (13, .int .i64 m0_0), (39, .bool t148)] ?_ (fun hk => ?_)
          rotate_left
          · rcases Bool.eq_false_or_eq_true ((!r29)) with hb35 | hb35
            · have H := ite_t hb35 ht149
              have e150 := Option.some.inj H
              refine st_off hS34 (want_off hS34 rfl rfl rfl hb35) rfl rfl fun a151 hS151 => st_off hS151 (want_off hS151 rfl rfl rfl hb35) rfl rfl fun a152 hS152 => st_off hS152 (want_off hS152 rfl rfl rfl hb35) rfl rfl fun a153 hS153 => st_off hS153 (want_off hS153 rfl rfl rfl hb35) rfl rfl fun a154 hS154 => st_off hS154 (want_un hS154 rfl rfl rfl) rfl rfl fun a155 hS155 => st_off hS155 (want_un hS155 rfl rfl rfl) rfl rfl fun a156 hS156 => st_off hS156 (want_un hS156 rfl rfl rfl) rfl rfl fun a157 hS157 => st_off hS157 (want_un hS157 rfl rfl rfl) rfl rfl fun a158 hS158 => st_off hS158 (want_un hS158 rfl rfl rfl) rfl rfl fun a159 hS159 => st_off hS159 (want_un hS159 rfl rfl rfl) rfl rfl fun a160 hS160 => st_off hS160 (want_un hS160 rfl rfl rfl) rfl rfl fun a161 hS161 => st_off hS161 (want_un hS161 rfl rfl rfl) rfl rfl fun a162 hS162 => st_off hS162 (want_un hS162 rfl rfl rfl) rfl rfl fun a163 hS163 => st_off hS163 (want_un hS163 rfl rfl rfl) rfl rfl fun a164 hS164 => st_off hS164 (want_un hS164 rfl rfl rfl) rfl rfl fun a165 hS165 => st_off hS165 (want_un hS165 rfl rfl rfl) rfl rfl fun a166 hS166 => st_off hS166 (want_un hS166 rfl rfl rfl) rfl rfl fun a167 hS167 => st_off hS167 (want_un hS167 rfl rfl rfl) rfl rfl fun a168 hS168 => st_off hS168 (want_off hS168 rfl rfl rfl hb35) rfl rfl fun a169 hS169 => st_val hS169 rfl rfl rfl (r_pickT hS169 rfl rfl rfl hb35) fun a170 hS170 => hk _ (hS170.re ⟨rfl, rfl, rfl, rfl, rfl, (by rw [← e150]; rfl), trivial⟩)
            · have H := ite_f hb35 ht149
              obtain ⟨t219, ht220, H⟩ := bind_el H
              have e283 := Option.some.inj H
              refine st_valW hS34 (want_on hS34 rfl rfl rfl hb35) rfl rfl (r_move hS34 rfl rfl) fun a171 hS171 => st_valW hS171 (want_on hS171 rfl rfl rfl hb35) rfl rfl (r_len (e := 3) (sz := 1) (by_ := 8) hS171 rfl rfl (by kernel_rfl)) fun a172 hS172 => st_valW hS172 (want_on hS172 rfl rfl rfl hb35) rfl rfl (r_bin hS172 rfl rfl rfl b_gtr) fun a173 hS173 => st_valW hS173 (want_on hS173 rfl rfl rfl hb35) rfl rfl (r_move hS173 rfl rfl) fun a174 hS174 => ?_
              refine g_join (N := 99) 15 [(1, .int .i64 p1), (2, .int .i64 p2), (3, .pointer (some ⟨b1, 0, none⟩)), (12, .agg #[.slice A0_0 p0.Rails.a0.length cap0_0, .slice A0_1 p0.Rails.a1.length cap0_1, .slice A0_2 p0.Rails.a2.length cap0_2, .slice A0_3 p0.Rails.a3.length cap0_3]), (13, .int .i64 m0_0), (19, .bool (!r29)), (20, .slice A21 x18.length cap22), (21, .int .i64 (x18.length : Int)), (22, .bool (decide (0 < (x18.length : Int)))), (23, .bool (decide (0 < (x18.length : Int)))), (38, .bool t219)] ?_ (fun hk => ?_)
              rotate_left
              · rcases Bool.eq_false_or_eq_true (decide (0 < (x18.length : Int))) with hb175 | hb175
                · have H := ite_t hb175 ht220
                  obtain ⟨x222, hx223, H⟩ := bind_el H
                  obtain ⟨t239, ht240, H⟩ := bind_el H
                  have e264 := Option.some.inj H
                  refine st_valW hS174 (want_on hS174 rfl rfl rfl hb175) rfl rfl (r_move hS174 rfl rfl) fun a221 hS221 => st_valW hS221 (want_on hS221 rfl rfl rfl hb175) rfl rfl (r_index (e := 3) (sz := 1) (by_ := 8) hS221 rfl rfl rfl (by kernel_rfl) (RdS.some_ h23 hx223) (idx_lo hx223) (idx_hi hx223)) fun a224 hS224 => st_valW hS224 (want_on hS224 rfl rfl rfl hb175) rfl rfl (r_load1 (n := 1) hS224 rfl rfl (by kernel_rfl) (RdS.cell (i := 0) (sz := 1) (j := 0) h23 hx223 rfl)) fun a225 hS225 => st_valW hS225 (want_on hS225 rfl rfl rfl hb175) rfl rfl (r_bin hS225 rfl rfl rfl b_lss) fun a226 hS226 => st_valW hS226 (want_on hS226 rfl rfl rfl hb175) rfl rfl (r_move hS226 rfl rfl) fun a227 hS227 => ?_
                  refine g_join (N := 99) 9 [(1, .int .i64 p1), (2, .int .i64 p2), (3, .pointer (some ⟨b1, 0, none⟩)), (12, .agg #[.slice A0_0 p0.Rails.a0.length cap0_0, .slice A0_1 p0.Rails.a1.length cap0_1, .slice A0_2 p0.Rails.a2.length cap0_2, .slice A0_3 p0.Rails.a3.length cap0_3]), (13, .int .i64 m0_0), (19, .bool (!r29)), (20, .slice A21 x18.length cap22), (21, .int .i64 (x18.length : Int)), (22, .bool (decide (0 < (x18.length : Int)))), (23, .bool (decide (0 < (x18.length : Int)))), (24, .slice A21 x18.length cap22), (25, .pointer (some (ea A21 ((0 : Int).toNat * 1)))), (26, .int .i64 x222), (27, .bool (decide (x222 < 0))), (28, .bool (decide (x222 < 0))), (37, .bool t239)] ?_ (fun hk => ?_)
                  rotate_left
                  · rcases Bool.eq_false_or_eq_true (decide (x222 < 0)) with hb228 | hb228
                    · have H := ite_t hb228 ht240
                      have e241 := Option.some.inj H
                      refine st_off hS227 (want_off hS227 rfl rfl rfl hb228) rfl rfl fun a242 hS242 => st_off hS242 (want_off hS242 rfl rfl rfl hb228) rfl rfl fun a243 hS243 => st_off hS243 (want_off hS243 rfl rfl rfl hb228) rfl rfl fun a244 hS244 => st_off hS244 (want_off hS244 rfl rfl rfl hb228) rfl rfl fun a245 hS245 => st_off hS245 (want_off hS245 rfl rfl rfl hb228) rfl rfl fun a246 hS246 => st_off hS246 (want_off hS246 rfl rfl rfl hb228) rfl rfl fun a247 hS247 => st_off hS247 (want_off hS247 rfl rfl rfl hb228) rfl rfl fun a248 hS248 => st_off hS248 (want_off hS248 rfl rfl rfl hb228) rfl rfl fun a249 hS249 => st_valW hS249 (want_on hS249 rfl rfl rfl hb175) rfl rfl (r_pickT hS249 rfl rfl rfl hb228) fun a250 hS250 => hk _ (hS250.re ⟨rfl, rfl, rfl, rfl, rfl, rfl, rfl, rfl, rfl, rfl, rfl, rfl, rfl, rfl, rfl, (by rw [← e241]; rfl), trivial⟩)
                    · have H := ite_f hb228 ht240
                      obtain ⟨x255, hx256, H⟩ := bind_el H
                      have e261 := Option.some.inj H
                      refine st_valW hS227 (want_on hS227 rfl rfl rfl hb228) rfl rfl (r_move hS227 rfl rfl) fun a251 hS251 => st_valW hS251 (want_on hS251 rfl rfl rfl hb228) rfl rfl (r_move hS251 rfl rfl) fun a252 hS252 => st_valW hS252 (want_on hS252 rfl rfl rfl hb228) rfl rfl (r_len (e := 3) (sz := 1) (by_ := 8) hS252 rfl rfl (by kernel_rfl)) fun a253 hS253 => st_valW hS253 (want_on hS253 rfl rfl rfl hb228) rfl rfl (r_bin hS253 rfl rfl rfl b_sub) fun a254 hS254 => st_valW hS254 (want_on hS254 rfl rfl rfl hb228) rfl rfl (r_index (e := 3) (sz := 1) (by_ := 8) hS254 rfl rfl rfl (by kernel_rfl) (RdS.some_ h23 hx256) (idx_lo hx256) (idx_hi hx256)) fun a257 hS257 => st_valW hS257 (want_on hS257 rfl rfl rfl hb228) rfl rfl (r_load1 (n := 1) hS257 rfl rfl (by kernel_rfl) (RdS.cell (i := wi ((x18.length : Int) - 1)) (sz := 1) (j := 0) h23 hx256 rfl)) fun a258 hS258 => st_valW hS258 (want_on hS258 rfl rfl rfl hb228) rfl rfl (r_move hS258 rfl rfl) fun a259 hS259 => st_valW hS259 (want_on hS259 rfl rfl rfl hb228) rfl rfl (r_bin hS259 rfl rfl rfl b_geq) fun a260 hS260 => st_valW hS260 (want_on hS260 rfl rfl rfl hb175) rfl rfl (r_pickF hS260 rfl rfl rfl hb228) fun a262 hS262 => hk _ (hS262.re ⟨rfl, rfl, rfl, rfl, rfl, rfl, rfl, rfl, rfl, rfl, rfl, rfl, rfl, rfl, rfl, (by rw [← e261]; rfl), trivial⟩)
                  intro a263 hS263
                  refine st_valW hS263 (want_on hS263 rfl rfl rfl hb35) rfl rfl (r_pickT hS263 rfl rfl rfl hb175) fun a265 hS265 => hk _ (hS265.re ⟨rfl, rfl, rfl, rfl, rfl, rfl, rfl, rfl, rfl, rfl, (by rw [← e264]; rfl), trivial⟩)
                · have H := ite_f hb175 ht220
                  have e266 := Option.some.inj H
                  refine st_off hS174 (want_off hS174 rfl rfl rfl hb175) rfl rfl fun a267 hS267 => st_off hS267 (want_off hS267 rfl rfl rfl hb175) rfl rfl fun a268 hS268 => st_off hS268 (want_off hS268 rfl rfl rfl hb175) rfl rfl fun a269 hS269 => st_off hS269 (want_off hS269 rfl rfl rfl hb175) rfl rfl fun a270 hS270 => st_off hS270 (want_off hS270 rfl rfl rfl hb175) rfl rfl fun a271 hS271 => st_off hS271 (want_un hS271 rfl rfl rfl) rfl rfl fun a272 hS272 => st_off hS272 (want_un hS272 rfl rfl rfl) rfl rfl fun a273 hS273 => st_off hS273 (want_un hS273 rfl rfl rfl) rfl rfl fun a274 hS274 => st_off hS274 (want_un hS274 rfl rfl rfl) rfl rfl fun a275 hS275 => st_off hS275 (want_un hS275 rfl rfl rfl) rfl rfl fun a276 hS276 => st_off hS276 (want_un hS276 rfl rfl rfl) rfl rfl fun a277 hS277 => st_off hS277 (want_un hS277 rfl rfl rfl) rfl rfl fun a278 hS278 => st_off hS278 (want_un hS278 rfl rfl rfl) rfl rfl fun a279 hS279 => st_off hS279 (want_off hS279 rfl rfl rfl hb175) rfl rfl fun a280 hS280 => st_valW hS280 (want_on hS280 rfl rfl rfl hb35) rfl rfl (r_pickF hS280 rfl rfl rfl hb175) fun a281 hS281 => hk _ (hS281.re ⟨rfl, rfl, rfl, rfl, rfl, rfl, rfl, rfl, rfl, rfl, (by rw [← e266]; rfl), trivial⟩)
              intro a282 hS282
              refine st_val hS282 rfl rfl rfl (r_pickF hS282 rfl rfl rfl hb35) fun a284 hS284 => hk _ (hS284.re ⟨rfl, rfl, rfl, rfl, rfl, (by rw [← e283]; rfl), trivial⟩)
          intro a285 hS285
          refine wpList_nil (hK _ _ ?_)
          replace hS : Sl 99 _ [(1, .int .i64 p1), (2, .int .i64 p2), (3, .pointer (some ⟨b1, 0, none⟩)), (12, .agg #[.slice A0_0 p0.Rails.a0.length cap0_0, .slice A0_1 p0.Rails.a1.length cap0_1, .slice A0_2 p0.Rails.a2.length cap0_2, .slice A0_3 p0.Rails.a3.length cap0_3]), (13, .int .i64 m0_0), (39, .bool t148)] := hS285.re ⟨rfl, rfl, rfl, rfl, rfl, rfl, trivial⟩
          clear hK K
          try clear hS28 hS31 hS33 hS34 hS285
          obtain ⟨a, ha⟩ : ∃ a', a' = a285 := ⟨_, rfl⟩
          rw [← ha] at hS ⊢; clear ha
          refine c_cond hS rfl (fun hb286 => ?_) (fun hb286 => ?_)
          · replace H := ite_t hb286 H
            refine c_pure [(6, .bool false)] (fun R hR => st_val hS rfl rfl rfl (r_assign hS rfl rfl) fun a287 hS287 => wpList_nil (hR _ (hS287.re ⟨rfl, trivial⟩))) ?_
            clear hS
            clear a
            intro a hS
            refine wp_ret ?_
            have e := Option.some.inj H
            subst e
            replace H := Fl.go_out Hl10
            have e := Option.some.inj H
            subst e
            repeat (with_reducible first | refine then_ret ?_ | refine inBlock_ret ?_)
            exact c_ret1 hS Try.results39 rfl ⟨_, rfl, g32, rfl, hF⟩
          · replace H := ite_f hb286 H
            refine wp_skip ?_
            change Code.wp _ _ _ _ _
            refine c_pure1 [(1, .int .i64 p1), (2, .int .i64 p2), (3, .pointer (some ⟨b1, 0, none⟩)), (12, .agg #[.slice A0_0 p0.Rails.a0.length cap0_0, .slice A0_1 p0.Rails.a1.length cap0_1, .slice A0_2 p0.Rails.a2.length cap0_2, .slice A0_3 p0.Rails.a3.length cap0_3]), (13, .int .i64 (wi (m0_0 + 1)))] (fun R hR => st_val hS rfl rfl rfl (r_bin hS rfl rfl rfl b_add) fun a288 hS288 => st_val hS288 rfl rfl rfl (r_move hS288 rfl rfl) fun a289 hS289 => wpList_nil (hR _ (hS289.re ⟨rfl, rfl, rfl, rfl, rfl, trivial⟩))) ?_
            clear hS
            clear a
            intro a hS
            refine ⟨k15, Nat.lt_succ_self _, ?_⟩
            exact ⟨wi (m0_0 + 1), g32, H, hS.re ⟨rfl, rfl, rfl, rfl, rfl, trivial⟩, h2, hp0_0, hp0_1, hp0_2, hp0_3, hF⟩
        · replace H := ite_f hb17 H
          refine wp_exit ?_
          have e := Option.some.inj H
          exact ⟨g14, e.symm, hS.re ⟨rfl, rfl, trivial⟩, h2, hp0_0, hp0_1, hp0_2, hp0_3, hF⟩
  · clear H
    clear hp0_0 hp0_1 hp0_2 hp0_3 h2 hF
    clear hS
    rintro a w7 ⟨g7, hpre0, hS, h2, hp0_0, hp0_1, hp0_2, hp0_3, hF⟩
    subst hpre0
    have H := Fl.go_nxt Hl10
    clear Hl10
    obtain ⟨o292, H, Hl293⟩ := bind_el H
    refine c_cut (fun a w290 => ∃ (g290 : Nat → Nat), o292 = .nxt () ∧ Sl 99 a [(1, .int .i64 p1), (3, .pointer (some ⟨b1, 0, none⟩))] ∧ Bx w290 g290 (N + 0) b1 33 [.int .i64 p0.Parent, .slice A0_0 p0.Rails.a0.length cap0_0, .slice A0_1 p0.Rails.a1.length cap0_1, .slice A0_2 p0.Rails.a2.length cap0_2, .slice A0_3 p0.Rails.a3.length cap0_3, .int .i64 p0.Deepest.a0, .int .i64 p0.Deepest.a1, .int .i64 p0.Deepest.a2, .int .i64 p0.Deepest.a3, .int .i64 p0.Deepest.a4, .int .i64 p0.Deepest.a5, .int .i64 p0.WakeDevice, .int .i64 p0.WakeSystem] ∧ RdS (kint .i64) w290 g290 C0 A0_0 cap0_0 p0.Rails.a0 ∧ RdS (kint .i64) w290 g290 C0 A0_1 cap0_1 p0.Rails.a1 ∧ RdS (kint .i64) w290 g290 C0 A0_2 cap0_2 p0.Rails.a2 ∧ RdS (kint .i64) w290 g290 C0 A0_3 cap0_3 p0.Rails.a3 ∧ Fr (fun q => N ≤ q) w g w290 g290) ?_ ?_
    · refine c_pure [(1, .int .i64 p1), (3, .pointer (some ⟨b1, 0, none⟩)), (42, .agg #[.int .i64 p0.Deepest.a0, .int .i64 p0.Deepest.a1, .int .i64 p0.Deepest.a2, .int .i64 p0.Deepest.a3, .int .i64 p0.Deepest.a4, .int .i64 p0.Deepest.a5]), (43, .int .i64 0)] (fun R hR => st_val hS rfl rfl rfl (r_fieldB (off := 5) hS rfl rfl (by kernel_rfl)) fun a294 hS294 => st_val hS294 rfl rfl rfl (r_loadN (n := 6) (cs := [.int .i64 p0.Deepest.a0, .int .i64 p0.Deepest.a1, .int .i64 p0.Deepest.a2, .int .i64 p0.Deepest.a3, .int .i64 p0.Deepest.a4, .int .i64 p0.Deepest.a5]) hS294 rfl rfl (by kernel_rfl) rfl (Bx.cells_off h2 5 6)) fun a295 hS295 => st_val hS295 rfl rfl rfl (r_move hS295 rfl rfl) fun a296 hS296 => wpList_nil (hR _ (hS296.re ⟨rfl, rfl, rfl, rfl, trivial⟩))) ?_
      clear hS
      clear a
      intro a hS
      refine wp_block ?_
      refine wp_loop_ghost (fun kq => fun a w297 => ∃ (m1_0 : Int), ∃ (g297 : Nat → Nat), device_valid.l1 p0 kq m1_0 = some o292 ∧ Sl 99 a [(1, .int .i64 p1), (3, .pointer (some ⟨b1, 0, none⟩)), (42, .agg #[.int .i64 p0.Deepest.a0, .int .i64 p0.Deepest.a1, .int .i64 p0.Deepest.a2, .int .i64 p0.Deepest.a3, .int .i64 p0.Deepest.a4, .int .i64 p0.Deepest.a5]), (43, .int .i64 m1_0)] ∧ Bx w297 g297 (N + 0) b1 33 [.int .i64 p0.Parent, .slice A0_0 p0.Rails.a0.length cap0_0, .slice A0_1 p0.Rails.a1.length cap0_1, .slice A0_2 p0.Rails.a2.length cap0_2, .slice A0_3 p0.Rails.a3.length cap0_3, .int .i64 p0.Deepest.a0, .int .i64 p0.Deepest.a1, .int .i64 p0.Deepest.a2, .int .i64 p0.Deepest.a3, .int .i64 p0.Deepest.a4, .int .i64 p0.Deepest.a5, .int .i64 p0.WakeDevice, .int .i64 p0.WakeSystem] ∧ RdS (kint .i64) w297 g297 C0 A0_0 cap0_0 p0.Rails.a0 ∧ RdS (kint .i64) w297 g297 C0 A0_1 cap0_1 p0.Rails.a1 ∧ RdS (kint .i64) w297 g297 C0 A0_2 cap0_2 p0.Rails.a2 ∧ RdS (kint .i64) w297 g297 C0 A0_3 cap0_3 p0.Rails.a3 ∧ Fr (fun q => N ≤ q) w g w297 g297) FUEL ?_ ?_
      · exact ⟨0, g7, H, hS.re ⟨rfl, rfl, rfl, rfl, trivial⟩, h2, hp0_0, hp0_1, hp0_2, hp0_3, hF⟩
      · clear H
        clear hp0_0 hp0_1 hp0_2 hp0_3 h2 hF
        clear hS
        rintro k298 a w297 ⟨m1_0, g297, hpre0, hS, h2, hp0_0, hp0_1, hp0_2, hp0_3, hF⟩
        have H := hpre0
        clear hpre0
        cases k298 with
        | zero => exact absurd H (by simp [device_valid.l1])
        | succ k298 =>
          rw [device_valid.l1] at H
          refine c_pure [(1, .int .i64 p1), (3, .pointer (some ⟨b1, 0, none⟩)), (42, .agg #[.int .i64 p0.Deepest.a0, .int .i64 p0.Deepest.a1, .int .i64 p0.Deepest.a2, .int .i64 p0.Deepest.a3, .int .i64 p0.Deepest.a4, .int .i64 p0.Deepest.a5]), (43, .int .i64 m1_0), (44, .bool (decide (m1_0 < 6)))] (fun R hR => st_val hS rfl rfl rfl (r_bin hS rfl rfl rfl b_lss) fun a299 hS299 => wpList_nil (hR _ (hS299.re ⟨rfl, rfl, rfl, rfl, rfl, trivial⟩))) ?_
          clear hS
          clear a
          intro a hS
          refine c_if hS rfl (fun hb300 => ?_) (fun hb300 => ?_)
          · replace H := ite_t hb300 H
            refine wp_skip ?_
            change Code.wp _ _ _ _ _
            refine wp_seq ?_
            refine wp_block ?_
            obtain ⟨x302, hx303, H⟩ := bind_el H
            refine c_region (fun K hK => ?_)
            refine st_val hS rfl rfl rfl (r_move hS rfl rfl) fun a301 hS301 => ?_
            have he304 : (([.int .i64 p0.Deepest.a0, .int .i64 p0.Deepest.a1, .int .i64 p0.Deepest.a2, .int .i64 p0.Deepest.a3, .int .i64 p0.Deepest.a4, .int .i64 p0.Deepest.a5] : List Value).drop (m1_0.toNat * 1)).take 1 = [.int .i64 x302] := by rcases Ar6.cases hx303 with ⟨e, e2⟩ | ⟨e, e2⟩ | ⟨e, e2⟩ | ⟨e, e2⟩ | ⟨e, e2⟩ | ⟨e, e2⟩ <;> (rw [e, e2] <;> rfl)
            refine st_val hS301 rfl rfl rfl (r_at1 (cs := [.int .i64 p0.Deepest.a0, .int .i64 p0.Deepest.a1, .int .i64 p0.Deepest.a2, .int .i64 p0.Deepest.a3, .int .i64 p0.Deepest.a4, .int .i64 p0.Deepest.a5]) (v := .int .i64 x302) (n := 6) (e := 3) (sz := 1) hS301 rfl rfl rfl (by kernel_rfl) (idx_lo hx303) (Ar6.lt hx303) he304) fun a306 hS306 => st_val hS306 rfl rfl rfl (r_assign hS306 rfl rfl) fun a307 hS307 => st_val hS307 rfl rfl rfl (r_assign hS307 rfl rfl) fun a308 hS308 => wpList_nil (hK _ _ ?_)
            replace hS : Sl 99 _ [(1, .int .i64 p1), (3, .pointer (some ⟨b1, 0, none⟩)), (9, .int .i64 m1_0), (10, .int .i64 x302), (42, .agg #[.int .i64 p0.Deepest.a0, .int .i64 p0.Deepest.a1, .int .i64 p0.Deepest.a2, .int .i64 p0.Deepest.a3, .int .i64 p0.Deepest.a4, .int .i64 p0.Deepest.a5]), (43, .int .i64 m1_0)] := hS308.re ⟨rfl, rfl, rfl, rfl, rfl, rfl, trivial⟩
            clear hK K
            try clear hS301 hS306 hS307 hS308
            obtain ⟨a, ha⟩ : ∃ a', a' = a308 := ⟨_, rfl⟩
            rw [← ha] at hS ⊢; clear ha
            obtain ⟨r310, hr311, H⟩ := bind_el H
            obtain ⟨t357, ht358, H⟩ := bind_el H
            refine c_region (fun K hK => ?_)
            refine st_val hS rfl rfl rfl (r_move hS rfl rfl) fun a309 hS309 => ?_
            refine st_enter hS309 rfl rfl rfl (r_call hS309 rfl rfl (by kernel_rfl)) (device_isState.calls (p0 := x302) (g := g297) (N + 2)   hr311) ?_
            rintro _ a312 w313 ⟨g313, rfl, F313⟩ hS312
            replace h2 := h2.fr F313 (fun (hm : N + 2 ≤ N + 0) => by omega)
            replace hp0_0 := RdS.fr hp0_0 F313 (by decide) (fun q (hq : C0 q) (hm : N + 2 ≤ q) => by have := hC0 q hq; omega)
            replace hp0_1 := RdS.fr hp0_1 F313 (by decide) (fun q (hq : C0 q) (hm : N + 2 ≤ q) => by have := hC0 q hq; omega)
            replace hp0_2 := RdS.fr hp0_2 F313 (by decide) (fun q (hq : C0 q) (hm : N + 2 ≤ q) => by have := hC0 q hq; omega)
            replace hp0_3 := RdS.fr hp0_3 F313 (by decide) (fun q (hq : C0 q) (hm : N + 2 ≤ q) => by have := hC0 q hq; omega)
            replace hF := hF.trans F313 (fun c' (hm : N + 2 ≤ c') => by show N ≤ c'; omega)
            refine st_val hS312 rfl rfl rfl (r_not hS312 rfl rfl) fun a314 hS314 => st_val hS314 rfl rfl rfl (r_move hS314 rfl rfl) fun a315 hS315 => ?_
            refine g_join (N := 99) 12 [(1, .int .i64 p1), (3, .pointer (some ⟨b1, 0, none⟩)), (42, .agg #[.int .i64 p0.Deepest.a0, .int .i64 p0.Deepest.a1, .int .i64 p0.Deepest.a2, .int .i64 p0.Deepest.a3, .int .i64 p0.Deepest.a4, .int .i64 p0.Deepest.a5]), (43, .int .i64 m1_0), (62, .bool t357)] ?_ (fun hk => ?_)
            rotate_left
            · rcases Bool.eq_false_or_eq_true ((!r310)) with hb316 | hb316
              · have H := ite_t hb316 ht358
                have e359 := Option.some.inj H
                refine st_off hS315 (want_off hS315 rfl rfl rfl hb316) rfl rfl fun a360 hS360 => st_off hS360 (want_off hS360 rfl rfl rfl hb316) rfl rfl fun a361 hS361 => st_off hS361 (want_off hS361 rfl rfl rfl hb316) rfl rfl fun a362 hS362 => st_off hS362 (want_un hS362 rfl rfl rfl) rfl rfl fun a363 hS363 => st_off hS363 (want_un hS363 rfl rfl rfl) rfl rfl fun a364 hS364 => st_off hS364 (want_un hS364 rfl rfl rfl) rfl rfl fun a365 hS365 => st_off hS365 (want_un hS365 rfl rfl rfl) rfl rfl fun a366 hS366 => st_off hS366 (want_un hS366 rfl rfl rfl) rfl rfl fun a367 hS367 => st_off hS367 (want_un hS367 rfl rfl rfl) rfl rfl fun a368 hS368 => st_off hS368 (want_un hS368 rfl rfl rfl) rfl rfl fun a369 hS369 => st_off hS369 (want_off hS369 rfl rfl rfl hb316) rfl rfl fun a370 hS370 => st_val hS370 rfl rfl rfl (r_pickT hS370 rfl rfl rfl hb316) fun a371 hS371 => hk _ (hS371.re ⟨rfl, rfl, rfl, rfl, (by rw [← e359]; rfl), trivial⟩)
              · have H := ite_f hb316 ht358
                obtain ⟨t387, ht388, H⟩ := bind_el H
                have e412 := Option.some.inj H
                refine st_valW hS315 (want_on hS315 rfl rfl rfl hb316) rfl rfl (r_move hS315 rfl rfl) fun a372 hS372 => st_valW hS372 (want_on hS372 rfl rfl rfl hb316) rfl rfl (r_bin hS372 rfl rfl rfl b_gtr) fun a373 hS373 => st_valW hS373 (want_on hS373 rfl rfl rfl hb316) rfl rfl (r_move hS373 rfl rfl) fun a374 hS374 => ?_
                refine g_join (N := 99) 8 [(1, .int .i64 p1), (3, .pointer (some ⟨b1, 0, none⟩)), (42, .agg #[.int .i64 p0.Deepest.a0, .int .i64 p0.Deepest.a1, .int .i64 p0.Deepest.a2, .int .i64 p0.Deepest.a3, .int .i64 p0.Deepest.a4, .int .i64 p0.Deepest.a5]), (43, .int .i64 m1_0), (50, .bool (!r310)), (51, .int .i64 m1_0), (52, .bool (decide (0 < m1_0))), (53, .bool (decide (0 < m1_0))), (61, .bool t387)] ?_ (fun hk => ?_)
                rotate_left
                · rcases Bool.eq_false_or_eq_true (decide (0 < m1_0)) with hb375 | hb375
                  · have H := ite_t hb375 ht388
                    obtain ⟨x393, hx394, H⟩ := bind_el H
                    have e400 := Option.some.inj H
                    refine st_valW hS374 (want_on hS374 rfl rfl rfl hb375) rfl rfl (r_move hS374 rfl rfl) fun a389 hS389 => st_valW hS389 (want_on hS389 rfl rfl rfl hb375) rfl rfl (r_move hS389 rfl rfl) fun a390 hS390 => st_valW hS390 (want_on hS390 rfl rfl rfl hb375) rfl rfl (r_bin hS390 rfl rfl rfl b_sub) fun a391 hS391 => st_valW hS391 (want_on hS391 rfl rfl rfl hb375) rfl rfl (r_fieldB (off := 5) hS391 rfl rfl (by kernel_rfl)) fun a392 hS392 => ?_
                    have he395 : (([.int .i64 p0.Parent, .slice A0_0 p0.Rails.a0.length cap0_0, .slice A0_1 p0.Rails.a1.length cap0_1, .slice A0_2 p0.Rails.a2.length cap0_2, .slice A0_3 p0.Rails.a3.length cap0_3, .int .i64 p0.Deepest.a0, .int .i64 p0.Deepest.a1, .int .i64 p0.Deepest.a2, .int .i64 p0.Deepest.a3, .int .i64 p0.Deepest.a4, .int .i64 p0.Deepest.a5, .int .i64 p0.WakeDevice, .int .i64 p0.WakeSystem] : List Value).drop (5 + (wi (m1_0 - 1)).toNat * 1)).take 1 = [.int .i64 x393] := by rcases Ar6.cases hx394 with ⟨e, e2⟩ | ⟨e, e2⟩ | ⟨e, e2⟩ | ⟨e, e2⟩ | ⟨e, e2⟩ | ⟨e, e2⟩ <;> (rw [e, e2] <;> rfl)
                    refine st_valW hS392 (want_on hS392 rfl rfl rfl hb375) rfl rfl (r_ixB (n := 6) (e := 3) (sz := 1) (bb := false) hS392 rfl rfl rfl (by kernel_rfl) (idx_lo hx394) (Ar6.lt hx394)) fun a397 hS397 => st_valW hS397 (want_on hS397 rfl rfl rfl hb375) rfl rfl (r_load1 (n := 1) hS397 rfl rfl (by kernel_rfl) (Bx.at_ (j := 0) h2 he395 rfl)) fun a398 hS398 => st_valW hS398 (want_on hS398 rfl rfl rfl hb375) rfl rfl (r_bin hS398 rfl rfl rfl b_lss) fun a399 hS399 => st_valW hS399 (want_on hS399 rfl rfl rfl hb316) rfl rfl (r_pickT hS399 rfl rfl rfl hb375) fun a401 hS401 => hk _ (hS401.re ⟨rfl, rfl, rfl, rfl, rfl, rfl, rfl, rfl, (by rw [← e400]; rfl), trivial⟩)
                  · have H := ite_f hb375 ht388
                    have e402 := Option.some.inj H
                    refine st_off hS374 (want_off hS374 rfl rfl rfl hb375) rfl rfl fun a403 hS403 => st_off hS403 (want_off hS403 rfl rfl rfl hb375) rfl rfl fun a404 hS404 => st_off hS404 (want_off hS404 rfl rfl rfl hb375) rfl rfl fun a405 hS405 => st_off hS405 (want_off hS405 rfl rfl rfl hb375) rfl rfl fun a406 hS406 => st_off hS406 (want_off hS406 rfl rfl rfl hb375) rfl rfl fun a407 hS407 => st_off hS407 (want_off hS407 rfl rfl rfl hb375) rfl rfl fun a408 hS408 => st_off hS408 (want_off hS408 rfl rfl rfl hb375) rfl rfl fun a409 hS409 => st_valW hS409 (want_on hS409 rfl rfl rfl hb316) rfl rfl (r_pickF hS409 rfl rfl rfl hb375) fun a410 hS410 => hk _ (hS410.re ⟨rfl, rfl, rfl, rfl, rfl, rfl, rfl, rfl, (by rw [← e402]; rfl), trivial⟩)
                intro a411 hS411
                refine st_val hS411 rfl rfl rfl (r_pickF hS411 rfl rfl rfl hb316) fun a413 hS413 => hk _ (hS413.re ⟨rfl, rfl, rfl, rfl, (by rw [← e412]; rfl), trivial⟩)
            intro a414 hS414
            refine wpList_nil (hK _ _ ?_)
            replace hS : Sl 99 _ [(1, .int .i64 p1), (3, .pointer (some ⟨b1, 0, none⟩)), (42, .agg #[.int .i64 p0.Deepest.a0, .int .i64 p0.Deepest.a1, .int .i64 p0.Deepest.a2, .int .i64 p0.Deepest.a3, .int .i64 p0.Deepest.a4, .int .i64 p0.Deepest.a5]), (43, .int .i64 m1_0), (62, .bool t357)] := hS414.re ⟨rfl, rfl, rfl, rfl, rfl, trivial⟩
            clear hK K
            try clear hS309 hS312 hS314 hS315 hS414
            obtain ⟨a, ha⟩ : ∃ a', a' = a414 := ⟨_, rfl⟩
            rw [← ha] at hS ⊢; clear ha
            refine c_cond hS rfl (fun hb415 => ?_) (fun hb415 => ?_)
            · replace H := ite_t hb415 H
              refine c_pure [(6, .bool false)] (fun R hR => st_val hS rfl rfl rfl (r_assign hS rfl rfl) fun a416 hS416 => wpList_nil (hR _ (hS416.re ⟨rfl, trivial⟩))) ?_
              clear hS
              clear a
              intro a hS
              refine wp_ret ?_
              have e := Option.some.inj H
              subst e
              replace H := Fl.go_out Hl293
              have e := Option.some.inj H
              subst e
              repeat (with_reducible first | refine then_ret ?_ | refine inBlock_ret ?_)
              exact c_ret1 hS Try.results39 rfl ⟨_, rfl, g313, rfl, hF⟩
            · replace H := ite_f hb415 H
              refine wp_skip ?_
              change Code.wp _ _ _ _ _
              refine c_pure1 [(1, .int .i64 p1), (3, .pointer (some ⟨b1, 0, none⟩)), (42, .agg #[.int .i64 p0.Deepest.a0, .int .i64 p0.Deepest.a1, .int .i64 p0.Deepest.a2, .int .i64 p0.Deepest.a3, .int .i64 p0.Deepest.a4, .int .i64 p0.Deepest.a5]), (43, .int .i64 (wi (m1_0 + 1)))] (fun R hR => st_val hS rfl rfl rfl (r_bin hS rfl rfl rfl b_add) fun a417 hS417 => st_val hS417 rfl rfl rfl (r_move hS417 rfl rfl) fun a418 hS418 => wpList_nil (hR _ (hS418.re ⟨rfl, rfl, rfl, rfl, trivial⟩))) ?_
              clear hS
              clear a
              intro a hS
              refine ⟨k298, Nat.lt_succ_self _, ?_⟩
              exact ⟨wi (m1_0 + 1), g313, H, hS.re ⟨rfl, rfl, rfl, rfl, trivial⟩, h2, hp0_0, hp0_1, hp0_2, hp0_3, hF⟩
          · replace H := ite_f hb300 H
            refine wp_exit ?_
            have e := Option.some.inj H
            exact ⟨g297, e.symm, hS.re ⟨rfl, rfl, trivial⟩, h2, hp0_0, hp0_1, hp0_2, hp0_3, hF⟩
    · clear H
      clear hp0_0 hp0_1 hp0_2 hp0_3 h2 hF
      clear hS
      rintro a w290 ⟨g290, hpre0, hS, h2, hp0_0, hp0_1, hp0_2, hp0_3, hF⟩
      subst hpre0
      have H := Fl.go_nxt Hl293
      clear Hl293
      refine c_region (fun K hK => ?_)
      refine st_val hS rfl rfl rfl (r_fieldB (off := 0) hS rfl rfl (by kernel_rfl)) fun a419 hS419 => st_val hS419 rfl rfl rfl (r_load1 (n := 1) hS419 rfl rfl (by kernel_rfl) (Bx.cell h2 rfl)) fun a420 hS420 => st_val hS420 rfl rfl rfl (r_bin hS420 rfl rfl rfl b_geq) fun a421 hS421 => st_val hS421 rfl rfl rfl (r_move hS421 rfl rfl) fun a422 hS422 => ?_
      refine g_join (N := 99) 5 [(3, .pointer (some ⟨b1, 0, none⟩)), (72, .bool ((decide ((-1) ≤ p0.Parent)) && (decide (p0.Parent < p1))))] ?_ (fun hk => ?_)
      rotate_left
      · rcases Bool.eq_false_or_eq_true (decide ((-1) ≤ p0.Parent)) with hb423 | hb423
        · refine st_valW hS422 (want_on hS422 rfl rfl rfl hb423) rfl rfl (r_fieldB (off := 0) hS422 rfl rfl (by kernel_rfl)) fun a428 hS428 => st_valW hS428 (want_on hS428 rfl rfl rfl hb423) rfl rfl (r_load1 (n := 1) hS428 rfl rfl (by kernel_rfl) (Bx.cell h2 rfl)) fun a429 hS429 => st_valW hS429 (want_on hS429 rfl rfl rfl hb423) rfl rfl (r_move hS429 rfl rfl) fun a430 hS430 => st_valW hS430 (want_on hS430 rfl rfl rfl hb423) rfl rfl (r_bin hS430 rfl rfl rfl b_lss) fun a431 hS431 => st_val hS431 rfl rfl rfl (r_pickT hS431 rfl rfl rfl hb423) fun a432 hS432 => hk _ (hS432.re ⟨rfl, (by rw [hb423]; rfl), trivial⟩)
        · refine st_off hS422 (want_off hS422 rfl rfl rfl hb423) rfl rfl fun a433 hS433 => st_off hS433 (want_off hS433 rfl rfl rfl hb423) rfl rfl fun a434 hS434 => st_off hS434 (want_off hS434 rfl rfl rfl hb423) rfl rfl fun a435 hS435 => st_off hS435 (want_off hS435 rfl rfl rfl hb423) rfl rfl fun a436 hS436 => st_val hS436 rfl rfl rfl (r_pickF hS436 rfl rfl rfl hb423) fun a437 hS437 => hk _ (hS437.re ⟨rfl, (by rw [hb423]; rfl), trivial⟩)
      intro a438 hS438
      refine st_val hS438 rfl rfl rfl (r_move hS438 rfl rfl) fun a439 hS439 => ?_
      refine g_join (N := 99) 5 [(3, .pointer (some ⟨b1, 0, none⟩)), (78, .bool (((decide ((-1) ≤ p0.Parent)) && (decide (p0.Parent < p1))) && (p0.Deepest.a0 == 0)))] ?_ (fun hk => ?_)
      rotate_left
      · rcases Bool.eq_false_or_eq_true (((decide ((-1) ≤ p0.Parent)) && (decide (p0.Parent < p1)))) with hb440 | hb440
        · refine st_valW hS439 (want_on hS439 rfl rfl rfl hb440) rfl rfl (r_fieldB (off := 5) hS439 rfl rfl (by kernel_rfl)) fun a445 hS445 => st_valW hS445 (want_on hS445 rfl rfl rfl hb440) rfl rfl (r_ixB (n := 6) (e := 3) (sz := 1) (bb := false) hS445 rfl rfl rfl (by kernel_rfl) (by decide) (by decide)) fun a446 hS446 => st_valW hS446 (want_on hS446 rfl rfl rfl hb440) rfl rfl (r_load1 (n := 1) hS446 rfl rfl (by kernel_rfl) (Bx.cell h2 rfl)) fun a447 hS447 => st_valW hS447 (want_on hS447 rfl rfl rfl hb440) rfl rfl (r_bin hS447 rfl rfl rfl b_eql) fun a448 hS448 => st_val hS448 rfl rfl rfl (r_pickT hS448 rfl rfl rfl hb440) fun a449 hS449 => hk _ (hS449.re ⟨rfl, (by rw [hb440]; rfl), trivial⟩)
        · refine st_off hS439 (want_off hS439 rfl rfl rfl hb440) rfl rfl fun a450 hS450 => st_off hS450 (want_off hS450 rfl rfl rfl hb440) rfl rfl fun a451 hS451 => st_off hS451 (want_off hS451 rfl rfl rfl hb440) rfl rfl fun a452 hS452 => st_off hS452 (want_off hS452 rfl rfl rfl hb440) rfl rfl fun a453 hS453 => st_val hS453 rfl rfl rfl (r_pickF hS453 rfl rfl rfl hb440) fun a454 hS454 => hk _ (hS454.re ⟨rfl, (by rw [hb440]; rfl), trivial⟩)
      intro a455 hS455
      refine st_val hS455 rfl rfl rfl (r_move hS455 rfl rfl) fun a456 hS456 => ?_
      refine g_join (N := 99) 4 [(3, .pointer (some ⟨b1, 0, none⟩)), (83, .bool ((((decide ((-1) ≤ p0.Parent)) && (decide (p0.Parent < p1))) && (p0.Deepest.a0 == 0)) && (decide (0 ≤ p0.WakeSystem))))] ?_ (fun hk => ?_)
      rotate_left
      · rcases Bool.eq_false_or_eq_true ((((decide ((-1) ≤ p0.Parent)) && (decide (p0.Parent < p1))) && (p0.Deepest.a0 == 0))) with hb457 | hb457
        · refine st_valW hS456 (want_on hS456 rfl rfl rfl hb457) rfl rfl (r_fieldB (off := 12) hS456 rfl rfl (by kernel_rfl)) fun a461 hS461 => st_valW hS461 (want_on hS461 rfl rfl rfl hb457) rfl rfl (r_load1 (n := 1) hS461 rfl rfl (by kernel_rfl) (Bx.cell h2 rfl)) fun a462 hS462 => st_valW hS462 (want_on hS462 rfl rfl rfl hb457) rfl rfl (r_bin hS462 rfl rfl rfl b_geq) fun a463 hS463 => st_val hS463 rfl rfl rfl (r_pickT hS463 rfl rfl rfl hb457) fun a464 hS464 => hk _ (hS464.re ⟨rfl, (by rw [hb457]; rfl), trivial⟩)
        · refine st_off hS456 (want_off hS456 rfl rfl rfl hb457) rfl rfl fun a465 hS465 => st_off hS465 (want_off hS465 rfl rfl rfl hb457) rfl rfl fun a466 hS466 => st_off hS466 (want_off hS466 rfl rfl rfl hb457) rfl rfl fun a467 hS467 => st_val hS467 rfl rfl rfl (r_pickF hS467 rfl rfl rfl hb457) fun a468 hS468 => hk _ (hS468.re ⟨rfl, (by rw [hb457]; rfl), trivial⟩)
      intro a469 hS469
      refine st_val hS469 rfl rfl rfl (r_move hS469 rfl rfl) fun a470 hS470 => ?_
      refine g_join (N := 99) 4 [(3, .pointer (some ⟨b1, 0, none⟩)), (88, .bool (((((decide ((-1) ≤ p0.Parent)) && (decide (p0.Parent < p1))) && (p0.Deepest.a0 == 0)) && (decide (0 ≤ p0.WakeSystem))) && (decide (p0.WakeSystem ≤ 4))))] ?_ (fun hk => ?_)
      rotate_left
      · rcases Bool.eq_false_or_eq_true (((((decide ((-1) ≤ p0.Parent)) && (decide (p0.Parent < p1))) && (p0.Deepest.a0 == 0)) && (decide (0 ≤ p0.WakeSystem)))) with hb471 | hb471
        · refine st_valW hS470 (want_on hS470 rfl rfl rfl hb471) rfl rfl (r_fieldB (off := 12) hS470 rfl rfl (by kernel_rfl)) fun a475 hS475 => st_valW hS475 (want_on hS475 rfl rfl rfl hb471) rfl rfl (r_load1 (n := 1) hS475 rfl rfl (by kernel_rfl) (Bx.cell h2 rfl)) fun a476 hS476 => st_valW hS476 (want_on hS476 rfl rfl rfl hb471) rfl rfl (r_bin hS476 rfl rfl rfl b_leq) fun a477 hS477 => st_val hS477 rfl rfl rfl (r_pickT hS477 rfl rfl rfl hb471) fun a478 hS478 => hk _ (hS478.re ⟨rfl, (by rw [hb471]; rfl), trivial⟩)
        · refine st_off hS470 (want_off hS470 rfl rfl rfl hb471) rfl rfl fun a479 hS479 => st_off hS479 (want_off hS479 rfl rfl rfl hb471) rfl rfl fun a480 hS480 => st_off hS480 (want_off hS480 rfl rfl rfl hb471) rfl rfl fun a481 hS481 => st_val hS481 rfl rfl rfl (r_pickF hS481 rfl rfl rfl hb471) fun a482 hS482 => hk _ (hS482.re ⟨rfl, (by rw [hb471]; rfl), trivial⟩)
      intro a483 hS483
      refine st_val hS483 rfl rfl rfl (r_move hS483 rfl rfl) fun a484 hS484 => ?_
      refine g_join (N := 99) 4 [(3, .pointer (some ⟨b1, 0, none⟩)), (93, .bool ((((((decide ((-1) ≤ p0.Parent)) && (decide (p0.Parent < p1))) && (p0.Deepest.a0 == 0)) && (decide (0 ≤ p0.WakeSystem))) && (decide (p0.WakeSystem ≤ 4))) && (decide (0 ≤ p0.WakeDevice))))] ?_ (fun hk => ?_)
      rotate_left
      · rcases Bool.eq_false_or_eq_true ((((((decide ((-1) ≤ p0.Parent)) && (decide (p0.Parent < p1))) && (p0.Deepest.a0 == 0)) && (decide (0 ≤ p0.WakeSystem))) && (decide (p0.WakeSystem ≤ 4)))) with hb485 | hb485
        · refine st_valW hS484 (want_on hS484 rfl rfl rfl hb485) rfl rfl (r_fieldB (off := 11) hS484 rfl rfl (by kernel_rfl)) fun a489 hS489 => st_valW hS489 (want_on hS489 rfl rfl rfl hb485) rfl rfl (r_load1 (n := 1) hS489 rfl rfl (by kernel_rfl) (Bx.cell h2 rfl)) fun a490 hS490 => st_valW hS490 (want_on hS490 rfl rfl rfl hb485) rfl rfl (r_bin hS490 rfl rfl rfl b_geq) fun a491 hS491 => st_val hS491 rfl rfl rfl (r_pickT hS491 rfl rfl rfl hb485) fun a492 hS492 => hk _ (hS492.re ⟨rfl, (by rw [hb485]; rfl), trivial⟩)
        · refine st_off hS484 (want_off hS484 rfl rfl rfl hb485) rfl rfl fun a493 hS493 => st_off hS493 (want_off hS493 rfl rfl rfl hb485) rfl rfl fun a494 hS494 => st_off hS494 (want_off hS494 rfl rfl rfl hb485) rfl rfl fun a495 hS495 => st_val hS495 rfl rfl rfl (r_pickF hS495 rfl rfl rfl hb485) fun a496 hS496 => hk _ (hS496.re ⟨rfl, (by rw [hb485]; rfl), trivial⟩)
      intro a497 hS497
      refine st_val hS497 rfl rfl rfl (r_move hS497 rfl rfl) fun a498 hS498 => ?_
      refine g_join (N := 99) 4 [(98, .bool (((((((decide ((-1) ≤ p0.Parent)) && (decide (p0.Parent < p1))) && (p0.Deepest.a0 == 0)) && (decide (0 ≤ p0.WakeSystem))) && (decide (p0.WakeSystem ≤ 4))) && (decide (0 ≤ p0.WakeDevice))) && (decide (p0.WakeDevice ≤ 3))))] ?_ (fun hk => ?_)
      rotate_left
      · rcases Bool.eq_false_or_eq_true (((((((decide ((-1) ≤ p0.Parent)) && (decide (p0.Parent < p1))) && (p0.Deepest.a0 == 0)) && (decide (0 ≤ p0.WakeSystem))) && (decide (p0.WakeSystem ≤ 4))) && (decide (0 ≤ p0.WakeDevice)))) with hb499 | hb499
        · refine st_valW hS498 (want_on hS498 rfl rfl rfl hb499) rfl rfl (r_fieldB (off := 11) hS498 rfl rfl (by kernel_rfl)) fun a503 hS503 => st_valW hS503 (want_on hS503 rfl rfl rfl hb499) rfl rfl (r_load1 (n := 1) hS503 rfl rfl (by kernel_rfl) (Bx.cell h2 rfl)) fun a504 hS504 => st_valW hS504 (want_on hS504 rfl rfl rfl hb499) rfl rfl (r_bin hS504 rfl rfl rfl b_leq) fun a505 hS505 => st_val hS505 rfl rfl rfl (r_pickT hS505 rfl rfl rfl hb499) fun a506 hS506 => hk _ (hS506.re ⟨(by rw [hb499]; rfl), trivial⟩)
        · refine st_off hS498 (want_off hS498 rfl rfl rfl hb499) rfl rfl fun a507 hS507 => st_off hS507 (want_off hS507 rfl rfl rfl hb499) rfl rfl fun a508 hS508 => st_off hS508 (want_off hS508 rfl rfl rfl hb499) rfl rfl fun a509 hS509 => st_val hS509 rfl rfl rfl (r_pickF hS509 rfl rfl rfl hb499) fun a510 hS510 => hk _ (hS510.re ⟨(by rw [hb499]; rfl), trivial⟩)
      intro a511 hS511
      refine st_val hS511 rfl rfl rfl (r_assign hS511 rfl rfl) fun a512 hS512 => wpList_nil (hK _ _ ?_)
      replace hS : Sl 99 _ [(6, .bool (((((((decide ((-1) ≤ p0.Parent)) && (decide (p0.Parent < p1))) && (p0.Deepest.a0 == 0)) && (decide (0 ≤ p0.WakeSystem))) && (decide (p0.WakeSystem ≤ 4))) && (decide (0 ≤ p0.WakeDevice))) && (decide (p0.WakeDevice ≤ 3))))] := hS512.re ⟨rfl, trivial⟩
      clear hK K
      try clear hS419 hS420 hS421 hS422 hS438 hS439 hS455 hS456 hS469 hS470 hS483 hS484 hS497 hS498 hS511 hS512
      obtain ⟨a, ha⟩ : ∃ a', a' = a512 := ⟨_, rfl⟩
      rw [← ha] at hS ⊢; clear ha
      refine wp_ret ?_
      have e := Option.some.inj H
      subst e
      repeat (with_reducible first | refine then_ret ?_ | refine inBlock_ret ?_)
      exact c_ret1 hS Try.results39 rfl ⟨_, rfl, g290, rfl, hF⟩

/-! ### ref27_valid: function 40 -/
def ref27_valid.l1 (p2 : Int) (x118 : List Int) : Nat → Int → Option (Fl (Fl (Bool) (Unit)) (Unit))
  | 0, _ => none
  | k136 + 1, m1_0 => if decide (m1_0 < (x118.length : Int)) = true then ((idx x118 m1_0).bind fun x162 => if ((decide (x162 < 0)) || (decide (p2 ≤ x162))) = true then (some (.out (.out false))) else (ref27_valid.l1 p2 x118 k136 (wi (m1_0 + 1)))) else (some (.nxt ()))
def ref27_valid.l0 (p0 : api_PowerDevice) (p2 : Int) : Nat → Int → Option (Fl (Bool) (Unit))
  | 0, _ => none
  | k108 + 1, m0_0 => if decide (m0_0 < 4) = true then (((idx (Ar4.l p0.Rails) m0_0).bind fun x118 => (ref27_ascending.f x118).bind fun r128 => if (!r128) = true then (some (.out (.out false))) else (ref27_valid.l1 p2 x118 FUEL 0) : Option (Fl (Fl (Bool) (Unit)) (Unit))).bind fun o114 => o114.go fun _ => ref27_valid.l0 p0 p2 k108 (wi (m0_0 + 1))) else (some (.nxt ()))
def ref27_valid.l2 (p0 : api_PowerDevice) : Nat → Int → Option (Fl (Bool) (Unit))
  | 0, _ => none
  | k213 + 1, m2_0 => if decide (m2_0 < 6) = true then ((idx (Ar6.l p0.Deepest) m2_0).bind fun x220 => (if ((decide (x220 < 0)) || (decide (4 < x220))) = true then some true else (if decide (0 < m2_0) = true then (idx (Ar6.l p0.Deepest) (wi (m2_0 - 1))).bind fun x260 => some (decide (x220 < x260)) else some false).bind fun t267 => some t267).bind fun t298 => if t298 = true then (some (.out false)) else (ref27_valid.l2 p0 k213 (wi (m2_0 + 1)))) else (some (.nxt ()))
def ref27_valid.f (p0 : api_PowerDevice) (p1 : Int) (p2 : Int) : Option (Bool) := if (((((((decide (p0.Parent < (-1))) || (decide (p1 ≤ p0.Parent))) || (p0.Deepest.a0 != 0)) || (decide (p0.WakeSystem < 0))) || (decide (4 < p0.WakeSystem))) || (decide (p0.WakeDevice < 0))) || (decide (3 < p0.WakeDevice))) = true then (some false) else ((ref27_valid.l0 p0 p2 FUEL 0 : Option (Fl (Bool) (Unit))).bind fun o104 => o104.go fun _ => (ref27_valid.l2 p0 FUEL 0 : Option (Fl (Bool) (Unit))).bind fun o209 => o209.go fun _ => some true)
set_option maxRecDepth 100000 in
set_option maxHeartbeats 4000000 in
theorem ref27_valid.calls {p0 : api_PowerDevice} {C0 : Nat → Prop} {A0_0 : Option Addr} {cap0_0 : Nat} {A0_1 : Option Addr} {cap0_1 : Nat} {A0_2 : Option Addr} {cap0_2 : Nat} {A0_3 : Option Addr} {cap0_3 : Nat} {p1 : Int} {p2 : Int} {w : World} {g : Nat → Nat} {out : Bool} (N : Nat) (hp0_0 : RdS (kint .i64) w g C0 A0_0 cap0_0 p0.Rails.a0) (hp0_1 : RdS (kint .i64) w g C0 A0_1 cap0_1 p0.Rails.a1) (hp0_2 : RdS (kint .i64) w g C0 A0_2 cap0_2 p0.Rails.a2) (hp0_3 : RdS (kint .i64) w g C0 A0_3 cap0_3 p0.Rails.a3) (hC0 : ∀ c, C0 c → c < N) (H : ref27_valid.f p0 p1 p2 = some out) :
    Calls Try.prog 40 #[.agg #[.int .i64 p0.Parent, .slice A0_0 p0.Rails.a0.length cap0_0, .slice A0_1 p0.Rails.a1.length cap0_1, .slice A0_2 p0.Rails.a2.length cap0_2, .slice A0_3 p0.Rails.a3.length cap0_3, .int .i64 p0.Deepest.a0, .int .i64 p0.Deepest.a1, .int .i64 p0.Deepest.a2, .int .i64 p0.Deepest.a3, .int .i64 p0.Deepest.a4, .int .i64 p0.Deepest.a5, .int .i64 p0.WakeDevice, .int .i64 p0.WakeSystem], .int .i64 p1, .int .i64 p2] w (fun e w' => ∃ v, e = .returned v ∧ ∃ (g' : Nat → Nat), v = .bool out ∧ Fr (fun q => N ≤ q) w g w' g') := by
  unfold ref27_valid.f at H
  refine calls_enter Try.func40 rfl Try.ntmps40 rfl (fun a hS => ?_)
  replace hS : Sl 115 a [(0, .agg #[.int .i64 p0.Parent, .slice A0_0 p0.Rails.a0.length cap0_0, .slice A0_1 p0.Rails.a1.length cap0_1, .slice A0_2 p0.Rails.a2.length cap0_2, .slice A0_3 p0.Rails.a3.length cap0_3, .int .i64 p0.Deepest.a0, .int .i64 p0.Deepest.a1, .int .i64 p0.Deepest.a2, .int .i64 p0.Deepest.a3, .int .i64 p0.Deepest.a4, .int .i64 p0.Deepest.a5, .int .i64 p0.WakeDevice, .int .i64 p0.WakeSystem]), (1, .int .i64 p1), (2, .int .i64 p2)] := hS
  have hF : Fr (fun q => N ≤ q) w g w g := Fr.refl _ _ _
  refine c_region (fun K hK => ?_)
  refine st_eff hS rfl rfl rfl (e_box (cs := [.int .i64 p0.Parent, .slice A0_0 p0.Rails.a0.length cap0_0, .slice A0_1 p0.Rails.a1.length cap0_1, .slice A0_2 p0.Rails.a2.length cap0_2, .slice A0_3 p0.Rails.a3.length cap0_3, .int .i64 p0.Deepest.a0, .int .i64 p0.Deepest.a1, .int .i64 p0.Deepest.a2, .int .i64 p0.Deepest.a3, .int .i64 p0.Deepest.a4, .int .i64 p0.Deepest.a5, .int .i64 p0.WakeDevice, .int .i64 p0.WakeSystem]) (N + 0) g hS rfl rfl rfl) ?_
  rintro _ a4 w5 g5 ⟨⟨b1, rfl, h2⟩, F5⟩ hS4
  replace hp0_0 := RdS.fr hp0_0 F5 (by decide) (fun _ _ h => h)
  replace hp0_1 := RdS.fr hp0_1 F5 (by decide) (fun _ _ h => h)
  replace hp0_2 := RdS.fr hp0_2 F5 (by decide) (fun _ _ h => h)
  replace hp0_3 := RdS.fr hp0_3 F5 (by decide) (fun _ _ h => h)
  replace hF := hF.trans F5 (fun _ h => h.elim)
  refine st_val hS4 rfl rfl rfl (r_assign hS4 rfl rfl) fun a6 hS6 => wpList_nil (hK _ _ ?_)
  replace hS : Sl 115 _ [(1, .int .i64 p1), (2, .int .i64 p2), (3, .pointer (some ⟨b1, 0, none⟩))] := hS6.re ⟨rfl, rfl, rfl, trivial⟩
  clear hK K
  try clear hS4 hS6
  obtain ⟨a, ha⟩ : ∃ a', a' = a6 := ⟨_, rfl⟩
  rw [← ha] at hS ⊢; clear ha
  refine wp_seq ?_
  refine c_region (fun K hK => ?_)
  refine st_val hS rfl rfl rfl (r_fieldB (off := 0) hS rfl rfl (by kernel_rfl)) fun a7 hS7 => st_val hS7 rfl rfl rfl (r_load1 (n := 1) hS7 rfl rfl (by kernel_rfl) (Bx.cell h2 rfl)) fun a8 hS8 => st_val hS8 rfl rfl rfl (r_bin hS8 rfl rfl rfl b_lss) fun a9 hS9 => st_val hS9 rfl rfl rfl (r_move hS9 rfl rfl) fun a10 hS10 => ?_
  refine g_join (N := 115) 5 [(2, .int .i64 p2), (3, .pointer (some ⟨b1, 0, none⟩)), (18, .bool ((decide (p0.Parent < (-1))) || (decide (p1 ≤ p0.Parent))))] ?_ (fun hk => ?_)
  rotate_left
  · rcases Bool.eq_false_or_eq_true (decide (p0.Parent < (-1))) with hb11 | hb11
    · refine st_off hS10 (want_off hS10 rfl rfl rfl hb11) rfl rfl fun a16 hS16 => st_off hS16 (want_off hS16 rfl rfl rfl hb11) rfl rfl fun a17 hS17 => st_off hS17 (want_off hS17 rfl rfl rfl hb11) rfl rfl fun a18 hS18 => st_off hS18 (want_off hS18 rfl rfl rfl hb11) rfl rfl fun a19 hS19 => st_val hS19 rfl rfl rfl (r_pickT hS19 rfl rfl rfl hb11) fun a20 hS20 => hk _ (hS20.re ⟨rfl, rfl, (by rw [hb11]; rfl), trivial⟩)
    · refine st_valW hS10 (want_on hS10 rfl rfl rfl hb11) rfl rfl (r_fieldB (off := 0) hS10 rfl rfl (by kernel_rfl)) fun a21 hS21 => st_valW hS21 (want_on hS21 rfl rfl rfl hb11) rfl rfl (r_load1 (n := 1) hS21 rfl rfl (by kernel_rfl) (Bx.cell h2 rfl)) fun a22 hS22 => st_valW hS22 (want_on hS22 rfl rfl rfl hb11) rfl rfl (r_move hS22 rfl rfl) fun a23 hS23 => st_valW hS23 (want_on hS23 rfl rfl rfl hb11) rfl rfl (r_bin hS23 rfl rfl rfl b_geq) fun a24 hS24 => st_val hS24 rfl rfl rfl (r_pickF hS24 rfl rfl rfl hb11) fun a25 hS25 => hk _ (hS25.re ⟨rfl, rfl, (by rw [hb11]; rfl), trivial⟩)
  intro a26 hS26
  refine st_val hS26 rfl rfl rfl (r_move hS26 rfl rfl) fun a27 hS27 => ?_
  refine g_join (N := 115) 5 [(2, .int .i64 p2), (3, .pointer (some ⟨b1, 0, none⟩)), (24, .bool (((decide (p0.Parent < (-1))) || (decide (p1 ≤ p0.Parent))) || (p0.Deepest.a0 != 0)))] ?_ (fun hk => ?_)
  rotate_left
  · rcases Bool.eq_false_or_eq_true (((decide (p0.Parent < (-1))) || (decide (p1 ≤ p0.Parent)))) with hb28 | hb28
    · refine st_off hS27 (want_off hS27 rfl rfl rfl hb28) rfl rfl fun a33 hS33 => st_off hS33 (want_off hS33 rfl rfl rfl hb28) rfl rfl fun a34 hS34 => st_off hS34 (want_off hS34 rfl rfl rfl hb28) rfl rfl fun a35 hS35 => st_off hS35 (want_off hS35 rfl rfl rfl hb28) rfl rfl fun a36 hS36 => st_val hS36 rfl rfl rfl (r_pickT hS36 rfl rfl rfl hb28) fun a37 hS37 => hk _ (hS37.re ⟨rfl, rfl, (by rw [hb28]; rfl), trivial⟩)
    · refine st_valW hS27 (want_on hS27 rfl rfl rfl hb28) rfl rfl (r_fieldB (off := 5) hS27 rfl rfl (by kernel_rfl)) fun a38 hS38 => st_valW hS38 (want_on hS38 rfl rfl rfl hb28) rfl rfl (r_ixB (n := 6) (e := 3) (sz := 1) (bb := false) hS38 rfl rfl rfl (by kernel_rfl) (by decide) (by decide)) fun a39 hS39 => st_valW hS39 (want_on hS39 rfl rfl rfl hb28) rfl rfl (r_load1 (n := 1) hS39 rfl rfl (by kernel_rfl) (Bx.cell h2 rfl)) fun a40 hS40 => st_valW hS40 (want_on hS40 rfl rfl rfl hb28) rfl rfl (r_bin hS40 rfl rfl rfl b_neq) fun a41 hS41 => st_val hS41 rfl rfl rfl (r_pickF hS41 rfl rfl rfl hb28) fun a42 hS42 => hk _ (hS42.re ⟨rfl, rfl, (by rw [hb28]; rfl), trivial⟩)
  intro a43 hS43
  refine st_val hS43 rfl rfl rfl (r_move hS43 rfl rfl) fun a44 hS44 => ?_
  refine g_join (N := 115) 4 [(2, .int .i64 p2), (3, .pointer (some ⟨b1, 0, none⟩)), (29, .bool ((((decide (p0.Parent < (-1))) || (decide (p1 ≤ p0.Parent))) || (p0.Deepest.a0 != 0)) || (decide (p0.WakeSystem < 0))))] ?_ (fun hk => ?_)
  rotate_left
  · rcases Bool.eq_false_or_eq_true ((((decide (p0.Parent < (-1))) || (decide (p1 ≤ p0.Parent))) || (p0.Deepest.a0 != 0))) with hb45 | hb45
    · refine st_off hS44 (want_off hS44 rfl rfl rfl hb45) rfl rfl fun a49 hS49 => st_off hS49 (want_off hS49 rfl rfl rfl hb45) rfl rfl fun a50 hS50 => st_off hS50 (want_off hS50 rfl rfl rfl hb45) rfl rfl fun a51 hS51 => st_val hS51 rfl rfl rfl (r_pickT hS51 rfl rfl rfl hb45) fun a52 hS52 => hk _ (hS52.re ⟨rfl, rfl, (by rw [hb45]; rfl), trivial⟩)
    · refine st_valW hS44 (want_on hS44 rfl rfl rfl hb45) rfl rfl (r_fieldB (off := 12) hS44 rfl rfl (by kernel_rfl)) fun a53 hS53 => st_valW hS53 (want_on hS53 rfl rfl rfl hb45) rfl rfl (r_load1 (n := 1) hS53 rfl rfl (by kernel_rfl) (Bx.cell h2 rfl)) fun a54 hS54 => st_valW hS54 (want_on hS54 rfl rfl rfl hb45) rfl rfl (r_bin hS54 rfl rfl rfl b_lss) fun a55 hS55 => st_val hS55 rfl rfl rfl (r_pickF hS55 rfl rfl rfl hb45) fun a56 hS56 => hk _ (hS56.re ⟨rfl, rfl, (by rw [hb45]; rfl), trivial⟩)
  intro a57 hS57
  refine st_val hS57 rfl rfl rfl (r_move hS57 rfl rfl) fun a58 hS58 => ?_
  refine g_join (N := 115) 4 [(2, .int .i64 p2), (3, .pointer (some ⟨b1, 0, none⟩)), (34, .bool (((((decide (p0.Parent < (-1))) || (decide (p1 ≤ p0.Parent))) || (p0.Deepest.a0 != 0)) || (decide (p0.WakeSystem < 0))) || (decide (4 < p0.WakeSystem))))] ?_ (fun hk => ?_)
  rotate_left
  · rcases Bool.eq_false_or_eq_true (((((decide (p0.Parent < (-1))) || (decide (p1 ≤ p0.Parent))) || (p0.Deepest.a0 != 0)) || (decide (p0.WakeSystem < 0)))) with hb59 | hb59
    · refine st_off hS58 (want_off hS58 rfl rfl rfl hb59) rfl rfl fun a63 hS63 => st_off hS63 (want_off hS63 rfl rfl rfl hb59) rfl rfl fun a64 hS64 => st_off hS64 (want_off hS64 rfl rfl rfl hb59) rfl rfl fun a65 hS65 => st_val hS65 rfl rfl rfl (r_pickT hS65 rfl rfl rfl hb59) fun a66 hS66 => hk _ (hS66.re ⟨rfl, rfl, (by rw [hb59]; rfl), trivial⟩)
    · refine st_valW hS58 (want_on hS58 rfl rfl rfl hb59) rfl rfl (r_fieldB (off := 12) hS58 rfl rfl (by kernel_rfl)) fun a67 hS67 => st_valW hS67 (want_on hS67 rfl rfl rfl hb59) rfl rfl (r_load1 (n := 1) hS67 rfl rfl (by kernel_rfl) (Bx.cell h2 rfl)) fun a68 hS68 => st_valW hS68 (want_on hS68 rfl rfl rfl hb59) rfl rfl (r_bin hS68 rfl rfl rfl b_gtr) fun a69 hS69 => st_val hS69 rfl rfl rfl (r_pickF hS69 rfl rfl rfl hb59) fun a70 hS70 => hk _ (hS70.re ⟨rfl, rfl, (by rw [hb59]; rfl), trivial⟩)
  intro a71 hS71
  refine st_val hS71 rfl rfl rfl (r_move hS71 rfl rfl) fun a72 hS72 => ?_
  refine g_join (N := 115) 4 [(2, .int .i64 p2), (3, .pointer (some ⟨b1, 0, none⟩)), (39, .bool ((((((decide (p0.Parent < (-1))) || (decide (p1 ≤ p0.Parent))) || (p0.Deepest.a0 != 0)) || (decide (p0.WakeSystem < 0))) || (decide (4 < p0.WakeSystem))) || (decide (p0.WakeDevice < 0))))] ?_ (fun hk => ?_)
  rotate_left
  · rcases Bool.eq_false_or_eq_true ((((((decide (p0.Parent < (-1))) || (decide (p1 ≤ p0.Parent))) || (p0.Deepest.a0 != 0)) || (decide (p0.WakeSystem < 0))) || (decide (4 < p0.WakeSystem)))) with hb73 | hb73
    · refine st_off hS72 (want_off hS72 rfl rfl rfl hb73) rfl rfl fun a77 hS77 => st_off hS77 (want_off hS77 rfl rfl rfl hb73) rfl rfl fun a78 hS78 => st_off hS78 (want_off hS78 rfl rfl rfl hb73) rfl rfl fun a79 hS79 => st_val hS79 rfl rfl rfl (r_pickT hS79 rfl rfl rfl hb73) fun a80 hS80 => hk _ (hS80.re ⟨rfl, rfl, (by rw [hb73]; rfl), trivial⟩)
    · refine st_valW hS72 (want_on hS72 rfl rfl rfl hb73) rfl rfl (r_fieldB (off := 11) hS72 rfl rfl (by kernel_rfl)) fun a81 hS81 => st_valW hS81 (want_on hS81 rfl rfl rfl hb73) rfl rfl (r_load1 (n := 1) hS81 rfl rfl (by kernel_rfl) (Bx.cell h2 rfl)) fun a82 hS82 => st_valW hS82 (want_on hS82 rfl rfl rfl hb73) rfl rfl (r_bin hS82 rfl rfl rfl b_lss) fun a83 hS83 => st_val hS83 rfl rfl rfl (r_pickF hS83 rfl rfl rfl hb73) fun a84 hS84 => hk _ (hS84.re ⟨rfl, rfl, (by rw [hb73]; rfl), trivial⟩)
  intro a85 hS85
  refine st_val hS85 rfl rfl rfl (r_move hS85 rfl rfl) fun a86 hS86 => ?_
  refine g_join (N := 115) 4 [(2, .int .i64 p2), (3, .pointer (some ⟨b1, 0, none⟩)), (44, .bool (((((((decide (p0.Parent < (-1))) || (decide (p1 ≤ p0.Parent))) || (p0.Deepest.a0 != 0)) || (decide (p0.WakeSystem < 0))) || (decide (4 < p0.WakeSystem))) || (decide (p0.WakeDevice < 0))) || (decide (3 < p0.WakeDevice))))] ?_ (fun hk => ?_)
  rotate_left
  · rcases Bool.eq_false_or_eq_true (((((((decide (p0.Parent < (-1))) || (decide (p1 ≤ p0.Parent))) || (p0.Deepest.a0 != 0)) || (decide (p0.WakeSystem < 0))) || (decide (4 < p0.WakeSystem))) || (decide (p0.WakeDevice < 0)))) with hb87 | hb87
    · refine st_off hS86 (want_off hS86 rfl rfl rfl hb87) rfl rfl fun a91 hS91 => st_off hS91 (want_off hS91 rfl rfl rfl hb87) rfl rfl fun a92 hS92 => st_off hS92 (want_off hS92 rfl rfl rfl hb87) rfl rfl fun a93 hS93 => st_val hS93 rfl rfl rfl (r_pickT hS93 rfl rfl rfl hb87) fun a94 hS94 => hk _ (hS94.re ⟨rfl, rfl, (by rw [hb87]; rfl), trivial⟩)
    · refine st_valW hS86 (want_on hS86 rfl rfl rfl hb87) rfl rfl (r_fieldB (off := 11) hS86 rfl rfl (by kernel_rfl)) fun a95 hS95 => st_valW hS95 (want_on hS95 rfl rfl rfl hb87) rfl rfl (r_load1 (n := 1) hS95 rfl rfl (by kernel_rfl) (Bx.cell h2 rfl)) fun a96 hS96 => st_valW hS96 (want_on hS96 rfl rfl rfl hb87) rfl rfl (r_bin hS96 rfl rfl rfl b_gtr) fun a97 hS97 => st_val hS97 rfl rfl rfl (r_pickF hS97 rfl rfl rfl hb87) fun a98 hS98 => hk _ (hS98.re ⟨rfl, rfl, (by rw [hb87]; rfl), trivial⟩)
  intro a99 hS99
  refine wpList_nil (hK _ _ ?_)
  replace hS : Sl 115 _ [(2, .int .i64 p2), (3, .pointer (some ⟨b1, 0, none⟩)), (44, .bool (((((((decide (p0.Parent < (-1))) || (decide (p1 ≤ p0.Parent))) || (p0.Deepest.a0 != 0)) || (decide (p0.WakeSystem < 0))) || (decide (4 < p0.WakeSystem))) || (decide (p0.WakeDevice < 0))) || (decide (3 < p0.WakeDevice))))] := hS99.re ⟨rfl, rfl, rfl, trivial⟩
  clear hK K
  try clear hS7 hS8 hS9 hS10 hS26 hS27 hS43 hS44 hS57 hS58 hS71 hS72 hS85 hS86 hS99
  obtain ⟨a, ha⟩ : ∃ a', a' = a99 := ⟨_, rfl⟩
  rw [← ha] at hS ⊢; clear ha
  refine c_cond hS rfl (fun hb100 => ?_) (fun hb100 => ?_)
  · replace H := ite_t hb100 H
    refine c_pure [(6, .bool false)] (fun R hR => st_val hS rfl rfl rfl (r_assign hS rfl rfl) fun a101 hS101 => wpList_nil (hR _ (hS101.re ⟨rfl, trivial⟩))) ?_
    clear hS
    clear a
    intro a hS
    refine wp_ret ?_
    have e := Option.some.inj H
    subst e
    repeat (with_reducible first | refine then_ret ?_ | refine inBlock_ret ?_)
    exact c_ret1 hS Try.results40 rfl ⟨_, rfl, g5, rfl, hF⟩
  · replace H := ite_f hb100 H
    refine wp_skip ?_
    change Code.wp _ _ _ _ _
    obtain ⟨o104, H, Hl105⟩ := bind_el H
    refine c_cut (fun a w102 => ∃ (g102 : Nat → Nat), o104 = .nxt () ∧ Sl 115 a [(3, .pointer (some ⟨b1, 0, none⟩))] ∧ Bx w102 g102 (N + 0) b1 33 [.int .i64 p0.Parent, .slice A0_0 p0.Rails.a0.length cap0_0, .slice A0_1 p0.Rails.a1.length cap0_1, .slice A0_2 p0.Rails.a2.length cap0_2, .slice A0_3 p0.Rails.a3.length cap0_3, .int .i64 p0.Deepest.a0, .int .i64 p0.Deepest.a1, .int .i64 p0.Deepest.a2, .int .i64 p0.Deepest.a3, .int .i64 p0.Deepest.a4, .int .i64 p0.Deepest.a5, .int .i64 p0.WakeDevice, .int .i64 p0.WakeSystem] ∧ RdS (kint .i64) w102 g102 C0 A0_0 cap0_0 p0.Rails.a0 ∧ RdS (kint .i64) w102 g102 C0 A0_1 cap0_1 p0.Rails.a1 ∧ RdS (kint .i64) w102 g102 C0 A0_2 cap0_2 p0.Rails.a2 ∧ RdS (kint .i64) w102 g102 C0 A0_3 cap0_3 p0.Rails.a3 ∧ Fr (fun q => N ≤ q) w g w102 g102) ?_ ?_
    · refine c_pure [(2, .int .i64 p2), (3, .pointer (some ⟨b1, 0, none⟩)), (7, .int .i64 0)] (fun R hR => st_val hS rfl rfl rfl (r_assign hS rfl rfl) fun a106 hS106 => wpList_nil (hR _ (hS106.re ⟨rfl, rfl, rfl, trivial⟩))) ?_
      clear hS
      clear a
      intro a hS
      refine wp_block ?_
      refine wp_loop_ghost (fun kq => fun a w107 => ∃ (m0_0 : Int), ∃ (g107 : Nat → Nat), ref27_valid.l0 p0 p2 kq m0_0 = some o104 ∧ Sl 115 a [(2, .int .i64 p2), (3, .pointer (some ⟨b1, 0, none⟩)), (7, .int .i64 m0_0)] ∧ Bx w107 g107 (N + 0) b1 33 [.int .i64 p0.Parent, .slice A0_0 p0.Rails.a0.length cap0_0, .slice A0_1 p0.Rails.a1.length cap0_1, .slice A0_2 p0.Rails.a2.length cap0_2, .slice A0_3 p0.Rails.a3.length cap0_3, .int .i64 p0.Deepest.a0, .int .i64 p0.Deepest.a1, .int .i64 p0.Deepest.a2, .int .i64 p0.Deepest.a3, .int .i64 p0.Deepest.a4, .int .i64 p0.Deepest.a5, .int .i64 p0.WakeDevice, .int .i64 p0.WakeSystem] ∧ RdS (kint .i64) w107 g107 C0 A0_0 cap0_0 p0.Rails.a0 ∧ RdS (kint .i64) w107 g107 C0 A0_1 cap0_1 p0.Rails.a1 ∧ RdS (kint .i64) w107 g107 C0 A0_2 cap0_2 p0.Rails.a2 ∧ RdS (kint .i64) w107 g107 C0 A0_3 cap0_3 p0.Rails.a3 ∧ Fr (fun q => N ≤ q) w g w107 g107) FUEL ?_ ?_
      · exact ⟨0, g5, H, hS.re ⟨rfl, rfl, rfl, trivial⟩, h2, hp0_0, hp0_1, hp0_2, hp0_3, hF⟩
      · clear H
        clear hp0_0 hp0_1 hp0_2 hp0_3 h2 hF
        clear hS
        rintro k108 a w107 ⟨m0_0, g107, hpre0, hS, h2, hp0_0, hp0_1, hp0_2, hp0_3, hF⟩
        have H := hpre0
        clear hpre0
        cases k108 with
        | zero => exact absurd H (by simp [ref27_valid.l0])
        | succ k108 =>
          rw [ref27_valid.l0] at H
          refine wp_seq ?_
          refine c_pure [(2, .int .i64 p2), (3, .pointer (some ⟨b1, 0, none⟩)), (7, .int .i64 m0_0), (46, .bool (decide (m0_0 < 4)))] (fun R hR => st_val hS rfl rfl rfl (r_move hS rfl rfl) fun a109 hS109 => st_val hS109 rfl rfl rfl (r_bin hS109 rfl rfl rfl b_lss) fun a110 hS110 => wpList_nil (hR _ (hS110.re ⟨rfl, rfl, rfl, rfl, trivial⟩))) ?_
          clear hS
          clear a
          intro a hS
          refine c_cond hS rfl (fun hb111 => ?_) (fun hb111 => ?_)
          · replace H := ite_t hb111 H
            refine wp_skip ?_
            change Code.wp _ _ _ _ _
            obtain ⟨o114, H, Hl115⟩ := bind_el H
            refine c_cut (fun a w112 => ∃ (g112 : Nat → Nat), o114 = .nxt () ∧ Sl 115 a [(2, .int .i64 p2), (3, .pointer (some ⟨b1, 0, none⟩)), (7, .int .i64 m0_0)] ∧ Bx w112 g112 (N + 0) b1 33 [.int .i64 p0.Parent, .slice A0_0 p0.Rails.a0.length cap0_0, .slice A0_1 p0.Rails.a1.length cap0_1, .slice A0_2 p0.Rails.a2.length cap0_2, .slice A0_3 p0.Rails.a3.length cap0_3, .int .i64 p0.Deepest.a0, .int .i64 p0.Deepest.a1, .int .i64 p0.Deepest.a2, .int .i64 p0.Deepest.a3, .int .i64 p0.Deepest.a4, .int .i64 p0.Deepest.a5, .int .i64 p0.WakeDevice, .int .i64 p0.WakeSystem] ∧ RdS (kint .i64) w112 g112 C0 A0_0 cap0_0 p0.Rails.a0 ∧ RdS (kint .i64) w112 g112 C0 A0_1 cap0_1 p0.Rails.a1 ∧ RdS (kint .i64) w112 g112 C0 A0_2 cap0_2 p0.Rails.a2 ∧ RdS (kint .i64) w112 g112 C0 A0_3 cap0_3 p0.Rails.a3 ∧ Fr (fun q => N ≤ q) w g w112 g112) ?_ ?_
            · refine wp_block ?_
              refine wp_seq ?_
              obtain ⟨x118, hx119, H⟩ := bind_el H
              obtain ⟨r128, hr129, H⟩ := bind_el H
              refine c_region (fun K hK => ?_)
              refine st_val hS rfl rfl rfl (r_move hS rfl rfl) fun a116 hS116 => st_val hS116 rfl rfl rfl (r_fieldB (off := 1) hS116 rfl rfl (by kernel_rfl)) fun a117 hS117 => ?_
              obtain ⟨A121, cap122, he120, h123⟩ : ∃ (A121 : Option Addr) (cap122 : Nat), (([.int .i64 p0.Parent, .slice A0_0 p0.Rails.a0.length cap0_0, .slice A0_1 p0.Rails.a1.length cap0_1, .slice A0_2 p0.Rails.a2.length cap0_2, .slice A0_3 p0.Rails.a3.length cap0_3, .int .i64 p0.Deepest.a0, .int .i64 p0.Deepest.a1, .int .i64 p0.Deepest.a2, .int .i64 p0.Deepest.a3, .int .i64 p0.Deepest.a4, .int .i64 p0.Deepest.a5, .int .i64 p0.WakeDevice, .int .i64 p0.WakeSystem] : List Value).drop (1 + m0_0.toNat * 1)).take 1 = [.slice A121 x118.length cap122] ∧ RdS (kint .i64) w107 g107 C0 A121 cap122 x118 := by
                rcases Ar4.cases hx119 with ⟨e, e2⟩ | ⟨e, e2⟩ | ⟨e, e2⟩ | ⟨e, e2⟩
                · subst e2; exact ⟨A0_0, cap0_0, (by rw [e] <;> rfl), hp0_0⟩
                · subst e2; exact ⟨A0_1, cap0_1, (by rw [e] <;> rfl), hp0_1⟩
                · subst e2; exact ⟨A0_2, cap0_2, (by rw [e] <;> rfl), hp0_2⟩
                · subst e2; exact ⟨A0_3, cap0_3, (by rw [e] <;> rfl), hp0_3⟩
              refine st_val hS117 rfl rfl rfl (r_ixB (n := 4) (e := 29) (sz := 1) (bb := false) hS117 rfl rfl rfl (by kernel_rfl) (idx_lo hx119) (Ar4.lt hx119)) fun a126 hS126 => st_val hS126 rfl rfl rfl (r_load1 (n := 1) hS126 rfl rfl (by kernel_rfl) (Bx.at_ (j := 0) h2 he120 rfl)) fun a127 hS127 => ?_
              refine st_enter hS127 rfl rfl rfl (r_call hS127 rfl rfl (by kernel_rfl)) (ref27_ascending.calls (C0 := C0) (p0 := x118) (g := g107) (N + 2)  h123 (fun q (hq : C0 q) => by have := hC0 q hq; omega) hr129) ?_
              rintro _ a130 w131 ⟨g131, rfl, F131⟩ hS130
              replace h123 := RdS.fr h123 F131 (by decide) (fun q (hq : C0 q) (hm : N + 2 ≤ q) => by have := hC0 q hq; omega)
              replace h2 := h2.fr F131 (fun (hm : N + 2 ≤ N + 0) => by omega)
              replace hp0_0 := RdS.fr hp0_0 F131 (by decide) (fun q (hq : C0 q) (hm : N + 2 ≤ q) => by have := hC0 q hq; omega)
              replace hp0_1 := RdS.fr hp0_1 F131 (by decide) (fun q (hq : C0 q) (hm : N + 2 ≤ q) => by have := hC0 q hq; omega)
              replace hp0_2 := RdS.fr hp0_2 F131 (by decide) (fun q (hq : C0 q) (hm : N + 2 ≤ q) => by have := hC0 q hq; omega)
              replace hp0_3 := RdS.fr hp0_3 F131 (by decide) (fun q (hq : C0 q) (hm : N + 2 ≤ q) => by have := hC0 q hq; omega)
              replace hF := hF.trans F131 (fun c' (hm : N + 2 ≤ c') => by show N ≤ c'; omega)
              refine st_val hS130 rfl rfl rfl (r_not hS130 rfl rfl) fun a132 hS132 => wpList_nil (hK _ _ ?_)
              replace hS : Sl 115 _ [(2, .int .i64 p2), (3, .pointer (some ⟨b1, 0, none⟩)), (7, .int .i64 m0_0), (54, .bool (!r128))] := hS132.re ⟨rfl, rfl, rfl, rfl, trivial⟩
              clear hK K
              try clear hS116 hS117 hS126 hS127 hS130 hS132
              obtain ⟨a, ha⟩ : ∃ a', a' = a132 := ⟨_, rfl⟩
              rw [← ha] at hS ⊢; clear ha
              refine c_cond hS rfl (fun hb133 => ?_) (fun hb133 => ?_)
              · replace H := ite_t hb133 H
                refine c_pure [(6, .bool false)] (fun R hR => st_val hS rfl rfl rfl (r_assign hS rfl rfl) fun a134 hS134 => wpList_nil (hR _ (hS134.re ⟨rfl, trivial⟩))) ?_
                clear hS
                clear a
                intro a hS
                refine wp_ret ?_
                have e := Option.some.inj H
                subst e
                replace H := Fl.go_out Hl115
                have e := Option.some.inj H
                subst e
                replace H := Fl.go_out Hl105
                have e := Option.some.inj H
                subst e
                repeat (with_reducible first | refine then_ret ?_ | refine inBlock_ret ?_)
                exact c_ret1 hS Try.results40 rfl ⟨_, rfl, g131, rfl, hF⟩
              · replace H := ite_f hb133 H
                refine wp_skip ?_
                change Code.wp _ _ _ _ _
                refine c_pure [(2, .int .i64 p2), (3, .pointer (some ⟨b1, 0, none⟩)), (7, .int .i64 m0_0), (8, .int .i64 0)] (fun R hR => st_val hS rfl rfl rfl (r_assign hS rfl rfl) fun a135 hS135 => wpList_nil (hR _ (hS135.re ⟨rfl, rfl, rfl, rfl, trivial⟩))) ?_
                clear hS
                clear a
                intro a hS
                refine wp_block ?_
                refine wp_loop_ghost (fun kq => fun a w' => ∃ (m1_0 : Int), ref27_valid.l1 p2 x118 kq m1_0 = some o114 ∧ w131 = w' ∧ Sl 115 a [(2, .int .i64 p2), (3, .pointer (some ⟨b1, 0, none⟩)), (7, .int .i64 m0_0), (8, .int .i64 m1_0)]) FUEL ?_ ?_
                · exact ⟨0, H, rfl, hS.re ⟨rfl, rfl, rfl, rfl, trivial⟩⟩
                · clear H
                  clear hS
                  rintro k136 a w' ⟨m1_0, hpre0, hw, hS⟩
                  subst hw
                  have H := hpre0
                  clear hpre0
                  cases k136 with
                  | zero => exact absurd H (by simp [ref27_valid.l1])
                  | succ k136 =>
                    rw [ref27_valid.l1] at H
                    refine wp_seq ?_
                    refine c_region (fun K hK => ?_)
                    refine st_val hS rfl rfl rfl (r_move hS rfl rfl) fun a137 hS137 => st_val hS137 rfl rfl rfl (r_move hS137 rfl rfl) fun a138 hS138 => st_val hS138 rfl rfl rfl (r_fieldB (off := 1) hS138 rfl rfl (by kernel_rfl)) fun a139 hS139 => ?_
                    obtain ⟨A141, cap142, he140, h143⟩ : ∃ (A141 : Option Addr) (cap142 : Nat), (([.int .i64 p0.Parent, .slice A0_0 p0.Rails.a0.length cap0_0, .slice A0_1 p0.Rails.a1.length cap0_1, .slice A0_2 p0.Rails.a2.length cap0_2, .slice A0_3 p0.Rails.a3.length cap0_3, .int .i64 p0.Deepest.a0, .int .i64 p0.Deepest.a1, .int .i64 p0.Deepest.a2, .int .i64 p0.Deepest.a3, .int .i64 p0.Deepest.a4, .int .i64 p0.Deepest.a5, .int .i64 p0.WakeDevice, .int .i64 p0.WakeSystem] : List Value).drop (1 + m0_0.toNat * 1)).take 1 = [.slice A141 x118.length cap142] ∧ RdS (kint .i64) w131 g131 C0 A141 cap142 x118 := by
                      rcases Ar4.cases hx119 with ⟨e, e2⟩ | ⟨e, e2⟩ | ⟨e, e2⟩ | ⟨e, e2⟩
                      · subst e2; exact ⟨A0_0, cap0_0, (by rw [e] <;> rfl), hp0_0⟩
                      · subst e2; exact ⟨A0_1, cap0_1, (by rw [e] <;> rfl), hp0_1⟩
                      · subst e2; exact ⟨A0_2, cap0_2, (by rw [e] <;> rfl), hp0_2⟩
                      · subst e2; exact ⟨A0_3, cap0_3, (by rw [e] <;> rfl), hp0_3⟩
                    refine st_val hS139 rfl rfl rfl (r_ixB (n := 4) (e := 29) (sz := 1) (bb := false) hS139 rfl rfl rfl (by kernel_rfl) (idx_lo hx119) (Ar4.lt hx119)) fun a146 hS146 => st_val hS146 rfl rfl rfl (r_load1 (n := 1) hS146 rfl rfl (by kernel_rfl) (Bx.at_ (j := 0) h2 he140 rfl)) fun a147 hS147 => st_val hS147 rfl rfl rfl (r_len (e := 3) (sz := 1) (by_ := 8) hS147 rfl rfl (by kernel_rfl)) fun a148 hS148 => st_val hS148 rfl rfl rfl (r_bin hS148 rfl rfl rfl b_lss) fun a149 hS149 => wpList_nil (hK _ _ ?_)
                    replace hS : Sl 115 _ [(2, .int .i64 p2), (3, .pointer (some ⟨b1, 0, none⟩)), (7, .int .i64 m0_0), (8, .int .i64 m1_0), (61, .bool (decide (m1_0 < (x118.length : Int))))] := hS149.re ⟨rfl, rfl, rfl, rfl, rfl, trivial⟩
                    clear hK K
                    try clear hS137 hS138 hS139 hS146 hS147 hS148 hS149
                    obtain ⟨a, ha⟩ : ∃ a', a' = a149 := ⟨_, rfl⟩
                    rw [← ha] at hS ⊢; clear ha
                    refine c_cond hS rfl (fun hb150 => ?_) (fun hb150 => ?_)
                    · replace H := ite_t hb150 H
                      refine wp_skip ?_
                      change Code.wp _ _ _ _ _
                      refine wp_seq ?_
                      refine wp_block ?_
                      obtain ⟨x162, hx163, H⟩ := bind_el H
                      refine c_region (fun K hK => ?_)
                      refine st_val hS rfl rfl rfl (r_move hS rfl rfl) fun a151 hS151 => st_val hS151 rfl rfl rfl (r_fieldB (off := 1) hS151 rfl rfl (by kernel_rfl)) fun a152 hS152 => ?_
                      obtain ⟨A154, cap155, he153, h156⟩ : ∃ (A154 : Option Addr) (cap155 : Nat), (([.int .i64 p0.Parent, .slice A0_0 p0.Rails.a0.length cap0_0, .slice A0_1 p0.Rails.a1.length cap0_1, .slice A0_2 p0.Rails.a2.length cap0_2, .slice A0_3 p0.Rails.a3.length cap0_3, .int .i64 p0.Deepest.a0, .int .i64 p0.Deepest.a1, .int .i64 p0.Deepest.a2, .int .i64 p0.Deepest.a3, .int .i64 p0.Deepest.a4, .int .i64 p0.Deepest.a5, .int .i64 p0.WakeDevice, .int .i64 p0.WakeSystem] : List Value).drop (1 + m0_0.toNat * 1)).take 1 = [.slice A154 x118.length cap155] ∧ RdS (kint .i64) w131 g131 C0 A154 cap155 x118 := by
                        rcases Ar4.cases hx119 with ⟨e, e2⟩ | ⟨e, e2⟩ | ⟨e, e2⟩ | ⟨e, e2⟩
                        · subst e2; exact ⟨A0_0, cap0_0, (by rw [e] <;> rfl), hp0_0⟩
                        · subst e2; exact ⟨A0_1, cap0_1, (by rw [e] <;> rfl), hp0_1⟩
                        · subst e2; exact ⟨A0_2, cap0_2, (by rw [e] <;> rfl), hp0_2⟩
                        · subst e2; exact ⟨A0_3, cap0_3, (by rw [e] <;> rfl), hp0_3⟩
                      refine st_val hS152 rfl rfl rfl (r_ixB (n := 4) (e := 29) (sz := 1) (bb := false) hS152 rfl rfl rfl (by kernel_rfl) (idx_lo hx119) (Ar4.lt hx119)) fun a159 hS159 => st_val hS159 rfl rfl rfl (r_load1 (n := 1) hS159 rfl rfl (by kernel_rfl) (Bx.at_ (j := 0) h2 he153 rfl)) fun a160 hS160 => st_val hS160 rfl rfl rfl (r_move hS160 rfl rfl) fun a161 hS161 => st_val hS161 rfl rfl rfl (r_index (e := 3) (sz := 1) (by_ := 8) hS161 rfl rfl rfl (by kernel_rfl) (RdS.some_ h156 hx163) (idx_lo hx163) (idx_hi hx163)) fun a164 hS164 => st_val hS164 rfl rfl rfl (r_load1 (n := 1) hS164 rfl rfl (by kernel_rfl) (RdS.cell (i := m1_0) (sz := 1) (j := 0) h156 hx163 rfl)) fun a165 hS165 => st_val hS165 rfl rfl rfl (r_bin hS165 rfl rfl rfl b_lss) fun a166 hS166 => st_val hS166 rfl rfl rfl (r_move hS166 rfl rfl) fun a167 hS167 => ?_
                      refine g_join (N := 115) 10 [(2, .int .i64 p2), (3, .pointer (some ⟨b1, 0, none⟩)), (7, .int .i64 m0_0), (8, .int .i64 m1_0), (82, .bool ((decide (x162 < 0)) || (decide (p2 ≤ x162))))] ?_ (fun hk => ?_)
                      rotate_left
                      · rcases Bool.eq_false_or_eq_true (decide (x162 < 0)) with hb168 | hb168
                        · refine st_off hS167 (want_off hS167 rfl rfl rfl hb168) rfl rfl fun a178 hS178 => st_off hS178 (want_off hS178 rfl rfl rfl hb168) rfl rfl fun a179 hS179 => st_off hS179 (want_off hS179 rfl rfl rfl hb168) rfl rfl fun a180 hS180 => st_off hS180 (want_off hS180 rfl rfl rfl hb168) rfl rfl fun a181 hS181 => st_off hS181 (want_off hS181 rfl rfl rfl hb168) rfl rfl fun a182 hS182 => st_off hS182 (want_off hS182 rfl rfl rfl hb168) rfl rfl fun a183 hS183 => st_off hS183 (want_off hS183 rfl rfl rfl hb168) rfl rfl fun a184 hS184 => st_off hS184 (want_off hS184 rfl rfl rfl hb168) rfl rfl fun a185 hS185 => st_off hS185 (want_off hS185 rfl rfl rfl hb168) rfl rfl fun a186 hS186 => st_val hS186 rfl rfl rfl (r_pickT hS186 rfl rfl rfl hb168) fun a187 hS187 => hk _ (hS187.re ⟨rfl, rfl, rfl, rfl, (by rw [hb168]; rfl), trivial⟩)
                        · refine st_valW hS167 (want_on hS167 rfl rfl rfl hb168) rfl rfl (r_move hS167 rfl rfl) fun a188 hS188 => st_valW hS188 (want_on hS188 rfl rfl rfl hb168) rfl rfl (r_fieldB (off := 1) hS188 rfl rfl (by kernel_rfl)) fun a189 hS189 => st_valW hS189 (want_on hS189 rfl rfl rfl hb168) rfl rfl (r_ixB (n := 4) (e := 29) (sz := 1) (bb := false) hS189 rfl rfl rfl (by kernel_rfl) (idx_lo hx119) (Ar4.lt hx119)) fun a190 hS190 => st_valW hS190 (want_on hS190 rfl rfl rfl hb168) rfl rfl (r_load1 (n := 1) hS190 rfl rfl (by kernel_rfl) (Bx.at_ (j := 0) h2 he153 rfl)) fun a191 hS191 => st_valW hS191 (want_on hS191 rfl rfl rfl hb168) rfl rfl (r_move hS191 rfl rfl) fun a192 hS192 => st_valW hS192 (want_on hS192 rfl rfl rfl hb168) rfl rfl (r_index (e := 3) (sz := 1) (by_ := 8) hS192 rfl rfl rfl (by kernel_rfl) (RdS.some_ h156 hx163) (idx_lo hx163) (idx_hi hx163)) fun a193 hS193 => st_valW hS193 (want_on hS193 rfl rfl rfl hb168) rfl rfl (r_load1 (n := 1) hS193 rfl rfl (by kernel_rfl) (RdS.cell (i := m1_0) (sz := 1) (j := 0) h156 hx163 rfl)) fun a194 hS194 => st_valW hS194 (want_on hS194 rfl rfl rfl hb168) rfl rfl (r_move hS194 rfl rfl) fun a195 hS195 => st_valW hS195 (want_on hS195 rfl rfl rfl hb168) rfl rfl (r_bin hS195 rfl rfl rfl b_geq) fun a196 hS196 => st_val hS196 rfl rfl rfl (r_pickF hS196 rfl rfl rfl hb168) fun a197 hS197 => hk _ (hS197.re ⟨rfl, rfl, rfl, rfl, (by rw [hb168]; rfl), trivial⟩)
                      intro a198 hS198
                      refine wpList_nil (hK _ _ ?_)
                      replace hS : Sl 115 _ [(2, .int .i64 p2), (3, .pointer (some ⟨b1, 0, none⟩)), (7, .int .i64 m0_0), (8, .int .i64 m1_0), (82, .bool ((decide (x162 < 0)) || (decide (p2 ≤ x162))))] := hS198.re ⟨rfl, rfl, rfl, rfl, rfl, trivial⟩
                      clear hK K
                      try clear hS151 hS152 hS159 hS160 hS161 hS164 hS165 hS166 hS167 hS198
                      obtain ⟨a, ha⟩ : ∃ a', a' = a198 := ⟨_, rfl⟩
                      rw [← ha] at hS ⊢; clear ha
                      refine c_cond hS rfl (fun hb199 => ?_) (fun hb199 => ?_)
                      · replace H := ite_t hb199 H
                        refine c_pure [(6, .bool false)] (fun R hR => st_val hS rfl rfl rfl (r_assign hS rfl rfl) fun a200 hS200 => wpList_nil (hR _ (hS200.re ⟨rfl, trivial⟩))) ?_
                        clear hS
                        clear a
                        intro a hS
                        refine wp_ret ?_
                        have e := Option.some.inj H
                        subst e
                        replace H := Fl.go_out Hl115
                        have e := Option.some.inj H
                        subst e
                        replace H := Fl.go_out Hl105
                        have e := Option.some.inj H
                        subst e
                        repeat (with_reducible first | refine then_ret ?_ | refine inBlock_ret ?_)
                        exact c_ret1 hS Try.results40 rfl ⟨_, rfl, g131, rfl, hF⟩
                      · replace H := ite_f hb199 H
                        refine wp_skip ?_
                        change Code.wp _ _ _ _ _
                        refine c_pure1 [(2, .int .i64 p2), (3, .pointer (some ⟨b1, 0, none⟩)), (7, .int .i64 m0_0), (8, .int .i64 (wi (m1_0 + 1)))] (fun R hR => st_val hS rfl rfl rfl (r_move hS rfl rfl) fun a201 hS201 => st_val hS201 rfl rfl rfl (r_bin hS201 rfl rfl rfl b_add) fun a202 hS202 => st_val hS202 rfl rfl rfl (r_assign hS202 rfl rfl) fun a203 hS203 => wpList_nil (hR _ (hS203.re ⟨rfl, rfl, rfl, rfl, trivial⟩))) ?_
                        clear hS
                        clear a
                        intro a hS
                        refine ⟨k136, Nat.lt_succ_self _, ?_⟩
                        exact ⟨wi (m1_0 + 1), H, rfl, hS.re ⟨rfl, rfl, rfl, rfl, trivial⟩⟩
                    · replace H := ite_f hb150 H
                      refine wp_exit ?_
                      have e := Option.some.inj H
                      exact ⟨g131, e.symm, hS.re ⟨rfl, rfl, rfl, trivial⟩, h2, hp0_0, hp0_1, hp0_2, hp0_3, hF⟩
            · clear H
              clear hp0_0 hp0_1 hp0_2 hp0_3 h2 hF
              clear hS
              rintro a w112 ⟨g112, hpre0, hS, h2, hp0_0, hp0_1, hp0_2, hp0_3, hF⟩
              subst hpre0
              have H := Fl.go_nxt Hl115
              clear Hl115
              refine c_pure1 [(2, .int .i64 p2), (3, .pointer (some ⟨b1, 0, none⟩)), (7, .int .i64 (wi (m0_0 + 1)))] (fun R hR => st_val hS rfl rfl rfl (r_move hS rfl rfl) fun a204 hS204 => st_val hS204 rfl rfl rfl (r_bin hS204 rfl rfl rfl b_add) fun a205 hS205 => st_val hS205 rfl rfl rfl (r_assign hS205 rfl rfl) fun a206 hS206 => wpList_nil (hR _ (hS206.re ⟨rfl, rfl, rfl, trivial⟩))) ?_
              clear hS
              clear a
              intro a hS
              refine ⟨k108, Nat.lt_succ_self _, ?_⟩
              exact ⟨wi (m0_0 + 1), g112, H, hS.re ⟨rfl, rfl, rfl, trivial⟩, h2, hp0_0, hp0_1, hp0_2, hp0_3, hF⟩
          · replace H := ite_f hb111 H
            refine wp_exit ?_
            have e := Option.some.inj H
            exact ⟨g107, e.symm, hS.re ⟨rfl, trivial⟩, h2, hp0_0, hp0_1, hp0_2, hp0_3, hF⟩
    · clear H
      clear hp0_0 hp0_1 hp0_2 hp0_3 h2 hF
      clear hS
      rintro a w102 ⟨g102, hpre0, hS, h2, hp0_0, hp0_1, hp0_2, hp0_3, hF⟩
      subst hpre0
      have H := Fl.go_nxt Hl105
      clear Hl105
      obtain ⟨o209, H, Hl210⟩ := bind_el H
      refine c_cut (fun a w207 => ∃ (g207 : Nat → Nat), o209 = .nxt () ∧ Sl 115 a [] ∧ Fr (fun q => N ≤ q) w g w207 g207) ?_ ?_
      · refine c_pure [(3, .pointer (some ⟨b1, 0, none⟩)), (9, .int .i64 0)] (fun R hR => st_val hS rfl rfl rfl (r_assign hS rfl rfl) fun a211 hS211 => wpList_nil (hR _ (hS211.re ⟨rfl, rfl, trivial⟩))) ?_
        clear hS
        clear a
        intro a hS
        refine wp_block ?_
        refine wp_loop_ghost (fun kq => fun a w212 => ∃ (m2_0 : Int), ∃ (g212 : Nat → Nat), ref27_valid.l2 p0 kq m2_0 = some o209 ∧ Sl 115 a [(3, .pointer (some ⟨b1, 0, none⟩)), (9, .int .i64 m2_0)] ∧ Bx w212 g212 (N + 0) b1 33 [.int .i64 p0.Parent, .slice A0_0 p0.Rails.a0.length cap0_0, .slice A0_1 p0.Rails.a1.length cap0_1, .slice A0_2 p0.Rails.a2.length cap0_2, .slice A0_3 p0.Rails.a3.length cap0_3, .int .i64 p0.Deepest.a0, .int .i64 p0.Deepest.a1, .int .i64 p0.Deepest.a2, .int .i64 p0.Deepest.a3, .int .i64 p0.Deepest.a4, .int .i64 p0.Deepest.a5, .int .i64 p0.WakeDevice, .int .i64 p0.WakeSystem] ∧ RdS (kint .i64) w212 g212 C0 A0_0 cap0_0 p0.Rails.a0 ∧ RdS (kint .i64) w212 g212 C0 A0_1 cap0_1 p0.Rails.a1 ∧ RdS (kint .i64) w212 g212 C0 A0_2 cap0_2 p0.Rails.a2 ∧ RdS (kint .i64) w212 g212 C0 A0_3 cap0_3 p0.Rails.a3 ∧ Fr (fun q => N ≤ q) w g w212 g212) FUEL ?_ ?_
        · exact ⟨0, g102, H, hS.re ⟨rfl, rfl, trivial⟩, h2, hp0_0, hp0_1, hp0_2, hp0_3, hF⟩
        · clear H
          clear hp0_0 hp0_1 hp0_2 hp0_3 h2 hF
          clear hS
          rintro k213 a w212 ⟨m2_0, g212, hpre0, hS, h2, hp0_0, hp0_1, hp0_2, hp0_3, hF⟩
          have H := hpre0
          clear hpre0
          cases k213 with
          | zero => exact absurd H (by simp [ref27_valid.l2])
          | succ k213 =>
            rw [ref27_valid.l2] at H
            refine wp_seq ?_
            refine c_pure [(3, .pointer (some ⟨b1, 0, none⟩)), (9, .int .i64 m2_0), (84, .bool (decide (m2_0 < 6)))] (fun R hR => st_val hS rfl rfl rfl (r_move hS rfl rfl) fun a214 hS214 => st_val hS214 rfl rfl rfl (r_bin hS214 rfl rfl rfl b_lss) fun a215 hS215 => wpList_nil (hR _ (hS215.re ⟨rfl, rfl, rfl, trivial⟩))) ?_
            clear hS
            clear a
            intro a hS
            refine c_cond hS rfl (fun hb216 => ?_) (fun hb216 => ?_)
            · replace H := ite_t hb216 H
              refine wp_skip ?_
              change Code.wp _ _ _ _ _
              refine wp_seq ?_
              refine wp_block ?_
              obtain ⟨x220, hx221, H⟩ := bind_el H
              obtain ⟨t298, ht299, H⟩ := bind_el H
              refine c_draw (fun K hK => d_start (fun q => False) g212 [] 28 #[false, false, false, false, false, false, false, false, false, false, false, false, false, false, false, false, false, false, false, false, false, false, false, false, false, false, false, false] (by kernel_rfl) rfl rfl (fun w217 hw217 => ?_))
              have F217 : Fr (fun _ => False) w212 g212 w217 g212 := by rw [hw217]; exact Fr.drew _ _ _
              replace h2 := h2.fr F217 (fun h => h)
              replace hp0_0 := RdS.fr hp0_0 F217 (by decide) (fun _ _ h => h)
              replace hp0_1 := RdS.fr hp0_1 F217 (by decide) (fun _ _ h => h)
              replace hp0_2 := RdS.fr hp0_2 F217 (by decide) (fun _ _ h => h)
              replace hp0_3 := RdS.fr hp0_3 F217 (by decide) (fun _ _ h => h)
              replace hF := hF.trans F217 (fun _ h => h.elim)
              have hC : Fr (fun q => False) w217 g212 w217 g212 := Fr.refl _ _ _
              refine d_pure hS 0 #[true, false, false, false, false, false, false, false, false, false, false, false, false, false, false, false, false, false, false, false, false, false, false, false, false, false, false, false] rfl rfl rfl rfl (by kernel_rfl) (fun _ _ _ h => h) (fun _ => (r_move hS rfl rfl)) fun a218 hS218 => d_pure hS218 1 #[true, true, false, false, false, false, false, false, false, false, false, false, false, false, false, false, false, false, false, false, false, false, false, false, false, false, false, false] rfl rfl rfl rfl (by kernel_rfl) (fun _ _ _ h => h) (fun _ => (r_fieldB (off := 5) hS218 rfl rfl (by kernel_rfl))) fun a219 hS219 => ?_
              have he222 : (([.int .i64 p0.Parent, .slice A0_0 p0.Rails.a0.length cap0_0, .slice A0_1 p0.Rails.a1.length cap0_1, .slice A0_2 p0.Rails.a2.length cap0_2, .slice A0_3 p0.Rails.a3.length cap0_3, .int .i64 p0.Deepest.a0, .int .i64 p0.Deepest.a1, .int .i64 p0.Deepest.a2, .int .i64 p0.Deepest.a3, .int .i64 p0.Deepest.a4, .int .i64 p0.Deepest.a5, .int .i64 p0.WakeDevice, .int .i64 p0.WakeSystem] : List Value).drop (5 + m2_0.toNat * 1)).take 1 = [.int .i64 x220] := by rcases Ar6.cases hx221 with ⟨e, e2⟩ | ⟨e, e2⟩ | ⟨e, e2⟩ | ⟨e, e2⟩ | ⟨e, e2⟩ | ⟨e, e2⟩ <;> (rw [e, e2] <;> rfl)
              refine d_pure hS219 2 #[true, true, true, false, false, false, false, false, false, false, false, false, false, false, false, false, false, false, false, false, false, false, false, false, false, false, false, false] rfl rfl rfl rfl (by kernel_rfl) (fun _ _ _ h => h) (fun _ => (r_ixB (n := 6) (e := 3) (sz := 1) (bb := false) hS219 rfl rfl rfl (by kernel_rfl) (idx_lo hx221) (Ar6.lt hx221))) fun a224 hS224 => d_take hS224 3 #[true, true, true, true, false, false, false, false, false, false, false, false, false, false, false, false, false, false, false, false, false, false, false, false, false, false, false, false] rfl rfl rfl rfl (by kernel_rfl) (fun _ _ _ h => h) ⟨_, hC⟩ (fun w' g' Fz => (r_load1 (n := 1) hS224 rfl rfl (by kernel_rfl) (Bx.at_ (j := 0) (h2.fr Fz (fun h => h)) he222 rfl))) fun a225 hS225 => d_pure hS225 4 #[true, true, true, true, true, false, false, false, false, false, false, false, false, false, false, false, false, false, false, false, false, false, false, false, false, false, false, false] rfl rfl rfl rfl (by kernel_rfl) (fun _ _ _ h => h) (fun _ => (r_bin hS225 rfl rfl rfl b_lss)) fun a226 hS226 => d_pure hS226 5 #[true, true, true, true, true, true, false, false, false, false, false, false, false, false, false, false, false, false, false, false, false, false, false, false, false, false, false, false] rfl rfl rfl rfl (by kernel_rfl) (fun _ _ _ h => h) (fun _ => (r_move hS226 rfl rfl)) fun a227 hS227 => ?_
              refine d_join (N := 115) 16 #[true, true, true, true, true, true, true, true, true, true, true, true, false, false, false, false, false, false, false, false, false, false, false, false, false, false, false, false] [(3, .pointer (some ⟨b1, 0, none⟩)), (9, .int .i64 m2_0), (98, .bool ((decide (x220 < 0)) || (decide (4 < x220))))] ?_ (fun hk => ?_)
              rotate_left
              · rcases Bool.eq_false_or_eq_true (decide (x220 < 0)) with hb228 | hb228
                · refine d_off hS227 6 #[true, true, true, true, true, true, true, false, false, false, false, false, false, false, false, false, false, false, false, false, false, false, false, false, false, false, false, false] rfl (want_off hS227 rfl rfl rfl hb228) rfl rfl (by kernel_rfl) (fun _ _ _ h => h) fun a234 hS234 => d_off hS234 7 #[true, true, true, true, true, true, true, true, false, false, false, false, false, false, false, false, false, false, false, false, false, false, false, false, false, false, false, false] rfl (want_off hS234 rfl rfl rfl hb228) rfl rfl (by kernel_rfl) (fun _ _ _ h => h) fun a235 hS235 => d_off hS235 8 #[true, true, true, true, true, true, true, true, true, false, false, false, false, false, false, false, false, false, false, false, false, false, false, false, false, false, false, false] rfl (want_off hS235 rfl rfl rfl hb228) rfl rfl (by kernel_rfl) (fun _ _ _ h => h) fun a236 hS236 => d_off hS236 9 #[true, true, true, true, true, true, true, true, true, true, false, false, false, false, false, false, false, false, false, false, false, false, false, false, false, false, false, false] rfl (want_off hS236 rfl rfl rfl hb228) rfl rfl (by kernel_rfl) (fun _ _ _ h => h) fun a237 hS237 => d_off hS237 10 #[true, true, true, true, true, true, true, true, true, true, true, false, false, false, false, false, false, false, false, false, false, false, false, false, false, false, false, false] rfl (want_off hS237 rfl rfl rfl hb228) rfl rfl (by kernel_rfl) (fun _ _ _ h => h) fun a238 hS238 => d_pure hS238 11 #[true, true, true, true, true, true, true, true, true, true, true, true, false, false, false, false, false, false, false, false, false, false, false, false, false, false, false, false] rfl rfl rfl rfl (by kernel_rfl) (fun _ _ _ h => h) (fun _ => (r_pickT hS238 rfl rfl rfl hb228)) fun a239 hS239 => hk _ (hS239.re ⟨rfl, rfl, (by rw [hb228]; rfl), trivial⟩)
                · refine d_pureW hS227 6 #[true, true, true, true, true, true, true, false, false, false, false, false, false, false, false, false, false, false, false, false, false, false, false, false, false, false, false, false] rfl (want_on hS227 rfl rfl rfl hb228) rfl rfl (by kernel_rfl) (fun _ _ _ h => h) (fun _ => (r_move hS227 rfl rfl)) fun a240 hS240 => d_pureW hS240 7 #[true, true, true, true, true, true, true, true, false, false, false, false, false, false, false, false, false, false, false, false, false, false, false, false, false, false, false, false] rfl (want_on hS240 rfl rfl rfl hb228) rfl rfl (by kernel_rfl) (fun _ _ _ h => h) (fun _ => (r_fieldB (off := 5) hS240 rfl rfl (by kernel_rfl))) fun a241 hS241 => d_pureW hS241 8 #[true, true, true, true, true, true, true, true, true, false, false, false, false, false, false, false, false, false, false, false, false, false, false, false, false, false, false, false] rfl (want_on hS241 rfl rfl rfl hb228) rfl rfl (by kernel_rfl) (fun _ _ _ h => h) (fun _ => (r_ixB (n := 6) (e := 3) (sz := 1) (bb := false) hS241 rfl rfl rfl (by kernel_rfl) (idx_lo hx221) (Ar6.lt hx221))) fun a242 hS242 => d_takeW hS242 9 #[true, true, true, true, true, true, true, true, true, true, false, false, false, false, false, false, false, false, false, false, false, false, false, false, false, false, false, false] rfl (want_on hS242 rfl rfl rfl hb228) rfl rfl (by kernel_rfl) (fun _ _ _ h => h) ⟨_, hC⟩ (fun w' g' Fz => (r_load1 (n := 1) hS242 rfl rfl (by kernel_rfl) (Bx.at_ (j := 0) (h2.fr Fz (fun h => h)) he222 rfl))) fun a243 hS243 => d_pureW hS243 10 #[true, true, true, true, true, true, true, true, true, true, true, false, false, false, false, false, false, false, false, false, false, false, false, false, false, false, false, false] rfl (want_on hS243 rfl rfl rfl hb228) rfl rfl (by kernel_rfl) (fun _ _ _ h => h) (fun _ => (r_bin hS243 rfl rfl rfl b_gtr)) fun a244 hS244 => d_pure hS244 11 #[true, true, true, true, true, true, true, true, true, true, true, true, false, false, false, false, false, false, false, false, false, false, false, false, false, false, false, false] rfl rfl rfl rfl (by kernel_rfl) (fun _ _ _ h => h) (fun _ => (r_pickF hS244 rfl rfl rfl hb228)) fun a245 hS245 => hk _ (hS245.re ⟨rfl, rfl, (by rw [hb228]; rfl), trivial⟩)
              intro a246 hS246
              refine d_pure hS246 12 #[true, true, true, true, true, true, true, true, true, true, true, true, true, false, false, false, false, false, false, false, false, false, false, false, false, false, false, false] rfl rfl rfl rfl (by kernel_rfl) (fun _ _ _ h => h) (fun _ => (r_move hS246 rfl rfl)) fun a247 hS247 => ?_
              refine d_join (N := 115) 0 #[true, true, true, true, true, true, true, true, true, true, true, true, true, true, true, true, true, true, true, true, true, true, true, true, true, true, true, true] [(3, .pointer (some ⟨b1, 0, none⟩)), (9, .int .i64 m2_0), (114, .bool t298)] ?_ (fun hk => ?_)
              rotate_left
              · rcases Bool.eq_false_or_eq_true (((decide (x220 < 0)) || (decide (4 < x220)))) with hb248 | hb248
                · have H := ite_t hb248 ht299
                  have e300 := Option.some.inj H
                  refine d_off hS247 13 #[true, true, true, true, true, true, true, true, true, true, true, true, true, true, false, false, false, false, false, false, false, false, false, false, false, false, false, false] rfl (want_off hS247 rfl rfl rfl hb248) rfl rfl (by kernel_rfl) (fun _ _ _ h => h) fun a301 hS301 => d_off hS301 14 #[true, true, true, true, true, true, true, true, true, true, true, true, true, true, true, false, false, false, false, false, false, false, false, false, false, false, false, false] rfl (want_off hS301 rfl rfl rfl hb248) rfl rfl (by kernel_rfl) (fun _ _ _ h => h) fun a302 hS302 => d_off hS302 15 #[true, true, true, true, true, true, true, true, true, true, true, true, true, true, true, true, false, false, false, false, false, false, false, false, false, false, false, false] rfl (want_off hS302 rfl rfl rfl hb248) rfl rfl (by kernel_rfl) (fun _ _ _ h => h) fun a303 hS303 => d_off hS303 16 #[true, true, true, true, true, true, true, true, true, true, true, true, true, true, true, true, true, false, false, false, false, false, false, false, false, false, false, false] rfl (want_un hS303 rfl rfl rfl) rfl rfl (by kernel_rfl) (fun _ _ _ h => h) fun a304 hS304 => d_off hS304 17 #[true, true, true, true, true, true, true, true, true, true, true, true, true, true, true, true, true, true, false, false, false, false, false, false, false, false, false, false] rfl (want_un hS304 rfl rfl rfl) rfl rfl (by kernel_rfl) (fun _ _ _ h => h) fun a305 hS305 => d_off hS305 18 #[true, true, true, true, true, true, true, true, true, true, true, true, true, true, true, true, true, true, true, false, false, false, false, false, false, false, false, false] rfl (want_un hS305 rfl rfl rfl) rfl rfl (by kernel_rfl) (fun _ _ _ h => h) fun a306 hS306 => d_off hS306 19 #[true, true, true, true, true, true, true, true, true, true, true, true, true, true, true, true, true, true, true, true, false, false, false, false, false, false, false, false] rfl (want_un hS306 rfl rfl rfl) rfl rfl (by kernel_rfl) (fun _ _ _ h => h) fun a307 hS307 => d_off hS307 20 #[true, true, true, true, true, true, true, true, true, true, true, true, true, true, true, true, true, true, true, true, true, false, false, false, false, false, false, false] rfl (want_un hS307 rfl rfl rfl) rfl rfl (by kernel_rfl) (fun _ _ _ h => h) fun a308 hS308 => d_off hS308 21 #[true, true, true, true, true, true, true, true, true, true, true, true, true, true, true, true, true, true, true, true, true, true, false, false, false, false, false, false] rfl (want_un hS308 rfl rfl rfl) rfl rfl (by kernel_rfl) (fun _ _ _ h => h) fun a309 hS309 => d_off hS309 22 #[true, true, true, true, true, true, true, true, true, true, true, true, true, true, true, true, true, true, true, true, true, true, true, false, false, false, false, false] rfl (want_un hS309 rfl rfl rfl) rfl rfl (by kernel_rfl) (fun _ _ _ h => h) fun a310 hS310 => d_off hS310 23 #[true, true, true, true, true, true, true, true, true, true, true, true, true, true, true, true, true, true, true, true, true, true, true, true, false, false, false, false] rfl (want_un hS310 rfl rfl rfl) rfl rfl (by kernel_rfl) (fun _ _ _ h => h) fun a311 hS311 => d_off hS311 24 #[true, true, true, true, true, true, true, true, true, true, true, true, true, true, true, true, true, true, true, true, true, true, true, true, true, false, false, false] rfl (want_un hS311 rfl rfl rfl) rfl rfl (by kernel_rfl) (fun _ _ _ h => h) fun a312 hS312 => d_off hS312 25 #[true, true, true, true, true, true, true, true, true, true, true, true, true, true, true, true, true, true, true, true, true, true, true, true, true, true, false, false] rfl (want_un hS312 rfl rfl rfl) rfl rfl (by kernel_rfl) (fun _ _ _ h => h) fun a313 hS313 => d_off hS313 26 #[true, true, true, true, true, true, true, true, true, true, true, true, true, true, true, true, true, true, true, true, true, true, true, true, true, true, true, false] rfl (want_off hS313 rfl rfl rfl hb248) rfl rfl (by kernel_rfl) (fun _ _ _ h => h) fun a314 hS314 => d_pure hS314 27 #[true, true, true, true, true, true, true, true, true, true, true, true, true, true, true, true, true, true, true, true, true, true, true, true, true, true, true, true] rfl rfl rfl rfl (by kernel_rfl) (fun _ _ _ h => h) (fun _ => (r_pickT hS314 rfl rfl rfl hb248)) fun a315 hS315 => hk _ (hS315.re ⟨rfl, rfl, (by rw [← e300]; rfl), trivial⟩)
                · have H := ite_f hb248 ht299
                  obtain ⟨t334, ht335, H⟩ := bind_el H
                  have e365 := Option.some.inj H
                  refine d_pureW hS247 13 #[true, true, true, true, true, true, true, true, true, true, true, true, true, true, false, false, false, false, false, false, false, false, false, false, false, false, false, false] rfl (want_on hS247 rfl rfl rfl hb248) rfl rfl (by kernel_rfl) (fun _ _ _ h => h) (fun _ => (r_move hS247 rfl rfl)) fun a316 hS316 => d_pureW hS316 14 #[true, true, true, true, true, true, true, true, true, true, true, true, true, true, true, false, false, false, false, false, false, false, false, false, false, false, false, false] rfl (want_on hS316 rfl rfl rfl hb248) rfl rfl (by kernel_rfl) (fun _ _ _ h => h) (fun _ => (r_bin hS316 rfl rfl rfl b_gtr)) fun a317 hS317 => d_pureW hS317 15 #[true, true, true, true, true, true, true, true, true, true, true, true, true, true, true, true, false, false, false, false, false, false, false, false, false, false, false, false] rfl (want_on hS317 rfl rfl rfl hb248) rfl rfl (by kernel_rfl) (fun _ _ _ h => h) (fun _ => (r_move hS317 rfl rfl)) fun a318 hS318 => ?_
                  refine d_join (N := 115) 1 #[true, true, true, true, true, true, true, true, true, true, true, true, true, true, true, true, true, true, true, true, true, true, true, true, true, true, true, false] [(3, .pointer (some ⟨b1, 0, none⟩)), (9, .int .i64 m2_0), (99, .bool ((decide (x220 < 0)) || (decide (4 < x220)))), (100, .int .i64 m2_0), (101, .bool (decide (0 < m2_0))), (102, .bool (decide (0 < m2_0))), (113, .bool t334)] ?_ (fun hk => ?_)
                  rotate_left
                  · rcases Bool.eq_false_or_eq_true (decide (0 < m2_0)) with hb319 | hb319
                    · have H := ite_t hb319 ht335
                      obtain ⟨x343, hx344, H⟩ := bind_el H
                      have e350 := Option.some.inj H
                      refine d_pureW hS318 16 #[true, true, true, true, true, true, true, true, true, true, true, true, true, true, true, true, true, false, false, false, false, false, false, false, false, false, false, false] rfl (want_on hS318 rfl rfl rfl hb319) rfl rfl (by kernel_rfl) (fun _ _ _ h => h) (fun _ => (r_move hS318 rfl rfl)) fun a336 hS336 => d_pureW hS336 17 #[true, true, true, true, true, true, true, true, true, true, true, true, true, true, true, true, true, true, false, false, false, false, false, false, false, false, false, false] rfl (want_on hS336 rfl rfl rfl hb319) rfl rfl (by kernel_rfl) (fun _ _ _ h => h) (fun _ => (r_fieldB (off := 5) hS336 rfl rfl (by kernel_rfl))) fun a337 hS337 => d_pureW hS337 18 #[true, true, true, true, true, true, true, true, true, true, true, true, true, true, true, true, true, true, true, false, false, false, false, false, false, false, false, false] rfl (want_on hS337 rfl rfl rfl hb319) rfl rfl (by kernel_rfl) (fun _ _ _ h => h) (fun _ => (r_ixB (n := 6) (e := 3) (sz := 1) (bb := false) hS337 rfl rfl rfl (by kernel_rfl) (idx_lo hx221) (Ar6.lt hx221))) fun a338 hS338 => d_takeW hS338 19 #[true, true, true, true, true, true, true, true, true, true, true, true, true, true, true, true, true, true, true, true, false, false, false, false, false, false, false, false] rfl (want_on hS338 rfl rfl rfl hb319) rfl rfl (by kernel_rfl) (fun _ _ _ h => h) ⟨_, hC⟩ (fun w' g' Fz => (r_load1 (n := 1) hS338 rfl rfl (by kernel_rfl) (Bx.at_ (j := 0) (h2.fr Fz (fun h => h)) he222 rfl))) fun a339 hS339 => d_pureW hS339 20 #[true, true, true, true, true, true, true, true, true, true, true, true, true, true, true, true, true, true, true, true, true, false, false, false, false, false, false, false] rfl (want_on hS339 rfl rfl rfl hb319) rfl rfl (by kernel_rfl) (fun _ _ _ h => h) (fun _ => (r_move hS339 rfl rfl)) fun a340 hS340 => d_pureW hS340 21 #[true, true, true, true, true, true, true, true, true, true, true, true, true, true, true, true, true, true, true, true, true, true, false, false, false, false, false, false] rfl (want_on hS340 rfl rfl rfl hb319) rfl rfl (by kernel_rfl) (fun _ _ _ h => h) (fun _ => (r_bin hS340 rfl rfl rfl b_sub)) fun a341 hS341 => d_pureW hS341 22 #[true, true, true, true, true, true, true, true, true, true, true, true, true, true, true, true, true, true, true, true, true, true, true, false, false, false, false, false] rfl (want_on hS341 rfl rfl rfl hb319) rfl rfl (by kernel_rfl) (fun _ _ _ h => h) (fun _ => (r_fieldB (off := 5) hS341 rfl rfl (by kernel_rfl))) fun a342 hS342 => ?_
                      have he345 : (([.int .i64 p0.Parent, .slice A0_0 p0.Rails.a0.length cap0_0, .slice A0_1 p0.Rails.a1.length cap0_1, .slice A0_2 p0.Rails.a2.length cap0_2, .slice A0_3 p0.Rails.a3.length cap0_3, .int .i64 p0.Deepest.a0, .int .i64 p0.Deepest.a1, .int .i64 p0.Deepest.a2, .int .i64 p0.Deepest.a3, .int .i64 p0.Deepest.a4, .int .i64 p0.Deepest.a5, .int .i64 p0.WakeDevice, .int .i64 p0.WakeSystem] : List Value).drop (5 + (wi (m2_0 - 1)).toNat * 1)).take 1 = [.int .i64 x343] := by rcases Ar6.cases hx344 with ⟨e, e2⟩ | ⟨e, e2⟩ | ⟨e, e2⟩ | ⟨e, e2⟩ | ⟨e, e2⟩ | ⟨e, e2⟩ <;> (rw [e, e2] <;> rfl)
                      refine d_pureW hS342 23 #[true, true, true, true, true, true, true, true, true, true, true, true, true, true, true, true, true, true, true, true, true, true, true, true, false, false, false, false] rfl (want_on hS342 rfl rfl rfl hb319) rfl rfl (by kernel_rfl) (fun _ _ _ h => h) (fun _ => (r_ixB (n := 6) (e := 3) (sz := 1) (bb := false) hS342 rfl rfl rfl (by kernel_rfl) (idx_lo hx344) (Ar6.lt hx344))) fun a347 hS347 => d_takeW hS347 24 #[true, true, true, true, true, true, true, true, true, true, true, true, true, true, true, true, true, true, true, true, true, true, true, true, true, false, false, false] rfl (want_on hS347 rfl rfl rfl hb319) rfl rfl (by kernel_rfl) (fun _ _ _ h => h) ⟨_, hC⟩ (fun w' g' Fz => (r_load1 (n := 1) hS347 rfl rfl (by kernel_rfl) (Bx.at_ (j := 0) (h2.fr Fz (fun h => h)) he345 rfl))) fun a348 hS348 => d_pureW hS348 25 #[true, true, true, true, true, true, true, true, true, true, true, true, true, true, true, true, true, true, true, true, true, true, true, true, true, true, false, false] rfl (want_on hS348 rfl rfl rfl hb319) rfl rfl (by kernel_rfl) (fun _ _ _ h => h) (fun _ => (r_bin hS348 rfl rfl rfl b_lss)) fun a349 hS349 => d_pureW hS349 26 #[true, true, true, true, true, true, true, true, true, true, true, true, true, true, true, true, true, true, true, true, true, true, true, true, true, true, true, false] rfl (want_on hS349 rfl rfl rfl hb248) rfl rfl (by kernel_rfl) (fun _ _ _ h => h) (fun _ => (r_pickT hS349 rfl rfl rfl hb319)) fun a351 hS351 => hk _ (hS351.re ⟨rfl, rfl, rfl, rfl, rfl, rfl, (by rw [← e350]; rfl), trivial⟩)
                    · have H := ite_f hb319 ht335
                      have e352 := Option.some.inj H
                      refine d_off hS318 16 #[true, true, true, true, true, true, true, true, true, true, true, true, true, true, true, true, true, false, false, false, false, false, false, false, false, false, false, false] rfl (want_off hS318 rfl rfl rfl hb319) rfl rfl (by kernel_rfl) (fun _ _ _ h => h) fun a353 hS353 => d_off hS353 17 #[true, true, true, true, true, true, true, true, true, true, true, true, true, true, true, true, true, true, false, false, false, false, false, false, false, false, false, false] rfl (want_off hS353 rfl rfl rfl hb319) rfl rfl (by kernel_rfl) (fun _ _ _ h => h) fun a354 hS354 => d_off hS354 18 #[true, true, true, true, true, true, true, true, true, true, true, true, true, true, true, true, true, true, true, false, false, false, false, false, false, false, false, false] rfl (want_off hS354 rfl rfl rfl hb319) rfl rfl (by kernel_rfl) (fun _ _ _ h => h) fun a355 hS355 => d_off hS355 19 #[true, true, true, true, true, true, true, true, true, true, true, true, true, true, true, true, true, true, true, true, false, false, false, false, false, false, false, false] rfl (want_off hS355 rfl rfl rfl hb319) rfl rfl (by kernel_rfl) (fun _ _ _ h => h) fun a356 hS356 => d_off hS356 20 #[true, true, true, true, true, true, true, true, true, true, true, true, true, true, true, true, true, true, true, true, true, false, false, false, false, false, false, false] rfl (want_off hS356 rfl rfl rfl hb319) rfl rfl (by kernel_rfl) (fun _ _ _ h => h) fun a357 hS357 => d_off hS357 21 #[true, true, true, true, true, true, true, true, true, true, true, true, true, true, true, true, true, true, true, true, true, true, false, false, false, false, false, false] rfl (want_off hS357 rfl rfl rfl hb319) rfl rfl (by kernel_rfl) (fun _ _ _ h => h) fun a358 hS358 => d_off hS358 22 #[true, true, true, true, true, true, true, true, true, true, true, true, true, true, true, true, true, true, true, true, true, true, true, false, false, false, false, false] rfl (want_off hS358 rfl rfl rfl hb319) rfl rfl (by kernel_rfl) (fun _ _ _ h => h) fun a359 hS359 => d_off hS359 23 #[true, true, true, true, true, true, true, true, true, true, true, true, true, true, true, true, true, true, true, true, true, true, true, true, false, false, false, false] rfl (want_off hS359 rfl rfl rfl hb319) rfl rfl (by kernel_rfl) (fun _ _ _ h => h) fun a360 hS360 => d_off hS360 24 #[true, true, true, true, true, true, true, true, true, true, true, true, true, true, true, true, true, true, true, true, true, true, true, true, true, false, false, false] rfl (want_off hS360 rfl rfl rfl hb319) rfl rfl (by kernel_rfl) (fun _ _ _ h => h) fun a361 hS361 => d_off hS361 25 #[true, true, true, true, true, true, true, true, true, true, true, true, true, true, true, true, true, true, true, true, true, true, true, true, true, true, false, false] rfl (want_off hS361 rfl rfl rfl hb319) rfl rfl (by kernel_rfl) (fun _ _ _ h => h) fun a362 hS362 => d_pureW hS362 26 #[true, true, true, true, true, true, true, true, true, true, true, true, true, true, true, true, true, true, true, true, true, true, true, true, true, true, true, false] rfl (want_on hS362 rfl rfl rfl hb248) rfl rfl (by kernel_rfl) (fun _ _ _ h => h) (fun _ => (r_pickF hS362 rfl rfl rfl hb319)) fun a363 hS363 => hk _ (hS363.re ⟨rfl, rfl, rfl, rfl, rfl, rfl, (by rw [← e352]; rfl), trivial⟩)
                  intro a364 hS364
                  refine d_pure hS364 27 #[true, true, true, true, true, true, true, true, true, true, true, true, true, true, true, true, true, true, true, true, true, true, true, true, true, true, true, true] rfl rfl rfl rfl (by kernel_rfl) (fun _ _ _ h => h) (fun _ => (r_pickF hS364 rfl rfl rfl hb248)) fun a366 hS366 => hk _ (hS366.re ⟨rfl, rfl, (by rw [← e365]; rfl), trivial⟩)
              intro a367 hS367
              refine d_done (by kernel_rfl) (hK _ _ ?_)
              replace hS : Sl 115 _ [(3, .pointer (some ⟨b1, 0, none⟩)), (9, .int .i64 m2_0), (114, .bool t298)] := hS367.re ⟨rfl, rfl, rfl, trivial⟩
              clear hK K hC
              try clear hS218 hS219 hS224 hS225 hS226 hS227 hS246 hS247 hS367
              obtain ⟨a, ha⟩ : ∃ a', a' = a367 := ⟨_, rfl⟩
              rw [← ha] at hS ⊢; clear ha
              refine c_cond hS rfl (fun hb368 => ?_) (fun hb368 => ?_)
              · replace H := ite_t hb368 H
                refine c_pure [(6, .bool false)] (fun R hR => st_val hS rfl rfl rfl (r_assign hS rfl rfl) fun a369 hS369 => wpList_nil (hR _ (hS369.re ⟨rfl, trivial⟩))) ?_
                clear hS
                clear a
                intro a hS
                refine wp_ret ?_
                have e := Option.some.inj H
                subst e
                replace H := Fl.go_out Hl210
                have e := Option.some.inj H
                subst e
                repeat (with_reducible first | refine then_ret ?_ | refine inBlock_ret ?_)
                exact c_ret1 hS Try.results40 rfl ⟨_, rfl, g212, rfl, hF⟩
              · replace H := ite_f hb368 H
                refine wp_skip ?_
                change Code.wp _ _ _ _ _
                refine c_pure1 [(3, .pointer (some ⟨b1, 0, none⟩)), (9, .int .i64 (wi (m2_0 + 1)))] (fun R hR => st_val hS rfl rfl rfl (r_move hS rfl rfl) fun a370 hS370 => st_val hS370 rfl rfl rfl (r_bin hS370 rfl rfl rfl b_add) fun a371 hS371 => st_val hS371 rfl rfl rfl (r_assign hS371 rfl rfl) fun a372 hS372 => wpList_nil (hR _ (hS372.re ⟨rfl, rfl, trivial⟩))) ?_
                clear hS
                clear a
                intro a hS
                refine ⟨k213, Nat.lt_succ_self _, ?_⟩
                exact ⟨wi (m2_0 + 1), g212, H, hS.re ⟨rfl, rfl, trivial⟩, h2, hp0_0, hp0_1, hp0_2, hp0_3, hF⟩
            · replace H := ite_f hb216 H
              refine wp_exit ?_
              have e := Option.some.inj H
              exact ⟨g212, e.symm, hS.re trivial, hF⟩
      · clear H
        clear hp0_0 hp0_1 hp0_2 hp0_3 h2 hF
        clear hS
        rintro a w207 ⟨g207, hpre0, hS, hF⟩
        subst hpre0
        have H := Fl.go_nxt Hl210
        clear Hl210
        refine c_pure [(6, .bool true)] (fun R hR => st_val hS rfl rfl rfl (r_assign hS rfl rfl) fun a373 hS373 => wpList_nil (hR _ (hS373.re ⟨rfl, trivial⟩))) ?_
        clear hS
        clear a
        intro a hS
        refine wp_ret ?_
        have e := Option.some.inj H
        subst e
        repeat (with_reducible first | refine then_ret ?_ | refine inBlock_ret ?_)
        exact c_ret1 hS Try.results40 rfl ⟨_, rfl, g207, rfl, hF⟩

/-! ### device_Check: function 17 -/
def device_Check.l0 (p0 : List api_PowerDevice) (p1 : Int) : Nat → Int → Option (Fl (Int) (Unit))
  | 0, _ => none
  | k37 + 1, m0_0 => if decide (m0_0 < (p0.length : Int)) = true then ((idx p0 m0_0).bind fun x41 => (device_valid.f x41 m0_0 p1).bind fun r74 => if (!r74) = true then (some (.out 1)) else (device_Check.l0 p0 p1 k37 (wi (m0_0 + 1)))) else (some (.nxt ()))
def device_Check.f (p0 : List api_PowerDevice) (p1 : Int) : Option (Int) := if (((decide (64 < (p0.length : Int))) || (decide (p1 < 0))) || (decide (64 < p1))) = true then (some 1) else ((device_Check.l0 p0 p1 FUEL 0 : Option (Fl (Int) (Unit))).bind fun o31 => o31.go fun _ => some 0)
set_option maxRecDepth 100000 in
set_option maxHeartbeats 4000000 in
theorem device_Check.calls {p0 : List api_PowerDevice} {A0 : Option Addr} {cap0 : Nat} {C0 : Nat → Prop} {p1 : Int} {w : World} {g : Nat → Nat} {out : Int} (N : Nat) (hp0 : RdS kd_api_PowerDevice w g C0 A0 cap0 p0) (hC0 : ∀ c, C0 c → c < N) (H : device_Check.f p0 p1 = some out) :
    Calls Try.prog 17 #[.slice A0 p0.length cap0, .int .i64 p1] w (fun e w' => ∃ v, e = .returned v ∧ ∃ (g' : Nat → Nat), v = .int .i64 out ∧ Fr (fun q => N ≤ q) w g w' g') := by
  unfold device_Check.f at H
  refine calls_enter Try.func17 rfl Try.ntmps17 rfl (fun a hS => ?_)
  replace hS : Sl 31 a [(0, .slice A0 p0.length cap0), (1, .int .i64 p1)] := hS
  have hF : Fr (fun q => N ≤ q) w g w g := Fr.refl _ _ _
  refine c_pure [(0, .slice A0 p0.length cap0), (1, .int .i64 p1)] (fun R hR => st_val hS rfl rfl rfl (r_assign hS rfl rfl) fun a1 hS1 => wpList_nil (hR _ (hS1.re ⟨rfl, rfl, trivial⟩))) ?_
  clear hS
  clear a
  intro a hS
  refine wp_seq ?_
  refine c_region (fun K hK => ?_)
  refine st_val hS rfl rfl rfl (r_move hS rfl rfl) fun a2 hS2 => st_val hS2 rfl rfl rfl (r_len (e := 33) (sz := 13) (by_ := 168) hS2 rfl rfl (by kernel_rfl)) fun a3 hS3 => st_val hS3 rfl rfl rfl (r_bin hS3 rfl rfl rfl b_gtr) fun a4 hS4 => st_val hS4 rfl rfl rfl (r_move hS4 rfl rfl) fun a5 hS5 => ?_
  refine g_join (N := 31) 3 [(0, .slice A0 p0.length cap0), (1, .int .i64 p1), (13, .bool ((decide (64 < (p0.length : Int))) || (decide (p1 < 0))))] ?_ (fun hk => ?_)
  rotate_left
  · rcases Bool.eq_false_or_eq_true (decide (64 < (p0.length : Int))) with hb6 | hb6
    · refine st_off hS5 (want_off hS5 rfl rfl rfl hb6) rfl rfl fun a9 hS9 => st_off hS9 (want_off hS9 rfl rfl rfl hb6) rfl rfl fun a10 hS10 => st_val hS10 rfl rfl rfl (r_pickT hS10 rfl rfl rfl hb6) fun a11 hS11 => hk _ (hS11.re ⟨rfl, rfl, (by rw [hb6]; rfl), trivial⟩)
    · refine st_valW hS5 (want_on hS5 rfl rfl rfl hb6) rfl rfl (r_move hS5 rfl rfl) fun a12 hS12 => st_valW hS12 (want_on hS12 rfl rfl rfl hb6) rfl rfl (r_bin hS12 rfl rfl rfl b_lss) fun a13 hS13 => st_val hS13 rfl rfl rfl (r_pickF hS13 rfl rfl rfl hb6) fun a14 hS14 => hk _ (hS14.re ⟨rfl, rfl, (by rw [hb6]; rfl), trivial⟩)
  intro a15 hS15
  refine st_val hS15 rfl rfl rfl (r_move hS15 rfl rfl) fun a16 hS16 => ?_
  refine g_join (N := 31) 3 [(0, .slice A0 p0.length cap0), (1, .int .i64 p1), (17, .bool (((decide (64 < (p0.length : Int))) || (decide (p1 < 0))) || (decide (64 < p1))))] ?_ (fun hk => ?_)
  rotate_left
  · rcases Bool.eq_false_or_eq_true (((decide (64 < (p0.length : Int))) || (decide (p1 < 0)))) with hb17 | hb17
    · refine st_off hS16 (want_off hS16 rfl rfl rfl hb17) rfl rfl fun a20 hS20 => st_off hS20 (want_off hS20 rfl rfl rfl hb17) rfl rfl fun a21 hS21 => st_val hS21 rfl rfl rfl (r_pickT hS21 rfl rfl rfl hb17) fun a22 hS22 => hk _ (hS22.re ⟨rfl, rfl, (by rw [hb17]; rfl), trivial⟩)
    · refine st_valW hS16 (want_on hS16 rfl rfl rfl hb17) rfl rfl (r_move hS16 rfl rfl) fun a23 hS23 => st_valW hS23 (want_on hS23 rfl rfl rfl hb17) rfl rfl (r_bin hS23 rfl rfl rfl b_gtr) fun a24 hS24 => st_val hS24 rfl rfl rfl (r_pickF hS24 rfl rfl rfl hb17) fun a25 hS25 => hk _ (hS25.re ⟨rfl, rfl, (by rw [hb17]; rfl), trivial⟩)
  intro a26 hS26
  refine wpList_nil (hK _ _ ?_)
  replace hS : Sl 31 _ [(0, .slice A0 p0.length cap0), (1, .int .i64 p1), (17, .bool (((decide (64 < (p0.length : Int))) || (decide (p1 < 0))) || (decide (64 < p1))))] := hS26.re ⟨rfl, rfl, rfl, trivial⟩
  clear hK K
  try clear hS2 hS3 hS4 hS5 hS15 hS16 hS26
  obtain ⟨a, ha⟩ : ∃ a', a' = a26 := ⟨_, rfl⟩
  rw [← ha] at hS ⊢; clear ha
  refine c_cond hS rfl (fun hb27 => ?_) (fun hb27 => ?_)
  · replace H := ite_t hb27 H
    refine c_pure [(4, .int .i64 1)] (fun R hR => st_val hS rfl rfl rfl (r_assign hS rfl rfl) fun a28 hS28 => wpList_nil (hR _ (hS28.re ⟨rfl, trivial⟩))) ?_
    clear hS
    clear a
    intro a hS
    refine wp_ret ?_
    have e := Option.some.inj H
    subst e
    repeat (with_reducible first | refine then_ret ?_ | refine inBlock_ret ?_)
    exact c_ret1 hS Try.results17 rfl ⟨_, rfl, g, rfl, hF⟩
  · replace H := ite_f hb27 H
    refine wp_skip ?_
    change Code.wp _ _ _ _ _
    obtain ⟨o31, H, Hl32⟩ := bind_el H
    refine c_cut (fun a w29 => ∃ (g29 : Nat → Nat), o31 = .nxt () ∧ Sl 31 a [] ∧ Fr (fun q => N ≤ q) w g w29 g29) ?_ ?_
    · refine c_pure [(1, .int .i64 p1), (18, .slice A0 p0.length cap0), (19, .int .i64 (p0.length : Int)), (20, .int .i64 0)] (fun R hR => st_val hS rfl rfl rfl (r_move hS rfl rfl) fun a33 hS33 => st_val hS33 rfl rfl rfl (r_len (e := 33) (sz := 13) (by_ := 168) hS33 rfl rfl (by kernel_rfl)) fun a34 hS34 => st_val hS34 rfl rfl rfl (r_move hS34 rfl rfl) fun a35 hS35 => wpList_nil (hR _ (hS35.re ⟨rfl, rfl, rfl, rfl, trivial⟩))) ?_
      clear hS
      clear a
      intro a hS
      refine wp_block ?_
      refine wp_loop_ghost (fun kq => fun a w36 => ∃ (m0_0 : Int), ∃ (g36 : Nat → Nat), device_Check.l0 p0 p1 kq m0_0 = some o31 ∧ Sl 31 a [(1, .int .i64 p1), (18, .slice A0 p0.length cap0), (19, .int .i64 (p0.length : Int)), (20, .int .i64 m0_0)] ∧ RdS kd_api_PowerDevice w36 g36 C0 A0 cap0 p0 ∧ Fr (fun q => N ≤ q) w g w36 g36) FUEL ?_ ?_
      · exact ⟨0, g, H, hS.re ⟨rfl, rfl, rfl, rfl, trivial⟩, hp0, hF⟩
      · clear H
        clear hp0 hF
        clear hS
        rintro k37 a w36 ⟨m0_0, g36, hpre0, hS, hp0, hF⟩
        have H := hpre0
        clear hpre0
        cases k37 with
        | zero => exact absurd H (by simp [device_Check.l0])
        | succ k37 =>
          rw [device_Check.l0] at H
          refine c_pure [(1, .int .i64 p1), (18, .slice A0 p0.length cap0), (19, .int .i64 (p0.length : Int)), (20, .int .i64 m0_0), (21, .bool (decide (m0_0 < (p0.length : Int))))] (fun R hR => st_val hS rfl rfl rfl (r_bin hS rfl rfl rfl b_lss) fun a38 hS38 => wpList_nil (hR _ (hS38.re ⟨rfl, rfl, rfl, rfl, rfl, trivial⟩))) ?_
          clear hS
          clear a
          intro a hS
          refine c_if hS rfl (fun hb39 => ?_) (fun hb39 => ?_)
          · replace H := ite_t hb39 H
            refine wp_skip ?_
            change Code.wp _ _ _ _ _
            refine wp_seq ?_
            refine wp_block ?_
            obtain ⟨x41, hx42, H⟩ := bind_el H
            refine c_region (fun K hK => ?_)
            refine st_val hS rfl rfl rfl (r_move hS rfl rfl) fun a40 hS40 => ?_
            obtain ⟨_, ⟨A44, cap45, A48, cap49, A52, cap53, A56, cap57, rfl, h46, h50, h54, h58⟩, hel43⟩ := El.of hp0 hx42 (by decide)
            replace hel43 : El w36 g36 C0 A0 (m0_0.toNat * 13) [.int .i64 x41.Parent, .slice A44 x41.Rails.a0.length cap45, .slice A48 x41.Rails.a1.length cap49, .slice A52 x41.Rails.a2.length cap53, .slice A56 x41.Rails.a3.length cap57, .int .i64 x41.Deepest.a0, .int .i64 x41.Deepest.a1, .int .i64 x41.Deepest.a2, .int .i64 x41.Deepest.a3, .int .i64 x41.Deepest.a4, .int .i64 x41.Deepest.a5, .int .i64 x41.WakeDevice, .int .i64 x41.WakeSystem] := hel43
            refine st_val hS40 rfl rfl rfl (r_index (e := 33) (sz := 13) (by_ := 168) hS40 rfl rfl rfl (by kernel_rfl) (RdS.some_ hp0 hx42) (idx_lo hx42) (idx_hi hx42)) fun a61 hS61 => st_val hS61 rfl rfl rfl (r_loadN (n := 13) (cs := [.int .i64 x41.Parent, .slice A44 x41.Rails.a0.length cap45, .slice A48 x41.Rails.a1.length cap49, .slice A52 x41.Rails.a2.length cap53, .slice A56 x41.Rails.a3.length cap57, .int .i64 x41.Deepest.a0, .int .i64 x41.Deepest.a1, .int .i64 x41.Deepest.a2, .int .i64 x41.Deepest.a3, .int .i64 x41.Deepest.a4, .int .i64 x41.Deepest.a5, .int .i64 x41.WakeDevice, .int .i64 x41.WakeSystem]) hS61 rfl rfl (by kernel_rfl) rfl (El.cells_off hel43 0 13)) fun a62 hS62 => ?_
            refine st_eff hS62 rfl rfl rfl (e_alloc (cs := [.int .i64 0, .slice none 0 0, .slice none 0 0, .slice none 0 0, .slice none 0 0, .int .i64 0, .int .i64 0, .int .i64 0, .int .i64 0, .int .i64 0, .int .i64 0, .int .i64 0, .int .i64 0]) (N + 0) g36 hS62 rfl (by kernel_rfl)) ?_
            rintro _ a66 w67 g67 ⟨⟨b63, rfl, h64⟩, F67⟩ hS66
            replace h46 := RdS.fr h46 F67 (by decide) (fun _ _ h => h)
            replace h50 := RdS.fr h50 F67 (by decide) (fun _ _ h => h)
            replace h54 := RdS.fr h54 F67 (by decide) (fun _ _ h => h)
            replace h58 := RdS.fr h58 F67 (by decide) (fun _ _ h => h)
            replace hel43 := hel43.fr F67 (fun _ _ h => h)
            replace hp0 := RdS.fr hp0 F67 (by decide) (fun _ _ h => h)
            replace hF := hF.trans F67 (fun _ h => h.elim)
            refine st_val hS66 rfl rfl rfl (r_assign hS66 rfl rfl) fun a68 hS68 => ?_
            refine st_effS hS68 rfl rfl (e_storeB (n := 13) (bb := true) (cs' := [.int .i64 x41.Parent, .slice A44 x41.Rails.a0.length cap45, .slice A48 x41.Rails.a1.length cap49, .slice A52 x41.Rails.a2.length cap53, .slice A56 x41.Rails.a3.length cap57, .int .i64 x41.Deepest.a0, .int .i64 x41.Deepest.a1, .int .i64 x41.Deepest.a2, .int .i64 x41.Deepest.a3, .int .i64 x41.Deepest.a4, .int .i64 x41.Deepest.a5, .int .i64 x41.WakeDevice, .int .i64 x41.WakeSystem]) g67 hS68 rfl rfl rfl (by kernel_rfl) rfl rfl rfl h64 rfl rfl) ?_
            rintro a69 w70 g70 ⟨h64, F70⟩ hS69
            replace h46 := RdS.fr h46 F70 (by decide) (fun q (hq : C0 q) (hm : q = N + 0) => by have := hC0 q hq; omega)
            replace h50 := RdS.fr h50 F70 (by decide) (fun q (hq : C0 q) (hm : q = N + 0) => by have := hC0 q hq; omega)
            replace h54 := RdS.fr h54 F70 (by decide) (fun q (hq : C0 q) (hm : q = N + 0) => by have := hC0 q hq; omega)
            replace h58 := RdS.fr h58 F70 (by decide) (fun q (hq : C0 q) (hm : q = N + 0) => by have := hC0 q hq; omega)
            replace hel43 := hel43.fr F70 (fun q (hq : C0 q) (hm : q = N + 0) => by have := hC0 q hq; omega)
            replace hp0 := RdS.fr hp0 F70 (by decide) (fun q (hq : C0 q) (hm : q = N + 0) => by have := hC0 q hq; omega)
            replace hF := hF.trans F70 (fun c' (hm : c' = N + 0) => by show N ≤ c'; omega)
            refine wpList_nil (hK _ _ ?_)
            replace hS : Sl 31 _ [(1, .int .i64 p1), (5, .int .i64 m0_0), (6, .pointer (some ⟨b63, 0, none⟩)), (18, .slice A0 p0.length cap0), (19, .int .i64 (p0.length : Int)), (20, .int .i64 m0_0)] := hS69.re ⟨rfl, rfl, rfl, rfl, rfl, rfl, trivial⟩
            clear hK K
            try clear hS40 hS61 hS62 hS66 hS68 hS69
            obtain ⟨a, ha⟩ : ∃ a', a' = a69 := ⟨_, rfl⟩
            rw [← ha] at hS ⊢; clear ha
            obtain ⟨r74, hr75, H⟩ := bind_el H
            refine c_region (fun K hK => ?_)
            refine st_val hS rfl rfl rfl (r_loadN (n := 13) (cs := [.int .i64 x41.Parent, .slice A44 x41.Rails.a0.length cap45, .slice A48 x41.Rails.a1.length cap49, .slice A52 x41.Rails.a2.length cap53, .slice A56 x41.Rails.a3.length cap57, .int .i64 x41.Deepest.a0, .int .i64 x41.Deepest.a1, .int .i64 x41.Deepest.a2, .int .i64 x41.Deepest.a3, .int .i64 x41.Deepest.a4, .int .i64 x41.Deepest.a5, .int .i64 x41.WakeDevice, .int .i64 x41.WakeSystem]) hS rfl rfl (by kernel_rfl) rfl (Bx.cells_off h64 0 13)) fun a71 hS71 => st_val hS71 rfl rfl rfl (r_move hS71 rfl rfl) fun a72 hS72 => st_val hS72 rfl rfl rfl (r_move hS72 rfl rfl) fun a73 hS73 => ?_
            refine st_enter hS73 rfl rfl rfl (r_call hS73 rfl rfl (by kernel_rfl)) (device_valid.calls (C0 := C0) (p0 := x41) (p1 := m0_0) (p2 := p1) (g := g70) (N + 2)  h46 h50 h54 h58 (fun q (hq : C0 q) => by have := hC0 q hq; omega) hr75) ?_
            rintro _ a76 w77 ⟨g77, rfl, F77⟩ hS76
            replace h46 := RdS.fr h46 F77 (by decide) (fun q (hq : C0 q) (hm : N + 2 ≤ q) => by have := hC0 q hq; omega)
            replace h50 := RdS.fr h50 F77 (by decide) (fun q (hq : C0 q) (hm : N + 2 ≤ q) => by have := hC0 q hq; omega)
            replace h54 := RdS.fr h54 F77 (by decide) (fun q (hq : C0 q) (hm : N + 2 ≤ q) => by have := hC0 q hq; omega)
            replace h58 := RdS.fr h58 F77 (by decide) (fun q (hq : C0 q) (hm : N + 2 ≤ q) => by have := hC0 q hq; omega)
            replace h64 := h64.fr F77 (fun (hm : N + 2 ≤ N + 0) => by omega)
            replace hp0 := RdS.fr hp0 F77 (by decide) (fun q (hq : C0 q) (hm : N + 2 ≤ q) => by have := hC0 q hq; omega)
            replace hF := hF.trans F77 (fun c' (hm : N + 2 ≤ c') => by show N ≤ c'; omega)
            refine st_val hS76 rfl rfl rfl (r_not hS76 rfl rfl) fun a78 hS78 => wpList_nil (hK _ _ ?_)
            replace hS : Sl 31 _ [(1, .int .i64 p1), (18, .slice A0 p0.length cap0), (19, .int .i64 (p0.length : Int)), (20, .int .i64 m0_0), (29, .bool (!r74))] := hS78.re ⟨rfl, rfl, rfl, rfl, rfl, trivial⟩
            clear hK K
            try clear hS71 hS72 hS73 hS76 hS78
            obtain ⟨a, ha⟩ : ∃ a', a' = a78 := ⟨_, rfl⟩
            rw [← ha] at hS ⊢; clear ha
            refine c_cond hS rfl (fun hb79 => ?_) (fun hb79 => ?_)
            · replace H := ite_t hb79 H
              refine c_pure [(4, .int .i64 1)] (fun R hR => st_val hS rfl rfl rfl (r_assign hS rfl rfl) fun a80 hS80 => wpList_nil (hR _ (hS80.re ⟨rfl, trivial⟩))) ?_
              clear hS
              clear a
              intro a hS
              refine wp_ret ?_
              have e := Option.some.inj H
              subst e
              replace H := Fl.go_out Hl32
              have e := Option.some.inj H
              subst e
              repeat (with_reducible first | refine then_ret ?_ | refine inBlock_ret ?_)
              exact c_ret1 hS Try.results17 rfl ⟨_, rfl, g77, rfl, hF⟩
            · replace H := ite_f hb79 H
              refine wp_skip ?_
              change Code.wp _ _ _ _ _
              refine c_pure1 [(1, .int .i64 p1), (18, .slice A0 p0.length cap0), (19, .int .i64 (p0.length : Int)), (20, .int .i64 (wi (m0_0 + 1)))] (fun R hR => st_val hS rfl rfl rfl (r_bin hS rfl rfl rfl b_add) fun a81 hS81 => st_val hS81 rfl rfl rfl (r_move hS81 rfl rfl) fun a82 hS82 => wpList_nil (hR _ (hS82.re ⟨rfl, rfl, rfl, rfl, trivial⟩))) ?_
              clear hS
              clear a
              intro a hS
              refine ⟨k37, Nat.lt_succ_self _, ?_⟩
              exact ⟨wi (m0_0 + 1), g77, H, hS.re ⟨rfl, rfl, rfl, rfl, trivial⟩, hp0, hF⟩
          · replace H := ite_f hb39 H
            refine wp_exit ?_
            have e := Option.some.inj H
            exact ⟨g36, e.symm, hS.re trivial, hF⟩
    · clear H
      clear hp0 hF
      clear hS
      rintro a w29 ⟨g29, hpre0, hS, hF⟩
      subst hpre0
      have H := Fl.go_nxt Hl32
      clear Hl32
      refine c_pure [(4, .int .i64 0)] (fun R hR => st_val hS rfl rfl rfl (r_assign hS rfl rfl) fun a83 hS83 => wpList_nil (hR _ (hS83.re ⟨rfl, trivial⟩))) ?_
      clear hS
      clear a
      intro a hS
      refine wp_ret ?_
      have e := Option.some.inj H
      subst e
      repeat (with_reducible first | refine then_ret ?_ | refine inBlock_ret ?_)
      exact c_ret1 hS Try.results17 rfl ⟨_, rfl, g29, rfl, hF⟩

/-! ### ref27_Check: function 18 -/
def ref27_Check.l0 (p0 : List api_PowerDevice) (p1 : Int) : Nat → Int → Option (Fl (Int) (Unit))
  | 0, _ => none
  | k35 + 1, m0_0 => if decide (m0_0 < (p0.length : Int)) = true then ((idx p0 m0_0).bind fun x43 => (ref27_valid.f x43 m0_0 p1).bind fun r67 => if (!r67) = true then (some (.out 1)) else (ref27_Check.l0 p0 p1 k35 (wi (m0_0 + 1)))) else (some (.nxt ()))
def ref27_Check.f (p0 : List api_PowerDevice) (p1 : Int) : Option (Int) := if (((decide (64 < (p0.length : Int))) || (decide (p1 < 0))) || (decide (64 < p1))) = true then (some 1) else ((ref27_Check.l0 p0 p1 FUEL 0 : Option (Fl (Int) (Unit))).bind fun o31 => o31.go fun _ => some 0)
set_option maxRecDepth 100000 in
set_option maxHeartbeats 4000000 in
theorem ref27_Check.calls {p0 : List api_PowerDevice} {A0 : Option Addr} {cap0 : Nat} {C0 : Nat → Prop} {p1 : Int} {w : World} {g : Nat → Nat} {out : Int} (N : Nat) (hp0 : RdS kd_api_PowerDevice w g C0 A0 cap0 p0) (hC0 : ∀ c, C0 c → c < N) (H : ref27_Check.f p0 p1 = some out) :
    Calls Try.prog 18 #[.slice A0 p0.length cap0, .int .i64 p1] w (fun e w' => ∃ v, e = .returned v ∧ ∃ (g' : Nat → Nat), v = .int .i64 out ∧ Fr (fun q => N ≤ q) w g w' g') := by
  unfold ref27_Check.f at H
  refine calls_enter Try.func18 rfl Try.ntmps18 rfl (fun a hS => ?_)
  replace hS : Sl 31 a [(0, .slice A0 p0.length cap0), (1, .int .i64 p1)] := hS
  have hF : Fr (fun q => N ≤ q) w g w g := Fr.refl _ _ _
  refine c_pure [(0, .slice A0 p0.length cap0), (1, .int .i64 p1)] (fun R hR => st_val hS rfl rfl rfl (r_assign hS rfl rfl) fun a1 hS1 => wpList_nil (hR _ (hS1.re ⟨rfl, rfl, trivial⟩))) ?_
  clear hS
  clear a
  intro a hS
  refine wp_seq ?_
  refine c_region (fun K hK => ?_)
  refine st_val hS rfl rfl rfl (r_move hS rfl rfl) fun a2 hS2 => st_val hS2 rfl rfl rfl (r_len (e := 33) (sz := 13) (by_ := 168) hS2 rfl rfl (by kernel_rfl)) fun a3 hS3 => st_val hS3 rfl rfl rfl (r_bin hS3 rfl rfl rfl b_gtr) fun a4 hS4 => st_val hS4 rfl rfl rfl (r_move hS4 rfl rfl) fun a5 hS5 => ?_
  refine g_join (N := 31) 3 [(0, .slice A0 p0.length cap0), (1, .int .i64 p1), (12, .bool ((decide (64 < (p0.length : Int))) || (decide (p1 < 0))))] ?_ (fun hk => ?_)
  rotate_left
  · rcases Bool.eq_false_or_eq_true (decide (64 < (p0.length : Int))) with hb6 | hb6
    · refine st_off hS5 (want_off hS5 rfl rfl rfl hb6) rfl rfl fun a9 hS9 => st_off hS9 (want_off hS9 rfl rfl rfl hb6) rfl rfl fun a10 hS10 => st_val hS10 rfl rfl rfl (r_pickT hS10 rfl rfl rfl hb6) fun a11 hS11 => hk _ (hS11.re ⟨rfl, rfl, (by rw [hb6]; rfl), trivial⟩)
    · refine st_valW hS5 (want_on hS5 rfl rfl rfl hb6) rfl rfl (r_move hS5 rfl rfl) fun a12 hS12 => st_valW hS12 (want_on hS12 rfl rfl rfl hb6) rfl rfl (r_bin hS12 rfl rfl rfl b_lss) fun a13 hS13 => st_val hS13 rfl rfl rfl (r_pickF hS13 rfl rfl rfl hb6) fun a14 hS14 => hk _ (hS14.re ⟨rfl, rfl, (by rw [hb6]; rfl), trivial⟩)
  intro a15 hS15
  refine st_val hS15 rfl rfl rfl (r_move hS15 rfl rfl) fun a16 hS16 => ?_
  refine g_join (N := 31) 3 [(0, .slice A0 p0.length cap0), (1, .int .i64 p1), (16, .bool (((decide (64 < (p0.length : Int))) || (decide (p1 < 0))) || (decide (64 < p1))))] ?_ (fun hk => ?_)
  rotate_left
  · rcases Bool.eq_false_or_eq_true (((decide (64 < (p0.length : Int))) || (decide (p1 < 0)))) with hb17 | hb17
    · refine st_off hS16 (want_off hS16 rfl rfl rfl hb17) rfl rfl fun a20 hS20 => st_off hS20 (want_off hS20 rfl rfl rfl hb17) rfl rfl fun a21 hS21 => st_val hS21 rfl rfl rfl (r_pickT hS21 rfl rfl rfl hb17) fun a22 hS22 => hk _ (hS22.re ⟨rfl, rfl, (by rw [hb17]; rfl), trivial⟩)
    · refine st_valW hS16 (want_on hS16 rfl rfl rfl hb17) rfl rfl (r_move hS16 rfl rfl) fun a23 hS23 => st_valW hS23 (want_on hS23 rfl rfl rfl hb17) rfl rfl (r_bin hS23 rfl rfl rfl b_gtr) fun a24 hS24 => st_val hS24 rfl rfl rfl (r_pickF hS24 rfl rfl rfl hb17) fun a25 hS25 => hk _ (hS25.re ⟨rfl, rfl, (by rw [hb17]; rfl), trivial⟩)
  intro a26 hS26
  refine wpList_nil (hK _ _ ?_)
  replace hS : Sl 31 _ [(0, .slice A0 p0.length cap0), (1, .int .i64 p1), (16, .bool (((decide (64 < (p0.length : Int))) || (decide (p1 < 0))) || (decide (64 < p1))))] := hS26.re ⟨rfl, rfl, rfl, trivial⟩
  clear hK K
  try clear hS2 hS3 hS4 hS5 hS15 hS16 hS26
  obtain ⟨a, ha⟩ : ∃ a', a' = a26 := ⟨_, rfl⟩
  rw [← ha] at hS ⊢; clear ha
  refine c_cond hS rfl (fun hb27 => ?_) (fun hb27 => ?_)
  · replace H := ite_t hb27 H
    refine c_pure [(4, .int .i64 1)] (fun R hR => st_val hS rfl rfl rfl (r_assign hS rfl rfl) fun a28 hS28 => wpList_nil (hR _ (hS28.re ⟨rfl, trivial⟩))) ?_
    clear hS
    clear a
    intro a hS
    refine wp_ret ?_
    have e := Option.some.inj H
    subst e
    repeat (with_reducible first | refine then_ret ?_ | refine inBlock_ret ?_)
    exact c_ret1 hS Try.results18 rfl ⟨_, rfl, g, rfl, hF⟩
  · replace H := ite_f hb27 H
    refine wp_skip ?_
    change Code.wp _ _ _ _ _
    obtain ⟨o31, H, Hl32⟩ := bind_el H
    refine c_cut (fun a w29 => ∃ (g29 : Nat → Nat), o31 = .nxt () ∧ Sl 31 a [] ∧ Fr (fun q => N ≤ q) w g w29 g29) ?_ ?_
    · refine c_pure [(0, .slice A0 p0.length cap0), (1, .int .i64 p1), (5, .int .i64 0)] (fun R hR => st_val hS rfl rfl rfl (r_assign hS rfl rfl) fun a33 hS33 => wpList_nil (hR _ (hS33.re ⟨rfl, rfl, rfl, trivial⟩))) ?_
      clear hS
      clear a
      intro a hS
      refine wp_block ?_
      refine wp_loop_ghost (fun kq => fun a w34 => ∃ (m0_0 : Int), ∃ (g34 : Nat → Nat), ref27_Check.l0 p0 p1 kq m0_0 = some o31 ∧ Sl 31 a [(0, .slice A0 p0.length cap0), (1, .int .i64 p1), (5, .int .i64 m0_0)] ∧ RdS kd_api_PowerDevice w34 g34 C0 A0 cap0 p0 ∧ Fr (fun q => N ≤ q) w g w34 g34) FUEL ?_ ?_
      · exact ⟨0, g, H, hS.re ⟨rfl, rfl, rfl, trivial⟩, hp0, hF⟩
      · clear H
        clear hp0 hF
        clear hS
        rintro k35 a w34 ⟨m0_0, g34, hpre0, hS, hp0, hF⟩
        have H := hpre0
        clear hpre0
        cases k35 with
        | zero => exact absurd H (by simp [ref27_Check.l0])
        | succ k35 =>
          rw [ref27_Check.l0] at H
          refine wp_seq ?_
          refine c_pure [(0, .slice A0 p0.length cap0), (1, .int .i64 p1), (5, .int .i64 m0_0), (20, .bool (decide (m0_0 < (p0.length : Int))))] (fun R hR => st_val hS rfl rfl rfl (r_move hS rfl rfl) fun a36 hS36 => st_val hS36 rfl rfl rfl (r_move hS36 rfl rfl) fun a37 hS37 => st_val hS37 rfl rfl rfl (r_len (e := 33) (sz := 13) (by_ := 168) hS37 rfl rfl (by kernel_rfl)) fun a38 hS38 => st_val hS38 rfl rfl rfl (r_bin hS38 rfl rfl rfl b_lss) fun a39 hS39 => wpList_nil (hR _ (hS39.re ⟨rfl, rfl, rfl, rfl, trivial⟩))) ?_
          clear hS
          clear a
          intro a hS
          refine c_cond hS rfl (fun hb40 => ?_) (fun hb40 => ?_)
          · replace H := ite_t hb40 H
            refine wp_skip ?_
            change Code.wp _ _ _ _ _
            refine wp_seq ?_
            refine wp_block ?_
            obtain ⟨x43, hx44, H⟩ := bind_el H
            obtain ⟨r67, hr68, H⟩ := bind_el H
            refine c_region (fun K hK => ?_)
            refine st_val hS rfl rfl rfl (r_move hS rfl rfl) fun a41 hS41 => st_val hS41 rfl rfl rfl (r_move hS41 rfl rfl) fun a42 hS42 => ?_
            obtain ⟨_, ⟨A46, cap47, A50, cap51, A54, cap55, A58, cap59, rfl, h48, h52, h56, h60⟩, hel45⟩ := El.of hp0 hx44 (by decide)
            replace hel45 : El w34 g34 C0 A0 (m0_0.toNat * 13) [.int .i64 x43.Parent, .slice A46 x43.Rails.a0.length cap47, .slice A50 x43.Rails.a1.length cap51, .slice A54 x43.Rails.a2.length cap55, .slice A58 x43.Rails.a3.length cap59, .int .i64 x43.Deepest.a0, .int .i64 x43.Deepest.a1, .int .i64 x43.Deepest.a2, .int .i64 x43.Deepest.a3, .int .i64 x43.Deepest.a4, .int .i64 x43.Deepest.a5, .int .i64 x43.WakeDevice, .int .i64 x43.WakeSystem] := hel45
            refine st_val hS42 rfl rfl rfl (r_index (e := 33) (sz := 13) (by_ := 168) hS42 rfl rfl rfl (by kernel_rfl) (RdS.some_ hp0 hx44) (idx_lo hx44) (idx_hi hx44)) fun a63 hS63 => st_val hS63 rfl rfl rfl (r_loadN (n := 13) (cs := [.int .i64 x43.Parent, .slice A46 x43.Rails.a0.length cap47, .slice A50 x43.Rails.a1.length cap51, .slice A54 x43.Rails.a2.length cap55, .slice A58 x43.Rails.a3.length cap59, .int .i64 x43.Deepest.a0, .int .i64 x43.Deepest.a1, .int .i64 x43.Deepest.a2, .int .i64 x43.Deepest.a3, .int .i64 x43.Deepest.a4, .int .i64 x43.Deepest.a5, .int .i64 x43.WakeDevice, .int .i64 x43.WakeSystem]) hS63 rfl rfl (by kernel_rfl) rfl (El.cells_off hel45 0 13)) fun a64 hS64 => st_val hS64 rfl rfl rfl (r_move hS64 rfl rfl) fun a65 hS65 => st_val hS65 rfl rfl rfl (r_move hS65 rfl rfl) fun a66 hS66 => ?_
            refine st_enter hS66 rfl rfl rfl (r_call hS66 rfl rfl (by kernel_rfl)) (ref27_valid.calls (C0 := C0) (p0 := x43) (p1 := m0_0) (p2 := p1) (g := g34) (N + 0)  h48 h52 h56 h60 (fun q (hq : C0 q) => by have := hC0 q hq; omega) hr68) ?_
            rintro _ a69 w70 ⟨g70, rfl, F70⟩ hS69
            replace h48 := RdS.fr h48 F70 (by decide) (fun q (hq : C0 q) (hm : N + 0 ≤ q) => by have := hC0 q hq; omega)
            replace h52 := RdS.fr h52 F70 (by decide) (fun q (hq : C0 q) (hm : N + 0 ≤ q) => by have := hC0 q hq; omega)
            replace h56 := RdS.fr h56 F70 (by decide) (fun q (hq : C0 q) (hm : N + 0 ≤ q) => by have := hC0 q hq; omega)
            replace h60 := RdS.fr h60 F70 (by decide) (fun q (hq : C0 q) (hm : N + 0 ≤ q) => by have := hC0 q hq; omega)
            replace hel45 := hel45.fr F70 (fun q (hq : C0 q) (hm : N + 0 ≤ q) => by have := hC0 q hq; omega)
            replace hp0 := RdS.fr hp0 F70 (by decide) (fun q (hq : C0 q) (hm : N + 0 ≤ q) => by have := hC0 q hq; omega)
            replace hF := hF.trans F70 (fun c' (hm : N + 0 ≤ c') => by show N ≤ c'; omega)
            refine st_val hS69 rfl rfl rfl (r_not hS69 rfl rfl) fun a71 hS71 => wpList_nil (hK _ _ ?_)
            replace hS : Sl 31 _ [(0, .slice A0 p0.length cap0), (1, .int .i64 p1), (5, .int .i64 m0_0), (30, .bool (!r67))] := hS71.re ⟨rfl, rfl, rfl, rfl, trivial⟩
            clear hK K
            try clear hS41 hS42 hS63 hS64 hS65 hS66 hS69 hS71
            obtain ⟨a, ha⟩ : ∃ a', a' = a71 := ⟨_, rfl⟩
            rw [← ha] at hS ⊢; clear ha
            refine c_cond hS rfl (fun hb72 => ?_) (fun hb72 => ?_)
            · replace H := ite_t hb72 H
              refine c_pure [(4, .int .i64 1)] (fun R hR => st_val hS rfl rfl rfl (r_assign hS rfl rfl) fun a73 hS73 => wpList_nil (hR _ (hS73.re ⟨rfl, trivial⟩))) ?_
              clear hS
              clear a
              intro a hS
              refine wp_ret ?_
              have e := Option.some.inj H
              subst e
              replace H := Fl.go_out Hl32
              have e := Option.some.inj H
              subst e
              repeat (with_reducible first | refine then_ret ?_ | refine inBlock_ret ?_)
              exact c_ret1 hS Try.results18 rfl ⟨_, rfl, g70, rfl, hF⟩
            · replace H := ite_f hb72 H
              refine wp_skip ?_
              change Code.wp _ _ _ _ _
              refine c_pure1 [(0, .slice A0 p0.length cap0), (1, .int .i64 p1), (5, .int .i64 (wi (m0_0 + 1)))] (fun R hR => st_val hS rfl rfl rfl (r_move hS rfl rfl) fun a74 hS74 => st_val hS74 rfl rfl rfl (r_bin hS74 rfl rfl rfl b_add) fun a75 hS75 => st_val hS75 rfl rfl rfl (r_assign hS75 rfl rfl) fun a76 hS76 => wpList_nil (hR _ (hS76.re ⟨rfl, rfl, rfl, trivial⟩))) ?_
              clear hS
              clear a
              intro a hS
              refine ⟨k35, Nat.lt_succ_self _, ?_⟩
              exact ⟨wi (m0_0 + 1), g70, H, hS.re ⟨rfl, rfl, rfl, trivial⟩, hp0, hF⟩
          · replace H := ite_f hb40 H
            refine wp_exit ?_
            have e := Option.some.inj H
            exact ⟨g34, e.symm, hS.re trivial, hF⟩
    · clear H
      clear hp0 hF
      clear hS
      rintro a w29 ⟨g29, hpre0, hS, hF⟩
      subst hpre0
      have H := Fl.go_nxt Hl32
      clear Hl32
      refine c_pure [(4, .int .i64 0)] (fun R hR => st_val hS rfl rfl rfl (r_assign hS rfl rfl) fun a77 hS77 => wpList_nil (hR _ (hS77.re ⟨rfl, trivial⟩))) ?_
      clear hS
      clear a
      intro a hS
      refine wp_ret ?_
      have e := Option.some.inj H
      subst e
      repeat (with_reducible first | refine then_ret ?_ | refine inBlock_ret ?_)
      exact c_ret1 hS Try.results18 rfl ⟨_, rfl, g29, rfl, hF⟩

/-! ### law27_Some: function 16 -/
def law27_Some.l1 (p1 : Int) (x39 : api_PowerDevice) : Nat → api_PowerDevice → Int → Option (api_PowerDevice)
  | 0, _, _ => none
  | k277 + 1, m1_0, m1_1 => if ((decide (m1_1 < 4)) && (decide (0 < p1))) = true then ((idx (Ar4.l x39.Rails) m1_1).bind fun x316 => (law27_ascending.f x316 p1).bind fun r327 => (idx (Ar4.l m1_0.Rails) m1_1).bind fun x336 => (m1_0.Rails.put m1_1 r327).bind fun y345 => law27_Some.l1 p1 x39 k277 (api_PowerDevice.mk m1_0.Parent y345 m1_0.Deepest m1_0.WakeDevice m1_0.WakeSystem) (wi (m1_1 + 1))) else (some m1_0)
def law27_Some.l2 (x39 : api_PowerDevice) : Nat → api_PowerDevice → Int → Option (api_PowerDevice)
  | 0, _, _ => none
  | k376 + 1, m2_0, m2_1 => if decide (m2_1 < 6) = true then ((idx (Ar6.l m2_0.Deepest) (wi (m2_1 - 1))).bind fun x380 => (idx (Ar6.l x39.Deepest) m2_1).bind fun x402 => (help_Mod.f x402 5).bind fun r406 => (idx (Ar6.l m2_0.Deepest) m2_1).bind fun x408 => (m2_0.Deepest.put m2_1 (max x380 r406)).bind fun y412 => law27_Some.l2 x39 k376 (api_PowerDevice.mk m2_0.Parent m2_0.Rails y412 m2_0.WakeDevice m2_0.WakeSystem) (wi (m2_1 + 1))) else (some m2_0)
def law27_Some.l0 (p0 : List api_PowerDevice) (p1 : Int) : Nat → (List api_PowerDevice) → Int → Option ((List api_PowerDevice))
  | 0, _, _ => none
  | k15 + 1, m0_0, m0_1 => if ((decide (m0_1 < (p0.length : Int))) && (decide (m0_1 < 6))) = true then (((idx p0 m0_1).bind fun x39 => (help_Mod.f x39.Parent (wi (m0_1 + 1))).bind fun r59 => (help_Mod.f x39.WakeSystem 5).bind fun r61 => (help_Mod.f x39.WakeDevice 4).bind fun r63 => (law27_Some.l1 p1 x39 FUEL (api_PowerDevice.mk (wi (r59 - 1)) (Ar4.mk ([] : List Int) ([] : List Int) ([] : List Int) ([] : List Int)) (Ar6.mk 0 0 0 0 0 0) r63 r61) 0 : Option (api_PowerDevice)).bind fun v260 => (law27_Some.l2 x39 FUEL v260 1 : Option (api_PowerDevice)).bind fun v371 => (app m0_0 [v371]).bind fun y469 => some y469 : Option ((List api_PowerDevice))).bind fun v36 => law27_Some.l0 p0 p1 k15 v36 (wi (m0_1 + 1))) else (some m0_0)
def law27_Some.f (p0 : List api_PowerDevice) (p1 : Int) : Option ((List api_PowerDevice)) := (law27_Some.l0 p0 p1 FUEL [] 0 : Option ((List api_PowerDevice))).bind fun v7 => some v7
set_option maxRecDepth 100000 in
set_option maxHeartbeats 4000000 in
theorem law27_Some.calls {p0 : List api_PowerDevice} {A0 : Option Addr} {cap0 : Nat} {C0 : Nat → Prop} {p1 : Int} {w : World} {g : Nat → Nat} {out : (List api_PowerDevice)} (N : Nat) (r0 : Nat) (hp0 : RdS kd_api_PowerDevice w g C0 A0 cap0 p0) (hC0 : ∀ c, C0 c → c < N) (hr0 : r0 + 2 ≤ N) (H : law27_Some.f p0 p1 = some out) :
    Calls Try.prog 16 #[.slice A0 p0.length cap0, .int .i64 p1] w (fun e w' => ∃ v, e = .returned v ∧ ∃ (g' : Nat → Nat) (A_r0 : Option Addr) (cap_r0 : Nat), v = .slice A_r0 out.length cap_r0 ∧ OwS kd_api_PowerDevice 33 w' g' r0 A_r0 cap_r0 out ∧ Fr (fun q => (r0 ≤ q ∧ q < r0 + 2) ∨ N ≤ q) w g w' g') := by
  unfold law27_Some.f at H
  refine calls_enter Try.func16 rfl Try.ntmps16 rfl (fun a hS => ?_)
  replace hS : Sl 88 a [(0, .slice A0 p0.length cap0), (1, .int .i64 p1)] := hS
  have hF : Fr (fun q => (r0 ≤ q ∧ q < r0 + 2) ∨ N ≤ q) w g w g := Fr.refl _ _ _
  refine c_pure [(0, .slice A0 p0.length cap0), (1, .int .i64 p1)] (fun R hR => st_val hS rfl rfl rfl (r_assign hS rfl rfl) fun a1 hS1 => wpList_nil (hR _ (hS1.re ⟨rfl, rfl, trivial⟩))) ?_
  clear hS
  clear a
  intro a hS
  refine c_pure [(0, .slice A0 p0.length cap0), (1, .int .i64 p1), (5, .slice none 0 0)] (fun R hR => st_val hS rfl rfl rfl (r_assign hS rfl rfl) fun a2 hS2 => wpList_nil (hR _ (hS2.re ⟨rfl, rfl, rfl, trivial⟩))) ?_
  clear hS
  clear a
  intro a hS
  obtain ⟨v7, H, Hl9⟩ := bind_el H
  refine c_cut (fun a w3 => ∃ (g3 : Nat → Nat), ∃ (A4 : Option Addr), ∃ (cap5 : Nat), Sl 88 a [(5, .slice A4 v7.length cap5)] ∧ OwS kd_api_PowerDevice 33 w3 g3 (N + 4) A4 cap5 v7 ∧ Fr (fun q => (r0 ≤ q ∧ q < r0 + 2) ∨ N ≤ q) w g w3 g3) ?_ ?_
  · refine c_pure [(0, .slice A0 p0.length cap0), (1, .int .i64 p1), (5, .slice none 0 0), (6, .int .i64 0)] (fun R hR => st_val hS rfl rfl rfl (r_assign hS rfl rfl) fun a10 hS10 => wpList_nil (hR _ (hS10.re ⟨rfl, rfl, rfl, rfl, trivial⟩))) ?_
    clear hS
    clear a
    intro a hS
    refine wp_block ?_
    refine wp_loop_ghost (fun kq => fun a w11 => ∃ (m0_0 : List api_PowerDevice), ∃ (m0_1 : Int), ∃ (g11 : Nat → Nat), ∃ (A12 : Option Addr), ∃ (cap13 : Nat), law27_Some.l0 p0 p1 kq m0_0 m0_1 = some v7 ∧ Sl 88 a [(0, .slice A0 p0.length cap0), (1, .int .i64 p1), (5, .slice A12 m0_0.length cap13), (6, .int .i64 m0_1)] ∧ OwS kd_api_PowerDevice 33 w11 g11 (N + 4) A12 cap13 m0_0 ∧ RdS kd_api_PowerDevice w11 g11 C0 A0 cap0 p0 ∧ Fr (fun q => (r0 ≤ q ∧ q < r0 + 2) ∨ N ≤ q) w g w11 g11) FUEL ?_ ?_
    · exact ⟨[], 0, g, none, 0, H, hS.re ⟨rfl, rfl, rfl, rfl, trivial⟩, OwS.nil kd_api_PowerDevice 33 w g (N + 4), hp0, hF⟩
    · clear H
      clear hp0 hF
      clear hS
      rintro k15 a w11 ⟨m0_0, m0_1, g11, A12, cap13, hpre0, hS, h14, hp0, hF⟩
      have H := hpre0
      clear hpre0
      cases k15 with
      | zero => exact absurd H (by simp [law27_Some.l0])
      | succ k15 =>
        rw [law27_Some.l0] at H
        refine wp_seq ?_
        refine c_region (fun K hK => ?_)
        refine st_val hS rfl rfl rfl (r_move hS rfl rfl) fun a16 hS16 => st_val hS16 rfl rfl rfl (r_move hS16 rfl rfl) fun a17 hS17 => st_val hS17 rfl rfl rfl (r_len (e := 33) (sz := 13) (by_ := 168) hS17 rfl rfl (by kernel_rfl)) fun a18 hS18 => st_val hS18 rfl rfl rfl (r_bin hS18 rfl rfl rfl b_lss) fun a19 hS19 => st_val hS19 rfl rfl rfl (r_move hS19 rfl rfl) fun a20 hS20 => ?_
        refine g_join (N := 88) 3 [(0, .slice A0 p0.length cap0), (1, .int .i64 p1), (5, .slice A12 m0_0.length cap13), (6, .int .i64 m0_1), (17, .bool ((decide (m0_1 < (p0.length : Int))) && (decide (m0_1 < 6))))] ?_ (fun hk => ?_)
        rotate_left
        · rcases Bool.eq_false_or_eq_true (decide (m0_1 < (p0.length : Int))) with hb21 | hb21
          · refine st_valW hS20 (want_on hS20 rfl rfl rfl hb21) rfl rfl (r_move hS20 rfl rfl) fun a24 hS24 => st_valW hS24 (want_on hS24 rfl rfl rfl hb21) rfl rfl (r_bin hS24 rfl rfl rfl b_lss) fun a25 hS25 => st_val hS25 rfl rfl rfl (r_pickT hS25 rfl rfl rfl hb21) fun a26 hS26 => hk _ (hS26.re ⟨rfl, rfl, rfl, rfl, (by rw [hb21]; rfl), trivial⟩)
          · refine st_off hS20 (want_off hS20 rfl rfl rfl hb21) rfl rfl fun a27 hS27 => st_off hS27 (want_off hS27 rfl rfl rfl hb21) rfl rfl fun a28 hS28 => st_val hS28 rfl rfl rfl (r_pickF hS28 rfl rfl rfl hb21) fun a29 hS29 => hk _ (hS29.re ⟨rfl, rfl, rfl, rfl, (by rw [hb21]; rfl), trivial⟩)
        intro a30 hS30
        refine wpList_nil (hK _ _ ?_)
        replace hS : Sl 88 _ [(0, .slice A0 p0.length cap0), (1, .int .i64 p1), (5, .slice A12 m0_0.length cap13), (6, .int .i64 m0_1), (17, .bool ((decide (m0_1 < (p0.length : Int))) && (decide (m0_1 < 6))))] := hS30.re ⟨rfl, rfl, rfl, rfl, rfl, trivial⟩
        clear hK K
        try clear hS16 hS17 hS18 hS19 hS20 hS30
        obtain ⟨a, ha⟩ : ∃ a', a' = a30 := ⟨_, rfl⟩
        rw [← ha] at hS ⊢; clear ha
        refine c_cond hS rfl (fun hb31 => ?_) (fun hb31 => ?_)
        · replace H := ite_t hb31 H
          refine wp_skip ?_
          change Code.wp _ _ _ _ _
          obtain ⟨v36, H, Hl38⟩ := bind_el H
          refine c_cut (fun a w32 => ∃ (g32 : Nat → Nat), ∃ (A33 : Option Addr), ∃ (cap34 : Nat), Sl 88 a [(0, .slice A0 p0.length cap0), (1, .int .i64 p1), (5, .slice A33 v36.length cap34), (6, .int .i64 m0_1)] ∧ OwS kd_api_PowerDevice 33 w32 g32 (N + 4) A33 cap34 v36 ∧ RdS kd_api_PowerDevice w32 g32 C0 A0 cap0 p0 ∧ Fr (fun q => (r0 ≤ q ∧ q < r0 + 2) ∨ N ≤ q) w g w32 g32) ?_ ?_
          · refine wp_block ?_
            obtain ⟨x39, hx40, H⟩ := bind_el H
            obtain ⟨r59, hr60, H⟩ := bind_el H
            obtain ⟨r61, hr62, H⟩ := bind_el H
            obtain ⟨r63, hr64, H⟩ := bind_el H
            refine c_cut (fun a w156 => ∃ (g156 : Nat → Nat), ∃ (b157 : Nat), Sl 88 a [(0, .slice A0 p0.length cap0), (1, .int .i64 p1), (5, .slice A12 m0_0.length cap13), (6, .int .i64 m0_1), (7, .pointer (some ⟨b157, 0, none⟩))] ∧ OwS kd_api_PowerDevice 33 w156 g156 (N + 4) A12 cap13 m0_0 ∧ Bx w156 g156 (N + 0) b157 33 [.int .i64 (wi (r59 - 1)), .slice none 0 0, .slice none 0 0, .slice none 0 0, .slice none 0 0, .int .i64 0, .int .i64 0, .int .i64 0, .int .i64 0, .int .i64 0, .int .i64 0, .int .i64 r63, .int .i64 r61] ∧ RdS kd_api_PowerDevice w156 g156 C0 A0 cap0 p0 ∧ Fr (fun q => (r0 ≤ q ∧ q < r0 + 2) ∨ N ≤ q) w g w156 g156) (d_start (fun q => N + 8 ≤ q) g11 [23] 24 #[false, false, false, false, false, false, false, false, false, false, false, false, false, false, false, false, false, false, false, false, false, false, false, false] (by kernel_rfl) rfl rfl (fun w159 hw159 => ?_)) ?_
            · have F159 : Fr (fun _ => False) w11 g11 w159 g11 := by rw [hw159]; exact Fr.drew _ _ _
              replace h14 := OwS.fr h14 F159 (fun _ _ h => h)
              replace hp0 := RdS.fr hp0 F159 (by decide) (fun _ _ h => h)
              replace hF := hF.trans F159 (fun _ h => h.elim)
              have hC : Fr (fun q => N + 8 ≤ q) w159 g11 w159 g11 := Fr.refl _ _ _
              refine d_pure hS 0 #[true, false, false, false, false, false, false, false, false, false, false, false, false, false, false, false, false, false, false, false, false, false, false, false] rfl rfl rfl rfl (by kernel_rfl) (fun _ _ _ h => h) (fun _ => (r_move hS rfl rfl)) fun a160 hS160 => d_pure hS160 1 #[true, true, false, false, false, false, false, false, false, false, false, false, false, false, false, false, false, false, false, false, false, false, false, false] rfl rfl rfl rfl (by kernel_rfl) (fun _ _ _ h => h) (fun _ => (r_move hS160 rfl rfl)) fun a161 hS161 => ?_
              obtain ⟨_, ⟨A163, cap164, A167, cap168, A171, cap172, A175, cap176, rfl, h165, h169, h173, h177⟩, hel162⟩ := El.of hp0 hx40 (by decide)
              replace hel162 : El w159 g11 C0 A0 (m0_1.toNat * 13) [.int .i64 x39.Parent, .slice A163 x39.Rails.a0.length cap164, .slice A167 x39.Rails.a1.length cap168, .slice A171 x39.Rails.a2.length cap172, .slice A175 x39.Rails.a3.length cap176, .int .i64 x39.Deepest.a0, .int .i64 x39.Deepest.a1, .int .i64 x39.Deepest.a2, .int .i64 x39.Deepest.a3, .int .i64 x39.Deepest.a4, .int .i64 x39.Deepest.a5, .int .i64 x39.WakeDevice, .int .i64 x39.WakeSystem] := hel162
              refine d_pure hS161 2 #[true, true, true, false, false, false, false, false, false, false, false, false, false, false, false, false, false, false, false, false, false, false, false, false] rfl rfl rfl rfl (by kernel_rfl) (fun _ _ _ h => h) (fun _ => (r_index (e := 33) (sz := 13) (by_ := 168) hS161 rfl rfl rfl (by kernel_rfl) (RdS.some_ hp0 hx40) (idx_lo hx40) (idx_hi hx40))) fun a180 hS180 => d_pure hS180 3 #[true, true, true, true, false, false, false, false, false, false, false, false, false, false, false, false, false, false, false, false, false, false, false, false] rfl rfl rfl rfl (by kernel_rfl) (fun _ _ _ h => h) (fun _ => (r_fieldE (off := 0) hS180 rfl rfl (by kernel_rfl))) fun a181 hS181 => d_take hS181 4 #[true, true, true, true, true, false, false, false, false, false, false, false, false, false, false, false, false, false, false, false, false, false, false, false] rfl rfl rfl rfl (by kernel_rfl) (fun _ _ _ h => h) ⟨_, hC⟩ (fun w' g' Fz => (r_load1 (n := 1) hS181 rfl rfl (by kernel_rfl) (El.cell (j := 0) (hel162.fr Fz (fun q (hq : C0 q) (hm : N + 8 ≤ q) => by have := hC0 q hq; omega)) rfl))) fun a182 hS182 => d_pure hS182 5 #[true, true, true, true, true, true, false, false, false, false, false, false, false, false, false, false, false, false, false, false, false, false, false, false] rfl rfl rfl rfl (by kernel_rfl) (fun _ _ _ h => h) (fun _ => (r_move hS182 rfl rfl)) fun a183 hS183 => d_pure hS183 6 #[true, true, true, true, true, true, true, false, false, false, false, false, false, false, false, false, false, false, false, false, false, false, false, false] rfl rfl rfl rfl (by kernel_rfl) (fun _ _ _ h => h) (fun _ => (r_bin hS183 rfl rfl rfl b_add)) fun a184 hS184 => d_pure hS184 9 #[true, true, true, true, true, true, true, false, false, true, false, false, false, false, false, false, false, false, false, false, false, false, false, false] rfl rfl rfl rfl (by kernel_rfl) (fun _ _ _ h => h) (fun _ => (r_move hS184 rfl rfl)) fun a185 hS185 => d_pure hS185 10 #[true, true, true, true, true, true, true, false, false, true, true, false, false, false, false, false, false, false, false, false, false, false, false, false] rfl rfl rfl rfl (by kernel_rfl) (fun _ _ _ h => h) (fun _ => (r_move hS185 rfl rfl)) fun a186 hS186 => d_pure hS186 11 #[true, true, true, true, true, true, true, false, false, true, true, true, false, false, false, false, false, false, false, false, false, false, false, false] rfl rfl rfl rfl (by kernel_rfl) (fun _ _ _ h => h) (fun _ => (r_index (e := 33) (sz := 13) (by_ := 168) hS186 rfl rfl rfl (by kernel_rfl) (RdS.some_ hp0 hx40) (idx_lo hx40) (idx_hi hx40))) fun a187 hS187 => d_pure hS187 12 #[true, true, true, true, true, true, true, false, false, true, true, true, true, false, false, false, false, false, false, false, false, false, false, false] rfl rfl rfl rfl (by kernel_rfl) (fun _ _ _ h => h) (fun _ => (r_fieldE (off := 12) hS187 rfl rfl (by kernel_rfl))) fun a188 hS188 => d_take hS188 13 #[true, true, true, true, true, true, true, false, false, true, true, true, true, true, false, false, false, false, false, false, false, false, false, false] rfl rfl rfl rfl (by kernel_rfl) (fun _ _ _ h => h) ⟨_, hC⟩ (fun w' g' Fz => (r_load1 (n := 1) hS188 rfl rfl (by kernel_rfl) (El.cell (j := 12) (hel162.fr Fz (fun q (hq : C0 q) (hm : N + 8 ≤ q) => by have := hC0 q hq; omega)) rfl))) fun a189 hS189 => d_pure hS189 15 #[true, true, true, true, true, true, true, false, false, true, true, true, true, true, false, true, false, false, false, false, false, false, false, false] rfl rfl rfl rfl (by kernel_rfl) (fun _ _ _ h => h) (fun _ => (r_move hS189 rfl rfl)) fun a190 hS190 => d_pure hS190 16 #[true, true, true, true, true, true, true, false, false, true, true, true, true, true, false, true, true, false, false, false, false, false, false, false] rfl rfl rfl rfl (by kernel_rfl) (fun _ _ _ h => h) (fun _ => (r_move hS190 rfl rfl)) fun a191 hS191 => d_pure hS191 17 #[true, true, true, true, true, true, true, false, false, true, true, true, true, true, false, true, true, true, false, false, false, false, false, false] rfl rfl rfl rfl (by kernel_rfl) (fun _ _ _ h => h) (fun _ => (r_index (e := 33) (sz := 13) (by_ := 168) hS191 rfl rfl rfl (by kernel_rfl) (RdS.some_ hp0 hx40) (idx_lo hx40) (idx_hi hx40))) fun a192 hS192 => d_pure hS192 18 #[true, true, true, true, true, true, true, false, false, true, true, true, true, true, false, true, true, true, true, false, false, false, false, false] rfl rfl rfl rfl (by kernel_rfl) (fun _ _ _ h => h) (fun _ => (r_fieldE (off := 11) hS192 rfl rfl (by kernel_rfl))) fun a193 hS193 => d_take hS193 19 #[true, true, true, true, true, true, true, false, false, true, true, true, true, true, false, true, true, true, true, true, false, false, false, false] rfl rfl rfl rfl (by kernel_rfl) (fun _ _ _ h => h) ⟨_, hC⟩ (fun w' g' Fz => (r_load1 (n := 1) hS193 rfl rfl (by kernel_rfl) (El.cell (j := 11) (hel162.fr Fz (fun q (hq : C0 q) (hm : N + 8 ≤ q) => by have := hC0 q hq; omega)) rfl))) fun a194 hS194 => ?_
              refine d_two 7 22 #[true, true, true, true, true, true, true, true, false, true, true, true, true, true, false, true, true, true, true, true, false, false, false, false] #[true, true, true, true, true, true, true, false, false, true, true, true, true, true, false, true, true, true, true, true, false, false, true, false] rfl rfl (by kernel_rfl) (arm_call hS194 rfl rfl rfl (r_call hS194 rfl rfl (by kernel_rfl)) (help_Mod.calls (p0 := x39.Parent) (p1 := (wi (m0_1 + 1))) (g := g11) (N + 8)   hr60) (fun _ _ ⟨g', _, Fz⟩ _ => ⟨g', hC.trans Fz (fun c' (hm : N + 8 ≤ c') => by show N + 8 ≤ c'; omega)⟩) ?_) (arm_eff hS194 rfl rfl rfl (e_alloc (cs := [.int .i64 0, .slice none 0 0, .slice none 0 0, .slice none 0 0, .slice none 0 0, .int .i64 0, .int .i64 0, .int .i64 0, .int .i64 0, .int .i64 0, .int .i64 0, .int .i64 0, .int .i64 0]) (N + 0) g11 hS194 rfl (by kernel_rfl)) (fun _ _ g' hR _ => ⟨g', hC.trans hR.2 (fun _ h => h.elim)⟩) ?_)
              · rintro _ a195 w196 ⟨g196, rfl, F196⟩ hS195
                have hC196 := hC.trans F196 (fun c' (hm : N + 8 ≤ c') => by show N + 8 ≤ c'; omega)
                replace h165 := RdS.fr h165 F196 (by decide) (fun q (hq : C0 q) (hm : N + 8 ≤ q) => by have := hC0 q hq; omega)
                replace h169 := RdS.fr h169 F196 (by decide) (fun q (hq : C0 q) (hm : N + 8 ≤ q) => by have := hC0 q hq; omega)
                replace h173 := RdS.fr h173 F196 (by decide) (fun q (hq : C0 q) (hm : N + 8 ≤ q) => by have := hC0 q hq; omega)
                replace h177 := RdS.fr h177 F196 (by decide) (fun q (hq : C0 q) (hm : N + 8 ≤ q) => by have := hC0 q hq; omega)
                replace hel162 := hel162.fr F196 (fun q (hq : C0 q) (hm : N + 8 ≤ q) => by have := hC0 q hq; omega)
                replace h14 := OwS.fr h14 F196 (fun c' hc (hm : N + 8 ≤ c') => by omega)
                replace hp0 := RdS.fr hp0 F196 (by decide) (fun q (hq : C0 q) (hm : N + 8 ≤ q) => by have := hC0 q hq; omega)
                replace hF := hF.trans F196 (fun c' (hm : N + 8 ≤ c') => by show (r0 ≤ c' ∧ c' < r0 + 2) ∨ N ≤ c'; omega)
                refine d_pure hS195 8 #[true, true, true, true, true, true, true, true, true, true, true, true, true, true, false, true, true, true, true, true, false, false, false, false] rfl rfl rfl rfl (by kernel_rfl) (fun _ _ _ h => h) (fun _ => (r_bin hS195 rfl rfl rfl b_sub)) fun a197 hS197 => ?_
                refine d_two 14 22 #[true, true, true, true, true, true, true, true, true, true, true, true, true, true, true, true, true, true, true, true, false, false, false, false] #[true, true, true, true, true, true, true, true, true, true, true, true, true, true, false, true, true, true, true, true, false, false, true, false] rfl rfl (by kernel_rfl) (arm_call hS197 rfl rfl rfl (r_call hS197 rfl rfl (by kernel_rfl)) (help_Mod.calls (p0 := x39.WakeSystem) (p1 := 5) (g := g196) (N + 8)   hr62) (fun _ _ ⟨g', _, Fz⟩ _ => ⟨g', hC196.trans Fz (fun c' (hm : N + 8 ≤ c') => by show N + 8 ≤ c'; omega)⟩) ?_) (arm_eff hS197 rfl rfl rfl (e_alloc (cs := [.int .i64 0, .slice none 0 0, .slice none 0 0, .slice none 0 0, .slice none 0 0, .int .i64 0, .int .i64 0, .int .i64 0, .int .i64 0, .int .i64 0, .int .i64 0, .int .i64 0, .int .i64 0]) (N + 0) g196 hS197 rfl (by kernel_rfl)) (fun _ _ g' hR _ => ⟨g', hC196.trans hR.2 (fun _ h => h.elim)⟩) ?_)
                · rintro _ a198 w199 ⟨g199, rfl, F199⟩ hS198
                  have hC199 := hC196.trans F199 (fun c' (hm : N + 8 ≤ c') => by show N + 8 ≤ c'; omega)
                  replace h165 := RdS.fr h165 F199 (by decide) (fun q (hq : C0 q) (hm : N + 8 ≤ q) => by have := hC0 q hq; omega)
                  replace h169 := RdS.fr h169 F199 (by decide) (fun q (hq : C0 q) (hm : N + 8 ≤ q) => by have := hC0 q hq; omega)
                  replace h173 := RdS.fr h173 F199 (by decide) (fun q (hq : C0 q) (hm : N + 8 ≤ q) => by have := hC0 q hq; omega)
                  replace h177 := RdS.fr h177 F199 (by decide) (fun q (hq : C0 q) (hm : N + 8 ≤ q) => by have := hC0 q hq; omega)
                  replace hel162 := hel162.fr F199 (fun q (hq : C0 q) (hm : N + 8 ≤ q) => by have := hC0 q hq; omega)
                  replace h14 := OwS.fr h14 F199 (fun c' hc (hm : N + 8 ≤ c') => by omega)
                  replace hp0 := RdS.fr hp0 F199 (by decide) (fun q (hq : C0 q) (hm : N + 8 ≤ q) => by have := hC0 q hq; omega)
                  replace hF := hF.trans F199 (fun c' (hm : N + 8 ≤ c') => by show (r0 ≤ c' ∧ c' < r0 + 2) ∨ N ≤ c'; omega)
                  refine d_two 20 22 #[true, true, true, true, true, true, true, true, true, true, true, true, true, true, true, true, true, true, true, true, true, false, false, false] #[true, true, true, true, true, true, true, true, true, true, true, true, true, true, true, true, true, true, true, true, false, false, true, false] rfl rfl (by kernel_rfl) (arm_call hS198 rfl rfl rfl (r_call hS198 rfl rfl (by kernel_rfl)) (help_Mod.calls (p0 := x39.WakeDevice) (p1 := 4) (g := g199) (N + 8)   hr64) (fun _ _ ⟨g', _, Fz⟩ _ => ⟨g', hC199.trans Fz (fun c' (hm : N + 8 ≤ c') => by show N + 8 ≤ c'; omega)⟩) ?_) (arm_eff hS198 rfl rfl rfl (e_alloc (cs := [.int .i64 0, .slice none 0 0, .slice none 0 0, .slice none 0 0, .slice none 0 0, .int .i64 0, .int .i64 0, .int .i64 0, .int .i64 0, .int .i64 0, .int .i64 0, .int .i64 0, .int .i64 0]) (N + 0) g199 hS198 rfl (by kernel_rfl)) (fun _ _ g' hR _ => ⟨g', hC199.trans hR.2 (fun _ h => h.elim)⟩) ?_)
                  · rintro _ a200 w201 ⟨g201, rfl, F201⟩ hS200
                    have hC201 := hC199.trans F201 (fun c' (hm : N + 8 ≤ c') => by show N + 8 ≤ c'; omega)
                    replace h165 := RdS.fr h165 F201 (by decide) (fun q (hq : C0 q) (hm : N + 8 ≤ q) => by have := hC0 q hq; omega)
                    replace h169 := RdS.fr h169 F201 (by decide) (fun q (hq : C0 q) (hm : N + 8 ≤ q) => by have := hC0 q hq; omega)
                    replace h173 := RdS.fr h173 F201 (by decide) (fun q (hq : C0 q) (hm : N + 8 ≤ q) => by have := hC0 q hq; omega)
                    replace h177 := RdS.fr h177 F201 (by decide) (fun q (hq : C0 q) (hm : N + 8 ≤ q) => by have := hC0 q hq; omega)
                    replace hel162 := hel162.fr F201 (fun q (hq : C0 q) (hm : N + 8 ≤ q) => by have := hC0 q hq; omega)
                    replace h14 := OwS.fr h14 F201 (fun c' hc (hm : N + 8 ≤ c') => by omega)
                    replace hp0 := RdS.fr hp0 F201 (by decide) (fun q (hq : C0 q) (hm : N + 8 ≤ q) => by have := hC0 q hq; omega)
                    replace hF := hF.trans F201 (fun c' (hm : N + 8 ≤ c') => by show (r0 ≤ c' ∧ c' < r0 + 2) ∨ N ≤ c'; omega)
                    refine d_pure hS200 21 #[true, true, true, true, true, true, true, true, true, true, true, true, true, true, true, true, true, true, true, true, true, true, false, false] rfl rfl rfl rfl (by kernel_rfl) (fun _ _ _ h => h) (fun _ => (r_build (parts := [(0, .int .i64 (wi (r59 - 1))), (4, .int .i64 r61), (3, .int .i64 r63)]) (u := .agg #[.int .i64 (wi (r59 - 1)), .slice none 0 0, .slice none 0 0, .slice none 0 0, .slice none 0 0, .int .i64 0, .int .i64 0, .int .i64 0, .int .i64 0, .int .i64 0, .int .i64 0, .int .i64 r63, .int .i64 r61]) hS200 rfl rfl (fun _ => by kernel_rfl))) fun a202 hS202 => ?_
                    refine d_one 22 #[true, true, true, true, true, true, true, true, true, true, true, true, true, true, true, true, true, true, true, true, true, true, true, false] rfl (by kernel_rfl) (arm_eff hS202 rfl rfl rfl (e_alloc (cs := [.int .i64 0, .slice none 0 0, .slice none 0 0, .slice none 0 0, .slice none 0 0, .int .i64 0, .int .i64 0, .int .i64 0, .int .i64 0, .int .i64 0, .int .i64 0, .int .i64 0, .int .i64 0]) (N + 0) g201 hS202 rfl (by kernel_rfl)) (fun _ _ g' hR _ => ⟨g', hC201.trans hR.2 (fun _ h => h.elim)⟩) ?_)
                    rintro _ a206 w207 g207 ⟨⟨b203, rfl, h204⟩, F207⟩ hS206
                    have hC207 := hC201.trans F207 (fun _ h => h.elim)
                    replace h165 := RdS.fr h165 F207 (by decide) (fun _ _ h => h)
                    replace h169 := RdS.fr h169 F207 (by decide) (fun _ _ h => h)
                    replace h173 := RdS.fr h173 F207 (by decide) (fun _ _ h => h)
                    replace h177 := RdS.fr h177 F207 (by decide) (fun _ _ h => h)
                    replace hel162 := hel162.fr F207 (fun _ _ h => h)
                    replace h14 := OwS.fr h14 F207 (fun _ _ h => h)
                    replace hp0 := RdS.fr hp0 F207 (by decide) (fun _ _ h => h)
                    replace hF := hF.trans F207 (fun _ h => h.elim)
                    refine d_one 23 #[true, true, true, true, true, true, true, true, true, true, true, true, true, true, true, true, true, true, true, true, true, true, true, true] rfl (by kernel_rfl) (arm_effS hS206 rfl rfl (e_storeB (n := 13) (bb := true) (cs' := [.int .i64 (wi (r59 - 1)), .slice none 0 0, .slice none 0 0, .slice none 0 0, .slice none 0 0, .int .i64 0, .int .i64 0, .int .i64 0, .int .i64 0, .int .i64 0, .int .i64 0, .int .i64 r63, .int .i64 r61]) g207 hS206 rfl rfl rfl (by kernel_rfl) rfl rfl rfl h204 rfl rfl) (.inl (by decide)) ?_)
                    rintro a208 w209 g209 ⟨h204, F209⟩ hS208
                    replace h165 := RdS.fr h165 F209 (by decide) (fun q (hq : C0 q) (hm : q = N + 0) => by have := hC0 q hq; omega)
                    replace h169 := RdS.fr h169 F209 (by decide) (fun q (hq : C0 q) (hm : q = N + 0) => by have := hC0 q hq; omega)
                    replace h173 := RdS.fr h173 F209 (by decide) (fun q (hq : C0 q) (hm : q = N + 0) => by have := hC0 q hq; omega)
                    replace h177 := RdS.fr h177 F209 (by decide) (fun q (hq : C0 q) (hm : q = N + 0) => by have := hC0 q hq; omega)
                    replace hel162 := hel162.fr F209 (fun q (hq : C0 q) (hm : q = N + 0) => by have := hC0 q hq; omega)
                    replace h14 := OwS.fr h14 F209 (fun c' hc (hm : c' = N + 0) => by omega)
                    replace hp0 := RdS.fr hp0 F209 (by decide) (fun q (hq : C0 q) (hm : q = N + 0) => by have := hC0 q hq; omega)
                    replace hF := hF.trans F209 (fun c' (hm : c' = N + 0) => by show (r0 ≤ c' ∧ c' < r0 + 2) ∨ N ≤ c'; omega)
                    refine d_done (by kernel_rfl) ?_
                    exact ⟨g209, b203, hS208.re ⟨rfl, rfl, rfl, rfl, rfl, trivial⟩, h14, h204, hp0, hF⟩
                  · rintro _ a213 w214 g214 ⟨⟨b210, rfl, h211⟩, F214⟩ hS213
                    have hC214 := hC199.trans F214 (fun _ h => h.elim)
                    replace h165 := RdS.fr h165 F214 (by decide) (fun _ _ h => h)
                    replace h169 := RdS.fr h169 F214 (by decide) (fun _ _ h => h)
                    replace h173 := RdS.fr h173 F214 (by decide) (fun _ _ h => h)
                    replace h177 := RdS.fr h177 F214 (by decide) (fun _ _ h => h)
                    replace hel162 := hel162.fr F214 (fun _ _ h => h)
                    replace h14 := OwS.fr h14 F214 (fun _ _ h => h)
                    replace hp0 := RdS.fr hp0 F214 (by decide) (fun _ _ h => h)
                    replace hF := hF.trans F214 (fun _ h => h.elim)
                    refine d_one 20 #[true, true, true, true, true, true, true, true, true, true, true, true, true, true, true, true, true, true, true, true, true, false, true, false] rfl (by kernel_rfl) (arm_call hS213 rfl rfl rfl (r_call hS213 rfl rfl (by kernel_rfl)) (help_Mod.calls (p0 := x39.WakeDevice) (p1 := 4) (g := g214) (N + 8)   hr64) (fun _ _ ⟨g', _, Fz⟩ _ => ⟨g', hC214.trans Fz (fun c' (hm : N + 8 ≤ c') => by show N + 8 ≤ c'; omega)⟩) ?_)
                    rintro _ a215 w216 ⟨g216, rfl, F216⟩ hS215
                    have hC216 := hC214.trans F216 (fun c' (hm : N + 8 ≤ c') => by show N + 8 ≤ c'; omega)
                    replace h165 := RdS.fr h165 F216 (by decide) (fun q (hq : C0 q) (hm : N + 8 ≤ q) => by have := hC0 q hq; omega)
                    replace h169 := RdS.fr h169 F216 (by decide) (fun q (hq : C0 q) (hm : N + 8 ≤ q) => by have := hC0 q hq; omega)
                    replace h173 := RdS.fr h173 F216 (by decide) (fun q (hq : C0 q) (hm : N + 8 ≤ q) => by have := hC0 q hq; omega)
                    replace h177 := RdS.fr h177 F216 (by decide) (fun q (hq : C0 q) (hm : N + 8 ≤ q) => by have := hC0 q hq; omega)
                    replace hel162 := hel162.fr F216 (fun q (hq : C0 q) (hm : N + 8 ≤ q) => by have := hC0 q hq; omega)
                    replace h211 := h211.fr F216 (fun (hm : N + 8 ≤ N + 0) => by omega)
                    replace h14 := OwS.fr h14 F216 (fun c' hc (hm : N + 8 ≤ c') => by omega)
                    replace hp0 := RdS.fr hp0 F216 (by decide) (fun q (hq : C0 q) (hm : N + 8 ≤ q) => by have := hC0 q hq; omega)
                    replace hF := hF.trans F216 (fun c' (hm : N + 8 ≤ c') => by show (r0 ≤ c' ∧ c' < r0 + 2) ∨ N ≤ c'; omega)
                    refine d_pure hS215 21 #[true, true, true, true, true, true, true, true, true, true, true, true, true, true, true, true, true, true, true, true, true, true, true, false] rfl rfl rfl rfl (by kernel_rfl) (fun _ _ _ h => h) (fun _ => (r_build (parts := [(0, .int .i64 (wi (r59 - 1))), (4, .int .i64 r61), (3, .int .i64 r63)]) (u := .agg #[.int .i64 (wi (r59 - 1)), .slice none 0 0, .slice none 0 0, .slice none 0 0, .slice none 0 0, .int .i64 0, .int .i64 0, .int .i64 0, .int .i64 0, .int .i64 0, .int .i64 0, .int .i64 r63, .int .i64 r61]) hS215 rfl rfl (fun _ => by kernel_rfl))) fun a217 hS217 => ?_
                    refine d_one 23 #[true, true, true, true, true, true, true, true, true, true, true, true, true, true, true, true, true, true, true, true, true, true, true, true] rfl (by kernel_rfl) (arm_effS hS217 rfl rfl (e_storeB (n := 13) (bb := true) (cs' := [.int .i64 (wi (r59 - 1)), .slice none 0 0, .slice none 0 0, .slice none 0 0, .slice none 0 0, .int .i64 0, .int .i64 0, .int .i64 0, .int .i64 0, .int .i64 0, .int .i64 0, .int .i64 r63, .int .i64 r61]) g216 hS217 rfl rfl rfl (by kernel_rfl) rfl rfl rfl h211 rfl rfl) (.inl (by decide)) ?_)
                    rintro a218 w219 g219 ⟨h211, F219⟩ hS218
                    replace h165 := RdS.fr h165 F219 (by decide) (fun q (hq : C0 q) (hm : q = N + 0) => by have := hC0 q hq; omega)
                    replace h169 := RdS.fr h169 F219 (by decide) (fun q (hq : C0 q) (hm : q = N + 0) => by have := hC0 q hq; omega)
                    replace h173 := RdS.fr h173 F219 (by decide) (fun q (hq : C0 q) (hm : q = N + 0) => by have := hC0 q hq; omega)
                    replace h177 := RdS.fr h177 F219 (by decide) (fun q (hq : C0 q) (hm : q = N + 0) => by have := hC0 q hq; omega)
                    replace hel162 := hel162.fr F219 (fun q (hq : C0 q) (hm : q = N + 0) => by have := hC0 q hq; omega)
                    replace h14 := OwS.fr h14 F219 (fun c' hc (hm : c' = N + 0) => by omega)
                    replace hp0 := RdS.fr hp0 F219 (by decide) (fun q (hq : C0 q) (hm : q = N + 0) => by have := hC0 q hq; omega)
                    replace hF := hF.trans F219 (fun c' (hm : c' = N + 0) => by show (r0 ≤ c' ∧ c' < r0 + 2) ∨ N ≤ c'; omega)
                    refine d_done (by kernel_rfl) ?_
                    exact ⟨g219, b210, hS218.re ⟨rfl, rfl, rfl, rfl, rfl, trivial⟩, h14, h211, hp0, hF⟩
                · rintro _ a223 w224 g224 ⟨⟨b220, rfl, h221⟩, F224⟩ hS223
                  have hC224 := hC196.trans F224 (fun _ h => h.elim)
                  replace h165 := RdS.fr h165 F224 (by decide) (fun _ _ h => h)
                  replace h169 := RdS.fr h169 F224 (by decide) (fun _ _ h => h)
                  replace h173 := RdS.fr h173 F224 (by decide) (fun _ _ h => h)
                  replace h177 := RdS.fr h177 F224 (by decide) (fun _ _ h => h)
                  replace hel162 := hel162.fr F224 (fun _ _ h => h)
                  replace h14 := OwS.fr h14 F224 (fun _ _ h => h)
                  replace hp0 := RdS.fr hp0 F224 (by decide) (fun _ _ h => h)
                  replace hF := hF.trans F224 (fun _ h => h.elim)
                  refine d_one 14 #[true, true, true, true, true, true, true, true, true, true, true, true, true, true, true, true, true, true, true, true, false, false, true, false] rfl (by kernel_rfl) (arm_call hS223 rfl rfl rfl (r_call hS223 rfl rfl (by kernel_rfl)) (help_Mod.calls (p0 := x39.WakeSystem) (p1 := 5) (g := g224) (N + 8)   hr62) (fun _ _ ⟨g', _, Fz⟩ _ => ⟨g', hC224.trans Fz (fun c' (hm : N + 8 ≤ c') => by show N + 8 ≤ c'; omega)⟩) ?_)
                  rintro _ a225 w226 ⟨g226, rfl, F226⟩ hS225
                  have hC226 := hC224.trans F226 (fun c' (hm : N + 8 ≤ c') => by show N + 8 ≤ c'; omega)
                  replace h165 := RdS.fr h165 F226 (by decide) (fun q (hq : C0 q) (hm : N + 8 ≤ q) => by have := hC0 q hq; omega)
                  replace h169 := RdS.fr h169 F226 (by decide) (fun q (hq : C0 q) (hm : N + 8 ≤ q) => by have := hC0 q hq; omega)
                  replace h173 := RdS.fr h173 F226 (by decide) (fun q (hq : C0 q) (hm : N + 8 ≤ q) => by have := hC0 q hq; omega)
                  replace h177 := RdS.fr h177 F226 (by decide) (fun q (hq : C0 q) (hm : N + 8 ≤ q) => by have := hC0 q hq; omega)
                  replace hel162 := hel162.fr F226 (fun q (hq : C0 q) (hm : N + 8 ≤ q) => by have := hC0 q hq; omega)
                  replace h221 := h221.fr F226 (fun (hm : N + 8 ≤ N + 0) => by omega)
                  replace h14 := OwS.fr h14 F226 (fun c' hc (hm : N + 8 ≤ c') => by omega)
                  replace hp0 := RdS.fr hp0 F226 (by decide) (fun q (hq : C0 q) (hm : N + 8 ≤ q) => by have := hC0 q hq; omega)
                  replace hF := hF.trans F226 (fun c' (hm : N + 8 ≤ c') => by show (r0 ≤ c' ∧ c' < r0 + 2) ∨ N ≤ c'; omega)
                  refine d_one 20 #[true, true, true, true, true, true, true, true, true, true, true, true, true, true, true, true, true, true, true, true, true, false, true, false] rfl (by kernel_rfl) (arm_call hS225 rfl rfl rfl (r_call hS225 rfl rfl (by kernel_rfl)) (help_Mod.calls (p0 := x39.WakeDevice) (p1 := 4) (g := g226) (N + 8)   hr64) (fun _ _ ⟨g', _, Fz⟩ _ => ⟨g', hC226.trans Fz (fun c' (hm : N + 8 ≤ c') => by show N + 8 ≤ c'; omega)⟩) ?_)
                  rintro _ a227 w228 ⟨g228, rfl, F228⟩ hS227
                  have hC228 := hC226.trans F228 (fun c' (hm : N + 8 ≤ c') => by show N + 8 ≤ c'; omega)
                  replace h165 := RdS.fr h165 F228 (by decide) (fun q (hq : C0 q) (hm : N + 8 ≤ q) => by have := hC0 q hq; omega)
                  replace h169 := RdS.fr h169 F228 (by decide) (fun q (hq : C0 q) (hm : N + 8 ≤ q) => by have := hC0 q hq; omega)
                  replace h173 := RdS.fr h173 F228 (by decide) (fun q (hq : C0 q) (hm : N + 8 ≤ q) => by have := hC0 q hq; omega)
                  replace h177 := RdS.fr h177 F228 (by decide) (fun q (hq : C0 q) (hm : N + 8 ≤ q) => by have := hC0 q hq; omega)
                  replace hel162 := hel162.fr F228 (fun q (hq : C0 q) (hm : N + 8 ≤ q) => by have := hC0 q hq; omega)
                  replace h221 := h221.fr F228 (fun (hm : N + 8 ≤ N + 0) => by omega)
                  replace h14 := OwS.fr h14 F228 (fun c' hc (hm : N + 8 ≤ c') => by omega)
                  replace hp0 := RdS.fr hp0 F228 (by decide) (fun q (hq : C0 q) (hm : N + 8 ≤ q) => by have := hC0 q hq; omega)
                  replace hF := hF.trans F228 (fun c' (hm : N + 8 ≤ c') => by show (r0 ≤ c' ∧ c' < r0 + 2) ∨ N ≤ c'; omega)
                  refine d_pure hS227 21 #[true, true, true, true, true, true, true, true, true, true, true, true, true, true, true, true, true, true, true, true, true, true, true, false] rfl rfl rfl rfl (by kernel_rfl) (fun _ _ _ h => h) (fun _ => (r_build (parts := [(0, .int .i64 (wi (r59 - 1))), (4, .int .i64 r61), (3, .int .i64 r63)]) (u := .agg #[.int .i64 (wi (r59 - 1)), .slice none 0 0, .slice none 0 0, .slice none 0 0, .slice none 0 0, .int .i64 0, .int .i64 0, .int .i64 0, .int .i64 0, .int .i64 0, .int .i64 0, .int .i64 r63, .int .i64 r61]) hS227 rfl rfl (fun _ => by kernel_rfl))) fun a229 hS229 => ?_
                  refine d_one 23 #[true, true, true, true, true, true, true, true, true, true, true, true, true, true, true, true, true, true, true, true, true, true, true, true] rfl (by kernel_rfl) (arm_effS hS229 rfl rfl (e_storeB (n := 13) (bb := true) (cs' := [.int .i64 (wi (r59 - 1)), .slice none 0 0, .slice none 0 0, .slice none 0 0, .slice none 0 0, .int .i64 0, .int .i64 0, .int .i64 0, .int .i64 0, .int .i64 0, .int .i64 0, .int .i64 r63, .int .i64 r61]) g228 hS229 rfl rfl rfl (by kernel_rfl) rfl rfl rfl h221 rfl rfl) (.inl (by decide)) ?_)
                  rintro a230 w231 g231 ⟨h221, F231⟩ hS230
                  replace h165 := RdS.fr h165 F231 (by decide) (fun q (hq : C0 q) (hm : q = N + 0) => by have := hC0 q hq; omega)
                  replace h169 := RdS.fr h169 F231 (by decide) (fun q (hq : C0 q) (hm : q = N + 0) => by have := hC0 q hq; omega)
                  replace h173 := RdS.fr h173 F231 (by decide) (fun q (hq : C0 q) (hm : q = N + 0) => by have := hC0 q hq; omega)
                  replace h177 := RdS.fr h177 F231 (by decide) (fun q (hq : C0 q) (hm : q = N + 0) => by have := hC0 q hq; omega)
                  replace hel162 := hel162.fr F231 (fun q (hq : C0 q) (hm : q = N + 0) => by have := hC0 q hq; omega)
                  replace h14 := OwS.fr h14 F231 (fun c' hc (hm : c' = N + 0) => by omega)
                  replace hp0 := RdS.fr hp0 F231 (by decide) (fun q (hq : C0 q) (hm : q = N + 0) => by have := hC0 q hq; omega)
                  replace hF := hF.trans F231 (fun c' (hm : c' = N + 0) => by show (r0 ≤ c' ∧ c' < r0 + 2) ∨ N ≤ c'; omega)
                  refine d_done (by kernel_rfl) ?_
                  exact ⟨g231, b220, hS230.re ⟨rfl, rfl, rfl, rfl, rfl, trivial⟩, h14, h221, hp0, hF⟩
              · rintro _ a235 w236 g236 ⟨⟨b232, rfl, h233⟩, F236⟩ hS235
                have hC236 := hC.trans F236 (fun _ h => h.elim)
                replace h165 := RdS.fr h165 F236 (by decide) (fun _ _ h => h)
                replace h169 := RdS.fr h169 F236 (by decide) (fun _ _ h => h)
                replace h173 := RdS.fr h173 F236 (by decide) (fun _ _ h => h)
                replace h177 := RdS.fr h177 F236 (by decide) (fun _ _ h => h)
                replace hel162 := hel162.fr F236 (fun _ _ h => h)
                replace h14 := OwS.fr h14 F236 (fun _ _ h => h)
                replace hp0 := RdS.fr hp0 F236 (by decide) (fun _ _ h => h)
                replace hF := hF.trans F236 (fun _ h => h.elim)
                refine d_one 7 #[true, true, true, true, true, true, true, true, false, true, true, true, true, true, false, true, true, true, true, true, false, false, true, false] rfl (by kernel_rfl) (arm_call hS235 rfl rfl rfl (r_call hS235 rfl rfl (by kernel_rfl)) (help_Mod.calls (p0 := x39.Parent) (p1 := (wi (m0_1 + 1))) (g := g236) (N + 8)   hr60) (fun _ _ ⟨g', _, Fz⟩ _ => ⟨g', hC236.trans Fz (fun c' (hm : N + 8 ≤ c') => by show N + 8 ≤ c'; omega)⟩) ?_)
                rintro _ a237 w238 ⟨g238, rfl, F238⟩ hS237
                have hC238 := hC236.trans F238 (fun c' (hm : N + 8 ≤ c') => by show N + 8 ≤ c'; omega)
                replace h165 := RdS.fr h165 F238 (by decide) (fun q (hq : C0 q) (hm : N + 8 ≤ q) => by have := hC0 q hq; omega)
                replace h169 := RdS.fr h169 F238 (by decide) (fun q (hq : C0 q) (hm : N + 8 ≤ q) => by have := hC0 q hq; omega)
                replace h173 := RdS.fr h173 F238 (by decide) (fun q (hq : C0 q) (hm : N + 8 ≤ q) => by have := hC0 q hq; omega)
                replace h177 := RdS.fr h177 F238 (by decide) (fun q (hq : C0 q) (hm : N + 8 ≤ q) => by have := hC0 q hq; omega)
                replace hel162 := hel162.fr F238 (fun q (hq : C0 q) (hm : N + 8 ≤ q) => by have := hC0 q hq; omega)
                replace h233 := h233.fr F238 (fun (hm : N + 8 ≤ N + 0) => by omega)
                replace h14 := OwS.fr h14 F238 (fun c' hc (hm : N + 8 ≤ c') => by omega)
                replace hp0 := RdS.fr hp0 F238 (by decide) (fun q (hq : C0 q) (hm : N + 8 ≤ q) => by have := hC0 q hq; omega)
                replace hF := hF.trans F238 (fun c' (hm : N + 8 ≤ c') => by show (r0 ≤ c' ∧ c' < r0 + 2) ∨ N ≤ c'; omega)
                refine d_pure hS237 8 #[true, true, true, true, true, true, true, true, true, true, true, true, true, true, false, true, true, true, true, true, false, false, true, false] rfl rfl rfl rfl (by kernel_rfl) (fun _ _ _ h => h) (fun _ => (r_bin hS237 rfl rfl rfl b_sub)) fun a239 hS239 => ?_
                refine d_one 14 #[true, true, true, true, true, true, true, true, true, true, true, true, true, true, true, true, true, true, true, true, false, false, true, false] rfl (by kernel_rfl) (arm_call hS239 rfl rfl rfl (r_call hS239 rfl rfl (by kernel_rfl)) (help_Mod.calls (p0 := x39.WakeSystem) (p1 := 5) (g := g238) (N + 8)   hr62) (fun _ _ ⟨g', _, Fz⟩ _ => ⟨g', hC238.trans Fz (fun c' (hm : N + 8 ≤ c') => by show N + 8 ≤ c'; omega)⟩) ?_)
                rintro _ a240 w241 ⟨g241, rfl, F241⟩ hS240
                have hC241 := hC238.trans F241 (fun c' (hm : N + 8 ≤ c') => by show N + 8 ≤ c'; omega)
                replace h165 := RdS.fr h165 F241 (by decide) (fun q (hq : C0 q) (hm : N + 8 ≤ q) => by have := hC0 q hq; omega)
                replace h169 := RdS.fr h169 F241 (by decide) (fun q (hq : C0 q) (hm : N + 8 ≤ q) => by have := hC0 q hq; omega)
                replace h173 := RdS.fr h173 F241 (by decide) (fun q (hq : C0 q) (hm : N + 8 ≤ q) => by have := hC0 q hq; omega)
                replace h177 := RdS.fr h177 F241 (by decide) (fun q (hq : C0 q) (hm : N + 8 ≤ q) => by have := hC0 q hq; omega)
                replace hel162 := hel162.fr F241 (fun q (hq : C0 q) (hm : N + 8 ≤ q) => by have := hC0 q hq; omega)
                replace h233 := h233.fr F241 (fun (hm : N + 8 ≤ N + 0) => by omega)
                replace h14 := OwS.fr h14 F241 (fun c' hc (hm : N + 8 ≤ c') => by omega)
                replace hp0 := RdS.fr hp0 F241 (by decide) (fun q (hq : C0 q) (hm : N + 8 ≤ q) => by have := hC0 q hq; omega)
                replace hF := hF.trans F241 (fun c' (hm : N + 8 ≤ c') => by show (r0 ≤ c' ∧ c' < r0 + 2) ∨ N ≤ c'; omega)
                refine d_one 20 #[true, true, true, true, true, true, true, true, true, true, true, true, true, true, true, true, true, true, true, true, true, false, true, false] rfl (by kernel_rfl) (arm_call hS240 rfl rfl rfl (r_call hS240 rfl rfl (by kernel_rfl)) (help_Mod.calls (p0 := x39.WakeDevice) (p1 := 4) (g := g241) (N + 8)   hr64) (fun _ _ ⟨g', _, Fz⟩ _ => ⟨g', hC241.trans Fz (fun c' (hm : N + 8 ≤ c') => by show N + 8 ≤ c'; omega)⟩) ?_)
                rintro _ a242 w243 ⟨g243, rfl, F243⟩ hS242
                have hC243 := hC241.trans F243 (fun c' (hm : N + 8 ≤ c') => by show N + 8 ≤ c'; omega)
                replace h165 := RdS.fr h165 F243 (by decide) (fun q (hq : C0 q) (hm : N + 8 ≤ q) => by have := hC0 q hq; omega)
                replace h169 := RdS.fr h169 F243 (by decide) (fun q (hq : C0 q) (hm : N + 8 ≤ q) => by have := hC0 q hq; omega)
                replace h173 := RdS.fr h173 F243 (by decide) (fun q (hq : C0 q) (hm : N + 8 ≤ q) => by have := hC0 q hq; omega)
                replace h177 := RdS.fr h177 F243 (by decide) (fun q (hq : C0 q) (hm : N + 8 ≤ q) => by have := hC0 q hq; omega)
                replace hel162 := hel162.fr F243 (fun q (hq : C0 q) (hm : N + 8 ≤ q) => by have := hC0 q hq; omega)
                replace h233 := h233.fr F243 (fun (hm : N + 8 ≤ N + 0) => by omega)
                replace h14 := OwS.fr h14 F243 (fun c' hc (hm : N + 8 ≤ c') => by omega)
                replace hp0 := RdS.fr hp0 F243 (by decide) (fun q (hq : C0 q) (hm : N + 8 ≤ q) => by have := hC0 q hq; omega)
                replace hF := hF.trans F243 (fun c' (hm : N + 8 ≤ c') => by show (r0 ≤ c' ∧ c' < r0 + 2) ∨ N ≤ c'; omega)
                refine d_pure hS242 21 #[true, true, true, true, true, true, true, true, true, true, true, true, true, true, true, true, true, true, true, true, true, true, true, false] rfl rfl rfl rfl (by kernel_rfl) (fun _ _ _ h => h) (fun _ => (r_build (parts := [(0, .int .i64 (wi (r59 - 1))), (4, .int .i64 r61), (3, .int .i64 r63)]) (u := .agg #[.int .i64 (wi (r59 - 1)), .slice none 0 0, .slice none 0 0, .slice none 0 0, .slice none 0 0, .int .i64 0, .int .i64 0, .int .i64 0, .int .i64 0, .int .i64 0, .int .i64 0, .int .i64 r63, .int .i64 r61]) hS242 rfl rfl (fun _ => by kernel_rfl))) fun a244 hS244 => ?_
                refine d_one 23 #[true, true, true, true, true, true, true, true, true, true, true, true, true, true, true, true, true, true, true, true, true, true, true, true] rfl (by kernel_rfl) (arm_effS hS244 rfl rfl (e_storeB (n := 13) (bb := true) (cs' := [.int .i64 (wi (r59 - 1)), .slice none 0 0, .slice none 0 0, .slice none 0 0, .slice none 0 0, .int .i64 0, .int .i64 0, .int .i64 0, .int .i64 0, .int .i64 0, .int .i64 0, .int .i64 r63, .int .i64 r61]) g243 hS244 rfl rfl rfl (by kernel_rfl) rfl rfl rfl h233 rfl rfl) (.inl (by decide)) ?_)
                rintro a245 w246 g246 ⟨h233, F246⟩ hS245
                replace h165 := RdS.fr h165 F246 (by decide) (fun q (hq : C0 q) (hm : q = N + 0) => by have := hC0 q hq; omega)
                replace h169 := RdS.fr h169 F246 (by decide) (fun q (hq : C0 q) (hm : q = N + 0) => by have := hC0 q hq; omega)
                replace h173 := RdS.fr h173 F246 (by decide) (fun q (hq : C0 q) (hm : q = N + 0) => by have := hC0 q hq; omega)
                replace h177 := RdS.fr h177 F246 (by decide) (fun q (hq : C0 q) (hm : q = N + 0) => by have := hC0 q hq; omega)
                replace hel162 := hel162.fr F246 (fun q (hq : C0 q) (hm : q = N + 0) => by have := hC0 q hq; omega)
                replace h14 := OwS.fr h14 F246 (fun c' hc (hm : c' = N + 0) => by omega)
                replace hp0 := RdS.fr hp0 F246 (by decide) (fun q (hq : C0 q) (hm : q = N + 0) => by have := hC0 q hq; omega)
                replace hF := hF.trans F246 (fun c' (hm : c' = N + 0) => by show (r0 ≤ c' ∧ c' < r0 + 2) ∨ N ≤ c'; omega)
                refine d_done (by kernel_rfl) ?_
                exact ⟨g246, b232, hS245.re ⟨rfl, rfl, rfl, rfl, rfl, trivial⟩, h14, h233, hp0, hF⟩
            clear hp0 h14 hF
            clear hS
            rintro a w156 ⟨g156, b157, hS, h14, h158, hp0, hF⟩
            obtain ⟨v260, H, Hl262⟩ := bind_el H
            refine c_cut (fun a w247 => ∃ (g247 : Nat → Nat), ∃ (A248 : Option Addr), ∃ (cap249 : Nat), ∃ (A251 : Option Addr), ∃ (cap252 : Nat), ∃ (A254 : Option Addr), ∃ (cap255 : Nat), ∃ (A257 : Option Addr), ∃ (cap258 : Nat), Sl 88 a [(0, .slice A0 p0.length cap0), (1, .int .i64 p1), (5, .slice A12 m0_0.length cap13), (6, .int .i64 m0_1), (7, .pointer (some ⟨b157, 0, none⟩))] ∧ RdS (kint .i64) w247 g247 (fun q => q = N + 4 + 1) A248 cap249 v260.Rails.a0 ∧ RdS (kint .i64) w247 g247 (fun q => q = N + 4 + 1) A251 cap252 v260.Rails.a1 ∧ RdS (kint .i64) w247 g247 (fun q => q = N + 4 + 1) A254 cap255 v260.Rails.a2 ∧ RdS (kint .i64) w247 g247 (fun q => q = N + 4 + 1) A257 cap258 v260.Rails.a3 ∧ OwS kd_api_PowerDevice 33 w247 g247 (N + 4) A12 cap13 m0_0 ∧ Bx w247 g247 (N + 0) b157 33 [.int .i64 v260.Parent, .slice A248 v260.Rails.a0.length cap249, .slice A251 v260.Rails.a1.length cap252, .slice A254 v260.Rails.a2.length cap255, .slice A257 v260.Rails.a3.length cap258, .int .i64 v260.Deepest.a0, .int .i64 v260.Deepest.a1, .int .i64 v260.Deepest.a2, .int .i64 v260.Deepest.a3, .int .i64 v260.Deepest.a4, .int .i64 v260.Deepest.a5, .int .i64 v260.WakeDevice, .int .i64 v260.WakeSystem] ∧ RdS kd_api_PowerDevice w247 g247 C0 A0 cap0 p0 ∧ Fr (fun q => (r0 ≤ q ∧ q < r0 + 2) ∨ N ≤ q) w g w247 g247) ?_ ?_
            · refine c_pure [(0, .slice A0 p0.length cap0), (1, .int .i64 p1), (5, .slice A12 m0_0.length cap13), (6, .int .i64 m0_1), (7, .pointer (some ⟨b157, 0, none⟩)), (8, .int .i64 0)] (fun R hR => st_val hS rfl rfl rfl (r_assign hS rfl rfl) fun a263 hS263 => wpList_nil (hR _ (hS263.re ⟨rfl, rfl, rfl, rfl, rfl, rfl, trivial⟩))) ?_
              clear hS
              clear a
              intro a hS
              refine wp_block ?_
              refine wp_loop_ghost (fun kq => fun a w264 => ∃ (m1_0 : api_PowerDevice), ∃ (m1_1 : Int), ∃ (g264 : Nat → Nat), ∃ (A265 : Option Addr), ∃ (cap266 : Nat), ∃ (A268 : Option Addr), ∃ (cap269 : Nat), ∃ (A271 : Option Addr), ∃ (cap272 : Nat), ∃ (A274 : Option Addr), ∃ (cap275 : Nat), law27_Some.l1 p1 x39 kq m1_0 m1_1 = some v260 ∧ Sl 88 a [(0, .slice A0 p0.length cap0), (1, .int .i64 p1), (5, .slice A12 m0_0.length cap13), (6, .int .i64 m0_1), (7, .pointer (some ⟨b157, 0, none⟩)), (8, .int .i64 m1_1)] ∧ RdS (kint .i64) w264 g264 (fun q => q = N + 4 + 1) A265 cap266 m1_0.Rails.a0 ∧ RdS (kint .i64) w264 g264 (fun q => q = N + 4 + 1) A268 cap269 m1_0.Rails.a1 ∧ RdS (kint .i64) w264 g264 (fun q => q = N + 4 + 1) A271 cap272 m1_0.Rails.a2 ∧ RdS (kint .i64) w264 g264 (fun q => q = N + 4 + 1) A274 cap275 m1_0.Rails.a3 ∧ OwS kd_api_PowerDevice 33 w264 g264 (N + 4) A12 cap13 m0_0 ∧ Bx w264 g264 (N + 0) b157 33 [.int .i64 m1_0.Parent, .slice A265 m1_0.Rails.a0.length cap266, .slice A268 m1_0.Rails.a1.length cap269, .slice A271 m1_0.Rails.a2.length cap272, .slice A274 m1_0.Rails.a3.length cap275, .int .i64 m1_0.Deepest.a0, .int .i64 m1_0.Deepest.a1, .int .i64 m1_0.Deepest.a2, .int .i64 m1_0.Deepest.a3, .int .i64 m1_0.Deepest.a4, .int .i64 m1_0.Deepest.a5, .int .i64 m1_0.WakeDevice, .int .i64 m1_0.WakeSystem] ∧ RdS kd_api_PowerDevice w264 g264 C0 A0 cap0 p0 ∧ Fr (fun q => (r0 ≤ q ∧ q < r0 + 2) ∨ N ≤ q) w g w264 g264) FUEL ?_ ?_
              · exact ⟨(api_PowerDevice.mk (wi (r59 - 1)) (Ar4.mk ([] : List Int) ([] : List Int) ([] : List Int) ([] : List Int)) (Ar6.mk 0 0 0 0 0 0) r63 r61), 0, g156, none, 0, none, 0, none, 0, none, 0, H, hS.re ⟨rfl, rfl, rfl, rfl, rfl, rfl, trivial⟩, RdS.nil (kint .i64) w156 g156 (fun q => q = N + 4 + 1), RdS.nil (kint .i64) w156 g156 (fun q => q = N + 4 + 1), RdS.nil (kint .i64) w156 g156 (fun q => q = N + 4 + 1), RdS.nil (kint .i64) w156 g156 (fun q => q = N + 4 + 1), h14, h158, hp0, hF⟩
              · clear H
                clear hp0 h14 h158 hF
                clear hS
                rintro k277 a w264 ⟨m1_0, m1_1, g264, A265, cap266, A268, cap269, A271, cap272, A274, cap275, hpre0, hS, h267, h270, h273, h276, h14, h158, hp0, hF⟩
                have H := hpre0
                clear hpre0
                cases k277 with
                | zero => exact absurd H (by simp [law27_Some.l1])
                | succ k277 =>
                  rw [law27_Some.l1] at H
                  refine wp_seq ?_
                  refine c_region (fun K hK => ?_)
                  refine st_val hS rfl rfl rfl (r_move hS rfl rfl) fun a278 hS278 => st_val hS278 rfl rfl rfl (r_bin hS278 rfl rfl rfl b_lss) fun a279 hS279 => st_val hS279 rfl rfl rfl (r_move hS279 rfl rfl) fun a280 hS280 => ?_
                  refine g_join (N := 88) 3 [(0, .slice A0 p0.length cap0), (1, .int .i64 p1), (5, .slice A12 m0_0.length cap13), (6, .int .i64 m0_1), (7, .pointer (some ⟨b157, 0, none⟩)), (8, .int .i64 m1_1), (47, .bool ((decide (m1_1 < 4)) && (decide (0 < p1))))] ?_ (fun hk => ?_)
                  rotate_left
                  · rcases Bool.eq_false_or_eq_true (decide (m1_1 < 4)) with hb281 | hb281
                    · refine st_valW hS280 (want_on hS280 rfl rfl rfl hb281) rfl rfl (r_move hS280 rfl rfl) fun a284 hS284 => st_valW hS284 (want_on hS284 rfl rfl rfl hb281) rfl rfl (r_bin hS284 rfl rfl rfl b_gtr) fun a285 hS285 => st_val hS285 rfl rfl rfl (r_pickT hS285 rfl rfl rfl hb281) fun a286 hS286 => hk _ (hS286.re ⟨rfl, rfl, rfl, rfl, rfl, rfl, (by rw [hb281]; rfl), trivial⟩)
                    · refine st_off hS280 (want_off hS280 rfl rfl rfl hb281) rfl rfl fun a287 hS287 => st_off hS287 (want_off hS287 rfl rfl rfl hb281) rfl rfl fun a288 hS288 => st_val hS288 rfl rfl rfl (r_pickF hS288 rfl rfl rfl hb281) fun a289 hS289 => hk _ (hS289.re ⟨rfl, rfl, rfl, rfl, rfl, rfl, (by rw [hb281]; rfl), trivial⟩)
                  intro a290 hS290
                  refine wpList_nil (hK _ _ ?_)
                  replace hS : Sl 88 _ [(0, .slice A0 p0.length cap0), (1, .int .i64 p1), (5, .slice A12 m0_0.length cap13), (6, .int .i64 m0_1), (7, .pointer (some ⟨b157, 0, none⟩)), (8, .int .i64 m1_1), (47, .bool ((decide (m1_1 < 4)) && (decide (0 < p1))))] := hS290.re ⟨rfl, rfl, rfl, rfl, rfl, rfl, rfl, trivial⟩
                  clear hK K
                  try clear hS278 hS279 hS280 hS290
                  obtain ⟨a, ha⟩ : ∃ a', a' = a290 := ⟨_, rfl⟩
                  rw [← ha] at hS ⊢; clear ha
                  refine c_cond hS rfl (fun hb291 => ?_) (fun hb291 => ?_)
                  · replace H := ite_t hb291 H
                    refine wp_skip ?_
                    change Code.wp _ _ _ _ _
                    refine wp_seq ?_
                    refine wp_block ?_
                    obtain ⟨x316, hx317, H⟩ := bind_el H
                    obtain ⟨r327, hr328, H⟩ := bind_el H
                    obtain ⟨x336, hx337, H⟩ := bind_el H
                    obtain ⟨y345, hy346, H⟩ := bind_el H
                    refine c_region1 (fun K hK => ?_)
                    refine st_val hS rfl rfl rfl (r_move hS rfl rfl) fun a292 hS292 => st_val hS292 rfl rfl rfl (r_move hS292 rfl rfl) fun a293 hS293 => st_val hS293 rfl rfl rfl (r_move hS293 rfl rfl) fun a294 hS294 => st_val hS294 rfl rfl rfl (r_move hS294 rfl rfl) fun a295 hS295 => ?_
                    obtain ⟨_, ⟨A297, cap298, A301, cap302, A305, cap306, A309, cap310, rfl, h299, h303, h307, h311⟩, hel296⟩ := El.of hp0 hx40 (by decide)
                    replace hel296 : El w264 g264 C0 A0 (m0_1.toNat * 13) [.int .i64 x39.Parent, .slice A297 x39.Rails.a0.length cap298, .slice A301 x39.Rails.a1.length cap302, .slice A305 x39.Rails.a2.length cap306, .slice A309 x39.Rails.a3.length cap310, .int .i64 x39.Deepest.a0, .int .i64 x39.Deepest.a1, .int .i64 x39.Deepest.a2, .int .i64 x39.Deepest.a3, .int .i64 x39.Deepest.a4, .int .i64 x39.Deepest.a5, .int .i64 x39.WakeDevice, .int .i64 x39.WakeSystem] := hel296
                    refine st_val hS295 rfl rfl rfl (r_index (e := 33) (sz := 13) (by_ := 168) hS295 rfl rfl rfl (by kernel_rfl) (RdS.some_ hp0 hx40) (idx_lo hx40) (idx_hi hx40)) fun a314 hS314 => st_val hS314 rfl rfl rfl (r_fieldE (off := 1) hS314 rfl rfl (by kernel_rfl)) fun a315 hS315 => ?_
                    obtain ⟨A319, cap320, he318, h321⟩ : ∃ (A319 : Option Addr) (cap320 : Nat), (([.int .i64 x39.Parent, .slice A297 x39.Rails.a0.length cap298, .slice A301 x39.Rails.a1.length cap302, .slice A305 x39.Rails.a2.length cap306, .slice A309 x39.Rails.a3.length cap310, .int .i64 x39.Deepest.a0, .int .i64 x39.Deepest.a1, .int .i64 x39.Deepest.a2, .int .i64 x39.Deepest.a3, .int .i64 x39.Deepest.a4, .int .i64 x39.Deepest.a5, .int .i64 x39.WakeDevice, .int .i64 x39.WakeSystem] : List Value).drop (1 + m1_1.toNat * 1)).take 1 = [.slice A319 x316.length cap320] ∧ RdS (kint .i64) w264 g264 C0 A319 cap320 x316 := by
                      rcases Ar4.cases hx317 with ⟨e, e2⟩ | ⟨e, e2⟩ | ⟨e, e2⟩ | ⟨e, e2⟩
                      · subst e2; exact ⟨A297, cap298, (by rw [e] <;> rfl), h299⟩
                      · subst e2; exact ⟨A301, cap302, (by rw [e] <;> rfl), h303⟩
                      · subst e2; exact ⟨A305, cap306, (by rw [e] <;> rfl), h307⟩
                      · subst e2; exact ⟨A309, cap310, (by rw [e] <;> rfl), h311⟩
                    refine st_val hS315 rfl rfl rfl (r_ixE (n := 4) (e := 29) (sz := 1) (bb := false) hS315 rfl rfl rfl (by kernel_rfl) (idx_lo hx317) (Ar4.lt hx317)) fun a324 hS324 => st_val hS324 rfl rfl rfl (r_load1 (n := 1) hS324 rfl rfl (by kernel_rfl) (El.at_ (j := 0) hel296 he318 rfl)) fun a325 hS325 => st_val hS325 rfl rfl rfl (r_move hS325 rfl rfl) fun a326 hS326 => ?_
                    refine st_enter hS326 rfl rfl rfl (r_call hS326 rfl rfl (by kernel_rfl)) (law27_ascending.calls (C0 := C0) (p0 := x316) (p1 := p1) (g := g264) (N + 8) (N + 2) h321 (fun q (hq : C0 q) => by have := hC0 q hq; omega) (by omega) hr328) ?_
                    rintro _ a333 w334 ⟨g334, A329, cap330, rfl, h331, F334⟩ hS333
                    replace h299 := RdS.fr h299 F334 (by decide) (fun q (hq : C0 q) (hm : (N + 2 ≤ q ∧ q < N + 2 + 2) ∨ N + 8 ≤ q) => by have := hC0 q hq; omega)
                    replace h303 := RdS.fr h303 F334 (by decide) (fun q (hq : C0 q) (hm : (N + 2 ≤ q ∧ q < N + 2 + 2) ∨ N + 8 ≤ q) => by have := hC0 q hq; omega)
                    replace h307 := RdS.fr h307 F334 (by decide) (fun q (hq : C0 q) (hm : (N + 2 ≤ q ∧ q < N + 2 + 2) ∨ N + 8 ≤ q) => by have := hC0 q hq; omega)
                    replace h311 := RdS.fr h311 F334 (by decide) (fun q (hq : C0 q) (hm : (N + 2 ≤ q ∧ q < N + 2 + 2) ∨ N + 8 ≤ q) => by have := hC0 q hq; omega)
                    replace hel296 := hel296.fr F334 (fun q (hq : C0 q) (hm : (N + 2 ≤ q ∧ q < N + 2 + 2) ∨ N + 8 ≤ q) => by have := hC0 q hq; omega)
                    replace h321 := RdS.fr h321 F334 (by decide) (fun q (hq : C0 q) (hm : (N + 2 ≤ q ∧ q < N + 2 + 2) ∨ N + 8 ≤ q) => by have := hC0 q hq; omega)
                    replace h267 := RdS.fr h267 F334 (by decide) (fun q (hq : q = N + 4 + 1) (hm : (N + 2 ≤ q ∧ q < N + 2 + 2) ∨ N + 8 ≤ q) => by omega)
                    replace h270 := RdS.fr h270 F334 (by decide) (fun q (hq : q = N + 4 + 1) (hm : (N + 2 ≤ q ∧ q < N + 2 + 2) ∨ N + 8 ≤ q) => by omega)
                    replace h273 := RdS.fr h273 F334 (by decide) (fun q (hq : q = N + 4 + 1) (hm : (N + 2 ≤ q ∧ q < N + 2 + 2) ∨ N + 8 ≤ q) => by omega)
                    replace h276 := RdS.fr h276 F334 (by decide) (fun q (hq : q = N + 4 + 1) (hm : (N + 2 ≤ q ∧ q < N + 2 + 2) ∨ N + 8 ≤ q) => by omega)
                    replace h14 := OwS.fr h14 F334 (fun c' hc (hm : (N + 2 ≤ c' ∧ c' < N + 2 + 2) ∨ N + 8 ≤ c') => by omega)
                    replace h158 := h158.fr F334 (fun (hm : (N + 2 ≤ N + 0 ∧ N + 0 < N + 2 + 2) ∨ N + 8 ≤ N + 0) => by omega)
                    replace hp0 := RdS.fr hp0 F334 (by decide) (fun q (hq : C0 q) (hm : (N + 2 ≤ q ∧ q < N + 2 + 2) ∨ N + 8 ≤ q) => by have := hC0 q hq; omega)
                    replace hF := hF.trans F334 (fun c' (hm : (N + 2 ≤ c' ∧ c' < N + 2 + 2) ∨ N + 8 ≤ c') => by show (r0 ≤ c' ∧ c' < r0 + 2) ∨ N ≤ c'; omega)
                    refine st_val hS333 rfl rfl rfl (r_fieldB (off := 1) hS333 rfl rfl (by kernel_rfl)) fun a335 hS335 => ?_
                    obtain ⟨A339, cap340, he338, h341⟩ : ∃ (A339 : Option Addr) (cap340 : Nat), (([.int .i64 m1_0.Parent, .slice A265 m1_0.Rails.a0.length cap266, .slice A268 m1_0.Rails.a1.length cap269, .slice A271 m1_0.Rails.a2.length cap272, .slice A274 m1_0.Rails.a3.length cap275, .int .i64 m1_0.Deepest.a0, .int .i64 m1_0.Deepest.a1, .int .i64 m1_0.Deepest.a2, .int .i64 m1_0.Deepest.a3, .int .i64 m1_0.Deepest.a4, .int .i64 m1_0.Deepest.a5, .int .i64 m1_0.WakeDevice, .int .i64 m1_0.WakeSystem] : List Value).drop (1 + m1_1.toNat * 1)).take 1 = [.slice A339 x336.length cap340] ∧ RdS (kint .i64) w334 g334 (fun q => q = N + 4 + 1) A339 cap340 x336 := by
                      rcases Ar4.cases hx337 with ⟨e, e2⟩ | ⟨e, e2⟩ | ⟨e, e2⟩ | ⟨e, e2⟩
                      · subst e2; exact ⟨A265, cap266, (by rw [e] <;> rfl), h267⟩
                      · subst e2; exact ⟨A268, cap269, (by rw [e] <;> rfl), h270⟩
                      · subst e2; exact ⟨A271, cap272, (by rw [e] <;> rfl), h273⟩
                      · subst e2; exact ⟨A274, cap275, (by rw [e] <;> rfl), h276⟩
                    refine st_val hS335 rfl rfl rfl (r_ixB (n := 4) (e := 29) (sz := 1) (bb := false) hS335 rfl rfl rfl (by kernel_rfl) (idx_lo hx337) (Ar4.lt hx337)) fun a344 hS344 => ?_
                    have F347 : Fr (fun q => q = N + 2) w334 g334 w334 (recol g334 (N + 2) (N + 4 + 1)) := Fr.recol w334 g334 (N + 2) (N + 4 + 1) rfl
                    replace h299 := RdS.fr h299 F347 (by decide) (fun q (hq : C0 q) (hm : q = N + 2) => by have := hC0 q hq; omega)
                    replace h303 := RdS.fr h303 F347 (by decide) (fun q (hq : C0 q) (hm : q = N + 2) => by have := hC0 q hq; omega)
                    replace h307 := RdS.fr h307 F347 (by decide) (fun q (hq : C0 q) (hm : q = N + 2) => by have := hC0 q hq; omega)
                    replace h311 := RdS.fr h311 F347 (by decide) (fun q (hq : C0 q) (hm : q = N + 2) => by have := hC0 q hq; omega)
                    replace hel296 := hel296.fr F347 (fun q (hq : C0 q) (hm : q = N + 2) => by have := hC0 q hq; omega)
                    replace h321 := RdS.fr h321 F347 (by decide) (fun q (hq : C0 q) (hm : q = N + 2) => by have := hC0 q hq; omega)
                    replace h331 : RdS (kint .i64) w334 (recol g334 (N + 2) (N + 4 + 1)) (fun q => q = N + 4 + 1) A329 cap330 r327 := RdS.recolC (OwD.rdf (fun _ _ _ _ _ _ h => h) h331) (by decide) (N + 2) (N + 4 + 1) (fun q (hq : q = N + 2) => show (fun q => q = N + 4 + 1) (if q = N + 2 then N + 4 + 1 else q) from (by rw [if_pos hq] <;> exact rfl))
                    replace h341 := RdS.fr h341 F347 (by decide) (fun q (hq : q = N + 4 + 1) (hm : q = N + 2) => by omega)
                    replace h267 := RdS.fr h267 F347 (by decide) (fun q (hq : q = N + 4 + 1) (hm : q = N + 2) => by omega)
                    replace h270 := RdS.fr h270 F347 (by decide) (fun q (hq : q = N + 4 + 1) (hm : q = N + 2) => by omega)
                    replace h273 := RdS.fr h273 F347 (by decide) (fun q (hq : q = N + 4 + 1) (hm : q = N + 2) => by omega)
                    replace h276 := RdS.fr h276 F347 (by decide) (fun q (hq : q = N + 4 + 1) (hm : q = N + 2) => by omega)
                    replace h14 := OwS.fr h14 F347 (fun c' hc (hm : c' = N + 2) => by omega)
                    replace h158 := h158.fr F347 (fun (hm : N + 0 = N + 2) => by omega)
                    replace hp0 := RdS.fr hp0 F347 (by decide) (fun q (hq : C0 q) (hm : q = N + 2) => by have := hC0 q hq; omega)
                    replace hF := hF.trans F347 (fun c' (hm : c' = N + 2) => by show (r0 ≤ c' ∧ c' < r0 + 2) ∨ N ≤ c'; omega)
                    obtain ⟨A348, cap352, A349, cap353, A350, cap354, A351, cap355, hsp360, h356, h357, h358, h359⟩ : ∃ (A348 : Option Addr) (cap352 : Nat) (A349 : Option Addr) (cap353 : Nat) (A350 : Option Addr) (cap354 : Nat) (A351 : Option Addr) (cap355 : Nat), splice ([.int .i64 m1_0.Parent, .slice A265 m1_0.Rails.a0.length cap266, .slice A268 m1_0.Rails.a1.length cap269, .slice A271 m1_0.Rails.a2.length cap272, .slice A274 m1_0.Rails.a3.length cap275, .int .i64 m1_0.Deepest.a0, .int .i64 m1_0.Deepest.a1, .int .i64 m1_0.Deepest.a2, .int .i64 m1_0.Deepest.a3, .int .i64 m1_0.Deepest.a4, .int .i64 m1_0.Deepest.a5, .int .i64 m1_0.WakeDevice, .int .i64 m1_0.WakeSystem] : List Value) (1 + m1_1.toNat * 1) [.slice A329 r327.length cap330] = [.int .i64 m1_0.Parent, .slice A348 y345.a0.length cap352, .slice A349 y345.a1.length cap353, .slice A350 y345.a2.length cap354, .slice A351 y345.a3.length cap355, .int .i64 m1_0.Deepest.a0, .int .i64 m1_0.Deepest.a1, .int .i64 m1_0.Deepest.a2, .int .i64 m1_0.Deepest.a3, .int .i64 m1_0.Deepest.a4, .int .i64 m1_0.Deepest.a5, .int .i64 m1_0.WakeDevice, .int .i64 m1_0.WakeSystem] ∧ RdS (kint .i64) w334 (recol g334 (N + 2) (N + 4 + 1)) (fun q => q = N + 4 + 1) A348 cap352 y345.a0 ∧ RdS (kint .i64) w334 (recol g334 (N + 2) (N + 4 + 1)) (fun q => q = N + 4 + 1) A349 cap353 y345.a1 ∧ RdS (kint .i64) w334 (recol g334 (N + 2) (N + 4 + 1)) (fun q => q = N + 4 + 1) A350 cap354 y345.a2 ∧ RdS (kint .i64) w334 (recol g334 (N + 2) (N + 4 + 1)) (fun q => q = N + 4 + 1) A351 cap355 y345.a3 := by
                      rcases Ar4.put_cases hy346 with ⟨e, e2⟩ | ⟨e, e2⟩ | ⟨e, e2⟩ | ⟨e, e2⟩
                      · subst e2; exact ⟨A329, cap330, A268, cap269, A271, cap272, A274, cap275, (by rw [e] <;> rfl), h331, h270, h273, h276⟩
                      · subst e2; exact ⟨A265, cap266, A329, cap330, A271, cap272, A274, cap275, (by rw [e] <;> rfl), h267, h331, h273, h276⟩
                      · subst e2; exact ⟨A265, cap266, A268, cap269, A329, cap330, A274, cap275, (by rw [e] <;> rfl), h267, h270, h331, h276⟩
                      · subst e2; exact ⟨A265, cap266, A268, cap269, A271, cap272, A329, cap330, (by rw [e] <;> rfl), h267, h270, h273, h331⟩
                    refine st_effS hS344 rfl rfl (e_storeB (n := 1) (bb := false) (cs' := [.int .i64 m1_0.Parent, .slice A348 y345.a0.length cap352, .slice A349 y345.a1.length cap353, .slice A350 y345.a2.length cap354, .slice A351 y345.a3.length cap355, .int .i64 m1_0.Deepest.a0, .int .i64 m1_0.Deepest.a1, .int .i64 m1_0.Deepest.a2, .int .i64 m1_0.Deepest.a3, .int .i64 m1_0.Deepest.a4, .int .i64 m1_0.Deepest.a5, .int .i64 m1_0.WakeDevice, .int .i64 m1_0.WakeSystem]) (recol g334 (N + 2) (N + 4 + 1)) hS344 rfl rfl rfl (by kernel_rfl) rfl rfl rfl h158 (by rcases Ar4.put_cases hy346 with ⟨e, e2⟩ | ⟨e, e2⟩ | ⟨e, e2⟩ | ⟨e, e2⟩ <;> (rw [e] <;> rfl)) hsp360) ?_
                    rintro a365 w366 g366 ⟨h158, F366⟩ hS365
                    replace h299 := RdS.fr h299 F366 (by decide) (fun q (hq : C0 q) (hm : q = N + 0) => by have := hC0 q hq; omega)
                    replace h303 := RdS.fr h303 F366 (by decide) (fun q (hq : C0 q) (hm : q = N + 0) => by have := hC0 q hq; omega)
                    replace h307 := RdS.fr h307 F366 (by decide) (fun q (hq : C0 q) (hm : q = N + 0) => by have := hC0 q hq; omega)
                    replace h311 := RdS.fr h311 F366 (by decide) (fun q (hq : C0 q) (hm : q = N + 0) => by have := hC0 q hq; omega)
                    replace hel296 := hel296.fr F366 (fun q (hq : C0 q) (hm : q = N + 0) => by have := hC0 q hq; omega)
                    replace h321 := RdS.fr h321 F366 (by decide) (fun q (hq : C0 q) (hm : q = N + 0) => by have := hC0 q hq; omega)
                    replace h331 := RdS.fr h331 F366 (by decide) (fun q (hq : q = N + 4 + 1) (hm : q = N + 0) => by omega)
                    replace h341 := RdS.fr h341 F366 (by decide) (fun q (hq : q = N + 4 + 1) (hm : q = N + 0) => by omega)
                    replace h356 := RdS.fr h356 F366 (by decide) (fun q (hq : q = N + 4 + 1) (hm : q = N + 0) => by omega)
                    replace h357 := RdS.fr h357 F366 (by decide) (fun q (hq : q = N + 4 + 1) (hm : q = N + 0) => by omega)
                    replace h358 := RdS.fr h358 F366 (by decide) (fun q (hq : q = N + 4 + 1) (hm : q = N + 0) => by omega)
                    replace h359 := RdS.fr h359 F366 (by decide) (fun q (hq : q = N + 4 + 1) (hm : q = N + 0) => by omega)
                    replace h267 := RdS.fr h267 F366 (by decide) (fun q (hq : q = N + 4 + 1) (hm : q = N + 0) => by omega)
                    replace h270 := RdS.fr h270 F366 (by decide) (fun q (hq : q = N + 4 + 1) (hm : q = N + 0) => by omega)
                    replace h273 := RdS.fr h273 F366 (by decide) (fun q (hq : q = N + 4 + 1) (hm : q = N + 0) => by omega)
                    replace h276 := RdS.fr h276 F366 (by decide) (fun q (hq : q = N + 4 + 1) (hm : q = N + 0) => by omega)
                    replace h14 := OwS.fr h14 F366 (fun c' hc (hm : c' = N + 0) => by omega)
                    replace hp0 := RdS.fr hp0 F366 (by decide) (fun q (hq : C0 q) (hm : q = N + 0) => by have := hC0 q hq; omega)
                    replace hF := hF.trans F366 (fun c' (hm : c' = N + 0) => by show (r0 ≤ c' ∧ c' < r0 + 2) ∨ N ≤ c'; omega)
                    refine wpList_nil (hK _ _ ?_)
                    replace hS : Sl 88 _ [(0, .slice A0 p0.length cap0), (1, .int .i64 p1), (5, .slice A12 m0_0.length cap13), (6, .int .i64 m0_1), (7, .pointer (some ⟨b157, 0, none⟩)), (8, .int .i64 m1_1)] := hS365.re ⟨rfl, rfl, rfl, rfl, rfl, rfl, trivial⟩
                    clear hK K
                    try clear hS292 hS293 hS294 hS295 hS314 hS315 hS324 hS325 hS326 hS333 hS335 hS344 hS365
                    obtain ⟨a, ha⟩ : ∃ a', a' = a365 := ⟨_, rfl⟩
                    rw [← ha] at hS ⊢; clear ha
                    change Code.wp _ _ _ _ _
                    refine c_pure1 [(0, .slice A0 p0.length cap0), (1, .int .i64 p1), (5, .slice A12 m0_0.length cap13), (6, .int .i64 m0_1), (7, .pointer (some ⟨b157, 0, none⟩)), (8, .int .i64 (wi (m1_1 + 1)))] (fun R hR => st_val hS rfl rfl rfl (r_move hS rfl rfl) fun a367 hS367 => st_val hS367 rfl rfl rfl (r_bin hS367 rfl rfl rfl b_add) fun a368 hS368 => st_val hS368 rfl rfl rfl (r_assign hS368 rfl rfl) fun a369 hS369 => wpList_nil (hR _ (hS369.re ⟨rfl, rfl, rfl, rfl, rfl, rfl, trivial⟩))) ?_
                    clear hS
                    clear a
                    intro a hS
                    refine ⟨k277, Nat.lt_succ_self _, ?_⟩
                    exact ⟨(api_PowerDevice.mk m1_0.Parent y345 m1_0.Deepest m1_0.WakeDevice m1_0.WakeSystem), wi (m1_1 + 1), g366, A348, cap352, A349, cap353, A350, cap354, A351, cap355, H, hS.re ⟨rfl, rfl, rfl, rfl, rfl, rfl, trivial⟩, h356, h357, h358, h359, h14, h158, hp0, hF⟩
                  · replace H := ite_f hb291 H
                    refine wp_exit ?_
                    have e := Option.some.inj H
                    subst e
                    exact ⟨g264, A265, cap266, A268, cap269, A271, cap272, A274, cap275, hS.re ⟨rfl, rfl, rfl, rfl, rfl, trivial⟩, h267, h270, h273, h276, h14, h158, hp0, hF⟩
            · clear H
              clear hp0 h14 h158 hF
              clear hS
              rintro a w247 ⟨g247, A248, cap249, A251, cap252, A254, cap255, A257, cap258, hS, h250, h253, h256, h259, h14, h158, hp0, hF⟩
              have H := Hl262
              clear Hl262
              obtain ⟨v371, H, Hl373⟩ := bind_el H
              refine c_cut (fun a w370 => ∃ (g370 : Nat → Nat), Sl 88 a [(0, .slice A0 p0.length cap0), (1, .int .i64 p1), (5, .slice A12 m0_0.length cap13), (6, .int .i64 m0_1), (7, .pointer (some ⟨b157, 0, none⟩))] ∧ RdS (kint .i64) w370 g370 (fun q => q = N + 4 + 1) A248 cap249 v371.Rails.a0 ∧ RdS (kint .i64) w370 g370 (fun q => q = N + 4 + 1) A251 cap252 v371.Rails.a1 ∧ RdS (kint .i64) w370 g370 (fun q => q = N + 4 + 1) A254 cap255 v371.Rails.a2 ∧ RdS (kint .i64) w370 g370 (fun q => q = N + 4 + 1) A257 cap258 v371.Rails.a3 ∧ OwS kd_api_PowerDevice 33 w370 g370 (N + 4) A12 cap13 m0_0 ∧ Bx w370 g370 (N + 0) b157 33 [.int .i64 v371.Parent, .slice A248 v371.Rails.a0.length cap249, .slice A251 v371.Rails.a1.length cap252, .slice A254 v371.Rails.a2.length cap255, .slice A257 v371.Rails.a3.length cap258, .int .i64 v371.Deepest.a0, .int .i64 v371.Deepest.a1, .int .i64 v371.Deepest.a2, .int .i64 v371.Deepest.a3, .int .i64 v371.Deepest.a4, .int .i64 v371.Deepest.a5, .int .i64 v371.WakeDevice, .int .i64 v371.WakeSystem] ∧ RdS kd_api_PowerDevice w370 g370 C0 A0 cap0 p0 ∧ Fr (fun q => (r0 ≤ q ∧ q < r0 + 2) ∨ N ≤ q) w g w370 g370) ?_ ?_
              · refine c_pure [(0, .slice A0 p0.length cap0), (1, .int .i64 p1), (5, .slice A12 m0_0.length cap13), (6, .int .i64 m0_1), (7, .pointer (some ⟨b157, 0, none⟩)), (9, .int .i64 1)] (fun R hR => st_val hS rfl rfl rfl (r_assign hS rfl rfl) fun a374 hS374 => wpList_nil (hR _ (hS374.re ⟨rfl, rfl, rfl, rfl, rfl, rfl, trivial⟩))) ?_
                clear hS
                clear a
                intro a hS
                refine wp_block ?_
                refine wp_loop_ghost (fun kq => fun a w375 => ∃ (m2_0 : api_PowerDevice), ∃ (m2_1 : Int), ∃ (g375 : Nat → Nat), law27_Some.l2 x39 kq m2_0 m2_1 = some v371 ∧ Sl 88 a [(0, .slice A0 p0.length cap0), (1, .int .i64 p1), (5, .slice A12 m0_0.length cap13), (6, .int .i64 m0_1), (7, .pointer (some ⟨b157, 0, none⟩)), (9, .int .i64 m2_1)] ∧ RdS (kint .i64) w375 g375 (fun q => q = N + 4 + 1) A248 cap249 m2_0.Rails.a0 ∧ RdS (kint .i64) w375 g375 (fun q => q = N + 4 + 1) A251 cap252 m2_0.Rails.a1 ∧ RdS (kint .i64) w375 g375 (fun q => q = N + 4 + 1) A254 cap255 m2_0.Rails.a2 ∧ RdS (kint .i64) w375 g375 (fun q => q = N + 4 + 1) A257 cap258 m2_0.Rails.a3 ∧ OwS kd_api_PowerDevice 33 w375 g375 (N + 4) A12 cap13 m0_0 ∧ Bx w375 g375 (N + 0) b157 33 [.int .i64 m2_0.Parent, .slice A248 m2_0.Rails.a0.length cap249, .slice A251 m2_0.Rails.a1.length cap252, .slice A254 m2_0.Rails.a2.length cap255, .slice A257 m2_0.Rails.a3.length cap258, .int .i64 m2_0.Deepest.a0, .int .i64 m2_0.Deepest.a1, .int .i64 m2_0.Deepest.a2, .int .i64 m2_0.Deepest.a3, .int .i64 m2_0.Deepest.a4, .int .i64 m2_0.Deepest.a5, .int .i64 m2_0.WakeDevice, .int .i64 m2_0.WakeSystem] ∧ RdS kd_api_PowerDevice w375 g375 C0 A0 cap0 p0 ∧ Fr (fun q => (r0 ≤ q ∧ q < r0 + 2) ∨ N ≤ q) w g w375 g375) FUEL ?_ ?_
                · exact ⟨v260, 1, g247, H, hS.re ⟨rfl, rfl, rfl, rfl, rfl, rfl, trivial⟩, h250, h253, h256, h259, h14, h158, hp0, hF⟩
                · clear H
                  clear hp0 h14 h158 h250 h253 h256 h259 hF
                  clear hS
                  rintro k376 a w375 ⟨m2_0, m2_1, g375, hpre0, hS, h250, h253, h256, h259, h14, h158, hp0, hF⟩
                  have H := hpre0
                  clear hpre0
                  cases k376 with
                  | zero => exact absurd H (by simp [law27_Some.l2])
                  | succ k376 =>
                    rw [law27_Some.l2] at H
                    refine wp_seq ?_
                    refine c_pure [(0, .slice A0 p0.length cap0), (1, .int .i64 p1), (5, .slice A12 m0_0.length cap13), (6, .int .i64 m0_1), (7, .pointer (some ⟨b157, 0, none⟩)), (9, .int .i64 m2_1), (63, .bool (decide (m2_1 < 6)))] (fun R hR => st_val hS rfl rfl rfl (r_move hS rfl rfl) fun a377 hS377 => st_val hS377 rfl rfl rfl (r_bin hS377 rfl rfl rfl b_lss) fun a378 hS378 => wpList_nil (hR _ (hS378.re ⟨rfl, rfl, rfl, rfl, rfl, rfl, rfl, trivial⟩))) ?_
                    clear hS
                    clear a
                    intro a hS
                    refine c_cond hS rfl (fun hb379 => ?_) (fun hb379 => ?_)
                    · replace H := ite_t hb379 H
                      refine wp_skip ?_
                      change Code.wp _ _ _ _ _
                      refine wp_seq ?_
                      refine wp_block ?_
                      obtain ⟨x380, hx381, H⟩ := bind_el H
                      obtain ⟨x402, hx403, H⟩ := bind_el H
                      obtain ⟨r406, hr407, H⟩ := bind_el H
                      obtain ⟨x408, hx409, H⟩ := bind_el H
                      obtain ⟨y412, hy413, H⟩ := bind_el H
                      refine c_draw1 (fun K hK => d_start (fun q => N + 8 ≤ q) g375 [17] 18 #[false, false, false, false, false, false, false, false, false, false, false, false, false, false, false, false, false, false] (by kernel_rfl) rfl rfl (fun w414 hw414 => ?_))
                      have F414 : Fr (fun _ => False) w375 g375 w414 g375 := by rw [hw414]; exact Fr.drew _ _ _
                      replace h250 := RdS.fr h250 F414 (by decide) (fun _ _ h => h)
                      replace h253 := RdS.fr h253 F414 (by decide) (fun _ _ h => h)
                      replace h256 := RdS.fr h256 F414 (by decide) (fun _ _ h => h)
                      replace h259 := RdS.fr h259 F414 (by decide) (fun _ _ h => h)
                      replace h14 := OwS.fr h14 F414 (fun _ _ h => h)
                      replace h158 := h158.fr F414 (fun h => h)
                      replace hp0 := RdS.fr hp0 F414 (by decide) (fun _ _ h => h)
                      replace hF := hF.trans F414 (fun _ h => h.elim)
                      have hC : Fr (fun q => N + 8 ≤ q) w414 g375 w414 g375 := Fr.refl _ _ _
                      refine d_pure hS 0 #[true, false, false, false, false, false, false, false, false, false, false, false, false, false, false, false, false, false] rfl rfl rfl rfl (by kernel_rfl) (fun _ _ _ h => h) (fun _ => (r_move hS rfl rfl)) fun a415 hS415 => d_pure hS415 1 #[true, true, false, false, false, false, false, false, false, false, false, false, false, false, false, false, false, false] rfl rfl rfl rfl (by kernel_rfl) (fun _ _ _ h => h) (fun _ => (r_move hS415 rfl rfl)) fun a416 hS416 => d_pure hS416 2 #[true, true, true, false, false, false, false, false, false, false, false, false, false, false, false, false, false, false] rfl rfl rfl rfl (by kernel_rfl) (fun _ _ _ h => h) (fun _ => (r_bin hS416 rfl rfl rfl b_sub)) fun a417 hS417 => d_pure hS417 3 #[true, true, true, true, false, false, false, false, false, false, false, false, false, false, false, false, false, false] rfl rfl rfl rfl (by kernel_rfl) (fun _ _ _ h => h) (fun _ => (r_fieldB (off := 5) hS417 rfl rfl (by kernel_rfl))) fun a418 hS418 => ?_
                      have he419 : (([.int .i64 m2_0.Parent, .slice A248 m2_0.Rails.a0.length cap249, .slice A251 m2_0.Rails.a1.length cap252, .slice A254 m2_0.Rails.a2.length cap255, .slice A257 m2_0.Rails.a3.length cap258, .int .i64 m2_0.Deepest.a0, .int .i64 m2_0.Deepest.a1, .int .i64 m2_0.Deepest.a2, .int .i64 m2_0.Deepest.a3, .int .i64 m2_0.Deepest.a4, .int .i64 m2_0.Deepest.a5, .int .i64 m2_0.WakeDevice, .int .i64 m2_0.WakeSystem] : List Value).drop (5 + (wi (m2_1 - 1)).toNat * 1)).take 1 = [.int .i64 x380] := by rcases Ar6.cases hx381 with ⟨e, e2⟩ | ⟨e, e2⟩ | ⟨e, e2⟩ | ⟨e, e2⟩ | ⟨e, e2⟩ | ⟨e, e2⟩ <;> (rw [e, e2] <;> rfl)
                      refine d_pure hS418 4 #[true, true, true, true, true, false, false, false, false, false, false, false, false, false, false, false, false, false] rfl rfl rfl rfl (by kernel_rfl) (fun _ _ _ h => h) (fun _ => (r_ixB (n := 6) (e := 3) (sz := 1) (bb := false) hS418 rfl rfl rfl (by kernel_rfl) (idx_lo hx381) (Ar6.lt hx381))) fun a421 hS421 => d_take hS421 5 #[true, true, true, true, true, true, false, false, false, false, false, false, false, false, false, false, false, false] rfl rfl rfl rfl (by kernel_rfl) (fun _ _ _ h => h) ⟨_, hC⟩ (fun w' g' Fz => (r_load1 (n := 1) hS421 rfl rfl (by kernel_rfl) (Bx.at_ (j := 0) (h158.fr Fz (fun (hm : N + 8 ≤ N + 0) => by omega)) he419 rfl))) fun a422 hS422 => d_pure hS422 6 #[true, true, true, true, true, true, true, false, false, false, false, false, false, false, false, false, false, false] rfl rfl rfl rfl (by kernel_rfl) (fun _ _ _ h => h) (fun _ => (r_move hS422 rfl rfl)) fun a423 hS423 => d_pure hS423 7 #[true, true, true, true, true, true, true, true, false, false, false, false, false, false, false, false, false, false] rfl rfl rfl rfl (by kernel_rfl) (fun _ _ _ h => h) (fun _ => (r_move hS423 rfl rfl)) fun a424 hS424 => d_pure hS424 8 #[true, true, true, true, true, true, true, true, true, false, false, false, false, false, false, false, false, false] rfl rfl rfl rfl (by kernel_rfl) (fun _ _ _ h => h) (fun _ => (r_move hS424 rfl rfl)) fun a425 hS425 => ?_
                      obtain ⟨_, ⟨A427, cap428, A431, cap432, A435, cap436, A439, cap440, rfl, h429, h433, h437, h441⟩, hel426⟩ := El.of hp0 hx40 (by decide)
                      replace hel426 : El w414 g375 C0 A0 (m0_1.toNat * 13) [.int .i64 x39.Parent, .slice A427 x39.Rails.a0.length cap428, .slice A431 x39.Rails.a1.length cap432, .slice A435 x39.Rails.a2.length cap436, .slice A439 x39.Rails.a3.length cap440, .int .i64 x39.Deepest.a0, .int .i64 x39.Deepest.a1, .int .i64 x39.Deepest.a2, .int .i64 x39.Deepest.a3, .int .i64 x39.Deepest.a4, .int .i64 x39.Deepest.a5, .int .i64 x39.WakeDevice, .int .i64 x39.WakeSystem] := hel426
                      refine d_pure hS425 9 #[true, true, true, true, true, true, true, true, true, true, false, false, false, false, false, false, false, false] rfl rfl rfl rfl (by kernel_rfl) (fun _ _ _ h => h) (fun _ => (r_index (e := 33) (sz := 13) (by_ := 168) hS425 rfl rfl rfl (by kernel_rfl) (RdS.some_ hp0 hx40) (idx_lo hx40) (idx_hi hx40))) fun a444 hS444 => d_pure hS444 10 #[true, true, true, true, true, true, true, true, true, true, true, false, false, false, false, false, false, false] rfl rfl rfl rfl (by kernel_rfl) (fun _ _ _ h => h) (fun _ => (r_fieldE (off := 5) hS444 rfl rfl (by kernel_rfl))) fun a445 hS445 => ?_
                      have he446 : (([.int .i64 x39.Parent, .slice A427 x39.Rails.a0.length cap428, .slice A431 x39.Rails.a1.length cap432, .slice A435 x39.Rails.a2.length cap436, .slice A439 x39.Rails.a3.length cap440, .int .i64 x39.Deepest.a0, .int .i64 x39.Deepest.a1, .int .i64 x39.Deepest.a2, .int .i64 x39.Deepest.a3, .int .i64 x39.Deepest.a4, .int .i64 x39.Deepest.a5, .int .i64 x39.WakeDevice, .int .i64 x39.WakeSystem] : List Value).drop (5 + m2_1.toNat * 1)).take 1 = [.int .i64 x402] := by rcases Ar6.cases hx403 with ⟨e, e2⟩ | ⟨e, e2⟩ | ⟨e, e2⟩ | ⟨e, e2⟩ | ⟨e, e2⟩ | ⟨e, e2⟩ <;> (rw [e, e2] <;> rfl)
                      refine d_pure hS445 11 #[true, true, true, true, true, true, true, true, true, true, true, true, false, false, false, false, false, false] rfl rfl rfl rfl (by kernel_rfl) (fun _ _ _ h => h) (fun _ => (r_ixE (n := 6) (e := 3) (sz := 1) (bb := false) hS445 rfl rfl rfl (by kernel_rfl) (idx_lo hx403) (Ar6.lt hx403))) fun a448 hS448 => d_take hS448 12 #[true, true, true, true, true, true, true, true, true, true, true, true, true, false, false, false, false, false] rfl rfl rfl rfl (by kernel_rfl) (fun _ _ _ h => h) ⟨_, hC⟩ (fun w' g' Fz => (r_load1 (n := 1) hS448 rfl rfl (by kernel_rfl) (El.at_ (j := 0) (hel426.fr Fz (fun q (hq : C0 q) (hm : N + 8 ≤ q) => by have := hC0 q hq; omega)) he446 rfl))) fun a449 hS449 => d_pure hS449 15 #[true, true, true, true, true, true, true, true, true, true, true, true, true, false, false, true, false, false] rfl rfl rfl rfl (by kernel_rfl) (fun _ _ _ h => h) (fun _ => (r_fieldB (off := 5) hS449 rfl rfl (by kernel_rfl))) fun a450 hS450 => ?_
                      refine d_one 13 #[true, true, true, true, true, true, true, true, true, true, true, true, true, true, false, true, false, false] rfl (by kernel_rfl) (arm_call hS450 rfl rfl rfl (r_call hS450 rfl rfl (by kernel_rfl)) (help_Mod.calls (p0 := x402) (p1 := 5) (g := g375) (N + 8)   hr407) (fun _ _ ⟨g', _, Fz⟩ _ => ⟨g', hC.trans Fz (fun c' (hm : N + 8 ≤ c') => by show N + 8 ≤ c'; omega)⟩) ?_)
                      rintro _ a451 w452 ⟨g452, rfl, F452⟩ hS451
                      have hC452 := hC.trans F452 (fun c' (hm : N + 8 ≤ c') => by show N + 8 ≤ c'; omega)
                      replace h429 := RdS.fr h429 F452 (by decide) (fun q (hq : C0 q) (hm : N + 8 ≤ q) => by have := hC0 q hq; omega)
                      replace h433 := RdS.fr h433 F452 (by decide) (fun q (hq : C0 q) (hm : N + 8 ≤ q) => by have := hC0 q hq; omega)
                      replace h437 := RdS.fr h437 F452 (by decide) (fun q (hq : C0 q) (hm : N + 8 ≤ q) => by have := hC0 q hq; omega)
                      replace h441 := RdS.fr h441 F452 (by decide) (fun q (hq : C0 q) (hm : N + 8 ≤ q) => by have := hC0 q hq; omega)
                      replace hel426 := hel426.fr F452 (fun q (hq : C0 q) (hm : N + 8 ≤ q) => by have := hC0 q hq; omega)
                      replace h250 := RdS.fr h250 F452 (by decide) (fun q (hq : q = N + 4 + 1) (hm : N + 8 ≤ q) => by omega)
                      replace h253 := RdS.fr h253 F452 (by decide) (fun q (hq : q = N + 4 + 1) (hm : N + 8 ≤ q) => by omega)
                      replace h256 := RdS.fr h256 F452 (by decide) (fun q (hq : q = N + 4 + 1) (hm : N + 8 ≤ q) => by omega)
                      replace h259 := RdS.fr h259 F452 (by decide) (fun q (hq : q = N + 4 + 1) (hm : N + 8 ≤ q) => by omega)
                      replace h14 := OwS.fr h14 F452 (fun c' hc (hm : N + 8 ≤ c') => by omega)
                      replace h158 := h158.fr F452 (fun (hm : N + 8 ≤ N + 0) => by omega)
                      replace hp0 := RdS.fr hp0 F452 (by decide) (fun q (hq : C0 q) (hm : N + 8 ≤ q) => by have := hC0 q hq; omega)
                      replace hF := hF.trans F452 (fun c' (hm : N + 8 ≤ c') => by show (r0 ≤ c' ∧ c' < r0 + 2) ∨ N ≤ c'; omega)
                      refine d_pure hS451 14 #[true, true, true, true, true, true, true, true, true, true, true, true, true, true, true, true, false, false] rfl rfl rfl rfl (by kernel_rfl) (fun _ _ _ h => h) (fun _ => (r_max hS451 rfl rfl rfl)) fun a453 hS453 => ?_
                      have he454 : (([.int .i64 m2_0.Parent, .slice A248 m2_0.Rails.a0.length cap249, .slice A251 m2_0.Rails.a1.length cap252, .slice A254 m2_0.Rails.a2.length cap255, .slice A257 m2_0.Rails.a3.length cap258, .int .i64 m2_0.Deepest.a0, .int .i64 m2_0.Deepest.a1, .int .i64 m2_0.Deepest.a2, .int .i64 m2_0.Deepest.a3, .int .i64 m2_0.Deepest.a4, .int .i64 m2_0.Deepest.a5, .int .i64 m2_0.WakeDevice, .int .i64 m2_0.WakeSystem] : List Value).drop (5 + m2_1.toNat * 1)).take 1 = [.int .i64 x408] := by rcases Ar6.cases hx409 with ⟨e, e2⟩ | ⟨e, e2⟩ | ⟨e, e2⟩ | ⟨e, e2⟩ | ⟨e, e2⟩ | ⟨e, e2⟩ <;> (rw [e, e2] <;> rfl)
                      refine d_pure hS453 16 #[true, true, true, true, true, true, true, true, true, true, true, true, true, true, true, true, true, false] rfl rfl rfl rfl (by kernel_rfl) (fun _ _ _ h => h) (fun _ => (r_ixB (n := 6) (e := 3) (sz := 1) (bb := false) hS453 rfl rfl rfl (by kernel_rfl) (idx_lo hx409) (Ar6.lt hx409))) fun a456 hS456 => ?_
                      refine d_one 17 #[true, true, true, true, true, true, true, true, true, true, true, true, true, true, true, true, true, true] rfl (by kernel_rfl) (arm_effS hS456 rfl rfl (e_storeB (n := 1) (bb := false) (cs' := [.int .i64 m2_0.Parent, .slice A248 m2_0.Rails.a0.length cap249, .slice A251 m2_0.Rails.a1.length cap252, .slice A254 m2_0.Rails.a2.length cap255, .slice A257 m2_0.Rails.a3.length cap258, .int .i64 y412.a0, .int .i64 y412.a1, .int .i64 y412.a2, .int .i64 y412.a3, .int .i64 y412.a4, .int .i64 y412.a5, .int .i64 m2_0.WakeDevice, .int .i64 m2_0.WakeSystem]) g452 hS456 rfl rfl rfl (by kernel_rfl) rfl rfl rfl h158 (by rcases Ar6.put_cases hy413 with ⟨e, e2⟩ | ⟨e, e2⟩ | ⟨e, e2⟩ | ⟨e, e2⟩ | ⟨e, e2⟩ | ⟨e, e2⟩ <;> (rw [e] <;> rfl)) (by rcases Ar6.put_cases hy413 with ⟨e, e2⟩ | ⟨e, e2⟩ | ⟨e, e2⟩ | ⟨e, e2⟩ | ⟨e, e2⟩ | ⟨e, e2⟩ <;> (rw [e, e2] <;> rfl))) (.inl (by decide)) ?_)
                      rintro a457 w458 g458 ⟨h158, F458⟩ hS457
                      replace h429 := RdS.fr h429 F458 (by decide) (fun q (hq : C0 q) (hm : q = N + 0) => by have := hC0 q hq; omega)
                      replace h433 := RdS.fr h433 F458 (by decide) (fun q (hq : C0 q) (hm : q = N + 0) => by have := hC0 q hq; omega)
                      replace h437 := RdS.fr h437 F458 (by decide) (fun q (hq : C0 q) (hm : q = N + 0) => by have := hC0 q hq; omega)
                      replace h441 := RdS.fr h441 F458 (by decide) (fun q (hq : C0 q) (hm : q = N + 0) => by have := hC0 q hq; omega)
                      replace hel426 := hel426.fr F458 (fun q (hq : C0 q) (hm : q = N + 0) => by have := hC0 q hq; omega)
                      replace h250 := RdS.fr h250 F458 (by decide) (fun q (hq : q = N + 4 + 1) (hm : q = N + 0) => by omega)
                      replace h253 := RdS.fr h253 F458 (by decide) (fun q (hq : q = N + 4 + 1) (hm : q = N + 0) => by omega)
                      replace h256 := RdS.fr h256 F458 (by decide) (fun q (hq : q = N + 4 + 1) (hm : q = N + 0) => by omega)
                      replace h259 := RdS.fr h259 F458 (by decide) (fun q (hq : q = N + 4 + 1) (hm : q = N + 0) => by omega)
                      replace h14 := OwS.fr h14 F458 (fun c' hc (hm : c' = N + 0) => by omega)
                      replace hp0 := RdS.fr hp0 F458 (by decide) (fun q (hq : C0 q) (hm : q = N + 0) => by have := hC0 q hq; omega)
                      replace hF := hF.trans F458 (fun c' (hm : c' = N + 0) => by show (r0 ≤ c' ∧ c' < r0 + 2) ∨ N ≤ c'; omega)
                      refine d_done (by kernel_rfl) (hK _ _ ?_)
                      replace hS : Sl 88 _ [(0, .slice A0 p0.length cap0), (1, .int .i64 p1), (5, .slice A12 m0_0.length cap13), (6, .int .i64 m0_1), (7, .pointer (some ⟨b157, 0, none⟩)), (9, .int .i64 m2_1)] := hS457.re ⟨rfl, rfl, rfl, rfl, rfl, rfl, trivial⟩
                      clear hK K hC
                      try clear hS415 hS416 hS417 hS418 hS421 hS422 hS423 hS424 hS425 hS444 hS445 hS448 hS449 hS450 hS451 hS453 hS456 hS457
                      obtain ⟨a, ha⟩ : ∃ a', a' = a457 := ⟨_, rfl⟩
                      rw [← ha] at hS ⊢; clear ha
                      change Code.wp _ _ _ _ _
                      refine c_pure1 [(0, .slice A0 p0.length cap0), (1, .int .i64 p1), (5, .slice A12 m0_0.length cap13), (6, .int .i64 m0_1), (7, .pointer (some ⟨b157, 0, none⟩)), (9, .int .i64 (wi (m2_1 + 1)))] (fun R hR => st_val hS rfl rfl rfl (r_move hS rfl rfl) fun a459 hS459 => st_val hS459 rfl rfl rfl (r_bin hS459 rfl rfl rfl b_add) fun a460 hS460 => st_val hS460 rfl rfl rfl (r_assign hS460 rfl rfl) fun a461 hS461 => wpList_nil (hR _ (hS461.re ⟨rfl, rfl, rfl, rfl, rfl, rfl, trivial⟩))) ?_
                      clear hS
                      clear a
                      intro a hS
                      refine ⟨k376, Nat.lt_succ_self _, ?_⟩
                      exact ⟨(api_PowerDevice.mk m2_0.Parent m2_0.Rails y412 m2_0.WakeDevice m2_0.WakeSystem), wi (m2_1 + 1), g458, H, hS.re ⟨rfl, rfl, rfl, rfl, rfl, rfl, trivial⟩, h250, h253, h256, h259, h14, h158, hp0, hF⟩
                    · replace H := ite_f hb379 H
                      refine wp_exit ?_
                      have e := Option.some.inj H
                      subst e
                      exact ⟨g375, hS.re ⟨rfl, rfl, rfl, rfl, rfl, trivial⟩, h250, h253, h256, h259, h14, h158, hp0, hF⟩
              · clear H
                clear hp0 h14 h158 h250 h253 h256 h259 hF
                clear hS
                rintro a w370 ⟨g370, hS, h250, h253, h256, h259, h14, h158, hp0, hF⟩
                have H := Hl373
                clear Hl373
                obtain ⟨y469, hy470, H⟩ := bind_el H
                refine c_region1 (fun K hK => ?_)
                refine st_val hS rfl rfl rfl (r_move hS rfl rfl) fun a462 hS462 => st_val hS462 rfl rfl rfl (r_loadN (n := 13) (cs := [.int .i64 v371.Parent, .slice A248 v371.Rails.a0.length cap249, .slice A251 v371.Rails.a1.length cap252, .slice A254 v371.Rails.a2.length cap255, .slice A257 v371.Rails.a3.length cap258, .int .i64 v371.Deepest.a0, .int .i64 v371.Deepest.a1, .int .i64 v371.Deepest.a2, .int .i64 v371.Deepest.a3, .int .i64 v371.Deepest.a4, .int .i64 v371.Deepest.a5, .int .i64 v371.WakeDevice, .int .i64 v371.WakeSystem]) hS462 rfl rfl (by kernel_rfl) rfl (Bx.cells_off h158 0 13)) fun a463 hS463 => ?_
                refine st_eff hS463 rfl rfl rfl (e_litD (D := (fun q => q = N + 4 + 1)) (e := 33) (parts := [(0, .agg #[.int .i64 v371.Parent, .slice A248 v371.Rails.a0.length cap249, .slice A251 v371.Rails.a1.length cap252, .slice A254 v371.Rails.a2.length cap255, .slice A257 v371.Rails.a3.length cap258, .int .i64 v371.Deepest.a0, .int .i64 v371.Deepest.a1, .int .i64 v371.Deepest.a2, .int .i64 v371.Deepest.a3, .int .i64 v371.Deepest.a4, .int .i64 v371.Deepest.a5, .int .i64 v371.WakeDevice, .int .i64 v371.WakeSystem])]) (cs := [.int .i64 v371.Parent, .slice A248 v371.Rails.a0.length cap249, .slice A251 v371.Rails.a1.length cap252, .slice A254 v371.Rails.a2.length cap255, .slice A257 v371.Rails.a3.length cap258, .int .i64 v371.Deepest.a0, .int .i64 v371.Deepest.a1, .int .i64 v371.Deepest.a2, .int .i64 v371.Deepest.a3, .int .i64 v371.Deepest.a4, .int .i64 v371.Deepest.a5, .int .i64 v371.WakeDevice, .int .i64 v371.WakeSystem]) kd_api_PowerDevice [v371] (N + 6) g370 hS463 rfl rfl (fun _ => by kernel_rfl) rfl (by decide) (Rows.cons (cs := [.int .i64 v371.Parent, .slice A248 v371.Rails.a0.length cap249, .slice A251 v371.Rails.a1.length cap252, .slice A254 v371.Rails.a2.length cap255, .slice A257 v371.Rails.a3.length cap258, .int .i64 v371.Deepest.a0, .int .i64 v371.Deepest.a1, .int .i64 v371.Deepest.a2, .int .i64 v371.Deepest.a3, .int .i64 v371.Deepest.a4, .int .i64 v371.Deepest.a5, .int .i64 v371.WakeDevice, .int .i64 v371.WakeSystem]) ⟨A248, cap249, A251, cap252, A254, cap255, A257, cap258, rfl, h250, h253, h256, h259⟩ Rows.nil)) ?_
                rintro _ a467 w468 g468 ⟨⟨A464, rfl, h465⟩, F468⟩ hS467
                replace h250 := RdS.fr h250 F468 (by decide) (fun _ _ h => h)
                replace h253 := RdS.fr h253 F468 (by decide) (fun _ _ h => h)
                replace h256 := RdS.fr h256 F468 (by decide) (fun _ _ h => h)
                replace h259 := RdS.fr h259 F468 (by decide) (fun _ _ h => h)
                replace h14 := OwS.fr h14 F468 (fun _ _ h => h)
                replace h158 := h158.fr F468 (fun h => h)
                replace hp0 := RdS.fr hp0 F468 (by decide) (fun _ _ h => h)
                replace hF := hF.trans F468 (fun _ h => h.elim)
                refine st_eff hS467 rfl rfl rfl (e_append (e := 33) (sz := 13) (by_ := 168) (z := [.int .i64 0, .slice none 0 0, .slice none 0 0, .slice none 0 0, .slice none 0 0, .int .i64 0, .int .i64 0, .int .i64 0, .int .i64 0, .int .i64 0, .int .i64 0, .int .i64 0, .int .i64 0]) (kd := kd_api_PowerDevice) g468 hS467 rfl rfl rfl rfl (by kernel_rfl) (by kernel_rfl) rfl rfl rfl rfl h14 (OwD.rdx h465) (fun _ _ _ h => h) hy470) ?_
                rintro _ a475 w476 g476 ⟨⟨A471, cap472, rfl, h473⟩, F476⟩ hS475
                replace h465 := OwD.fr h465 F476 (fun (hm : N + 6 = N + 4) => by omega) (fun q (hq : q = N + 4 + 1) (hm : q = N + 4) => by omega)
                replace h250 := RdS.fr h250 F476 (by decide) (fun q (hq : q = N + 4 + 1) (hm : q = N + 4) => by omega)
                replace h253 := RdS.fr h253 F476 (by decide) (fun q (hq : q = N + 4 + 1) (hm : q = N + 4) => by omega)
                replace h256 := RdS.fr h256 F476 (by decide) (fun q (hq : q = N + 4 + 1) (hm : q = N + 4) => by omega)
                replace h259 := RdS.fr h259 F476 (by decide) (fun q (hq : q = N + 4 + 1) (hm : q = N + 4) => by omega)
                replace h158 := h158.fr F476 (fun (hm : N + 0 = N + 4) => by omega)
                replace hp0 := RdS.fr hp0 F476 (by decide) (fun q (hq : C0 q) (hm : q = N + 4) => by have := hC0 q hq; omega)
                replace hF := hF.trans F476 (fun c' (hm : c' = N + 4) => by show (r0 ≤ c' ∧ c' < r0 + 2) ∨ N ≤ c'; omega)
                refine st_val hS475 rfl rfl rfl (r_assign hS475 rfl rfl) fun a477 hS477 => wpList_nil (hK _ _ ?_)
                replace hS : Sl 88 _ [(0, .slice A0 p0.length cap0), (1, .int .i64 p1), (5, .slice A471 y469.length cap472), (6, .int .i64 m0_1)] := hS477.re ⟨rfl, rfl, rfl, rfl, trivial⟩
                clear hK K
                try clear hS462 hS463 hS467 hS475 hS477
                obtain ⟨a, ha⟩ : ∃ a', a' = a477 := ⟨_, rfl⟩
                rw [← ha] at hS ⊢; clear ha
                have e := Option.some.inj H
                subst e
                exact ⟨g476, A471, cap472, hS.re ⟨rfl, rfl, rfl, rfl, trivial⟩, h473, hp0, hF⟩
          · clear H
            clear hp0 h14 hF
            clear hS
            rintro a w32 ⟨g32, A33, cap34, hS, h35, hp0, hF⟩
            have H := Hl38
            clear Hl38
            refine c_pure1 [(0, .slice A0 p0.length cap0), (1, .int .i64 p1), (5, .slice A33 v36.length cap34), (6, .int .i64 (wi (m0_1 + 1)))] (fun R hR => st_val hS rfl rfl rfl (r_move hS rfl rfl) fun a478 hS478 => st_val hS478 rfl rfl rfl (r_bin hS478 rfl rfl rfl b_add) fun a479 hS479 => st_val hS479 rfl rfl rfl (r_assign hS479 rfl rfl) fun a480 hS480 => wpList_nil (hR _ (hS480.re ⟨rfl, rfl, rfl, rfl, trivial⟩))) ?_
            clear hS
            clear a
            intro a hS
            refine ⟨k15, Nat.lt_succ_self _, ?_⟩
            exact ⟨v36, wi (m0_1 + 1), g32, A33, cap34, H, hS.re ⟨rfl, rfl, rfl, rfl, trivial⟩, h35, hp0, hF⟩
        · replace H := ite_f hb31 H
          refine wp_exit ?_
          have e := Option.some.inj H
          subst e
          exact ⟨g11, A12, cap13, hS.re ⟨rfl, trivial⟩, h14, hF⟩
  · clear H
    clear hp0 hF
    clear hS
    rintro a w3 ⟨g3, A4, cap5, hS, h6, hF⟩
    have H := Hl9
    clear Hl9
    refine c_pure [(4, .slice A4 v7.length cap5)] (fun R hR => st_val hS rfl rfl rfl (r_move hS rfl rfl) fun a481 hS481 => st_val hS481 rfl rfl rfl (r_assign hS481 rfl rfl) fun a482 hS482 => wpList_nil (hR _ (hS482.re ⟨rfl, trivial⟩))) ?_
    clear hS
    clear a
    intro a hS
    refine wp_ret ?_
    have e := Option.some.inj H
    subst e
    have F483 := Fr.recol2 w3 g3 (N + 4) r0
    replace h6 := h6.recol2 r0
    replace hF := hF.trans F483 (fun c' (hm : c' = N + 4 ∨ c' = N + 4 + 1) => by show (r0 ≤ c' ∧ c' < r0 + 2) ∨ N ≤ c'; omega)
    repeat (with_reducible first | refine then_ret ?_ | refine inBlock_ret ?_)
    exact c_ret1 hS Try.results16 rfl ⟨_, rfl, (recol2 g3 (N + 4) r0), A4, cap5, rfl, h6, hF⟩


end Go.Proofs.Ytfhhklkmbcnhnaa.Sim
