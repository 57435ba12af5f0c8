/-
  Texts of this session, part 3 of 6: the words of the walk, plain functions with the same answers as the Go functions and the proofs of it, plain lemmas. No condition.
  They are, one behind the other: QResumeSchedulerAdvance QSlicesCloneBoolBool QSlicesIndexBoolBool QResumeSchedulerReady QResumeSchedulerWorker1 QSlicesIndexFuncUint64Uint64Worker1 QResumeSchedulerWorker QResumeSchedule QResumeValidSlots QResumeVerify.
-/
import Derived.Test.YthmjgadmadlpkaaProg
import Derived.Test.YthmjgadmadlpkaaZResumeMoreWorkersOnIndependentDevices2

namespace Go.Proofs.Ythmjgadmadlpkaa.Sim
open Go
set_option linter.unusedVariables false
set_option linter.unusedSimpArgs false

/-! ### resume_scheduler_advance: function 38 -/
def resume_scheduler_advance.f (p0 : resume_scheduler) : Option (resume_scheduler × Bool) := (slices_Clone_uint64_uint64.f p0.free).bind fun r11 => (slices_DeleteFunc_uint64_uint64_advance_1.f r11 p0).bind fun r20 => if ((r20.length : Int) == 0) = true then (some (p0, false)) else ((slices_Min_uint64_uint64.f r20).bind fun r34 => some ((resume_scheduler.mk p0.links p0.slot p0.begun p0.free r34), true))
set_option maxRecDepth 100000 in
set_option maxHeartbeats 4000000 in
theorem resume_scheduler_advance.calls {p0 : resume_scheduler} {c0 : Nat} {C_links_p0 : Nat → Prop} {b_p0 : Nat} {A_links_p0 : Option Addr} {cap_links_p0 : Nat} {A_slot_p0 : Option Addr} {cap_slot_p0 : Nat} {A_begun_p0 : Option Addr} {cap_begun_p0 : Nat} {A_free_p0 : Option Addr} {cap_free_p0 : Nat} {w : World} {g : Nat → Nat} {out : resume_scheduler × Bool} (N : Nat) (hp0 : resume_scheduler_At w g c0 C_links_p0 b_p0 A_links_p0 cap_links_p0 A_slot_p0 cap_slot_p0 A_begun_p0 cap_begun_p0 A_free_p0 cap_free_p0 p0) (hc0 : c0 + 7 ≤ N) (hC_links_p0 : ∀ c, C_links_p0 c → c < N ∧ (c < c0 ∨ c0 + 7 ≤ c)) (H : resume_scheduler_advance.f p0 = some out) :
    Calls Try.prog 38 #[.pointer (some ⟨b_p0, 0, none⟩)] w (fun e w' => ∃ v, e = .returned v ∧ ∃ (g' : Nat → Nat), v = .bool out.2 ∧ resume_scheduler_At w' g' c0 C_links_p0 b_p0 A_links_p0 cap_links_p0 A_slot_p0 cap_slot_p0 A_begun_p0 cap_begun_p0 A_free_p0 cap_free_p0 out.1 ∧ Fr (fun q => (c0 ≤ q ∧ q < c0 + 7) ∨ N ≤ q) w g w' g') := by
  unfold resume_scheduler_advance.f at H
  refine calls_enter Try.func38 rfl Try.ntmps38 rfl (fun a hS => ?_)
  replace hS : Sl 19 a [(0, .pointer (some ⟨b_p0, 0, none⟩))] := hS
  have hF : Fr (fun q => (c0 ≤ q ∧ q < c0 + 7) ∨ N ≤ q) w g w g := Fr.refl _ _ _
  obtain ⟨hb0, hf0_links, hf0_slot, hf0_begun, hf0_free⟩ := hp0
  refine c_region (fun K hK => ?_)
  refine st_eff hS rfl rfl rfl (e_box (cs := [.pointer (some ⟨b_p0, 0, none⟩)]) (N + 0) g hS rfl rfl rfl) ?_
  rintro _ a4 w5 g5 ⟨⟨b1, rfl, h2⟩, F5⟩ hS4
  replace hb0 := hb0.fr F5 (fun h => h)
  replace hf0_begun := OwS.fr hf0_begun F5 (fun _ _ h => h)
  replace hf0_free := OwS.fr hf0_free F5 (fun _ _ h => h)
  replace hf0_links := RdS.fr hf0_links F5 (by decide) (fun _ _ h => h)
  replace hf0_slot := OwS.fr hf0_slot F5 (fun _ _ h => h)
  replace hF := hF.trans F5 (fun _ h => h.elim)
  refine st_val hS4 rfl rfl rfl (r_assign hS4 rfl rfl) fun a6 hS6 => wpList_nil (hK _ _ ?_)
  replace hS : Sl 19 _ [(1, .pointer (some ⟨b1, 0, none⟩))] := hS6.re ⟨rfl, trivial⟩
  clear hK K
  try clear hS4 hS6
  obtain ⟨a, ha⟩ : ∃ a', a' = a6 := ⟨_, rfl⟩
  rw [← ha] at hS ⊢; clear ha
  obtain ⟨r11, hr12, H⟩ := bind_el H
  obtain ⟨r20, hr21, H⟩ := bind_el H
  refine c_region (fun K hK => ?_)
  refine st_val hS rfl rfl rfl (r_load1 (n := 1) hS rfl rfl (by kernel_rfl) (Bx.cell h2 rfl)) fun a7 hS7 => st_val hS7 rfl rfl rfl (r_nil hS7 rfl rfl) fun a8 hS8 => st_val hS8 rfl rfl rfl (r_fieldB (off := 3) hS8 rfl rfl (by kernel_rfl)) fun a9 hS9 => st_val hS9 rfl rfl rfl (r_load1 (n := 1) hS9 rfl rfl (by kernel_rfl) (Bx.cell hb0 rfl)) fun a10 hS10 => ?_
  refine st_enter hS10 rfl rfl rfl (r_call hS10 rfl rfl (by kernel_rfl)) (slices_Clone_uint64_uint64.calls (C0 := (fun q => q = c0 + 5)) (p0 := p0.free) (g := g5) (N + 6) (N + 2) (OwD.rdf (fun _ _ _ _ _ _ h => h) hf0_free) (fun q (hq : q = c0 + 5) => by omega) (by omega) hr12) ?_
  rintro _ a17 w18 ⟨g18, A13, cap14, rfl, h15, F18⟩ hS17
  replace h2 := h2.fr F18 (fun (hm : (N + 2 ≤ N + 0 ∧ N + 0 < N + 2 + 2) ∨ N + 6 ≤ N + 0) => by omega)
  replace hb0 := hb0.fr F18 (fun (hm : (N + 2 ≤ c0 ∧ c0 < N + 2 + 2) ∨ N + 6 ≤ c0) => by omega)
  replace hf0_begun := OwS.fr hf0_begun F18 (fun c' hc (hm : (N + 2 ≤ c' ∧ c' < N + 2 + 2) ∨ N + 6 ≤ c') => by omega)
  replace hf0_free := OwS.fr hf0_free F18 (fun c' hc (hm : (N + 2 ≤ c' ∧ c' < N + 2 + 2) ∨ N + 6 ≤ c') => by omega)
  replace hf0_links := RdS.fr hf0_links F18 (by decide) (fun q (hq : C_links_p0 q) (hm : (N + 2 ≤ q ∧ q < N + 2 + 2) ∨ N + 6 ≤ q) => by have := hC_links_p0 q hq; omega)
  replace hf0_slot := OwS.fr hf0_slot F18 (fun c' hc (hm : (N + 2 ≤ c' ∧ c' < N + 2 + 2) ∨ N + 6 ≤ c') => by omega)
  replace hF := hF.trans F18 (fun c' (hm : (N + 2 ≤ c' ∧ c' < N + 2 + 2) ∨ N + 6 ≤ c') => by show (c0 ≤ c' ∧ c' < c0 + 7) ∨ N ≤ c'; omega)
  refine st_val hS17 rfl rfl rfl (r_mkfn hS17 rfl rfl) fun a19 hS19 => ?_
  refine st_enter hS19 rfl rfl rfl (r_call hS19 rfl rfl (by kernel_rfl)) (slices_DeleteFunc_uint64_uint64_advance_1.calls (c0 := N + 2) (A0 := A13) (cap0 := cap14) (cb2 := N + 0) (bb2 := b1) (c3 := c0) (b_p3 := b_p0) (A_links_p3 := A_links_p0) (cap_links_p3 := cap_links_p0) (C_links_p3 := C_links_p0) (A_slot_p3 := A_slot_p0) (cap_slot_p3 := cap_slot_p0) (A_begun_p3 := A_begun_p0) (cap_begun_p3 := cap_begun_p0) (A_free_p3 := A_free_p0) (cap_free_p3 := cap_free_p0) (p0 := r11) (p3 := p0) (g := g18) (N + 6) (N + 4) h15 (by omega) h2 (by omega) ⟨hb0, hf0_links, hf0_slot, hf0_begun, hf0_free⟩ (by omega) (fun q (hq : C_links_p0 q) => by have := hC_links_p0 q hq; omega) (fun q (hq : C_links_p0 q) => by have := hC_links_p0 q hq; omega) (by omega) (by omega) (by omega) (by omega) hr21) ?_
  rintro _ a26 w27 ⟨g27, A22, cap23, rfl, h24, F27⟩ hS26
  replace h2 := h2.fr F27 (fun (hm : (N + 2 ≤ N + 0 ∧ N + 0 < N + 2 + 2) ∨ (N + 4 ≤ N + 0 ∧ N + 0 < N + 4 + 2) ∨ N + 6 ≤ N + 0) => by omega)
  replace hb0 := hb0.fr F27 (fun (hm : (N + 2 ≤ c0 ∧ c0 < N + 2 + 2) ∨ (N + 4 ≤ c0 ∧ c0 < N + 4 + 2) ∨ N + 6 ≤ c0) => by omega)
  replace hf0_begun := OwS.fr hf0_begun F27 (fun c' hc (hm : (N + 2 ≤ c' ∧ c' < N + 2 + 2) ∨ (N + 4 ≤ c' ∧ c' < N + 4 + 2) ∨ N + 6 ≤ c') => by omega)
  replace hf0_free := OwS.fr hf0_free F27 (fun c' hc (hm : (N + 2 ≤ c' ∧ c' < N + 2 + 2) ∨ (N + 4 ≤ c' ∧ c' < N + 4 + 2) ∨ N + 6 ≤ c') => by omega)
  replace hf0_links := RdS.fr hf0_links F27 (by decide) (fun q (hq : C_links_p0 q) (hm : (N + 2 ≤ q ∧ q < N + 2 + 2) ∨ (N + 4 ≤ q ∧ q < N + 4 + 2) ∨ N + 6 ≤ q) => by have := hC_links_p0 q hq; omega)
  replace hf0_slot := OwS.fr hf0_slot F27 (fun c' hc (hm : (N + 2 ≤ c' ∧ c' < N + 2 + 2) ∨ (N + 4 ≤ c' ∧ c' < N + 4 + 2) ∨ N + 6 ≤ c') => by omega)
  replace hF := hF.trans F27 (fun c' (hm : (N + 2 ≤ c' ∧ c' < N + 2 + 2) ∨ (N + 4 ≤ c' ∧ c' < N + 4 + 2) ∨ N + 6 ≤ c') => by show (c0 ≤ c' ∧ c' < c0 + 7) ∨ N ≤ c'; omega)
  refine st_val hS26 rfl rfl rfl (r_assign hS26 rfl rfl) fun a28 hS28 => wpList_nil (hK _ _ ?_)
  replace hS : Sl 19 _ [(1, .pointer (some ⟨b1, 0, none⟩)), (3, .slice A22 r20.length cap23)] := hS28.re ⟨rfl, rfl, trivial⟩
  clear hK K
  try clear hS7 hS8 hS9 hS10 hS17 hS19 hS26 hS28
  obtain ⟨a, ha⟩ : ∃ a', a' = a28 := ⟨_, rfl⟩
  rw [← ha] at hS ⊢; clear ha
  refine wp_seq ?_
  refine c_pure [(1, .pointer (some ⟨b1, 0, none⟩)), (3, .slice A22 r20.length cap23), (13, .bool ((r20.length : Int) == 0))] (fun R hR => st_val hS rfl rfl rfl (r_move hS rfl rfl) fun a29 hS29 => st_val hS29 rfl rfl rfl (r_len (e := 33) (sz := 1) (by_ := 8) hS29 rfl rfl (by kernel_rfl)) fun a30 hS30 => st_val hS30 rfl rfl rfl (r_bin hS30 rfl rfl rfl b_eql) fun a31 hS31 => wpList_nil (hR _ (hS31.re ⟨rfl, rfl, rfl, trivial⟩))) ?_
  clear hS
  clear a
  intro a hS
  refine c_cond hS rfl (fun hb32 => ?_) (fun hb32 => ?_)
  · replace H := ite_t hb32 H
    refine c_pure [(2, .bool false)] (fun R hR => st_val hS rfl rfl rfl (r_assign hS rfl rfl) fun a33 hS33 => wpList_nil (hR _ (hS33.re ⟨rfl, trivial⟩))) ?_
    clear hS
    clear a
    intro a hS
    refine wp_ret ?_
    have e := Option.some.inj H
    subst e
    repeat (with_reducible first | refine then_ret ?_ | refine inBlock_ret ?_)
    exact c_ret1 hS Try.results38 rfl ⟨_, rfl, g27, rfl, ⟨hb0, hf0_links, hf0_slot, hf0_begun, hf0_free⟩, hF⟩
  · replace H := ite_f hb32 H
    refine wp_skip ?_
    change Code.wp _ _ _ _ _
    obtain ⟨r34, hr35, H⟩ := bind_el H
    refine c_draw (fun K hK => d_start (fun q => N + 6 ≤ q) g27 [5] 6 #[false, false, false, false, false, false] (by kernel_rfl) rfl rfl (fun w36 hw36 => ?_))
    have F36 : Fr (fun _ => False) w27 g27 w36 g27 := by rw [hw36]; exact Fr.drew _ _ _
    replace h24 := OwS.fr h24 F36 (fun _ _ h => h)
    replace h2 := h2.fr F36 (fun h => h)
    replace hb0 := hb0.fr F36 (fun h => h)
    replace hf0_begun := OwS.fr hf0_begun F36 (fun _ _ h => h)
    replace hf0_free := OwS.fr hf0_free F36 (fun _ _ h => h)
    replace hf0_links := RdS.fr hf0_links F36 (by decide) (fun _ _ h => h)
    replace hf0_slot := OwS.fr hf0_slot F36 (fun _ _ h => h)
    replace hF := hF.trans F36 (fun _ h => h.elim)
    have hC : Fr (fun q => N + 6 ≤ q) w36 g27 w36 g27 := Fr.refl _ _ _
    refine d_take hS 0 #[true, false, false, false, false, false] rfl rfl rfl rfl (by kernel_rfl) (fun _ _ _ h => h) ⟨_, hC⟩ (fun w' g' Fz => (r_load1 (n := 1) hS rfl rfl (by kernel_rfl) (Bx.cell (h2.fr Fz (fun (hm : N + 6 ≤ N + 0) => by omega)) rfl))) fun a37 hS37 => d_pure hS37 1 #[true, true, false, false, false, false] rfl rfl rfl rfl (by kernel_rfl) (fun _ _ _ h => h) (fun _ => (r_move hS37 rfl rfl)) fun a38 hS38 => ?_
    refine d_one 2 #[true, true, true, false, false, false] rfl (by kernel_rfl) (arm_call hS38 rfl rfl rfl (r_call hS38 rfl rfl (by kernel_rfl)) (slices_Min_uint64_uint64.calls (C0 := (fun q => q = N + 4)) (p0 := r20) (g := g27) (N + 6)  (OwD.rdf (fun _ _ _ _ _ _ h => h) h24) (fun q (hq : q = N + 4) => by omega) hr35) (fun _ _ ⟨g', _, Fz⟩ _ => ⟨g', hC.trans Fz (fun c' (hm : N + 6 ≤ c') => by show N + 6 ≤ c'; omega)⟩) ?_)
    rintro _ a39 w40 ⟨g40, rfl, F40⟩ hS39
    have hC40 := hC.trans F40 (fun c' (hm : N + 6 ≤ c') => by show N + 6 ≤ c'; omega)
    replace h24 := OwS.fr h24 F40 (fun c' hc (hm : N + 6 ≤ c') => by omega)
    replace h2 := h2.fr F40 (fun (hm : N + 6 ≤ N + 0) => by omega)
    replace hb0 := hb0.fr F40 (fun (hm : N + 6 ≤ c0) => by omega)
    replace hf0_begun := OwS.fr hf0_begun F40 (fun c' hc (hm : N + 6 ≤ c') => by omega)
    replace hf0_free := OwS.fr hf0_free F40 (fun c' hc (hm : N + 6 ≤ c') => by omega)
    replace hf0_links := RdS.fr hf0_links F40 (by decide) (fun q (hq : C_links_p0 q) (hm : N + 6 ≤ q) => by have := hC_links_p0 q hq; omega)
    replace hf0_slot := OwS.fr hf0_slot F40 (fun c' hc (hm : N + 6 ≤ c') => by omega)
    replace hF := hF.trans F40 (fun c' (hm : N + 6 ≤ c') => by show (c0 ≤ c' ∧ c' < c0 + 7) ∨ N ≤ c'; omega)
    refine d_pure hS39 3 #[true, true, true, true, false, false] rfl rfl rfl rfl (by kernel_rfl) (fun _ _ _ h => h) (fun _ => (r_nil hS39 rfl rfl)) fun a41 hS41 => d_pure hS41 4 #[true, true, true, true, true, false] rfl rfl rfl rfl (by kernel_rfl) (fun _ _ _ h => h) (fun _ => (r_fieldB (off := 4) hS41 rfl rfl (by kernel_rfl))) fun a42 hS42 => ?_
    refine d_one 5 #[true, true, true, true, true, true] rfl (by kernel_rfl) (arm_effS hS42 rfl rfl (e_storeB (n := 1) (bb := false) (cs' := [.slice A_links_p0 p0.links.length cap_links_p0, .slice A_slot_p0 p0.slot.length cap_slot_p0, .slice A_begun_p0 p0.begun.length cap_begun_p0, .slice A_free_p0 p0.free.length cap_free_p0, .int .u64 r34]) g40 hS42 rfl rfl rfl (by kernel_rfl) rfl rfl rfl hb0 rfl rfl) (.inl (by decide)) ?_)
    rintro a43 w44 g44 ⟨hb0, F44⟩ hS43
    replace h24 := OwS.fr h24 F44 (fun c' hc (hm : c' = c0) => by omega)
    replace h2 := h2.fr F44 (fun (hm : N + 0 = c0) => by omega)
    replace hf0_begun := OwS.fr hf0_begun F44 (fun c' hc (hm : c' = c0) => by omega)
    replace hf0_free := OwS.fr hf0_free F44 (fun c' hc (hm : c' = c0) => by omega)
    replace hf0_links := RdS.fr hf0_links F44 (by decide) (fun q (hq : C_links_p0 q) (hm : q = c0) => by have := hC_links_p0 q hq; omega)
    replace hf0_slot := OwS.fr hf0_slot F44 (fun c' hc (hm : c' = c0) => by omega)
    replace hF := hF.trans F44 (fun c' (hm : c' = c0) => by show (c0 ≤ c' ∧ c' < c0 + 7) ∨ N ≤ c'; omega)
    refine d_done (by kernel_rfl) (hK _ _ ?_)
    replace hS : Sl 19 _ [] := hS43.re trivial
    clear hK K hC
    try clear hS37 hS38 hS39 hS41 hS42 hS43
    obtain ⟨a, ha⟩ : ∃ a', a' = a43 := ⟨_, rfl⟩
    rw [← ha] at hS ⊢; clear ha
    refine c_pure [(2, .bool true)] (fun R hR => st_val hS rfl rfl rfl (r_assign hS rfl rfl) fun a45 hS45 => wpList_nil (hR _ (hS45.re ⟨rfl, trivial⟩))) ?_
    clear hS
    clear a
    intro a hS
    refine wp_ret ?_
    have e := Option.some.inj H
    subst e
    repeat (with_reducible first | refine then_ret ?_ | refine inBlock_ret ?_)
    exact c_ret1 hS Try.results38 rfl ⟨_, rfl, g44, rfl, ⟨hb0, hf0_links, hf0_slot, hf0_begun, hf0_free⟩, hF⟩


end Go.Proofs.Ythmjgadmadlpkaa.Sim

namespace Go.Proofs.Ythmjgadmadlpkaa.Sim
open Go
set_option linter.unusedVariables false
set_option linter.unusedSimpArgs false

/-! ### slices_Clone_bool_bool: function 67 -/
def slices_Clone_bool_bool.f (p0 : List Bool) : Option ((List Bool)) := (app ([] : List Bool) p0).bind fun y13 => some y13
set_option maxRecDepth 100000 in
set_option maxHeartbeats 4000000 in
theorem slices_Clone_bool_bool.calls {p0 : List Bool} {A0 : Option Addr} {cap0 : Nat} {C0 : Nat → Prop} {w : World} {g : Nat → Nat} {out : (List Bool)} (N : Nat) (r0 : Nat) (hp0 : RdS kbool w g C0 A0 cap0 p0) (hC0 : ∀ c, C0 c → c < N) (hr0 : r0 + 2 ≤ N) (H : slices_Clone_bool_bool.f p0 = some out) :
    Calls Try.prog 67 #[.slice A0 p0.length cap0] w (fun e w' => ∃ v, e = .returned v ∧ ∃ (g' : Nat → Nat) (A_r0 : Option Addr) (cap_r0 : Nat), v = .slice A_r0 out.length cap_r0 ∧ OwS kbool 4 w' g' r0 A_r0 cap_r0 out ∧ Fr (fun q => (r0 ≤ q ∧ q < r0 + 2) ∨ N ≤ q) w g w' g') := by
  unfold slices_Clone_bool_bool.f at H
  refine calls_enter Try.func67 rfl Try.ntmps67 rfl (fun a hS => ?_)
  replace hS : Sl 8 a [(0, .slice A0 p0.length cap0)] := hS
  have hF : Fr (fun q => (r0 ≤ q ∧ q < r0 + 2) ∨ N ≤ q) w g w g := Fr.refl _ _ _
  refine c_pure [(0, .slice A0 p0.length cap0)] (fun R hR => st_val hS rfl rfl rfl (r_assign hS rfl rfl) fun a1 hS1 => wpList_nil (hR _ (hS1.re ⟨rfl, trivial⟩))) ?_
  clear hS
  clear a
  intro a hS
  refine wp_seq ?_
  refine c_pure [(0, .slice A0 p0.length cap0), (4, .bool A0.isNone)] (fun R hR => st_val hS rfl rfl rfl (r_move hS rfl rfl) fun a2 hS2 => st_val hS2 rfl rfl rfl (r_slNil (E := 4) hS2 rfl rfl (by kernel_rfl)) fun a3 hS3 => wpList_nil (hR _ (hS3.re ⟨rfl, rfl, trivial⟩))) ?_
  clear hS
  clear a
  intro a hS
  refine c_cond hS rfl (fun hb4 => ?_) (fun hb4 => ?_)
  · have hn5 := RdS.none_ hp0 hb4
    subst hn5
    replace H : some [] = some out := by first | exact H | simpa [app] using H
    refine c_pure [(2, .slice none 0 0)] (fun R hR => st_val hS rfl rfl rfl (r_assign hS rfl rfl) fun a6 hS6 => wpList_nil (hR _ (hS6.re ⟨rfl, trivial⟩))) ?_
    clear hS
    clear a
    intro a hS
    refine wp_ret ?_
    have e := Option.some.inj H
    subst e
    repeat (with_reducible first | refine then_ret ?_ | refine inBlock_ret ?_)
    exact c_ret1 hS Try.results67 rfl ⟨_, rfl, g, none, 0, rfl, OwS.nil kbool 4 w g r0, hF⟩
  · refine wp_skip ?_
    change Code.wp _ _ _ _ _
    obtain ⟨y13, hy14, H⟩ := bind_el H
    refine c_region (fun K hK => ?_)
    refine st_eff hS rfl rfl rfl (e_lit (e := 4) (parts := []) (cs := []) kbool ([] : List Bool) (N + 0) g hS rfl rfl (fun _ => by kernel_rfl) rfl (by decide) Rows.nil) ?_
    rintro _ a10 w11 g11 ⟨⟨A7, rfl, h8⟩, F11⟩ hS10
    replace hp0 := RdS.fr hp0 F11 (by decide) (fun _ _ h => h)
    replace hF := hF.trans F11 (fun _ h => h.elim)
    refine st_val hS10 rfl rfl rfl (r_move hS10 rfl rfl) fun a12 hS12 => ?_
    refine st_eff hS12 rfl rfl rfl (e_append (e := 4) (sz := 1) (by_ := 1) (z := [.bool false]) (kd := kbool) g11 hS12 rfl rfl rfl rfl (by kernel_rfl) (by kernel_rfl) rfl rfl rfl rfl h8 hp0 (fun _ _ _ h => h) hy14) ?_
    rintro _ a19 w20 g20 ⟨⟨A15, cap16, rfl, h17⟩, F20⟩ hS19
    replace hp0 := RdS.fr hp0 F20 (by decide) (fun q (hq : C0 q) (hm : q = N + 0) => by have := hC0 q hq; omega)
    replace hF := hF.trans F20 (fun c' (hm : c' = N + 0) => by show (r0 ≤ c' ∧ c' < r0 + 2) ∨ N ≤ c'; omega)
    refine st_val hS19 rfl rfl rfl (r_assign hS19 rfl rfl) fun a21 hS21 => wpList_nil (hK _ _ ?_)
    replace hS : Sl 8 _ [(2, .slice A15 y13.length cap16)] := hS21.re ⟨rfl, trivial⟩
    clear hK K
    try clear hS10 hS12 hS19 hS21
    obtain ⟨a, ha⟩ : ∃ a', a' = a21 := ⟨_, rfl⟩
    rw [← ha] at hS ⊢; clear ha
    refine wp_ret ?_
    have e := Option.some.inj H
    subst e
    have F22 := Fr.recol2 w20 g20 (N + 0) r0
    replace h17 := h17.recol2 r0
    replace hF := hF.trans F22 (fun c' (hm : c' = N + 0 ∨ c' = N + 0 + 1) => by show (r0 ≤ c' ∧ c' < r0 + 2) ∨ N ≤ c'; omega)
    repeat (with_reducible first | refine then_ret ?_ | refine inBlock_ret ?_)
    exact c_ret1 hS Try.results67 rfl ⟨_, rfl, (recol2 g20 (N + 0) r0), A15, cap16, rfl, h17, hF⟩


end Go.Proofs.Ythmjgadmadlpkaa.Sim

namespace Go.Proofs.Ythmjgadmadlpkaa.Sim
open Go
set_option linter.unusedVariables false
set_option linter.unusedSimpArgs false

/-! ### slices_Index_bool_bool: function 68 -/
def slices_Index_bool_bool.l0 (p0 : List Bool) (p1 : Bool) : Nat → Int → Option (Fl (Int) (Unit))
  | 0, _ => none
  | k8 + 1, m0_0 => if decide (m0_0 < (p0.length : Int)) = true then ((idx p0 m0_0).bind fun x16 => if (p1 == x16) = true then (some (.out m0_0)) else (slices_Index_bool_bool.l0 p0 p1 k8 (wi (m0_0 + 1)))) else (some (.nxt ()))
def slices_Index_bool_bool.f (p0 : List Bool) (p1 : Bool) : Option (Int) := (slices_Index_bool_bool.l0 p0 p1 FUEL 0 : Option (Fl (Int) (Unit))).bind fun o3 => o3.go fun _ => some (-1)
set_option maxRecDepth 100000 in
set_option maxHeartbeats 4000000 in
theorem slices_Index_bool_bool.calls {p0 : List Bool} {A0 : Option Addr} {cap0 : Nat} {C0 : Nat → Prop} {p1 : Bool} {w : World} {g : Nat → Nat} {out : Int} (N : Nat) (hp0 : RdS kbool w g C0 A0 cap0 p0) (hC0 : ∀ c, C0 c → c < N) (H : slices_Index_bool_bool.f p0 p1 = some out) :
    Calls Try.prog 68 #[.slice A0 p0.length cap0, .bool p1] w (fun e w' => ∃ v, e = .returned v ∧ ∃ (g' : Nat → Nat), v = .int .i64 out ∧ Fr (fun q => N ≤ q) w g w' g') := by
  unfold slices_Index_bool_bool.f at H
  refine calls_enter Try.func68 rfl Try.ntmps68 rfl (fun a hS => ?_)
  replace hS : Sl 19 a [(0, .slice A0 p0.length cap0), (1, .bool p1)] := hS
  have hF : Fr (fun q => N ≤ q) w g w g := Fr.refl _ _ _
  refine c_pure [(0, .slice A0 p0.length cap0), (1, .bool p1)] (fun R hR => st_val hS rfl rfl rfl (r_assign hS rfl rfl) fun a1 hS1 => wpList_nil (hR _ (hS1.re ⟨rfl, rfl, trivial⟩))) ?_
  clear hS
  clear a
  intro a hS
  obtain ⟨o3, H, Hl4⟩ := bind_el H
  refine c_cut (fun a w' => o3 = .nxt () ∧ w = w' ∧ Sl 19 a []) ?_ ?_
  · refine c_pure [(0, .slice A0 p0.length cap0), (1, .bool p1), (7, .int .i64 (p0.length : Int)), (8, .int .i64 0)] (fun R hR => st_val hS rfl rfl rfl (r_move hS rfl rfl) fun a5 hS5 => st_val hS5 rfl rfl rfl (r_len (e := 4) (sz := 1) (by_ := 1) hS5 rfl rfl (by kernel_rfl)) fun a6 hS6 => st_val hS6 rfl rfl rfl (r_move hS6 rfl rfl) fun a7 hS7 => wpList_nil (hR _ (hS7.re ⟨rfl, rfl, rfl, rfl, trivial⟩))) ?_
    clear hS
    clear a
    intro a hS
    refine wp_block ?_
    refine wp_loop_ghost (fun kq => fun a w' => ∃ (m0_0 : Int), slices_Index_bool_bool.l0 p0 p1 kq m0_0 = some o3 ∧ w = w' ∧ Sl 19 a [(0, .slice A0 p0.length cap0), (1, .bool p1), (7, .int .i64 (p0.length : Int)), (8, .int .i64 m0_0)]) FUEL ?_ ?_
    · exact ⟨0, H, rfl, hS.re ⟨rfl, rfl, rfl, rfl, trivial⟩⟩
    · clear H
      clear hS
      rintro k8 a w' ⟨m0_0, hpre0, hw, hS⟩
      subst hw
      have H := hpre0
      clear hpre0
      cases k8 with
      | zero => exact absurd H (by simp [slices_Index_bool_bool.l0])
      | succ k8 =>
        rw [slices_Index_bool_bool.l0] at H
        refine c_pure [(0, .slice A0 p0.length cap0), (1, .bool p1), (7, .int .i64 (p0.length : Int)), (8, .int .i64 m0_0), (9, .bool (decide (m0_0 < (p0.length : Int))))] (fun R hR => st_val hS rfl rfl rfl (r_bin hS rfl rfl rfl b_lss) fun a9 hS9 => wpList_nil (hR _ (hS9.re ⟨rfl, rfl, rfl, rfl, rfl, trivial⟩))) ?_
        clear hS
        clear a
        intro a hS
        refine c_if hS rfl (fun hb10 => ?_) (fun hb10 => ?_)
        · replace H := ite_t hb10 H
          refine wp_skip ?_
          change Code.wp _ _ _ _ _
          refine wp_seq ?_
          refine wp_block ?_
          refine c_pure [(0, .slice A0 p0.length cap0), (1, .bool p1), (5, .int .i64 m0_0), (7, .int .i64 (p0.length : Int)), (8, .int .i64 m0_0)] (fun R hR => st_val hS rfl rfl rfl (r_move hS rfl rfl) fun a11 hS11 => st_val hS11 rfl rfl rfl (r_assign hS11 rfl rfl) fun a12 hS12 => wpList_nil (hR _ (hS12.re ⟨rfl, rfl, rfl, rfl, rfl, trivial⟩))) ?_
          clear hS
          clear a
          intro a hS
          obtain ⟨x16, hx17, H⟩ := bind_el H
          refine c_pure [(0, .slice A0 p0.length cap0), (1, .bool p1), (5, .int .i64 m0_0), (7, .int .i64 (p0.length : Int)), (8, .int .i64 m0_0), (16, .bool (p1 == x16))] (fun R hR => st_val hS rfl rfl rfl (r_move hS rfl rfl) fun a13 hS13 => st_val hS13 rfl rfl rfl (r_move hS13 rfl rfl) fun a14 hS14 => st_val hS14 rfl rfl rfl (r_move hS14 rfl rfl) fun a15 hS15 => st_val hS15 rfl rfl rfl (r_index (e := 4) (sz := 1) (by_ := 1) hS15 rfl rfl rfl (by kernel_rfl) (RdS.some_ hp0 hx17) (idx_lo hx17) (idx_hi hx17)) fun a18 hS18 => st_val hS18 rfl rfl rfl (r_load1 (n := 1) hS18 rfl rfl (by kernel_rfl) (RdS.cell (i := m0_0) (sz := 1) (j := 0) hp0 hx17 rfl)) fun a19 hS19 => st_val hS19 rfl rfl rfl (r_binB hS19 rfl rfl rfl (b_eqlB (by kernel_rfl))) fun a20 hS20 => wpList_nil (hR _ (hS20.re ⟨rfl, rfl, rfl, rfl, rfl, rfl, trivial⟩))) ?_
          clear hS
          clear a
          intro a hS
          refine c_cond hS rfl (fun hb21 => ?_) (fun hb21 => ?_)
          · replace H := ite_t hb21 H
            refine c_pure [(4, .int .i64 m0_0)] (fun R hR => st_val hS rfl rfl rfl (r_move hS rfl rfl) fun a22 hS22 => st_val hS22 rfl rfl rfl (r_assign hS22 rfl rfl) fun a23 hS23 => wpList_nil (hR _ (hS23.re ⟨rfl, trivial⟩))) ?_
            clear hS
            clear a
            intro a hS
            refine wp_ret ?_
            have e := Option.some.inj H
            subst e
            replace H := Fl.go_out Hl4
            have e := Option.some.inj H
            subst e
            repeat (with_reducible first | refine then_ret ?_ | refine inBlock_ret ?_)
            exact c_ret1 hS Try.results68 rfl ⟨_, rfl, g, rfl, hF⟩
          · replace H := ite_f hb21 H
            refine wp_skip ?_
            change Code.wp _ _ _ _ _
            refine c_pure1 [(0, .slice A0 p0.length cap0), (1, .bool p1), (7, .int .i64 (p0.length : Int)), (8, .int .i64 (wi (m0_0 + 1)))] (fun R hR => st_val hS rfl rfl rfl (r_bin hS rfl rfl rfl b_add) fun a24 hS24 => st_val hS24 rfl rfl rfl (r_move hS24 rfl rfl) fun a25 hS25 => wpList_nil (hR _ (hS25.re ⟨rfl, rfl, rfl, rfl, trivial⟩))) ?_
            clear hS
            clear a
            intro a hS
            refine ⟨k8, Nat.lt_succ_self _, ?_⟩
            exact ⟨wi (m0_0 + 1), H, rfl, hS.re ⟨rfl, rfl, rfl, rfl, trivial⟩⟩
        · replace H := ite_f hb10 H
          refine wp_exit ?_
          have e := Option.some.inj H
          exact ⟨e.symm, rfl, hS.re trivial⟩
  · clear H
    clear hS
    rintro a w' ⟨hpre0, hw, hS⟩
    subst hpre0
    subst hw
    have H := Fl.go_nxt Hl4
    clear Hl4
    refine c_pure [(4, .int .i64 (-1))] (fun R hR => st_val hS rfl rfl rfl (r_assign hS rfl rfl) fun a26 hS26 => wpList_nil (hR _ (hS26.re ⟨rfl, trivial⟩))) ?_
    clear hS
    clear a
    intro a hS
    refine wp_ret ?_
    have e := Option.some.inj H
    subst e
    repeat (with_reducible first | refine then_ret ?_ | refine inBlock_ret ?_)
    exact c_ret1 hS Try.results68 rfl ⟨_, rfl, g, rfl, hF⟩


end Go.Proofs.Ythmjgadmadlpkaa.Sim

namespace Go.Proofs.Ythmjgadmadlpkaa.Sim
open Go
set_option linter.unusedVariables false
set_option linter.unusedSimpArgs false

/-! ### resume_scheduler_ready: function 36 -/
def resume_scheduler_ready.l0 (p0 : resume_scheduler) : Nat → (List Bool) → Int → Option ((List Bool))
  | 0, _, _ => none
  | k26 + 1, m0_0, m0_1 => if decide (m0_1 < (p0.links.length : Int)) = true then (((idx p0.links m0_1).bind fun x33 => (idx p0.begun x33.Supplier).bind fun x51 => (if (!x51) = true then some true else (idx p0.slot x33.Supplier).bind fun x64 => some (decide (p0.now < x64.End))).bind fun t74 => if t74 = true then ((idx m0_0 x33.Consumer).bind fun x115 => some (upd m0_0 x33.Consumer true)) else (some m0_0) : Option ((List Bool))).bind fun v30 => resume_scheduler_ready.l0 p0 k26 v30 (wi (m0_1 + 1))) else (some m0_0)
def resume_scheduler_ready.f (p0 : resume_scheduler) : Option (Int) := (slices_Clone_bool_bool.f p0.begun).bind fun r6 => (resume_scheduler_ready.l0 p0 FUEL r6 0 : Option ((List Bool))).bind fun v16 => (slices_Index_bool_bool.f v16 false).bind fun r123 => some r123
set_option maxRecDepth 100000 in
set_option maxHeartbeats 4000000 in
theorem resume_scheduler_ready.calls {p0 : resume_scheduler} {c0 : Nat} {C_links_p0 : Nat → Prop} {b_p0 : Nat} {A_links_p0 : Option Addr} {cap_links_p0 : Nat} {A_slot_p0 : Option Addr} {cap_slot_p0 : Nat} {A_begun_p0 : Option Addr} {cap_begun_p0 : Nat} {A_free_p0 : Option Addr} {cap_free_p0 : Nat} {w : World} {g : Nat → Nat} {out : Int} (N : Nat) (hp0 : resume_scheduler_At w g c0 C_links_p0 b_p0 A_links_p0 cap_links_p0 A_slot_p0 cap_slot_p0 A_begun_p0 cap_begun_p0 A_free_p0 cap_free_p0 p0) (hc0 : c0 + 7 ≤ N) (hC_links_p0 : ∀ c, C_links_p0 c → c < N ∧ (c < c0 ∨ c0 + 7 ≤ c)) (H : resume_scheduler_ready.f p0 = some out) :
    Calls Try.prog 36 #[.pointer (some ⟨b_p0, 0, none⟩)] w (fun e w' => ∃ v, e = .returned v ∧ ∃ (g' : Nat → Nat), v = .int .i64 out ∧ Fr (fun q => N ≤ q) w g w' g') := by
  unfold resume_scheduler_ready.f at H
  refine calls_enter Try.func36 rfl Try.ntmps36 rfl (fun a hS => ?_)
  replace hS : Sl 52 a [(0, .pointer (some ⟨b_p0, 0, none⟩))] := hS
  have hF : Fr (fun q => N ≤ q) w g w g := Fr.refl _ _ _
  obtain ⟨hb0, hf0_links, hf0_slot, hf0_begun, hf0_free⟩ := hp0
  refine c_pure [(0, .pointer (some ⟨b_p0, 0, none⟩))] (fun R hR => st_val hS rfl rfl rfl (r_assign hS rfl rfl) fun a1 hS1 => wpList_nil (hR _ (hS1.re ⟨rfl, trivial⟩))) ?_
  clear hS
  clear a
  intro a hS
  obtain ⟨r6, hr7, H⟩ := bind_el H
  refine c_region (fun K hK => ?_)
  refine st_val hS rfl rfl rfl (r_move hS rfl rfl) fun a2 hS2 => st_val hS2 rfl rfl rfl (r_nil hS2 rfl rfl) fun a3 hS3 => st_val hS3 rfl rfl rfl (r_fieldB (off := 2) hS3 rfl rfl (by kernel_rfl)) fun a4 hS4 => st_val hS4 rfl rfl rfl (r_load1 (n := 1) hS4 rfl rfl (by kernel_rfl) (Bx.cell hb0 rfl)) fun a5 hS5 => ?_
  refine st_enter hS5 rfl rfl rfl (r_call hS5 rfl rfl (by kernel_rfl)) (slices_Clone_bool_bool.calls (C0 := (fun q => q = c0 + 3)) (p0 := p0.begun) (g := g) (N + 4) (N + 0) (OwD.rdf (fun _ _ _ _ _ _ h => h) hf0_begun) (fun q (hq : q = c0 + 3) => by omega) (by omega) hr7) ?_
  rintro _ a12 w13 ⟨g13, A8, cap9, rfl, h10, F13⟩ hS12
  replace hb0 := hb0.fr F13 (fun (hm : (N + 0 ≤ c0 ∧ c0 < N + 0 + 2) ∨ N + 4 ≤ c0) => by omega)
  replace hf0_begun := OwS.fr hf0_begun F13 (fun c' hc (hm : (N + 0 ≤ c' ∧ c' < N + 0 + 2) ∨ N + 4 ≤ c') => by omega)
  replace hf0_free := OwS.fr hf0_free F13 (fun c' hc (hm : (N + 0 ≤ c' ∧ c' < N + 0 + 2) ∨ N + 4 ≤ c') => by omega)
  replace hf0_links := RdS.fr hf0_links F13 (by decide) (fun q (hq : C_links_p0 q) (hm : (N + 0 ≤ q ∧ q < N + 0 + 2) ∨ N + 4 ≤ q) => by have := hC_links_p0 q hq; omega)
  replace hf0_slot := OwS.fr hf0_slot F13 (fun c' hc (hm : (N + 0 ≤ c' ∧ c' < N + 0 + 2) ∨ N + 4 ≤ c') => by omega)
  replace hF := hF.trans F13 (fun c' (hm : (N + 0 ≤ c' ∧ c' < N + 0 + 2) ∨ N + 4 ≤ c') => by show N ≤ c'; omega)
  refine st_val hS12 rfl rfl rfl (r_assign hS12 rfl rfl) fun a14 hS14 => wpList_nil (hK _ _ ?_)
  replace hS : Sl 52 _ [(0, .pointer (some ⟨b_p0, 0, none⟩)), (3, .slice A8 r6.length cap9)] := hS14.re ⟨rfl, rfl, trivial⟩
  clear hK K
  try clear hS2 hS3 hS4 hS5 hS12 hS14
  obtain ⟨a, ha⟩ : ∃ a', a' = a14 := ⟨_, rfl⟩
  rw [← ha] at hS ⊢; clear ha
  obtain ⟨v16, H, Hl18⟩ := bind_el H
  refine c_cut (fun a w15 => ∃ (g15 : Nat → Nat), Sl 52 a [(3, .slice A8 v16.length cap9)] ∧ OwS kbool 4 w15 g15 (N + 0) A8 cap9 v16 ∧ Bx w15 g15 (c0) b_p0 76 [.slice A_links_p0 p0.links.length cap_links_p0, .slice A_slot_p0 p0.slot.length cap_slot_p0, .slice A_begun_p0 p0.begun.length cap_begun_p0, .slice A_free_p0 p0.free.length cap_free_p0, .int .u64 p0.now] ∧ OwS kbool 4 w15 g15 (c0 + 3) A_begun_p0 cap_begun_p0 p0.begun ∧ OwS (kint .u64) 33 w15 g15 (c0 + 5) A_free_p0 cap_free_p0 p0.free ∧ RdS kd_api_Link w15 g15 C_links_p0 A_links_p0 cap_links_p0 p0.links ∧ OwS kd_api_Slot 38 w15 g15 (c0 + 1) A_slot_p0 cap_slot_p0 p0.slot ∧ Fr (fun q => N ≤ q) w g w15 g15) ?_ ?_
  · refine c_pure [(0, .pointer (some ⟨b_p0, 0, none⟩)), (3, .slice A8 r6.length cap9), (14, .slice A_links_p0 p0.links.length cap_links_p0), (15, .int .i64 (p0.links.length : Int)), (16, .int .i64 0)] (fun R hR => st_val hS rfl rfl rfl (r_move hS rfl rfl) fun a19 hS19 => st_val hS19 rfl rfl rfl (r_nil hS19 rfl rfl) fun a20 hS20 => st_val hS20 rfl rfl rfl (r_fieldB (off := 0) hS20 rfl rfl (by kernel_rfl)) fun a21 hS21 => st_val hS21 rfl rfl rfl (r_load1 (n := 1) hS21 rfl rfl (by kernel_rfl) (Bx.cell hb0 rfl)) fun a22 hS22 => st_val hS22 rfl rfl rfl (r_len (e := 43) (sz := 2) (by_ := 16) hS22 rfl rfl (by kernel_rfl)) fun a23 hS23 => st_val hS23 rfl rfl rfl (r_move hS23 rfl rfl) fun a24 hS24 => wpList_nil (hR _ (hS24.re ⟨rfl, rfl, rfl, rfl, rfl, trivial⟩))) ?_
    clear hS
    clear a
    intro a hS
    refine wp_block ?_
    refine wp_loop_ghost (fun kq => fun a w25 => ∃ (m0_0 : List Bool), ∃ (m0_1 : Int), ∃ (g25 : Nat → Nat), resume_scheduler_ready.l0 p0 kq m0_0 m0_1 = some v16 ∧ Sl 52 a [(0, .pointer (some ⟨b_p0, 0, none⟩)), (3, .slice A8 m0_0.length cap9), (14, .slice A_links_p0 p0.links.length cap_links_p0), (15, .int .i64 (p0.links.length : Int)), (16, .int .i64 m0_1)] ∧ OwS kbool 4 w25 g25 (N + 0) A8 cap9 m0_0 ∧ Bx w25 g25 (c0) b_p0 76 [.slice A_links_p0 p0.links.length cap_links_p0, .slice A_slot_p0 p0.slot.length cap_slot_p0, .slice A_begun_p0 p0.begun.length cap_begun_p0, .slice A_free_p0 p0.free.length cap_free_p0, .int .u64 p0.now] ∧ OwS kbool 4 w25 g25 (c0 + 3) A_begun_p0 cap_begun_p0 p0.begun ∧ OwS (kint .u64) 33 w25 g25 (c0 + 5) A_free_p0 cap_free_p0 p0.free ∧ RdS kd_api_Link w25 g25 C_links_p0 A_links_p0 cap_links_p0 p0.links ∧ OwS kd_api_Slot 38 w25 g25 (c0 + 1) A_slot_p0 cap_slot_p0 p0.slot ∧ Fr (fun q => N ≤ q) w g w25 g25) FUEL ?_ ?_
    · exact ⟨r6, 0, g13, H, hS.re ⟨rfl, rfl, rfl, rfl, rfl, trivial⟩, h10, hb0, hf0_begun, hf0_free, hf0_links, hf0_slot, hF⟩
    · clear H
      clear hf0_links hf0_slot hf0_begun hf0_free hb0 h10 hF
      clear hS
      rintro k26 a w25 ⟨m0_0, m0_1, g25, hpre0, hS, h10, hb0, hf0_begun, hf0_free, hf0_links, hf0_slot, hF⟩
      have H := hpre0
      clear hpre0
      cases k26 with
      | zero => exact absurd H (by simp [resume_scheduler_ready.l0])
      | succ k26 =>
        rw [resume_scheduler_ready.l0] at H
        refine c_pure [(0, .pointer (some ⟨b_p0, 0, none⟩)), (3, .slice A8 m0_0.length cap9), (14, .slice A_links_p0 p0.links.length cap_links_p0), (15, .int .i64 (p0.links.length : Int)), (16, .int .i64 m0_1), (17, .bool (decide (m0_1 < (p0.links.length : Int))))] (fun R hR => st_val hS rfl rfl rfl (r_bin hS rfl rfl rfl b_lss) fun a27 hS27 => wpList_nil (hR _ (hS27.re ⟨rfl, rfl, rfl, rfl, rfl, rfl, trivial⟩))) ?_
        clear hS
        clear a
        intro a hS
        refine c_if hS rfl (fun hb28 => ?_) (fun hb28 => ?_)
        · replace H := ite_t hb28 H
          refine wp_skip ?_
          change Code.wp _ _ _ _ _
          obtain ⟨v30, H, Hl32⟩ := bind_el H
          refine c_cut (fun a w29 => ∃ (g29 : Nat → Nat), Sl 52 a [(0, .pointer (some ⟨b_p0, 0, none⟩)), (3, .slice A8 v30.length cap9), (14, .slice A_links_p0 p0.links.length cap_links_p0), (15, .int .i64 (p0.links.length : Int)), (16, .int .i64 m0_1)] ∧ OwS kbool 4 w29 g29 (N + 0) A8 cap9 v30 ∧ Bx w29 g29 (c0) b_p0 76 [.slice A_links_p0 p0.links.length cap_links_p0, .slice A_slot_p0 p0.slot.length cap_slot_p0, .slice A_begun_p0 p0.begun.length cap_begun_p0, .slice A_free_p0 p0.free.length cap_free_p0, .int .u64 p0.now] ∧ OwS kbool 4 w29 g29 (c0 + 3) A_begun_p0 cap_begun_p0 p0.begun ∧ OwS (kint .u64) 33 w29 g29 (c0 + 5) A_free_p0 cap_free_p0 p0.free ∧ RdS kd_api_Link w29 g29 C_links_p0 A_links_p0 cap_links_p0 p0.links ∧ OwS kd_api_Slot 38 w29 g29 (c0 + 1) A_slot_p0 cap_slot_p0 p0.slot ∧ Fr (fun q => N ≤ q) w g w29 g29) ?_ ?_
          · refine wp_block ?_
            obtain ⟨x33, hx34, H⟩ := bind_el H
            refine c_region (fun K hK => ?_)
            refine st_val hS rfl rfl rfl (r_index (e := 43) (sz := 2) (by_ := 16) hS rfl rfl rfl (by kernel_rfl) (RdS.some_ hf0_links hx34) (idx_lo hx34) (idx_hi hx34)) fun a35 hS35 => st_val hS35 rfl rfl rfl (r_loadN (n := 2) (cs := [.int .i64 x33.Consumer, .int .i64 x33.Supplier]) hS35 rfl rfl (by kernel_rfl) rfl (RdS.cells_off hf0_links hx34 0 2)) fun a36 hS36 => ?_
            refine st_eff hS36 rfl rfl rfl (e_alloc (cs := [.int .i64 0, .int .i64 0]) (N + 2) g25 hS36 rfl (by kernel_rfl)) ?_
            rintro _ a40 w41 g41 ⟨⟨b37, rfl, h38⟩, F41⟩ hS40
            replace h10 := OwS.fr h10 F41 (fun _ _ h => h)
            replace hb0 := hb0.fr F41 (fun h => h)
            replace hf0_begun := OwS.fr hf0_begun F41 (fun _ _ h => h)
            replace hf0_free := OwS.fr hf0_free F41 (fun _ _ h => h)
            replace hf0_links := RdS.fr hf0_links F41 (by decide) (fun _ _ h => h)
            replace hf0_slot := OwS.fr hf0_slot F41 (fun _ _ h => h)
            replace hF := hF.trans F41 (fun _ h => h.elim)
            refine st_effS hS40 rfl rfl (e_storeB (n := 2) (bb := true) (cs' := [.int .i64 x33.Consumer, .int .i64 x33.Supplier]) g41 hS40 rfl rfl rfl (by kernel_rfl) rfl rfl rfl h38 rfl rfl) ?_
            rintro a42 w43 g43 ⟨h38, F43⟩ hS42
            replace h10 := OwS.fr h10 F43 (fun c' hc (hm : c' = N + 2) => by omega)
            replace hb0 := hb0.fr F43 (fun (hm : c0 = N + 2) => by omega)
            replace hf0_begun := OwS.fr hf0_begun F43 (fun c' hc (hm : c' = N + 2) => by omega)
            replace hf0_free := OwS.fr hf0_free F43 (fun c' hc (hm : c' = N + 2) => by omega)
            replace hf0_links := RdS.fr hf0_links F43 (by decide) (fun q (hq : C_links_p0 q) (hm : q = N + 2) => by have := hC_links_p0 q hq; omega)
            replace hf0_slot := OwS.fr hf0_slot F43 (fun c' hc (hm : c' = N + 2) => by omega)
            replace hF := hF.trans F43 (fun c' (hm : c' = N + 2) => by show N ≤ c'; omega)
            refine wpList_nil (hK _ _ ?_)
            replace hS : Sl 52 _ [(0, .pointer (some ⟨b_p0, 0, none⟩)), (3, .slice A8 m0_0.length cap9), (5, .pointer (some ⟨b37, 0, none⟩)), (14, .slice A_links_p0 p0.links.length cap_links_p0), (15, .int .i64 (p0.links.length : Int)), (16, .int .i64 m0_1)] := hS42.re ⟨rfl, rfl, rfl, rfl, rfl, rfl, trivial⟩
            clear hK K
            try clear hS35 hS36 hS40 hS42
            obtain ⟨a, ha⟩ : ∃ a', a' = a42 := ⟨_, rfl⟩
            rw [← ha] at hS ⊢; clear ha
            obtain ⟨x51, hx52, H⟩ := bind_el H
            obtain ⟨t74, ht75, H⟩ := bind_el H
            refine c_draw (fun K hK => d_start (fun q => False) g43 [] 25 #[false, false, false, false, false, false, false, false, false, false, false, false, false, false, false, false, false, false, false, false, false, false, false, false, false] (by kernel_rfl) rfl rfl (fun w44 hw44 => ?_))
            have F44 : Fr (fun _ => False) w43 g43 w44 g43 := by rw [hw44]; exact Fr.drew _ _ _
            replace h10 := OwS.fr h10 F44 (fun _ _ h => h)
            replace h38 := h38.fr F44 (fun h => h)
            replace hb0 := hb0.fr F44 (fun h => h)
            replace hf0_begun := OwS.fr hf0_begun F44 (fun _ _ h => h)
            replace hf0_free := OwS.fr hf0_free F44 (fun _ _ h => h)
            replace hf0_links := RdS.fr hf0_links F44 (by decide) (fun _ _ h => h)
            replace hf0_slot := OwS.fr hf0_slot F44 (fun _ _ h => h)
            replace hF := hF.trans F44 (fun _ h => h.elim)
            have hC : Fr (fun q => False) w44 g43 w44 g43 := Fr.refl _ _ _
            refine d_pure hS 0 #[true, false, false, false, false, false, false, false, false, false, false, false, false, false, false, false, false, false, false, false, false, false, false, false, false] rfl rfl rfl rfl (by kernel_rfl) (fun _ _ _ h => h) (fun _ => (r_move hS rfl rfl)) fun a45 hS45 => d_pure hS45 1 #[true, true, false, false, false, false, false, false, false, false, false, false, false, false, false, false, false, false, false, false, false, false, false, false, false] rfl rfl rfl rfl (by kernel_rfl) (fun _ _ _ h => h) (fun _ => (r_nil hS45 rfl rfl)) fun a46 hS46 => d_pure hS46 2 #[true, true, true, false, false, false, false, false, false, false, false, false, false, false, false, false, false, false, false, false, false, false, false, false, false] rfl rfl rfl rfl (by kernel_rfl) (fun _ _ _ h => h) (fun _ => (r_fieldB (off := 2) hS46 rfl rfl (by kernel_rfl))) fun a47 hS47 => d_take hS47 3 #[true, true, true, true, false, false, false, false, false, false, false, false, false, false, false, false, false, false, false, false, false, false, false, false, false] rfl rfl rfl rfl (by kernel_rfl) (fun _ _ _ h => h) ⟨_, hC⟩ (fun w' g' Fz => (r_load1 (n := 1) hS47 rfl rfl (by kernel_rfl) (Bx.cell (hb0.fr Fz (fun h => h)) rfl))) fun a48 hS48 => d_pure hS48 4 #[true, true, true, true, true, false, false, false, false, false, false, false, false, false, false, false, false, false, false, false, false, false, false, false, false] rfl rfl rfl rfl (by kernel_rfl) (fun _ _ _ h => h) (fun _ => (r_fieldB (off := 1) hS48 rfl rfl (by kernel_rfl))) fun a49 hS49 => d_take hS49 5 #[true, true, true, true, true, true, false, false, false, false, false, false, false, false, false, false, false, false, false, false, false, false, false, false, false] rfl rfl rfl rfl (by kernel_rfl) (fun _ _ _ h => h) ⟨_, hC⟩ (fun w' g' Fz => (r_load1 (n := 1) hS49 rfl rfl (by kernel_rfl) (Bx.cell (h38.fr Fz (fun h => h)) rfl))) fun a50 hS50 => d_pure hS50 6 #[true, true, true, true, true, true, true, false, false, false, false, false, false, false, false, false, false, false, false, false, false, false, false, false, false] rfl rfl rfl rfl (by kernel_rfl) (fun _ _ _ h => h) (fun _ => (r_index (e := 4) (sz := 1) (by_ := 1) hS50 rfl rfl rfl (by kernel_rfl) (RdS.some_ (OwS.rd hf0_begun) hx52) (idx_lo hx52) (idx_hi hx52))) fun a53 hS53 => d_take hS53 7 #[true, true, true, true, true, true, true, true, false, false, false, false, false, false, false, false, false, false, false, false, false, false, false, false, false] rfl rfl rfl rfl (by kernel_rfl) (fun _ _ _ h => h) ⟨_, hC⟩ (fun w' g' Fz => (r_load1 (n := 1) hS53 rfl rfl (by kernel_rfl) (RdS.cell (i := x33.Supplier) (sz := 1) (j := 0) (OwS.rd (OwS.fr hf0_begun Fz (fun _ _ h => h))) hx52 rfl))) fun a54 hS54 => d_pure hS54 8 #[true, true, true, true, true, true, true, true, true, false, false, false, false, false, false, false, false, false, false, false, false, false, false, false, false] rfl rfl rfl rfl (by kernel_rfl) (fun _ _ _ h => h) (fun _ => (r_not hS54 rfl rfl)) fun a55 hS55 => d_pure hS55 9 #[true, true, true, true, true, true, true, true, true, true, false, false, false, false, false, false, false, false, false, false, false, false, false, false, false] rfl rfl rfl rfl (by kernel_rfl) (fun _ _ _ h => h) (fun _ => (r_move hS55 rfl rfl)) fun a56 hS56 => ?_
            refine d_join (N := 52) 0 #[true, true, true, true, true, true, true, true, true, true, true, true, true, true, true, true, true, true, true, true, true, true, true, true, true] [(0, .pointer (some ⟨b_p0, 0, none⟩)), (3, .slice A8 m0_0.length cap9), (5, .pointer (some ⟨b37, 0, none⟩)), (14, .slice A_links_p0 p0.links.length cap_links_p0), (15, .int .i64 (p0.links.length : Int)), (16, .int .i64 m0_1), (44, .bool t74)] ?_ (fun hk => ?_)
            rotate_left
            · rcases Bool.eq_false_or_eq_true ((!x51)) with hb57 | hb57
              · have H := ite_t hb57 ht75
                have e76 := Option.some.inj H
                refine d_off hS56 10 #[true, true, true, true, true, true, true, true, true, true, true, false, false, false, false, false, false, false, false, false, false, false, false, false, false] rfl (want_off hS56 rfl rfl rfl hb57) rfl rfl (by kernel_rfl) (fun _ _ _ h => h) fun a77 hS77 => d_off hS77 11 #[true, true, true, true, true, true, true, true, true, true, true, true, false, false, false, false, false, false, false, false, false, false, false, false, false] rfl (want_off hS77 rfl rfl rfl hb57) rfl rfl (by kernel_rfl) (fun _ _ _ h => h) fun a78 hS78 => d_off hS78 12 #[true, true, true, true, true, true, true, true, true, true, true, true, true, false, false, false, false, false, false, false, false, false, false, false, false] rfl (want_off hS78 rfl rfl rfl hb57) rfl rfl (by kernel_rfl) (fun _ _ _ h => h) fun a79 hS79 => d_off hS79 13 #[true, true, true, true, true, true, true, true, true, true, true, true, true, true, false, false, false, false, false, false, false, false, false, false, false] rfl (want_off hS79 rfl rfl rfl hb57) rfl rfl (by kernel_rfl) (fun _ _ _ h => h) fun a80 hS80 => d_off hS80 14 #[true, true, true, true, true, true, true, true, true, true, true, true, true, true, true, false, false, false, false, false, false, false, false, false, false] rfl (want_off hS80 rfl rfl rfl hb57) rfl rfl (by kernel_rfl) (fun _ _ _ h => h) fun a81 hS81 => d_off hS81 15 #[true, true, true, true, true, true, true, true, true, true, true, true, true, true, true, true, false, false, false, false, false, false, false, false, false] rfl (want_off hS81 rfl rfl rfl hb57) rfl rfl (by kernel_rfl) (fun _ _ _ h => h) fun a82 hS82 => d_off hS82 16 #[true, true, true, true, true, true, true, true, true, true, true, true, true, true, true, true, true, false, false, false, false, false, false, false, false] rfl (want_off hS82 rfl rfl rfl hb57) rfl rfl (by kernel_rfl) (fun _ _ _ h => h) fun a83 hS83 => d_off hS83 17 #[true, true, true, true, true, true, true, true, true, true, true, true, true, true, true, true, true, true, false, false, false, false, false, false, false] rfl (want_off hS83 rfl rfl rfl hb57) rfl rfl (by kernel_rfl) (fun _ _ _ h => h) fun a84 hS84 => d_off hS84 18 #[true, true, true, true, true, true, true, true, true, true, true, true, true, true, true, true, true, true, true, false, false, false, false, false, false] rfl (want_off hS84 rfl rfl rfl hb57) rfl rfl (by kernel_rfl) (fun _ _ _ h => h) fun a85 hS85 => d_off hS85 19 #[true, true, true, true, true, true, true, true, true, true, true, true, true, true, true, true, true, true, true, true, false, false, false, false, false] rfl (want_off hS85 rfl rfl rfl hb57) rfl rfl (by kernel_rfl) (fun _ _ _ h => h) fun a86 hS86 => d_off hS86 20 #[true, true, true, true, true, true, true, true, true, true, true, true, true, true, true, true, true, true, true, true, true, false, false, false, false] rfl (want_off hS86 rfl rfl rfl hb57) rfl rfl (by kernel_rfl) (fun _ _ _ h => h) fun a87 hS87 => d_off hS87 21 #[true, true, true, true, true, true, true, true, true, true, true, true, true, true, true, true, true, true, true, true, true, true, false, false, false] rfl (want_off hS87 rfl rfl rfl hb57) rfl rfl (by kernel_rfl) (fun _ _ _ h => h) fun a88 hS88 => d_off hS88 22 #[true, true, true, true, true, true, true, true, true, true, true, true, true, true, true, true, true, true, true, true, true, true, true, false, false] rfl (want_off hS88 rfl rfl rfl hb57) rfl rfl (by kernel_rfl) (fun _ _ _ h => h) fun a89 hS89 => d_off hS89 23 #[true, true, true, true, true, true, true, true, true, true, true, true, true, true, true, true, true, true, true, true, true, true, true, true, false] rfl (want_off hS89 rfl rfl rfl hb57) rfl rfl (by kernel_rfl) (fun _ _ _ h => h) fun a90 hS90 => d_pure hS90 24 #[true, true, true, true, true, true, true, true, true, true, true, true, true, true, true, true, true, true, true, true, true, true, true, true, true] rfl rfl rfl rfl (by kernel_rfl) (fun _ _ _ h => h) (fun _ => (r_pickT hS90 rfl rfl rfl hb57)) fun a91 hS91 => hk _ (hS91.re ⟨rfl, rfl, rfl, rfl, rfl, rfl, (by rw [← e76]; rfl), trivial⟩)
              · have H := ite_f hb57 ht75
                obtain ⟨x98, hx99, H⟩ := bind_el H
                have e108 := Option.some.inj H
                refine d_pureW hS56 10 #[true, true, true, true, true, true, true, true, true, true, true, false, false, false, false, false, false, false, false, false, false, false, false, false, false] rfl (want_on hS56 rfl rfl rfl hb57) rfl rfl (by kernel_rfl) (fun _ _ _ h => h) (fun _ => (r_move hS56 rfl rfl)) fun a92 hS92 => d_pureW hS92 11 #[true, true, true, true, true, true, true, true, true, true, true, true, false, false, false, false, false, false, false, false, false, false, false, false, false] rfl (want_on hS92 rfl rfl rfl hb57) rfl rfl (by kernel_rfl) (fun _ _ _ h => h) (fun _ => (r_nil hS92 rfl rfl)) fun a93 hS93 => d_pureW hS93 12 #[true, true, true, true, true, true, true, true, true, true, true, true, true, false, false, false, false, false, false, false, false, false, false, false, false] rfl (want_on hS93 rfl rfl rfl hb57) rfl rfl (by kernel_rfl) (fun _ _ _ h => h) (fun _ => (r_fieldB (off := 1) hS93 rfl rfl (by kernel_rfl))) fun a94 hS94 => d_takeW hS94 13 #[true, true, true, true, true, true, true, true, true, true, true, true, true, true, false, false, false, false, false, false, false, false, false, false, false] rfl (want_on hS94 rfl rfl rfl hb57) rfl rfl (by kernel_rfl) (fun _ _ _ h => h) ⟨_, hC⟩ (fun w' g' Fz => (r_load1 (n := 1) hS94 rfl rfl (by kernel_rfl) (Bx.cell (hb0.fr Fz (fun h => h)) rfl))) fun a95 hS95 => d_pureW hS95 14 #[true, true, true, true, true, true, true, true, true, true, true, true, true, true, true, false, false, false, false, false, false, false, false, false, false] rfl (want_on hS95 rfl rfl rfl hb57) rfl rfl (by kernel_rfl) (fun _ _ _ h => h) (fun _ => (r_fieldB (off := 1) hS95 rfl rfl (by kernel_rfl))) fun a96 hS96 => d_takeW hS96 15 #[true, true, true, true, true, true, true, true, true, true, true, true, true, true, true, true, false, false, false, false, false, false, false, false, false] rfl (want_on hS96 rfl rfl rfl hb57) rfl rfl (by kernel_rfl) (fun _ _ _ h => h) ⟨_, hC⟩ (fun w' g' Fz => (r_load1 (n := 1) hS96 rfl rfl (by kernel_rfl) (Bx.cell (h38.fr Fz (fun h => h)) rfl))) fun a97 hS97 => d_pureW hS97 16 #[true, true, true, true, true, true, true, true, true, true, true, true, true, true, true, true, true, false, false, false, false, false, false, false, false] rfl (want_on hS97 rfl rfl rfl hb57) rfl rfl (by kernel_rfl) (fun _ _ _ h => h) (fun _ => (r_index (e := 38) (sz := 4) (by_ := 32) hS97 rfl rfl rfl (by kernel_rfl) (RdS.some_ (OwS.rd hf0_slot) hx99) (idx_lo hx99) (idx_hi hx99))) fun a100 hS100 => d_pureW hS100 17 #[true, true, true, true, true, true, true, true, true, true, true, true, true, true, true, true, true, true, false, false, false, false, false, false, false] rfl (want_on hS100 rfl rfl rfl hb57) rfl rfl (by kernel_rfl) (fun _ _ _ h => h) (fun _ => (r_fieldE (off := 3) hS100 rfl rfl (by kernel_rfl))) fun a101 hS101 => d_takeW hS101 18 #[true, true, true, true, true, true, true, true, true, true, true, true, true, true, true, true, true, true, true, false, false, false, false, false, false] rfl (want_on hS101 rfl rfl rfl hb57) rfl rfl (by kernel_rfl) (fun _ _ _ h => h) ⟨_, hC⟩ (fun w' g' Fz => (r_load1 (n := 1) hS101 rfl rfl (by kernel_rfl) (RdS.cell (i := x33.Supplier) (sz := 4) (j := 3) (OwS.rd (OwS.fr hf0_slot Fz (fun _ _ h => h))) hx99 rfl))) fun a102 hS102 => d_pureW hS102 19 #[true, true, true, true, true, true, true, true, true, true, true, true, true, true, true, true, true, true, true, true, false, false, false, false, false] rfl (want_on hS102 rfl rfl rfl hb57) rfl rfl (by kernel_rfl) (fun _ _ _ h => h) (fun _ => (r_move hS102 rfl rfl)) fun a103 hS103 => d_pureW hS103 20 #[true, true, true, true, true, true, true, true, true, true, true, true, true, true, true, true, true, true, true, true, true, false, false, false, false] rfl (want_on hS103 rfl rfl rfl hb57) rfl rfl (by kernel_rfl) (fun _ _ _ h => h) (fun _ => (r_nil hS103 rfl rfl)) fun a104 hS104 => d_pureW hS104 21 #[true, true, true, true, true, true, true, true, true, true, true, true, true, true, true, true, true, true, true, true, true, true, false, false, false] rfl (want_on hS104 rfl rfl rfl hb57) rfl rfl (by kernel_rfl) (fun _ _ _ h => h) (fun _ => (r_fieldB (off := 4) hS104 rfl rfl (by kernel_rfl))) fun a105 hS105 => d_takeW hS105 22 #[true, true, true, true, true, true, true, true, true, true, true, true, true, true, true, true, true, true, true, true, true, true, true, false, false] rfl (want_on hS105 rfl rfl rfl hb57) rfl rfl (by kernel_rfl) (fun _ _ _ h => h) ⟨_, hC⟩ (fun w' g' Fz => (r_load1 (n := 1) hS105 rfl rfl (by kernel_rfl) (Bx.cell (hb0.fr Fz (fun h => h)) rfl))) fun a106 hS106 => d_pureW hS106 23 #[true, true, true, true, true, true, true, true, true, true, true, true, true, true, true, true, true, true, true, true, true, true, true, true, false] rfl (want_on hS106 rfl rfl rfl hb57) rfl rfl (by kernel_rfl) (fun _ _ _ h => h) (fun _ => (r_bin hS106 rfl rfl rfl b_gtr)) fun a107 hS107 => d_pure hS107 24 #[true, true, true, true, true, true, true, true, true, true, true, true, true, true, true, true, true, true, true, true, true, true, true, true, true] rfl rfl rfl rfl (by kernel_rfl) (fun _ _ _ h => h) (fun _ => (r_pickF hS107 rfl rfl rfl hb57)) fun a109 hS109 => hk _ (hS109.re ⟨rfl, rfl, rfl, rfl, rfl, rfl, (by rw [← e108]; rfl), trivial⟩)
            intro a110 hS110
            refine d_done (by kernel_rfl) (hK _ _ ?_)
            replace hS : Sl 52 _ [(0, .pointer (some ⟨b_p0, 0, none⟩)), (3, .slice A8 m0_0.length cap9), (5, .pointer (some ⟨b37, 0, none⟩)), (14, .slice A_links_p0 p0.links.length cap_links_p0), (15, .int .i64 (p0.links.length : Int)), (16, .int .i64 m0_1), (44, .bool t74)] := hS110.re ⟨rfl, rfl, rfl, rfl, rfl, rfl, rfl, trivial⟩
            clear hK K hC
            try clear hS45 hS46 hS47 hS48 hS49 hS50 hS53 hS54 hS55 hS56 hS110
            obtain ⟨a, ha⟩ : ∃ a', a' = a110 := ⟨_, rfl⟩
            rw [← ha] at hS ⊢; clear ha
            refine c_cond hS rfl (fun hb111 => ?_) (fun hb111 => ?_)
            · replace H := ite_t hb111 H
              obtain ⟨x115, hx116, H⟩ := bind_el H
              refine c_region1 (fun K hK => ?_)
              refine st_val hS rfl rfl rfl (r_move hS rfl rfl) fun a112 hS112 => st_val hS112 rfl rfl rfl (r_fieldB (off := 0) hS112 rfl rfl (by kernel_rfl)) fun a113 hS113 => st_val hS113 rfl rfl rfl (r_load1 (n := 1) hS113 rfl rfl (by kernel_rfl) (Bx.cell h38 rfl)) fun a114 hS114 => st_val hS114 rfl rfl rfl (r_index (e := 4) (sz := 1) (by_ := 1) hS114 rfl rfl rfl (by kernel_rfl) (RdS.some_ (OwS.rd h10) hx116) (idx_lo hx116) (idx_hi hx116)) fun a117 hS117 => ?_
              refine st_effS hS117 rfl rfl (e_storeE (n := 1) (bb := false) (kd := kbool) (j := 0) (x' := true) (us := [.bool true]) g43 hS117 rfl rfl rfl rfl (by kernel_rfl) rfl rfl (by intro v hv; simp only [List.mem_cons, List.not_mem_nil, or_false] at hv; rcases hv with rfl <;> rfl) h10 hx116 rfl (fun _ _ cs hR => by rw [show cs = _ from hR]; rfl)) ?_
              rintro a118 w119 g119 ⟨h10, F119⟩ hS118
              replace h38 := h38.fr F119 (fun (hm : N + 2 = N + 0) => by omega)
              replace hb0 := hb0.fr F119 (fun (hm : c0 = N + 0) => by omega)
              replace hf0_begun := OwS.fr hf0_begun F119 (fun c' hc (hm : c' = N + 0) => by omega)
              replace hf0_free := OwS.fr hf0_free F119 (fun c' hc (hm : c' = N + 0) => by omega)
              replace hf0_links := RdS.fr hf0_links F119 (by decide) (fun q (hq : C_links_p0 q) (hm : q = N + 0) => by have := hC_links_p0 q hq; omega)
              replace hf0_slot := OwS.fr hf0_slot F119 (fun c' hc (hm : c' = N + 0) => by omega)
              replace hF := hF.trans F119 (fun c' (hm : c' = N + 0) => by show N ≤ c'; omega)
              have hT : Sl 52 a118 [(0, .pointer (some ⟨b_p0, 0, none⟩)), (3, .slice A8 m0_0.length cap9), (14, .slice A_links_p0 p0.links.length cap_links_p0), (15, .int .i64 (p0.links.length : Int)), (16, .int .i64 m0_1)] := hS118.re ⟨rfl, rfl, rfl, rfl, rfl, trivial⟩
              replace hS118 : Sl 52 a118 [(0, .pointer (some ⟨b_p0, 0, none⟩)), (3, .slice A8 (upd m0_0 x33.Consumer true).length cap9), (14, .slice A_links_p0 p0.links.length cap_links_p0), (15, .int .i64 (p0.links.length : Int)), (16, .int .i64 m0_1)] := by simpa only [upd_length] using hT
              clear hT
              refine wpList_nil (hK _ _ ?_)
              replace hS : Sl 52 _ [(0, .pointer (some ⟨b_p0, 0, none⟩)), (3, .slice A8 (upd m0_0 x33.Consumer true).length cap9), (14, .slice A_links_p0 p0.links.length cap_links_p0), (15, .int .i64 (p0.links.length : Int)), (16, .int .i64 m0_1)] := hS118.re ⟨rfl, rfl, rfl, rfl, rfl, trivial⟩
              clear hK K
              try clear hS112 hS113 hS114 hS117 hS118
              obtain ⟨a, ha⟩ : ∃ a', a' = a118 := ⟨_, rfl⟩
              rw [← ha] at hS ⊢; clear ha
              have e := Option.some.inj H
              subst e
              exact ⟨g119, hS.re ⟨rfl, rfl, rfl, rfl, rfl, trivial⟩, h10, hb0, hf0_begun, hf0_free, hf0_links, hf0_slot, hF⟩
            · replace H := ite_f hb111 H
              refine wp_skip ?_
              have e := Option.some.inj H
              subst e
              exact ⟨g43, hS.re ⟨rfl, rfl, rfl, rfl, rfl, trivial⟩, h10, hb0, hf0_begun, hf0_free, hf0_links, hf0_slot, hF⟩
          · clear H
            clear hf0_links hf0_slot hf0_begun hf0_free hb0 h10 hF
            clear hS
            rintro a w29 ⟨g29, hS, h10, hb0, hf0_begun, hf0_free, hf0_links, hf0_slot, hF⟩
            have H := Hl32
            clear Hl32
            refine c_pure1 [(0, .pointer (some ⟨b_p0, 0, none⟩)), (3, .slice A8 v30.length cap9), (14, .slice A_links_p0 p0.links.length cap_links_p0), (15, .int .i64 (p0.links.length : Int)), (16, .int .i64 (wi (m0_1 + 1)))] (fun R hR => st_val hS rfl rfl rfl (r_bin hS rfl rfl rfl b_add) fun a120 hS120 => st_val hS120 rfl rfl rfl (r_move hS120 rfl rfl) fun a121 hS121 => wpList_nil (hR _ (hS121.re ⟨rfl, rfl, rfl, rfl, rfl, trivial⟩))) ?_
            clear hS
            clear a
            intro a hS
            refine ⟨k26, Nat.lt_succ_self _, ?_⟩
            exact ⟨v30, wi (m0_1 + 1), g29, H, hS.re ⟨rfl, rfl, rfl, rfl, rfl, trivial⟩, h10, hb0, hf0_begun, hf0_free, hf0_links, hf0_slot, hF⟩
        · replace H := ite_f hb28 H
          refine wp_exit ?_
          have e := Option.some.inj H
          subst e
          exact ⟨g25, hS.re ⟨rfl, trivial⟩, h10, hb0, hf0_begun, hf0_free, hf0_links, hf0_slot, hF⟩
  · clear H
    clear hf0_links hf0_slot hf0_begun hf0_free hb0 h10 hF
    clear hS
    rintro a w15 ⟨g15, hS, h10, hb0, hf0_begun, hf0_free, hf0_links, hf0_slot, hF⟩
    have H := Hl18
    clear Hl18
    obtain ⟨r123, hr124, H⟩ := bind_el H
    refine c_region (fun K hK => ?_)
    refine st_val hS rfl rfl rfl (r_move hS rfl rfl) fun a122 hS122 => ?_
    refine st_enter hS122 rfl rfl rfl (r_call hS122 rfl rfl (by kernel_rfl)) (slices_Index_bool_bool.calls (C0 := (fun q => q = N + 0)) (p0 := v16) (p1 := false) (g := g15) (N + 4)  (OwD.rdf (fun _ _ _ _ _ _ h => h) h10) (fun q (hq : q = N + 0) => by omega) hr124) ?_
    rintro _ a125 w126 ⟨g126, rfl, F126⟩ hS125
    replace h10 := OwS.fr h10 F126 (fun c' hc (hm : N + 4 ≤ c') => by omega)
    replace hb0 := hb0.fr F126 (fun (hm : N + 4 ≤ c0) => by omega)
    replace hf0_begun := OwS.fr hf0_begun F126 (fun c' hc (hm : N + 4 ≤ c') => by omega)
    replace hf0_free := OwS.fr hf0_free F126 (fun c' hc (hm : N + 4 ≤ c') => by omega)
    replace hf0_links := RdS.fr hf0_links F126 (by decide) (fun q (hq : C_links_p0 q) (hm : N + 4 ≤ q) => by have := hC_links_p0 q hq; omega)
    replace hf0_slot := OwS.fr hf0_slot F126 (fun c' hc (hm : N + 4 ≤ c') => by omega)
    replace hF := hF.trans F126 (fun c' (hm : N + 4 ≤ c') => by show N ≤ c'; omega)
    refine st_val hS125 rfl rfl rfl (r_assign hS125 rfl rfl) fun a127 hS127 => wpList_nil (hK _ _ ?_)
    replace hS : Sl 52 _ [(2, .int .i64 r123)] := hS127.re ⟨rfl, trivial⟩
    clear hK K
    try clear hS122 hS125 hS127
    obtain ⟨a, ha⟩ : ∃ a', a' = a127 := ⟨_, rfl⟩
    rw [← ha] at hS ⊢; clear ha
    refine wp_ret ?_
    have e := Option.some.inj H
    subst e
    repeat (with_reducible first | refine then_ret ?_ | refine inBlock_ret ?_)
    exact c_ret1 hS Try.results36 rfl ⟨_, rfl, g126, rfl, hF⟩


end Go.Proofs.Ythmjgadmadlpkaa.Sim

namespace Go.Proofs.Ythmjgadmadlpkaa.Sim
open Go
set_option linter.unusedVariables false
set_option linter.unusedSimpArgs false

/-! ### resume_scheduler_worker_1: function 70 -/
def resume_scheduler_worker_1.f (p0 : Int) (p2 : resume_scheduler) : Option (Bool) := some (decide (p0 ≤ p2.now))
set_option maxRecDepth 100000 in
set_option maxHeartbeats 4000000 in
theorem resume_scheduler_worker_1.calls {p0 : Int} {cb1 : Nat} {bb1 : Nat} {p2 : resume_scheduler} {c2 : Nat} {C_links_p2 : Nat → Prop} {b_p2 : Nat} {A_links_p2 : Option Addr} {cap_links_p2 : Nat} {A_slot_p2 : Option Addr} {cap_slot_p2 : Nat} {A_begun_p2 : Option Addr} {cap_begun_p2 : Nat} {A_free_p2 : Option Addr} {cap_free_p2 : Nat} {w : World} {g : Nat → Nat} {out : Bool} (N : Nat) (hp1 : Bx w g cb1 bb1 73 [.pointer (some ⟨b_p2, 0, none⟩)]) (hc1 : cb1 + 1 ≤ N) (hp2 : resume_scheduler_At w g c2 C_links_p2 b_p2 A_links_p2 cap_links_p2 A_slot_p2 cap_slot_p2 A_begun_p2 cap_begun_p2 A_free_p2 cap_free_p2 p2) (hc2 : c2 + 7 ≤ N) (hC_links_p2 : ∀ c, C_links_p2 c → c < N ∧ (c < c2 ∨ c2 + 7 ≤ c)) (H : resume_scheduler_worker_1.f p0 p2 = some out) :
    Calls Try.prog 70 #[.int .u64 p0, .pointer (some ⟨bb1, 0, none⟩)] w (fun e w' => ∃ v, e = .returned v ∧ ∃ (g' : Nat → Nat), v = .bool out ∧ Fr (fun q => N ≤ q) w g w' g') := by
  unfold resume_scheduler_worker_1.f at H
  refine calls_enter Try.func70 rfl Try.ntmps70 rfl (fun a hS => ?_)
  replace hS : Sl 10 a [(0, .int .u64 p0), (1, .pointer (some ⟨bb1, 0, none⟩))] := hS
  have hF : Fr (fun q => N ≤ q) w g w g := Fr.refl _ _ _
  obtain ⟨hb2, hf2_links, hf2_slot, hf2_begun, hf2_free⟩ := hp2
  refine c_pure [(0, .int .u64 p0), (1, .pointer (some ⟨bb1, 0, none⟩))] (fun R hR => st_val hS rfl rfl rfl (r_assign hS rfl rfl) fun a1 hS1 => wpList_nil (hR _ (hS1.re ⟨rfl, rfl, trivial⟩))) ?_
  clear hS
  clear a
  intro a hS
  refine c_pure [(3, .bool (decide (p0 ≤ p2.now)))] (fun R hR => st_val hS rfl rfl rfl (r_move hS rfl rfl) fun a2 hS2 => st_val hS2 rfl rfl rfl (r_load1 (n := 1) hS2 rfl rfl (by kernel_rfl) (Bx.cell hp1 rfl)) fun a3 hS3 => st_val hS3 rfl rfl rfl (r_nil hS3 rfl rfl) fun a4 hS4 => st_val hS4 rfl rfl rfl (r_fieldB (off := 4) hS4 rfl rfl (by kernel_rfl)) fun a5 hS5 => st_val hS5 rfl rfl rfl (r_load1 (n := 1) hS5 rfl rfl (by kernel_rfl) (Bx.cell hb2 rfl)) fun a6 hS6 => st_val hS6 rfl rfl rfl (r_bin hS6 rfl rfl rfl b_leq) fun a7 hS7 => st_val hS7 rfl rfl rfl (r_assign hS7 rfl rfl) fun a8 hS8 => wpList_nil (hR _ (hS8.re ⟨rfl, trivial⟩))) ?_
  clear hS
  clear a
  intro a hS
  refine wp_ret ?_
  have e := Option.some.inj H
  subst e
  repeat (with_reducible first | refine then_ret ?_ | refine inBlock_ret ?_)
  exact c_ret1 hS Try.results70 rfl ⟨_, rfl, g, rfl, hF⟩


end Go.Proofs.Ythmjgadmadlpkaa.Sim

namespace Go.Proofs.Ythmjgadmadlpkaa.Sim
open Go
set_option linter.unusedVariables false
set_option linter.unusedSimpArgs false

/-! ### slices_IndexFunc_uint64_uint64_worker_1: function 69 -/
def slices_IndexFunc_uint64_uint64_worker_1.l0 (p0 : List Int) (p3 : resume_scheduler) : Nat → Int → Option (Fl (Int) (Unit))
  | 0, _ => none
  | k10 + 1, m0_0 => if decide (m0_0 < (p0.length : Int)) = true then ((idx p0 m0_0).bind fun x18 => (resume_scheduler_worker_1.f x18 p3).bind fun r22 => if r22 = true then (some (.out m0_0)) else (slices_IndexFunc_uint64_uint64_worker_1.l0 p0 p3 k10 (wi (m0_0 + 1)))) else (some (.nxt ()))
def slices_IndexFunc_uint64_uint64_worker_1.f (p0 : List Int) (p3 : resume_scheduler) : Option (Int) := (slices_IndexFunc_uint64_uint64_worker_1.l0 p0 p3 FUEL 0 : Option (Fl (Int) (Unit))).bind fun o4 => o4.go fun _ => some (-1)
set_option maxRecDepth 100000 in
set_option maxHeartbeats 4000000 in
theorem slices_IndexFunc_uint64_uint64_worker_1.calls {p0 : List Int} {A0 : Option Addr} {cap0 : Nat} {C0 : Nat → Prop} {cb2 : Nat} {bb2 : Nat} {p3 : resume_scheduler} {c3 : Nat} {C_links_p3 : Nat → Prop} {b_p3 : Nat} {A_links_p3 : Option Addr} {cap_links_p3 : Nat} {A_slot_p3 : Option Addr} {cap_slot_p3 : Nat} {A_begun_p3 : Option Addr} {cap_begun_p3 : Nat} {A_free_p3 : Option Addr} {cap_free_p3 : Nat} {w : World} {g : Nat → Nat} {out : Int} (N : Nat) (hp0 : RdS (kint .u64) w g C0 A0 cap0 p0) (hC0 : ∀ c, C0 c → c < N) (hp2 : Bx w g cb2 bb2 73 [.pointer (some ⟨b_p3, 0, none⟩)]) (hc2 : cb2 + 1 ≤ N) (hp3 : resume_scheduler_At w g c3 C_links_p3 b_p3 A_links_p3 cap_links_p3 A_slot_p3 cap_slot_p3 A_begun_p3 cap_begun_p3 A_free_p3 cap_free_p3 p3) (hc3 : c3 + 7 ≤ N) (hC_links_p3 : ∀ c, C_links_p3 c → c < N ∧ (c < c3 ∨ c3 + 7 ≤ c)) (H : slices_IndexFunc_uint64_uint64_worker_1.f p0 p3 = some out) :
    Calls Try.prog 69 #[.slice A0 p0.length cap0, .func (.func 70) #[] #[.pointer (some ⟨bb2, 0, none⟩)]] w (fun e w' => ∃ v, e = .returned v ∧ ∃ (g' : Nat → Nat), v = .int .i64 out ∧ Fr (fun q => N ≤ q) w g w' g') := by
  unfold slices_IndexFunc_uint64_uint64_worker_1.f at H
  refine calls_enter Try.func69 rfl Try.ntmps69 rfl (fun a hS => ?_)
  replace hS : Sl 19 a [(0, .slice A0 p0.length cap0), (1, .func (.func 70) #[] #[.pointer (some ⟨bb2, 0, none⟩)])] := hS
  have hF : Fr (fun q => N ≤ q) w g w g := Fr.refl _ _ _
  obtain ⟨hb3, hf3_links, hf3_slot, hf3_begun, hf3_free⟩ := hp3
  refine c_pure [(0, .slice A0 p0.length cap0), (1, .func (.func 70) #[] #[.pointer (some ⟨bb2, 0, none⟩)])] (fun R hR => st_val hS rfl rfl rfl (r_assign hS rfl rfl) fun a1 hS1 => wpList_nil (hR _ (hS1.re ⟨rfl, rfl, trivial⟩))) ?_
  clear hS
  clear a
  intro a hS
  obtain ⟨o4, H, Hl5⟩ := bind_el H
  refine c_cut (fun a w2 => ∃ (g2 : Nat → Nat), o4 = .nxt () ∧ Sl 19 a [] ∧ Bx w2 g2 (c3) b_p3 76 [.slice A_links_p3 p3.links.length cap_links_p3, .slice A_slot_p3 p3.slot.length cap_slot_p3, .slice A_begun_p3 p3.begun.length cap_begun_p3, .slice A_free_p3 p3.free.length cap_free_p3, .int .u64 p3.now] ∧ OwS kbool 4 w2 g2 (c3 + 3) A_begun_p3 cap_begun_p3 p3.begun ∧ OwS (kint .u64) 33 w2 g2 (c3 + 5) A_free_p3 cap_free_p3 p3.free ∧ RdS kd_api_Link w2 g2 C_links_p3 A_links_p3 cap_links_p3 p3.links ∧ OwS kd_api_Slot 38 w2 g2 (c3 + 1) A_slot_p3 cap_slot_p3 p3.slot ∧ Fr (fun q => N ≤ q) w g w2 g2) ?_ ?_
  · refine c_pure [(0, .slice A0 p0.length cap0), (1, .func (.func 70) #[] #[.pointer (some ⟨bb2, 0, none⟩)]), (7, .int .i64 (p0.length : Int)), (8, .int .i64 0)] (fun R hR => st_val hS rfl rfl rfl (r_move hS rfl rfl) fun a6 hS6 => st_val hS6 rfl rfl rfl (r_len (e := 33) (sz := 1) (by_ := 8) hS6 rfl rfl (by kernel_rfl)) fun a7 hS7 => st_val hS7 rfl rfl rfl (r_move hS7 rfl rfl) fun a8 hS8 => wpList_nil (hR _ (hS8.re ⟨rfl, rfl, rfl, rfl, trivial⟩))) ?_
    clear hS
    clear a
    intro a hS
    refine wp_block ?_
    refine wp_loop_ghost (fun kq => fun a w9 => ∃ (m0_0 : Int), ∃ (g9 : Nat → Nat), slices_IndexFunc_uint64_uint64_worker_1.l0 p0 p3 kq m0_0 = some o4 ∧ Sl 19 a [(0, .slice A0 p0.length cap0), (1, .func (.func 70) #[] #[.pointer (some ⟨bb2, 0, none⟩)]), (7, .int .i64 (p0.length : Int)), (8, .int .i64 m0_0)] ∧ RdS (kint .u64) w9 g9 C0 A0 cap0 p0 ∧ Bx w9 g9 (cb2) bb2 73 [.pointer (some ⟨b_p3, 0, none⟩)] ∧ Bx w9 g9 (c3) b_p3 76 [.slice A_links_p3 p3.links.length cap_links_p3, .slice A_slot_p3 p3.slot.length cap_slot_p3, .slice A_begun_p3 p3.begun.length cap_begun_p3, .slice A_free_p3 p3.free.length cap_free_p3, .int .u64 p3.now] ∧ OwS kbool 4 w9 g9 (c3 + 3) A_begun_p3 cap_begun_p3 p3.begun ∧ OwS (kint .u64) 33 w9 g9 (c3 + 5) A_free_p3 cap_free_p3 p3.free ∧ RdS kd_api_Link w9 g9 C_links_p3 A_links_p3 cap_links_p3 p3.links ∧ OwS kd_api_Slot 38 w9 g9 (c3 + 1) A_slot_p3 cap_slot_p3 p3.slot ∧ Fr (fun q => N ≤ q) w g w9 g9) FUEL ?_ ?_
    · exact ⟨0, g, H, hS.re ⟨rfl, rfl, rfl, rfl, trivial⟩, hp0, hp2, hb3, hf3_begun, hf3_free, hf3_links, hf3_slot, hF⟩
    · clear H
      clear hp0 hp2 hf3_links hf3_slot hf3_begun hf3_free hb3 hF
      clear hS
      rintro k10 a w9 ⟨m0_0, g9, hpre0, hS, hp0, hp2, hb3, hf3_begun, hf3_free, hf3_links, hf3_slot, hF⟩
      have H := hpre0
      clear hpre0
      cases k10 with
      | zero => exact absurd H (by simp [slices_IndexFunc_uint64_uint64_worker_1.l0])
      | succ k10 =>
        rw [slices_IndexFunc_uint64_uint64_worker_1.l0] at H
        refine c_pure [(0, .slice A0 p0.length cap0), (1, .func (.func 70) #[] #[.pointer (some ⟨bb2, 0, none⟩)]), (7, .int .i64 (p0.length : Int)), (8, .int .i64 m0_0), (9, .bool (decide (m0_0 < (p0.length : Int))))] (fun R hR => st_val hS rfl rfl rfl (r_bin hS rfl rfl rfl b_lss) fun a11 hS11 => wpList_nil (hR _ (hS11.re ⟨rfl, rfl, rfl, rfl, rfl, trivial⟩))) ?_
        clear hS
        clear a
        intro a hS
        refine c_if hS rfl (fun hb12 => ?_) (fun hb12 => ?_)
        · replace H := ite_t hb12 H
          refine wp_skip ?_
          change Code.wp _ _ _ _ _
          refine wp_seq ?_
          refine wp_block ?_
          refine c_pure [(0, .slice A0 p0.length cap0), (1, .func (.func 70) #[] #[.pointer (some ⟨bb2, 0, none⟩)]), (5, .int .i64 m0_0), (7, .int .i64 (p0.length : Int)), (8, .int .i64 m0_0)] (fun R hR => st_val hS rfl rfl rfl (r_move hS rfl rfl) fun a13 hS13 => st_val hS13 rfl rfl rfl (r_assign hS13 rfl rfl) fun a14 hS14 => wpList_nil (hR _ (hS14.re ⟨rfl, rfl, rfl, rfl, rfl, trivial⟩))) ?_
          clear hS
          clear a
          intro a hS
          obtain ⟨x18, hx19, H⟩ := bind_el H
          obtain ⟨r22, hr23, H⟩ := bind_el H
          refine c_region (fun K hK => ?_)
          refine st_val hS rfl rfl rfl (r_move hS rfl rfl) fun a15 hS15 => st_val hS15 rfl rfl rfl (r_move hS15 rfl rfl) fun a16 hS16 => st_val hS16 rfl rfl rfl (r_move hS16 rfl rfl) fun a17 hS17 => st_val hS17 rfl rfl rfl (r_index (e := 33) (sz := 1) (by_ := 8) hS17 rfl rfl rfl (by kernel_rfl) (RdS.some_ hp0 hx19) (idx_lo hx19) (idx_hi hx19)) fun a20 hS20 => st_val hS20 rfl rfl rfl (r_load1 (n := 1) hS20 rfl rfl (by kernel_rfl) (RdS.cell (i := m0_0) (sz := 1) (j := 0) hp0 hx19 rfl)) fun a21 hS21 => ?_
          refine st_enter hS21 rfl rfl rfl (r_callv hS21 rfl rfl rfl rfl (by kernel_rfl)) (resume_scheduler_worker_1.calls (cb1 := cb2) (bb1 := bb2) (c2 := c3) (b_p2 := b_p3) (A_links_p2 := A_links_p3) (cap_links_p2 := cap_links_p3) (C_links_p2 := C_links_p3) (A_slot_p2 := A_slot_p3) (cap_slot_p2 := cap_slot_p3) (A_begun_p2 := A_begun_p3) (cap_begun_p2 := cap_begun_p3) (A_free_p2 := A_free_p3) (cap_free_p2 := cap_free_p3) (p0 := x18) (p2 := p3) (g := g9) (N + 0)  hp2 (by omega) ⟨hb3, hf3_links, hf3_slot, hf3_begun, hf3_free⟩ (by omega) (fun q (hq : C_links_p3 q) => by have := hC_links_p3 q hq; omega) hr23) ?_
          rintro _ a24 w25 ⟨g25, rfl, F25⟩ hS24
          replace hp0 := RdS.fr hp0 F25 (by decide) (fun q (hq : C0 q) (hm : N + 0 ≤ q) => by have := hC0 q hq; omega)
          replace hp2 := hp2.fr F25 (fun (hm : N + 0 ≤ cb2) => by omega)
          replace hb3 := hb3.fr F25 (fun (hm : N + 0 ≤ c3) => by omega)
          replace hf3_begun := OwS.fr hf3_begun F25 (fun c' hc (hm : N + 0 ≤ c') => by omega)
          replace hf3_free := OwS.fr hf3_free F25 (fun c' hc (hm : N + 0 ≤ c') => by omega)
          replace hf3_links := RdS.fr hf3_links F25 (by decide) (fun q (hq : C_links_p3 q) (hm : N + 0 ≤ q) => by have := hC_links_p3 q hq; omega)
          replace hf3_slot := OwS.fr hf3_slot F25 (fun c' hc (hm : N + 0 ≤ c') => by omega)
          replace hF := hF.trans F25 (fun c' (hm : N + 0 ≤ c') => by show N ≤ c'; omega)
          refine wpList_nil (hK _ _ ?_)
          replace hS : Sl 19 _ [(0, .slice A0 p0.length cap0), (1, .func (.func 70) #[] #[.pointer (some ⟨bb2, 0, none⟩)]), (5, .int .i64 m0_0), (7, .int .i64 (p0.length : Int)), (8, .int .i64 m0_0), (16, .bool r22)] := hS24.re ⟨rfl, rfl, rfl, rfl, rfl, rfl, trivial⟩
          clear hK K
          try clear hS15 hS16 hS17 hS20 hS21 hS24
          obtain ⟨a, ha⟩ : ∃ a', a' = a24 := ⟨_, rfl⟩
          rw [← ha] at hS ⊢; clear ha
          refine c_cond hS rfl (fun hb26 => ?_) (fun hb26 => ?_)
          · replace H := ite_t hb26 H
            refine c_pure [(4, .int .i64 m0_0)] (fun R hR => st_val hS rfl rfl rfl (r_move hS rfl rfl) fun a27 hS27 => st_val hS27 rfl rfl rfl (r_assign hS27 rfl rfl) fun a28 hS28 => wpList_nil (hR _ (hS28.re ⟨rfl, trivial⟩))) ?_
            clear hS
            clear a
            intro a hS
            refine wp_ret ?_
            have e := Option.some.inj H
            subst e
            replace H := Fl.go_out Hl5
            have e := Option.some.inj H
            subst e
            repeat (with_reducible first | refine then_ret ?_ | refine inBlock_ret ?_)
            exact c_ret1 hS Try.results69 rfl ⟨_, rfl, g25, rfl, hF⟩
          · replace H := ite_f hb26 H
            refine wp_skip ?_
            change Code.wp _ _ _ _ _
            refine c_pure1 [(0, .slice A0 p0.length cap0), (1, .func (.func 70) #[] #[.pointer (some ⟨bb2, 0, none⟩)]), (7, .int .i64 (p0.length : Int)), (8, .int .i64 (wi (m0_0 + 1)))] (fun R hR => st_val hS rfl rfl rfl (r_bin hS rfl rfl rfl b_add) fun a29 hS29 => st_val hS29 rfl rfl rfl (r_move hS29 rfl rfl) fun a30 hS30 => wpList_nil (hR _ (hS30.re ⟨rfl, rfl, rfl, rfl, trivial⟩))) ?_
            clear hS
            clear a
            intro a hS
            refine ⟨k10, Nat.lt_succ_self _, ?_⟩
            exact ⟨wi (m0_0 + 1), g25, H, hS.re ⟨rfl, rfl, rfl, rfl, trivial⟩, hp0, hp2, hb3, hf3_begun, hf3_free, hf3_links, hf3_slot, hF⟩
        · replace H := ite_f hb12 H
          refine wp_exit ?_
          have e := Option.some.inj H
          exact ⟨g9, e.symm, hS.re trivial, hb3, hf3_begun, hf3_free, hf3_links, hf3_slot, hF⟩
  · clear H
    clear hp0 hp2 hf3_links hf3_slot hf3_begun hf3_free hb3 hF
    clear hS
    rintro a w2 ⟨g2, hpre0, hS, hb3, hf3_begun, hf3_free, hf3_links, hf3_slot, hF⟩
    subst hpre0
    have H := Fl.go_nxt Hl5
    clear Hl5
    refine c_pure [(4, .int .i64 (-1))] (fun R hR => st_val hS rfl rfl rfl (r_assign hS rfl rfl) fun a31 hS31 => wpList_nil (hR _ (hS31.re ⟨rfl, trivial⟩))) ?_
    clear hS
    clear a
    intro a hS
    refine wp_ret ?_
    have e := Option.some.inj H
    subst e
    repeat (with_reducible first | refine then_ret ?_ | refine inBlock_ret ?_)
    exact c_ret1 hS Try.results69 rfl ⟨_, rfl, g2, rfl, hF⟩


end Go.Proofs.Ythmjgadmadlpkaa.Sim

namespace Go.Proofs.Ythmjgadmadlpkaa.Sim
open Go
set_option linter.unusedVariables false
set_option linter.unusedSimpArgs false

/-! ### resume_scheduler_worker: function 37 -/
def resume_scheduler_worker.f (p0 : resume_scheduler) : Option (Int) := (slices_IndexFunc_uint64_uint64_worker_1.f p0.free p0).bind fun r12 => some r12
set_option maxRecDepth 100000 in
set_option maxHeartbeats 4000000 in
theorem resume_scheduler_worker.calls {p0 : resume_scheduler} {c0 : Nat} {C_links_p0 : Nat → Prop} {b_p0 : Nat} {A_links_p0 : Option Addr} {cap_links_p0 : Nat} {A_slot_p0 : Option Addr} {cap_slot_p0 : Nat} {A_begun_p0 : Option Addr} {cap_begun_p0 : Nat} {A_free_p0 : Option Addr} {cap_free_p0 : Nat} {w : World} {g : Nat → Nat} {out : Int} (N : Nat) (hp0 : resume_scheduler_At w g c0 C_links_p0 b_p0 A_links_p0 cap_links_p0 A_slot_p0 cap_slot_p0 A_begun_p0 cap_begun_p0 A_free_p0 cap_free_p0 p0) (hc0 : c0 + 7 ≤ N) (hC_links_p0 : ∀ c, C_links_p0 c → c < N ∧ (c < c0 ∨ c0 + 7 ≤ c)) (H : resume_scheduler_worker.f p0 = some out) :
    Calls Try.prog 37 #[.pointer (some ⟨b_p0, 0, none⟩)] w (fun e w' => ∃ v, e = .returned v ∧ ∃ (g' : Nat → Nat), v = .int .i64 out ∧ Fr (fun q => N ≤ q) w g w' g') := by
  unfold resume_scheduler_worker.f at H
  refine calls_enter Try.func37 rfl Try.ntmps37 rfl (fun a hS => ?_)
  replace hS : Sl 9 a [(0, .pointer (some ⟨b_p0, 0, none⟩))] := hS
  have hF : Fr (fun q => N ≤ q) w g w g := Fr.refl _ _ _
  obtain ⟨hb0, hf0_links, hf0_slot, hf0_begun, hf0_free⟩ := hp0
  refine c_region (fun K hK => ?_)
  refine st_eff hS rfl rfl rfl (e_box (cs := [.pointer (some ⟨b_p0, 0, none⟩)]) (N + 0) g hS rfl rfl rfl) ?_
  rintro _ a4 w5 g5 ⟨⟨b1, rfl, h2⟩, F5⟩ hS4
  replace hb0 := hb0.fr F5 (fun h => h)
  replace hf0_begun := OwS.fr hf0_begun F5 (fun _ _ h => h)
  replace hf0_free := OwS.fr hf0_free F5 (fun _ _ h => h)
  replace hf0_links := RdS.fr hf0_links F5 (by decide) (fun _ _ h => h)
  replace hf0_slot := OwS.fr hf0_slot F5 (fun _ _ h => h)
  replace hF := hF.trans F5 (fun _ h => h.elim)
  refine st_val hS4 rfl rfl rfl (r_assign hS4 rfl rfl) fun a6 hS6 => wpList_nil (hK _ _ ?_)
  replace hS : Sl 9 _ [(1, .pointer (some ⟨b1, 0, none⟩))] := hS6.re ⟨rfl, trivial⟩
  clear hK K
  try clear hS4 hS6
  obtain ⟨a, ha⟩ : ∃ a', a' = a6 := ⟨_, rfl⟩
  rw [← ha] at hS ⊢; clear ha
  obtain ⟨r12, hr13, H⟩ := bind_el H
  refine c_region (fun K hK => ?_)
  refine st_val hS rfl rfl rfl (r_load1 (n := 1) hS rfl rfl (by kernel_rfl) (Bx.cell h2 rfl)) fun a7 hS7 => st_val hS7 rfl rfl rfl (r_nil hS7 rfl rfl) fun a8 hS8 => st_val hS8 rfl rfl rfl (r_fieldB (off := 3) hS8 rfl rfl (by kernel_rfl)) fun a9 hS9 => st_val hS9 rfl rfl rfl (r_load1 (n := 1) hS9 rfl rfl (by kernel_rfl) (Bx.cell hb0 rfl)) fun a10 hS10 => st_val hS10 rfl rfl rfl (r_mkfn hS10 rfl rfl) fun a11 hS11 => ?_
  refine st_enter hS11 rfl rfl rfl (r_call hS11 rfl rfl (by kernel_rfl)) (slices_IndexFunc_uint64_uint64_worker_1.calls (C0 := (fun q => q = c0 + 5)) (cb2 := N + 0) (bb2 := b1) (c3 := c0) (b_p3 := b_p0) (A_links_p3 := A_links_p0) (cap_links_p3 := cap_links_p0) (C_links_p3 := C_links_p0) (A_slot_p3 := A_slot_p0) (cap_slot_p3 := cap_slot_p0) (A_begun_p3 := A_begun_p0) (cap_begun_p3 := cap_begun_p0) (A_free_p3 := A_free_p0) (cap_free_p3 := cap_free_p0) (p0 := p0.free) (p3 := p0) (g := g5) (N + 2)  (OwD.rdf (fun _ _ _ _ _ _ h => h) hf0_free) (fun q (hq : q = c0 + 5) => by omega) h2 (by omega) ⟨hb0, hf0_links, hf0_slot, hf0_begun, hf0_free⟩ (by omega) (fun q (hq : C_links_p0 q) => by have := hC_links_p0 q hq; omega) hr13) ?_
  rintro _ a14 w15 ⟨g15, rfl, F15⟩ hS14
  replace h2 := h2.fr F15 (fun (hm : N + 2 ≤ N + 0) => by omega)
  replace hb0 := hb0.fr F15 (fun (hm : N + 2 ≤ c0) => by omega)
  replace hf0_begun := OwS.fr hf0_begun F15 (fun c' hc (hm : N + 2 ≤ c') => by omega)
  replace hf0_free := OwS.fr hf0_free F15 (fun c' hc (hm : N + 2 ≤ c') => by omega)
  replace hf0_links := RdS.fr hf0_links F15 (by decide) (fun q (hq : C_links_p0 q) (hm : N + 2 ≤ q) => by have := hC_links_p0 q hq; omega)
  replace hf0_slot := OwS.fr hf0_slot F15 (fun c' hc (hm : N + 2 ≤ c') => by omega)
  replace hF := hF.trans F15 (fun c' (hm : N + 2 ≤ c') => by show N ≤ c'; omega)
  refine st_val hS14 rfl rfl rfl (r_assign hS14 rfl rfl) fun a16 hS16 => wpList_nil (hK _ _ ?_)
  replace hS : Sl 9 _ [(2, .int .i64 r12)] := hS16.re ⟨rfl, trivial⟩
  clear hK K
  try clear hS7 hS8 hS9 hS10 hS11 hS14 hS16
  obtain ⟨a, ha⟩ : ∃ a', a' = a16 := ⟨_, rfl⟩
  rw [← ha] at hS ⊢; clear ha
  refine wp_ret ?_
  have e := Option.some.inj H
  subst e
  repeat (with_reducible first | refine then_ret ?_ | refine inBlock_ret ?_)
  exact c_ret1 hS Try.results37 rfl ⟨_, rfl, g15, rfl, hF⟩


end Go.Proofs.Ythmjgadmadlpkaa.Sim

namespace Go.Proofs.Ythmjgadmadlpkaa.Sim
open Go
set_option linter.unusedVariables false
set_option linter.unusedSimpArgs false

/-! ### resume_Schedule: function 18 -/
def resume_Schedule.l0 (p2 : List Int) : Nat → resume_scheduler → (List api_Slot) → Option ((List api_Slot) × Int)
  | 0, _, _ => none
  | k330 + 1, m0_0, m0_1 => (resume_scheduler_ready.f m0_0).bind fun r335 => (resume_scheduler_worker.f m0_0).bind fun r340 => if ((decide (0 ≤ r335)) && (decide (0 ≤ r340))) = true then ((idx m0_0.begun r335).bind fun x365 => (idx p2 r335).bind fun x370 => (idx m0_0.slot r335).bind fun x372 => (idx (upd m0_0.slot r335 (api_Slot.mk r335 r340 m0_0.now (wu (m0_0.now + x370)))) r335).bind fun x399 => (idx m0_0.free r340).bind fun x401 => (app m0_1 [x399]).bind fun y433 => resume_Schedule.l0 p2 k330 (resume_scheduler.mk m0_0.links (upd m0_0.slot r335 (api_Slot.mk r335 r340 m0_0.now (wu (m0_0.now + x370)))) (upd m0_0.begun r335 true) (upd m0_0.free r340 x399.End) m0_0.now) y433) else ((resume_scheduler_advance.f m0_0).bind fun r446 => if (!r446.2) = true then (some (m0_1, 0)) else (resume_Schedule.l0 p2 k330 r446.1 m0_1))
def resume_Schedule.f (p0 : Int) (p1 : List api_Link) (p2 : List Int) (p3 : Int) : Option ((List api_Slot) × Int) := (resume_check.f p0 p1 p2 p3).bind fun r7 => if (r7 != 0) = true then (some ([], r7)) else ((mk p0 (api_Slot.mk 0 0 0 0)).bind fun y18 => (mk p0 false).bind fun y24 => (mk p3 0).bind fun y30 => resume_Schedule.l0 p2 FUEL (resume_scheduler.mk p1 y18 y24 y30 0) [])
set_option maxRecDepth 100000 in
set_option maxHeartbeats 4000000 in
theorem resume_Schedule.calls {p0 : Int} {p1 : List api_Link} {A1 : Option Addr} {cap1 : Nat} {C1 : Nat → Prop} {p2 : List Int} {A2 : Option Addr} {cap2 : Nat} {C2 : Nat → Prop} {p3 : Int} {w : World} {g : Nat → Nat} {out : (List api_Slot) × Int} (N : Nat) (r0 : Nat) (hp1 : RdS kd_api_Link w g C1 A1 cap1 p1) (hC1 : ∀ c, C1 c → c < N) (hp2 : RdS (kint .u64) w g C2 A2 cap2 p2) (hC2 : ∀ c, C2 c → c < N) (hr0 : r0 + 2 ≤ N) (H : resume_Schedule.f p0 p1 p2 p3 = some out) :
    Calls Try.prog 18 #[.int .i64 p0, .slice A1 p1.length cap1, .slice A2 p2.length cap2, .int .i64 p3] w (fun e w' => ∃ v, e = .returned v ∧ ∃ (g' : Nat → Nat) (A_r0 : Option Addr) (cap_r0 : Nat), v = .tuple #[.slice A_r0 out.1.length cap_r0, .int .i64 out.2] ∧ OwS kd_api_Slot 38 w' g' r0 A_r0 cap_r0 out.1 ∧ Fr (fun q => (r0 ≤ q ∧ q < r0 + 2) ∨ N ≤ q) w g w' g') := by
  unfold resume_Schedule.f at H
  refine calls_enter Try.func18 rfl Try.ntmps18 rfl (fun a hS => ?_)
  replace hS : Sl 98 a [(0, .int .i64 p0), (1, .slice A1 p1.length cap1), (2, .slice A2 p2.length cap2), (3, .int .i64 p3)] := hS
  have hF : Fr (fun q => (r0 ≤ q ∧ q < r0 + 2) ∨ N ≤ q) w g w g := Fr.refl _ _ _
  refine c_pure [(0, .int .i64 p0), (1, .slice A1 p1.length cap1), (2, .slice A2 p2.length cap2), (3, .int .i64 p3)] (fun R hR => st_val hS rfl rfl rfl (r_assign hS rfl rfl) fun a1 hS1 => st_val hS1 rfl rfl rfl (r_assign hS1 rfl rfl) fun a2 hS2 => wpList_nil (hR _ (hS2.re ⟨rfl, rfl, rfl, rfl, trivial⟩))) ?_
  clear hS
  clear a
  intro a hS
  refine wp_seq ?_
  obtain ⟨r7, hr8, H⟩ := bind_el H
  refine c_region (fun K hK => ?_)
  refine st_val hS rfl rfl rfl (r_move hS rfl rfl) fun a3 hS3 => st_val hS3 rfl rfl rfl (r_move hS3 rfl rfl) fun a4 hS4 => st_val hS4 rfl rfl rfl (r_move hS4 rfl rfl) fun a5 hS5 => st_val hS5 rfl rfl rfl (r_move hS5 rfl rfl) fun a6 hS6 => ?_
  refine st_enter hS6 rfl rfl rfl (r_call hS6 rfl rfl (by kernel_rfl)) (resume_check.calls (C1 := C1) (C2 := C2) (p0 := p0) (p1 := p1) (p2 := p2) (p3 := p3) (g := g) (N + 17)  hp1 (fun q (hq : C1 q) => by have := hC1 q hq; omega) hp2 (fun q (hq : C2 q) => by have := hC2 q hq; omega) hr8) ?_
  rintro _ a9 w10 ⟨g10, rfl, F10⟩ hS9
  replace hp1 := RdS.fr hp1 F10 (by decide) (fun q (hq : C1 q) (hm : N + 17 ≤ q) => by have := hC1 q hq; omega)
  replace hp2 := RdS.fr hp2 F10 (by decide) (fun q (hq : C2 q) (hm : N + 17 ≤ q) => by have := hC2 q hq; omega)
  replace hF := hF.trans F10 (fun c' (hm : N + 17 ≤ c') => by show (r0 ≤ c' ∧ c' < r0 + 2) ∨ N ≤ c'; omega)
  refine st_val hS9 rfl rfl rfl (r_assign hS9 rfl rfl) fun a11 hS11 => wpList_nil (hK _ _ ?_)
  replace hS : Sl 98 _ [(0, .int .i64 p0), (1, .slice A1 p1.length cap1), (2, .slice A2 p2.length cap2), (3, .int .i64 p3), (10, .int .i64 r7)] := hS11.re ⟨rfl, rfl, rfl, rfl, rfl, trivial⟩
  clear hK K
  try clear hS3 hS4 hS5 hS6 hS9 hS11
  obtain ⟨a, ha⟩ : ∃ a', a' = a11 := ⟨_, rfl⟩
  rw [← ha] at hS ⊢; clear ha
  refine c_pure [(0, .int .i64 p0), (1, .slice A1 p1.length cap1), (2, .slice A2 p2.length cap2), (3, .int .i64 p3), (10, .int .i64 r7), (21, .bool (r7 != 0))] (fun R hR => st_val hS rfl rfl rfl (r_move hS rfl rfl) fun a12 hS12 => st_val hS12 rfl rfl rfl (r_bin hS12 rfl rfl rfl b_neq) fun a13 hS13 => wpList_nil (hR _ (hS13.re ⟨rfl, rfl, rfl, rfl, rfl, rfl, trivial⟩))) ?_
  clear hS
  clear a
  intro a hS
  refine c_cond hS rfl (fun hb14 => ?_) (fun hb14 => ?_)
  · replace H := ite_t hb14 H
    refine c_pure [(8, .slice none 0 0), (9, .int .i64 r7)] (fun R hR => st_val hS rfl rfl rfl (r_move hS rfl rfl) fun a15 hS15 => st_val hS15 rfl rfl rfl (r_assign hS15 rfl rfl) fun a16 hS16 => st_val hS16 rfl rfl rfl (r_assign hS16 rfl rfl) fun a17 hS17 => wpList_nil (hR _ (hS17.re ⟨rfl, rfl, trivial⟩))) ?_
    clear hS
    clear a
    intro a hS
    refine wp_ret ?_
    have e := Option.some.inj H
    subst e
    repeat (with_reducible first | refine then_ret ?_ | refine inBlock_ret ?_)
    exact c_ret2 hS Try.results18 rfl rfl ⟨_, rfl, g10, none, 0, rfl, OwS.nil kd_api_Slot 38 w10 g10 r0, hF⟩
  · replace H := ite_f hb14 H
    refine wp_skip ?_
    change Code.wp _ _ _ _ _
    obtain ⟨y18, hy19, H⟩ := bind_el H
    obtain ⟨y24, hy25, H⟩ := bind_el H
    obtain ⟨y30, hy31, H⟩ := bind_el H
    refine c_cut (fun a w176 => ∃ (g176 : Nat → Nat), ∃ (b177 : Nat), ∃ (A179 : Option Addr), ∃ (cap180 : Nat), ∃ (A182 : Option Addr), ∃ (cap183 : Nat), ∃ (A185 : Option Addr), ∃ (cap186 : Nat), Sl 98 a [(2, .slice A2 p2.length cap2), (11, .pointer (some ⟨b177, 0, none⟩))] ∧ OwS kd_api_Slot 38 w176 g176 (N + 0) A179 cap180 y18 ∧ OwS kbool 4 w176 g176 (N + 2) A182 cap183 y24 ∧ OwS (kint .u64) 33 w176 g176 (N + 4) A185 cap186 y30 ∧ Bx w176 g176 (N + 6) b177 76 [.slice A1 p1.length cap1, .slice A179 y18.length cap180, .slice A182 y24.length cap183, .slice A185 y30.length cap186, .int .u64 0] ∧ RdS kd_api_Link w176 g176 C1 A1 cap1 p1 ∧ RdS (kint .u64) w176 g176 C2 A2 cap2 p2 ∧ Fr (fun q => (r0 ≤ q ∧ q < r0 + 2) ∨ N ≤ q) w g w176 g176) (d_start (fun q => False) g10 [] 10 #[false, false, false, false, false, false, false, false, false, false] (by kernel_rfl) rfl rfl (fun w188 hw188 => ?_)) ?_
    · have F188 : Fr (fun _ => False) w10 g10 w188 g10 := by rw [hw188]; exact Fr.drew _ _ _
      replace hp1 := RdS.fr hp1 F188 (by decide) (fun _ _ h => h)
      replace hp2 := RdS.fr hp2 F188 (by decide) (fun _ _ h => h)
      replace hF := hF.trans F188 (fun _ h => h.elim)
      have hC : Fr (fun q => False) w188 g10 w188 g10 := Fr.refl _ _ _
      refine d_pure hS 0 #[true, false, false, false, false, false, false, false, false, false] rfl rfl rfl rfl (by kernel_rfl) (fun _ _ _ h => h) (fun _ => (r_move hS rfl rfl)) fun a189 hS189 => d_pure hS189 1 #[true, true, false, false, false, false, false, false, false, false] rfl rfl rfl rfl (by kernel_rfl) (fun _ _ _ h => h) (fun _ => (r_move hS189 rfl rfl)) fun a190 hS190 => d_pure hS190 3 #[true, true, false, true, false, false, false, false, false, false] rfl rfl rfl rfl (by kernel_rfl) (fun _ _ _ h => h) (fun _ => (r_move hS190 rfl rfl)) fun a191 hS191 => d_pure hS191 5 #[true, true, false, true, false, true, false, false, false, false] rfl rfl rfl rfl (by kernel_rfl) (fun _ _ _ h => h) (fun _ => (r_move hS191 rfl rfl)) fun a192 hS192 => ?_
      refine d_three 2 4 6 #[true, true, true, true, false, true, false, false, false, false] #[true, true, false, true, true, true, false, false, false, false] #[true, true, false, true, false, true, true, false, false, false] rfl rfl rfl (by kernel_rfl) (arm_eff hS192 rfl rfl rfl (e_make (e := 38) (sz := 4) (by_ := 32) (z := [.int .i64 0, .int .i64 0, .int .u64 0, .int .u64 0]) (kd := kd_api_Slot) (N + 0) g10 hS192 rfl rfl (by kernel_rfl) (by kernel_rfl) rfl rfl rfl (fun _ _ _ => by exact rfl) hy19) (fun _ _ g' hR _ => ⟨g', hC.trans hR.2 (fun _ h => h.elim)⟩) ?_) (arm_eff hS192 rfl rfl rfl (e_make (e := 4) (sz := 1) (by_ := 1) (z := [.bool false]) (kd := kbool) (N + 2) g10 hS192 rfl rfl (by kernel_rfl) (by kernel_rfl) rfl rfl rfl (fun _ _ _ => by exact rfl) hy25) (fun _ _ g' hR _ => ⟨g', hC.trans hR.2 (fun _ h => h.elim)⟩) ?_) (arm_eff hS192 rfl rfl rfl (e_make (e := 33) (sz := 1) (by_ := 8) (z := [.int .u64 0]) (kd := (kint .u64)) (N + 4) g10 hS192 rfl rfl (by kernel_rfl) (by kernel_rfl) rfl rfl rfl (fun _ _ _ => by exact rfl) hy31) (fun _ _ g' hR _ => ⟨g', hC.trans hR.2 (fun _ h => h.elim)⟩) ?_)
      · rintro _ a197 w198 g198 ⟨⟨A193, cap194, rfl, h195⟩, F198⟩ hS197
        have hC198 := hC.trans F198 (fun _ h => h.elim)
        replace hp1 := RdS.fr hp1 F198 (by decide) (fun _ _ h => h)
        replace hp2 := RdS.fr hp2 F198 (by decide) (fun _ _ h => h)
        replace hF := hF.trans F198 (fun _ h => h.elim)
        refine d_two 4 6 #[true, true, true, true, true, true, false, false, false, false] #[true, true, true, true, false, true, true, false, false, false] rfl rfl (by kernel_rfl) (arm_eff hS197 rfl rfl rfl (e_make (e := 4) (sz := 1) (by_ := 1) (z := [.bool false]) (kd := kbool) (N + 2) g198 hS197 rfl rfl (by kernel_rfl) (by kernel_rfl) rfl rfl rfl (fun _ _ _ => by exact rfl) hy25) (fun _ _ g' hR _ => ⟨g', hC198.trans hR.2 (fun _ h => h.elim)⟩) ?_) (arm_eff hS197 rfl rfl rfl (e_make (e := 33) (sz := 1) (by_ := 8) (z := [.int .u64 0]) (kd := (kint .u64)) (N + 4) g198 hS197 rfl rfl (by kernel_rfl) (by kernel_rfl) rfl rfl rfl (fun _ _ _ => by exact rfl) hy31) (fun _ _ g' hR _ => ⟨g', hC198.trans hR.2 (fun _ h => h.elim)⟩) ?_)
        · rintro _ a203 w204 g204 ⟨⟨A199, cap200, rfl, h201⟩, F204⟩ hS203
          have hC204 := hC198.trans F204 (fun _ h => h.elim)
          replace h195 := OwS.fr h195 F204 (fun _ _ h => h)
          replace hp1 := RdS.fr hp1 F204 (by decide) (fun _ _ h => h)
          replace hp2 := RdS.fr hp2 F204 (by decide) (fun _ _ h => h)
          replace hF := hF.trans F204 (fun _ h => h.elim)
          refine d_one 6 #[true, true, true, true, true, true, true, false, false, false] rfl (by kernel_rfl) (arm_eff hS203 rfl rfl rfl (e_make (e := 33) (sz := 1) (by_ := 8) (z := [.int .u64 0]) (kd := (kint .u64)) (N + 4) g204 hS203 rfl rfl (by kernel_rfl) (by kernel_rfl) rfl rfl rfl (fun _ _ _ => by exact rfl) hy31) (fun _ _ g' hR _ => ⟨g', hC204.trans hR.2 (fun _ h => h.elim)⟩) ?_)
          rintro _ a209 w210 g210 ⟨⟨A205, cap206, rfl, h207⟩, F210⟩ hS209
          have hC210 := hC204.trans F210 (fun _ h => h.elim)
          replace h195 := OwS.fr h195 F210 (fun _ _ h => h)
          replace h201 := OwS.fr h201 F210 (fun _ _ h => h)
          replace hp1 := RdS.fr hp1 F210 (by decide) (fun _ _ h => h)
          replace hp2 := RdS.fr hp2 F210 (by decide) (fun _ _ h => h)
          replace hF := hF.trans F210 (fun _ h => h.elim)
          refine d_pure hS209 7 #[true, true, true, true, true, true, true, true, false, false] rfl rfl rfl rfl (by kernel_rfl) (fun _ _ _ h => h) (fun _ => (r_build (parts := [(0, .slice A1 p1.length cap1), (1, .slice A193 y18.length cap194), (2, .slice A199 y24.length cap200), (3, .slice A205 y30.length cap206)]) (u := .agg #[.slice A1 p1.length cap1, .slice A193 y18.length cap194, .slice A199 y24.length cap200, .slice A205 y30.length cap206, .int .u64 0]) hS209 rfl rfl (fun _ => by kernel_rfl))) fun a211 hS211 => ?_
          refine d_one 8 #[true, true, true, true, true, true, true, true, true, false] rfl (by kernel_rfl) (arm_eff hS211 rfl rfl rfl (e_box (cs := [.slice A1 p1.length cap1, .slice A193 y18.length cap194, .slice A199 y24.length cap200, .slice A205 y30.length cap206, .int .u64 0]) (N + 6) g210 hS211 rfl rfl rfl) (fun _ _ g' hR _ => ⟨g', hC210.trans hR.2 (fun _ h => h.elim)⟩) ?_)
          rintro _ a215 w216 g216 ⟨⟨b212, rfl, h213⟩, F216⟩ hS215
          have hC216 := hC210.trans F216 (fun _ h => h.elim)
          replace h195 := OwS.fr h195 F216 (fun _ _ h => h)
          replace h201 := OwS.fr h201 F216 (fun _ _ h => h)
          replace h207 := OwS.fr h207 F216 (fun _ _ h => h)
          replace hp1 := RdS.fr hp1 F216 (by decide) (fun _ _ h => h)
          replace hp2 := RdS.fr hp2 F216 (by decide) (fun _ _ h => h)
          replace hF := hF.trans F216 (fun _ h => h.elim)
          refine d_pure hS215 9 #[true, true, true, true, true, true, true, true, true, true] rfl rfl rfl rfl (by kernel_rfl) (fun _ _ _ h => h) (fun _ => (r_assign hS215 rfl rfl)) fun a217 hS217 => d_done (by kernel_rfl) ?_
          exact ⟨g216, b212, A193, cap194, A199, cap200, A205, cap206, hS217.re ⟨rfl, rfl, trivial⟩, h195, h201, h207, h213, hp1, hp2, hF⟩
        · rintro _ a222 w223 g223 ⟨⟨A218, cap219, rfl, h220⟩, F223⟩ hS222
          have hC223 := hC198.trans F223 (fun _ h => h.elim)
          replace h195 := OwS.fr h195 F223 (fun _ _ h => h)
          replace hp1 := RdS.fr hp1 F223 (by decide) (fun _ _ h => h)
          replace hp2 := RdS.fr hp2 F223 (by decide) (fun _ _ h => h)
          replace hF := hF.trans F223 (fun _ h => h.elim)
          refine d_one 4 #[true, true, true, true, true, true, true, false, false, false] rfl (by kernel_rfl) (arm_eff hS222 rfl rfl rfl (e_make (e := 4) (sz := 1) (by_ := 1) (z := [.bool false]) (kd := kbool) (N + 2) g223 hS222 rfl rfl (by kernel_rfl) (by kernel_rfl) rfl rfl rfl (fun _ _ _ => by exact rfl) hy25) (fun _ _ g' hR _ => ⟨g', hC223.trans hR.2 (fun _ h => h.elim)⟩) ?_)
          rintro _ a228 w229 g229 ⟨⟨A224, cap225, rfl, h226⟩, F229⟩ hS228
          have hC229 := hC223.trans F229 (fun _ h => h.elim)
          replace h195 := OwS.fr h195 F229 (fun _ _ h => h)
          replace h220 := OwS.fr h220 F229 (fun _ _ h => h)
          replace hp1 := RdS.fr hp1 F229 (by decide) (fun _ _ h => h)
          replace hp2 := RdS.fr hp2 F229 (by decide) (fun _ _ h => h)
          replace hF := hF.trans F229 (fun _ h => h.elim)
          refine d_pure hS228 7 #[true, true, true, true, true, true, true, true, false, false] rfl rfl rfl rfl (by kernel_rfl) (fun _ _ _ h => h) (fun _ => (r_build (parts := [(0, .slice A1 p1.length cap1), (1, .slice A193 y18.length cap194), (2, .slice A224 y24.length cap225), (3, .slice A218 y30.length cap219)]) (u := .agg #[.slice A1 p1.length cap1, .slice A193 y18.length cap194, .slice A224 y24.length cap225, .slice A218 y30.length cap219, .int .u64 0]) hS228 rfl rfl (fun _ => by kernel_rfl))) fun a230 hS230 => ?_
          refine d_one 8 #[true, true, true, true, true, true, true, true, true, false] rfl (by kernel_rfl) (arm_eff hS230 rfl rfl rfl (e_box (cs := [.slice A1 p1.length cap1, .slice A193 y18.length cap194, .slice A224 y24.length cap225, .slice A218 y30.length cap219, .int .u64 0]) (N + 6) g229 hS230 rfl rfl rfl) (fun _ _ g' hR _ => ⟨g', hC229.trans hR.2 (fun _ h => h.elim)⟩) ?_)
          rintro _ a234 w235 g235 ⟨⟨b231, rfl, h232⟩, F235⟩ hS234
          have hC235 := hC229.trans F235 (fun _ h => h.elim)
          replace h195 := OwS.fr h195 F235 (fun _ _ h => h)
          replace h220 := OwS.fr h220 F235 (fun _ _ h => h)
          replace h226 := OwS.fr h226 F235 (fun _ _ h => h)
          replace hp1 := RdS.fr hp1 F235 (by decide) (fun _ _ h => h)
          replace hp2 := RdS.fr hp2 F235 (by decide) (fun _ _ h => h)
          replace hF := hF.trans F235 (fun _ h => h.elim)
          refine d_pure hS234 9 #[true, true, true, true, true, true, true, true, true, true] rfl rfl rfl rfl (by kernel_rfl) (fun _ _ _ h => h) (fun _ => (r_assign hS234 rfl rfl)) fun a236 hS236 => d_done (by kernel_rfl) ?_
          exact ⟨g235, b231, A193, cap194, A224, cap225, A218, cap219, hS236.re ⟨rfl, rfl, trivial⟩, h195, h226, h220, h232, hp1, hp2, hF⟩
      · rintro _ a241 w242 g242 ⟨⟨A237, cap238, rfl, h239⟩, F242⟩ hS241
        have hC242 := hC.trans F242 (fun _ h => h.elim)
        replace hp1 := RdS.fr hp1 F242 (by decide) (fun _ _ h => h)
        replace hp2 := RdS.fr hp2 F242 (by decide) (fun _ _ h => h)
        replace hF := hF.trans F242 (fun _ h => h.elim)
        refine d_two 2 6 #[true, true, true, true, true, true, false, false, false, false] #[true, true, false, true, true, true, true, false, false, false] rfl rfl (by kernel_rfl) (arm_eff hS241 rfl rfl rfl (e_make (e := 38) (sz := 4) (by_ := 32) (z := [.int .i64 0, .int .i64 0, .int .u64 0, .int .u64 0]) (kd := kd_api_Slot) (N + 0) g242 hS241 rfl rfl (by kernel_rfl) (by kernel_rfl) rfl rfl rfl (fun _ _ _ => by exact rfl) hy19) (fun _ _ g' hR _ => ⟨g', hC242.trans hR.2 (fun _ h => h.elim)⟩) ?_) (arm_eff hS241 rfl rfl rfl (e_make (e := 33) (sz := 1) (by_ := 8) (z := [.int .u64 0]) (kd := (kint .u64)) (N + 4) g242 hS241 rfl rfl (by kernel_rfl) (by kernel_rfl) rfl rfl rfl (fun _ _ _ => by exact rfl) hy31) (fun _ _ g' hR _ => ⟨g', hC242.trans hR.2 (fun _ h => h.elim)⟩) ?_)
        · rintro _ a247 w248 g248 ⟨⟨A243, cap244, rfl, h245⟩, F248⟩ hS247
          have hC248 := hC242.trans F248 (fun _ h => h.elim)
          replace h239 := OwS.fr h239 F248 (fun _ _ h => h)
          replace hp1 := RdS.fr hp1 F248 (by decide) (fun _ _ h => h)
          replace hp2 := RdS.fr hp2 F248 (by decide) (fun _ _ h => h)
          replace hF := hF.trans F248 (fun _ h => h.elim)
          refine d_one 6 #[true, true, true, true, true, true, true, false, false, false] rfl (by kernel_rfl) (arm_eff hS247 rfl rfl rfl (e_make (e := 33) (sz := 1) (by_ := 8) (z := [.int .u64 0]) (kd := (kint .u64)) (N + 4) g248 hS247 rfl rfl (by kernel_rfl) (by kernel_rfl) rfl rfl rfl (fun _ _ _ => by exact rfl) hy31) (fun _ _ g' hR _ => ⟨g', hC248.trans hR.2 (fun _ h => h.elim)⟩) ?_)
          rintro _ a253 w254 g254 ⟨⟨A249, cap250, rfl, h251⟩, F254⟩ hS253
          have hC254 := hC248.trans F254 (fun _ h => h.elim)
          replace h239 := OwS.fr h239 F254 (fun _ _ h => h)
          replace h245 := OwS.fr h245 F254 (fun _ _ h => h)
          replace hp1 := RdS.fr hp1 F254 (by decide) (fun _ _ h => h)
          replace hp2 := RdS.fr hp2 F254 (by decide) (fun _ _ h => h)
          replace hF := hF.trans F254 (fun _ h => h.elim)
          refine d_pure hS253 7 #[true, true, true, true, true, true, true, true, false, false] rfl rfl rfl rfl (by kernel_rfl) (fun _ _ _ h => h) (fun _ => (r_build (parts := [(0, .slice A1 p1.length cap1), (1, .slice A243 y18.length cap244), (2, .slice A237 y24.length cap238), (3, .slice A249 y30.length cap250)]) (u := .agg #[.slice A1 p1.length cap1, .slice A243 y18.length cap244, .slice A237 y24.length cap238, .slice A249 y30.length cap250, .int .u64 0]) hS253 rfl rfl (fun _ => by kernel_rfl))) fun a255 hS255 => ?_
          refine d_one 8 #[true, true, true, true, true, true, true, true, true, false] rfl (by kernel_rfl) (arm_eff hS255 rfl rfl rfl (e_box (cs := [.slice A1 p1.length cap1, .slice A243 y18.length cap244, .slice A237 y24.length cap238, .slice A249 y30.length cap250, .int .u64 0]) (N + 6) g254 hS255 rfl rfl rfl) (fun _ _ g' hR _ => ⟨g', hC254.trans hR.2 (fun _ h => h.elim)⟩) ?_)
          rintro _ a259 w260 g260 ⟨⟨b256, rfl, h257⟩, F260⟩ hS259
          have hC260 := hC254.trans F260 (fun _ h => h.elim)
          replace h239 := OwS.fr h239 F260 (fun _ _ h => h)
          replace h245 := OwS.fr h245 F260 (fun _ _ h => h)
          replace h251 := OwS.fr h251 F260 (fun _ _ h => h)
          replace hp1 := RdS.fr hp1 F260 (by decide) (fun _ _ h => h)
          replace hp2 := RdS.fr hp2 F260 (by decide) (fun _ _ h => h)
          replace hF := hF.trans F260 (fun _ h => h.elim)
          refine d_pure hS259 9 #[true, true, true, true, true, true, true, true, true, true] rfl rfl rfl rfl (by kernel_rfl) (fun _ _ _ h => h) (fun _ => (r_assign hS259 rfl rfl)) fun a261 hS261 => d_done (by kernel_rfl) ?_
          exact ⟨g260, b256, A243, cap244, A237, cap238, A249, cap250, hS261.re ⟨rfl, rfl, trivial⟩, h245, h239, h251, h257, hp1, hp2, hF⟩
        · rintro _ a266 w267 g267 ⟨⟨A262, cap263, rfl, h264⟩, F267⟩ hS266
          have hC267 := hC242.trans F267 (fun _ h => h.elim)
          replace h239 := OwS.fr h239 F267 (fun _ _ h => h)
          replace hp1 := RdS.fr hp1 F267 (by decide) (fun _ _ h => h)
          replace hp2 := RdS.fr hp2 F267 (by decide) (fun _ _ h => h)
          replace hF := hF.trans F267 (fun _ h => h.elim)
          refine d_one 2 #[true, true, true, true, true, true, true, false, false, false] rfl (by kernel_rfl) (arm_eff hS266 rfl rfl rfl (e_make (e := 38) (sz := 4) (by_ := 32) (z := [.int .i64 0, .int .i64 0, .int .u64 0, .int .u64 0]) (kd := kd_api_Slot) (N + 0) g267 hS266 rfl rfl (by kernel_rfl) (by kernel_rfl) rfl rfl rfl (fun _ _ _ => by exact rfl) hy19) (fun _ _ g' hR _ => ⟨g', hC267.trans hR.2 (fun _ h => h.elim)⟩) ?_)
          rintro _ a272 w273 g273 ⟨⟨A268, cap269, rfl, h270⟩, F273⟩ hS272
          have hC273 := hC267.trans F273 (fun _ h => h.elim)
          replace h239 := OwS.fr h239 F273 (fun _ _ h => h)
          replace h264 := OwS.fr h264 F273 (fun _ _ h => h)
          replace hp1 := RdS.fr hp1 F273 (by decide) (fun _ _ h => h)
          replace hp2 := RdS.fr hp2 F273 (by decide) (fun _ _ h => h)
          replace hF := hF.trans F273 (fun _ h => h.elim)
          refine d_pure hS272 7 #[true, true, true, true, true, true, true, true, false, false] rfl rfl rfl rfl (by kernel_rfl) (fun _ _ _ h => h) (fun _ => (r_build (parts := [(0, .slice A1 p1.length cap1), (1, .slice A268 y18.length cap269), (2, .slice A237 y24.length cap238), (3, .slice A262 y30.length cap263)]) (u := .agg #[.slice A1 p1.length cap1, .slice A268 y18.length cap269, .slice A237 y24.length cap238, .slice A262 y30.length cap263, .int .u64 0]) hS272 rfl rfl (fun _ => by kernel_rfl))) fun a274 hS274 => ?_
          refine d_one 8 #[true, true, true, true, true, true, true, true, true, false] rfl (by kernel_rfl) (arm_eff hS274 rfl rfl rfl (e_box (cs := [.slice A1 p1.length cap1, .slice A268 y18.length cap269, .slice A237 y24.length cap238, .slice A262 y30.length cap263, .int .u64 0]) (N + 6) g273 hS274 rfl rfl rfl) (fun _ _ g' hR _ => ⟨g', hC273.trans hR.2 (fun _ h => h.elim)⟩) ?_)
          rintro _ a278 w279 g279 ⟨⟨b275, rfl, h276⟩, F279⟩ hS278
          have hC279 := hC273.trans F279 (fun _ h => h.elim)
          replace h239 := OwS.fr h239 F279 (fun _ _ h => h)
          replace h264 := OwS.fr h264 F279 (fun _ _ h => h)
          replace h270 := OwS.fr h270 F279 (fun _ _ h => h)
          replace hp1 := RdS.fr hp1 F279 (by decide) (fun _ _ h => h)
          replace hp2 := RdS.fr hp2 F279 (by decide) (fun _ _ h => h)
          replace hF := hF.trans F279 (fun _ h => h.elim)
          refine d_pure hS278 9 #[true, true, true, true, true, true, true, true, true, true] rfl rfl rfl rfl (by kernel_rfl) (fun _ _ _ h => h) (fun _ => (r_assign hS278 rfl rfl)) fun a280 hS280 => d_done (by kernel_rfl) ?_
          exact ⟨g279, b275, A268, cap269, A237, cap238, A262, cap263, hS280.re ⟨rfl, rfl, trivial⟩, h270, h239, h264, h276, hp1, hp2, hF⟩
      · rintro _ a285 w286 g286 ⟨⟨A281, cap282, rfl, h283⟩, F286⟩ hS285
        have hC286 := hC.trans F286 (fun _ h => h.elim)
        replace hp1 := RdS.fr hp1 F286 (by decide) (fun _ _ h => h)
        replace hp2 := RdS.fr hp2 F286 (by decide) (fun _ _ h => h)
        replace hF := hF.trans F286 (fun _ h => h.elim)
        refine d_two 2 4 #[true, true, true, true, false, true, true, false, false, false] #[true, true, false, true, true, true, true, false, false, false] rfl rfl (by kernel_rfl) (arm_eff hS285 rfl rfl rfl (e_make (e := 38) (sz := 4) (by_ := 32) (z := [.int .i64 0, .int .i64 0, .int .u64 0, .int .u64 0]) (kd := kd_api_Slot) (N + 0) g286 hS285 rfl rfl (by kernel_rfl) (by kernel_rfl) rfl rfl rfl (fun _ _ _ => by exact rfl) hy19) (fun _ _ g' hR _ => ⟨g', hC286.trans hR.2 (fun _ h => h.elim)⟩) ?_) (arm_eff hS285 rfl rfl rfl (e_make (e := 4) (sz := 1) (by_ := 1) (z := [.bool false]) (kd := kbool) (N + 2) g286 hS285 rfl rfl (by kernel_rfl) (by kernel_rfl) rfl rfl rfl (fun _ _ _ => by exact rfl) hy25) (fun _ _ g' hR _ => ⟨g', hC286.trans hR.2 (fun _ h => h.elim)⟩) ?_)
        · rintro _ a291 w292 g292 ⟨⟨A287, cap288, rfl, h289⟩, F292⟩ hS291
          have hC292 := hC286.trans F292 (fun _ h => h.elim)
          replace h283 := OwS.fr h283 F292 (fun _ _ h => h)
          replace hp1 := RdS.fr hp1 F292 (by decide) (fun _ _ h => h)
          replace hp2 := RdS.fr hp2 F292 (by decide) (fun _ _ h => h)
          replace hF := hF.trans F292 (fun _ h => h.elim)
          refine d_one 4 #[true, true, true, true, true, true, true, false, false, false] rfl (by kernel_rfl) (arm_eff hS291 rfl rfl rfl (e_make (e := 4) (sz := 1) (by_ := 1) (z := [.bool false]) (kd := kbool) (N + 2) g292 hS291 rfl rfl (by kernel_rfl) (by kernel_rfl) rfl rfl rfl (fun _ _ _ => by exact rfl) hy25) (fun _ _ g' hR _ => ⟨g', hC292.trans hR.2 (fun _ h => h.elim)⟩) ?_)
          rintro _ a297 w298 g298 ⟨⟨A293, cap294, rfl, h295⟩, F298⟩ hS297
          have hC298 := hC292.trans F298 (fun _ h => h.elim)
          replace h283 := OwS.fr h283 F298 (fun _ _ h => h)
          replace h289 := OwS.fr h289 F298 (fun _ _ h => h)
          replace hp1 := RdS.fr hp1 F298 (by decide) (fun _ _ h => h)
          replace hp2 := RdS.fr hp2 F298 (by decide) (fun _ _ h => h)
          replace hF := hF.trans F298 (fun _ h => h.elim)
          refine d_pure hS297 7 #[true, true, true, true, true, true, true, true, false, false] rfl rfl rfl rfl (by kernel_rfl) (fun _ _ _ h => h) (fun _ => (r_build (parts := [(0, .slice A1 p1.length cap1), (1, .slice A287 y18.length cap288), (2, .slice A293 y24.length cap294), (3, .slice A281 y30.length cap282)]) (u := .agg #[.slice A1 p1.length cap1, .slice A287 y18.length cap288, .slice A293 y24.length cap294, .slice A281 y30.length cap282, .int .u64 0]) hS297 rfl rfl (fun _ => by kernel_rfl))) fun a299 hS299 => ?_
          refine d_one 8 #[true, true, true, true, true, true, true, true, true, false] rfl (by kernel_rfl) (arm_eff hS299 rfl rfl rfl (e_box (cs := [.slice A1 p1.length cap1, .slice A287 y18.length cap288, .slice A293 y24.length cap294, .slice A281 y30.length cap282, .int .u64 0]) (N + 6) g298 hS299 rfl rfl rfl) (fun _ _ g' hR _ => ⟨g', hC298.trans hR.2 (fun _ h => h.elim)⟩) ?_)
          rintro _ a303 w304 g304 ⟨⟨b300, rfl, h301⟩, F304⟩ hS303
          have hC304 := hC298.trans F304 (fun _ h => h.elim)
          replace h283 := OwS.fr h283 F304 (fun _ _ h => h)
          replace h289 := OwS.fr h289 F304 (fun _ _ h => h)
          replace h295 := OwS.fr h295 F304 (fun _ _ h => h)
          replace hp1 := RdS.fr hp1 F304 (by decide) (fun _ _ h => h)
          replace hp2 := RdS.fr hp2 F304 (by decide) (fun _ _ h => h)
          replace hF := hF.trans F304 (fun _ h => h.elim)
          refine d_pure hS303 9 #[true, true, true, true, true, true, true, true, true, true] rfl rfl rfl rfl (by kernel_rfl) (fun _ _ _ h => h) (fun _ => (r_assign hS303 rfl rfl)) fun a305 hS305 => d_done (by kernel_rfl) ?_
          exact ⟨g304, b300, A287, cap288, A293, cap294, A281, cap282, hS305.re ⟨rfl, rfl, trivial⟩, h289, h295, h283, h301, hp1, hp2, hF⟩
        · rintro _ a310 w311 g311 ⟨⟨A306, cap307, rfl, h308⟩, F311⟩ hS310
          have hC311 := hC286.trans F311 (fun _ h => h.elim)
          replace h283 := OwS.fr h283 F311 (fun _ _ h => h)
          replace hp1 := RdS.fr hp1 F311 (by decide) (fun _ _ h => h)
          replace hp2 := RdS.fr hp2 F311 (by decide) (fun _ _ h => h)
          replace hF := hF.trans F311 (fun _ h => h.elim)
          refine d_one 2 #[true, true, true, true, true, true, true, false, false, false] rfl (by kernel_rfl) (arm_eff hS310 rfl rfl rfl (e_make (e := 38) (sz := 4) (by_ := 32) (z := [.int .i64 0, .int .i64 0, .int .u64 0, .int .u64 0]) (kd := kd_api_Slot) (N + 0) g311 hS310 rfl rfl (by kernel_rfl) (by kernel_rfl) rfl rfl rfl (fun _ _ _ => by exact rfl) hy19) (fun _ _ g' hR _ => ⟨g', hC311.trans hR.2 (fun _ h => h.elim)⟩) ?_)
          rintro _ a316 w317 g317 ⟨⟨A312, cap313, rfl, h314⟩, F317⟩ hS316
          have hC317 := hC311.trans F317 (fun _ h => h.elim)
          replace h283 := OwS.fr h283 F317 (fun _ _ h => h)
          replace h308 := OwS.fr h308 F317 (fun _ _ h => h)
          replace hp1 := RdS.fr hp1 F317 (by decide) (fun _ _ h => h)
          replace hp2 := RdS.fr hp2 F317 (by decide) (fun _ _ h => h)
          replace hF := hF.trans F317 (fun _ h => h.elim)
          refine d_pure hS316 7 #[true, true, true, true, true, true, true, true, false, false] rfl rfl rfl rfl (by kernel_rfl) (fun _ _ _ h => h) (fun _ => (r_build (parts := [(0, .slice A1 p1.length cap1), (1, .slice A312 y18.length cap313), (2, .slice A306 y24.length cap307), (3, .slice A281 y30.length cap282)]) (u := .agg #[.slice A1 p1.length cap1, .slice A312 y18.length cap313, .slice A306 y24.length cap307, .slice A281 y30.length cap282, .int .u64 0]) hS316 rfl rfl (fun _ => by kernel_rfl))) fun a318 hS318 => ?_
          refine d_one 8 #[true, true, true, true, true, true, true, true, true, false] rfl (by kernel_rfl) (arm_eff hS318 rfl rfl rfl (e_box (cs := [.slice A1 p1.length cap1, .slice A312 y18.length cap313, .slice A306 y24.length cap307, .slice A281 y30.length cap282, .int .u64 0]) (N + 6) g317 hS318 rfl rfl rfl) (fun _ _ g' hR _ => ⟨g', hC317.trans hR.2 (fun _ h => h.elim)⟩) ?_)
          rintro _ a322 w323 g323 ⟨⟨b319, rfl, h320⟩, F323⟩ hS322
          have hC323 := hC317.trans F323 (fun _ h => h.elim)
          replace h283 := OwS.fr h283 F323 (fun _ _ h => h)
          replace h308 := OwS.fr h308 F323 (fun _ _ h => h)
          replace h314 := OwS.fr h314 F323 (fun _ _ h => h)
          replace hp1 := RdS.fr hp1 F323 (by decide) (fun _ _ h => h)
          replace hp2 := RdS.fr hp2 F323 (by decide) (fun _ _ h => h)
          replace hF := hF.trans F323 (fun _ h => h.elim)
          refine d_pure hS322 9 #[true, true, true, true, true, true, true, true, true, true] rfl rfl rfl rfl (by kernel_rfl) (fun _ _ _ h => h) (fun _ => (r_assign hS322 rfl rfl)) fun a324 hS324 => d_done (by kernel_rfl) ?_
          exact ⟨g323, b319, A312, cap313, A306, cap307, A281, cap282, hS324.re ⟨rfl, rfl, trivial⟩, h314, h308, h283, h320, hp1, hp2, hF⟩
    clear hp1 hp2 hF
    clear hS
    rintro a w176 ⟨g176, b177, A179, cap180, A182, cap183, A185, cap186, hS, h181, h184, h187, h178, hp1, hp2, hF⟩
    refine c_pure [(2, .slice A2 p2.length cap2), (11, .pointer (some ⟨b177, 0, none⟩)), (12, .slice none 0 0)] (fun R hR => st_val hS rfl rfl rfl (r_assign hS rfl rfl) fun a325 hS325 => wpList_nil (hR _ (hS325.re ⟨rfl, rfl, rfl, trivial⟩))) ?_
    clear hS
    clear a
    intro a hS
    refine wp_block ?_
    refine wp_loop_ghost (fun kq => fun a w326 => ∃ (m0_0 : resume_scheduler), ∃ (m0_1 : List api_Slot), ∃ (g326 : Nat → Nat), ∃ (A327 : Option Addr), ∃ (cap328 : Nat), resume_Schedule.l0 p2 kq m0_0 m0_1 = some out ∧ Sl 98 a [(2, .slice A2 p2.length cap2), (11, .pointer (some ⟨b177, 0, none⟩)), (12, .slice A327 m0_1.length cap328)] ∧ OwS kd_api_Slot 38 w326 g326 (N + 0) A179 cap180 m0_0.slot ∧ OwS kbool 4 w326 g326 (N + 2) A182 cap183 m0_0.begun ∧ OwS (kint .u64) 33 w326 g326 (N + 4) A185 cap186 m0_0.free ∧ Bx w326 g326 (N + 6) b177 76 [.slice A1 m0_0.links.length cap1, .slice A179 m0_0.slot.length cap180, .slice A182 m0_0.begun.length cap183, .slice A185 m0_0.free.length cap186, .int .u64 m0_0.now] ∧ OwS kd_api_Slot 38 w326 g326 (N + 15) A327 cap328 m0_1 ∧ RdS kd_api_Link w326 g326 C1 A1 cap1 m0_0.links ∧ RdS (kint .u64) w326 g326 C2 A2 cap2 p2 ∧ Fr (fun q => (r0 ≤ q ∧ q < r0 + 2) ∨ N ≤ q) w g w326 g326) FUEL ?_ ?_
    · exact ⟨(resume_scheduler.mk p1 y18 y24 y30 0), [], g176, none, 0, H, hS.re ⟨rfl, rfl, rfl, trivial⟩, h181, h184, h187, h178, OwS.nil kd_api_Slot 38 w176 g176 (N + 15), hp1, hp2, hF⟩
    · clear H
      clear hp1 hp2 h181 h184 h187 h178 hF
      clear hS
      rintro k330 a w326 ⟨m0_0, m0_1, g326, A327, cap328, hpre0, hS, h181, h184, h187, h178, h329, hp1, hp2, hF⟩
      have H := hpre0
      clear hpre0
      cases k330 with
      | zero => exact absurd H (by simp [resume_Schedule.l0])
      | succ k330 =>
        rw [resume_Schedule.l0] at H
        refine wp_block ?_
        obtain ⟨r335, hr336, H⟩ := bind_el H
        obtain ⟨r340, hr341, H⟩ := bind_el H
        refine c_region (fun K hK => ?_)
        refine st_val hS rfl rfl rfl (r_move hS rfl rfl) fun a331 hS331 => ?_
        have F332 := Fr.recol2 w326 g326 (N + 0) (N + 6 + 1)
        replace h181 := h181.recol2 (N + 6 + 1)
        replace h184 := OwS.fr h184 F332 (fun c' hc (hm : c' = N + 0 ∨ c' = N + 0 + 1) => by omega)
        replace h187 := OwS.fr h187 F332 (fun c' hc (hm : c' = N + 0 ∨ c' = N + 0 + 1) => by omega)
        replace h178 := h178.fr F332 (fun (hm : N + 6 = N + 0 ∨ N + 6 = N + 0 + 1) => by omega)
        replace h329 := OwS.fr h329 F332 (fun c' hc (hm : c' = N + 0 ∨ c' = N + 0 + 1) => by omega)
        replace hp1 := RdS.fr hp1 F332 (by decide) (fun q (hq : C1 q) (hm : q = N + 0 ∨ q = N + 0 + 1) => by have := hC1 q hq; omega)
        replace hp2 := RdS.fr hp2 F332 (by decide) (fun q (hq : C2 q) (hm : q = N + 0 ∨ q = N + 0 + 1) => by have := hC2 q hq; omega)
        replace hF := hF.trans F332 (fun c' (hm : c' = N + 0 ∨ c' = N + 0 + 1) => by show (r0 ≤ c' ∧ c' < r0 + 2) ∨ N ≤ c'; omega)
        have F333 := Fr.recol2 w326 (recol2 g326 (N + 0) (N + 6 + 1)) (N + 2) (N + 6 + 3)
        replace h184 := h184.recol2 (N + 6 + 3)
        replace h181 := OwS.fr h181 F333 (fun c' hc (hm : c' = N + 2 ∨ c' = N + 2 + 1) => by omega)
        replace h187 := OwS.fr h187 F333 (fun c' hc (hm : c' = N + 2 ∨ c' = N + 2 + 1) => by omega)
        replace h178 := h178.fr F333 (fun (hm : N + 6 = N + 2 ∨ N + 6 = N + 2 + 1) => by omega)
        replace h329 := OwS.fr h329 F333 (fun c' hc (hm : c' = N + 2 ∨ c' = N + 2 + 1) => by omega)
        replace hp1 := RdS.fr hp1 F333 (by decide) (fun q (hq : C1 q) (hm : q = N + 2 ∨ q = N + 2 + 1) => by have := hC1 q hq; omega)
        replace hp2 := RdS.fr hp2 F333 (by decide) (fun q (hq : C2 q) (hm : q = N + 2 ∨ q = N + 2 + 1) => by have := hC2 q hq; omega)
        replace hF := hF.trans F333 (fun c' (hm : c' = N + 2 ∨ c' = N + 2 + 1) => by show (r0 ≤ c' ∧ c' < r0 + 2) ∨ N ≤ c'; omega)
        have F334 := Fr.recol2 w326 (recol2 (recol2 g326 (N + 0) (N + 6 + 1)) (N + 2) (N + 6 + 3)) (N + 4) (N + 6 + 5)
        replace h187 := h187.recol2 (N + 6 + 5)
        replace h181 := OwS.fr h181 F334 (fun c' hc (hm : c' = N + 4 ∨ c' = N + 4 + 1) => by omega)
        replace h184 := OwS.fr h184 F334 (fun c' hc (hm : c' = N + 4 ∨ c' = N + 4 + 1) => by omega)
        replace h178 := h178.fr F334 (fun (hm : N + 6 = N + 4 ∨ N + 6 = N + 4 + 1) => by omega)
        replace h329 := OwS.fr h329 F334 (fun c' hc (hm : c' = N + 4 ∨ c' = N + 4 + 1) => by omega)
        replace hp1 := RdS.fr hp1 F334 (by decide) (fun q (hq : C1 q) (hm : q = N + 4 ∨ q = N + 4 + 1) => by have := hC1 q hq; omega)
        replace hp2 := RdS.fr hp2 F334 (by decide) (fun q (hq : C2 q) (hm : q = N + 4 ∨ q = N + 4 + 1) => by have := hC2 q hq; omega)
        replace hF := hF.trans F334 (fun c' (hm : c' = N + 4 ∨ c' = N + 4 + 1) => by show (r0 ≤ c' ∧ c' < r0 + 2) ∨ N ≤ c'; omega)
        refine st_enter hS331 rfl rfl rfl (r_call hS331 rfl rfl (by kernel_rfl)) (resume_scheduler_ready.calls (c0 := N + 6) (b_p0 := b177) (A_links_p0 := A1) (cap_links_p0 := cap1) (C_links_p0 := C1) (A_slot_p0 := A179) (cap_slot_p0 := cap180) (A_begun_p0 := A182) (cap_begun_p0 := cap183) (A_free_p0 := A185) (cap_free_p0 := cap186) (p0 := m0_0) (g := (recol2 (recol2 (recol2 g326 (N + 0) (N + 6 + 1)) (N + 2) (N + 6 + 3)) (N + 4) (N + 6 + 5))) (N + 17)  ⟨h178, hp1, h181, h184, h187⟩ (by omega) (fun q (hq : C1 q) => by have := hC1 q hq; omega) hr336) ?_
        rintro _ a337 w338 ⟨g338, rfl, F338⟩ hS337
        replace h181 := OwS.fr h181 F338 (fun c' hc (hm : N + 17 ≤ c') => by omega)
        replace h184 := OwS.fr h184 F338 (fun c' hc (hm : N + 17 ≤ c') => by omega)
        replace h187 := OwS.fr h187 F338 (fun c' hc (hm : N + 17 ≤ c') => by omega)
        replace h178 := h178.fr F338 (fun (hm : N + 17 ≤ N + 6) => by omega)
        replace h329 := OwS.fr h329 F338 (fun c' hc (hm : N + 17 ≤ c') => by omega)
        replace hp1 := RdS.fr hp1 F338 (by decide) (fun q (hq : C1 q) (hm : N + 17 ≤ q) => by have := hC1 q hq; omega)
        replace hp2 := RdS.fr hp2 F338 (by decide) (fun q (hq : C2 q) (hm : N + 17 ≤ q) => by have := hC2 q hq; omega)
        replace hF := hF.trans F338 (fun c' (hm : N + 17 ≤ c') => by show (r0 ≤ c' ∧ c' < r0 + 2) ∨ N ≤ c'; omega)
        refine st_val hS337 rfl rfl rfl (r_move hS337 rfl rfl) fun a339 hS339 => ?_
        refine st_enter hS339 rfl rfl rfl (r_call hS339 rfl rfl (by kernel_rfl)) (resume_scheduler_worker.calls (c0 := N + 6) (b_p0 := b177) (A_links_p0 := A1) (cap_links_p0 := cap1) (C_links_p0 := C1) (A_slot_p0 := A179) (cap_slot_p0 := cap180) (A_begun_p0 := A182) (cap_begun_p0 := cap183) (A_free_p0 := A185) (cap_free_p0 := cap186) (p0 := m0_0) (g := g338) (N + 17)  ⟨h178, hp1, h181, h184, h187⟩ (by omega) (fun q (hq : C1 q) => by have := hC1 q hq; omega) hr341) ?_
        rintro _ a342 w343 ⟨g343, rfl, F343⟩ hS342
        replace h181 := OwS.fr h181 F343 (fun c' hc (hm : N + 17 ≤ c') => by omega)
        replace h184 := OwS.fr h184 F343 (fun c' hc (hm : N + 17 ≤ c') => by omega)
        replace h187 := OwS.fr h187 F343 (fun c' hc (hm : N + 17 ≤ c') => by omega)
        replace h178 := h178.fr F343 (fun (hm : N + 17 ≤ N + 6) => by omega)
        replace h329 := OwS.fr h329 F343 (fun c' hc (hm : N + 17 ≤ c') => by omega)
        replace hp1 := RdS.fr hp1 F343 (by decide) (fun q (hq : C1 q) (hm : N + 17 ≤ q) => by have := hC1 q hq; omega)
        replace hp2 := RdS.fr hp2 F343 (by decide) (fun q (hq : C2 q) (hm : N + 17 ≤ q) => by have := hC2 q hq; omega)
        replace hF := hF.trans F343 (fun c' (hm : N + 17 ≤ c') => by show (r0 ≤ c' ∧ c' < r0 + 2) ∨ N ≤ c'; omega)
        refine st_val hS342 rfl rfl rfl (r_assign hS342 rfl rfl) fun a344 hS344 => st_val hS344 rfl rfl rfl (r_assign hS344 rfl rfl) fun a345 hS345 => wpList_nil (hK _ _ ?_)
        replace hS : Sl 98 _ [(2, .slice A2 p2.length cap2), (11, .pointer (some ⟨b177, 0, none⟩)), (12, .slice A327 m0_1.length cap328), (13, .int .i64 r335), (14, .int .i64 r340)] := hS345.re ⟨rfl, rfl, rfl, rfl, rfl, trivial⟩
        clear hK K
        try clear hS331 hS337 hS339 hS342 hS344 hS345
        obtain ⟨a, ha⟩ : ∃ a', a' = a345 := ⟨_, rfl⟩
        rw [← ha] at hS ⊢; clear ha
        refine wp_seq ?_
        refine c_region (fun K hK => ?_)
        refine st_val hS rfl rfl rfl (r_move hS rfl rfl) fun a346 hS346 => st_val hS346 rfl rfl rfl (r_bin hS346 rfl rfl rfl b_geq) fun a347 hS347 => st_val hS347 rfl rfl rfl (r_move hS347 rfl rfl) fun a348 hS348 => ?_
        refine g_join (N := 98) 3 [(2, .slice A2 p2.length cap2), (11, .pointer (some ⟨b177, 0, none⟩)), (12, .slice A327 m0_1.length cap328), (13, .int .i64 r335), (14, .int .i64 r340), (41, .bool ((decide (0 ≤ r335)) && (decide (0 ≤ r340))))] ?_ (fun hk => ?_)
        rotate_left
        · rcases Bool.eq_false_or_eq_true (decide (0 ≤ r335)) with hb349 | hb349
          · refine st_valW hS348 (want_on hS348 rfl rfl rfl hb349) rfl rfl (r_move hS348 rfl rfl) fun a352 hS352 => st_valW hS352 (want_on hS352 rfl rfl rfl hb349) rfl rfl (r_bin hS352 rfl rfl rfl b_geq) fun a353 hS353 => st_val hS353 rfl rfl rfl (r_pickT hS353 rfl rfl rfl hb349) fun a354 hS354 => hk _ (hS354.re ⟨rfl, rfl, rfl, rfl, rfl, (by rw [hb349]; rfl), trivial⟩)
          · refine st_off hS348 (want_off hS348 rfl rfl rfl hb349) rfl rfl fun a355 hS355 => st_off hS355 (want_off hS355 rfl rfl rfl hb349) rfl rfl fun a356 hS356 => st_val hS356 rfl rfl rfl (r_pickF hS356 rfl rfl rfl hb349) fun a357 hS357 => hk _ (hS357.re ⟨rfl, rfl, rfl, rfl, rfl, (by rw [hb349]; rfl), trivial⟩)
        intro a358 hS358
        refine wpList_nil (hK _ _ ?_)
        replace hS : Sl 98 _ [(2, .slice A2 p2.length cap2), (11, .pointer (some ⟨b177, 0, none⟩)), (12, .slice A327 m0_1.length cap328), (13, .int .i64 r335), (14, .int .i64 r340), (41, .bool ((decide (0 ≤ r335)) && (decide (0 ≤ r340))))] := hS358.re ⟨rfl, rfl, rfl, rfl, rfl, rfl, trivial⟩
        clear hK K
        try clear hS346 hS347 hS348 hS358
        obtain ⟨a, ha⟩ : ∃ a', a' = a358 := ⟨_, rfl⟩
        rw [← ha] at hS ⊢; clear ha
        refine c_cond hS rfl (fun hb359 => ?_) (fun hb359 => ?_)
        · replace H := ite_t hb359 H
          obtain ⟨x365, hx366, H⟩ := bind_el H
          refine c_region (fun K hK => ?_)
          refine st_val hS rfl rfl rfl (r_move hS rfl rfl) fun a360 hS360 => st_val hS360 rfl rfl rfl (r_nil hS360 rfl rfl) fun a361 hS361 => st_val hS361 rfl rfl rfl (r_fieldB (off := 2) hS361 rfl rfl (by kernel_rfl)) fun a362 hS362 => st_val hS362 rfl rfl rfl (r_load1 (n := 1) hS362 rfl rfl (by kernel_rfl) (Bx.cell h178 rfl)) fun a363 hS363 => st_val hS363 rfl rfl rfl (r_move hS363 rfl rfl) fun a364 hS364 => st_val hS364 rfl rfl rfl (r_index (e := 4) (sz := 1) (by_ := 1) hS364 rfl rfl rfl (by kernel_rfl) (RdS.some_ (OwS.rd h184) hx366) (idx_lo hx366) (idx_hi hx366)) fun a367 hS367 => ?_
          refine st_effS hS367 rfl rfl (e_storeE (n := 1) (bb := false) (kd := kbool) (j := 0) (x' := true) (us := [.bool true]) g343 hS367 rfl rfl rfl rfl (by kernel_rfl) rfl rfl (by intro v hv; simp only [List.mem_cons, List.not_mem_nil, or_false] at hv; rcases hv with rfl <;> rfl) h184 hx366 rfl (fun _ _ cs hR => by rw [show cs = _ from hR]; rfl)) ?_
          rintro a368 w369 g369 ⟨h184, F369⟩ hS368
          replace h181 := OwS.fr h181 F369 (fun c' hc (hm : c' = N + 6 + 3) => by omega)
          replace h187 := OwS.fr h187 F369 (fun c' hc (hm : c' = N + 6 + 3) => by omega)
          replace h178 := h178.fr F369 (fun (hm : N + 6 = N + 6 + 3) => by omega)
          replace h329 := OwS.fr h329 F369 (fun c' hc (hm : c' = N + 6 + 3) => by omega)
          replace hp1 := RdS.fr hp1 F369 (by decide) (fun q (hq : C1 q) (hm : q = N + 6 + 3) => by have := hC1 q hq; omega)
          replace hp2 := RdS.fr hp2 F369 (by decide) (fun q (hq : C2 q) (hm : q = N + 6 + 3) => by have := hC2 q hq; omega)
          replace hF := hF.trans F369 (fun c' (hm : c' = N + 6 + 3) => by show (r0 ≤ c' ∧ c' < r0 + 2) ∨ N ≤ c'; omega)
          replace h178 : Bx w369 g369 (N + 6) b177 76 [.slice A1 m0_0.links.length cap1, .slice A179 m0_0.slot.length cap180, .slice A182 (upd m0_0.begun r335 true).length cap183, .slice A185 m0_0.free.length cap186, .int .u64 m0_0.now] := by simpa only [upd_length] using h178
          refine wpList_nil (hK _ _ ?_)
          replace hS : Sl 98 _ [(2, .slice A2 p2.length cap2), (11, .pointer (some ⟨b177, 0, none⟩)), (12, .slice A327 m0_1.length cap328), (13, .int .i64 r335), (14, .int .i64 r340)] := hS368.re ⟨rfl, rfl, rfl, rfl, rfl, trivial⟩
          clear hK K
          try clear hS360 hS361 hS362 hS363 hS364 hS367 hS368
          obtain ⟨a, ha⟩ : ∃ a', a' = a368 := ⟨_, rfl⟩
          rw [← ha] at hS ⊢; clear ha
          obtain ⟨x370, hx371, H⟩ := bind_el H
          obtain ⟨x372, hx373, H⟩ := bind_el H
          refine c_draw (fun K hK => d_start (fun q => False) g369 [22] 23 #[false, false, false, false, false, false, false, false, false, false, false, false, false, false, false, false, false, false, false, false, false, false, false] (by kernel_rfl) rfl rfl (fun w374 hw374 => ?_))
          have F374 : Fr (fun _ => False) w369 g369 w374 g369 := by rw [hw374]; exact Fr.drew _ _ _
          replace h181 := OwS.fr h181 F374 (fun _ _ h => h)
          replace h184 := OwS.fr h184 F374 (fun _ _ h => h)
          replace h187 := OwS.fr h187 F374 (fun _ _ h => h)
          replace h178 := h178.fr F374 (fun h => h)
          replace h329 := OwS.fr h329 F374 (fun _ _ h => h)
          replace hp1 := RdS.fr hp1 F374 (by decide) (fun _ _ h => h)
          replace hp2 := RdS.fr hp2 F374 (by decide) (fun _ _ h => h)
          replace hF := hF.trans F374 (fun _ h => h.elim)
          have hC : Fr (fun q => False) w374 g369 w374 g369 := Fr.refl _ _ _
          refine d_pure hS 0 #[true, false, false, false, false, false, false, false, false, false, false, false, false, false, false, false, false, false, false, false, false, false, false] rfl rfl rfl rfl (by kernel_rfl) (fun _ _ _ h => h) (fun _ => (r_move hS rfl rfl)) fun a375 hS375 => d_pure hS375 1 #[true, true, false, false, false, false, false, false, false, false, false, false, false, false, false, false, false, false, false, false, false, false, false] rfl rfl rfl rfl (by kernel_rfl) (fun _ _ _ h => h) (fun _ => (r_nil hS375 rfl rfl)) fun a376 hS376 => d_pure hS376 2 #[true, true, true, false, false, false, false, false, false, false, false, false, false, false, false, false, false, false, false, false, false, false, false] rfl rfl rfl rfl (by kernel_rfl) (fun _ _ _ h => h) (fun _ => (r_fieldB (off := 1) hS376 rfl rfl (by kernel_rfl))) fun a377 hS377 => d_take hS377 3 #[true, true, true, true, false, false, false, false, false, false, false, false, false, false, false, false, false, false, false, false, false, false, false] rfl rfl rfl rfl (by kernel_rfl) (fun _ _ _ h => h) ⟨_, hC⟩ (fun w' g' Fz => (r_load1 (n := 1) hS377 rfl rfl (by kernel_rfl) (Bx.cell (h178.fr Fz (fun h => h)) rfl))) fun a378 hS378 => d_pure hS378 4 #[true, true, true, true, true, false, false, false, false, false, false, false, false, false, false, false, false, false, false, false, false, false, false] rfl rfl rfl rfl (by kernel_rfl) (fun _ _ _ h => h) (fun _ => (r_move hS378 rfl rfl)) fun a379 hS379 => d_pure hS379 5 #[true, true, true, true, true, true, false, false, false, false, false, false, false, false, false, false, false, false, false, false, false, false, false] rfl rfl rfl rfl (by kernel_rfl) (fun _ _ _ h => h) (fun _ => (r_move hS379 rfl rfl)) fun a380 hS380 => d_pure hS380 6 #[true, true, true, true, true, true, true, false, false, false, false, false, false, false, false, false, false, false, false, false, false, false, false] rfl rfl rfl rfl (by kernel_rfl) (fun _ _ _ h => h) (fun _ => (r_move hS380 rfl rfl)) fun a381 hS381 => d_pure hS381 7 #[true, true, true, true, true, true, true, true, false, false, false, false, false, false, false, false, false, false, false, false, false, false, false] rfl rfl rfl rfl (by kernel_rfl) (fun _ _ _ h => h) (fun _ => (r_move hS381 rfl rfl)) fun a382 hS382 => d_pure hS382 8 #[true, true, true, true, true, true, true, true, true, false, false, false, false, false, false, false, false, false, false, false, false, false, false] rfl rfl rfl rfl (by kernel_rfl) (fun _ _ _ h => h) (fun _ => (r_nil hS382 rfl rfl)) fun a383 hS383 => d_pure hS383 9 #[true, true, true, true, true, true, true, true, true, true, false, false, false, false, false, false, false, false, false, false, false, false, false] rfl rfl rfl rfl (by kernel_rfl) (fun _ _ _ h => h) (fun _ => (r_fieldB (off := 4) hS383 rfl rfl (by kernel_rfl))) fun a384 hS384 => d_take hS384 10 #[true, true, true, true, true, true, true, true, true, true, true, false, false, false, false, false, false, false, false, false, false, false, false] rfl rfl rfl rfl (by kernel_rfl) (fun _ _ _ h => h) ⟨_, hC⟩ (fun w' g' Fz => (r_load1 (n := 1) hS384 rfl rfl (by kernel_rfl) (Bx.cell (h178.fr Fz (fun h => h)) rfl))) fun a385 hS385 => d_pure hS385 11 #[true, true, true, true, true, true, true, true, true, true, true, true, false, false, false, false, false, false, false, false, false, false, false] rfl rfl rfl rfl (by kernel_rfl) (fun _ _ _ h => h) (fun _ => (r_move hS385 rfl rfl)) fun a386 hS386 => d_pure hS386 12 #[true, true, true, true, true, true, true, true, true, true, true, true, true, false, false, false, false, false, false, false, false, false, false] rfl rfl rfl rfl (by kernel_rfl) (fun _ _ _ h => h) (fun _ => (r_nil hS386 rfl rfl)) fun a387 hS387 => d_pure hS387 13 #[true, true, true, true, true, true, true, true, true, true, true, true, true, true, false, false, false, false, false, false, false, false, false] rfl rfl rfl rfl (by kernel_rfl) (fun _ _ _ h => h) (fun _ => (r_fieldB (off := 4) hS387 rfl rfl (by kernel_rfl))) fun a388 hS388 => d_take hS388 14 #[true, true, true, true, true, true, true, true, true, true, true, true, true, true, true, false, false, false, false, false, false, false, false] rfl rfl rfl rfl (by kernel_rfl) (fun _ _ _ h => h) ⟨_, hC⟩ (fun w' g' Fz => (r_load1 (n := 1) hS388 rfl rfl (by kernel_rfl) (Bx.cell (h178.fr Fz (fun h => h)) rfl))) fun a389 hS389 => d_pure hS389 15 #[true, true, true, true, true, true, true, true, true, true, true, true, true, true, true, true, false, false, false, false, false, false, false] rfl rfl rfl rfl (by kernel_rfl) (fun _ _ _ h => h) (fun _ => (r_move hS389 rfl rfl)) fun a390 hS390 => d_pure hS390 16 #[true, true, true, true, true, true, true, true, true, true, true, true, true, true, true, true, true, false, false, false, false, false, false] rfl rfl rfl rfl (by kernel_rfl) (fun _ _ _ h => h) (fun _ => (r_move hS390 rfl rfl)) fun a391 hS391 => d_pure hS391 17 #[true, true, true, true, true, true, true, true, true, true, true, true, true, true, true, true, true, true, false, false, false, false, false] rfl rfl rfl rfl (by kernel_rfl) (fun _ _ _ h => h) (fun _ => (r_index (e := 33) (sz := 1) (by_ := 8) hS391 rfl rfl rfl (by kernel_rfl) (RdS.some_ hp2 hx371) (idx_lo hx371) (idx_hi hx371))) fun a392 hS392 => d_take hS392 18 #[true, true, true, true, true, true, true, true, true, true, true, true, true, true, true, true, true, true, true, false, false, false, false] rfl rfl rfl rfl (by kernel_rfl) (fun _ _ _ h => h) ⟨_, hC⟩ (fun w' g' Fz => (r_load1 (n := 1) hS392 rfl rfl (by kernel_rfl) (RdS.cell (i := r335) (sz := 1) (j := 0) (RdS.fr hp2 Fz (by decide) (fun _ _ h => h)) hx371 rfl))) fun a393 hS393 => d_pure hS393 19 #[true, true, true, true, true, true, true, true, true, true, true, true, true, true, true, true, true, true, true, true, false, false, false] rfl rfl rfl rfl (by kernel_rfl) (fun _ _ _ h => h) (fun _ => (r_bin hS393 rfl rfl rfl b_add)) fun a394 hS394 => d_pure hS394 20 #[true, true, true, true, true, true, true, true, true, true, true, true, true, true, true, true, true, true, true, true, true, false, false] rfl rfl rfl rfl (by kernel_rfl) (fun _ _ _ h => h) (fun _ => (r_build (parts := [(0, .int .i64 r335), (1, .int .i64 r340), (2, .int .u64 m0_0.now), (3, .int .u64 (wu (m0_0.now + x370)))]) (u := .agg #[.int .i64 r335, .int .i64 r340, .int .u64 m0_0.now, .int .u64 (wu (m0_0.now + x370))]) hS394 rfl rfl (fun _ => by kernel_rfl))) fun a395 hS395 => d_pure hS395 21 #[true, true, true, true, true, true, true, true, true, true, true, true, true, true, true, true, true, true, true, true, true, true, false] rfl rfl rfl rfl (by kernel_rfl) (fun _ _ _ h => h) (fun _ => (r_index (e := 38) (sz := 4) (by_ := 32) hS395 rfl rfl rfl (by kernel_rfl) (RdS.some_ (OwS.rd h181) hx373) (idx_lo hx373) (idx_hi hx373))) fun a396 hS396 => ?_
          refine d_one 22 #[true, true, true, true, true, true, true, true, true, true, true, true, true, true, true, true, true, true, true, true, true, true, true] rfl (by kernel_rfl) (arm_effS hS396 rfl rfl (e_storeE (n := 4) (bb := true) (kd := kd_api_Slot) (j := 0) (x' := (api_Slot.mk r335 r340 m0_0.now (wu (m0_0.now + x370)))) (us := [.int .i64 r335, .int .i64 r340, .int .u64 m0_0.now, .int .u64 (wu (m0_0.now + x370))]) g369 hS396 rfl rfl rfl rfl (by kernel_rfl) rfl rfl (by intro v hv; simp only [List.mem_cons, List.not_mem_nil, or_false] at hv; rcases hv with rfl | rfl | rfl | rfl <;> rfl) h181 hx373 rfl (fun _ _ cs hR => by rw [show cs = _ from hR]; rfl)) (.inl (by decide)) ?_)
          rintro a397 w398 g398 ⟨h181, F398⟩ hS397
          replace h184 := OwS.fr h184 F398 (fun c' hc (hm : c' = N + 6 + 1) => by omega)
          replace h187 := OwS.fr h187 F398 (fun c' hc (hm : c' = N + 6 + 1) => by omega)
          replace h178 := h178.fr F398 (fun (hm : N + 6 = N + 6 + 1) => by omega)
          replace h329 := OwS.fr h329 F398 (fun c' hc (hm : c' = N + 6 + 1) => by omega)
          replace hp1 := RdS.fr hp1 F398 (by decide) (fun q (hq : C1 q) (hm : q = N + 6 + 1) => by have := hC1 q hq; omega)
          replace hp2 := RdS.fr hp2 F398 (by decide) (fun q (hq : C2 q) (hm : q = N + 6 + 1) => by have := hC2 q hq; omega)
          replace hF := hF.trans F398 (fun c' (hm : c' = N + 6 + 1) => by show (r0 ≤ c' ∧ c' < r0 + 2) ∨ N ≤ c'; omega)
          replace h178 : Bx w398 g398 (N + 6) b177 76 [.slice A1 m0_0.links.length cap1, .slice A179 (upd m0_0.slot r335 (api_Slot.mk r335 r340 m0_0.now (wu (m0_0.now + x370)))).length cap180, .slice A182 (upd m0_0.begun r335 true).length cap183, .slice A185 m0_0.free.length cap186, .int .u64 m0_0.now] := by simpa only [upd_length] using h178
          refine d_done (by kernel_rfl) (hK _ _ ?_)
          replace hS : Sl 98 _ [(2, .slice A2 p2.length cap2), (11, .pointer (some ⟨b177, 0, none⟩)), (12, .slice A327 m0_1.length cap328), (13, .int .i64 r335), (14, .int .i64 r340)] := hS397.re ⟨rfl, rfl, rfl, rfl, rfl, trivial⟩
          clear hK K hC
          try clear hS375 hS376 hS377 hS378 hS379 hS380 hS381 hS382 hS383 hS384 hS385 hS386 hS387 hS388 hS389 hS390 hS391 hS392 hS393 hS394 hS395 hS396 hS397
          obtain ⟨a, ha⟩ : ∃ a', a' = a397 := ⟨_, rfl⟩
          rw [← ha] at hS ⊢; clear ha
          obtain ⟨x399, hx400, H⟩ := bind_el H
          obtain ⟨x401, hx402, H⟩ := bind_el H
          refine c_draw (fun K hK => d_start (fun q => False) g398 [14] 15 #[false, false, false, false, false, false, false, false, false, false, false, false, false, false, false] (by kernel_rfl) rfl rfl (fun w403 hw403 => ?_))
          have F403 : Fr (fun _ => False) w398 g398 w403 g398 := by rw [hw403]; exact Fr.drew _ _ _
          replace h181 := OwS.fr h181 F403 (fun _ _ h => h)
          replace h184 := OwS.fr h184 F403 (fun _ _ h => h)
          replace h187 := OwS.fr h187 F403 (fun _ _ h => h)
          replace h178 := h178.fr F403 (fun h => h)
          replace h329 := OwS.fr h329 F403 (fun _ _ h => h)
          replace hp1 := RdS.fr hp1 F403 (by decide) (fun _ _ h => h)
          replace hp2 := RdS.fr hp2 F403 (by decide) (fun _ _ h => h)
          replace hF := hF.trans F403 (fun _ h => h.elim)
          have hC : Fr (fun q => False) w403 g398 w403 g398 := Fr.refl _ _ _
          refine d_pure hS 0 #[true, false, false, false, false, false, false, false, false, false, false, false, false, false, false] rfl rfl rfl rfl (by kernel_rfl) (fun _ _ _ h => h) (fun _ => (r_move hS rfl rfl)) fun a404 hS404 => d_pure hS404 1 #[true, true, false, false, false, false, false, false, false, false, false, false, false, false, false] rfl rfl rfl rfl (by kernel_rfl) (fun _ _ _ h => h) (fun _ => (r_nil hS404 rfl rfl)) fun a405 hS405 => d_pure hS405 2 #[true, true, true, false, false, false, false, false, false, false, false, false, false, false, false] rfl rfl rfl rfl (by kernel_rfl) (fun _ _ _ h => h) (fun _ => (r_fieldB (off := 3) hS405 rfl rfl (by kernel_rfl))) fun a406 hS406 => d_take hS406 3 #[true, true, true, true, false, false, false, false, false, false, false, false, false, false, false] rfl rfl rfl rfl (by kernel_rfl) (fun _ _ _ h => h) ⟨_, hC⟩ (fun w' g' Fz => (r_load1 (n := 1) hS406 rfl rfl (by kernel_rfl) (Bx.cell (h178.fr Fz (fun h => h)) rfl))) fun a407 hS407 => d_pure hS407 4 #[true, true, true, true, true, false, false, false, false, false, false, false, false, false, false] rfl rfl rfl rfl (by kernel_rfl) (fun _ _ _ h => h) (fun _ => (r_move hS407 rfl rfl)) fun a408 hS408 => d_pure hS408 5 #[true, true, true, true, true, true, false, false, false, false, false, false, false, false, false] rfl rfl rfl rfl (by kernel_rfl) (fun _ _ _ h => h) (fun _ => (r_move hS408 rfl rfl)) fun a409 hS409 => d_pure hS409 6 #[true, true, true, true, true, true, true, false, false, false, false, false, false, false, false] rfl rfl rfl rfl (by kernel_rfl) (fun _ _ _ h => h) (fun _ => (r_nil hS409 rfl rfl)) fun a410 hS410 => d_pure hS410 7 #[true, true, true, true, true, true, true, true, false, false, false, false, false, false, false] rfl rfl rfl rfl (by kernel_rfl) (fun _ _ _ h => h) (fun _ => (r_fieldB (off := 1) hS410 rfl rfl (by kernel_rfl))) fun a411 hS411 => d_take hS411 8 #[true, true, true, true, true, true, true, true, true, false, false, false, false, false, false] rfl rfl rfl rfl (by kernel_rfl) (fun _ _ _ h => h) ⟨_, hC⟩ (fun w' g' Fz => (r_load1 (n := 1) hS411 rfl rfl (by kernel_rfl) (Bx.cell (h178.fr Fz (fun h => h)) rfl))) fun a412 hS412 => d_pure hS412 9 #[true, true, true, true, true, true, true, true, true, true, false, false, false, false, false] rfl rfl rfl rfl (by kernel_rfl) (fun _ _ _ h => h) (fun _ => (r_move hS412 rfl rfl)) fun a413 hS413 => d_pure hS413 10 #[true, true, true, true, true, true, true, true, true, true, true, false, false, false, false] rfl rfl rfl rfl (by kernel_rfl) (fun _ _ _ h => h) (fun _ => (r_index (e := 38) (sz := 4) (by_ := 32) hS413 rfl rfl rfl (by kernel_rfl) (RdS.some_ (OwS.rd h181) hx400) (idx_lo hx400) (idx_hi hx400))) fun a414 hS414 => d_pure hS414 11 #[true, true, true, true, true, true, true, true, true, true, true, true, false, false, false] rfl rfl rfl rfl (by kernel_rfl) (fun _ _ _ h => h) (fun _ => (r_fieldE (off := 3) hS414 rfl rfl (by kernel_rfl))) fun a415 hS415 => d_take hS415 12 #[true, true, true, true, true, true, true, true, true, true, true, true, true, false, false] rfl rfl rfl rfl (by kernel_rfl) (fun _ _ _ h => h) ⟨_, hC⟩ (fun w' g' Fz => (r_load1 (n := 1) hS415 rfl rfl (by kernel_rfl) (RdS.cell (i := r335) (sz := 4) (j := 3) (OwS.rd (OwS.fr h181 Fz (fun _ _ h => h))) hx400 rfl))) fun a416 hS416 => d_pure hS416 13 #[true, true, true, true, true, true, true, true, true, true, true, true, true, true, false] rfl rfl rfl rfl (by kernel_rfl) (fun _ _ _ h => h) (fun _ => (r_index (e := 33) (sz := 1) (by_ := 8) hS416 rfl rfl rfl (by kernel_rfl) (RdS.some_ (OwS.rd h187) hx402) (idx_lo hx402) (idx_hi hx402))) fun a417 hS417 => ?_
          refine d_one 14 #[true, true, true, true, true, true, true, true, true, true, true, true, true, true, true] rfl (by kernel_rfl) (arm_effS hS417 rfl rfl (e_storeE (n := 1) (bb := false) (kd := (kint .u64)) (j := 0) (x' := x399.End) (us := [.int .u64 x399.End]) g398 hS417 rfl rfl rfl rfl (by kernel_rfl) rfl rfl (by intro v hv; simp only [List.mem_cons, List.not_mem_nil, or_false] at hv; rcases hv with rfl <;> rfl) h187 hx402 rfl (fun _ _ cs hR => by rw [show cs = _ from hR]; rfl)) (.inl (by decide)) ?_)
          rintro a418 w419 g419 ⟨h187, F419⟩ hS418
          replace h181 := OwS.fr h181 F419 (fun c' hc (hm : c' = N + 6 + 5) => by omega)
          replace h184 := OwS.fr h184 F419 (fun c' hc (hm : c' = N + 6 + 5) => by omega)
          replace h178 := h178.fr F419 (fun (hm : N + 6 = N + 6 + 5) => by omega)
          replace h329 := OwS.fr h329 F419 (fun c' hc (hm : c' = N + 6 + 5) => by omega)
          replace hp1 := RdS.fr hp1 F419 (by decide) (fun q (hq : C1 q) (hm : q = N + 6 + 5) => by have := hC1 q hq; omega)
          replace hp2 := RdS.fr hp2 F419 (by decide) (fun q (hq : C2 q) (hm : q = N + 6 + 5) => by have := hC2 q hq; omega)
          replace hF := hF.trans F419 (fun c' (hm : c' = N + 6 + 5) => by show (r0 ≤ c' ∧ c' < r0 + 2) ∨ N ≤ c'; omega)
          replace h178 : Bx w419 g419 (N + 6) b177 76 [.slice A1 m0_0.links.length cap1, .slice A179 (upd m0_0.slot r335 (api_Slot.mk r335 r340 m0_0.now (wu (m0_0.now + x370)))).length cap180, .slice A182 (upd m0_0.begun r335 true).length cap183, .slice A185 (upd m0_0.free r340 x399.End).length cap186, .int .u64 m0_0.now] := by simpa only [upd_length] using h178
          refine d_done (by kernel_rfl) (hK _ _ ?_)
          replace hS : Sl 98 _ [(2, .slice A2 p2.length cap2), (11, .pointer (some ⟨b177, 0, none⟩)), (12, .slice A327 m0_1.length cap328), (13, .int .i64 r335)] := hS418.re ⟨rfl, rfl, rfl, rfl, trivial⟩
          clear hK K hC
          try clear hS404 hS405 hS406 hS407 hS408 hS409 hS410 hS411 hS412 hS413 hS414 hS415 hS416 hS417 hS418
          obtain ⟨a, ha⟩ : ∃ a', a' = a418 := ⟨_, rfl⟩
          rw [← ha] at hS ⊢; clear ha
          obtain ⟨y433, hy434, H⟩ := bind_el H
          refine c_region (fun K hK => ?_)
          refine st_val hS rfl rfl rfl (r_move hS rfl rfl) fun a420 hS420 => st_val hS420 rfl rfl rfl (r_move hS420 rfl rfl) fun a421 hS421 => st_val hS421 rfl rfl rfl (r_nil hS421 rfl rfl) fun a422 hS422 => st_val hS422 rfl rfl rfl (r_fieldB (off := 1) hS422 rfl rfl (by kernel_rfl)) fun a423 hS423 => st_val hS423 rfl rfl rfl (r_load1 (n := 1) hS423 rfl rfl (by kernel_rfl) (Bx.cell h178 rfl)) fun a424 hS424 => st_val hS424 rfl rfl rfl (r_move hS424 rfl rfl) fun a425 hS425 => st_val hS425 rfl rfl rfl (r_index (e := 38) (sz := 4) (by_ := 32) hS425 rfl rfl rfl (by kernel_rfl) (RdS.some_ (OwS.rd h181) hx400) (idx_lo hx400) (idx_hi hx400)) fun a426 hS426 => st_val hS426 rfl rfl rfl (r_loadN (n := 4) (cs := [.int .i64 x399.Device, .int .i64 x399.Worker, .int .u64 x399.Start, .int .u64 x399.End]) hS426 rfl rfl (by kernel_rfl) rfl (RdS.cells_off (OwS.rd h181) hx400 0 4)) fun a427 hS427 => ?_
          refine st_eff hS427 rfl rfl rfl (e_lit (e := 38) (parts := [(0, .agg #[.int .i64 x399.Device, .int .i64 x399.Worker, .int .u64 x399.Start, .int .u64 x399.End])]) (cs := [.int .i64 x399.Device, .int .i64 x399.Worker, .int .u64 x399.Start, .int .u64 x399.End]) kd_api_Slot [x399] (N + 13) g419 hS427 rfl rfl (fun _ => by kernel_rfl) rfl (by decide) (Rows.cons (cs := [.int .i64 x399.Device, .int .i64 x399.Worker, .int .u64 x399.Start, .int .u64 x399.End]) rfl Rows.nil)) ?_
          rintro _ a431 w432 g432 ⟨⟨A428, rfl, h429⟩, F432⟩ hS431
          replace h181 := OwS.fr h181 F432 (fun _ _ h => h)
          replace h184 := OwS.fr h184 F432 (fun _ _ h => h)
          replace h187 := OwS.fr h187 F432 (fun _ _ h => h)
          replace h178 := h178.fr F432 (fun h => h)
          replace h329 := OwS.fr h329 F432 (fun _ _ h => h)
          replace hp1 := RdS.fr hp1 F432 (by decide) (fun _ _ h => h)
          replace hp2 := RdS.fr hp2 F432 (by decide) (fun _ _ h => h)
          replace hF := hF.trans F432 (fun _ h => h.elim)
          refine st_eff hS431 rfl rfl rfl (e_append (e := 38) (sz := 4) (by_ := 32) (z := [.int .i64 0, .int .i64 0, .int .u64 0, .int .u64 0]) (kd := kd_api_Slot) g432 hS431 rfl rfl rfl rfl (by kernel_rfl) (by kernel_rfl) rfl rfl rfl rfl h329 (OwD.rdx h429) (fun _ _ _ h => h) hy434) ?_
          rintro _ a439 w440 g440 ⟨⟨A435, cap436, rfl, h437⟩, F440⟩ hS439
          replace h429 := OwS.fr h429 F440 (fun c' hc (hm : c' = N + 15) => by omega)
          replace h181 := OwS.fr h181 F440 (fun c' hc (hm : c' = N + 15) => by omega)
          replace h184 := OwS.fr h184 F440 (fun c' hc (hm : c' = N + 15) => by omega)
          replace h187 := OwS.fr h187 F440 (fun c' hc (hm : c' = N + 15) => by omega)
          replace h178 := h178.fr F440 (fun (hm : N + 6 = N + 15) => by omega)
          replace hp1 := RdS.fr hp1 F440 (by decide) (fun q (hq : C1 q) (hm : q = N + 15) => by have := hC1 q hq; omega)
          replace hp2 := RdS.fr hp2 F440 (by decide) (fun q (hq : C2 q) (hm : q = N + 15) => by have := hC2 q hq; omega)
          replace hF := hF.trans F440 (fun c' (hm : c' = N + 15) => by show (r0 ≤ c' ∧ c' < r0 + 2) ∨ N ≤ c'; omega)
          refine st_val hS439 rfl rfl rfl (r_assign hS439 rfl rfl) fun a441 hS441 => wpList_nil (hK _ _ ?_)
          replace hS : Sl 98 _ [(2, .slice A2 p2.length cap2), (11, .pointer (some ⟨b177, 0, none⟩)), (12, .slice A435 y433.length cap436)] := hS441.re ⟨rfl, rfl, rfl, trivial⟩
          clear hK K
          try clear hS420 hS421 hS422 hS423 hS424 hS425 hS426 hS427 hS431 hS439 hS441
          obtain ⟨a, ha⟩ : ∃ a', a' = a441 := ⟨_, rfl⟩
          rw [← ha] at hS ⊢; clear ha
          refine wp_exit ?_
          refine ⟨k330, Nat.lt_succ_self _, ?_⟩
          have F442 := Fr.recol2 w440 g440 (N + 6 + 1) (N + 0)
          replace h181 := h181.recol2 (N + 0)
          replace h437 := OwS.fr h437 F442 (fun c' hc (hm : c' = N + 6 + 1 ∨ c' = N + 6 + 1 + 1) => by omega)
          replace h184 := OwS.fr h184 F442 (fun c' hc (hm : c' = N + 6 + 1 ∨ c' = N + 6 + 1 + 1) => by omega)
          replace h187 := OwS.fr h187 F442 (fun c' hc (hm : c' = N + 6 + 1 ∨ c' = N + 6 + 1 + 1) => by omega)
          replace h178 := h178.fr F442 (fun (hm : N + 6 = N + 6 + 1 ∨ N + 6 = N + 6 + 1 + 1) => by omega)
          replace hp1 := RdS.fr hp1 F442 (by decide) (fun q (hq : C1 q) (hm : q = N + 6 + 1 ∨ q = N + 6 + 1 + 1) => by have := hC1 q hq; omega)
          replace hp2 := RdS.fr hp2 F442 (by decide) (fun q (hq : C2 q) (hm : q = N + 6 + 1 ∨ q = N + 6 + 1 + 1) => by have := hC2 q hq; omega)
          replace hF := hF.trans F442 (fun c' (hm : c' = N + 6 + 1 ∨ c' = N + 6 + 1 + 1) => by show (r0 ≤ c' ∧ c' < r0 + 2) ∨ N ≤ c'; omega)
          have F443 := Fr.recol2 w440 (recol2 g440 (N + 6 + 1) (N + 0)) (N + 6 + 3) (N + 2)
          replace h184 := h184.recol2 (N + 2)
          replace h437 := OwS.fr h437 F443 (fun c' hc (hm : c' = N + 6 + 3 ∨ c' = N + 6 + 3 + 1) => by omega)
          replace h181 := OwS.fr h181 F443 (fun c' hc (hm : c' = N + 6 + 3 ∨ c' = N + 6 + 3 + 1) => by omega)
          replace h187 := OwS.fr h187 F443 (fun c' hc (hm : c' = N + 6 + 3 ∨ c' = N + 6 + 3 + 1) => by omega)
          replace h178 := h178.fr F443 (fun (hm : N + 6 = N + 6 + 3 ∨ N + 6 = N + 6 + 3 + 1) => by omega)
          replace hp1 := RdS.fr hp1 F443 (by decide) (fun q (hq : C1 q) (hm : q = N + 6 + 3 ∨ q = N + 6 + 3 + 1) => by have := hC1 q hq; omega)
          replace hp2 := RdS.fr hp2 F443 (by decide) (fun q (hq : C2 q) (hm : q = N + 6 + 3 ∨ q = N + 6 + 3 + 1) => by have := hC2 q hq; omega)
          replace hF := hF.trans F443 (fun c' (hm : c' = N + 6 + 3 ∨ c' = N + 6 + 3 + 1) => by show (r0 ≤ c' ∧ c' < r0 + 2) ∨ N ≤ c'; omega)
          have F444 := Fr.recol2 w440 (recol2 (recol2 g440 (N + 6 + 1) (N + 0)) (N + 6 + 3) (N + 2)) (N + 6 + 5) (N + 4)
          replace h187 := h187.recol2 (N + 4)
          replace h437 := OwS.fr h437 F444 (fun c' hc (hm : c' = N + 6 + 5 ∨ c' = N + 6 + 5 + 1) => by omega)
          replace h181 := OwS.fr h181 F444 (fun c' hc (hm : c' = N + 6 + 5 ∨ c' = N + 6 + 5 + 1) => by omega)
          replace h184 := OwS.fr h184 F444 (fun c' hc (hm : c' = N + 6 + 5 ∨ c' = N + 6 + 5 + 1) => by omega)
          replace h178 := h178.fr F444 (fun (hm : N + 6 = N + 6 + 5 ∨ N + 6 = N + 6 + 5 + 1) => by omega)
          replace hp1 := RdS.fr hp1 F444 (by decide) (fun q (hq : C1 q) (hm : q = N + 6 + 5 ∨ q = N + 6 + 5 + 1) => by have := hC1 q hq; omega)
          replace hp2 := RdS.fr hp2 F444 (by decide) (fun q (hq : C2 q) (hm : q = N + 6 + 5 ∨ q = N + 6 + 5 + 1) => by have := hC2 q hq; omega)
          replace hF := hF.trans F444 (fun c' (hm : c' = N + 6 + 5 ∨ c' = N + 6 + 5 + 1) => by show (r0 ≤ c' ∧ c' < r0 + 2) ∨ N ≤ c'; omega)
          exact ⟨(resume_scheduler.mk m0_0.links (upd m0_0.slot r335 (api_Slot.mk r335 r340 m0_0.now (wu (m0_0.now + x370)))) (upd m0_0.begun r335 true) (upd m0_0.free r340 x399.End) m0_0.now), y433, (recol2 (recol2 (recol2 g440 (N + 6 + 1) (N + 0)) (N + 6 + 3) (N + 2)) (N + 6 + 5) (N + 4)), A435, cap436, H, hS.re ⟨rfl, rfl, rfl, trivial⟩, h181, h184, h187, h178, h437, hp1, hp2, hF⟩
        · replace H := ite_f hb359 H
          refine wp_skip ?_
          change Code.wp _ _ _ _ _
          obtain ⟨r446, hr447, H⟩ := bind_el H
          refine c_region (fun K hK => ?_)
          refine st_val hS rfl rfl rfl (r_move hS rfl rfl) fun a445 hS445 => ?_
          refine st_enter hS445 rfl rfl rfl (r_call hS445 rfl rfl (by kernel_rfl)) (resume_scheduler_advance.calls (c0 := N + 6) (b_p0 := b177) (A_links_p0 := A1) (cap_links_p0 := cap1) (C_links_p0 := C1) (A_slot_p0 := A179) (cap_slot_p0 := cap180) (A_begun_p0 := A182) (cap_begun_p0 := cap183) (A_free_p0 := A185) (cap_free_p0 := cap186) (p0 := m0_0) (g := g343) (N + 17)  ⟨h178, hp1, h181, h184, h187⟩ (by omega) (fun q (hq : C1 q) => by have := hC1 q hq; omega) hr447) ?_
          rintro _ a448 w449 ⟨g449, rfl, ⟨h178, hp1, h181, h184, h187⟩, F449⟩ hS448
          replace h329 := OwS.fr h329 F449 (fun c' hc (hm : (N + 6 ≤ c' ∧ c' < N + 6 + 7) ∨ N + 17 ≤ c') => by omega)
          replace hp2 := RdS.fr hp2 F449 (by decide) (fun q (hq : C2 q) (hm : (N + 6 ≤ q ∧ q < N + 6 + 7) ∨ N + 17 ≤ q) => by have := hC2 q hq; omega)
          replace hF := hF.trans F449 (fun c' (hm : (N + 6 ≤ c' ∧ c' < N + 6 + 7) ∨ N + 17 ≤ c') => by show (r0 ≤ c' ∧ c' < r0 + 2) ∨ N ≤ c'; omega)
          refine st_val hS448 rfl rfl rfl (r_not hS448 rfl rfl) fun a450 hS450 => wpList_nil (hK _ _ ?_)
          replace hS : Sl 98 _ [(2, .slice A2 p2.length cap2), (11, .pointer (some ⟨b177, 0, none⟩)), (12, .slice A327 m0_1.length cap328), (96, .bool (!r446.2))] := hS450.re ⟨rfl, rfl, rfl, rfl, trivial⟩
          clear hK K
          try clear hS445 hS448 hS450
          obtain ⟨a, ha⟩ : ∃ a', a' = a450 := ⟨_, rfl⟩
          rw [← ha] at hS ⊢; clear ha
          refine c_cond hS rfl (fun hb451 => ?_) (fun hb451 => ?_)
          · replace H := ite_t hb451 H
            refine c_pure [(8, .slice A327 m0_1.length cap328), (9, .int .i64 0)] (fun R hR => st_val hS rfl rfl rfl (r_move hS rfl rfl) fun a452 hS452 => st_val hS452 rfl rfl rfl (r_assign hS452 rfl rfl) fun a453 hS453 => st_val hS453 rfl rfl rfl (r_assign hS453 rfl rfl) fun a454 hS454 => wpList_nil (hR _ (hS454.re ⟨rfl, rfl, trivial⟩))) ?_
            clear hS
            clear a
            intro a hS
            refine wp_ret ?_
            have e := Option.some.inj H
            subst e
            have F455 := Fr.recol2 w449 g449 (N + 15) r0
            replace h329 := h329.recol2 r0
            replace hF := hF.trans F455 (fun c' (hm : c' = N + 15 ∨ c' = N + 15 + 1) => by show (r0 ≤ c' ∧ c' < r0 + 2) ∨ N ≤ c'; omega)
            repeat (with_reducible first | refine then_ret ?_ | refine inBlock_ret ?_)
            exact c_ret2 hS Try.results18 rfl rfl ⟨_, rfl, (recol2 g449 (N + 15) r0), A327, cap328, rfl, h329, hF⟩
          · replace H := ite_f hb451 H
            refine wp_skip ?_
            refine ⟨k330, Nat.lt_succ_self _, ?_⟩
            have F456 := Fr.recol2 w449 g449 (N + 6 + 1) (N + 0)
            replace h181 := h181.recol2 (N + 0)
            replace h184 := OwS.fr h184 F456 (fun c' hc (hm : c' = N + 6 + 1 ∨ c' = N + 6 + 1 + 1) => by omega)
            replace h187 := OwS.fr h187 F456 (fun c' hc (hm : c' = N + 6 + 1 ∨ c' = N + 6 + 1 + 1) => by omega)
            replace h178 := h178.fr F456 (fun (hm : N + 6 = N + 6 + 1 ∨ N + 6 = N + 6 + 1 + 1) => by omega)
            replace h329 := OwS.fr h329 F456 (fun c' hc (hm : c' = N + 6 + 1 ∨ c' = N + 6 + 1 + 1) => by omega)
            replace hp1 := RdS.fr hp1 F456 (by decide) (fun q (hq : C1 q) (hm : q = N + 6 + 1 ∨ q = N + 6 + 1 + 1) => by have := hC1 q hq; omega)
            replace hp2 := RdS.fr hp2 F456 (by decide) (fun q (hq : C2 q) (hm : q = N + 6 + 1 ∨ q = N + 6 + 1 + 1) => by have := hC2 q hq; omega)
            replace hF := hF.trans F456 (fun c' (hm : c' = N + 6 + 1 ∨ c' = N + 6 + 1 + 1) => by show (r0 ≤ c' ∧ c' < r0 + 2) ∨ N ≤ c'; omega)
            have F457 := Fr.recol2 w449 (recol2 g449 (N + 6 + 1) (N + 0)) (N + 6 + 3) (N + 2)
            replace h184 := h184.recol2 (N + 2)
            replace h181 := OwS.fr h181 F457 (fun c' hc (hm : c' = N + 6 + 3 ∨ c' = N + 6 + 3 + 1) => by omega)
            replace h187 := OwS.fr h187 F457 (fun c' hc (hm : c' = N + 6 + 3 ∨ c' = N + 6 + 3 + 1) => by omega)
            replace h178 := h178.fr F457 (fun (hm : N + 6 = N + 6 + 3 ∨ N + 6 = N + 6 + 3 + 1) => by omega)
            replace h329 := OwS.fr h329 F457 (fun c' hc (hm : c' = N + 6 + 3 ∨ c' = N + 6 + 3 + 1) => by omega)
            replace hp1 := RdS.fr hp1 F457 (by decide) (fun q (hq : C1 q) (hm : q = N + 6 + 3 ∨ q = N + 6 + 3 + 1) => by have := hC1 q hq; omega)
            replace hp2 := RdS.fr hp2 F457 (by decide) (fun q (hq : C2 q) (hm : q = N + 6 + 3 ∨ q = N + 6 + 3 + 1) => by have := hC2 q hq; omega)
            replace hF := hF.trans F457 (fun c' (hm : c' = N + 6 + 3 ∨ c' = N + 6 + 3 + 1) => by show (r0 ≤ c' ∧ c' < r0 + 2) ∨ N ≤ c'; omega)
            have F458 := Fr.recol2 w449 (recol2 (recol2 g449 (N + 6 + 1) (N + 0)) (N + 6 + 3) (N + 2)) (N + 6 + 5) (N + 4)
            replace h187 := h187.recol2 (N + 4)
            replace h181 := OwS.fr h181 F458 (fun c' hc (hm : c' = N + 6 + 5 ∨ c' = N + 6 + 5 + 1) => by omega)
            replace h184 := OwS.fr h184 F458 (fun c' hc (hm : c' = N + 6 + 5 ∨ c' = N + 6 + 5 + 1) => by omega)
            replace h178 := h178.fr F458 (fun (hm : N + 6 = N + 6 + 5 ∨ N + 6 = N + 6 + 5 + 1) => by omega)
            replace h329 := OwS.fr h329 F458 (fun c' hc (hm : c' = N + 6 + 5 ∨ c' = N + 6 + 5 + 1) => by omega)
            replace hp1 := RdS.fr hp1 F458 (by decide) (fun q (hq : C1 q) (hm : q = N + 6 + 5 ∨ q = N + 6 + 5 + 1) => by have := hC1 q hq; omega)
            replace hp2 := RdS.fr hp2 F458 (by decide) (fun q (hq : C2 q) (hm : q = N + 6 + 5 ∨ q = N + 6 + 5 + 1) => by have := hC2 q hq; omega)
            replace hF := hF.trans F458 (fun c' (hm : c' = N + 6 + 5 ∨ c' = N + 6 + 5 + 1) => by show (r0 ≤ c' ∧ c' < r0 + 2) ∨ N ≤ c'; omega)
            exact ⟨r446.1, m0_1, (recol2 (recol2 (recol2 g449 (N + 6 + 1) (N + 0)) (N + 6 + 3) (N + 2)) (N + 6 + 5) (N + 4)), A327, cap328, H, hS.re ⟨rfl, rfl, rfl, trivial⟩, h181, h184, h187, h178, h329, hp1, hp2, hF⟩


end Go.Proofs.Ythmjgadmadlpkaa.Sim

namespace Go.Proofs.Ythmjgadmadlpkaa.Sim
open Go
set_option linter.unusedVariables false
set_option linter.unusedSimpArgs false

/-! ### resume_validSlots: function 43 -/
def resume_validSlots.l0 (p0 : List Int) (p1 : Int) (p2 : List api_Slot) : Nat → (List Bool) → Int → Option (Fl (Bool) (Unit))
  | 0, _, _ => none
  | k28 + 1, m0_0, m0_1 => if decide (m0_1 < (p2.length : Int)) = true then ((idx p2 m0_1).bind fun x31 => (if ((((decide (x31.Device < 0)) || (decide ((p0.length : Int) ≤ x31.Device))) || (decide (x31.Worker < 0))) || (decide (p1 ≤ x31.Worker))) = true then some true else (idx m0_0 x31.Device).bind fun x101 => some x101).bind fun t105 => if t105 = true then (some (.out false)) else ((idx m0_0 x31.Device).bind fun x129 => (if decide (x31.End < x31.Start) = true then some true else (idx p0 x31.Device).bind fun x150 => some ((wu (x31.End - x31.Start)) != x150)).bind fun t155 => if t155 = true then (some (.out false)) else (resume_validSlots.l0 p0 p1 p2 k28 (upd m0_0 x31.Device true) (wi (m0_1 + 1))))) else (some (.nxt ()))
def resume_validSlots.f (p0 : List Int) (p1 : Int) (p2 : List api_Slot) : Option (Bool) := if ((p2.length : Int) != (p0.length : Int)) = true then (some false) else ((mk (p0.length : Int) false).bind fun y11 => (resume_validSlots.l0 p0 p1 p2 FUEL y11 0 : Option (Fl (Bool) (Unit))).bind fun o22 => o22.go fun _ => some true)
set_option maxRecDepth 100000 in
set_option maxHeartbeats 4000000 in
theorem resume_validSlots.calls {p0 : List Int} {A0 : Option Addr} {cap0 : Nat} {C0 : Nat → Prop} {p1 : Int} {p2 : List api_Slot} {A2 : Option Addr} {cap2 : Nat} {C2 : Nat → Prop} {w : World} {g : Nat → Nat} {out : Bool} (N : Nat) (hp0 : RdS (kint .u64) w g C0 A0 cap0 p0) (hC0 : ∀ c, C0 c → c < N) (hp2 : RdS kd_api_Slot w g C2 A2 cap2 p2) (hC2 : ∀ c, C2 c → c < N) (H : resume_validSlots.f p0 p1 p2 = some out) :
    Calls Try.prog 43 #[.slice A0 p0.length cap0, .int .i64 p1, .slice A2 p2.length cap2] w (fun e w' => ∃ v, e = .returned v ∧ ∃ (g' : Nat → Nat), v = .bool out ∧ Fr (fun q => N ≤ q) w g w' g') := by
  unfold resume_validSlots.f at H
  refine calls_enter Try.func43 rfl Try.ntmps43 rfl (fun a hS => ?_)
  replace hS : Sl 75 a [(0, .slice A0 p0.length cap0), (1, .int .i64 p1), (2, .slice A2 p2.length cap2)] := hS
  have hF : Fr (fun q => N ≤ q) w g w g := Fr.refl _ _ _
  refine c_pure [(0, .slice A0 p0.length cap0), (1, .int .i64 p1), (2, .slice A2 p2.length cap2)] (fun R hR => st_val hS rfl rfl rfl (r_assign hS rfl rfl) fun a1 hS1 => wpList_nil (hR _ (hS1.re ⟨rfl, rfl, rfl, trivial⟩))) ?_
  clear hS
  clear a
  intro a hS
  refine wp_seq ?_
  refine c_pure [(0, .slice A0 p0.length cap0), (1, .int .i64 p1), (2, .slice A2 p2.length cap2), (14, .bool ((p2.length : Int) != (p0.length : Int)))] (fun R hR => st_val hS rfl rfl rfl (r_move hS rfl rfl) fun a2 hS2 => st_val hS2 rfl rfl rfl (r_len (e := 38) (sz := 4) (by_ := 32) hS2 rfl rfl (by kernel_rfl)) fun a3 hS3 => st_val hS3 rfl rfl rfl (r_move hS3 rfl rfl) fun a4 hS4 => st_val hS4 rfl rfl rfl (r_len (e := 33) (sz := 1) (by_ := 8) hS4 rfl rfl (by kernel_rfl)) fun a5 hS5 => st_val hS5 rfl rfl rfl (r_bin hS5 rfl rfl rfl b_neq) fun a6 hS6 => wpList_nil (hR _ (hS6.re ⟨rfl, rfl, rfl, rfl, trivial⟩))) ?_
  clear hS
  clear a
  intro a hS
  refine c_cond hS rfl (fun hb7 => ?_) (fun hb7 => ?_)
  · replace H := ite_t hb7 H
    refine c_pure [(6, .bool false)] (fun R hR => st_val hS rfl rfl rfl (r_assign hS rfl rfl) fun a8 hS8 => wpList_nil (hR _ (hS8.re ⟨rfl, trivial⟩))) ?_
    clear hS
    clear a
    intro a hS
    refine wp_ret ?_
    have e := Option.some.inj H
    subst e
    repeat (with_reducible first | refine then_ret ?_ | refine inBlock_ret ?_)
    exact c_ret1 hS Try.results43 rfl ⟨_, rfl, g, rfl, hF⟩
  · replace H := ite_f hb7 H
    refine wp_skip ?_
    change Code.wp _ _ _ _ _
    obtain ⟨y11, hy12, H⟩ := bind_el H
    refine c_region (fun K hK => ?_)
    refine st_val hS rfl rfl rfl (r_move hS rfl rfl) fun a9 hS9 => st_val hS9 rfl rfl rfl (r_len (e := 33) (sz := 1) (by_ := 8) hS9 rfl rfl (by kernel_rfl)) fun a10 hS10 => ?_
    refine st_eff hS10 rfl rfl rfl (e_make (e := 4) (sz := 1) (by_ := 1) (z := [.bool false]) (kd := kbool) (N + 0) g hS10 rfl rfl (by kernel_rfl) (by kernel_rfl) rfl rfl rfl (fun _ _ _ => by exact rfl) hy12) ?_
    rintro _ a17 w18 g18 ⟨⟨A13, cap14, rfl, h15⟩, F18⟩ hS17
    replace hp0 := RdS.fr hp0 F18 (by decide) (fun _ _ h => h)
    replace hp2 := RdS.fr hp2 F18 (by decide) (fun _ _ h => h)
    replace hF := hF.trans F18 (fun _ h => h.elim)
    refine st_val hS17 rfl rfl rfl (r_assign hS17 rfl rfl) fun a19 hS19 => wpList_nil (hK _ _ ?_)
    replace hS : Sl 75 _ [(0, .slice A0 p0.length cap0), (1, .int .i64 p1), (2, .slice A2 p2.length cap2), (7, .slice A13 y11.length cap14)] := hS19.re ⟨rfl, rfl, rfl, rfl, trivial⟩
    clear hK K
    try clear hS9 hS10 hS17 hS19
    obtain ⟨a, ha⟩ : ∃ a', a' = a19 := ⟨_, rfl⟩
    rw [← ha] at hS ⊢; clear ha
    obtain ⟨o22, H, Hl23⟩ := bind_el H
    refine c_cut (fun a w20 => ∃ (g20 : Nat → Nat), o22 = .nxt () ∧ Sl 75 a [] ∧ Fr (fun q => N ≤ q) w g w20 g20) ?_ ?_
    · refine c_pure [(0, .slice A0 p0.length cap0), (1, .int .i64 p1), (7, .slice A13 y11.length cap14), (18, .slice A2 p2.length cap2), (19, .int .i64 (p2.length : Int)), (20, .int .i64 0)] (fun R hR => st_val hS rfl rfl rfl (r_move hS rfl rfl) fun a24 hS24 => st_val hS24 rfl rfl rfl (r_len (e := 38) (sz := 4) (by_ := 32) hS24 rfl rfl (by kernel_rfl)) fun a25 hS25 => st_val hS25 rfl rfl rfl (r_move hS25 rfl rfl) fun a26 hS26 => wpList_nil (hR _ (hS26.re ⟨rfl, rfl, rfl, rfl, rfl, rfl, trivial⟩))) ?_
      clear hS
      clear a
      intro a hS
      refine wp_block ?_
      refine wp_loop_ghost (fun kq => fun a w27 => ∃ (m0_0 : List Bool), ∃ (m0_1 : Int), ∃ (g27 : Nat → Nat), resume_validSlots.l0 p0 p1 p2 kq m0_0 m0_1 = some o22 ∧ Sl 75 a [(0, .slice A0 p0.length cap0), (1, .int .i64 p1), (7, .slice A13 m0_0.length cap14), (18, .slice A2 p2.length cap2), (19, .int .i64 (p2.length : Int)), (20, .int .i64 m0_1)] ∧ OwS kbool 4 w27 g27 (N + 0) A13 cap14 m0_0 ∧ RdS (kint .u64) w27 g27 C0 A0 cap0 p0 ∧ RdS kd_api_Slot w27 g27 C2 A2 cap2 p2 ∧ Fr (fun q => N ≤ q) w g w27 g27) FUEL ?_ ?_
      · exact ⟨y11, 0, g18, H, hS.re ⟨rfl, rfl, rfl, rfl, rfl, rfl, trivial⟩, h15, hp0, hp2, hF⟩
      · clear H
        clear hp0 hp2 h15 hF
        clear hS
        rintro k28 a w27 ⟨m0_0, m0_1, g27, hpre0, hS, h15, hp0, hp2, hF⟩
        have H := hpre0
        clear hpre0
        cases k28 with
        | zero => exact absurd H (by simp [resume_validSlots.l0])
        | succ k28 =>
          rw [resume_validSlots.l0] at H
          refine c_pure [(0, .slice A0 p0.length cap0), (1, .int .i64 p1), (7, .slice A13 m0_0.length cap14), (18, .slice A2 p2.length cap2), (19, .int .i64 (p2.length : Int)), (20, .int .i64 m0_1), (21, .bool (decide (m0_1 < (p2.length : Int))))] (fun R hR => st_val hS rfl rfl rfl (r_bin hS rfl rfl rfl b_lss) fun a29 hS29 => wpList_nil (hR _ (hS29.re ⟨rfl, rfl, rfl, rfl, rfl, rfl, rfl, trivial⟩))) ?_
          clear hS
          clear a
          intro a hS
          refine c_if hS rfl (fun hb30 => ?_) (fun hb30 => ?_)
          · replace H := ite_t hb30 H
            refine wp_skip ?_
            change Code.wp _ _ _ _ _
            refine wp_seq ?_
            refine wp_block ?_
            obtain ⟨x31, hx32, H⟩ := bind_el H
            refine c_region (fun K hK => ?_)
            refine st_val hS rfl rfl rfl (r_index (e := 38) (sz := 4) (by_ := 32) hS rfl rfl rfl (by kernel_rfl) (RdS.some_ hp2 hx32) (idx_lo hx32) (idx_hi hx32)) fun a33 hS33 => st_val hS33 rfl rfl rfl (r_loadN (n := 4) (cs := [.int .i64 x31.Device, .int .i64 x31.Worker, .int .u64 x31.Start, .int .u64 x31.End]) hS33 rfl rfl (by kernel_rfl) rfl (RdS.cells_off hp2 hx32 0 4)) fun a34 hS34 => ?_
            refine st_eff hS34 rfl rfl rfl (e_alloc (cs := [.int .i64 0, .int .i64 0, .int .u64 0, .int .u64 0]) (N + 2) g27 hS34 rfl (by kernel_rfl)) ?_
            rintro _ a38 w39 g39 ⟨⟨b35, rfl, h36⟩, F39⟩ hS38
            replace h15 := OwS.fr h15 F39 (fun _ _ h => h)
            replace hp0 := RdS.fr hp0 F39 (by decide) (fun _ _ h => h)
            replace hp2 := RdS.fr hp2 F39 (by decide) (fun _ _ h => h)
            replace hF := hF.trans F39 (fun _ h => h.elim)
            refine st_effS hS38 rfl rfl (e_storeB (n := 4) (bb := true) (cs' := [.int .i64 x31.Device, .int .i64 x31.Worker, .int .u64 x31.Start, .int .u64 x31.End]) g39 hS38 rfl rfl rfl (by kernel_rfl) rfl rfl rfl h36 rfl rfl) ?_
            rintro a40 w41 g41 ⟨h36, F41⟩ hS40
            replace h15 := OwS.fr h15 F41 (fun c' hc (hm : c' = N + 2) => by omega)
            replace hp0 := RdS.fr hp0 F41 (by decide) (fun q (hq : C0 q) (hm : q = N + 2) => by have := hC0 q hq; omega)
            replace hp2 := RdS.fr hp2 F41 (by decide) (fun q (hq : C2 q) (hm : q = N + 2) => by have := hC2 q hq; omega)
            replace hF := hF.trans F41 (fun c' (hm : c' = N + 2) => by show N ≤ c'; omega)
            refine wpList_nil (hK _ _ ?_)
            replace hS : Sl 75 _ [(0, .slice A0 p0.length cap0), (1, .int .i64 p1), (7, .slice A13 m0_0.length cap14), (9, .pointer (some ⟨b35, 0, none⟩)), (18, .slice A2 p2.length cap2), (19, .int .i64 (p2.length : Int)), (20, .int .i64 m0_1)] := hS40.re ⟨rfl, rfl, rfl, rfl, rfl, rfl, rfl, trivial⟩
            clear hK K
            try clear hS33 hS34 hS38 hS40
            obtain ⟨a, ha⟩ : ∃ a', a' = a40 := ⟨_, rfl⟩
            rw [← ha] at hS ⊢; clear ha
            refine wp_seq ?_
            obtain ⟨t105, ht106, H⟩ := bind_el H
            refine c_region (fun K hK => ?_)
            refine st_val hS rfl rfl rfl (r_fieldB (off := 0) hS rfl rfl (by kernel_rfl)) fun a42 hS42 => st_val hS42 rfl rfl rfl (r_load1 (n := 1) hS42 rfl rfl (by kernel_rfl) (Bx.cell h36 rfl)) fun a43 hS43 => st_val hS43 rfl rfl rfl (r_bin hS43 rfl rfl rfl b_lss) fun a44 hS44 => st_val hS44 rfl rfl rfl (r_move hS44 rfl rfl) fun a45 hS45 => ?_
            refine g_join (N := 75) 6 [(0, .slice A0 p0.length cap0), (1, .int .i64 p1), (7, .slice A13 m0_0.length cap14), (9, .pointer (some ⟨b35, 0, none⟩)), (18, .slice A2 p2.length cap2), (19, .int .i64 (p2.length : Int)), (20, .int .i64 m0_1), (33, .bool ((decide (x31.Device < 0)) || (decide ((p0.length : Int) ≤ x31.Device))))] ?_ (fun hk => ?_)
            rotate_left
            · rcases Bool.eq_false_or_eq_true (decide (x31.Device < 0)) with hb46 | hb46
              · refine st_off hS45 (want_off hS45 rfl rfl rfl hb46) rfl rfl fun a52 hS52 => st_off hS52 (want_off hS52 rfl rfl rfl hb46) rfl rfl fun a53 hS53 => st_off hS53 (want_off hS53 rfl rfl rfl hb46) rfl rfl fun a54 hS54 => st_off hS54 (want_off hS54 rfl rfl rfl hb46) rfl rfl fun a55 hS55 => st_off hS55 (want_off hS55 rfl rfl rfl hb46) rfl rfl fun a56 hS56 => st_val hS56 rfl rfl rfl (r_pickT hS56 rfl rfl rfl hb46) fun a57 hS57 => hk _ (hS57.re ⟨rfl, rfl, rfl, rfl, rfl, rfl, rfl, (by rw [hb46]; rfl), trivial⟩)
              · refine st_valW hS45 (want_on hS45 rfl rfl rfl hb46) rfl rfl (r_fieldB (off := 0) hS45 rfl rfl (by kernel_rfl)) fun a58 hS58 => st_valW hS58 (want_on hS58 rfl rfl rfl hb46) rfl rfl (r_load1 (n := 1) hS58 rfl rfl (by kernel_rfl) (Bx.cell h36 rfl)) fun a59 hS59 => st_valW hS59 (want_on hS59 rfl rfl rfl hb46) rfl rfl (r_move hS59 rfl rfl) fun a60 hS60 => st_valW hS60 (want_on hS60 rfl rfl rfl hb46) rfl rfl (r_len (e := 33) (sz := 1) (by_ := 8) hS60 rfl rfl (by kernel_rfl)) fun a61 hS61 => st_valW hS61 (want_on hS61 rfl rfl rfl hb46) rfl rfl (r_bin hS61 rfl rfl rfl b_geq) fun a62 hS62 => st_val hS62 rfl rfl rfl (r_pickF hS62 rfl rfl rfl hb46) fun a63 hS63 => hk _ (hS63.re ⟨rfl, rfl, rfl, rfl, rfl, rfl, rfl, (by rw [hb46]; rfl), trivial⟩)
            intro a64 hS64
            refine st_val hS64 rfl rfl rfl (r_move hS64 rfl rfl) fun a65 hS65 => ?_
            refine g_join (N := 75) 4 [(0, .slice A0 p0.length cap0), (1, .int .i64 p1), (7, .slice A13 m0_0.length cap14), (9, .pointer (some ⟨b35, 0, none⟩)), (18, .slice A2 p2.length cap2), (19, .int .i64 (p2.length : Int)), (20, .int .i64 m0_1), (38, .bool (((decide (x31.Device < 0)) || (decide ((p0.length : Int) ≤ x31.Device))) || (decide (x31.Worker < 0))))] ?_ (fun hk => ?_)
            rotate_left
            · rcases Bool.eq_false_or_eq_true (((decide (x31.Device < 0)) || (decide ((p0.length : Int) ≤ x31.Device)))) with hb66 | hb66
              · refine st_off hS65 (want_off hS65 rfl rfl rfl hb66) rfl rfl fun a70 hS70 => st_off hS70 (want_off hS70 rfl rfl rfl hb66) rfl rfl fun a71 hS71 => st_off hS71 (want_off hS71 rfl rfl rfl hb66) rfl rfl fun a72 hS72 => st_val hS72 rfl rfl rfl (r_pickT hS72 rfl rfl rfl hb66) fun a73 hS73 => hk _ (hS73.re ⟨rfl, rfl, rfl, rfl, rfl, rfl, rfl, (by rw [hb66]; rfl), trivial⟩)
              · refine st_valW hS65 (want_on hS65 rfl rfl rfl hb66) rfl rfl (r_fieldB (off := 1) hS65 rfl rfl (by kernel_rfl)) fun a74 hS74 => st_valW hS74 (want_on hS74 rfl rfl rfl hb66) rfl rfl (r_load1 (n := 1) hS74 rfl rfl (by kernel_rfl) (Bx.cell h36 rfl)) fun a75 hS75 => st_valW hS75 (want_on hS75 rfl rfl rfl hb66) rfl rfl (r_bin hS75 rfl rfl rfl b_lss) fun a76 hS76 => st_val hS76 rfl rfl rfl (r_pickF hS76 rfl rfl rfl hb66) fun a77 hS77 => hk _ (hS77.re ⟨rfl, rfl, rfl, rfl, rfl, rfl, rfl, (by rw [hb66]; rfl), trivial⟩)
            intro a78 hS78
            refine st_val hS78 rfl rfl rfl (r_move hS78 rfl rfl) fun a79 hS79 => ?_
            refine g_join (N := 75) 5 [(0, .slice A0 p0.length cap0), (1, .int .i64 p1), (7, .slice A13 m0_0.length cap14), (9, .pointer (some ⟨b35, 0, none⟩)), (18, .slice A2 p2.length cap2), (19, .int .i64 (p2.length : Int)), (20, .int .i64 m0_1), (44, .bool ((((decide (x31.Device < 0)) || (decide ((p0.length : Int) ≤ x31.Device))) || (decide (x31.Worker < 0))) || (decide (p1 ≤ x31.Worker))))] ?_ (fun hk => ?_)
            rotate_left
            · rcases Bool.eq_false_or_eq_true ((((decide (x31.Device < 0)) || (decide ((p0.length : Int) ≤ x31.Device))) || (decide (x31.Worker < 0)))) with hb80 | hb80
              · refine st_off hS79 (want_off hS79 rfl rfl rfl hb80) rfl rfl fun a85 hS85 => st_off hS85 (want_off hS85 rfl rfl rfl hb80) rfl rfl fun a86 hS86 => st_off hS86 (want_off hS86 rfl rfl rfl hb80) rfl rfl fun a87 hS87 => st_off hS87 (want_off hS87 rfl rfl rfl hb80) rfl rfl fun a88 hS88 => st_val hS88 rfl rfl rfl (r_pickT hS88 rfl rfl rfl hb80) fun a89 hS89 => hk _ (hS89.re ⟨rfl, rfl, rfl, rfl, rfl, rfl, rfl, (by rw [hb80]; rfl), trivial⟩)
              · refine st_valW hS79 (want_on hS79 rfl rfl rfl hb80) rfl rfl (r_fieldB (off := 1) hS79 rfl rfl (by kernel_rfl)) fun a90 hS90 => st_valW hS90 (want_on hS90 rfl rfl rfl hb80) rfl rfl (r_load1 (n := 1) hS90 rfl rfl (by kernel_rfl) (Bx.cell h36 rfl)) fun a91 hS91 => st_valW hS91 (want_on hS91 rfl rfl rfl hb80) rfl rfl (r_move hS91 rfl rfl) fun a92 hS92 => st_valW hS92 (want_on hS92 rfl rfl rfl hb80) rfl rfl (r_bin hS92 rfl rfl rfl b_geq) fun a93 hS93 => st_val hS93 rfl rfl rfl (r_pickF hS93 rfl rfl rfl hb80) fun a94 hS94 => hk _ (hS94.re ⟨rfl, rfl, rfl, rfl, rfl, rfl, rfl, (by rw [hb80]; rfl), trivial⟩)
            intro a95 hS95
            refine st_val hS95 rfl rfl rfl (r_move hS95 rfl rfl) fun a96 hS96 => ?_
            refine g_join (N := 75) 6 [(0, .slice A0 p0.length cap0), (1, .int .i64 p1), (7, .slice A13 m0_0.length cap14), (9, .pointer (some ⟨b35, 0, none⟩)), (18, .slice A2 p2.length cap2), (19, .int .i64 (p2.length : Int)), (20, .int .i64 m0_1), (51, .bool t105)] ?_ (fun hk => ?_)
            rotate_left
            · rcases Bool.eq_false_or_eq_true (((((decide (x31.Device < 0)) || (decide ((p0.length : Int) ≤ x31.Device))) || (decide (x31.Worker < 0))) || (decide (p1 ≤ x31.Worker)))) with hb97 | hb97
              · have H := ite_t hb97 ht106
                have e107 := Option.some.inj H
                refine st_off hS96 (want_off hS96 rfl rfl rfl hb97) rfl rfl fun a108 hS108 => st_off hS108 (want_off hS108 rfl rfl rfl hb97) rfl rfl fun a109 hS109 => st_off hS109 (want_off hS109 rfl rfl rfl hb97) rfl rfl fun a110 hS110 => st_off hS110 (want_off hS110 rfl rfl rfl hb97) rfl rfl fun a111 hS111 => st_off hS111 (want_off hS111 rfl rfl rfl hb97) rfl rfl fun a112 hS112 => st_val hS112 rfl rfl rfl (r_pickT hS112 rfl rfl rfl hb97) fun a113 hS113 => hk _ (hS113.re ⟨rfl, rfl, rfl, rfl, rfl, rfl, rfl, (by rw [← e107]; rfl), trivial⟩)
              · have H := ite_f hb97 ht106
                obtain ⟨x117, hx118, H⟩ := bind_el H
                have e121 := Option.some.inj H
                refine st_valW hS96 (want_on hS96 rfl rfl rfl hb97) rfl rfl (r_move hS96 rfl rfl) fun a114 hS114 => st_valW hS114 (want_on hS114 rfl rfl rfl hb97) rfl rfl (r_fieldB (off := 0) hS114 rfl rfl (by kernel_rfl)) fun a115 hS115 => st_valW hS115 (want_on hS115 rfl rfl rfl hb97) rfl rfl (r_load1 (n := 1) hS115 rfl rfl (by kernel_rfl) (Bx.cell h36 rfl)) fun a116 hS116 => st_valW hS116 (want_on hS116 rfl rfl rfl hb97) rfl rfl (r_index (e := 4) (sz := 1) (by_ := 1) hS116 rfl rfl rfl (by kernel_rfl) (RdS.some_ (OwS.rd h15) hx118) (idx_lo hx118) (idx_hi hx118)) fun a119 hS119 => st_valW hS119 (want_on hS119 rfl rfl rfl hb97) rfl rfl (r_load1 (n := 1) hS119 rfl rfl (by kernel_rfl) (RdS.cell (i := x31.Device) (sz := 1) (j := 0) (OwS.rd h15) hx118 rfl)) fun a120 hS120 => st_val hS120 rfl rfl rfl (r_pickF hS120 rfl rfl rfl hb97) fun a122 hS122 => hk _ (hS122.re ⟨rfl, rfl, rfl, rfl, rfl, rfl, rfl, (by rw [← e121]; rfl), trivial⟩)
            intro a123 hS123
            refine wpList_nil (hK _ _ ?_)
            replace hS : Sl 75 _ [(0, .slice A0 p0.length cap0), (1, .int .i64 p1), (7, .slice A13 m0_0.length cap14), (9, .pointer (some ⟨b35, 0, none⟩)), (18, .slice A2 p2.length cap2), (19, .int .i64 (p2.length : Int)), (20, .int .i64 m0_1), (51, .bool t105)] := hS123.re ⟨rfl, rfl, rfl, rfl, rfl, rfl, rfl, rfl, trivial⟩
            clear hK K
            try clear hS42 hS43 hS44 hS45 hS64 hS65 hS78 hS79 hS95 hS96 hS123
            obtain ⟨a, ha⟩ : ∃ a', a' = a123 := ⟨_, rfl⟩
            rw [← ha] at hS ⊢; clear ha
            refine c_cond hS rfl (fun hb124 => ?_) (fun hb124 => ?_)
            · replace H := ite_t hb124 H
              refine c_pure [(6, .bool false)] (fun R hR => st_val hS rfl rfl rfl (r_assign hS rfl rfl) fun a125 hS125 => wpList_nil (hR _ (hS125.re ⟨rfl, trivial⟩))) ?_
              clear hS
              clear a
              intro a hS
              refine wp_ret ?_
              have e := Option.some.inj H
              subst e
              replace H := Fl.go_out Hl23
              have e := Option.some.inj H
              subst e
              repeat (with_reducible first | refine then_ret ?_ | refine inBlock_ret ?_)
              exact c_ret1 hS Try.results43 rfl ⟨_, rfl, g41, rfl, hF⟩
            · replace H := ite_f hb124 H
              refine wp_skip ?_
              change Code.wp _ _ _ _ _
              obtain ⟨x129, hx130, H⟩ := bind_el H
              refine c_region (fun K hK => ?_)
              refine st_val hS rfl rfl rfl (r_move hS rfl rfl) fun a126 hS126 => st_val hS126 rfl rfl rfl (r_fieldB (off := 0) hS126 rfl rfl (by kernel_rfl)) fun a127 hS127 => st_val hS127 rfl rfl rfl (r_load1 (n := 1) hS127 rfl rfl (by kernel_rfl) (Bx.cell h36 rfl)) fun a128 hS128 => st_val hS128 rfl rfl rfl (r_index (e := 4) (sz := 1) (by_ := 1) hS128 rfl rfl rfl (by kernel_rfl) (RdS.some_ (OwS.rd h15) hx130) (idx_lo hx130) (idx_hi hx130)) fun a131 hS131 => ?_
              refine st_effS hS131 rfl rfl (e_storeE (n := 1) (bb := false) (kd := kbool) (j := 0) (x' := true) (us := [.bool true]) g41 hS131 rfl rfl rfl rfl (by kernel_rfl) rfl rfl (by intro v hv; simp only [List.mem_cons, List.not_mem_nil, or_false] at hv; rcases hv with rfl <;> rfl) h15 hx130 rfl (fun _ _ cs hR => by rw [show cs = _ from hR]; rfl)) ?_
              rintro a132 w133 g133 ⟨h15, F133⟩ hS132
              replace h36 := h36.fr F133 (fun (hm : N + 2 = N + 0) => by omega)
              replace hp0 := RdS.fr hp0 F133 (by decide) (fun q (hq : C0 q) (hm : q = N + 0) => by have := hC0 q hq; omega)
              replace hp2 := RdS.fr hp2 F133 (by decide) (fun q (hq : C2 q) (hm : q = N + 0) => by have := hC2 q hq; omega)
              replace hF := hF.trans F133 (fun c' (hm : c' = N + 0) => by show N ≤ c'; omega)
              have hT : Sl 75 a132 [(0, .slice A0 p0.length cap0), (1, .int .i64 p1), (7, .slice A13 m0_0.length cap14), (9, .pointer (some ⟨b35, 0, none⟩)), (18, .slice A2 p2.length cap2), (19, .int .i64 (p2.length : Int)), (20, .int .i64 m0_1)] := hS132.re ⟨rfl, rfl, rfl, rfl, rfl, rfl, rfl, trivial⟩
              replace hS132 : Sl 75 a132 [(0, .slice A0 p0.length cap0), (1, .int .i64 p1), (7, .slice A13 (upd m0_0 x31.Device true).length cap14), (9, .pointer (some ⟨b35, 0, none⟩)), (18, .slice A2 p2.length cap2), (19, .int .i64 (p2.length : Int)), (20, .int .i64 m0_1)] := by simpa only [upd_length] using hT
              clear hT
              refine wpList_nil (hK _ _ ?_)
              replace hS : Sl 75 _ [(0, .slice A0 p0.length cap0), (1, .int .i64 p1), (7, .slice A13 (upd m0_0 x31.Device true).length cap14), (9, .pointer (some ⟨b35, 0, none⟩)), (18, .slice A2 p2.length cap2), (19, .int .i64 (p2.length : Int)), (20, .int .i64 m0_1)] := hS132.re ⟨rfl, rfl, rfl, rfl, rfl, rfl, rfl, trivial⟩
              clear hK K
              try clear hS126 hS127 hS128 hS131 hS132
              obtain ⟨a, ha⟩ : ∃ a', a' = a132 := ⟨_, rfl⟩
              rw [← ha] at hS ⊢; clear ha
              obtain ⟨t155, ht156, H⟩ := bind_el H
              refine c_draw (fun K hK => d_start (fun q => False) g133 [] 18 #[false, false, false, false, false, false, false, false, false, false, false, false, false, false, false, false, false, false] (by kernel_rfl) rfl rfl (fun w134 hw134 => ?_))
              have F134 : Fr (fun _ => False) w133 g133 w134 g133 := by rw [hw134]; exact Fr.drew _ _ _
              replace h15 := OwS.fr h15 F134 (fun _ _ h => h)
              replace h36 := h36.fr F134 (fun h => h)
              replace hp0 := RdS.fr hp0 F134 (by decide) (fun _ _ h => h)
              replace hp2 := RdS.fr hp2 F134 (by decide) (fun _ _ h => h)
              replace hF := hF.trans F134 (fun _ h => h.elim)
              have hC : Fr (fun q => False) w134 g133 w134 g133 := Fr.refl _ _ _
              refine d_pure hS 0 #[true, false, false, false, false, false, false, false, false, false, false, false, false, false, false, false, false, false] rfl rfl rfl rfl (by kernel_rfl) (fun _ _ _ h => h) (fun _ => (r_fieldB (off := 3) hS rfl rfl (by kernel_rfl))) fun a135 hS135 => d_take hS135 1 #[true, true, false, false, false, false, false, false, false, false, false, false, false, false, false, false, false, false] rfl rfl rfl rfl (by kernel_rfl) (fun _ _ _ h => h) ⟨_, hC⟩ (fun w' g' Fz => (r_load1 (n := 1) hS135 rfl rfl (by kernel_rfl) (Bx.cell (h36.fr Fz (fun h => h)) rfl))) fun a136 hS136 => d_pure hS136 2 #[true, true, true, false, false, false, false, false, false, false, false, false, false, false, false, false, false, false] rfl rfl rfl rfl (by kernel_rfl) (fun _ _ _ h => h) (fun _ => (r_fieldB (off := 2) hS136 rfl rfl (by kernel_rfl))) fun a137 hS137 => d_take hS137 3 #[true, true, true, true, false, false, false, false, false, false, false, false, false, false, false, false, false, false] rfl rfl rfl rfl (by kernel_rfl) (fun _ _ _ h => h) ⟨_, hC⟩ (fun w' g' Fz => (r_load1 (n := 1) hS137 rfl rfl (by kernel_rfl) (Bx.cell (h36.fr Fz (fun h => h)) rfl))) fun a138 hS138 => d_pure hS138 4 #[true, true, true, true, true, false, false, false, false, false, false, false, false, false, false, false, false, false] rfl rfl rfl rfl (by kernel_rfl) (fun _ _ _ h => h) (fun _ => (r_bin hS138 rfl rfl rfl b_lss)) fun a139 hS139 => d_pure hS139 5 #[true, true, true, true, true, true, false, false, false, false, false, false, false, false, false, false, false, false] rfl rfl rfl rfl (by kernel_rfl) (fun _ _ _ h => h) (fun _ => (r_move hS139 rfl rfl)) fun a140 hS140 => ?_
              refine d_join (N := 75) 0 #[true, true, true, true, true, true, true, true, true, true, true, true, true, true, true, true, true, true] [(0, .slice A0 p0.length cap0), (1, .int .i64 p1), (7, .slice A13 (upd m0_0 x31.Device true).length cap14), (18, .slice A2 p2.length cap2), (19, .int .i64 (p2.length : Int)), (20, .int .i64 m0_1), (73, .bool t155)] ?_ (fun hk => ?_)
              rotate_left
              · rcases Bool.eq_false_or_eq_true (decide (x31.End < x31.Start)) with hb141 | hb141
                · have H := ite_t hb141 ht156
                  have e157 := Option.some.inj H
                  refine d_off hS140 6 #[true, true, true, true, true, true, true, false, false, false, false, false, false, false, false, false, false, false] rfl (want_off hS140 rfl rfl rfl hb141) rfl rfl (by kernel_rfl) (fun _ _ _ h => h) fun a158 hS158 => d_off hS158 7 #[true, true, true, true, true, true, true, true, false, false, false, false, false, false, false, false, false, false] rfl (want_off hS158 rfl rfl rfl hb141) rfl rfl (by kernel_rfl) (fun _ _ _ h => h) fun a159 hS159 => d_off hS159 8 #[true, true, true, true, true, true, true, true, true, false, false, false, false, false, false, false, false, false] rfl (want_off hS159 rfl rfl rfl hb141) rfl rfl (by kernel_rfl) (fun _ _ _ h => h) fun a160 hS160 => d_off hS160 9 #[true, true, true, true, true, true, true, true, true, true, false, false, false, false, false, false, false, false] rfl (want_off hS160 rfl rfl rfl hb141) rfl rfl (by kernel_rfl) (fun _ _ _ h => h) fun a161 hS161 => d_off hS161 10 #[true, true, true, true, true, true, true, true, true, true, true, false, false, false, false, false, false, false] rfl (want_off hS161 rfl rfl rfl hb141) rfl rfl (by kernel_rfl) (fun _ _ _ h => h) fun a162 hS162 => d_off hS162 11 #[true, true, true, true, true, true, true, true, true, true, true, true, false, false, false, false, false, false] rfl (want_off hS162 rfl rfl rfl hb141) rfl rfl (by kernel_rfl) (fun _ _ _ h => h) fun a163 hS163 => d_off hS163 12 #[true, true, true, true, true, true, true, true, true, true, true, true, true, false, false, false, false, false] rfl (want_off hS163 rfl rfl rfl hb141) rfl rfl (by kernel_rfl) (fun _ _ _ h => h) fun a164 hS164 => d_off hS164 13 #[true, true, true, true, true, true, true, true, true, true, true, true, true, true, false, false, false, false] rfl (want_off hS164 rfl rfl rfl hb141) rfl rfl (by kernel_rfl) (fun _ _ _ h => h) fun a165 hS165 => d_off hS165 14 #[true, true, true, true, true, true, true, true, true, true, true, true, true, true, true, false, false, false] rfl (want_off hS165 rfl rfl rfl hb141) rfl rfl (by kernel_rfl) (fun _ _ _ h => h) fun a166 hS166 => d_off hS166 15 #[true, true, true, true, true, true, true, true, true, true, true, true, true, true, true, true, false, false] rfl (want_off hS166 rfl rfl rfl hb141) rfl rfl (by kernel_rfl) (fun _ _ _ h => h) fun a167 hS167 => d_off hS167 16 #[true, true, true, true, true, true, true, true, true, true, true, true, true, true, true, true, true, false] rfl (want_off hS167 rfl rfl rfl hb141) rfl rfl (by kernel_rfl) (fun _ _ _ h => h) fun a168 hS168 => d_pure hS168 17 #[true, true, true, true, true, true, true, true, true, true, true, true, true, true, true, true, true, true] rfl rfl rfl rfl (by kernel_rfl) (fun _ _ _ h => h) (fun _ => (r_pickT hS168 rfl rfl rfl hb141)) fun a169 hS169 => hk _ (hS169.re ⟨rfl, rfl, rfl, rfl, rfl, rfl, (by rw [← e157]; rfl), trivial⟩)
                · have H := ite_f hb141 ht156
                  obtain ⟨x178, hx179, H⟩ := bind_el H
                  have e183 := Option.some.inj H
                  refine d_pureW hS140 6 #[true, true, true, true, true, true, true, false, false, false, false, false, false, false, false, false, false, false] rfl (want_on hS140 rfl rfl rfl hb141) rfl rfl (by kernel_rfl) (fun _ _ _ h => h) (fun _ => (r_fieldB (off := 3) hS140 rfl rfl (by kernel_rfl))) fun a170 hS170 => d_takeW hS170 7 #[true, true, true, true, true, true, true, true, false, false, false, false, false, false, false, false, false, false] rfl (want_on hS170 rfl rfl rfl hb141) rfl rfl (by kernel_rfl) (fun _ _ _ h => h) ⟨_, hC⟩ (fun w' g' Fz => (r_load1 (n := 1) hS170 rfl rfl (by kernel_rfl) (Bx.cell (h36.fr Fz (fun h => h)) rfl))) fun a171 hS171 => d_pureW hS171 8 #[true, true, true, true, true, true, true, true, true, false, false, false, false, false, false, false, false, false] rfl (want_on hS171 rfl rfl rfl hb141) rfl rfl (by kernel_rfl) (fun _ _ _ h => h) (fun _ => (r_fieldB (off := 2) hS171 rfl rfl (by kernel_rfl))) fun a172 hS172 => d_takeW hS172 9 #[true, true, true, true, true, true, true, true, true, true, false, false, false, false, false, false, false, false] rfl (want_on hS172 rfl rfl rfl hb141) rfl rfl (by kernel_rfl) (fun _ _ _ h => h) ⟨_, hC⟩ (fun w' g' Fz => (r_load1 (n := 1) hS172 rfl rfl (by kernel_rfl) (Bx.cell (h36.fr Fz (fun h => h)) rfl))) fun a173 hS173 => d_pureW hS173 10 #[true, true, true, true, true, true, true, true, true, true, true, false, false, false, false, false, false, false] rfl (want_on hS173 rfl rfl rfl hb141) rfl rfl (by kernel_rfl) (fun _ _ _ h => h) (fun _ => (r_bin hS173 rfl rfl rfl b_sub)) fun a174 hS174 => d_pureW hS174 11 #[true, true, true, true, true, true, true, true, true, true, true, true, false, false, false, false, false, false] rfl (want_on hS174 rfl rfl rfl hb141) rfl rfl (by kernel_rfl) (fun _ _ _ h => h) (fun _ => (r_move hS174 rfl rfl)) fun a175 hS175 => d_pureW hS175 12 #[true, true, true, true, true, true, true, true, true, true, true, true, true, false, false, false, false, false] rfl (want_on hS175 rfl rfl rfl hb141) rfl rfl (by kernel_rfl) (fun _ _ _ h => h) (fun _ => (r_fieldB (off := 0) hS175 rfl rfl (by kernel_rfl))) fun a176 hS176 => d_takeW hS176 13 #[true, true, true, true, true, true, true, true, true, true, true, true, true, true, false, false, false, false] rfl (want_on hS176 rfl rfl rfl hb141) rfl rfl (by kernel_rfl) (fun _ _ _ h => h) ⟨_, hC⟩ (fun w' g' Fz => (r_load1 (n := 1) hS176 rfl rfl (by kernel_rfl) (Bx.cell (h36.fr Fz (fun h => h)) rfl))) fun a177 hS177 => d_pureW hS177 14 #[true, true, true, true, true, true, true, true, true, true, true, true, true, true, true, false, false, false] rfl (want_on hS177 rfl rfl rfl hb141) rfl rfl (by kernel_rfl) (fun _ _ _ h => h) (fun _ => (r_index (e := 33) (sz := 1) (by_ := 8) hS177 rfl rfl rfl (by kernel_rfl) (RdS.some_ hp0 hx179) (idx_lo hx179) (idx_hi hx179))) fun a180 hS180 => d_takeW hS180 15 #[true, true, true, true, true, true, true, true, true, true, true, true, true, true, true, true, false, false] rfl (want_on hS180 rfl rfl rfl hb141) rfl rfl (by kernel_rfl) (fun _ _ _ h => h) ⟨_, hC⟩ (fun w' g' Fz => (r_load1 (n := 1) hS180 rfl rfl (by kernel_rfl) (RdS.cell (i := x31.Device) (sz := 1) (j := 0) (RdS.fr hp0 Fz (by decide) (fun _ _ h => h)) hx179 rfl))) fun a181 hS181 => d_pureW hS181 16 #[true, true, true, true, true, true, true, true, true, true, true, true, true, true, true, true, true, false] rfl (want_on hS181 rfl rfl rfl hb141) rfl rfl (by kernel_rfl) (fun _ _ _ h => h) (fun _ => (r_bin hS181 rfl rfl rfl b_neq)) fun a182 hS182 => d_pure hS182 17 #[true, true, true, true, true, true, true, true, true, true, true, true, true, true, true, true, true, true] rfl rfl rfl rfl (by kernel_rfl) (fun _ _ _ h => h) (fun _ => (r_pickF hS182 rfl rfl rfl hb141)) fun a184 hS184 => hk _ (hS184.re ⟨rfl, rfl, rfl, rfl, rfl, rfl, (by rw [← e183]; rfl), trivial⟩)
              intro a185 hS185
              refine d_done (by kernel_rfl) (hK _ _ ?_)
              replace hS : Sl 75 _ [(0, .slice A0 p0.length cap0), (1, .int .i64 p1), (7, .slice A13 (upd m0_0 x31.Device true).length cap14), (18, .slice A2 p2.length cap2), (19, .int .i64 (p2.length : Int)), (20, .int .i64 m0_1), (73, .bool t155)] := hS185.re ⟨rfl, rfl, rfl, rfl, rfl, rfl, rfl, trivial⟩
              clear hK K hC
              try clear hS135 hS136 hS137 hS138 hS139 hS140 hS185
              obtain ⟨a, ha⟩ : ∃ a', a' = a185 := ⟨_, rfl⟩
              rw [← ha] at hS ⊢; clear ha
              refine c_cond hS rfl (fun hb186 => ?_) (fun hb186 => ?_)
              · replace H := ite_t hb186 H
                refine c_pure [(6, .bool false)] (fun R hR => st_val hS rfl rfl rfl (r_assign hS rfl rfl) fun a187 hS187 => wpList_nil (hR _ (hS187.re ⟨rfl, trivial⟩))) ?_
                clear hS
                clear a
                intro a hS
                refine wp_ret ?_
                have e := Option.some.inj H
                subst e
                replace H := Fl.go_out Hl23
                have e := Option.some.inj H
                subst e
                repeat (with_reducible first | refine then_ret ?_ | refine inBlock_ret ?_)
                exact c_ret1 hS Try.results43 rfl ⟨_, rfl, g133, rfl, hF⟩
              · replace H := ite_f hb186 H
                refine wp_skip ?_
                change Code.wp _ _ _ _ _
                refine c_pure1 [(0, .slice A0 p0.length cap0), (1, .int .i64 p1), (7, .slice A13 (upd m0_0 x31.Device true).length cap14), (18, .slice A2 p2.length cap2), (19, .int .i64 (p2.length : Int)), (20, .int .i64 (wi (m0_1 + 1)))] (fun R hR => st_val hS rfl rfl rfl (r_bin hS rfl rfl rfl b_add) fun a188 hS188 => st_val hS188 rfl rfl rfl (r_move hS188 rfl rfl) fun a189 hS189 => wpList_nil (hR _ (hS189.re ⟨rfl, rfl, rfl, rfl, rfl, rfl, trivial⟩))) ?_
                clear hS
                clear a
                intro a hS
                refine ⟨k28, Nat.lt_succ_self _, ?_⟩
                exact ⟨(upd m0_0 x31.Device true), wi (m0_1 + 1), g133, H, hS.re ⟨rfl, rfl, rfl, rfl, rfl, rfl, trivial⟩, h15, hp0, hp2, hF⟩
          · replace H := ite_f hb30 H
            refine wp_exit ?_
            have e := Option.some.inj H
            exact ⟨g27, e.symm, hS.re trivial, hF⟩
    · clear H
      clear hp0 hp2 h15 hF
      clear hS
      rintro a w20 ⟨g20, hpre0, hS, hF⟩
      subst hpre0
      have H := Fl.go_nxt Hl23
      clear Hl23
      refine c_pure [(6, .bool true)] (fun R hR => st_val hS rfl rfl rfl (r_assign hS rfl rfl) fun a190 hS190 => wpList_nil (hR _ (hS190.re ⟨rfl, trivial⟩))) ?_
      clear hS
      clear a
      intro a hS
      refine wp_ret ?_
      have e := Option.some.inj H
      subst e
      repeat (with_reducible first | refine then_ret ?_ | refine inBlock_ret ?_)
      exact c_ret1 hS Try.results43 rfl ⟨_, rfl, g20, rfl, hF⟩


end Go.Proofs.Ythmjgadmadlpkaa.Sim

namespace Go.Proofs.Ythmjgadmadlpkaa.Sim
open Go
set_option linter.unusedVariables false
set_option linter.unusedSimpArgs false

/-! ### resume_Verify: function 25 -/
def resume_Verify.l1 (m0_0 : List api_Slot) (x52 : api_Slot) (y75 : List api_Slot) : Nat → Int → Option (Fl (Fl (Int) ((List api_Slot))) ((List api_Slot)))
  | 0, _ => none
  | k83 + 1, m1_0 => if decide (m1_0 < (y75.length : Int)) = true then ((idx y75 m1_0).bind fun x86 => if (((x52.Worker == x86.Worker) && (decide (x52.Start < x86.End))) && (decide (x86.Start < x52.End))) = true then (some (.out (.out 17))) else (resume_Verify.l1 m0_0 x52 y75 k83 (wi (m1_0 + 1)))) else (some (.nxt (upd m0_0 x52.Device x52)))
def resume_Verify.l0 (p4 : List api_Slot) : Nat → (List api_Slot) → Int → Option (Fl (Int) ((List api_Slot)))
  | 0, _, _ => none
  | k44 + 1, m0_0, m0_1 => if decide (m0_1 < (p4.length : Int)) = true then (((idx p4 m0_1).bind fun x52 => (idx m0_0 x52.Device).bind fun x68 => (slc p4 0 m0_1).bind fun y75 => resume_Verify.l1 m0_0 x52 y75 FUEL 0 : Option (Fl (Fl (Int) ((List api_Slot))) ((List api_Slot)))).bind fun o49 => o49.go fun v48 => resume_Verify.l0 p4 k44 v48 (wi (m0_1 + 1))) else (some (.nxt m0_0))
def resume_Verify.l2 (p1 : List api_Link) (v37 : (List api_Slot)) : Nat → Int → Option (Fl (Int) (Unit))
  | 0, _ => none
  | k156 + 1, m2_0 => if decide (m2_0 < (p1.length : Int)) = true then ((idx p1 m2_0).bind fun x159 => (idx v37 x159.Consumer).bind fun x174 => (idx v37 x159.Supplier).bind fun x182 => if decide (x174.Start < x182.End) = true then (some (.out 9)) else (resume_Verify.l2 p1 v37 k156 (wi (m2_0 + 1)))) else (some (.nxt ()))
def resume_Verify.f (p0 : Int) (p1 : List api_Link) (p2 : List Int) (p3 : Int) (p4 : List api_Slot) : Option (Int) := (resume_check.f p0 p1 p2 p3).bind fun r6 => if (r6 != 0) = true then (some r6) else ((resume_validSlots.f p2 p3 p4).bind fun r19 => if (!r19) = true then (some 1) else ((mk p0 (api_Slot.mk 0 0 0 0)).bind fun y27 => (resume_Verify.l0 p4 FUEL y27 0 : Option (Fl (Int) ((List api_Slot)))).bind fun o38 => o38.go fun v37 => (resume_Verify.l2 p1 v37 FUEL 0 : Option (Fl (Int) (Unit))).bind fun o150 => o150.go fun _ => some 0))
set_option maxRecDepth 100000 in
set_option maxHeartbeats 4000000 in
theorem resume_Verify.calls {p0 : Int} {p1 : List api_Link} {A1 : Option Addr} {cap1 : Nat} {C1 : Nat → Prop} {p2 : List Int} {A2 : Option Addr} {cap2 : Nat} {C2 : Nat → Prop} {p3 : Int} {p4 : List api_Slot} {A4 : Option Addr} {cap4 : Nat} {C4 : Nat → Prop} {w : World} {g : Nat → Nat} {out : Int} (N : Nat) (hp1 : RdS kd_api_Link w g C1 A1 cap1 p1) (hC1 : ∀ c, C1 c → c < N) (hp2 : RdS (kint .u64) w g C2 A2 cap2 p2) (hC2 : ∀ c, C2 c → c < N) (hp4 : RdS kd_api_Slot w g C4 A4 cap4 p4) (hC4 : ∀ c, C4 c → c < N) (H : resume_Verify.f p0 p1 p2 p3 p4 = some out) :
    Calls Try.prog 25 #[.int .i64 p0, .slice A1 p1.length cap1, .slice A2 p2.length cap2, .int .i64 p3, .slice A4 p4.length cap4] w (fun e w' => ∃ v, e = .returned v ∧ ∃ (g' : Nat → Nat), v = .int .i64 out ∧ Fr (fun q => N ≤ q) w g w' g') := by
  unfold resume_Verify.f at H
  refine calls_enter Try.func25 rfl Try.ntmps25 rfl (fun a hS => ?_)
  replace hS : Sl 95 a [(0, .int .i64 p0), (1, .slice A1 p1.length cap1), (2, .slice A2 p2.length cap2), (3, .int .i64 p3), (4, .slice A4 p4.length cap4)] := hS
  have hF : Fr (fun q => N ≤ q) w g w g := Fr.refl _ _ _
  refine c_pure [(0, .int .i64 p0), (1, .slice A1 p1.length cap1), (2, .slice A2 p2.length cap2), (3, .int .i64 p3), (4, .slice A4 p4.length cap4)] (fun R hR => st_val hS rfl rfl rfl (r_assign hS rfl rfl) fun a1 hS1 => wpList_nil (hR _ (hS1.re ⟨rfl, rfl, rfl, rfl, rfl, trivial⟩))) ?_
  clear hS
  clear a
  intro a hS
  refine wp_seq ?_
  obtain ⟨r6, hr7, H⟩ := bind_el H
  refine c_region (fun K hK => ?_)
  refine st_val hS rfl rfl rfl (r_move hS rfl rfl) fun a2 hS2 => st_val hS2 rfl rfl rfl (r_move hS2 rfl rfl) fun a3 hS3 => st_val hS3 rfl rfl rfl (r_move hS3 rfl rfl) fun a4 hS4 => st_val hS4 rfl rfl rfl (r_move hS4 rfl rfl) fun a5 hS5 => ?_
  refine st_enter hS5 rfl rfl rfl (r_call hS5 rfl rfl (by kernel_rfl)) (resume_check.calls (C1 := C1) (C2 := C2) (p0 := p0) (p1 := p1) (p2 := p2) (p3 := p3) (g := g) (N + 8)  hp1 (fun q (hq : C1 q) => by have := hC1 q hq; omega) hp2 (fun q (hq : C2 q) => by have := hC2 q hq; omega) hr7) ?_
  rintro _ a8 w9 ⟨g9, rfl, F9⟩ hS8
  replace hp1 := RdS.fr hp1 F9 (by decide) (fun q (hq : C1 q) (hm : N + 8 ≤ q) => by have := hC1 q hq; omega)
  replace hp2 := RdS.fr hp2 F9 (by decide) (fun q (hq : C2 q) (hm : N + 8 ≤ q) => by have := hC2 q hq; omega)
  replace hp4 := RdS.fr hp4 F9 (by decide) (fun q (hq : C4 q) (hm : N + 8 ≤ q) => by have := hC4 q hq; omega)
  replace hF := hF.trans F9 (fun c' (hm : N + 8 ≤ c') => by show N ≤ c'; omega)
  refine st_val hS8 rfl rfl rfl (r_assign hS8 rfl rfl) fun a10 hS10 => wpList_nil (hK _ _ ?_)
  replace hS : Sl 95 _ [(0, .int .i64 p0), (1, .slice A1 p1.length cap1), (2, .slice A2 p2.length cap2), (3, .int .i64 p3), (4, .slice A4 p4.length cap4), (11, .int .i64 r6)] := hS10.re ⟨rfl, rfl, rfl, rfl, rfl, rfl, trivial⟩
  clear hK K
  try clear hS2 hS3 hS4 hS5 hS8 hS10
  obtain ⟨a, ha⟩ : ∃ a', a' = a10 := ⟨_, rfl⟩
  rw [← ha] at hS ⊢; clear ha
  refine c_pure [(0, .int .i64 p0), (1, .slice A1 p1.length cap1), (2, .slice A2 p2.length cap2), (3, .int .i64 p3), (4, .slice A4 p4.length cap4), (11, .int .i64 r6), (25, .bool (r6 != 0))] (fun R hR => st_val hS rfl rfl rfl (r_move hS rfl rfl) fun a11 hS11 => st_val hS11 rfl rfl rfl (r_bin hS11 rfl rfl rfl b_neq) fun a12 hS12 => wpList_nil (hR _ (hS12.re ⟨rfl, rfl, rfl, rfl, rfl, rfl, rfl, trivial⟩))) ?_
  clear hS
  clear a
  intro a hS
  refine c_cond hS rfl (fun hb13 => ?_) (fun hb13 => ?_)
  · replace H := ite_t hb13 H
    refine c_pure [(10, .int .i64 r6)] (fun R hR => st_val hS rfl rfl rfl (r_move hS rfl rfl) fun a14 hS14 => st_val hS14 rfl rfl rfl (r_assign hS14 rfl rfl) fun a15 hS15 => wpList_nil (hR _ (hS15.re ⟨rfl, trivial⟩))) ?_
    clear hS
    clear a
    intro a hS
    refine wp_ret ?_
    have e := Option.some.inj H
    subst e
    repeat (with_reducible first | refine then_ret ?_ | refine inBlock_ret ?_)
    exact c_ret1 hS Try.results25 rfl ⟨_, rfl, g9, rfl, hF⟩
  · replace H := ite_f hb13 H
    refine wp_skip ?_
    change Code.wp _ _ _ _ _
    refine wp_seq ?_
    obtain ⟨r19, hr20, H⟩ := bind_el H
    refine c_region (fun K hK => ?_)
    refine st_val hS rfl rfl rfl (r_move hS rfl rfl) fun a16 hS16 => st_val hS16 rfl rfl rfl (r_move hS16 rfl rfl) fun a17 hS17 => st_val hS17 rfl rfl rfl (r_move hS17 rfl rfl) fun a18 hS18 => ?_
    refine st_enter hS18 rfl rfl rfl (r_call hS18 rfl rfl (by kernel_rfl)) (resume_validSlots.calls (C0 := C2) (C2 := C4) (p0 := p2) (p1 := p3) (p2 := p4) (g := g9) (N + 8)  hp2 (fun q (hq : C2 q) => by have := hC2 q hq; omega) hp4 (fun q (hq : C4 q) => by have := hC4 q hq; omega) hr20) ?_
    rintro _ a21 w22 ⟨g22, rfl, F22⟩ hS21
    replace hp1 := RdS.fr hp1 F22 (by decide) (fun q (hq : C1 q) (hm : N + 8 ≤ q) => by have := hC1 q hq; omega)
    replace hp2 := RdS.fr hp2 F22 (by decide) (fun q (hq : C2 q) (hm : N + 8 ≤ q) => by have := hC2 q hq; omega)
    replace hp4 := RdS.fr hp4 F22 (by decide) (fun q (hq : C4 q) (hm : N + 8 ≤ q) => by have := hC4 q hq; omega)
    replace hF := hF.trans F22 (fun c' (hm : N + 8 ≤ c') => by show N ≤ c'; omega)
    refine st_val hS21 rfl rfl rfl (r_not hS21 rfl rfl) fun a23 hS23 => wpList_nil (hK _ _ ?_)
    replace hS : Sl 95 _ [(0, .int .i64 p0), (1, .slice A1 p1.length cap1), (4, .slice A4 p4.length cap4), (31, .bool (!r19))] := hS23.re ⟨rfl, rfl, rfl, rfl, trivial⟩
    clear hK K
    try clear hS16 hS17 hS18 hS21 hS23
    obtain ⟨a, ha⟩ : ∃ a', a' = a23 := ⟨_, rfl⟩
    rw [← ha] at hS ⊢; clear ha
    refine c_cond hS rfl (fun hb24 => ?_) (fun hb24 => ?_)
    · replace H := ite_t hb24 H
      refine c_pure [(10, .int .i64 1)] (fun R hR => st_val hS rfl rfl rfl (r_assign hS rfl rfl) fun a25 hS25 => wpList_nil (hR _ (hS25.re ⟨rfl, trivial⟩))) ?_
      clear hS
      clear a
      intro a hS
      refine wp_ret ?_
      have e := Option.some.inj H
      subst e
      repeat (with_reducible first | refine then_ret ?_ | refine inBlock_ret ?_)
      exact c_ret1 hS Try.results25 rfl ⟨_, rfl, g22, rfl, hF⟩
    · replace H := ite_f hb24 H
      refine wp_skip ?_
      change Code.wp _ _ _ _ _
      obtain ⟨y27, hy28, H⟩ := bind_el H
      refine c_region (fun K hK => ?_)
      refine st_val hS rfl rfl rfl (r_move hS rfl rfl) fun a26 hS26 => ?_
      refine st_eff hS26 rfl rfl rfl (e_make (e := 38) (sz := 4) (by_ := 32) (z := [.int .i64 0, .int .i64 0, .int .u64 0, .int .u64 0]) (kd := kd_api_Slot) (N + 0) g22 hS26 rfl rfl (by kernel_rfl) (by kernel_rfl) rfl rfl rfl (fun _ _ _ => by exact rfl) hy28) ?_
      rintro _ a33 w34 g34 ⟨⟨A29, cap30, rfl, h31⟩, F34⟩ hS33
      replace hp1 := RdS.fr hp1 F34 (by decide) (fun _ _ h => h)
      replace hp4 := RdS.fr hp4 F34 (by decide) (fun _ _ h => h)
      replace hF := hF.trans F34 (fun _ h => h.elim)
      refine st_val hS33 rfl rfl rfl (r_assign hS33 rfl rfl) fun a35 hS35 => wpList_nil (hK _ _ ?_)
      replace hS : Sl 95 _ [(1, .slice A1 p1.length cap1), (4, .slice A4 p4.length cap4), (12, .slice A29 y27.length cap30)] := hS35.re ⟨rfl, rfl, rfl, trivial⟩
      clear hK K
      try clear hS26 hS33 hS35
      obtain ⟨a, ha⟩ : ∃ a', a' = a35 := ⟨_, rfl⟩
      rw [← ha] at hS ⊢; clear ha
      obtain ⟨o38, H, Hl39⟩ := bind_el H
      refine c_cut (fun a w36 => ∃ (v37 : (List api_Slot)), ∃ (g36 : Nat → Nat), o38 = .nxt v37 ∧ Sl 95 a [(1, .slice A1 p1.length cap1), (12, .slice A29 v37.length cap30)] ∧ OwS kd_api_Slot 38 w36 g36 (N + 0) A29 cap30 v37 ∧ RdS kd_api_Link w36 g36 C1 A1 cap1 p1 ∧ Fr (fun q => N ≤ q) w g w36 g36) ?_ ?_
      · refine c_pure [(1, .slice A1 p1.length cap1), (4, .slice A4 p4.length cap4), (12, .slice A29 y27.length cap30), (34, .slice A4 p4.length cap4), (35, .int .i64 (p4.length : Int)), (36, .int .i64 0)] (fun R hR => st_val hS rfl rfl rfl (r_move hS rfl rfl) fun a40 hS40 => st_val hS40 rfl rfl rfl (r_len (e := 38) (sz := 4) (by_ := 32) hS40 rfl rfl (by kernel_rfl)) fun a41 hS41 => st_val hS41 rfl rfl rfl (r_move hS41 rfl rfl) fun a42 hS42 => wpList_nil (hR _ (hS42.re ⟨rfl, rfl, rfl, rfl, rfl, rfl, trivial⟩))) ?_
        clear hS
        clear a
        intro a hS
        refine wp_block ?_
        refine wp_loop_ghost (fun kq => fun a w43 => ∃ (m0_0 : List api_Slot), ∃ (m0_1 : Int), ∃ (g43 : Nat → Nat), resume_Verify.l0 p4 kq m0_0 m0_1 = some o38 ∧ Sl 95 a [(1, .slice A1 p1.length cap1), (4, .slice A4 p4.length cap4), (12, .slice A29 m0_0.length cap30), (34, .slice A4 p4.length cap4), (35, .int .i64 (p4.length : Int)), (36, .int .i64 m0_1)] ∧ OwS kd_api_Slot 38 w43 g43 (N + 0) A29 cap30 m0_0 ∧ RdS kd_api_Link w43 g43 C1 A1 cap1 p1 ∧ RdS kd_api_Slot w43 g43 C4 A4 cap4 p4 ∧ Fr (fun q => N ≤ q) w g w43 g43) FUEL ?_ ?_
        · exact ⟨y27, 0, g34, H, hS.re ⟨rfl, rfl, rfl, rfl, rfl, rfl, trivial⟩, h31, hp1, hp4, hF⟩
        · clear H
          clear hp1 hp4 h31 hF
          clear hS
          rintro k44 a w43 ⟨m0_0, m0_1, g43, hpre0, hS, h31, hp1, hp4, hF⟩
          have H := hpre0
          clear hpre0
          cases k44 with
          | zero => exact absurd H (by simp [resume_Verify.l0])
          | succ k44 =>
            rw [resume_Verify.l0] at H
            refine c_pure [(1, .slice A1 p1.length cap1), (4, .slice A4 p4.length cap4), (12, .slice A29 m0_0.length cap30), (34, .slice A4 p4.length cap4), (35, .int .i64 (p4.length : Int)), (36, .int .i64 m0_1), (37, .bool (decide (m0_1 < (p4.length : Int))))] (fun R hR => st_val hS rfl rfl rfl (r_bin hS rfl rfl rfl b_lss) fun a45 hS45 => wpList_nil (hR _ (hS45.re ⟨rfl, rfl, rfl, rfl, rfl, rfl, rfl, trivial⟩))) ?_
            clear hS
            clear a
            intro a hS
            refine c_if hS rfl (fun hb46 => ?_) (fun hb46 => ?_)
            · replace H := ite_t hb46 H
              refine wp_skip ?_
              change Code.wp _ _ _ _ _
              obtain ⟨o49, H, Hl50⟩ := bind_el H
              refine c_cut (fun a w47 => ∃ (v48 : (List api_Slot)), ∃ (g47 : Nat → Nat), o49 = .nxt v48 ∧ Sl 95 a [(1, .slice A1 p1.length cap1), (4, .slice A4 p4.length cap4), (12, .slice A29 v48.length cap30), (34, .slice A4 p4.length cap4), (35, .int .i64 (p4.length : Int)), (36, .int .i64 m0_1)] ∧ OwS kd_api_Slot 38 w47 g47 (N + 0) A29 cap30 v48 ∧ RdS kd_api_Link w47 g47 C1 A1 cap1 p1 ∧ RdS kd_api_Slot w47 g47 C4 A4 cap4 p4 ∧ Fr (fun q => N ≤ q) w g w47 g47) ?_ ?_
              · refine wp_block ?_
                obtain ⟨x52, hx53, H⟩ := bind_el H
                refine c_region (fun K hK => ?_)
                refine st_val hS rfl rfl rfl (r_move hS rfl rfl) fun a51 hS51 => st_val hS51 rfl rfl rfl (r_index (e := 38) (sz := 4) (by_ := 32) hS51 rfl rfl rfl (by kernel_rfl) (RdS.some_ hp4 hx53) (idx_lo hx53) (idx_hi hx53)) fun a54 hS54 => st_val hS54 rfl rfl rfl (r_loadN (n := 4) (cs := [.int .i64 x52.Device, .int .i64 x52.Worker, .int .u64 x52.Start, .int .u64 x52.End]) hS54 rfl rfl (by kernel_rfl) rfl (RdS.cells_off hp4 hx53 0 4)) fun a55 hS55 => ?_
                refine st_eff hS55 rfl rfl rfl (e_alloc (cs := [.int .i64 0, .int .i64 0, .int .u64 0, .int .u64 0]) (N + 2) g43 hS55 rfl (by kernel_rfl)) ?_
                rintro _ a59 w60 g60 ⟨⟨b56, rfl, h57⟩, F60⟩ hS59
                replace h31 := OwS.fr h31 F60 (fun _ _ h => h)
                replace hp1 := RdS.fr hp1 F60 (by decide) (fun _ _ h => h)
                replace hp4 := RdS.fr hp4 F60 (by decide) (fun _ _ h => h)
                replace hF := hF.trans F60 (fun _ h => h.elim)
                refine st_val hS59 rfl rfl rfl (r_assign hS59 rfl rfl) fun a61 hS61 => ?_
                refine st_effS hS61 rfl rfl (e_storeB (n := 4) (bb := true) (cs' := [.int .i64 x52.Device, .int .i64 x52.Worker, .int .u64 x52.Start, .int .u64 x52.End]) g60 hS61 rfl rfl rfl (by kernel_rfl) rfl rfl rfl h57 rfl rfl) ?_
                rintro a62 w63 g63 ⟨h57, F63⟩ hS62
                replace h31 := OwS.fr h31 F63 (fun c' hc (hm : c' = N + 2) => by omega)
                replace hp1 := RdS.fr hp1 F63 (by decide) (fun q (hq : C1 q) (hm : q = N + 2) => by have := hC1 q hq; omega)
                replace hp4 := RdS.fr hp4 F63 (by decide) (fun q (hq : C4 q) (hm : q = N + 2) => by have := hC4 q hq; omega)
                replace hF := hF.trans F63 (fun c' (hm : c' = N + 2) => by show N ≤ c'; omega)
                refine wpList_nil (hK _ _ ?_)
                replace hS : Sl 95 _ [(1, .slice A1 p1.length cap1), (4, .slice A4 p4.length cap4), (12, .slice A29 m0_0.length cap30), (13, .int .i64 m0_1), (14, .pointer (some ⟨b56, 0, none⟩)), (34, .slice A4 p4.length cap4), (35, .int .i64 (p4.length : Int)), (36, .int .i64 m0_1)] := hS62.re ⟨rfl, rfl, rfl, rfl, rfl, rfl, rfl, rfl, trivial⟩
                clear hK K
                try clear hS51 hS54 hS55 hS59 hS61 hS62
                obtain ⟨a, ha⟩ : ∃ a', a' = a62 := ⟨_, rfl⟩
                rw [← ha] at hS ⊢; clear ha
                obtain ⟨x68, hx69, H⟩ := bind_el H
                refine c_region (fun K hK => ?_)
                refine st_val hS rfl rfl rfl (r_move hS rfl rfl) fun a64 hS64 => st_val hS64 rfl rfl rfl (r_fieldB (off := 0) hS64 rfl rfl (by kernel_rfl)) fun a65 hS65 => st_val hS65 rfl rfl rfl (r_load1 (n := 1) hS65 rfl rfl (by kernel_rfl) (Bx.cell h57 rfl)) fun a66 hS66 => st_val hS66 rfl rfl rfl (r_loadN (n := 4) (cs := [.int .i64 x52.Device, .int .i64 x52.Worker, .int .u64 x52.Start, .int .u64 x52.End]) hS66 rfl rfl (by kernel_rfl) rfl (Bx.cells_off h57 0 4)) fun a67 hS67 => st_val hS67 rfl rfl rfl (r_index (e := 38) (sz := 4) (by_ := 32) hS67 rfl rfl rfl (by kernel_rfl) (RdS.some_ (OwS.rd h31) hx69) (idx_lo hx69) (idx_hi hx69)) fun a70 hS70 => ?_
                refine st_effS hS70 rfl rfl (e_storeE (n := 4) (bb := true) (kd := kd_api_Slot) (j := 0) (x' := x52) (us := [.int .i64 x52.Device, .int .i64 x52.Worker, .int .u64 x52.Start, .int .u64 x52.End]) g63 hS70 rfl rfl rfl rfl (by kernel_rfl) rfl rfl (by intro v hv; simp only [List.mem_cons, List.not_mem_nil, or_false] at hv; rcases hv with rfl | rfl | rfl | rfl <;> rfl) h31 hx69 rfl (fun _ _ cs hR => by rw [show cs = _ from hR]; rfl)) ?_
                rintro a71 w72 g72 ⟨h31, F72⟩ hS71
                replace h57 := h57.fr F72 (fun (hm : N + 2 = N + 0) => by omega)
                replace hp1 := RdS.fr hp1 F72 (by decide) (fun q (hq : C1 q) (hm : q = N + 0) => by have := hC1 q hq; omega)
                replace hp4 := RdS.fr hp4 F72 (by decide) (fun q (hq : C4 q) (hm : q = N + 0) => by have := hC4 q hq; omega)
                replace hF := hF.trans F72 (fun c' (hm : c' = N + 0) => by show N ≤ c'; omega)
                have hT : Sl 95 a71 [(1, .slice A1 p1.length cap1), (4, .slice A4 p4.length cap4), (12, .slice A29 m0_0.length cap30), (13, .int .i64 m0_1), (14, .pointer (some ⟨b56, 0, none⟩)), (34, .slice A4 p4.length cap4), (35, .int .i64 (p4.length : Int)), (36, .int .i64 m0_1)] := hS71.re ⟨rfl, rfl, rfl, rfl, rfl, rfl, rfl, rfl, trivial⟩
                replace hS71 : Sl 95 a71 [(1, .slice A1 p1.length cap1), (4, .slice A4 p4.length cap4), (12, .slice A29 (upd m0_0 x52.Device x52).length cap30), (13, .int .i64 m0_1), (14, .pointer (some ⟨b56, 0, none⟩)), (34, .slice A4 p4.length cap4), (35, .int .i64 (p4.length : Int)), (36, .int .i64 m0_1)] := by simpa only [upd_length] using hT
                clear hT
                refine wpList_nil (hK _ _ ?_)
                replace hS : Sl 95 _ [(1, .slice A1 p1.length cap1), (4, .slice A4 p4.length cap4), (12, .slice A29 (upd m0_0 x52.Device x52).length cap30), (13, .int .i64 m0_1), (14, .pointer (some ⟨b56, 0, none⟩)), (34, .slice A4 p4.length cap4), (35, .int .i64 (p4.length : Int)), (36, .int .i64 m0_1)] := hS71.re ⟨rfl, rfl, rfl, rfl, rfl, rfl, rfl, rfl, trivial⟩
                clear hK K
                try clear hS64 hS65 hS66 hS67 hS70 hS71
                obtain ⟨a, ha⟩ : ∃ a', a' = a71 := ⟨_, rfl⟩
                rw [← ha] at hS ⊢; clear ha
                obtain ⟨y75, hy76, H⟩ := bind_el H
                refine c_region (fun K hK => ?_)
                refine st_val hS rfl rfl rfl (r_move hS rfl rfl) fun a73 hS73 => st_val hS73 rfl rfl rfl (r_move hS73 rfl rfl) fun a74 hS74 => ?_
                have h77 := RdS.slc hp4 hy76
                refine st_val hS74 rfl rfl rfl (r_slice (e := 38) (sz := 4) (by_ := 32) (l := 0) (h := m0_1) hS74 rfl rfl (by kernel_rfl) rfl rfl hy76 hp4.1) fun a79 hS79 => st_val hS79 rfl rfl rfl (r_len (e := 38) (sz := 4) (by_ := 32) hS79 rfl rfl (by kernel_rfl)) fun a80 hS80 => st_val hS80 rfl rfl rfl (r_move hS80 rfl rfl) fun a81 hS81 => wpList_nil (hK _ _ ?_)
                replace hS : Sl 95 _ [(1, .slice A1 p1.length cap1), (4, .slice A4 p4.length cap4), (12, .slice A29 (upd m0_0 x52.Device x52).length cap30), (14, .pointer (some ⟨b56, 0, none⟩)), (34, .slice A4 p4.length cap4), (35, .int .i64 (p4.length : Int)), (36, .int .i64 m0_1), (48, .slice (slA A4 cap4 (0 : Int).toNat 4) y75.length (cap4 - (0 : Int).toNat)), (49, .int .i64 (y75.length : Int)), (50, .int .i64 0)] := hS81.re ⟨rfl, rfl, rfl, rfl, rfl, rfl, rfl, rfl, rfl, rfl, trivial⟩
                clear hK K
                try clear hS73 hS74 hS79 hS80 hS81
                obtain ⟨a, ha⟩ : ∃ a', a' = a81 := ⟨_, rfl⟩
                rw [← ha] at hS ⊢; clear ha
                refine wp_block ?_
                refine wp_loop_ghost (fun kq => fun a w82 => ∃ (m1_0 : Int), ∃ (g82 : Nat → Nat), resume_Verify.l1 m0_0 x52 y75 kq m1_0 = some o49 ∧ Sl 95 a [(1, .slice A1 p1.length cap1), (4, .slice A4 p4.length cap4), (12, .slice A29 (upd m0_0 x52.Device x52).length cap30), (14, .pointer (some ⟨b56, 0, none⟩)), (34, .slice A4 p4.length cap4), (35, .int .i64 (p4.length : Int)), (36, .int .i64 m0_1), (48, .slice (slA A4 cap4 (0 : Int).toNat 4) y75.length (cap4 - (0 : Int).toNat)), (49, .int .i64 (y75.length : Int)), (50, .int .i64 m1_0)] ∧ OwS kd_api_Slot 38 w82 g82 (N + 0) A29 cap30 (upd m0_0 x52.Device x52) ∧ Bx w82 g82 (N + 2) b56 38 [.int .i64 x52.Device, .int .i64 x52.Worker, .int .u64 x52.Start, .int .u64 x52.End] ∧ RdS kd_api_Slot w82 g82 C4 (slA A4 cap4 (0 : Int).toNat 4) (cap4 - (0 : Int).toNat) y75 ∧ RdS kd_api_Link w82 g82 C1 A1 cap1 p1 ∧ RdS kd_api_Slot w82 g82 C4 A4 cap4 p4 ∧ Fr (fun q => N ≤ q) w g w82 g82) FUEL ?_ ?_
                · exact ⟨0, g72, H, hS.re ⟨rfl, rfl, rfl, rfl, rfl, rfl, rfl, rfl, rfl, rfl, trivial⟩, h31, h57, h77, hp1, hp4, hF⟩
                · clear H
                  clear hp1 hp4 h31 h57 h77 hF
                  clear hS
                  rintro k83 a w82 ⟨m1_0, g82, hpre0, hS, h31, h57, h77, hp1, hp4, hF⟩
                  have H := hpre0
                  clear hpre0
                  cases k83 with
                  | zero => exact absurd H (by simp [resume_Verify.l1])
                  | succ k83 =>
                    rw [resume_Verify.l1] at H
                    refine c_pure [(1, .slice A1 p1.length cap1), (4, .slice A4 p4.length cap4), (12, .slice A29 (upd m0_0 x52.Device x52).length cap30), (14, .pointer (some ⟨b56, 0, none⟩)), (34, .slice A4 p4.length cap4), (35, .int .i64 (p4.length : Int)), (36, .int .i64 m0_1), (48, .slice (slA A4 cap4 (0 : Int).toNat 4) y75.length (cap4 - (0 : Int).toNat)), (49, .int .i64 (y75.length : Int)), (50, .int .i64 m1_0), (51, .bool (decide (m1_0 < (y75.length : Int))))] (fun R hR => st_val hS rfl rfl rfl (r_bin hS rfl rfl rfl b_lss) fun a84 hS84 => wpList_nil (hR _ (hS84.re ⟨rfl, rfl, rfl, rfl, rfl, rfl, rfl, rfl, rfl, rfl, rfl, trivial⟩))) ?_
                    clear hS
                    clear a
                    intro a hS
                    refine c_if hS rfl (fun hb85 => ?_) (fun hb85 => ?_)
                    · replace H := ite_t hb85 H
                      refine wp_skip ?_
                      change Code.wp _ _ _ _ _
                      refine wp_seq ?_
                      refine wp_block ?_
                      obtain ⟨x86, hx87, H⟩ := bind_el H
                      refine c_region (fun K hK => ?_)
                      refine st_val hS rfl rfl rfl (r_index (e := 38) (sz := 4) (by_ := 32) hS rfl rfl rfl (by kernel_rfl) (RdS.some_ h77 hx87) (idx_lo hx87) (idx_hi hx87)) fun a88 hS88 => st_val hS88 rfl rfl rfl (r_loadN (n := 4) (cs := [.int .i64 x86.Device, .int .i64 x86.Worker, .int .u64 x86.Start, .int .u64 x86.End]) hS88 rfl rfl (by kernel_rfl) rfl (RdS.cells_off h77 hx87 0 4)) fun a89 hS89 => ?_
                      refine st_eff hS89 rfl rfl rfl (e_alloc (cs := [.int .i64 0, .int .i64 0, .int .u64 0, .int .u64 0]) (N + 4) g82 hS89 rfl (by kernel_rfl)) ?_
                      rintro _ a93 w94 g94 ⟨⟨b90, rfl, h91⟩, F94⟩ hS93
                      replace h31 := OwS.fr h31 F94 (fun _ _ h => h)
                      replace h57 := h57.fr F94 (fun h => h)
                      replace h77 := RdS.fr h77 F94 (by decide) (fun _ _ h => h)
                      replace hp1 := RdS.fr hp1 F94 (by decide) (fun _ _ h => h)
                      replace hp4 := RdS.fr hp4 F94 (by decide) (fun _ _ h => h)
                      replace hF := hF.trans F94 (fun _ h => h.elim)
                      refine st_effS hS93 rfl rfl (e_storeB (n := 4) (bb := true) (cs' := [.int .i64 x86.Device, .int .i64 x86.Worker, .int .u64 x86.Start, .int .u64 x86.End]) g94 hS93 rfl rfl rfl (by kernel_rfl) rfl rfl rfl h91 rfl rfl) ?_
                      rintro a95 w96 g96 ⟨h91, F96⟩ hS95
                      replace h31 := OwS.fr h31 F96 (fun c' hc (hm : c' = N + 4) => by omega)
                      replace h57 := h57.fr F96 (fun (hm : N + 2 = N + 4) => by omega)
                      replace h77 := RdS.fr h77 F96 (by decide) (fun q (hq : C4 q) (hm : q = N + 4) => by have := hC4 q hq; omega)
                      replace hp1 := RdS.fr hp1 F96 (by decide) (fun q (hq : C1 q) (hm : q = N + 4) => by have := hC1 q hq; omega)
                      replace hp4 := RdS.fr hp4 F96 (by decide) (fun q (hq : C4 q) (hm : q = N + 4) => by have := hC4 q hq; omega)
                      replace hF := hF.trans F96 (fun c' (hm : c' = N + 4) => by show N ≤ c'; omega)
                      refine wpList_nil (hK _ _ ?_)
                      replace hS : Sl 95 _ [(1, .slice A1 p1.length cap1), (4, .slice A4 p4.length cap4), (12, .slice A29 (upd m0_0 x52.Device x52).length cap30), (14, .pointer (some ⟨b56, 0, none⟩)), (16, .pointer (some ⟨b90, 0, none⟩)), (34, .slice A4 p4.length cap4), (35, .int .i64 (p4.length : Int)), (36, .int .i64 m0_1), (48, .slice (slA A4 cap4 (0 : Int).toNat 4) y75.length (cap4 - (0 : Int).toNat)), (49, .int .i64 (y75.length : Int)), (50, .int .i64 m1_0)] := hS95.re ⟨rfl, rfl, rfl, rfl, rfl, rfl, rfl, rfl, rfl, rfl, rfl, trivial⟩
                      clear hK K
                      try clear hS88 hS89 hS93 hS95
                      obtain ⟨a, ha⟩ : ∃ a', a' = a95 := ⟨_, rfl⟩
                      rw [← ha] at hS ⊢; clear ha
                      refine c_region (fun K hK => ?_)
                      refine st_val hS rfl rfl rfl (r_fieldB (off := 1) hS rfl rfl (by kernel_rfl)) fun a97 hS97 => st_val hS97 rfl rfl rfl (r_load1 (n := 1) hS97 rfl rfl (by kernel_rfl) (Bx.cell h57 rfl)) fun a98 hS98 => st_val hS98 rfl rfl rfl (r_fieldB (off := 1) hS98 rfl rfl (by kernel_rfl)) fun a99 hS99 => st_val hS99 rfl rfl rfl (r_load1 (n := 1) hS99 rfl rfl (by kernel_rfl) (Bx.cell h91 rfl)) fun a100 hS100 => st_val hS100 rfl rfl rfl (r_bin hS100 rfl rfl rfl b_eql) fun a101 hS101 => st_val hS101 rfl rfl rfl (r_move hS101 rfl rfl) fun a102 hS102 => ?_
                      refine g_join (N := 95) 6 [(1, .slice A1 p1.length cap1), (4, .slice A4 p4.length cap4), (12, .slice A29 (upd m0_0 x52.Device x52).length cap30), (14, .pointer (some ⟨b56, 0, none⟩)), (16, .pointer (some ⟨b90, 0, none⟩)), (34, .slice A4 p4.length cap4), (35, .int .i64 (p4.length : Int)), (36, .int .i64 m0_1), (48, .slice (slA A4 cap4 (0 : Int).toNat 4) y75.length (cap4 - (0 : Int).toNat)), (49, .int .i64 (y75.length : Int)), (50, .int .i64 m1_0), (65, .bool ((x52.Worker == x86.Worker) && (decide (x52.Start < x86.End))))] ?_ (fun hk => ?_)
                      rotate_left
                      · rcases Bool.eq_false_or_eq_true ((x52.Worker == x86.Worker)) with hb103 | hb103
                        · refine st_valW hS102 (want_on hS102 rfl rfl rfl hb103) rfl rfl (r_fieldB (off := 2) hS102 rfl rfl (by kernel_rfl)) fun a109 hS109 => st_valW hS109 (want_on hS109 rfl rfl rfl hb103) rfl rfl (r_load1 (n := 1) hS109 rfl rfl (by kernel_rfl) (Bx.cell h57 rfl)) fun a110 hS110 => st_valW hS110 (want_on hS110 rfl rfl rfl hb103) rfl rfl (r_fieldB (off := 3) hS110 rfl rfl (by kernel_rfl)) fun a111 hS111 => st_valW hS111 (want_on hS111 rfl rfl rfl hb103) rfl rfl (r_load1 (n := 1) hS111 rfl rfl (by kernel_rfl) (Bx.cell h91 rfl)) fun a112 hS112 => st_valW hS112 (want_on hS112 rfl rfl rfl hb103) rfl rfl (r_bin hS112 rfl rfl rfl b_lss) fun a113 hS113 => st_val hS113 rfl rfl rfl (r_pickT hS113 rfl rfl rfl hb103) fun a114 hS114 => hk _ (hS114.re ⟨rfl, rfl, rfl, rfl, rfl, rfl, rfl, rfl, rfl, rfl, rfl, (by rw [hb103]; rfl), trivial⟩)
                        · refine st_off hS102 (want_off hS102 rfl rfl rfl hb103) rfl rfl fun a115 hS115 => st_off hS115 (want_off hS115 rfl rfl rfl hb103) rfl rfl fun a116 hS116 => st_off hS116 (want_off hS116 rfl rfl rfl hb103) rfl rfl fun a117 hS117 => st_off hS117 (want_off hS117 rfl rfl rfl hb103) rfl rfl fun a118 hS118 => st_off hS118 (want_off hS118 rfl rfl rfl hb103) rfl rfl fun a119 hS119 => st_val hS119 rfl rfl rfl (r_pickF hS119 rfl rfl rfl hb103) fun a120 hS120 => hk _ (hS120.re ⟨rfl, rfl, rfl, rfl, rfl, rfl, rfl, rfl, rfl, rfl, rfl, (by rw [hb103]; rfl), trivial⟩)
                      intro a121 hS121
                      refine st_val hS121 rfl rfl rfl (r_move hS121 rfl rfl) fun a122 hS122 => ?_
                      refine g_join (N := 95) 6 [(1, .slice A1 p1.length cap1), (4, .slice A4 p4.length cap4), (12, .slice A29 (upd m0_0 x52.Device x52).length cap30), (14, .pointer (some ⟨b56, 0, none⟩)), (34, .slice A4 p4.length cap4), (35, .int .i64 (p4.length : Int)), (36, .int .i64 m0_1), (48, .slice (slA A4 cap4 (0 : Int).toNat 4) y75.length (cap4 - (0 : Int).toNat)), (49, .int .i64 (y75.length : Int)), (50, .int .i64 m1_0), (72, .bool (((x52.Worker == x86.Worker) && (decide (x52.Start < x86.End))) && (decide (x86.Start < x52.End))))] ?_ (fun hk => ?_)
                      rotate_left
                      · rcases Bool.eq_false_or_eq_true (((x52.Worker == x86.Worker) && (decide (x52.Start < x86.End)))) with hb123 | hb123
                        · refine st_valW hS122 (want_on hS122 rfl rfl rfl hb123) rfl rfl (r_fieldB (off := 2) hS122 rfl rfl (by kernel_rfl)) fun a129 hS129 => st_valW hS129 (want_on hS129 rfl rfl rfl hb123) rfl rfl (r_load1 (n := 1) hS129 rfl rfl (by kernel_rfl) (Bx.cell h91 rfl)) fun a130 hS130 => st_valW hS130 (want_on hS130 rfl rfl rfl hb123) rfl rfl (r_fieldB (off := 3) hS130 rfl rfl (by kernel_rfl)) fun a131 hS131 => st_valW hS131 (want_on hS131 rfl rfl rfl hb123) rfl rfl (r_load1 (n := 1) hS131 rfl rfl (by kernel_rfl) (Bx.cell h57 rfl)) fun a132 hS132 => st_valW hS132 (want_on hS132 rfl rfl rfl hb123) rfl rfl (r_bin hS132 rfl rfl rfl b_lss) fun a133 hS133 => st_val hS133 rfl rfl rfl (r_pickT hS133 rfl rfl rfl hb123) fun a134 hS134 => hk _ (hS134.re ⟨rfl, rfl, rfl, rfl, rfl, rfl, rfl, rfl, rfl, rfl, (by rw [hb123]; rfl), trivial⟩)
                        · refine st_off hS122 (want_off hS122 rfl rfl rfl hb123) rfl rfl fun a135 hS135 => st_off hS135 (want_off hS135 rfl rfl rfl hb123) rfl rfl fun a136 hS136 => st_off hS136 (want_off hS136 rfl rfl rfl hb123) rfl rfl fun a137 hS137 => st_off hS137 (want_off hS137 rfl rfl rfl hb123) rfl rfl fun a138 hS138 => st_off hS138 (want_off hS138 rfl rfl rfl hb123) rfl rfl fun a139 hS139 => st_val hS139 rfl rfl rfl (r_pickF hS139 rfl rfl rfl hb123) fun a140 hS140 => hk _ (hS140.re ⟨rfl, rfl, rfl, rfl, rfl, rfl, rfl, rfl, rfl, rfl, (by rw [hb123]; rfl), trivial⟩)
                      intro a141 hS141
                      refine wpList_nil (hK _ _ ?_)
                      replace hS : Sl 95 _ [(1, .slice A1 p1.length cap1), (4, .slice A4 p4.length cap4), (12, .slice A29 (upd m0_0 x52.Device x52).length cap30), (14, .pointer (some ⟨b56, 0, none⟩)), (34, .slice A4 p4.length cap4), (35, .int .i64 (p4.length : Int)), (36, .int .i64 m0_1), (48, .slice (slA A4 cap4 (0 : Int).toNat 4) y75.length (cap4 - (0 : Int).toNat)), (49, .int .i64 (y75.length : Int)), (50, .int .i64 m1_0), (72, .bool (((x52.Worker == x86.Worker) && (decide (x52.Start < x86.End))) && (decide (x86.Start < x52.End))))] := hS141.re ⟨rfl, rfl, rfl, rfl, rfl, rfl, rfl, rfl, rfl, rfl, rfl, trivial⟩
                      clear hK K
                      try clear hS97 hS98 hS99 hS100 hS101 hS102 hS121 hS122 hS141
                      obtain ⟨a, ha⟩ : ∃ a', a' = a141 := ⟨_, rfl⟩
                      rw [← ha] at hS ⊢; clear ha
                      refine c_cond hS rfl (fun hb142 => ?_) (fun hb142 => ?_)
                      · replace H := ite_t hb142 H
                        refine c_pure [(10, .int .i64 17)] (fun R hR => st_val hS rfl rfl rfl (r_assign hS rfl rfl) fun a143 hS143 => wpList_nil (hR _ (hS143.re ⟨rfl, trivial⟩))) ?_
                        clear hS
                        clear a
                        intro a hS
                        refine wp_ret ?_
                        have e := Option.some.inj H
                        subst e
                        replace H := Fl.go_out Hl50
                        have e := Option.some.inj H
                        subst e
                        replace H := Fl.go_out Hl39
                        have e := Option.some.inj H
                        subst e
                        repeat (with_reducible first | refine then_ret ?_ | refine inBlock_ret ?_)
                        exact c_ret1 hS Try.results25 rfl ⟨_, rfl, g96, rfl, hF⟩
                      · replace H := ite_f hb142 H
                        refine wp_skip ?_
                        change Code.wp _ _ _ _ _
                        refine c_pure1 [(1, .slice A1 p1.length cap1), (4, .slice A4 p4.length cap4), (12, .slice A29 (upd m0_0 x52.Device x52).length cap30), (14, .pointer (some ⟨b56, 0, none⟩)), (34, .slice A4 p4.length cap4), (35, .int .i64 (p4.length : Int)), (36, .int .i64 m0_1), (48, .slice (slA A4 cap4 (0 : Int).toNat 4) y75.length (cap4 - (0 : Int).toNat)), (49, .int .i64 (y75.length : Int)), (50, .int .i64 (wi (m1_0 + 1)))] (fun R hR => st_val hS rfl rfl rfl (r_bin hS rfl rfl rfl b_add) fun a144 hS144 => st_val hS144 rfl rfl rfl (r_move hS144 rfl rfl) fun a145 hS145 => wpList_nil (hR _ (hS145.re ⟨rfl, rfl, rfl, rfl, rfl, rfl, rfl, rfl, rfl, rfl, trivial⟩))) ?_
                        clear hS
                        clear a
                        intro a hS
                        refine ⟨k83, Nat.lt_succ_self _, ?_⟩
                        exact ⟨wi (m1_0 + 1), g96, H, hS.re ⟨rfl, rfl, rfl, rfl, rfl, rfl, rfl, rfl, rfl, rfl, trivial⟩, h31, h57, h77, hp1, hp4, hF⟩
                    · replace H := ite_f hb85 H
                      refine wp_exit ?_
                      have e := Option.some.inj H
                      exact ⟨(upd m0_0 x52.Device x52), g82, e.symm, hS.re ⟨rfl, rfl, rfl, rfl, rfl, rfl, trivial⟩, h31, hp1, hp4, hF⟩
              · clear H
                clear hp1 hp4 h31 hF
                clear hS
                rintro a w47 ⟨v48, g47, hpre0, hS, h31, hp1, hp4, hF⟩
                subst hpre0
                have H := Fl.go_nxt Hl50
                clear Hl50
                refine c_pure1 [(1, .slice A1 p1.length cap1), (4, .slice A4 p4.length cap4), (12, .slice A29 v48.length cap30), (34, .slice A4 p4.length cap4), (35, .int .i64 (p4.length : Int)), (36, .int .i64 (wi (m0_1 + 1)))] (fun R hR => st_val hS rfl rfl rfl (r_bin hS rfl rfl rfl b_add) fun a146 hS146 => st_val hS146 rfl rfl rfl (r_move hS146 rfl rfl) fun a147 hS147 => wpList_nil (hR _ (hS147.re ⟨rfl, rfl, rfl, rfl, rfl, rfl, trivial⟩))) ?_
                clear hS
                clear a
                intro a hS
                refine ⟨k44, Nat.lt_succ_self _, ?_⟩
                exact ⟨v48, wi (m0_1 + 1), g47, H, hS.re ⟨rfl, rfl, rfl, rfl, rfl, rfl, trivial⟩, h31, hp1, hp4, hF⟩
            · replace H := ite_f hb46 H
              refine wp_exit ?_
              have e := Option.some.inj H
              exact ⟨m0_0, g43, e.symm, hS.re ⟨rfl, rfl, trivial⟩, h31, hp1, hF⟩
      · clear H
        clear hp1 hp4 h31 hF
        clear hS
        rintro a w36 ⟨v37, g36, hpre0, hS, h31, hp1, hF⟩
        subst hpre0
        have H := Fl.go_nxt Hl39
        clear Hl39
        obtain ⟨o150, H, Hl151⟩ := bind_el H
        refine c_cut (fun a w148 => ∃ (g148 : Nat → Nat), o150 = .nxt () ∧ Sl 95 a [] ∧ Fr (fun q => N ≤ q) w g w148 g148) ?_ ?_
        · refine c_pure [(12, .slice A29 v37.length cap30), (75, .slice A1 p1.length cap1), (76, .int .i64 (p1.length : Int)), (77, .int .i64 0)] (fun R hR => st_val hS rfl rfl rfl (r_move hS rfl rfl) fun a152 hS152 => st_val hS152 rfl rfl rfl (r_len (e := 43) (sz := 2) (by_ := 16) hS152 rfl rfl (by kernel_rfl)) fun a153 hS153 => st_val hS153 rfl rfl rfl (r_move hS153 rfl rfl) fun a154 hS154 => wpList_nil (hR _ (hS154.re ⟨rfl, rfl, rfl, rfl, trivial⟩))) ?_
          clear hS
          clear a
          intro a hS
          refine wp_block ?_
          refine wp_loop_ghost (fun kq => fun a w155 => ∃ (m2_0 : Int), ∃ (g155 : Nat → Nat), resume_Verify.l2 p1 v37 kq m2_0 = some o150 ∧ Sl 95 a [(12, .slice A29 v37.length cap30), (75, .slice A1 p1.length cap1), (76, .int .i64 (p1.length : Int)), (77, .int .i64 m2_0)] ∧ OwS kd_api_Slot 38 w155 g155 (N + 0) A29 cap30 v37 ∧ RdS kd_api_Link w155 g155 C1 A1 cap1 p1 ∧ Fr (fun q => N ≤ q) w g w155 g155) FUEL ?_ ?_
          · exact ⟨0, g36, H, hS.re ⟨rfl, rfl, rfl, rfl, trivial⟩, h31, hp1, hF⟩
          · clear H
            clear hp1 h31 hF
            clear hS
            rintro k156 a w155 ⟨m2_0, g155, hpre0, hS, h31, hp1, hF⟩
            have H := hpre0
            clear hpre0
            cases k156 with
            | zero => exact absurd H (by simp [resume_Verify.l2])
            | succ k156 =>
              rw [resume_Verify.l2] at H
              refine c_pure [(12, .slice A29 v37.length cap30), (75, .slice A1 p1.length cap1), (76, .int .i64 (p1.length : Int)), (77, .int .i64 m2_0), (78, .bool (decide (m2_0 < (p1.length : Int))))] (fun R hR => st_val hS rfl rfl rfl (r_bin hS rfl rfl rfl b_lss) fun a157 hS157 => wpList_nil (hR _ (hS157.re ⟨rfl, rfl, rfl, rfl, rfl, trivial⟩))) ?_
              clear hS
              clear a
              intro a hS
              refine c_if hS rfl (fun hb158 => ?_) (fun hb158 => ?_)
              · replace H := ite_t hb158 H
                refine wp_skip ?_
                change Code.wp _ _ _ _ _
                refine wp_seq ?_
                refine wp_block ?_
                obtain ⟨x159, hx160, H⟩ := bind_el H
                refine c_region (fun K hK => ?_)
                refine st_val hS rfl rfl rfl (r_index (e := 43) (sz := 2) (by_ := 16) hS rfl rfl rfl (by kernel_rfl) (RdS.some_ hp1 hx160) (idx_lo hx160) (idx_hi hx160)) fun a161 hS161 => st_val hS161 rfl rfl rfl (r_loadN (n := 2) (cs := [.int .i64 x159.Consumer, .int .i64 x159.Supplier]) hS161 rfl rfl (by kernel_rfl) rfl (RdS.cells_off hp1 hx160 0 2)) fun a162 hS162 => ?_
                refine st_eff hS162 rfl rfl rfl (e_alloc (cs := [.int .i64 0, .int .i64 0]) (N + 6) g155 hS162 rfl (by kernel_rfl)) ?_
                rintro _ a166 w167 g167 ⟨⟨b163, rfl, h164⟩, F167⟩ hS166
                replace h31 := OwS.fr h31 F167 (fun _ _ h => h)
                replace hp1 := RdS.fr hp1 F167 (by decide) (fun _ _ h => h)
                replace hF := hF.trans F167 (fun _ h => h.elim)
                refine st_effS hS166 rfl rfl (e_storeB (n := 2) (bb := true) (cs' := [.int .i64 x159.Consumer, .int .i64 x159.Supplier]) g167 hS166 rfl rfl rfl (by kernel_rfl) rfl rfl rfl h164 rfl rfl) ?_
                rintro a168 w169 g169 ⟨h164, F169⟩ hS168
                replace h31 := OwS.fr h31 F169 (fun c' hc (hm : c' = N + 6) => by omega)
                replace hp1 := RdS.fr hp1 F169 (by decide) (fun q (hq : C1 q) (hm : q = N + 6) => by have := hC1 q hq; omega)
                replace hF := hF.trans F169 (fun c' (hm : c' = N + 6) => by show N ≤ c'; omega)
                refine wpList_nil (hK _ _ ?_)
                replace hS : Sl 95 _ [(12, .slice A29 v37.length cap30), (18, .pointer (some ⟨b163, 0, none⟩)), (75, .slice A1 p1.length cap1), (76, .int .i64 (p1.length : Int)), (77, .int .i64 m2_0)] := hS168.re ⟨rfl, rfl, rfl, rfl, rfl, trivial⟩
                clear hK K
                try clear hS161 hS162 hS166 hS168
                obtain ⟨a, ha⟩ : ∃ a', a' = a168 := ⟨_, rfl⟩
                rw [← ha] at hS ⊢; clear ha
                obtain ⟨x174, hx175, H⟩ := bind_el H
                obtain ⟨x182, hx183, H⟩ := bind_el H
                refine c_draw (fun K hK => d_start (fun q => False) g169 [] 13 #[false, false, false, false, false, false, false, false, false, false, false, false, false] (by kernel_rfl) rfl rfl (fun w170 hw170 => ?_))
                have F170 : Fr (fun _ => False) w169 g169 w170 g169 := by rw [hw170]; exact Fr.drew _ _ _
                replace h164 := h164.fr F170 (fun h => h)
                replace h31 := OwS.fr h31 F170 (fun _ _ h => h)
                replace hp1 := RdS.fr hp1 F170 (by decide) (fun _ _ h => h)
                replace hF := hF.trans F170 (fun _ h => h.elim)
                have hC : Fr (fun q => False) w170 g169 w170 g169 := Fr.refl _ _ _
                refine d_pure hS 0 #[true, false, false, false, false, false, false, false, false, false, false, false, false] rfl rfl rfl rfl (by kernel_rfl) (fun _ _ _ h => h) (fun _ => (r_move hS rfl rfl)) fun a171 hS171 => d_pure hS171 1 #[true, true, false, false, false, false, false, false, false, false, false, false, false] rfl rfl rfl rfl (by kernel_rfl) (fun _ _ _ h => h) (fun _ => (r_fieldB (off := 0) hS171 rfl rfl (by kernel_rfl))) fun a172 hS172 => d_take hS172 2 #[true, true, true, false, false, false, false, false, false, false, false, false, false] rfl rfl rfl rfl (by kernel_rfl) (fun _ _ _ h => h) ⟨_, hC⟩ (fun w' g' Fz => (r_load1 (n := 1) hS172 rfl rfl (by kernel_rfl) (Bx.cell (h164.fr Fz (fun h => h)) rfl))) fun a173 hS173 => d_pure hS173 3 #[true, true, true, true, false, false, false, false, false, false, false, false, false] rfl rfl rfl rfl (by kernel_rfl) (fun _ _ _ h => h) (fun _ => (r_index (e := 38) (sz := 4) (by_ := 32) hS173 rfl rfl rfl (by kernel_rfl) (RdS.some_ (OwS.rd h31) hx175) (idx_lo hx175) (idx_hi hx175))) fun a176 hS176 => d_pure hS176 4 #[true, true, true, true, true, false, false, false, false, false, false, false, false] rfl rfl rfl rfl (by kernel_rfl) (fun _ _ _ h => h) (fun _ => (r_fieldE (off := 2) hS176 rfl rfl (by kernel_rfl))) fun a177 hS177 => d_take hS177 5 #[true, true, true, true, true, true, false, false, false, false, false, false, false] rfl rfl rfl rfl (by kernel_rfl) (fun _ _ _ h => h) ⟨_, hC⟩ (fun w' g' Fz => (r_load1 (n := 1) hS177 rfl rfl (by kernel_rfl) (RdS.cell (i := x159.Consumer) (sz := 4) (j := 2) (OwS.rd (OwS.fr h31 Fz (fun _ _ h => h))) hx175 rfl))) fun a178 hS178 => d_pure hS178 6 #[true, true, true, true, true, true, true, false, false, false, false, false, false] rfl rfl rfl rfl (by kernel_rfl) (fun _ _ _ h => h) (fun _ => (r_move hS178 rfl rfl)) fun a179 hS179 => d_pure hS179 7 #[true, true, true, true, true, true, true, true, false, false, false, false, false] rfl rfl rfl rfl (by kernel_rfl) (fun _ _ _ h => h) (fun _ => (r_fieldB (off := 1) hS179 rfl rfl (by kernel_rfl))) fun a180 hS180 => d_take hS180 8 #[true, true, true, true, true, true, true, true, true, false, false, false, false] rfl rfl rfl rfl (by kernel_rfl) (fun _ _ _ h => h) ⟨_, hC⟩ (fun w' g' Fz => (r_load1 (n := 1) hS180 rfl rfl (by kernel_rfl) (Bx.cell (h164.fr Fz (fun h => h)) rfl))) fun a181 hS181 => d_pure hS181 9 #[true, true, true, true, true, true, true, true, true, true, false, false, false] rfl rfl rfl rfl (by kernel_rfl) (fun _ _ _ h => h) (fun _ => (r_index (e := 38) (sz := 4) (by_ := 32) hS181 rfl rfl rfl (by kernel_rfl) (RdS.some_ (OwS.rd h31) hx183) (idx_lo hx183) (idx_hi hx183))) fun a184 hS184 => d_pure hS184 10 #[true, true, true, true, true, true, true, true, true, true, true, false, false] rfl rfl rfl rfl (by kernel_rfl) (fun _ _ _ h => h) (fun _ => (r_fieldE (off := 3) hS184 rfl rfl (by kernel_rfl))) fun a185 hS185 => d_take hS185 11 #[true, true, true, true, true, true, true, true, true, true, true, true, false] rfl rfl rfl rfl (by kernel_rfl) (fun _ _ _ h => h) ⟨_, hC⟩ (fun w' g' Fz => (r_load1 (n := 1) hS185 rfl rfl (by kernel_rfl) (RdS.cell (i := x159.Supplier) (sz := 4) (j := 3) (OwS.rd (OwS.fr h31 Fz (fun _ _ h => h))) hx183 rfl))) fun a186 hS186 => d_pure hS186 12 #[true, true, true, true, true, true, true, true, true, true, true, true, true] rfl rfl rfl rfl (by kernel_rfl) (fun _ _ _ h => h) (fun _ => (r_bin hS186 rfl rfl rfl b_lss)) fun a187 hS187 => d_done (by kernel_rfl) (hK _ _ ?_)
                replace hS : Sl 95 _ [(12, .slice A29 v37.length cap30), (75, .slice A1 p1.length cap1), (76, .int .i64 (p1.length : Int)), (77, .int .i64 m2_0), (93, .bool (decide (x174.Start < x182.End)))] := hS187.re ⟨rfl, rfl, rfl, rfl, rfl, trivial⟩
                clear hK K hC
                try clear hS171 hS172 hS173 hS176 hS177 hS178 hS179 hS180 hS181 hS184 hS185 hS186 hS187
                obtain ⟨a, ha⟩ : ∃ a', a' = a187 := ⟨_, rfl⟩
                rw [← ha] at hS ⊢; clear ha
                refine c_cond hS rfl (fun hb188 => ?_) (fun hb188 => ?_)
                · replace H := ite_t hb188 H
                  refine c_pure [(10, .int .i64 9)] (fun R hR => st_val hS rfl rfl rfl (r_assign hS rfl rfl) fun a189 hS189 => wpList_nil (hR _ (hS189.re ⟨rfl, trivial⟩))) ?_
                  clear hS
                  clear a
                  intro a hS
                  refine wp_ret ?_
                  have e := Option.some.inj H
                  subst e
                  replace H := Fl.go_out Hl151
                  have e := Option.some.inj H
                  subst e
                  repeat (with_reducible first | refine then_ret ?_ | refine inBlock_ret ?_)
                  exact c_ret1 hS Try.results25 rfl ⟨_, rfl, g169, rfl, hF⟩
                · replace H := ite_f hb188 H
                  refine wp_skip ?_
                  change Code.wp _ _ _ _ _
                  refine c_pure1 [(12, .slice A29 v37.length cap30), (75, .slice A1 p1.length cap1), (76, .int .i64 (p1.length : Int)), (77, .int .i64 (wi (m2_0 + 1)))] (fun R hR => st_val hS rfl rfl rfl (r_bin hS rfl rfl rfl b_add) fun a190 hS190 => st_val hS190 rfl rfl rfl (r_move hS190 rfl rfl) fun a191 hS191 => wpList_nil (hR _ (hS191.re ⟨rfl, rfl, rfl, rfl, trivial⟩))) ?_
                  clear hS
                  clear a
                  intro a hS
                  refine ⟨k156, Nat.lt_succ_self _, ?_⟩
                  exact ⟨wi (m2_0 + 1), g169, H, hS.re ⟨rfl, rfl, rfl, rfl, trivial⟩, h31, hp1, hF⟩
              · replace H := ite_f hb158 H
                refine wp_exit ?_
                have e := Option.some.inj H
                exact ⟨g155, e.symm, hS.re trivial, hF⟩
        · clear H
          clear hp1 h31 hF
          clear hS
          rintro a w148 ⟨g148, hpre0, hS, hF⟩
          subst hpre0
          have H := Fl.go_nxt Hl151
          clear Hl151
          refine c_pure [(10, .int .i64 0)] (fun R hR => st_val hS rfl rfl rfl (r_assign hS rfl rfl) fun a192 hS192 => wpList_nil (hR _ (hS192.re ⟨rfl, trivial⟩))) ?_
          clear hS
          clear a
          intro a hS
          refine wp_ret ?_
          have e := Option.some.inj H
          subst e
          repeat (with_reducible first | refine then_ret ?_ | refine inBlock_ret ?_)
          exact c_ret1 hS Try.results25 rfl ⟨_, rfl, g148, rfl, hF⟩


end Go.Proofs.Ythmjgadmadlpkaa.Sim
