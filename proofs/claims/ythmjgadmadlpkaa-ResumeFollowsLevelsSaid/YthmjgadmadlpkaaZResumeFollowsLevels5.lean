/-
  Texts of this session, part 5 of 5: the words of the walk, plain functions with the same answers as the Go functions and the proofs of it, plain lemmas. No condition.
  They are, one behind the other: QLaw31Durations S6 S7 S8 GL PuLevels.
-/
import Derived.Test.YthmjgadmadlpkaaProg
import Derived.Test.YthmjgadmadlpkaaZResumeFollowsLevels4

namespace Go.Proofs.Ythmjgadmadlpkaa.Sim
open Go
set_option linter.unusedVariables false
set_option linter.unusedSimpArgs false

/-! ### law31_durations: function 17 -/
def law31_durations.l0 (p0 : Int) (p1 : List Int) : Nat → (List Int) → Int → Option ((List Int))
  | 0, _, _ => none
  | k18 + 1, m0_0, m0_1 => if decide (m0_1 < p0) = true then (((idx m0_0 m0_1).bind fun x32 => if decide (m0_1 < (p1.length : Int)) = true then ((idx p1 m0_1).bind fun x46 => (idx (upd m0_0 m0_1 (wu ((Int.tmod m0_1 3)))) m0_1).bind fun x51 => some (upd (upd m0_0 m0_1 (wu ((Int.tmod m0_1 3)))) m0_1 (Int.tmod x46 12))) else (some (upd m0_0 m0_1 (wu ((Int.tmod m0_1 3))))) : Option ((List Int))).bind fun v24 => law31_durations.l0 p0 p1 k18 v24 (wi (m0_1 + 1))) else (some m0_0)
def law31_durations.f (p0 : Int) (p1 : List Int) : Option ((List Int)) := (mk p0 0).bind fun y3 => (law31_durations.l0 p0 p1 FUEL y3 0 : Option ((List Int))).bind fun v13 => some v13
set_option maxRecDepth 100000 in
set_option maxHeartbeats 4000000 in
theorem law31_durations.calls {p0 : Int} {p1 : List Int} {A1 : Option Addr} {cap1 : Nat} {C1 : Nat → Prop} {w : World} {g : Nat → Nat} {out : (List Int)} (N : Nat) (r0 : Nat) (hp1 : RdS (kint .u64) w g C1 A1 cap1 p1) (hC1 : ∀ c, C1 c → c < N) (hr0 : r0 + 2 ≤ N) (H : law31_durations.f p0 p1 = some out) :
    Calls Try.prog 17 #[.int .i64 p0, .slice A1 p1.length cap1] w (fun e w' => ∃ v, e = .returned v ∧ ∃ (g' : Nat → Nat) (A_r0 : Option Addr) (cap_r0 : Nat), v = .slice A_r0 out.length cap_r0 ∧ OwS (kint .u64) 33 w' g' r0 A_r0 cap_r0 out ∧ Fr (fun q => (r0 ≤ q ∧ q < r0 + 2) ∨ N ≤ q) w g w' g') := by
  unfold law31_durations.f at H
  refine calls_enter Try.func17 rfl Try.ntmps17 rfl (fun a hS => ?_)
  replace hS : Sl 33 a [(0, .int .i64 p0), (1, .slice A1 p1.length cap1)] := hS
  have hF : Fr (fun q => (r0 ≤ q ∧ q < r0 + 2) ∨ N ≤ q) w g w g := Fr.refl _ _ _
  refine c_pure [(0, .int .i64 p0), (1, .slice A1 p1.length cap1)] (fun R hR => st_val hS rfl rfl rfl (r_assign hS rfl rfl) fun a1 hS1 => wpList_nil (hR _ (hS1.re ⟨rfl, rfl, trivial⟩))) ?_
  clear hS
  clear a
  intro a hS
  obtain ⟨y3, hy4, H⟩ := bind_el H
  refine c_region (fun K hK => ?_)
  refine st_val hS rfl rfl rfl (r_move hS rfl rfl) fun a2 hS2 => ?_
  refine st_eff hS2 rfl rfl rfl (e_make (e := 33) (sz := 1) (by_ := 8) (z := [.int .u64 0]) (kd := (kint .u64)) (N + 0) g hS2 rfl rfl (by kernel_rfl) (by kernel_rfl) rfl rfl rfl (fun _ _ _ => by exact rfl) hy4) ?_
  rintro _ a9 w10 g10 ⟨⟨A5, cap6, rfl, h7⟩, F10⟩ hS9
  replace hp1 := RdS.fr hp1 F10 (by decide) (fun _ _ h => h)
  replace hF := hF.trans F10 (fun _ h => h.elim)
  refine st_val hS9 rfl rfl rfl (r_assign hS9 rfl rfl) fun a11 hS11 => wpList_nil (hK _ _ ?_)
  replace hS : Sl 33 _ [(0, .int .i64 p0), (1, .slice A1 p1.length cap1), (5, .slice A5 y3.length cap6)] := hS11.re ⟨rfl, rfl, rfl, trivial⟩
  clear hK K
  try clear hS2 hS9 hS11
  obtain ⟨a, ha⟩ : ∃ a', a' = a11 := ⟨_, rfl⟩
  rw [← ha] at hS ⊢; clear ha
  obtain ⟨v13, H, Hl15⟩ := bind_el H
  refine c_cut (fun a w12 => ∃ (g12 : Nat → Nat), Sl 33 a [(5, .slice A5 v13.length cap6)] ∧ OwS (kint .u64) 33 w12 g12 (N + 0) A5 cap6 v13 ∧ Fr (fun q => (r0 ≤ q ∧ q < r0 + 2) ∨ N ≤ q) w g w12 g12) ?_ ?_
  · refine c_pure [(0, .int .i64 p0), (1, .slice A1 p1.length cap1), (5, .slice A5 y3.length cap6), (6, .int .i64 0)] (fun R hR => st_val hS rfl rfl rfl (r_assign hS rfl rfl) fun a16 hS16 => wpList_nil (hR _ (hS16.re ⟨rfl, rfl, rfl, rfl, trivial⟩))) ?_
    clear hS
    clear a
    intro a hS
    refine wp_block ?_
    refine wp_loop_ghost (fun kq => fun a w17 => ∃ (m0_0 : List Int), ∃ (m0_1 : Int), ∃ (g17 : Nat → Nat), law31_durations.l0 p0 p1 kq m0_0 m0_1 = some v13 ∧ Sl 33 a [(0, .int .i64 p0), (1, .slice A1 p1.length cap1), (5, .slice A5 m0_0.length cap6), (6, .int .i64 m0_1)] ∧ OwS (kint .u64) 33 w17 g17 (N + 0) A5 cap6 m0_0 ∧ RdS (kint .u64) w17 g17 C1 A1 cap1 p1 ∧ Fr (fun q => (r0 ≤ q ∧ q < r0 + 2) ∨ N ≤ q) w g w17 g17) FUEL ?_ ?_
    · exact ⟨y3, 0, g10, H, hS.re ⟨rfl, rfl, rfl, rfl, trivial⟩, h7, hp1, hF⟩
    · clear H
      clear hp1 h7 hF
      clear hS
      rintro k18 a w17 ⟨m0_0, m0_1, g17, hpre0, hS, h7, hp1, hF⟩
      have H := hpre0
      clear hpre0
      cases k18 with
      | zero => exact absurd H (by simp [law31_durations.l0])
      | succ k18 =>
        rw [law31_durations.l0] at H
        refine wp_seq ?_
        refine c_pure [(0, .int .i64 p0), (1, .slice A1 p1.length cap1), (5, .slice A5 m0_0.length cap6), (6, .int .i64 m0_1), (11, .bool (decide (m0_1 < p0)))] (fun R hR => st_val hS rfl rfl rfl (r_move hS rfl rfl) fun a19 hS19 => st_val hS19 rfl rfl rfl (r_move hS19 rfl rfl) fun a20 hS20 => st_val hS20 rfl rfl rfl (r_bin hS20 rfl rfl rfl b_lss) fun a21 hS21 => wpList_nil (hR _ (hS21.re ⟨rfl, rfl, rfl, rfl, rfl, trivial⟩))) ?_
        clear hS
        clear a
        intro a hS
        refine c_cond hS rfl (fun hb22 => ?_) (fun hb22 => ?_)
        · replace H := ite_t hb22 H
          refine wp_skip ?_
          change Code.wp _ _ _ _ _
          obtain ⟨v24, H, Hl26⟩ := bind_el H
          refine c_cut (fun a w23 => ∃ (g23 : Nat → Nat), Sl 33 a [(0, .int .i64 p0), (1, .slice A1 p1.length cap1), (5, .slice A5 v24.length cap6), (6, .int .i64 m0_1)] ∧ OwS (kint .u64) 33 w23 g23 (N + 0) A5 cap6 v24 ∧ RdS (kint .u64) w23 g23 C1 A1 cap1 p1 ∧ Fr (fun q => (r0 ≤ q ∧ q < r0 + 2) ∨ N ≤ q) w g w23 g23) ?_ ?_
          · refine wp_block ?_
            obtain ⟨x32, hx33, H⟩ := bind_el H
            refine c_region (fun K hK => ?_)
            refine st_val hS rfl rfl rfl (r_move hS rfl rfl) fun a27 hS27 => st_val hS27 rfl rfl rfl (r_move hS27 rfl rfl) fun a28 hS28 => st_val hS28 rfl rfl rfl (r_move hS28 rfl rfl) fun a29 hS29 => st_val hS29 rfl rfl rfl (r_bin hS29 rfl rfl rfl (b_rem (by decide))) fun a30 hS30 => st_val hS30 rfl rfl rfl (r_convert (k' := .u64) hS30 rfl rfl (by kernel_rfl)) fun a31 hS31 => st_val hS31 rfl rfl rfl (r_index (e := 33) (sz := 1) (by_ := 8) hS31 rfl rfl rfl (by kernel_rfl) (RdS.some_ (OwS.rd h7) hx33) (idx_lo hx33) (idx_hi hx33)) fun a34 hS34 => ?_
            refine st_effS hS34 rfl rfl (e_storeE (n := 1) (bb := false) (kd := (kint .u64)) (j := 0) (x' := wu ((Int.tmod m0_1 3))) (us := [.int .u64 (wu ((Int.tmod m0_1 3)))]) g17 hS34 rfl rfl rfl rfl (by kernel_rfl) rfl rfl (by intro v hv; simp only [List.mem_cons, List.not_mem_nil, or_false] at hv; rcases hv with rfl <;> rfl) h7 hx33 rfl (fun _ _ cs hR => by rw [show cs = _ from hR]; rfl)) ?_
            rintro a35 w36 g36 ⟨h7, F36⟩ hS35
            replace hp1 := RdS.fr hp1 F36 (by decide) (fun q (hq : C1 q) (hm : q = N + 0) => by have := hC1 q hq; omega)
            replace hF := hF.trans F36 (fun c' (hm : c' = N + 0) => by show (r0 ≤ c' ∧ c' < r0 + 2) ∨ N ≤ c'; omega)
            have hT : Sl 33 a35 [(0, .int .i64 p0), (1, .slice A1 p1.length cap1), (5, .slice A5 m0_0.length cap6), (6, .int .i64 m0_1)] := hS35.re ⟨rfl, rfl, rfl, rfl, trivial⟩
            replace hS35 : Sl 33 a35 [(0, .int .i64 p0), (1, .slice A1 p1.length cap1), (5, .slice A5 (upd m0_0 m0_1 (wu ((Int.tmod m0_1 3)))).length cap6), (6, .int .i64 m0_1)] := by simpa only [upd_length] using hT
            clear hT
            refine wpList_nil (hK _ _ ?_)
            replace hS : Sl 33 _ [(0, .int .i64 p0), (1, .slice A1 p1.length cap1), (5, .slice A5 (upd m0_0 m0_1 (wu ((Int.tmod m0_1 3)))).length cap6), (6, .int .i64 m0_1)] := hS35.re ⟨rfl, rfl, rfl, rfl, trivial⟩
            clear hK K
            try clear hS27 hS28 hS29 hS30 hS31 hS34 hS35
            obtain ⟨a, ha⟩ : ∃ a', a' = a35 := ⟨_, rfl⟩
            rw [← ha] at hS ⊢; clear ha
            refine c_pure [(0, .int .i64 p0), (1, .slice A1 p1.length cap1), (5, .slice A5 (upd m0_0 m0_1 (wu ((Int.tmod m0_1 3)))).length cap6), (6, .int .i64 m0_1), (23, .bool (decide (m0_1 < (p1.length : Int))))] (fun R hR => st_val hS rfl rfl rfl (r_move hS rfl rfl) fun a37 hS37 => st_val hS37 rfl rfl rfl (r_move hS37 rfl rfl) fun a38 hS38 => st_val hS38 rfl rfl rfl (r_len (e := 33) (sz := 1) (by_ := 8) hS38 rfl rfl (by kernel_rfl)) fun a39 hS39 => st_val hS39 rfl rfl rfl (r_bin hS39 rfl rfl rfl b_lss) fun a40 hS40 => wpList_nil (hR _ (hS40.re ⟨rfl, rfl, rfl, rfl, rfl, trivial⟩))) ?_
            clear hS
            clear a
            intro a hS
            refine c_cond hS rfl (fun hb41 => ?_) (fun hb41 => ?_)
            · replace H := ite_t hb41 H
              obtain ⟨x46, hx47, H⟩ := bind_el H
              obtain ⟨x51, hx52, H⟩ := bind_el H
              refine c_region1 (fun K hK => ?_)
              refine st_val hS rfl rfl rfl (r_move hS rfl rfl) fun a42 hS42 => st_val hS42 rfl rfl rfl (r_move hS42 rfl rfl) fun a43 hS43 => st_val hS43 rfl rfl rfl (r_move hS43 rfl rfl) fun a44 hS44 => st_val hS44 rfl rfl rfl (r_move hS44 rfl rfl) fun a45 hS45 => st_val hS45 rfl rfl rfl (r_index (e := 33) (sz := 1) (by_ := 8) hS45 rfl rfl rfl (by kernel_rfl) (RdS.some_ hp1 hx47) (idx_lo hx47) (idx_hi hx47)) fun a48 hS48 => st_val hS48 rfl rfl rfl (r_load1 (n := 1) hS48 rfl rfl (by kernel_rfl) (RdS.cell (i := m0_1) (sz := 1) (j := 0) hp1 hx47 rfl)) fun a49 hS49 => st_val hS49 rfl rfl rfl (r_bin hS49 rfl rfl rfl (b_rem (by decide))) fun a50 hS50 => st_val hS50 rfl rfl rfl (r_index (e := 33) (sz := 1) (by_ := 8) hS50 rfl rfl rfl (by kernel_rfl) (RdS.some_ (OwS.rd h7) hx52) (idx_lo hx52) (idx_hi hx52)) fun a53 hS53 => ?_
              refine st_effS hS53 rfl rfl (e_storeE (n := 1) (bb := false) (kd := (kint .u64)) (j := 0) (x' := (Int.tmod x46 12)) (us := [.int .u64 (Int.tmod x46 12)]) g36 hS53 rfl rfl rfl rfl (by kernel_rfl) rfl rfl (by intro v hv; simp only [List.mem_cons, List.not_mem_nil, or_false] at hv; rcases hv with rfl <;> rfl) h7 hx52 rfl (fun _ _ cs hR => by rw [show cs = _ from hR]; rfl)) ?_
              rintro a54 w55 g55 ⟨h7, F55⟩ hS54
              replace hp1 := RdS.fr hp1 F55 (by decide) (fun q (hq : C1 q) (hm : q = N + 0) => by have := hC1 q hq; omega)
              replace hF := hF.trans F55 (fun c' (hm : c' = N + 0) => by show (r0 ≤ c' ∧ c' < r0 + 2) ∨ N ≤ c'; omega)
              have hT : Sl 33 a54 [(0, .int .i64 p0), (1, .slice A1 p1.length cap1), (5, .slice A5 (upd m0_0 m0_1 (wu ((Int.tmod m0_1 3)))).length cap6), (6, .int .i64 m0_1)] := hS54.re ⟨rfl, rfl, rfl, rfl, trivial⟩
              replace hS54 : Sl 33 a54 [(0, .int .i64 p0), (1, .slice A1 p1.length cap1), (5, .slice A5 (upd (upd m0_0 m0_1 (wu ((Int.tmod m0_1 3)))) m0_1 (Int.tmod x46 12)).length cap6), (6, .int .i64 m0_1)] := by simpa only [upd_length] using hT
              clear hT
              refine wpList_nil (hK _ _ ?_)
              replace hS : Sl 33 _ [(0, .int .i64 p0), (1, .slice A1 p1.length cap1), (5, .slice A5 (upd (upd m0_0 m0_1 (wu ((Int.tmod m0_1 3)))) m0_1 (Int.tmod x46 12)).length cap6), (6, .int .i64 m0_1)] := hS54.re ⟨rfl, rfl, rfl, rfl, trivial⟩
              clear hK K
              try clear hS42 hS43 hS44 hS45 hS48 hS49 hS50 hS53 hS54
              obtain ⟨a, ha⟩ : ∃ a', a' = a54 := ⟨_, rfl⟩
              rw [← ha] at hS ⊢; clear ha
              have e := Option.some.inj H
              subst e
              exact ⟨g55, hS.re ⟨rfl, rfl, rfl, rfl, trivial⟩, h7, hp1, hF⟩
            · replace H := ite_f hb41 H
              refine wp_skip ?_
              have e := Option.some.inj H
              subst e
              exact ⟨g36, hS.re ⟨rfl, rfl, rfl, rfl, trivial⟩, h7, hp1, hF⟩
          · clear H
            clear hp1 h7 hF
            clear hS
            rintro a w23 ⟨g23, hS, h7, hp1, hF⟩
            have H := Hl26
            clear Hl26
            refine c_pure1 [(0, .int .i64 p0), (1, .slice A1 p1.length cap1), (5, .slice A5 v24.length cap6), (6, .int .i64 (wi (m0_1 + 1)))] (fun R hR => st_val hS rfl rfl rfl (r_move hS rfl rfl) fun a56 hS56 => st_val hS56 rfl rfl rfl (r_bin hS56 rfl rfl rfl b_add) fun a57 hS57 => st_val hS57 rfl rfl rfl (r_assign hS57 rfl rfl) fun a58 hS58 => wpList_nil (hR _ (hS58.re ⟨rfl, rfl, rfl, rfl, trivial⟩))) ?_
            clear hS
            clear a
            intro a hS
            refine ⟨k18, Nat.lt_succ_self _, ?_⟩
            exact ⟨v24, wi (m0_1 + 1), g23, H, hS.re ⟨rfl, rfl, rfl, rfl, trivial⟩, h7, hp1, hF⟩
        · replace H := ite_f hb22 H
          refine wp_exit ?_
          have e := Option.some.inj H
          subst e
          exact ⟨g17, hS.re ⟨rfl, trivial⟩, h7, hF⟩
  · clear H
    clear hp1 h7 hF
    clear hS
    rintro a w12 ⟨g12, hS, h7, hF⟩
    have H := Hl15
    clear Hl15
    refine c_pure [(4, .slice A5 v13.length cap6)] (fun R hR => st_val hS rfl rfl rfl (r_move hS rfl rfl) fun a59 hS59 => st_val hS59 rfl rfl rfl (r_assign hS59 rfl rfl) fun a60 hS60 => wpList_nil (hR _ (hS60.re ⟨rfl, trivial⟩))) ?_
    clear hS
    clear a
    intro a hS
    refine wp_ret ?_
    have e := Option.some.inj H
    subst e
    have F61 := Fr.recol2 w12 g12 (N + 0) r0
    replace h7 := h7.recol2 r0
    replace hF := hF.trans F61 (fun c' (hm : c' = N + 0 ∨ c' = N + 0 + 1) => by show (r0 ≤ c' ∧ c' < r0 + 2) ∨ N ≤ c'; omega)
    repeat (with_reducible first | refine then_ret ?_ | refine inBlock_ret ?_)
    exact c_ret1 hS Try.results17 rfl ⟨_, rfl, (recol2 g12 (N + 0) r0), A5, cap6, rfl, h7, hF⟩


end Go.Proofs.Ythmjgadmadlpkaa.Sim

namespace Go.Proofs.Ythmjgadmadlpkaa.Sim
open Go
set_option linter.unusedVariables false
set_option maxRecDepth 100000

def big (x : Int) : Bool := decide (9007199254740992 < x)
def scode (p : Int) (ls : List api_Link) (dl : List Int) (w : Int) : Int :=
  if ccode p ls ≠ 0 then ccode p ls else if (dl.length : Int) = p ∧ dl.any big = false ∧ 1 ≤ w ∧ w ≤ 16 then 0 else 1

theorem check31_ok (p : Int) (ls : List api_Link) (dl : List Int) (w : Int) (h : ls.length ≤ maxLen) (hd : dl.length ≤ maxLen) : resume_check.f p ls dl w = some (scode p ls dl w) := by
  unfold resume_check.f
  rw [check_ok p ls h, Option.bind_some]
  by_cases h1 : ccode p ls = 0
  · have e : scode p ls dl w = if (dl.length : Int) = p ∧ dl.any big = false ∧ 1 ≤ w ∧ w ≤ 16 then 0 else 1 := by unfold scode; rw [if_neg (by simp [h1])]
    rw [e, if_neg (by simp [h1])]
    by_cases h2 : (dl.length : Int) = p
    · rw [if_neg (by simp [h2]), search_ok (L := resume_check.l0 dl) dl big 1 hd (fun k i => by rw [resume_check.l0]; rfl)]
      cases h3 : dl.any big
      · simp only [Bool.false_eq_true, if_false, Option.bind_some, Fl.go]
        by_cases h4 : 1 ≤ w ∧ w ≤ 16
        · rw [if_neg (by simp; omega), if_pos ⟨h2, trivial, h4⟩]
        · rw [if_pos (by simp; omega), if_neg (fun c => h4 c.2.2)]
      · simp only [if_true, Option.bind_some, Fl.go]
        rw [if_neg (fun c => by cases c.2.1)]
    · rw [if_pos (by simpa using h2), if_neg (fun c => h2 c.1)]
  · have e : scode p ls dl w = ccode p ls := by unfold scode; rw [if_pos h1]
    rw [e, if_pos (by simpa using h1)]

/-- What the checks of a schedule let pass. -/
structure GoodS (n w : Nat) (ls : List api_Link) (dl : List Int) : Prop where
  g : GoodG n ls
  full : ¬ (ord n ls).length < n
  dn : dl.length = n
  d0 : ∀ x ∈ dl, 0 ≤ x ∧ x ≤ 9007199254740992
  w0 : 0 < w
  w1 : w ≤ 16
theorem scode_good {p : Int} {ls : List api_Link} {dl : List Int} {w : Int} (h : scode p ls dl w = 0) (hd : ∀ x ∈ dl, 0 ≤ x) : ∃ n v : Nat, p = n ∧ w = v ∧ GoodS n v ls dl := by
  unfold scode at h
  by_cases h1 : ccode p ls = 0
  · rw [if_neg (by simp [h1])] at h
    by_cases h2 : (dl.length : Int) = p ∧ dl.any big = false ∧ 1 ≤ w ∧ w ≤ 16
    · obtain ⟨a, b, c, d⟩ := h2
      have hv : vcode p ls = 0 := by
        unfold ccode at h1
        split at h1
        · assumption
        · exact h1
      obtain ⟨n, rfl, g⟩ := vcode_good hv
      rw [ccode_good g] at h1
      refine ⟨n, w.toNat, rfl, by omega, g, ?_, by omega, fun x hx => ⟨hd x hx, ?_⟩, by omega, by omega⟩
      · intro hlt; rw [if_pos hlt] at h1; cases h1
      · have := List.any_eq_false.1 b x hx
        simpa [big] using this
    · rw [if_neg h2] at h; cases h
  · rw [if_pos h1] at h; exact absurd h h1
theorem good_scode {n w : Nat} {ls : List api_Link} {dl : List Int} (S : GoodS n w ls dl) : scode n ls dl w = 0 := by
  have h1 : ccode (n : Int) ls = 0 := by rw [ccode_good S.g, if_neg S.full]
  unfold scode
  rw [if_neg (by simp [h1]), if_pos]
  refine ⟨by rw [S.dn], ?_, by have := S.w0; omega, by have := S.w1; omega⟩
  rw [List.any_eq_false]
  intro x hx
  simp [big]
  exact (S.d0 x hx).2

def duf (dl : List Int) (i : Int) : Int := (idx dl i).getD 0
theorem duf_rep {dl : List Int} {n : Nat} (h : dl.length = n) : RepV n dl (duf dl) := ⟨h, fun i h0 h1 => by
  obtain ⟨x, hx, _⟩ := idx_of (xs := dl) h0 (by omega)
  unfold duf; rw [hx]; rfl⟩
theorem duf_range {dl : List Int} (h : ∀ x ∈ dl, 0 ≤ x ∧ x ≤ 9007199254740992) (i : Int) : 0 ≤ duf dl i ∧ duf dl i ≤ 9007199254740992 := by
  unfold duf
  by_cases hi : 0 ≤ i ∧ i < dl.length
  · obtain ⟨x, hx, hm⟩ := idx_of (xs := dl) hi.1 hi.2
    rw [hx]; exact h x hm
  · have : idx dl i = none := by
      cases hx : idx dl i with
      | none => rfl
      | some x => exact absurd ⟨idx_lo hx, idx_hi hx⟩ hi
    rw [this]; simp

theorem Go1.zero {n w : Nat} {ls : List api_Link} {du : Int → Int} : Go1 n w ls du z00 (resume_scheduler.mk ls (List.replicate n (api_Slot.mk 0 0 0 0)) (List.replicate n false) (List.replicate w 0) 0, []) z00.1 0 := by
  refine ⟨⟨rfl, RepV.rep n false, RepV.rep n _, RepV.rep w 0, rfl⟩, rfl, ?_, ?_, ?_⟩
  · simp
  · simp [z00]
  · intro i; simp [z00]

/-- The schedule: where the machine's steps end. -/
structure Sched (n w : Nat) (ls : List api_Link) (du : Int → Int) (m : Ms) (out : List api_Slot) : Prop where
  st : ∃ j, it n w ls du j z00 = (m, out)
  no : nxt n w ls du (m, out) = none
  dn : Done n w ls du m out
theorem Sched.same {n w : Nat} {ls : List api_Link} {du : Int → Int} {m m' : Ms} {out out' : List api_Slot} (a : Sched n w ls du m out) (b : Sched n w ls du m' out') : m = m' ∧ out = out' := by
  obtain ⟨j, hj⟩ := a.st
  obtain ⟨k, hk⟩ := b.st
  have := it_same (n := n) (w := w) (ls := ls) (du := du) j k z00 (by rw [hj]; exact a.no) (by rw [hk]; exact b.no)
  rw [hj, hk] at this
  injection this with h1 h2
  exact ⟨h1, h2⟩
theorem Sched.mk' {n w : Nat} {ls : List api_Link} {dl : List Int} (S : GoodS n w ls dl) {m : Ms} {out : List api_Slot} {j : Nat} (h : it n w ls (duf dl) j z00 = (m, out)) (hn : nxt n w ls (duf dl) (m, out) = none) : Sched n w ls (duf dl) m out := by
  have I := Inv.it (n := n) (w := w) (ls := ls) (du := duf dl) (fun i => (duf_range S.d0 i).1) j
  rw [h] at I
  exact ⟨⟨j, h⟩, hn, done_of S.w0 S.full S.g I hn⟩
theorem Sched.bound {n w : Nat} {ls : List api_Link} {dl : List Int} (S : GoodS n w ls dl) {m : Ms} {out : List api_Slot} (D : Done n w ls (duf dl) m out) : ∀ x ∈ out, 0 ≤ x.Start ∧ x.Start ≤ x.End := fun x hx => by
  have h1 := D.inv.st x hx
  have h2 := D.inv.len x hx
  have h3 := (duf_range S.d0 x.Device).1
  omega

theorem sched_good {n w : Nat} {ls : List api_Link} {dl : List Int} (S : GoodS n w ls dl) : ∃ m out, resume_Schedule.f n ls dl w = some (out, 0) ∧ Sched n w ls (duf dl) m out ∧ m.t ≤ 128 * 9007199254740992 := by
  have hn := S.g.n128
  have hw := S.w1
  unfold resume_Schedule.f
  rw [check31_ok _ _ _ _ (by have := S.g.len; rw [maxLen_eq]; omega) (by rw [S.dn, maxLen_eq]; omega), good_scode S, Option.bind_some, if_neg (by simp), mk_ok (by omega), Option.bind_some, mk_ok (by omega), Option.bind_some, mk_ok (by omega), Option.bind_some]
  obtain ⟨j, s, m, e, G, hno⟩ := sched_ok S.g (duf_rep S.dn) (duf_range S.d0) (by omega) (Go1.zero (n := n) (w := w) (ls := ls) (du := duf dl))
  rw [e]
  refine ⟨m, s.2, rfl, Sched.mk' S G.it hno, ?_⟩
  have h1 := G.t.2
  have h2 := G.c
  have h3 : (s.2.length : Int) * 9007199254740992 ≤ 128 * 9007199254740992 := Int.mul_le_mul_of_nonneg_right (by omega) (by omega)
  omega
theorem sched_bad {p : Int} {ls : List api_Link} {dl : List Int} {w : Int} (h : ls.length ≤ maxLen) (hd : dl.length ≤ maxLen) (hs : scode p ls dl w ≠ 0) : resume_Schedule.f p ls dl w = some ([], scode p ls dl w) := by
  unfold resume_Schedule.f
  rw [check31_ok _ _ _ _ h hd, Option.bind_some, if_pos (by simpa using hs)]

theorem u64_range {x : Int} (h : (Lit.int .u64 x).wf = true) : 0 ≤ x ∧ x < 18446744073709551616 := by
  simp [Lit.wf, IntKind.min, IntKind.max, IntKind.signed, IntKind.bits] at h; omega

/-! ### the durations of the statements -/

theorem durations_ok (n : Nat) (hn : n ≤ 128) (p1 : List Int) (h : ∀ x ∈ p1, 0 ≤ x) (hl : p1.length ≤ maxLen) : ∃ dl, law31_durations.f n p1 = some dl ∧ dl.length = n ∧ ∀ x ∈ dl, 0 ≤ x ∧ x ≤ 11 := by
  rw [maxLen_eq] at hl
  unfold law31_durations.f
  rw [mk_ok (by omega), Option.bind_some]
  have key : ∃ dl, law31_durations.l0 n p1 FUEL (List.replicate n 0) 0 = some dl ∧ dl.length = n ∧ ∀ x ∈ dl, 0 ≤ x ∧ x ≤ 11 := by
    refine loop_c (L := fun k (s : List Int) i => law31_durations.l0 n p1 k s i) n (fun i s => s.length = n ∧ ∀ x ∈ s, 0 ≤ x ∧ x ≤ 11) (fun o => ∃ dl, o = some dl ∧ dl.length = n ∧ ∀ x ∈ dl, 0 ≤ x ∧ x ≤ 11) ?_ ?_ FUEL 0 _ (Nat.zero_le _) (FUEL_pos (by omega)) ⟨by simp, fun x hx => by rw [(List.mem_replicate.1 hx).2]; omega⟩
    · rintro k s i hi ⟨h1, h2⟩
      have hset : ∀ (l : List Int) (v : Int), (∀ x ∈ l, 0 ≤ x ∧ x ≤ 11) → (0 ≤ v ∧ v ≤ 11) → ∀ x ∈ upd l (i : Int) v, 0 ≤ x ∧ x ≤ 11 := fun l v h hv x hx => by
        unfold upd at hx
        rcases List.mem_or_eq_of_mem_set hx with h' | h'
        · exact h x h'
        · rw [h']; exact hv
      have h3 : wu (Int.tmod (i : Int) 3) = (i : Int) % 3 := by rw [Int.tmod_eq_emod_of_nonneg (by omega), wu_id (by omega) (by omega)]
      have hA := hset s ((i : Int) % 3) h2 (by omega)
      have hAl : (upd s (i : Int) ((i : Int) % 3)).length = n := by rw [upd_length]; exact h1
      rw [law31_durations.l0, if_pos (by simp; omega), idx_get (by omega), Option.bind_some, h3]
      by_cases hp : i < p1.length
      · rw [if_pos (by simp; omega), idx_get hp, Option.bind_some, idx_get (by omega), Option.bind_some, Option.bind_some]
        refine .inl ⟨upd (upd s (i : Int) ((i : Int) % 3)) (i : Int) (Int.tmod p1[i] 12), ⟨by rw [upd_length]; exact hAl, ?_⟩, by rw [wi_succ (by omega)]⟩
        have := h _ (List.getElem_mem hp)
        refine hset _ _ hA ?_
        rw [Int.tmod_eq_emod_of_nonneg this]; omega
      · rw [if_neg (by simp; omega), Option.bind_some]
        exact .inl ⟨_, ⟨hAl, hA⟩, by rw [wi_succ (by omega)]⟩
    · rintro k s ⟨h1, h2⟩
      rw [law31_durations.l0, if_neg (by simp)]
      exact ⟨s, rfl, h1, h2⟩
  obtain ⟨dl, e, h1⟩ := key
  rw [e]
  exact ⟨dl, rfl, h1⟩

/-- The graphs and durations of the statements. -/
theorem acyc_full {n : Nat} {ls : List api_Link} (g : Gr n ls true) : ¬ (ord n ls).length < n := fun hlt => by
  obtain ⟨r, hr⟩ := g.down rfl
  obtain ⟨i, _, _, hp⟩ := ord_cyclic g.good hlt
  have : ∀ {a b : Int}, Path ls a b → r b < r a := fun h => by
    induction h with
    | one h => exact hr _ h
    | more h _ ih => have := hr _ h; simp only at this; omega
  have := this hp
  omega
theorem goodS_of {n : Nat} {ls : List api_Link} (g : Gr n ls true) {dl : List Int} (h1 : dl.length = n) (h2 : ∀ x ∈ dl, 0 ≤ x ∧ x ≤ 11) {w : Nat} (w0 : 0 < w) (w1 : w ≤ 16) : GoodS n w ls dl :=
  ⟨g.good, acyc_full g, h1, fun x hx => by have := h2 x hx; omega, w0, w1⟩
theorem mod1_ok (x : Int) (k : Nat) (h0 : 0 < k) (h1 : k ≤ 15) : ∃ w : Nat, help_Mod.f x k = some ((w : Int) - 1) ∧ wi (1 + ((w : Int) - 1)) = w ∧ 0 < w ∧ w ≤ k := by
  obtain ⟨r, hr, a, b⟩ := mod_ok (x := x) (n := k) (by omega) (by omega)
  refine ⟨(r + 1).toNat, ?_, ?_, by omega, by omega⟩
  · rw [hr]; congr 1; omega
  · rw [wi_id (by omega) (by omega)]; omega
end Go.Proofs.Ythmjgadmadlpkaa.Sim

namespace Go.Proofs.Ythmjgadmadlpkaa.Sim
open Go
set_option linter.unusedVariables false
set_option maxRecDepth 100000

/-! ### sums -/

def sumB {α : Type} (f : α → Int) : List α → Int
  | [] => 0
  | a :: t => f a + sumB f t
theorem sumB_append {α : Type} (f : α → Int) : ∀ (a b : List α), sumB f (a ++ b) = sumB f a + sumB f b
  | [], b => by simp [sumB]
  | x :: a, b => by simp only [List.cons_append, sumB, sumB_append f a b]; omega
theorem sumB_perm {α : Type} (f : α → Int) {a b : List α} (h : a.Perm b) : sumB f a = sumB f b := by
  induction h with
  | nil => rfl
  | cons x _ ih => simp only [sumB, ih]
  | swap x y l => simp only [sumB]; omega
  | trans _ _ i j => rw [i, j]
theorem sumB_congr {α : Type} {f g : α → Int} : ∀ {a : List α}, (∀ x ∈ a, f x = g x) → sumB f a = sumB g a
  | [], _ => rfl
  | x :: a, h => by simp only [sumB]; rw [h x (by simp), sumB_congr (a := a) (fun y hy => h y (by simp [hy]))]
theorem sumB_map {α β : Type} (f : β → Int) (q : α → β) : ∀ (a : List α), sumB f (a.map q) = sumB (fun x => f (q x)) a
  | [] => rfl
  | x :: a => by simp only [List.map_cons, sumB, sumB_map f q a]

/-- The latest end of slots. -/
structure Mks (out : List api_Slot) (T : Int) : Prop where
  t0 : 0 ≤ T
  le : ∀ x ∈ out, x.End ≤ T
  ex : T = 0 ∨ ∃ x ∈ out, x.End = T
theorem Mks.uniq {out : List api_Slot} {T U : Int} (a : Mks out T) (b : Mks out U) : T = U := by
  have h1 := a.t0
  have h2 := b.t0
  have h3 : T ≤ U := by
    rcases a.ex with h | ⟨x, hx, h⟩
    · omega
    · have := b.le x hx; omega
  have h4 : U ≤ T := by
    rcases b.ex with h | ⟨x, hx, h⟩
    · omega
    · have := a.le x hx; omega
  omega
theorem Mks.nil : Mks [] 0 := ⟨Int.le_refl _, by simp, .inl rfl⟩
theorem Mks.snoc {out : List api_Slot} {T U : Int} (a : Mks out T) {x : api_Slot} (h : U = max T x.End) : Mks (out ++ [x]) U := by
  have := a.t0
  refine ⟨by omega, fun y hy => ?_, ?_⟩
  · rcases List.mem_append.1 hy with h' | h'
    · have := a.le y h'; omega
    · simp only [List.mem_singleton] at h'; subst h'; omega
  · by_cases c : T ≤ x.End
    · exact .inr ⟨x, by simp, by omega⟩
    · rcases a.ex with h' | ⟨y, hy, h'⟩
      · exact .inl (by omega)
      · exact .inr ⟨y, by simp [hy], by omega⟩
theorem makespan_ok (out : List api_Slot) (hl : out.length ≤ 4294967296) : ∃ T, resume_Makespan.f out = some T ∧ Mks out T := by
  unfold resume_Makespan.f
  have key : ∃ T, resume_Makespan.l0 out FUEL 0 0 = some T ∧ Mks out T := by
    refine loop_c (L := fun k (s : Int) i => resume_Makespan.l0 out k s i) out.length (fun i s => Mks (out.take i) s) (fun o => ∃ T, o = some T ∧ Mks out T) ?_ ?_ FUEL 0 0 (Nat.zero_le _) (FUEL_pos (by omega)) (by simpa using Mks.nil)
    · intro k s i hi hI
      rw [resume_Makespan.l0, if_pos (by simp; omega), idx_get hi, Option.bind_some]
      refine .inl ⟨max s out[i].End, ?_, by rw [wi_succ (by omega)]⟩
      rw [List.take_succ_eq_append_getElem hi]
      exact hI.snoc rfl
    · intro k s hI
      rw [resume_Makespan.l0, if_neg (by simp)]
      rw [List.take_length] at hI
      exact ⟨s, rfl, hI⟩
  obtain ⟨T, e, h⟩ := key
  rw [e]
  exact ⟨T, rfl, h⟩

/-- The longest chains that end at the devices. -/
structure CPath (n : Nat) (ls : List api_Link) (du h : Int → Int) : Prop where
  lo : ∀ d : Int, 0 ≤ d → d < n → du d ≤ h d
  ge : ∀ l ∈ ls, h l.Supplier + du l.Consumer ≤ h l.Consumer
  ex : ∀ d : Int, 0 ≤ d → d < n → h d = du d ∨ ∃ l ∈ ls, l.Consumer = d ∧ h d = h l.Supplier + du d
structure CMax (n : Nat) (h : Int → Int) (c : Int) : Prop where
  c0 : 0 ≤ c
  le : ∀ d : Int, 0 ≤ d → d < n → h d ≤ c
  ex : c = 0 ∨ ∃ d : Int, 0 ≤ d ∧ d < n ∧ h d = c
/-- Along the order. -/
theorem ord_ind {n : Nat} {ls : List api_Link} (hfull : ¬ (ord n ls).length < n) {P : Int → Prop} (h : ∀ d : Int, 0 ≤ d → d < n → (∀ l ∈ ls, l.Consumer = d → P l.Supplier) → P d) : ∀ d : Int, 0 ≤ d → d < n → P d := by
  have key : ∀ out, Run n ls out → ∀ v ∈ out, P v := by
    intro out ho
    induction ho with
    | nil => simp
    | @snoc out v ho hv ih =>
      intro u hu
      rcases List.mem_append.1 hu with hu | hu
      · exact ih u hu
      · simp only [List.mem_singleton] at hu; subst hu
        obtain ⟨h0, h1, h2, _⟩ := least_some hv
        obtain ⟨_, h3⟩ := free_iff.1 h2
        exact h u h0 h1 fun l hl hc => ih _ (h3 l hl hc)
  exact fun d h0 h1 => key _ (ord_run n ls).1 d (ord_full hfull h0 h1)
theorem CPath.le {n : Nat} {ls : List api_Link} {du h h' : Int → Int} (g : GoodG n ls) (hfull : ¬ (ord n ls).length < n) (a : CPath n ls du h) (b : CPath n ls du h') : ∀ d : Int, 0 ≤ d → d < n → h d ≤ h' d :=
  ord_ind hfull fun d d0 d1 ih => by
    rcases a.ex d d0 d1 with e | ⟨l, hl, hc, e⟩
    · have := b.lo d d0 d1; omega
    · have h1 := ih l hl hc
      have h2 := b.ge l hl
      rw [hc] at h2
      omega
theorem CPath.uniq {n : Nat} {ls : List api_Link} {du h h' : Int → Int} (g : GoodG n ls) (hfull : ¬ (ord n ls).length < n) (a : CPath n ls du h) (b : CPath n ls du h') {c c' : Int} (ca : CMax n h c) (cb : CMax n h' c') : c = c' := by
  have h1 := a.le g hfull b
  have h2 := b.le g hfull a
  have h3 := ca.c0
  have h4 := cb.c0
  have : c ≤ c' := by
    rcases ca.ex with e | ⟨d, d0, d1, e⟩
    · omega
    · have := h1 d d0 d1; have := cb.le d d0 d1; omega
  have : c' ≤ c := by
    rcases cb.ex with e | ⟨d, d0, d1, e⟩
    · omega
    · have := h2 d d0 d1; have := ca.le d d0 d1; omega
  omega

structure CPush (n : Nat) (ls : List api_Link) (du : Int → Int) (done : List Int) (E : Int → Int) (most : Int) : Prop where
  lo : ∀ d ∈ done, du d ≤ E d
  ex : ∀ d ∈ done, E d = du d ∨ ∃ l ∈ ls, l.Consumer = d ∧ E d = E l.Supplier + du d
  ge : ∀ l ∈ ls, l.Supplier ∈ done → (l.Consumer ∈ done → E l.Supplier + du l.Consumer ≤ E l.Consumer) ∧ (l.Consumer ∉ done → E l.Supplier ≤ E l.Consumer)
  nd : ∀ d, d ∉ done → E d = 0 ∨ ∃ l ∈ ls, l.Consumer = d ∧ l.Supplier ∈ done ∧ E d = E l.Supplier
  bd : ∀ d, 0 ≤ E d ∧ E d ≤ done.length * 9007199254740992
  m0 : 0 ≤ most
  ml : ∀ d ∈ done, E d ≤ most
  mx : most = 0 ∨ ∃ d ∈ done, E d = most

/-- What one pass over the links has pushed. -/
structure Pass (n : Nat) (ls : List api_Link) (done : List Int) (E : Int → Int) (x ex : Int) (i : Nat) (F : Int → Int) : Prop where
  at_ : F x = ex
  up : ∀ d, d ≠ x → E d ≤ F d
  in_ : ∀ d ∈ done, F d = E d
  lk : ∀ l ∈ ls.take i, l.Supplier = x → ex ≤ F l.Consumer
  or_ : ∀ d, d ≠ x → F d = E d ∨ ((∃ l ∈ ls, l.Supplier = x ∧ l.Consumer = d) ∧ F d = ex)

theorem critical_l1 {n : Nat} {ls : List api_Link} (g : GoodG n ls) {done : List Int} (hr : Run n ls done) {x : Int} (hx : least n ls done = some x) {E : Int → Int} {el : List Int} {ex : Int} (most y : Int) (hE : RepV n el (fset E x ex)) :
    ∃ el' F, resume_CriticalPath.l1 ls most x y FUEL el 0 = some (el', max most y) ∧ RepV n el' F ∧ Pass n ls done E x ex ls.length F := by
  obtain ⟨x0, x1, x2, _⟩ := least_some hx
  obtain ⟨x3, x4⟩ := free_iff.1 x2
  have hll := g.len
  refine loop_c (L := fun k (s : List Int) i => resume_CriticalPath.l1 ls most x y k s i) ls.length (fun i s => ∃ F, RepV n s F ∧ Pass n ls done E x ex i F)
    (fun o => ∃ el' F, o = some (el', max most y) ∧ RepV n el' F ∧ Pass n ls done E x ex ls.length F) ?_ ?_ FUEL 0 el (Nat.zero_le _) (FUEL_pos (by omega)) ⟨_, hE, fset_self _ _ _, fun d hd => by rw [fset_ne _ _ hd]; omega, fun d hd => fset_ne _ _ (fun e => x3 (e ▸ hd)), by simp, fun d hd => .inl (fset_ne _ _ hd)⟩
  · rintro k s i hi ⟨F, h1, p1, p2, p3, p4, p5⟩
    have hm := List.getElem_mem hi
    have hc := g.c0 _ hm
    rw [resume_CriticalPath.l1, if_pos (by simp; omega), idx_get hi, Option.bind_some]
    by_cases e : ls[i].Supplier = x
    · have hcx : ls[i].Consumer ≠ x := fun h => x3 (e ▸ x4 _ hm h)
      have hcd : ls[i].Consumer ∉ done := fun h => x3 (e ▸ hr.facts.2.2 _ hm h)
      rw [if_pos (by simpa using e), h1.2 _ hc.1 hc.2, Option.bind_some, h1.2 _ x0 x1, Option.bind_some, Option.bind_some, p1]
      refine .inl ⟨_, ⟨_, h1.set hc.1 (max (F ls[i].Consumer) ex), ?_, ?_, ?_, ?_, ?_⟩, by rw [wi_succ (by omega)]⟩
      · rw [fset_ne _ _ (Ne.symm hcx)]; exact p1
      · intro d hd
        have := p2 d hd
        unfold fset; split
        · rename_i e'; rw [← e']; omega
        · exact this
      · intro d hd
        rw [fset_ne _ _ (fun h : d = ls[i].Consumer => hcd (h ▸ hd))]; exact p3 d hd
      · intro l hl hs
        rcases (mem_take_succ hi).1 hl with h | h
        · have := p4 l h hs
          unfold fset; split
          · rename_i e'; rw [← e']; omega
          · exact this
        · rw [h, fset_self]; omega
      · intro d hd
        unfold fset; split
        · rename_i e'
          by_cases c : F ls[i].Consumer ≤ ex
          · exact .inr ⟨⟨_, hm, e, e'.symm⟩, by omega⟩
          · rcases p5 d hd with h | ⟨_, h⟩
            · exact .inl (by rw [← h, e']; omega)
            · rw [e'] at h; omega
        · exact p5 d hd
    · rw [if_neg (by simpa using e), Option.bind_some]
      refine .inl ⟨s, ⟨F, h1, p1, p2, p3, fun l hl hs => ?_, p5⟩, by rw [wi_succ (by omega)]⟩
      rcases (mem_take_succ hi).1 hl with h | h
      · exact p4 l h hs
      · exact absurd (h ▸ hs) e
  · rintro k s ⟨F, h1, h2⟩
    rw [resume_CriticalPath.l1, if_neg (by simp)]
    exact ⟨s, F, rfl, h1, h2⟩

theorem CPush.step {n : Nat} {ls : List api_Link} {du : Int → Int} (hdu : ∀ i, 0 ≤ du i ∧ du i ≤ 9007199254740992) {done : List Int} (hr : Run n ls done) {x : Int} (hx : least n ls done = some x) {E F : Int → Int} {most : Int} (P : CPush n ls du done E most) (Q : Pass n ls done E x (E x + du x) ls.length F) : CPush n ls du (done ++ [x]) F (max most (E x + du x)) := by
  obtain ⟨x0, x1, x2, _⟩ := least_some hx
  obtain ⟨x3, x4⟩ := free_iff.1 x2
  have hdx := hdu x
  have hEx := P.bd x
  have hlen : ((done ++ [x]).length : Int) = done.length + 1 := by simp
  have hfull : ∀ l ∈ ls, l.Supplier = x → E x + du x ≤ F l.Consumer := fun l hl hs => Q.lk l (by rw [List.take_length]; exact hl) hs
  have hin : ∀ d, d ∈ done ++ [x] ↔ d ∈ done ∨ d = x := fun d => by simp
  have hsup : ∀ l ∈ ls, l.Consumer ∈ done → l.Supplier ∈ done := hr.facts.2.2
  refine ⟨?_, ?_, ?_, ?_, ?_, by have := P.m0; omega, ?_, ?_⟩
  · intro d hd
    rcases (hin d).1 hd with h | h
    · rw [Q.in_ d h]; exact P.lo d h
    · rw [h, Q.at_]; omega
  · intro d hd
    rcases (hin d).1 hd with h | h
    · rw [Q.in_ d h]
      rcases P.ex d h with e | ⟨l, hl, hc, e⟩
      · exact .inl e
      · exact .inr ⟨l, hl, hc, by rw [Q.in_ _ (hsup l hl (hc ▸ h))]; exact e⟩
    · rw [h, Q.at_]
      rcases P.nd x x3 with e | ⟨l, hl, hc, hs, e⟩
      · exact .inl (by omega)
      · exact .inr ⟨l, hl, hc, by rw [Q.in_ _ hs, e]⟩
  · intro l hl hs
    rcases (hin _).1 hs with h | h
    · rw [Q.in_ _ h]
      obtain ⟨g1, g2⟩ := P.ge l hl h
      refine ⟨fun hc => ?_, fun hc => ?_⟩
      · rcases (hin _).1 hc with h' | h'
        · rw [Q.in_ _ h']; exact g1 h'
        · rw [h', Q.at_]
          have := g2 (fun h'' => x3 (h' ▸ h''))
          rw [h'] at this; omega
      · have hc1 : l.Consumer ∉ done := fun h' => hc ((hin _).2 (.inl h'))
        have hc2 : l.Consumer ≠ x := fun h' => hc ((hin _).2 (.inr h'))
        have := g2 hc1
        have := Q.up _ hc2
        omega
    · have h1 := hfull l hl h
      rw [h, Q.at_]
      refine ⟨fun hc => ?_, fun _ => h1⟩
      rcases (hin _).1 hc with h' | h'
      · exact absurd (h ▸ hsup l hl h') x3
      · exact absurd (h ▸ x4 l hl h') x3
  · intro d hd
    have hd1 : d ∉ done := fun h' => hd ((hin _).2 (.inl h'))
    have hd2 : d ≠ x := fun h' => hd ((hin _).2 (.inr h'))
    rcases Q.or_ d hd2 with e | ⟨⟨l, hl, hs, hc⟩, e⟩
    · rcases P.nd d hd1 with h | ⟨l, hl, hc, hs, h⟩
      · exact .inl (by rw [e, h])
      · exact .inr ⟨l, hl, hc, (hin _).2 (.inl hs), by rw [e, Q.in_ _ hs, h]⟩
    · exact .inr ⟨l, hl, hc, (hin _).2 (.inr hs), by rw [hs, Q.at_, e]⟩
  · intro d
    rw [hlen]
    by_cases h : d = x
    · rw [h, Q.at_]; omega
    · have := P.bd d
      rcases Q.or_ d h with e | ⟨_, e⟩ <;> rw [e] <;> omega
  · intro d hd
    rcases (hin d).1 hd with h | h
    · rw [Q.in_ d h]; have := P.ml d h; omega
    · rw [h, Q.at_]; omega
  · have := P.m0
    by_cases c : most ≤ E x + du x
    · exact .inr ⟨x, (hin x).2 (.inr rfl), by rw [Q.at_]; omega⟩
    · rcases P.mx with h | ⟨d, hd, h⟩
      · omega
      · exact .inr ⟨d, (hin d).2 (.inl hd), by rw [Q.in_ d hd, h]; omega⟩

theorem CPush.fin {n : Nat} {ls : List api_Link} {du : Int → Int} (g : GoodG n ls) (hfull : ¬ (ord n ls).length < n) {E : Int → Int} {most : Int} (P : CPush n ls du (ord n ls) E most) : CPath n ls du E ∧ CMax n E most := by
  have hin : ∀ d : Int, 0 ≤ d → d < n → d ∈ ord n ls := fun d h0 h1 => ord_full hfull h0 h1
  refine ⟨⟨fun d h0 h1 => P.lo d (hin d h0 h1), fun l hl => ?_, fun d h0 h1 => P.ex d (hin d h0 h1)⟩, ⟨P.m0, fun d h0 h1 => P.ml d (hin d h0 h1), ?_⟩⟩
  · have hc := g.c0 l hl
    have hs := g.s0 l hl
    exact (P.ge l hl (hin _ hs.1 hs.2)).1 (hin _ hc.1 hc.2)
  · rcases P.mx with h | ⟨d, hd, h⟩
    · exact .inl h
    · have := (ord_run n ls).1.facts.2.1 d hd
      exact .inr ⟨d, this.1, this.2, h⟩

theorem Run.pre' {n : Nat} {ls : List api_Link} {out : List Int} (h : Run n ls out) : ∀ i, i ≤ out.length → Run n ls (out.take i) := by
  induction h with
  | nil => intro i hi; simpa using Run.nil
  | @snoc out v h hv ih =>
    intro i hi
    by_cases hi' : i ≤ out.length
    · rw [List.take_append_of_le_length hi']; exact ih i hi'
    · rw [List.take_of_length_le (by simp only [List.length_append, List.length_singleton] at hi ⊢; omega)]; exact h.snoc hv
theorem Run.nth' {n : Nat} {ls : List api_Link} {out : List Int} (h : Run n ls out) : ∀ i (hi : i < out.length), least n ls (out.take i) = some out[i] := by
  induction h with
  | nil => intro i hi; simp at hi
  | @snoc out v h hv ih =>
    intro i hi
    by_cases hi' : i < out.length
    · rw [List.take_append_of_le_length (by omega), List.getElem_append_left hi']; exact ih i hi'
    · have : i = out.length := by simp only [List.length_append, List.length_singleton] at hi; omega
      subst this
      rw [List.take_append_of_le_length (Nat.le_refl _), List.take_length, List.getElem_append_right (Nat.le_refl _)]
      simpa using hv

theorem critical_good {n w : Nat} {ls : List api_Link} {dl : List Int} (S : GoodS n w ls dl) : ∃ h c, resume_CriticalPath.f n ls dl = some (c, 0) ∧ CPath n ls (duf dl) h ∧ CMax n h c ∧ c ≤ 128 * 9007199254740992 := by
  have g := S.g
  have hn := g.n128
  have S1 : GoodS n 1 ls dl := ⟨S.g, S.full, S.dn, S.d0, by omega, by omega⟩
  have hsc : scode n ls dl 1 = 0 := good_scode S1
  have hll : ls.length ≤ maxLen := by have := g.len; rw [maxLen_eq]; omega
  have hcc : ccode (n : Int) ls = 0 := by rw [ccode_good g, if_neg S.full]
  have ho : ores (n : Int) ls = (ord n ls, 0) := by unfold ores; rw [if_pos hcc]; rfl
  unfold resume_CriticalPath.f
  rw [check31_ok _ _ _ _ hll (by rw [S.dn, maxLen_eq]; omega), hsc, Option.bind_some, if_neg (by simp), order_ok _ _ hll, ho, Option.bind_some, if_neg (by simp), mk_ok (by omega), Option.bind_some]
  have hr := (ord_run n ls).1
  have hlen := ord_le n ls
  have hdu := duf_range S.d0
  have key : ∃ E most, resume_CriticalPath.l0 ls dl (ord n ls, 0) FUEL (List.replicate n 0) 0 0 = some most ∧ CPush n ls (duf dl) (ord n ls) E most := by
    refine loop_c (L := fun k (s : List Int × Int) i => resume_CriticalPath.l0 ls dl (ord n ls, 0) k s.1 s.2 i) (ord n ls).length (fun i s => ∃ E, RepV n s.1 E ∧ CPush n ls (duf dl) ((ord n ls).take i) E s.2)
      (fun o => ∃ E most, o = some most ∧ CPush n ls (duf dl) (ord n ls) E most) ?_ ?_ FUEL 0 (List.replicate n 0, 0) (Nat.zero_le _) (FUEL_pos (by omega)) ⟨fun _ => 0, RepV.rep n 0, ?_⟩
    · rintro k ⟨el, most⟩ i hi ⟨E, h1, h2⟩
      simp only at h1 h2 ⊢
      have hrun := hr.pre' i (by omega)
      have hx := hr.nth' i hi
      obtain ⟨x0, x1, _, _⟩ := least_some hx
      have hb := h2.bd (ord n ls)[i]
      have hl : ((ord n ls).take i).length = i := by simp; omega
      rw [hl] at hb
      have hi2 : (i : Int) * 9007199254740992 ≤ 128 * 9007199254740992 := Int.mul_le_mul_of_nonneg_right (by omega) (by omega)
      have hd := hdu (ord n ls)[i]
      rw [resume_CriticalPath.l0, if_pos (by simp; omega), idx_get hi, Option.bind_some, h1.2 _ x0 x1, Option.bind_some, (duf_rep S.dn).2 _ x0 x1, Option.bind_some, wu_id (by omega) (by omega), (h1.set x0 _).2 _ x0 x1, Option.bind_some, fset_self]
      obtain ⟨el', F, e, q1, q2⟩ := critical_l1 g hrun hx most (E (ord n ls)[i] + duf dl (ord n ls)[i]) (h1.set x0 (E (ord n ls)[i] + duf dl (ord n ls)[i]))
      rw [e, Option.bind_some]
      refine .inl ⟨(el', max most (E (ord n ls)[i] + duf dl (ord n ls)[i])), ⟨F, q1, ?_⟩, by rw [wi_succ (by omega)]⟩
      simp only
      rw [List.take_succ_eq_append_getElem hi]
      exact h2.step hdu hrun hx q2
    · rintro k ⟨el, most⟩ ⟨E, h1, h2⟩
      simp only at h1 h2 ⊢
      rw [resume_CriticalPath.l0, if_neg (by simp)]
      rw [List.take_length] at h2
      exact ⟨E, most, rfl, h2⟩
    · refine ⟨by simp, by simp, by simp, fun d _ => .inl rfl, fun d => ⟨Int.le_refl _, by simp⟩, Int.le_refl _, by simp, .inl rfl⟩
  obtain ⟨E, most, e, P⟩ := key
  rw [e, Option.bind_some]
  obtain ⟨a, b⟩ := P.fin g S.full
  refine ⟨E, most, rfl, a, b, ?_⟩
  have hlb : ((ord n ls).length : Int) * 9007199254740992 ≤ 128 * 9007199254740992 := Int.mul_le_mul_of_nonneg_right (by omega) (by omega)
  rcases P.mx with h | ⟨d, _, h⟩
  · omega
  · have := (P.bd d).2; omega
theorem critical_bad {p : Int} {ls : List api_Link} {dl : List Int} (h : ls.length ≤ maxLen) (hd : dl.length ≤ maxLen) (hs : scode p ls dl 1 ≠ 0) : resume_CriticalPath.f p ls dl = some (0, scode p ls dl 1) := by
  unfold resume_CriticalPath.f
  rw [check31_ok _ _ _ _ h hd, Option.bind_some, if_pos (by simpa using hs)]

/-! ### the schedule's ends and the longest chain -/

theorem ends_ge {n w : Nat} {ls : List api_Link} {du h : Int → Int} (hfull : ¬ (ord n ls).length < n) (hP : CPath n ls du h) {m : Ms} {out : List api_Slot} (D : Done n w ls du m out) : ∀ d : Int, 0 ≤ d → d < n → h d ≤ (m.s d).End :=
  ord_ind hfull fun d d0 d1 ih => by
    obtain ⟨a, b, _, _⟩ := D.inv.begun_of (D.all d d0 d1)
    have hlen := D.inv.len _ a
    have hst := D.inv.st _ a
    rw [b] at hlen
    rcases hP.ex d d0 d1 with e | ⟨l, hl, hc, e⟩
    · omega
    · have h1 := ih l hl hc
      have h2 := (D.inv.lnk l hl (by rw [hc]; exact D.all d d0 d1)).2
      rw [hc] at h2
      omega
theorem span_t {n w : Nat} {ls : List api_Link} {du : Int → Int} {m : Ms} {out : List api_Slot} (D : Done n w ls du m out) {T : Int} (M : Mks out T) : T = m.t := by
  have h0 := D.inv.t0
  have h1 : T ≤ m.t := by
    rcases M.ex with h | ⟨x, hx, h⟩
    · omega
    · have := D.ends x hx; omega
  have h2 : m.t ≤ T := by
    have := M.t0
    rcases D.inv.torg with h | ⟨x, hx, h⟩
    · omega
    · have := M.le x hx; omega
  omega
theorem perm_below {n w : Nat} {ls : List api_Link} {du : Int → Int} {m : Ms} {out : List api_Slot} (D : Done n w ls du m out) : (out.map api_Slot.Device).Perm (below n) := by
  rw [List.perm_ext_iff_of_nodup D.inv.nd (below_nodup n)]
  intro d
  rw [mem_below]
  constructor
  · intro h
    obtain ⟨x, hx, rfl⟩ := List.mem_map.1 h
    exact D.inv.dev x hx
  · rintro ⟨h0, h1⟩
    obtain ⟨a, b⟩ := D.inv.bs d (D.all d h0 h1)
    exact List.mem_map.2 ⟨_, a, b⟩
theorem awake31_ok : law31_awake.f = some true := by kernel_rfl
theorem duf_small {dl : List Int} (h : ∀ x ∈ dl, 0 ≤ x ∧ x ≤ 11) (i : Int) : 0 ≤ duf dl i ∧ duf dl i ≤ 11 := by
  unfold duf
  cases hx : idx dl i with
  | none => simp
  | some x =>
    obtain ⟨y, hy, hm⟩ := idx_of (idx_lo hx) (idx_hi hx)
    rw [hx] at hy; injection hy with hy; subst hy
    exact h x hm
end Go.Proofs.Ythmjgadmadlpkaa.Sim

namespace Go.Proofs.Ythmjgadmadlpkaa.Sim
open Go
set_option linter.unusedVariables false
set_option maxRecDepth 100000

theorem busy_len {n w : Nat} {ls : List api_Link} {du : Int → Int} {m : Ms} {out : List api_Slot} (I : Inv n w ls du m out) (hb : ¬ 0 ≤ nextW w m) : w ≤ out.length := by
  have h1 := fst_neg hb
  have h2 := nodup_le (below_nodup w) (s := out.map api_Slot.Worker) (fun k hk => by
    obtain ⟨k0, k1⟩ := mem_below.1 hk
    have h3 := h1 k k0 k1
    simp only [decide_eq_false_iff_not] at h3
    have := I.t0
    rcases I.fex k with h | ⟨x, hx, hw, he⟩
    · omega
    · exact List.mem_map.2 ⟨x, hx, hw⟩)
  rw [below_length, List.length_map] at h2
  exact h2
theorem unbegun_len {n w : Nat} {ls : List api_Link} {du : Int → Int} {m : Ms} {out : List api_Slot} (I : Inv n w ls du m out) {d : Int} (d0 : 0 ≤ d) (d1 : d < n) (hd : m.b d = false) : out.length < n := by
  have h := nodup_le (l := d :: out.map api_Slot.Device) (s := below n) (by
    rw [List.nodup_cons]
    refine ⟨fun h => ?_, I.nd⟩
    obtain ⟨x, hx, e⟩ := List.mem_map.1 h
    have := (I.sl x hx).1
    rw [e, hd] at this; cases this) (fun x hx => by
    rcases List.mem_cons.1 hx with e | e
    · subst e; exact mem_below.2 ⟨d0, d1⟩
    · obtain ⟨y, hy, rfl⟩ := List.mem_map.1 e
      exact mem_below.2 (I.dev y hy))
  rw [below_length, List.length_cons, List.length_map] at h
  omega

structure Early (n : Nat) (ls : List api_Link) (m : Ms) : Prop where
  un : ∀ d : Int, 0 ≤ d → d < n → m.b d = false → m.t = 0 ∨ ∃ l ∈ ls, l.Consumer = d ∧ (m.b l.Supplier = true → m.t ≤ (m.s l.Supplier).End)
  be : ∀ d : Int, m.b d = true → (m.s d).Start = 0 ∨ ∃ l ∈ ls, l.Consumer = d ∧ (m.s l.Supplier).End = (m.s d).Start

theorem Early.step {n w : Nat} {ls : List api_Link} {du : Int → Int} (hdu : ∀ i, 0 ≤ du i) (hw : n ≤ w) {m : Ms} {out : List api_Slot} (I : Inv n w ls du m out) (E : Early n ls m) {z' : Ms × List api_Slot} (hz : nxt n w ls du (m, out) = some z') : Early n ls z'.1 := by
  rcases nxt_cases hz with ⟨d, k, _, _, hd, hk, hr, hf, rfl⟩ | ⟨t, hno, ht, hlo, hlt, rfl⟩
  · obtain ⟨hb, hsup⟩ := rdy_iff.1 hr
    have hd0 := hdu d
    refine ⟨fun j j0 j1 hj => ?_, fun j hj => ?_⟩
    · unfold place fset at hj ⊢
      simp only at hj ⊢
      by_cases c : j = d
      · rw [if_pos c] at hj; cases hj
      · rw [if_neg c] at hj
        rcases E.un j j0 j1 hj with h | ⟨l, hl, hc, h⟩
        · exact .inl h
        · refine .inr ⟨l, hl, hc, fun hs => ?_⟩
          by_cases e : l.Supplier = d
          · rw [if_pos e]; simp only; omega
          · rw [if_neg e] at hs ⊢; exact h hs
    · unfold place fset at hj ⊢
      simp only at hj ⊢
      by_cases c : j = d
      · subst c
        rw [if_pos rfl]
        rcases E.un j hd.1 hd.2 hb with h | ⟨l, hl, hc, h⟩
        · exact .inl h
        · obtain ⟨h1, h2⟩ := hsup l hl hc
          have hne : l.Supplier ≠ j := fun e => by rw [e, hb] at h1; cases h1
          have := h h1
          refine .inr ⟨l, hl, hc, ?_⟩
          rw [if_neg hne]; simp only; omega
      · rw [if_neg c] at hj ⊢
        rcases E.be j hj with h | ⟨l, hl, hc, h⟩
        · exact .inl h
        · have h1 := (I.lnk l hl (by rw [hc]; exact hj)).1
          have hne : l.Supplier ≠ d := fun e => by rw [e, hb] at h1; cases h1
          refine .inr ⟨l, hl, hc, ?_⟩
          rw [if_neg hne]; exact h
  · refine ⟨fun j j0 j1 hj => ?_, E.be⟩
    simp only at hj ⊢
    have hwk : 0 ≤ nextW w m := Classical.byContradiction fun hb => by
      have := busy_len I hb
      have := unbegun_len I j0 j1 hj
      omega
    have hnr := fst_neg (fun hd => hno ⟨hd, hwk⟩)
    obtain ⟨l, hl, hc, hs⟩ := rdy_not (hnr j j0 j1) hj
    exact .inr ⟨l, hl, hc, fun hB => hlo _ (I.over_run (I.bs _ hB).1 (hs hB))⟩

theorem early_all {n w : Nat} {ls : List api_Link} {du : Int → Int} (hdu : ∀ i, 0 ≤ du i) (hw : n ≤ w) {m : Ms} {out : List api_Slot} (SC : Sched n w ls du m out) : Early n ls m := by
  obtain ⟨j, hj⟩ := SC.st
  have := it_ind (n := n) (w := w) (ls := ls) (du := du) (P := fun m out => Inv n w ls du m out ∧ Early n ls m) (fun m out z' ⟨I, E⟩ hz => ⟨I.step hdu hz, E.step hdu hw I hz⟩) j z00 ⟨Inv.start, ⟨fun _ _ _ _ => .inl rfl, fun d hd => by simp [z00] at hd⟩⟩
  rw [hj] at this
  exact this.2
/-- The ends are the longest chains. -/
theorem early_path {n w : Nat} {ls : List api_Link} {du : Int → Int} (g : GoodG n ls) (hdu : ∀ i, 0 ≤ du i) (hw : n ≤ w) {m : Ms} {out : List api_Slot} (SC : Sched n w ls du m out) : CPath n ls du (fun d => (m.s d).End) := by
  have E := early_all hdu hw SC
  have D := SC.dn
  have hend : ∀ d : Int, 0 ≤ d → d < n → (m.s d).End = (m.s d).Start + du d ∧ 0 ≤ (m.s d).Start := fun d d0 d1 => by
    obtain ⟨a, b, _, _⟩ := D.inv.begun_of (D.all d d0 d1)
    have h1 := D.inv.len _ a
    have h2 := D.inv.st _ a
    rw [b] at h1
    exact ⟨h1, h2.1⟩
  refine ⟨fun d d0 d1 => ?_, fun l hl => ?_, fun d d0 d1 => ?_⟩
  · have := hend d d0 d1; omega
  · have hc := g.c0 l hl
    have := hend _ hc.1 hc.2
    have := (D.inv.lnk l hl (D.all _ hc.1 hc.2)).2
    omega
  · have h1 := hend d d0 d1
    rcases E.be d (D.all d d0 d1) with h | ⟨l, hl, hc, h⟩
    · exact .inl (by omega)
    · exact .inr ⟨l, hl, hc, by omega⟩
theorem mks_cmax {n w : Nat} {ls : List api_Link} {du : Int → Int} {m : Ms} {out : List api_Slot} (D : Done n w ls du m out) {T : Int} (M : Mks out T) : CMax n (fun d => (m.s d).End) T := by
  refine ⟨M.t0, fun d d0 d1 => M.le _ (D.inv.bs d (D.all d d0 d1)).1, ?_⟩
  rcases M.ex with h | ⟨x, hx, h⟩
  · exact .inl h
  · have := D.inv.dev x hx
    exact .inr ⟨x.Device, this.1, this.2, by rw [(D.inv.sl x hx).2]; exact h⟩
end Go.Proofs.Ythmjgadmadlpkaa.Sim

namespace Go.Proofs.Ythmjgadmadlpkaa.Sim
open Go
set_option linter.unusedVariables false

/-- m is the greatest of the levels of c's suppliers among sup, plus one; 0 without a supplier. -/
structure IsMx (ls : List api_Link) (sup : Int → Prop) (h : Int → Int) (c m : Int) : Prop where
  nn : 0 ≤ m
  ub : ∀ s, api_Link.mk c s ∈ ls → sup s → h s + 1 ≤ m
  at_ : m = 0 ∨ ∃ s, api_Link.mk c s ∈ ls ∧ sup s ∧ m = h s + 1

theorem IsMx.uniq {ls : List api_Link} {sup : Int → Prop} {h : Int → Int} (hh : ∀ s, 0 ≤ h s) {c m m' : Int} (a : IsMx ls sup h c m) (b : IsMx ls sup h c m') : m = m' := by
  rcases a.at_ with e | ⟨s, h1, h2, e⟩ <;> rcases b.at_ with e' | ⟨s', h1', h2', e'⟩
  · omega
  · have := a.ub s' h1' h2'; have := hh s'; omega
  · have := b.ub s h1 h2; have := hh s; omega
  · have := a.ub s' h1' h2'; have := b.ub s h1 h2; omega

/-- The level at v, as a list says it. -/
def lv (l : List Int) (v : Int) : Int := (idx l v).getD 0
theorem lv_of {l : List Int} {v x : Int} (h : idx l v = some x) : lv l v = x := by unfold lv; rw [h]; rfl
theorem idx_lv {l : List Int} {n : Nat} (hl : l.length = n) {v : Int} (h0 : 0 ≤ v) (h1 : v < n) : idx l v = some (lv l v) := by
  obtain ⟨x, hx, _⟩ := idx_of (xs := l) h0 (by omega)
  rw [hx, lv_of hx]
theorem lv_upd {l : List Int} {n : Nat} (hl : l.length = n) {i v x : Int} (i0 : 0 ≤ i) (h0 : 0 ≤ v) (h1 : v < n) : lv (upd l i x) v = if i = v then x else lv l v := by
  unfold lv
  rw [idx_upd (xs := l) i0 h0 (by omega)]
  split <;> rfl
theorem lv_upd_ne {l : List Int} {i v x : Int} (i0 : 0 ≤ i) (h : i ≠ v) : lv (upd l i x) v = lv l v := by
  unfold lv; rw [idx_upd_ne i0 h]

/-- Levels that fit. -/
structure Lev (n : Nat) (ls : List api_Link) (l : List Int) : Prop where
  len : l.length = n
  nn : ∀ v, 0 ≤ lv l v
  le : ∀ v : Int, 0 ≤ v → v < n → lv l v ≤ n
  mx : ∀ v : Int, 0 ≤ v → v < n → IsMx ls (fun _ => True) (lv l) v (lv l v)

theorem Lev.uniq {n : Nat} {ls : List api_Link} (g : GoodG n ls) (hfull : ¬ (ord n ls).length < n) {l l' : List Int} (a : Lev n ls l) (b : Lev n ls l') : l = l' := by
  have key : ∀ out, Run n ls out → ∀ v ∈ out, lv l v = lv l' v := by
    intro out hr
    induction hr with
    | nil => simp
    | @snoc out x hr hx ih =>
      intro v hv
      rcases List.mem_append.1 hv with hv | hv
      · exact ih v hv
      · simp only [List.mem_singleton] at hv
        subst hv
        obtain ⟨v0, v1, hf, _⟩ := least_some hx
        obtain ⟨_, hs⟩ := free_iff.1 hf
        have m1 := a.mx v v0 v1
        have m2 := b.mx v v0 v1
        refine IsMx.uniq a.nn m1 ⟨m2.nn, fun s h1 h2 => ?_, ?_⟩
        · rw [ih s (hs _ h1 rfl)]; exact m2.ub s h1 h2
        · rcases m2.at_ with e | ⟨s, h1, h2, e⟩
          · exact .inl e
          · exact .inr ⟨s, h1, h2, by rw [ih s (hs _ h1 rfl)]; exact e⟩
  apply List.ext_getElem
  · rw [a.len, b.len]
  · intro i h1 h2
    have hi : i < n := by rw [← a.len]; exact h1
    have := key _ (ord_run n ls).1 (i : Int) (ord_full hfull (by omega) (by omega))
    rw [lv_of (idx_get h1), lv_of (idx_get h2)] at this
    exact this

/-- What the program has when the first nodes of the order are done. -/
structure Push (n : Nat) (ls : List api_Link) (done : List Int) (l : List Int) : Prop where
  len : l.length = n
  nn : ∀ v, 0 ≤ lv l v
  le : ∀ v : Int, lv l v ≤ done.length
  mx : ∀ v : Int, 0 ≤ v → v < n → IsMx ls (fun s => s ∈ done) (lv l) v (lv l v)

theorem levels_l1 {n : Nat} {ls : List api_Link} (g : GoodG n ls) {done : List Int} (hr : Run n ls done) {x : Int} (hx : least n ls done = some x) {l : List Int} (hp : Push n ls done l) :
    ∃ l', depgraph_Levels.l1 x (consOf ls x) FUEL l 0 = some l' ∧ Push n ls (done ++ [x]) l' := by
  have hn := g.n128
  have hl := g.len
  have hcl := consOf_le ls x
  have hdl := (hr.snoc hx).length_le
  rw [List.length_append, List.length_singleton] at hdl
  obtain ⟨x0, x1, hfree, _⟩ := least_some hx
  obtain ⟨hxo, hxs⟩ := free_iff.1 hfree
  have hmem : ∀ c ∈ consOf ls x, (0 ≤ c ∧ c < n) ∧ c ∉ done ∧ c ≠ x := by
    intro c hc
    have hm := mem_consOf.1 hc
    exact ⟨g.c0 _ hm, fun h => hxo (hr.facts.2.2 _ hm h), fun e => hxo (hxs _ hm e)⟩
  have key : ∃ l', depgraph_Levels.l1 x (consOf ls x) FUEL l 0 = some l' ∧ l'.length = n ∧ ∀ v : Int, lv l' v = if v ∈ consOf ls x then max (lv l v) (lv l x + 1) else lv l v := by
    refine loop_c (L := fun k (s : List Int) i => depgraph_Levels.l1 x (consOf ls x) k s i) (consOf ls x).length (fun i s => s.length = n ∧ ∀ v : Int, lv s v = if v ∈ (consOf ls x).take i then max (lv l v) (lv l x + 1) else lv l v)
      (fun o => ∃ l', o = some l' ∧ l'.length = n ∧ ∀ v : Int, lv l' v = if v ∈ consOf ls x then max (lv l v) (lv l x + 1) else lv l v) ?_ ?_ FUEL 0 l (Nat.zero_le _) (FUEL_pos (by omega)) ⟨hp.len, fun v => by simp⟩
    · rintro k s i hi ⟨i1, i2⟩
      obtain ⟨⟨c0, c1⟩, _, cx⟩ := hmem _ (List.getElem_mem hi)
      have hxc : x ∉ (consOf ls x).take i := fun h => (hmem x (List.mem_of_mem_take h)).2.2 rfl
      rw [depgraph_Levels.l1, if_pos (by simp; omega), idx_get hi]
      simp only [Option.bind_some]
      rw [idx_lv i1 c0 c1, idx_lv i1 x0 x1]
      simp only [Option.bind_some]
      rw [i2 x, if_neg hxc]
      have hxle := hp.le x
      have hxnn := hp.nn x
      rw [wi_id (x := lv l x + 1) (by omega) (by omega)]
      refine .inl ⟨upd s (consOf ls x)[i] (max (lv s (consOf ls x)[i]) (lv l x + 1)), ⟨by rw [upd_length]; exact i1, fun v => ?_⟩, by rw [wi_succ (by omega)]⟩
      by_cases e : (consOf ls x)[i] = v
      · subst e
        rw [lv_upd i1 c0 c0 c1, if_pos rfl, if_pos ((mem_take_succ hi).2 (.inr rfl)), i2]
        split
        · omega
        · rfl
      · rw [lv_upd_ne c0 e, i2 v]
        by_cases hm : v ∈ (consOf ls x).take i
        · rw [if_pos hm, if_pos ((mem_take_succ hi).2 (.inl hm))]
        · rw [if_neg hm, if_neg (fun h => ((mem_take_succ hi).1 h).elim hm (fun h => e h.symm))]
    · rintro k s ⟨i1, i2⟩
      rw [depgraph_Levels.l1, if_neg (by simp)]
      rw [List.take_length] at i2
      exact ⟨s, rfl, i1, i2⟩
  obtain ⟨l', e1, e2, e3⟩ := key
  refine ⟨l', e1, e2, fun v => ?_, fun v => ?_, fun v v0 v1 => ?_⟩
  · rw [e3]; have := hp.nn v; split <;> omega
  · rw [e3, List.length_append, List.length_singleton]
    have := hp.le v; have := hp.le x
    split <;> omega
  · have m := hp.mx v v0 v1
    have hxv : lv l' x = lv l x := by rw [e3, if_neg (fun h => (hmem x h).2.2 rfl)]
    have hsv : ∀ s ∈ done, lv l' s = lv l s := fun s hs => by rw [e3, if_neg (fun h => (hmem s h).2.1 hs)]
    refine ⟨by rw [e3]; have := m.nn; split <;> omega, fun s h1 h2 => ?_, ?_⟩
    · rcases List.mem_append.1 h2 with h2 | h2
      · rw [hsv s h2, e3]
        have := m.ub s h1 h2
        split <;> omega
      · simp only [List.mem_singleton] at h2
        subst h2
        rw [hxv, e3, if_pos (mem_consOf.2 h1)]
        omega
    · rw [e3]
      by_cases hv : v ∈ consOf ls x
      · rw [if_pos hv]
        have hlink := mem_consOf.1 hv
        by_cases hlt : lv l v ≤ lv l x + 1
        · exact .inr ⟨x, hlink, List.mem_append.2 (.inr (List.mem_singleton.2 rfl)), by rw [hxv]; omega⟩
        · rcases m.at_ with e | ⟨s, h1, h2, e⟩
          · have := hp.nn x; omega
          · exact .inr ⟨s, h1, List.mem_append.2 (.inl h2), by rw [hsv s h2]; omega⟩
      · rw [if_neg hv]
        rcases m.at_ with e | ⟨s, h1, h2, e⟩
        · exact .inl e
        · exact .inr ⟨s, h1, List.mem_append.2 (.inl h2), by rw [hsv s h2]; exact e⟩

theorem Run.pre {n : Nat} {ls : List api_Link} {out : List Int} (h : Run n ls out) : ∀ i, i ≤ out.length → Run n ls (out.take i) := by
  induction h with
  | nil => intro i hi; simp; exact .nil
  | @snoc out v h hv ih =>
    intro i hi
    rw [List.length_append, List.length_singleton] at hi
    by_cases e : i ≤ out.length
    · rw [List.take_append_of_le_length e]; exact ih i e
    · rw [List.take_of_length_le (by simp; omega)]; exact h.snoc hv
theorem Run.nth {n : Nat} {ls : List api_Link} {out : List Int} (h : Run n ls out) : ∀ i (hi : i < out.length), least n ls (out.take i) = some out[i] := by
  induction h with
  | nil => intro i hi; simp at hi
  | @snoc out v h hv ih =>
    intro i hi
    rw [List.length_append, List.length_singleton] at hi
    by_cases e : i < out.length
    · rw [List.take_append_of_le_length (by omega), List.getElem_append_left e]; exact ih i e
    · have : i = out.length := by omega
      subst this
      rw [List.take_append_of_le_length (Nat.le_refl _), List.take_length, List.getElem_append_right (Nat.le_refl _)]
      simpa using hv

theorem levels_good {n : Nat} {ls : List api_Link} (g : GoodG n ls) (hfull : ¬ (ord n ls).length < n) {c : Int} {adj : List (List Int)} {cnt : List Int} (ha : ∀ v, 0 ≤ v → v < (n : Int) → idx adj v = some (consOf ls v)) :
    ∃ l, depgraph_Levels.l0 (ord n ls, c) (adj, cnt) FUEL (List.replicate n 0) 0 = some l ∧ Lev n ls l := by
  have hn := g.n128
  have hle := ord_le n ls
  have hr := (ord_run n ls).1
  refine loop_c (L := fun k (s : List Int) i => depgraph_Levels.l0 (ord n ls, c) (adj, cnt) k s i) (ord n ls).length (fun i s => Push n ls ((ord n ls).take i) s) (fun o => ∃ l, o = some l ∧ Lev n ls l) ?_ ?_ FUEL 0 _ (Nat.zero_le _) (FUEL_pos (by omega)) ?_
  · intro k s i hi hp
    have hx := hr.nth i hi
    obtain ⟨x0, x1, _, _⟩ := least_some hx
    rw [depgraph_Levels.l0, if_pos (by simp only [decide_eq_true_eq]; omega), idx_get (xs := ord n ls) hi]
    simp only [Option.bind_some]
    rw [ha _ x0 x1]
    simp only [Option.bind_some]
    obtain ⟨l', q1, q2⟩ := levels_l1 g (hr.pre i (by omega)) hx hp
    rw [q1]
    refine .inl ⟨l', ?_, by rw [wi_succ (by omega)]; rfl⟩
    rw [List.take_succ_eq_append_getElem hi]; exact q2
  · intro k s hp
    rw [depgraph_Levels.l0, if_neg (by simp)]
    rw [List.take_length] at hp
    refine ⟨s, rfl, hp.len, hp.nn, fun v v0 v1 => by have := hp.le v; omega, fun v v0 v1 => ?_⟩
    have m := hp.mx v v0 v1
    refine ⟨m.nn, fun s h1 _ => m.ub s h1 (ord_full hfull (g.s0 _ h1).1 (g.s0 _ h1).2), ?_⟩
    rcases m.at_ with e | ⟨s, h1, h2, e⟩
    · exact .inl e
    · exact .inr ⟨s, h1, trivial, e⟩
  · have z : ∀ v, lv (List.replicate n 0) v = 0 := by
      intro v
      unfold lv idx
      split
      · rw [List.getElem?_replicate]; split <;> rfl
      · rfl
    exact ⟨by simp, fun v => by rw [z]; omega, fun v => by rw [z]; omega, fun v v0 v1 => ⟨by rw [z]; omega, fun s h1 h2 => by simp at h2, .inl (z v)⟩⟩

end Go.Proofs.Ythmjgadmadlpkaa.Sim

namespace Go.Proofs.Ythmjgadmadlpkaa.Sim
open Go
set_option linter.unusedVariables false
set_option maxRecDepth 100000

theorem level_start {n w : Nat} {ls : List api_Link} {du : Int → Int} {x : Int} (g : GoodG n ls) (hfull : ¬ (ord n ls).length < n) (hx : 0 ≤ x) (hdu : ∀ d : Int, 0 ≤ d → d < n → du d = x) (hdu0 : ∀ d, 0 ≤ du d) (hw : n ≤ w) {m : Ms} {out : List api_Slot} (SC : Sched n w ls du m out) {l : List Int} (L : Lev n ls l) :
    ∀ d : Int, 0 ≤ d → d < n → (m.s d).Start = lv l d * x := by
  have E := early_all hdu0 hw SC
  have D := SC.dn
  refine ord_ind hfull fun d d0 d1 ih => ?_
  have M := L.mx d d0 d1
  have hend : ∀ k ∈ ls, k.Consumer = d → (m.s k.Supplier).End = (lv l k.Supplier + 1) * x := fun k hk hc => by
    have hs := g.s0 k hk
    obtain ⟨a, b, _, _⟩ := D.inv.begun_of (D.all _ hs.1 hs.2)
    have h1 := D.inv.len _ a
    rw [b, ih k hk hc, hdu _ hs.1 hs.2] at h1
    rw [h1, Int.add_mul]; omega
  have hst := D.inv.st _ (D.inv.bs d (D.all d d0 d1)).1
  have hlo : ∀ k ∈ ls, k.Consumer = d → (lv l k.Supplier + 1) * x ≤ (m.s d).Start := fun k hk hc => by
    rw [← hend k hk hc]
    have := (D.inv.lnk k hk (by rw [hc]; exact D.all d d0 d1)).2
    rw [hc] at this; exact this
  have hmul : ∀ a b : Int, a ≤ b → a * x ≤ b * x := fun a b h => Int.mul_le_mul_of_nonneg_right h hx
  have h1 : (m.s d).Start ≤ lv l d * x := by
    rcases E.be d (D.all d d0 d1) with h | ⟨k, hk, hc, h⟩
    · have := hmul 0 (lv l d) M.nn
      rw [Int.zero_mul] at this; omega
    · rw [← h, hend k hk hc]
      refine hmul _ _ (M.ub k.Supplier ?_ trivial)
      rw [← hc]; exact hk
  have h2 : lv l d * x ≤ (m.s d).Start := by
    rcases M.at_ with h | ⟨s, hs, _, h⟩
    · rw [h, Int.zero_mul]; exact hst.1
    · rw [h]; exact hlo _ hs rfl
  omega

theorem resumeFollowsLevels : law31_ResumeFollowsLevels.Pure := by
  intro p0 p1 p2 _ h1 h2
  have hp2 := u64_range h2
  have hx : ∃ x : Int, wu (1 + Int.tmod p2 20) = x ∧ 1 ≤ x ∧ x ≤ 20 := by
    rw [Int.tmod_eq_emod_of_nonneg hp2.1]
    exact ⟨1 + p2 % 20, wu_id (by omega) (by omega), by omega, by omega⟩
  obtain ⟨x, ex, x0, x1⟩ := hx
  unfold law31_ResumeFollowsLevels.f
  by_cases hb : 40 < p1.length
  · rw [if_pos (by simp; omega), awake31_ok]; rfl
  · rw [if_neg (by simp; omega)]
    obtain ⟨n, ls, e1, g⟩ := graph_ok p0 p1 true h1.1
    have hn := g.n13
    rw [e1, Option.bind_some]
    simp only
    rw [mk_ok (by omega), Option.bind_some]
    have key : ∃ dl, law31_ResumeFollowsLevels.l0 p2 ((n : Int), ls) FUEL (List.replicate n 0) 0 = some dl ∧ RepV n dl (fun _ => x) := by
      refine loop_c (L := fun k (s : List Int) i => law31_ResumeFollowsLevels.l0 p2 ((n : Int), ls) k s i) n (fun i s => RepV n s (fun d => if d < i then x else 0)) (fun o => ∃ dl, o = some dl ∧ RepV n dl (fun _ => x)) ?_ ?_ FUEL 0 _ (Nat.zero_le _) (FUEL_pos (by omega)) ((RepV.rep n 0).congr fun d d0 d1 => by rw [if_neg (by omega)])
      · intro k s i hi hI
        rw [law31_ResumeFollowsLevels.l0, if_pos (by simp; omega), hI.2 (i : Int) (by omega) (by omega), Option.bind_some, ex, wi_succ (by omega)]
        refine .inl ⟨_, (hI.set (k := (i : Int)) (by omega) x).congr fun d d0 d1 => ?_, rfl⟩
        unfold fset
        dsimp only
        split
        · rw [if_pos (by omega)]
        · by_cases c : d < i
          · rw [if_pos c, if_pos (by omega)]
          · rw [if_neg c, if_neg (by omega)]
      · intro k s hI
        rw [law31_ResumeFollowsLevels.l0, if_neg (by simp)]
        exact ⟨s, rfl, hI.congr fun d d0 d1 => by rw [if_pos d1]⟩
    obtain ⟨dl, e4, hR⟩ := key
    rw [e4, Option.bind_some]
    have hdl : ∀ y ∈ dl, y = x := fun y hy => by
      obtain ⟨i, hi, rfl⟩ := List.getElem_of_mem hy
      have := hR.2 (i : Int) (by omega) (by have := hR.1; omega)
      rw [idx_get hi] at this
      exact Option.some.inj this
    have S : GoodS n 16 ls dl := ⟨g.good, acyc_full g, hR.1, fun y hy => by rw [hdl y hy]; omega, by omega, by omega⟩
    obtain ⟨m, out, e5, SC, htb⟩ := sched_good S
    have D := SC.dn
    have hlen := D.len
    have hll : ls.length ≤ maxLen := by have := g.good.len; rw [maxLen_eq]; omega
    have hcc : ccode (n : Int) ls = 0 := by rw [ccode_good g.good, if_neg (acyc_full g)]
    have ho : ores (n : Int) ls = (ord n ls, 0) := by unfold ores; rw [if_pos hcc]; rfl
    have e5' : resume_Schedule.f n ls dl 16 = some (out, 0) := e5
    obtain ⟨adj, cnt, ha, _, _, hac⟩ := adjacent_ok g.good
    obtain ⟨l, q1, L⟩ := levels_good g.good (acyc_full g) (c := 0) (cnt := cnt) (fun v v0 v1 => (hac v v0 v1).1)
    have e6 : depgraph_Levels.f n ls = some (l, 0) := by
      unfold depgraph_Levels.f
      rw [order_ok _ _ hll, ho, Option.bind_some, if_neg (by simp), ha, Option.bind_some, mk_ok (by omega), Option.bind_some, q1]; rfl
    rw [e5', Option.bind_some, e6, Option.bind_some, if_neg (by simp [hlen, L.len])]
    have hst := level_start (w := 16) g.good (acyc_full g) (x := x) (by omega) (fun d d0 d1 => by unfold duf; rw [hR.2 d d0 d1]; rfl) (fun d => (duf_range S.d0 d).1) (by omega) SC L
    have key2 : law31_ResumeFollowsLevels.l1 p2 ((n : Int), ls) (out, 0) (l, 0) FUEL 0 = some (.nxt ()) := by
      refine loop_c (L := fun k (_ : Unit) i => law31_ResumeFollowsLevels.l1 p2 ((n : Int), ls) (out, 0) (l, 0) k i) n (fun _ _ => True) (fun o => o = some (.nxt ())) ?_ ?_ FUEL 0 () (Nat.zero_le _) (FUEL_pos (by omega)) trivial
      · intro k _ i hi _
        have hi' : i < out.length := by omega
        have hm := List.getElem_mem hi'
        have hd := D.inv.dev _ hm
        have hs := hst _ hd.1 hd.2
        rw [(D.inv.sl _ hm).2] at hs
        have hnn := L.nn out[i].Device
        have hle := L.le _ hd.1 hd.2
        have hprod : 0 ≤ lv l out[i].Device * x := Int.mul_nonneg hnn (by omega)
        have hprod2 : lv l out[i].Device * x ≤ 13 * 20 := by
          have h3 := Int.mul_le_mul_of_nonneg_right (a := lv l out[i].Device) (b := 13) (c := x) (by omega) (by omega)
          omega
        rw [law31_ResumeFollowsLevels.l1, if_pos (by simp; omega), idx_get hi', Option.bind_some, if_neg (by simp; omega)]
        simp only
        rw [idx_lv L.len hd.1 hd.2, Option.bind_some, Option.bind_some, if_neg (by simp; omega), Option.bind_some, Option.bind_some, ex, wu_id (x := lv l out[i].Device) hnn (by omega), wu_id hprod (by omega), if_neg (by simp [hs]), wi_succ (by omega)]
        exact .inl ⟨(), trivial, rfl⟩
      · intro k _ _
        rw [law31_ResumeFollowsLevels.l1, if_neg (by simp)]
    rw [key2, Option.bind_some, Fl.go, awake31_ok]; rfl
end Go.Proofs.Ythmjgadmadlpkaa.Sim
