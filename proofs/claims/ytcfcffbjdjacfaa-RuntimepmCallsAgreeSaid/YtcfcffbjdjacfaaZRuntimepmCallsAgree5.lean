/-
  Texts of this session, part 5 of 7: the words of the walk, plain functions with the same answers as the Go functions and the proofs of it, plain lemmas. No condition.
  They are, one behind the other: QRef28ManagerGet QRef28ManagerPut QLaw28Want QRef28ManagerActive QRef28ManagerNextExpiry QRef28ManagerUsage QRef28New QRuntimepmManagerActive QRuntimepmManagerUsage Op LwRuntimepmCallsAgree.
-/
import Derived.Test.YtcfcffbjdjacfaaProg
import Derived.Test.YtcfcffbjdjacfaaZRuntimepmCallsAgree4

namespace Go.Proofs.Ytcfcffbjdjacfaa.Sim
open Go
set_option linter.unusedVariables false
set_option linter.unusedSimpArgs false

/-! ### y1s: function 53 -/
def y1s.l1 (p2 : Int) (r92 : (List Int) × Int) (r125 : (List Int) × Int) (m0_2 : Int) : Nat → y06 → (List y0e) → Int → Option (y06 × (List y0e))
 | 0, _, _, _ => none
 | k182 + 1, m1_0, m1_1, m1_2 => if decide (m1_2 < (r92.1.length : Int)) = true then (((idx r92.1 m1_2).bind fun x198 => (idx r125.1 m0_2).bind fun x204 => (if (x198 == x204) = true then (idx m1_0.On x204).bind fun x219 => some (!x219) else some false).bind fun t224 => if t224 = true then ((idx m1_0.On x204).bind fun x256 => (app m1_1 [(y0e.mk x204 true p2)]).bind fun y282 => some ((y06.mk m1_0.D m1_0.Links (upd m1_0.On x204 true) m1_0.Use m1_0.Since m1_0.Clock), y282)) else (some (m1_0, m1_1)) : Option (y06 × (List y0e))).bind fun v192 => y1s.l1 p2 r92 r125 m0_2 k182 v192.1 v192.2 (wi (m1_2 + 1))) else (some (m1_0, m1_1))
def y1s.l0 (p2 : Int) (r92 : (List Int) × Int) (r125 : (List Int) × Int) : Nat → y06 → (List y0e) → Int → Option ((List y0e) × y06)
 | 0, _, _, _ => none
 | k164 + 1, m0_0, m0_1, m0_2 => if decide (m0_2 < (r125.1.length : Int)) = true then ((y1s.l1 p2 r92 r125 m0_2 FUEL m0_0 m0_1 0 : Option (y06 × (List y0e))).bind fun v174 => y1s.l0 p2 r92 r125 k164 v174.1 v174.2 (wi (m0_2 + 1))) else (some (m0_1, m0_0))
def y1s.f (p0 : y06) (p1 : Int) (p2 : Int) : Option (y06 × (List y0e) × Int) := (if ((decide (p1 < 0)) || (decide ((p0.D.length : Int) ≤ p1))) = true then some true else (y36.f p0 p2).bind fun r35 => some r35).bind fun t39 => if t39 = true then (some (p0, [], 1)) else ((y15.f (y06.mk p0.D p0.Links p0.On p0.Use p0.Since p2) ([] : List y0e) p2).bind fun r67 => (idx r67.1.Use p1).bind fun x81 => (y4e.f (r67.1.D.length : Int) r67.1.Links [p1]).bind fun r92 => (ref24_Order.f (r67.1.D.length : Int) r67.1.Links).bind fun r125 => (y1s.l0 p2 r92 r125 FUEL (y06.mk r67.1.D r67.1.Links r67.1.On (upd r67.1.Use p1 (wi (x81 + 1))) r67.1.Since r67.1.Clock) r67.2 0 : Option ((List y0e) × y06)).bind fun v156 => some (v156.2, v156.1, 0))
set_option maxRecDepth 100000 in
set_option maxHeartbeats 4000000 in
theorem y1s.calls {p0 : y06} {c0 : Nat} {y2a : Nat → Prop} {b_p0 : Nat} {y2o : Option Addr} {y1l : Nat} {y0x : Option Addr} {y0m : Nat} {y24 : Option Addr} {y1d : Nat} {y1m : Option Addr} {y0y : Nat} {y0z : Option Addr} {y0n : Nat} {p1 : Int} {p2 : Int} {w : World} {g : Nat → Nat} {out : y06 × (List y0e) × Int} (N : Nat) (r0 : Nat) (hp0 : y2q w g c0 y2a b_p0 y2o y1l y0x y0m y24 y1d y1m y0y y0z y0n p0) (hc0 : c0 + 9 ≤ N) (y33 : ∀ c, y2a c → c < N ∧ (c < c0 ∨ c0 + 9 ≤ c)) (hr0 : r0 + 2 ≤ N) (hq0_0 : r0 + 2 ≤ c0 ∨ c0 + 9 ≤ r0) (H : y1s.f p0 p1 p2 = some out) :
  Calls Try.prog 53 #[.pointer (so b_p0), i6 p1, .int .u64 p2] w (fun e w' => ∃ v, e = .returned v ∧ ∃ (g' : Nat → Nat) (A_r0 : Option Addr) (cap_r0 : Nat), v = .tuple #[.slice A_r0 out.2.1.length cap_r0, i6 out.2.2] ∧ y2q w' g' c0 y2a b_p0 y2o y1l y0x y0m y24 y1d y1m y0y y0z y0n out.1 ∧ OwS y18 47 w' g' r0 A_r0 cap_r0 out.2.1 ∧ Fr (fun q => (c0 ≤ q ∧ q < c0 + 9) ∨ (r0 ≤ q ∧ q < r0 + 2) ∨ N ≤ q) w g w' g') := by
 unfold y1s.f at H
 refine y1k Try.func53 rfl Try.ntmps53 Z (fun a hS => ?_)
 replace hS : Sl 128 a [(0, .pointer (so b_p0)), (1, i6 p1), (2, .int .u64 p2)] := hS
 have hF : Fr (fun q => (c0 ≤ q ∧ q < c0 + 9) ∨ (r0 ≤ q ∧ q < r0 + 2) ∨ N ≤ q) w g w g := Fr.refl _ _ _
 obtain ⟨hb0, y2v, y0c, y1o, y14, y0d⟩ := hp0
 refine y16 [(0, .pointer (so b_p0)), (1, i6 p1), (2, .int .u64 p2)] (fun R hR => y00 hS Z Z Z (y02 hS Z Z) fun a1 S1 => y00 S1 Z Z Z (y02 S1 Z Z) fun a2 S2 => wpList_nil (hR _ (S2.re ⟨Z, Z, Z, trivial⟩))) ?_
 clear hS a; intro a hS
 refine wp_seq ?_
 obtain ⟨t39, ht40, H⟩ := y0b H
 refine y0t (fun K hK => ?_)
 refine y00 hS Z Z Z (y03 hS Z Z) fun a3 S3 => y00 S3 Z Z Z (y2l S3 Z Z rfl y4t) fun a4 S4 => y00 S4 Z Z Z (y03 S4 Z Z) fun a5 S5 => ?_
 refine y4b (N := 128) 8 [(0, .pointer (so b_p0)), (1, i6 p1), (2, .int .u64 p2), (25, .bool ((decide (p1 < 0)) || (decide ((p0.D.length : Int) ≤ p1))))] ?_ (fun hk => ?_)
 rotate_left
 ·rcases Bool.eq_false_or_eq_true (decide (p1 < 0)) with hb6 | hb6
  ·refine y1c S5 (y05 S5 Z Z rfl hb6) Z Z fun a14 S14 => y1c S14 (y05 S14 Z Z rfl hb6) Z Z fun a15 S15 => y1c S15 (y05 S15 Z Z rfl hb6) Z Z fun a16 S16 => y1c S16 (y05 S16 Z Z rfl hb6) Z Z fun a17 S17 => y1c S17 (y05 S17 Z Z rfl hb6) Z Z fun a18 S18 => y1c S18 (y05 S18 Z Z rfl hb6) Z Z fun a19 S19 => y1c S19 (y05 S19 Z Z rfl hb6) Z Z fun a20 S20 => y00 S20 Z Z Z (y2s S20 Z Z rfl hb6) fun a21 S21 => hk _ (S21.re ⟨rfl, rfl, rfl, (by rw [hb6]; rfl), trivial⟩)
  ·refine y0p S5 (y0a S5 Z Z rfl hb6) Z Z (y03 S5 Z Z) fun a22 S22 => y0p S22 (y0a S22 Z Z rfl hb6) Z Z (y03 S22 Z Z) fun a23 S23 => y0p S23 (y0a S23 Z Z rfl hb6) Z Z (y4s S23 Z Z) fun a24 S24 => y0p S24 (y0a S24 Z Z rfl hb6) Z Z (y1e (off := 0) S24 Z Z (by kernel_rfl)) fun a25 S25 => y0p S25 (y0a S25 Z Z rfl hb6) Z Z (y0u (n := 1) S25 Z Z (by kernel_rfl) (Bx.cell hb0 Z)) fun a26 S26 => y0p S26 (y0a S26 Z Z rfl hb6) Z Z (y4x (e := 30) (sz := 3) (by_ := 40) S26 Z Z (by kernel_rfl)) fun a27 S27 => y0p S27 (y0a S27 Z Z rfl hb6) Z Z (y2l S27 Z Z rfl b_geq) fun a28 S28 => y00 S28 Z Z Z (y2t S28 Z Z rfl hb6) fun a29 S29 => hk _ (S29.re ⟨rfl, rfl, rfl, (by rw [hb6]; rfl), trivial⟩)
 intro a30 S30
 refine y00 S30 Z Z Z (y03 S30 Z Z) fun a31 S31 => ?_
 refine g_joinR 4 (fun a w41 => ∃ (g41 : Nat → Nat), Sl 128 a [(0, .pointer (so b_p0)), (1, i6 p1), (2, .int .u64 p2), (30, .bool t39)] ∧ Bx w41 g41 (c0) b_p0 63 [.slice y2o p0.D.length y1l, .slice y0x p0.Links.length y0m, .slice y24 p0.On.length y1d, .slice y1m p0.Use.length y0y, .slice y0z p0.Since.length y0n, .int .u64 p0.Clock] ∧ RdS y0f w41 g41 y2a y2o y1l p0.D ∧ OwS y0r 67 w41 g41 (c0 + 1) y0x y0m p0.Links ∧ OwS y4p 4 w41 g41 (c0 + 3) y24 y1d p0.On ∧ OwS (kint .u64) 28 w41 g41 (c0 + 7) y0z y0n p0.Since ∧ OwS (kint .i64) 3 w41 g41 (c0 + 5) y1m y0y p0.Use ∧ Fr (fun q => (c0 ≤ q ∧ q < c0 + 9) ∨ (r0 ≤ q ∧ q < r0 + 2) ∨ N ≤ q) w g w41 g41) ?_ (fun hk => ?_)
 rotate_left
 ·rcases Bool.eq_false_or_eq_true (((decide (p1 < 0)) || (decide ((p0.D.length : Int) ≤ p1)))) with hb32 | hb32
  ·have H := y3f hb32 ht40
   have e42 := Option.some.inj H
   refine y1c S31 (y05 S31 Z Z rfl hb32) Z Z fun a43 S43 => y1c S43 (y05 S43 Z Z rfl hb32) Z Z fun a44 S44 => y1c S44 (y05 S44 Z Z rfl hb32) Z Z fun a45 S45 => y00 S45 Z Z Z (y2s S45 Z Z rfl hb32) fun a46 S46 => hk _ _ ?_
   exact ⟨g, S46.re ⟨rfl, rfl, rfl, (by rw [← e42]; rfl), trivial⟩, hb0, y2v, y0c, y1o, y0d, y14, hF⟩
  ·have H := y3g hb32 ht40
   obtain ⟨r49, hr50, H⟩ := y0b H
   have e53 := Option.some.inj H
   refine y0p S31 (y0a S31 Z Z rfl hb32) Z Z (y03 S31 Z Z) fun a47 S47 => y0p S47 (y0a S47 Z Z rfl hb32) Z Z (y03 S47 Z Z) fun a48 S48 => ?_
   refine st_enterW S48 (y0a S48 Z Z rfl hb32) Z Z (y2z S48 Z Z (by kernel_rfl)) (y36.calls (c0 := c0) (b_p0 := b_p0) (y2o := y2o) (y1l := y1l) (y2a := y2a) (y0x := y0x) (y0m := y0m) (y24 := y24) (y1d := y1d) (y1m := y1m) (y0y := y0y) (y0z := y0z) (y0n := y0n) (p0 := p0) (p1 := p2) (g := g) (N + 12)  ⟨hb0, y2v, y0c, y1o, y14, y0d⟩ (by omega) (fun q (hq : y2a q) => by have := y33 q hq; omega) hr50) ?_
   rintro _ a51 w52 ⟨g52, rfl, F52⟩ S51
   replace hb0 := hb0.fr F52 (fun (hm : N + 12 ≤ c0) => by omega)
   replace y2v := RdS.fr y2v F52 (by decide) (fun q (hq : y2a q) (hm : N + 12 ≤ q) => by have := y33 q hq; omega)
   replace y0c := OwS.fr y0c F52 (fun c' hc (hm : N + 12 ≤ c') => by omega)
   replace y1o := OwS.fr y1o F52 (fun c' hc (hm : N + 12 ≤ c') => by omega)
   replace y0d := OwS.fr y0d F52 (fun c' hc (hm : N + 12 ≤ c') => by omega)
   replace y14 := OwS.fr y14 F52 (fun c' hc (hm : N + 12 ≤ c') => by omega)
   replace hF := hF.trans F52 (fun c' (hm : N + 12 ≤ c') => by (try dsimp only); omega)
   refine y00 S51 Z Z Z (y2t S51 Z Z rfl hb32) fun a54 S54 => hk _ _ ?_
   exact ⟨g52, S54.re ⟨rfl, rfl, rfl, (by rw [← e53]; rfl), trivial⟩, hb0, y2v, y0c, y1o, y0d, y14, hF⟩
 rintro a55 w41 ⟨g41, S55, hb0, y2v, y0c, y1o, y0d, y14, hF⟩
 refine wpList_nil (hK _ _ ?_)
 replace hS : Sl 128 _ [(0, .pointer (so b_p0)), (1, i6 p1), (2, .int .u64 p2), (30, .bool t39)] := S55.re ⟨Z, Z, Z, Z, trivial⟩
 clear hK K
 try clear S3 S4 S5 S30 S31 S55
 generalize a55 = a at hS ⊢
 refine y2m hS Z (fun hb56 => ?_) (fun hb56 => ?_)
 ·replace H := y3f hb56 H
  refine y16 [(6, .slice none 0 0), (7, i6 1)] (fun R hR => y00 hS Z Z Z (y02 hS Z Z) fun a57 S57 => y00 S57 Z Z Z (y02 S57 Z Z) fun a58 S58 => wpList_nil (hR _ (S58.re ⟨Z, Z, trivial⟩))) ?_
  clear hS a; intro a hS
  refine wp_ret ?_
  have e := Option.some.inj H
  subst e
  repeat (with_reducible first | refine y1i ?_ | refine y0o ?_)
  exact y4d hS Try.results53 Z rfl ⟨_, rfl, g41, none, 0, rfl, ⟨hb0, y2v, y0c, y1o, y14, y0d⟩, OwS.nil y18 47 w41 g41 r0, hF⟩
 ·replace H := y3g hb56 H
  refine wp_skip ?_
  change Code.wp _ _ _ _ _
  refine y0t (fun K hK => ?_)
  refine y00 hS Z Z Z (y03 hS Z Z) fun a59 S59 => y00 S59 Z Z Z (y03 S59 Z Z) fun a60 S60 => y00 S60 Z Z Z (y4s S60 Z Z) fun a61 S61 => y00 S61 Z Z Z (y1e (off := 5) S61 Z Z (by kernel_rfl)) fun a62 S62 => ?_
  refine y3s S62 Z Z (y4a (n := 1) (bb := false) (cs' := [.slice y2o p0.D.length y1l, .slice y0x p0.Links.length y0m, .slice y24 p0.On.length y1d, .slice y1m p0.Use.length y0y, .slice y0z p0.Since.length y0n, .int .u64 p2]) g41 S62 Z Z Z (by kernel_rfl) Z Z rfl hb0 Z Z) ?_
  rintro a63 w64 g64 ⟨hb0, F64⟩ S63
  replace y2v := RdS.fr y2v F64 (by decide) (fun q (hq : y2a q) (hm : q = c0) => by have := y33 q hq; omega)
  replace y0c := OwS.fr y0c F64 (fun c' hc (hm : c' = c0) => by omega)
  replace y1o := OwS.fr y1o F64 (fun c' hc (hm : c' = c0) => by omega)
  replace y0d := OwS.fr y0d F64 (fun c' hc (hm : c' = c0) => by omega)
  replace y14 := OwS.fr y14 F64 (fun c' hc (hm : c' = c0) => by omega)
  replace hF := hF.trans F64 (fun c' (hm : c' = c0) => by (try dsimp only); omega)
  refine wpList_nil (hK _ _ ?_)
  replace hS : Sl 128 _ [(0, .pointer (so b_p0)), (1, i6 p1), (2, .int .u64 p2)] := S63.re ⟨Z, Z, Z, trivial⟩
  clear hK K
  try clear S59 S60 S61 S62 S63
  generalize a63 = a at hS ⊢
  obtain ⟨r67, hr68, H⟩ := y0b H
  refine y0t (fun K hK => ?_)
  refine y00 hS Z Z Z (y03 hS Z Z) fun a65 S65 => y00 S65 Z Z Z (y03 S65 Z Z) fun a66 S66 => ?_
  refine y1y S66 Z Z Z (y2z S66 Z Z (by kernel_rfl)) (y15.calls (c0 := c0) (b_p0 := b_p0) (y2o := y2o) (y1l := y1l) (y2a := y2a) (y0x := y0x) (y0m := y0m) (y24 := y24) (y1d := y1d) (y1m := y1m) (y0y := y0y) (y0z := y0z) (y0n := y0n) (c1 := N + 0) (A1 := none) (cap1 := 0) (p0 := (y06.mk p0.D p0.Links p0.On p0.Use p0.Since p2)) (p1 := ([] : List y0e)) (p2 := p2) (g := g64) (N + 12) (N + 2) ⟨hb0, y2v, y0c, y1o, y14, y0d⟩ (by omega) (fun q (hq : y2a q) => by have := y33 q hq; omega) (OwS.nil y18 47 w64 g64 (N + 0)) (by omega) (fun q (hq : y2a q) => by have := y33 q hq; omega) (by omega) (by omega) (by omega) (by omega) hr68) ?_
  rintro _ a73 w74 ⟨g74, A69, cap70, rfl, ⟨hb0, y2v, y0c, y1o, y14, y0d⟩, h71, F74⟩ S73
  replace hF := hF.trans F74 (fun c' (hm : (c0 ≤ c' ∧ c' < c0 + 9) ∨ (N + 0 ≤ c' ∧ c' < N + 0 + 2) ∨ (N + 2 ≤ c' ∧ c' < N + 2 + 2) ∨ N + 12 ≤ c') => by (try dsimp only); omega)
  refine y00 S73 Z Z Z (y02 S73 Z Z) fun a75 S75 => wpList_nil (hK _ _ ?_)
  replace hS : Sl 128 _ [(0, .pointer (so b_p0)), (1, i6 p1), (2, .int .u64 p2), (8, .slice A69 r67.2.length cap70)] := S75.re ⟨Z, Z, Z, Z, trivial⟩
  clear hK K
  try clear S65 S66 S73 S75
  generalize a75 = a at hS ⊢
  obtain ⟨x81, hx82, H⟩ := y0b H
  refine y0t (fun K hK => ?_)
  refine y00 hS Z Z Z (y03 hS Z Z) fun a76 S76 => y00 S76 Z Z Z (y4s S76 Z Z) fun a77 S77 => y00 S77 Z Z Z (y1e (off := 3) S77 Z Z (by kernel_rfl)) fun a78 S78 => y00 S78 Z Z Z (y0u (n := 1) S78 Z Z (by kernel_rfl) (Bx.cell hb0 Z)) fun a79 S79 => y00 S79 Z Z Z (y03 S79 Z Z) fun a80 S80 => y00 S80 Z Z Z (y1j (e := 3) (sz := 1) (by_ := 8) S80 Z Z Z (by kernel_rfl) (RdS.some_ (OwS.rd y14) hx82) (y26 hx82) (y27 hx82)) fun a83 S83 => y00 S83 Z Z Z (y0u (n := 1) S83 Z Z (by kernel_rfl) (RdS.cell (i := p1) (sz := 1) (j := 0) (OwS.rd y14) hx82 Z)) fun a84 S84 => y00 S84 Z Z Z (y2l S84 Z Z rfl y4z) fun a85 S85 => y00 S85 Z Z Z (y1j (e := 3) (sz := 1) (by_ := 8) S85 Z Z Z (by kernel_rfl) (RdS.some_ (OwS.rd y14) hx82) (y26 hx82) (y27 hx82)) fun a86 S86 => ?_
  refine y3s S86 Z Z (y4l (n := 1) (bb := false) (kd := (kint .i64)) (j := 0) (x' := wi (x81 + 1)) (us := [i6 (wi (x81 + 1))]) g74 S86 Z Z Z Z (by kernel_rfl) Z Z (by intro v hv; simp only [List.mem_cons, List.not_mem_nil, or_false] at hv; rcases hv with rfl <;> rfl) y14 hx82 Z (fun _ _ cs hR => by rw [show cs = _ from hR]; rfl)) ?_
  rintro a87 w88 g88 ⟨y14, F88⟩ S87
  replace h71 := OwS.fr h71 F88 (fun c' hc (hm : c' = c0 + 5) => by omega)
  replace hb0 := hb0.fr F88 (fun (hm : c0 = c0 + 5) => by omega)
  replace y2v := RdS.fr y2v F88 (by decide) (fun q (hq : y2a q) (hm : q = c0 + 5) => by have := y33 q hq; omega)
  replace y0c := OwS.fr y0c F88 (fun c' hc (hm : c' = c0 + 5) => by omega)
  replace y1o := OwS.fr y1o F88 (fun c' hc (hm : c' = c0 + 5) => by omega)
  replace y0d := OwS.fr y0d F88 (fun c' hc (hm : c' = c0 + 5) => by omega)
  replace hF := hF.trans F88 (fun c' (hm : c' = c0 + 5) => by (try dsimp only); omega)
  replace hb0 : Bx w88 g88 (c0) b_p0 63 [.slice y2o r67.1.D.length y1l, .slice y0x r67.1.Links.length y0m, .slice y24 r67.1.On.length y1d, .slice y1m (upd r67.1.Use p1 (wi (x81 + 1))).length y0y, .slice y0z r67.1.Since.length y0n, .int .u64 r67.1.Clock] := by simpa only [y1w] using hb0
  refine wpList_nil (hK _ _ ?_)
  replace hS : Sl 128 _ [(0, .pointer (so b_p0)), (1, i6 p1), (2, .int .u64 p2), (8, .slice A69 r67.2.length cap70)] := S87.re ⟨Z, Z, Z, Z, trivial⟩
  clear hK K
  try clear S76 S77 S78 S79 S80 S83 S84 S85 S86 S87
  generalize a87 = a at hS ⊢
  obtain ⟨r92, hr93, H⟩ := y0b H
  refine c_draw (fun K hK => y4m (fun q => N + 12 ≤ q ∨ (N + 6 ≤ q ∧ q < N + 6 + 2)) g88 [] 17 (ba 0 17) (by kernel_rfl) Z Z (fun w98 hw98 => ?_))
  have F98 : Fr (fun _ => False) w88 g88 w98 g88 := by rw [hw98]; exact Fr.drew _ _ _
  replace h71 := OwS.fr h71 F98 (fun _ _ h => h)
  replace hb0 := hb0.fr F98 (fun h => h)
  replace y2v := RdS.fr y2v F98 (by decide) (fun _ _ h => h)
  replace y0c := OwS.fr y0c F98 (fun _ _ h => h)
  replace y1o := OwS.fr y1o F98 (fun _ _ h => h)
  replace y0d := OwS.fr y0d F98 (fun _ _ h => h)
  replace y14 := OwS.fr y14 F98 (fun _ _ h => h)
  replace hF := hF.trans F98 (fun _ h => h.elim)
  have hC : Fr (fun q => N + 12 ≤ q ∨ (N + 6 ≤ q ∧ q < N + 6 + 2)) w98 g88 w98 g88 := Fr.refl _ _ _
  refine y1b hS 0 (ba 1 16) Z Z Z Z (by kernel_rfl) (fun _ _ _ h => h) (fun _ => (y03 hS Z Z)) fun a99 S99 => y1b S99 1 (ba 2 15) Z Z Z Z (by kernel_rfl) (fun _ _ _ h => h) (fun _ => (y4s S99 Z Z)) fun a100 S100 => y1b S100 2 (ba 3 14) Z Z Z Z (by kernel_rfl) (fun _ _ _ h => h) (fun _ => (y1e (off := 0) S100 Z Z (by kernel_rfl))) fun a101 S101 => y3w S101 3 (ba 4 13) Z Z Z Z (by kernel_rfl) (fun _ _ _ h => h) ⟨_, hC⟩ (fun w' g' Fz => (y0u (n := 1) S101 Z Z (by kernel_rfl) (Bx.cell (hb0.fr Fz (fun (hm : N + 12 ≤ c0 ∨ (N + 6 ≤ c0 ∧ c0 < N + 6 + 2)) => by omega)) Z))) fun a102 S102 => y1b S102 4 (ba 5 12) Z Z Z Z (by kernel_rfl) (fun _ _ _ h => h) (fun _ => (y4x (e := 30) (sz := 3) (by_ := 40) S102 Z Z (by kernel_rfl))) fun a103 S103 => y1b S103 5 (ba 6 11) Z Z Z Z (by kernel_rfl) (fun _ _ _ h => h) (fun _ => (y03 S103 Z Z)) fun a104 S104 => y1b S104 6 (ba 7 10) Z Z Z Z (by kernel_rfl) (fun _ _ _ h => h) (fun _ => (y4s S104 Z Z)) fun a105 S105 => y1b S105 7 (ba 8 9) Z Z Z Z (by kernel_rfl) (fun _ _ _ h => h) (fun _ => (y1e (off := 1) S105 Z Z (by kernel_rfl))) fun a106 S106 => y3w S106 8 (ba 9 8) Z Z Z Z (by kernel_rfl) (fun _ _ _ h => h) ⟨_, hC⟩ (fun w' g' Fz => (y0u (n := 1) S106 Z Z (by kernel_rfl) (Bx.cell (hb0.fr Fz (fun (hm : N + 12 ≤ c0 ∨ (N + 6 ≤ c0 ∧ c0 < N + 6 + 2)) => by omega)) Z))) fun a107 S107 => y1b S107 9 (ba 10 7) Z Z Z Z (by kernel_rfl) (fun _ _ _ h => h) (fun _ => (y03 S107 Z Z)) fun a108 S108 => ?_
  refine d_one 10 (ba 11 6) Z (by kernel_rfl) (y43 S108 Z Z Z (e_lit (e := 3) (parts := [(0, i6 p1)]) (cs := [i6 p1]) (kint .i64) [p1] (N + 4) g88 S108 Z Z (fun _ => by kernel_rfl) Z (by decide) (Rows.cons (cs := [i6 p1]) rfl Rows.nil)) (fun _ _ g' hR _ => ⟨g', hC.trans hR.2 (fun _ h => h.elim)⟩) ?_)
  rintro _ a112 w113 g113 ⟨⟨A109, rfl, h110⟩, F113⟩ S112
  have hC113 := hC.trans F113 (fun _ h => h.elim)
  replace h71 := OwS.fr h71 F113 (fun _ _ h => h)
  replace hb0 := hb0.fr F113 (fun h => h)
  replace y2v := RdS.fr y2v F113 (by decide) (fun _ _ h => h)
  replace y0c := OwS.fr y0c F113 (fun _ _ h => h)
  replace y1o := OwS.fr y1o F113 (fun _ _ h => h)
  replace y0d := OwS.fr y0d F113 (fun _ _ h => h)
  replace y14 := OwS.fr y14 F113 (fun _ _ h => h)
  replace hF := hF.trans F113 (fun _ h => h.elim)
  refine d_one 11 (ba 12 5) Z (by kernel_rfl) (arm_call S112 Z Z Z (y2z S112 Z Z (by kernel_rfl)) (y4e.calls (C1 := (fun q => q = c0 + 1)) (C2 := (fun q => q = N + 4)) (p0 := (r67.1.D.length : Int)) (p1 := r67.1.Links) (p2 := [p1]) (g := g113) (N + 12) (N + 6) (OwD.rdf (fun _ _ _ _ _ _ h => h) y0c) (fun q (hq : q = c0 + 1) => by omega) (OwD.rdf (fun _ _ _ _ _ _ h => h) h110) (fun q (hq : q = N + 4) => by omega) (by omega) hr93) (fun _ _ ⟨g', _, _, _, _, Fz⟩ _ => ⟨g', hC113.trans Fz (fun c' (hm : (N + 6 ≤ c' ∧ c' < N + 6 + 2) ∨ N + 12 ≤ c') => by (try dsimp only); omega)⟩) ?_)
  rintro _ a118 w119 ⟨g119, A114, cap115, rfl, h116, F119⟩ S118
  have hC119 := hC113.trans F119 (fun c' (hm : (N + 6 ≤ c' ∧ c' < N + 6 + 2) ∨ N + 12 ≤ c') => by (try dsimp only); omega)
  replace h110 := OwS.fr h110 F119 (fun c' hc (hm : (N + 6 ≤ c' ∧ c' < N + 6 + 2) ∨ N + 12 ≤ c') => by omega)
  replace h71 := OwS.fr h71 F119 (fun c' hc (hm : (N + 6 ≤ c' ∧ c' < N + 6 + 2) ∨ N + 12 ≤ c') => by omega)
  replace hb0 := hb0.fr F119 (fun (hm : (N + 6 ≤ c0 ∧ c0 < N + 6 + 2) ∨ N + 12 ≤ c0) => by omega)
  replace y2v := RdS.fr y2v F119 (by decide) (fun q (hq : y2a q) (hm : (N + 6 ≤ q ∧ q < N + 6 + 2) ∨ N + 12 ≤ q) => by have := y33 q hq; omega)
  replace y0c := OwS.fr y0c F119 (fun c' hc (hm : (N + 6 ≤ c' ∧ c' < N + 6 + 2) ∨ N + 12 ≤ c') => by omega)
  replace y1o := OwS.fr y1o F119 (fun c' hc (hm : (N + 6 ≤ c' ∧ c' < N + 6 + 2) ∨ N + 12 ≤ c') => by omega)
  replace y0d := OwS.fr y0d F119 (fun c' hc (hm : (N + 6 ≤ c' ∧ c' < N + 6 + 2) ∨ N + 12 ≤ c') => by omega)
  replace y14 := OwS.fr y14 F119 (fun c' hc (hm : (N + 6 ≤ c' ∧ c' < N + 6 + 2) ∨ N + 12 ≤ c') => by omega)
  replace hF := hF.trans F119 (fun c' (hm : (N + 6 ≤ c' ∧ c' < N + 6 + 2) ∨ N + 12 ≤ c') => by (try dsimp only); omega)
  refine y1b S118 12 (ba 13 4) Z Z Z Z (by kernel_rfl) (fun _ _ _ h => h) (fun _ => (y03 S118 Z Z)) fun a120 S120 => y1b S120 13 (ba 14 3) Z Z Z Z (by kernel_rfl) (fun _ _ _ h => h) (fun _ => (y1z S120 Z Z Z)) fun a121 S121 => y1b S121 14 (ba 15 2) Z Z Z Z (by kernel_rfl) (fun _ _ _ h => h) (fun _ => (y1z S121 Z Z Z)) fun a122 S122 => y1b S122 15 (ba 16 1) Z Z Z Z (by kernel_rfl) (fun _ _ _ h => h) (fun _ => (y02 S122 Z Z)) fun a123 S123 => y1b S123 16 (ba 17 0) Z Z Z Z (by kernel_rfl) (fun _ _ _ h => h) (fun _ => (y02 S123 Z Z)) fun a124 S124 => y4v (by kernel_rfl) (hK _ _ ?_)
  replace hS : Sl 128 _ [(0, .pointer (so b_p0)), (2, .int .u64 p2), (8, .slice A69 r67.2.length cap70), (9, .slice A114 r92.1.length cap115)] := S124.re ⟨Z, Z, Z, Z, trivial⟩
  clear hK K hC
  try clear S99 S100 S101 S102 S103 S104 S105 S106 S107 S108 S112 S118 S120 S121 S122 S123 S124
  generalize a124 = a at hS ⊢
  obtain ⟨r125, hr126, H⟩ := y0b H
  refine c_draw (fun K hK => y4m (fun q => N + 12 ≤ q ∨ (N + 8 ≤ q ∧ q < N + 8 + 2)) g119 [] 15 (ba 0 15) (by kernel_rfl) Z Z (fun w131 hw131 => ?_))
  have F131 : Fr (fun _ => False) w119 g119 w131 g119 := by rw [hw131]; exact Fr.drew _ _ _
  replace h116 := OwS.fr h116 F131 (fun _ _ h => h)
  replace h71 := OwS.fr h71 F131 (fun _ _ h => h)
  replace hb0 := hb0.fr F131 (fun h => h)
  replace y2v := RdS.fr y2v F131 (by decide) (fun _ _ h => h)
  replace y0c := OwS.fr y0c F131 (fun _ _ h => h)
  replace y1o := OwS.fr y1o F131 (fun _ _ h => h)
  replace y0d := OwS.fr y0d F131 (fun _ _ h => h)
  replace y14 := OwS.fr y14 F131 (fun _ _ h => h)
  replace hF := hF.trans F131 (fun _ h => h.elim)
  have hC : Fr (fun q => N + 12 ≤ q ∨ (N + 8 ≤ q ∧ q < N + 8 + 2)) w131 g119 w131 g119 := Fr.refl _ _ _
  refine y1b hS 0 (ba 1 14) Z Z Z Z (by kernel_rfl) (fun _ _ _ h => h) (fun _ => (y03 hS Z Z)) fun a132 S132 => y1b S132 1 (ba 2 13) Z Z Z Z (by kernel_rfl) (fun _ _ _ h => h) (fun _ => (y4s S132 Z Z)) fun a133 S133 => y1b S133 2 (ba 3 12) Z Z Z Z (by kernel_rfl) (fun _ _ _ h => h) (fun _ => (y1e (off := 0) S133 Z Z (by kernel_rfl))) fun a134 S134 => y3w S134 3 (ba 4 11) Z Z Z Z (by kernel_rfl) (fun _ _ _ h => h) ⟨_, hC⟩ (fun w' g' Fz => (y0u (n := 1) S134 Z Z (by kernel_rfl) (Bx.cell (hb0.fr Fz (fun (hm : N + 12 ≤ c0 ∨ (N + 8 ≤ c0 ∧ c0 < N + 8 + 2)) => by omega)) Z))) fun a135 S135 => y1b S135 4 (ba 5 10) Z Z Z Z (by kernel_rfl) (fun _ _ _ h => h) (fun _ => (y4x (e := 30) (sz := 3) (by_ := 40) S135 Z Z (by kernel_rfl))) fun a136 S136 => y1b S136 5 (ba 6 9) Z Z Z Z (by kernel_rfl) (fun _ _ _ h => h) (fun _ => (y03 S136 Z Z)) fun a137 S137 => y1b S137 6 (ba 7 8) Z Z Z Z (by kernel_rfl) (fun _ _ _ h => h) (fun _ => (y4s S137 Z Z)) fun a138 S138 => y1b S138 7 (ba 8 7) Z Z Z Z (by kernel_rfl) (fun _ _ _ h => h) (fun _ => (y1e (off := 1) S138 Z Z (by kernel_rfl))) fun a139 S139 => y3w S139 8 (ba 9 6) Z Z Z Z (by kernel_rfl) (fun _ _ _ h => h) ⟨_, hC⟩ (fun w' g' Fz => (y0u (n := 1) S139 Z Z (by kernel_rfl) (Bx.cell (hb0.fr Fz (fun (hm : N + 12 ≤ c0 ∨ (N + 8 ≤ c0 ∧ c0 < N + 8 + 2)) => by omega)) Z))) fun a140 S140 => ?_
  refine d_one 9 (ba 10 5) Z (by kernel_rfl) (arm_call S140 Z Z Z (y2z S140 Z Z (by kernel_rfl)) (ref24_Order.calls (C1 := (fun q => q = c0 + 1)) (p0 := (r67.1.D.length : Int)) (p1 := r67.1.Links) (g := g119) (N + 12) (N + 8) (OwD.rdf (fun _ _ _ _ _ _ h => h) y0c) (fun q (hq : q = c0 + 1) => by omega) (by omega) hr126) (fun _ _ ⟨g', _, _, _, _, Fz⟩ _ => ⟨g', hC.trans Fz (fun c' (hm : (N + 8 ≤ c' ∧ c' < N + 8 + 2) ∨ N + 12 ≤ c') => by (try dsimp only); omega)⟩) ?_)
  rintro _ a145 w146 ⟨g146, A141, cap142, rfl, h143, F146⟩ S145
  have hC146 := hC.trans F146 (fun c' (hm : (N + 8 ≤ c' ∧ c' < N + 8 + 2) ∨ N + 12 ≤ c') => by (try dsimp only); omega)
  replace h116 := OwS.fr h116 F146 (fun c' hc (hm : (N + 8 ≤ c' ∧ c' < N + 8 + 2) ∨ N + 12 ≤ c') => by omega)
  replace h71 := OwS.fr h71 F146 (fun c' hc (hm : (N + 8 ≤ c' ∧ c' < N + 8 + 2) ∨ N + 12 ≤ c') => by omega)
  replace hb0 := hb0.fr F146 (fun (hm : (N + 8 ≤ c0 ∧ c0 < N + 8 + 2) ∨ N + 12 ≤ c0) => by omega)
  replace y2v := RdS.fr y2v F146 (by decide) (fun q (hq : y2a q) (hm : (N + 8 ≤ q ∧ q < N + 8 + 2) ∨ N + 12 ≤ q) => by have := y33 q hq; omega)
  replace y0c := OwS.fr y0c F146 (fun c' hc (hm : (N + 8 ≤ c' ∧ c' < N + 8 + 2) ∨ N + 12 ≤ c') => by omega)
  replace y1o := OwS.fr y1o F146 (fun c' hc (hm : (N + 8 ≤ c' ∧ c' < N + 8 + 2) ∨ N + 12 ≤ c') => by omega)
  replace y0d := OwS.fr y0d F146 (fun c' hc (hm : (N + 8 ≤ c' ∧ c' < N + 8 + 2) ∨ N + 12 ≤ c') => by omega)
  replace y14 := OwS.fr y14 F146 (fun c' hc (hm : (N + 8 ≤ c' ∧ c' < N + 8 + 2) ∨ N + 12 ≤ c') => by omega)
  replace hF := hF.trans F146 (fun c' (hm : (N + 8 ≤ c' ∧ c' < N + 8 + 2) ∨ N + 12 ≤ c') => by (try dsimp only); omega)
  refine y1b S145 10 (ba 11 4) Z Z Z Z (by kernel_rfl) (fun _ _ _ h => h) (fun _ => (y03 S145 Z Z)) fun a147 S147 => y1b S147 11 (ba 12 3) Z Z Z Z (by kernel_rfl) (fun _ _ _ h => h) (fun _ => (y1z S147 Z Z Z)) fun a148 S148 => y1b S148 12 (ba 13 2) Z Z Z Z (by kernel_rfl) (fun _ _ _ h => h) (fun _ => (y1z S148 Z Z Z)) fun a149 S149 => y1b S149 13 (ba 14 1) Z Z Z Z (by kernel_rfl) (fun _ _ _ h => h) (fun _ => (y02 S149 Z Z)) fun a150 S150 => y1b S150 14 (ba 15 0) Z Z Z Z (by kernel_rfl) (fun _ _ _ h => h) (fun _ => (y02 S150 Z Z)) fun a151 S151 => y4v (by kernel_rfl) (hK _ _ ?_)
  replace hS : Sl 128 _ [(0, .pointer (so b_p0)), (2, .int .u64 p2), (8, .slice A69 r67.2.length cap70), (9, .slice A114 r92.1.length cap115), (11, .slice A141 r125.1.length cap142)] := S151.re ⟨Z, Z, Z, Z, Z, trivial⟩
  clear hK K hC
  try clear S132 S133 S134 S135 S136 S137 S138 S139 S140 S145 S147 S148 S149 S150 S151
  generalize a151 = a at hS ⊢
  obtain ⟨v156, H, Hl158⟩ := y0b H
  refine y4u (fun a w152 => ∃ (g152 : Nat → Nat), ∃ (A153 : Option Addr), ∃ (cap154 : Nat), Sl 128 a [(8, .slice A153 v156.1.length cap154)] ∧ OwS y18 47 w152 g152 (N + 2) A153 cap154 v156.1 ∧ Bx w152 g152 (c0) b_p0 63 [.slice y2o v156.2.D.length y1l, .slice y0x v156.2.Links.length y0m, .slice y24 v156.2.On.length y1d, .slice y1m v156.2.Use.length y0y, .slice y0z v156.2.Since.length y0n, .int .u64 v156.2.Clock] ∧ RdS y0f w152 g152 y2a y2o y1l v156.2.D ∧ OwS y0r 67 w152 g152 (c0 + 1) y0x y0m v156.2.Links ∧ OwS y4p 4 w152 g152 (c0 + 3) y24 y1d v156.2.On ∧ OwS (kint .u64) 28 w152 g152 (c0 + 7) y0z y0n v156.2.Since ∧ OwS (kint .i64) 3 w152 g152 (c0 + 5) y1m y0y v156.2.Use ∧ Fr (fun q => (c0 ≤ q ∧ q < c0 + 9) ∨ (r0 ≤ q ∧ q < r0 + 2) ∨ N ≤ q) w g w152 g152) ?_ ?_
  ·refine y16 [(0, .pointer (so b_p0)), (2, .int .u64 p2), (8, .slice A69 r67.2.length cap70), (9, .slice A114 r92.1.length cap115), (11, .slice A141 r125.1.length cap142), (13, i6 0)] (fun R hR => y00 hS Z Z Z (y02 hS Z Z) fun a159 S159 => wpList_nil (hR _ (S159.re ⟨Z, Z, Z, Z, Z, Z, trivial⟩))) ?_
   clear hS a; intro a hS
   refine wp_block ?_
   refine wp_loop_ghost (fun kq => fun a w160 => ∃ (m0_0 : y06), ∃ (m0_1 : List y0e), ∃ (m0_2 : Int), ∃ (g160 : Nat → Nat), ∃ (A161 : Option Addr), ∃ (cap162 : Nat), y1s.l0 p2 r92 r125 kq m0_0 m0_1 m0_2 = some v156 ∧ Sl 128 a [(0, .pointer (so b_p0)), (2, .int .u64 p2), (8, .slice A161 m0_1.length cap162), (9, .slice A114 r92.1.length cap115), (11, .slice A141 r125.1.length cap142), (13, i6 m0_2)] ∧ OwS (kint .i64) 3 w160 g160 (N + 6) A114 cap115 r92.1 ∧ OwS (kint .i64) 3 w160 g160 (N + 8) A141 cap142 r125.1 ∧ OwS y18 47 w160 g160 (N + 2) A161 cap162 m0_1 ∧ Bx w160 g160 (c0) b_p0 63 [.slice y2o m0_0.D.length y1l, .slice y0x m0_0.Links.length y0m, .slice y24 m0_0.On.length y1d, .slice y1m m0_0.Use.length y0y, .slice y0z m0_0.Since.length y0n, .int .u64 m0_0.Clock] ∧ RdS y0f w160 g160 y2a y2o y1l m0_0.D ∧ OwS y0r 67 w160 g160 (c0 + 1) y0x y0m m0_0.Links ∧ OwS y4p 4 w160 g160 (c0 + 3) y24 y1d m0_0.On ∧ OwS (kint .u64) 28 w160 g160 (c0 + 7) y0z y0n m0_0.Since ∧ OwS (kint .i64) 3 w160 g160 (c0 + 5) y1m y0y m0_0.Use ∧ Fr (fun q => (c0 ≤ q ∧ q < c0 + 9) ∨ (r0 ≤ q ∧ q < r0 + 2) ∨ N ≤ q) w g w160 g160) FUEL ?_ ?_
   ·exact ⟨(y06.mk r67.1.D r67.1.Links r67.1.On (upd r67.1.Use p1 (wi (x81 + 1))) r67.1.Since r67.1.Clock), r67.2, 0, g146, A69, cap70, H, hS.re ⟨Z, Z, Z, Z, Z, Z, trivial⟩, h116, h143, h71, hb0, y2v, y0c, y1o, y0d, y14, hF⟩
   ·clear H
    clear y2v y0c y1o y14 y0d hb0 h71 h116 h143 hF
    clear hS
    rintro k164 a w160 ⟨m0_0, m0_1, m0_2, g160, A161, cap162, hpre0, hS, h116, h143, h163, hb0, y2v, y0c, y1o, y0d, y14, hF⟩
    have H := hpre0
    clear hpre0
    cases k164 with
    | zero => exact absurd H (by simp [y1s.l0])
    | succ k164 =>
     rw [y1s.l0] at H
     refine wp_seq ?_
     refine y16 [(0, .pointer (so b_p0)), (2, .int .u64 p2), (8, .slice A161 m0_1.length cap162), (9, .slice A114 r92.1.length cap115), (11, .slice A141 r125.1.length cap142), (13, i6 m0_2), (78, .bool (decide (m0_2 < (r125.1.length : Int))))] (fun R hR => y00 hS Z Z Z (y03 hS Z Z) fun a165 S165 => y00 S165 Z Z Z (y03 S165 Z Z) fun a166 S166 => y00 S166 Z Z Z (y4x (e := 3) (sz := 1) (by_ := 8) S166 Z Z (by kernel_rfl)) fun a167 S167 => y00 S167 Z Z Z (y2l S167 Z Z rfl y4t) fun a168 S168 => wpList_nil (hR _ (S168.re ⟨Z, Z, Z, Z, Z, Z, Z, trivial⟩))) ?_
     clear hS a; intro a hS
     refine y2m hS Z (fun hb169 => ?_) (fun hb169 => ?_)
     ·replace H := y3f hb169 H
      refine wp_skip ?_
      change Code.wp _ _ _ _ _
      obtain ⟨v174, H, Hl176⟩ := y0b H
      refine y4u (fun a w170 => ∃ (g170 : Nat → Nat), ∃ (A171 : Option Addr), ∃ (cap172 : Nat), Sl 128 a [(0, .pointer (so b_p0)), (2, .int .u64 p2), (8, .slice A171 v174.2.length cap172), (9, .slice A114 r92.1.length cap115), (11, .slice A141 r125.1.length cap142), (13, i6 m0_2)] ∧ OwS (kint .i64) 3 w170 g170 (N + 6) A114 cap115 r92.1 ∧ OwS (kint .i64) 3 w170 g170 (N + 8) A141 cap142 r125.1 ∧ OwS y18 47 w170 g170 (N + 2) A171 cap172 v174.2 ∧ Bx w170 g170 (c0) b_p0 63 [.slice y2o v174.1.D.length y1l, .slice y0x v174.1.Links.length y0m, .slice y24 v174.1.On.length y1d, .slice y1m v174.1.Use.length y0y, .slice y0z v174.1.Since.length y0n, .int .u64 v174.1.Clock] ∧ RdS y0f w170 g170 y2a y2o y1l v174.1.D ∧ OwS y0r 67 w170 g170 (c0 + 1) y0x y0m v174.1.Links ∧ OwS y4p 4 w170 g170 (c0 + 3) y24 y1d v174.1.On ∧ OwS (kint .u64) 28 w170 g170 (c0 + 7) y0z y0n v174.1.Since ∧ OwS (kint .i64) 3 w170 g170 (c0 + 5) y1m y0y v174.1.Use ∧ Fr (fun q => (c0 ≤ q ∧ q < c0 + 9) ∨ (r0 ≤ q ∧ q < r0 + 2) ∨ N ≤ q) w g w170 g170) ?_ ?_
      ·refine wp_block ?_
       refine y16 [(0, .pointer (so b_p0)), (2, .int .u64 p2), (8, .slice A161 m0_1.length cap162), (9, .slice A114 r92.1.length cap115), (11, .slice A141 r125.1.length cap142), (13, i6 m0_2), (14, i6 0)] (fun R hR => y00 hS Z Z Z (y02 hS Z Z) fun a177 S177 => wpList_nil (hR _ (S177.re ⟨Z, Z, Z, Z, Z, Z, Z, trivial⟩))) ?_
       clear hS a; intro a hS
       refine wp_block ?_
       refine wp_loop_ghost (fun kq => fun a w178 => ∃ (m1_0 : y06), ∃ (m1_1 : List y0e), ∃ (m1_2 : Int), ∃ (g178 : Nat → Nat), ∃ (A179 : Option Addr), ∃ (cap180 : Nat), y1s.l1 p2 r92 r125 m0_2 kq m1_0 m1_1 m1_2 = some v174 ∧ Sl 128 a [(0, .pointer (so b_p0)), (2, .int .u64 p2), (8, .slice A179 m1_1.length cap180), (9, .slice A114 r92.1.length cap115), (11, .slice A141 r125.1.length cap142), (13, i6 m0_2), (14, i6 m1_2)] ∧ OwS (kint .i64) 3 w178 g178 (N + 6) A114 cap115 r92.1 ∧ OwS (kint .i64) 3 w178 g178 (N + 8) A141 cap142 r125.1 ∧ OwS y18 47 w178 g178 (N + 2) A179 cap180 m1_1 ∧ Bx w178 g178 (c0) b_p0 63 [.slice y2o m1_0.D.length y1l, .slice y0x m1_0.Links.length y0m, .slice y24 m1_0.On.length y1d, .slice y1m m1_0.Use.length y0y, .slice y0z m1_0.Since.length y0n, .int .u64 m1_0.Clock] ∧ RdS y0f w178 g178 y2a y2o y1l m1_0.D ∧ OwS y0r 67 w178 g178 (c0 + 1) y0x y0m m1_0.Links ∧ OwS y4p 4 w178 g178 (c0 + 3) y24 y1d m1_0.On ∧ OwS (kint .u64) 28 w178 g178 (c0 + 7) y0z y0n m1_0.Since ∧ OwS (kint .i64) 3 w178 g178 (c0 + 5) y1m y0y m1_0.Use ∧ Fr (fun q => (c0 ≤ q ∧ q < c0 + 9) ∨ (r0 ≤ q ∧ q < r0 + 2) ∨ N ≤ q) w g w178 g178) FUEL ?_ ?_
       ·exact ⟨m0_0, m0_1, 0, g160, A161, cap162, H, hS.re ⟨Z, Z, Z, Z, Z, Z, Z, trivial⟩, h116, h143, h163, hb0, y2v, y0c, y1o, y0d, y14, hF⟩
       ·clear H
        clear y2v y0c y1o y14 y0d hb0 h116 h143 h163 hF
        clear hS
        rintro k182 a w178 ⟨m1_0, m1_1, m1_2, g178, A179, cap180, hpre0, hS, h116, h143, h181, hb0, y2v, y0c, y1o, y0d, y14, hF⟩
        have H := hpre0
        clear hpre0
        cases k182 with
        | zero => exact absurd H (by simp [y1s.l1])
        | succ k182 =>
         rw [y1s.l1] at H
         refine wp_seq ?_
         refine y16 [(0, .pointer (so b_p0)), (2, .int .u64 p2), (8, .slice A179 m1_1.length cap180), (9, .slice A114 r92.1.length cap115), (11, .slice A141 r125.1.length cap142), (13, i6 m0_2), (14, i6 m1_2), (84, .bool (decide (m1_2 < (r92.1.length : Int))))] (fun R hR => y00 hS Z Z Z (y03 hS Z Z) fun a183 S183 => y00 S183 Z Z Z (y03 S183 Z Z) fun a184 S184 => y00 S184 Z Z Z (y4x (e := 3) (sz := 1) (by_ := 8) S184 Z Z (by kernel_rfl)) fun a185 S185 => y00 S185 Z Z Z (y2l S185 Z Z rfl y4t) fun a186 S186 => wpList_nil (hR _ (S186.re ⟨Z, Z, Z, Z, Z, Z, Z, Z, trivial⟩))) ?_
         clear hS a; intro a hS
         refine y2m hS Z (fun hb187 => ?_) (fun hb187 => ?_)
         ·replace H := y3f hb187 H
          refine wp_skip ?_
          change Code.wp _ _ _ _ _
          obtain ⟨v192, H, Hl194⟩ := y0b H
          refine y4u (fun a w188 => ∃ (g188 : Nat → Nat), ∃ (A189 : Option Addr), ∃ (cap190 : Nat), Sl 128 a [(0, .pointer (so b_p0)), (2, .int .u64 p2), (8, .slice A189 v192.2.length cap190), (9, .slice A114 r92.1.length cap115), (11, .slice A141 r125.1.length cap142), (13, i6 m0_2), (14, i6 m1_2)] ∧ OwS (kint .i64) 3 w188 g188 (N + 6) A114 cap115 r92.1 ∧ OwS (kint .i64) 3 w188 g188 (N + 8) A141 cap142 r125.1 ∧ OwS y18 47 w188 g188 (N + 2) A189 cap190 v192.2 ∧ Bx w188 g188 (c0) b_p0 63 [.slice y2o v192.1.D.length y1l, .slice y0x v192.1.Links.length y0m, .slice y24 v192.1.On.length y1d, .slice y1m v192.1.Use.length y0y, .slice y0z v192.1.Since.length y0n, .int .u64 v192.1.Clock] ∧ RdS y0f w188 g188 y2a y2o y1l v192.1.D ∧ OwS y0r 67 w188 g188 (c0 + 1) y0x y0m v192.1.Links ∧ OwS y4p 4 w188 g188 (c0 + 3) y24 y1d v192.1.On ∧ OwS (kint .u64) 28 w188 g188 (c0 + 7) y0z y0n v192.1.Since ∧ OwS (kint .i64) 3 w188 g188 (c0 + 5) y1m y0y v192.1.Use ∧ Fr (fun q => (c0 ≤ q ∧ q < c0 + 9) ∨ (r0 ≤ q ∧ q < r0 + 2) ∨ N ≤ q) w g w188 g188) ?_ ?_
          ·refine wp_block ?_
           obtain ⟨x198, hx199, H⟩ := y0b H
           obtain ⟨x204, hx205, H⟩ := y0b H
           obtain ⟨t224, ht225, H⟩ := y0b H
           refine c_draw (fun K hK => y4m (fun q => False) g178 [] 22 (ba 0 22) (by kernel_rfl) Z Z (fun w195 hw195 => ?_))
           have F195 : Fr (fun _ => False) w178 g178 w195 g178 := by rw [hw195]; exact Fr.drew _ _ _
           replace h116 := OwS.fr h116 F195 (fun _ _ h => h)
           replace h143 := OwS.fr h143 F195 (fun _ _ h => h)
           replace h181 := OwS.fr h181 F195 (fun _ _ h => h)
           replace hb0 := hb0.fr F195 (fun h => h)
           replace y2v := RdS.fr y2v F195 (by decide) (fun _ _ h => h)
           replace y0c := OwS.fr y0c F195 (fun _ _ h => h)
           replace y1o := OwS.fr y1o F195 (fun _ _ h => h)
           replace y0d := OwS.fr y0d F195 (fun _ _ h => h)
           replace y14 := OwS.fr y14 F195 (fun _ _ h => h)
           replace hF := hF.trans F195 (fun _ h => h.elim)
           have hC : Fr (fun q => False) w195 g178 w195 g178 := Fr.refl _ _ _
           refine y1b hS 0 (ba 1 21) Z Z Z Z (by kernel_rfl) (fun _ _ _ h => h) (fun _ => (y03 hS Z Z)) fun a196 S196 => y1b S196 1 (ba 2 20) Z Z Z Z (by kernel_rfl) (fun _ _ _ h => h) (fun _ => (y03 S196 Z Z)) fun a197 S197 => y1b S197 2 (ba 3 19) Z Z Z Z (by kernel_rfl) (fun _ _ _ h => h) (fun _ => (y1j (e := 3) (sz := 1) (by_ := 8) S197 Z Z Z (by kernel_rfl) (RdS.some_ (OwS.rd h116) hx199) (y26 hx199) (y27 hx199))) fun a200 S200 => y3w S200 3 (ba 4 18) Z Z Z Z (by kernel_rfl) (fun _ _ _ h => h) ⟨_, hC⟩ (fun w' g' Fz => (y0u (n := 1) S200 Z Z (by kernel_rfl) (RdS.cell (i := m1_2) (sz := 1) (j := 0) (OwS.rd (OwS.fr h116 Fz (fun _ _ h => h))) hx199 Z))) fun a201 S201 => y1b S201 4 (ba 5 17) Z Z Z Z (by kernel_rfl) (fun _ _ _ h => h) (fun _ => (y03 S201 Z Z)) fun a202 S202 => y1b S202 5 (ba 6 16) Z Z Z Z (by kernel_rfl) (fun _ _ _ h => h) (fun _ => (y03 S202 Z Z)) fun a203 S203 => y1b S203 6 (ba 7 15) Z Z Z Z (by kernel_rfl) (fun _ _ _ h => h) (fun _ => (y1j (e := 3) (sz := 1) (by_ := 8) S203 Z Z Z (by kernel_rfl) (RdS.some_ (OwS.rd h143) hx205) (y26 hx205) (y27 hx205))) fun a206 S206 => y3w S206 7 (ba 8 14) Z Z Z Z (by kernel_rfl) (fun _ _ _ h => h) ⟨_, hC⟩ (fun w' g' Fz => (y0u (n := 1) S206 Z Z (by kernel_rfl) (RdS.cell (i := m0_2) (sz := 1) (j := 0) (OwS.rd (OwS.fr h143 Fz (fun _ _ h => h))) hx205 Z))) fun a207 S207 => y1b S207 8 (ba 9 13) Z Z Z Z (by kernel_rfl) (fun _ _ _ h => h) (fun _ => (y2l S207 Z Z rfl b_eql)) fun a208 S208 => y1b S208 9 (ba 10 12) Z Z Z Z (by kernel_rfl) (fun _ _ _ h => h) (fun _ => (y03 S208 Z Z)) fun a209 S209 => ?_
           refine d_join (N := 128) 0 (ba 22 0) [(0, .pointer (so b_p0)), (2, .int .u64 p2), (8, .slice A179 m1_1.length cap180), (9, .slice A114 r92.1.length cap115), (11, .slice A141 r125.1.length cap142), (13, i6 m0_2), (14, i6 m1_2), (108, .bool t224)] ?_ (fun hk => ?_)
           rotate_left
           ·rcases Bool.eq_false_or_eq_true ((x198 == x204)) with hb210 | hb210
            ·have H := y3f hb210 ht225
             obtain ⟨x234, hx235, H⟩ := y0b H
             have e239 := Option.some.inj H
             refine y30 S209 10 (ba 11 11) Z (y0a S209 Z Z rfl hb210) Z Z (by kernel_rfl) (fun _ _ _ h => h) (fun _ => (y03 S209 Z Z)) fun a226 S226 => y30 S226 11 (ba 12 10) Z (y0a S226 Z Z rfl hb210) Z Z (by kernel_rfl) (fun _ _ _ h => h) (fun _ => (y4s S226 Z Z)) fun a227 S227 => y30 S227 12 (ba 13 9) Z (y0a S227 Z Z rfl hb210) Z Z (by kernel_rfl) (fun _ _ _ h => h) (fun _ => (y1e (off := 2) S227 Z Z (by kernel_rfl))) fun a228 S228 => d_takeW S228 13 (ba 14 8) Z (y0a S228 Z Z rfl hb210) Z Z (by kernel_rfl) (fun _ _ _ h => h) ⟨_, hC⟩ (fun w' g' Fz => (y0u (n := 1) S228 Z Z (by kernel_rfl) (Bx.cell (hb0.fr Fz (fun h => h)) Z))) fun a229 S229 => y30 S229 14 (ba 15 7) Z (y0a S229 Z Z rfl hb210) Z Z (by kernel_rfl) (fun _ _ _ h => h) (fun _ => (y03 S229 Z Z)) fun a230 S230 => y30 S230 15 (ba 16 6) Z (y0a S230 Z Z rfl hb210) Z Z (by kernel_rfl) (fun _ _ _ h => h) (fun _ => (y03 S230 Z Z)) fun a231 S231 => y30 S231 16 (ba 17 5) Z (y0a S231 Z Z rfl hb210) Z Z (by kernel_rfl) (fun _ _ _ h => h) (fun _ => (y1j (e := 3) (sz := 1) (by_ := 8) S231 Z Z Z (by kernel_rfl) (RdS.some_ (OwS.rd h143) hx205) (y26 hx205) (y27 hx205))) fun a232 S232 => d_takeW S232 17 (ba 18 4) Z (y0a S232 Z Z rfl hb210) Z Z (by kernel_rfl) (fun _ _ _ h => h) ⟨_, hC⟩ (fun w' g' Fz => (y0u (n := 1) S232 Z Z (by kernel_rfl) (RdS.cell (i := m0_2) (sz := 1) (j := 0) (OwS.rd (OwS.fr h143 Fz (fun _ _ h => h))) hx205 Z))) fun a233 S233 => y30 S233 18 (ba 19 3) Z (y0a S233 Z Z rfl hb210) Z Z (by kernel_rfl) (fun _ _ _ h => h) (fun _ => (y1j (e := 4) (sz := 1) (by_ := 1) S233 Z Z Z (by kernel_rfl) (RdS.some_ (OwS.rd y1o) hx235) (y26 hx235) (y27 hx235))) fun a236 S236 => d_takeW S236 19 (ba 20 2) Z (y0a S236 Z Z rfl hb210) Z Z (by kernel_rfl) (fun _ _ _ h => h) ⟨_, hC⟩ (fun w' g' Fz => (y0u (n := 1) S236 Z Z (by kernel_rfl) (RdS.cell (i := x204) (sz := 1) (j := 0) (OwS.rd (OwS.fr y1o Fz (fun _ _ h => h))) hx235 Z))) fun a237 S237 => y30 S237 20 (ba 21 1) Z (y0a S237 Z Z rfl hb210) Z Z (by kernel_rfl) (fun _ _ _ h => h) (fun _ => (r_not S237 Z Z)) fun a238 S238 => y1b S238 21 (ba 22 0) Z Z Z Z (by kernel_rfl) (fun _ _ _ h => h) (fun _ => (y2s S238 Z Z rfl hb210)) fun a240 S240 => hk _ (S240.re ⟨rfl, rfl, rfl, rfl, rfl, rfl, rfl, (by rw [← e239]; rfl), trivial⟩)
            ·have H := y3g hb210 ht225
             have e241 := Option.some.inj H
             refine y48 S209 10 (ba 11 11) Z (y05 S209 Z Z rfl hb210) Z Z (by kernel_rfl) (fun _ _ _ h => h) fun a242 S242 => y48 S242 11 (ba 12 10) Z (y05 S242 Z Z rfl hb210) Z Z (by kernel_rfl) (fun _ _ _ h => h) fun a243 S243 => y48 S243 12 (ba 13 9) Z (y05 S243 Z Z rfl hb210) Z Z (by kernel_rfl) (fun _ _ _ h => h) fun a244 S244 => y48 S244 13 (ba 14 8) Z (y05 S244 Z Z rfl hb210) Z Z (by kernel_rfl) (fun _ _ _ h => h) fun a245 S245 => y48 S245 14 (ba 15 7) Z (y05 S245 Z Z rfl hb210) Z Z (by kernel_rfl) (fun _ _ _ h => h) fun a246 S246 => y48 S246 15 (ba 16 6) Z (y05 S246 Z Z rfl hb210) Z Z (by kernel_rfl) (fun _ _ _ h => h) fun a247 S247 => y48 S247 16 (ba 17 5) Z (y05 S247 Z Z rfl hb210) Z Z (by kernel_rfl) (fun _ _ _ h => h) fun a248 S248 => y48 S248 17 (ba 18 4) Z (y05 S248 Z Z rfl hb210) Z Z (by kernel_rfl) (fun _ _ _ h => h) fun a249 S249 => y48 S249 18 (ba 19 3) Z (y05 S249 Z Z rfl hb210) Z Z (by kernel_rfl) (fun _ _ _ h => h) fun a250 S250 => y48 S250 19 (ba 20 2) Z (y05 S250 Z Z rfl hb210) Z Z (by kernel_rfl) (fun _ _ _ h => h) fun a251 S251 => y48 S251 20 (ba 21 1) Z (y05 S251 Z Z rfl hb210) Z Z (by kernel_rfl) (fun _ _ _ h => h) fun a252 S252 => y1b S252 21 (ba 22 0) Z Z Z Z (by kernel_rfl) (fun _ _ _ h => h) (fun _ => (y2t S252 Z Z rfl hb210)) fun a253 S253 => hk _ (S253.re ⟨rfl, rfl, rfl, rfl, rfl, rfl, rfl, (by rw [← e241]; rfl), trivial⟩)
           intro a254 S254
           refine y4v (by kernel_rfl) (hK _ _ ?_)
           replace hS : Sl 128 _ [(0, .pointer (so b_p0)), (2, .int .u64 p2), (8, .slice A179 m1_1.length cap180), (9, .slice A114 r92.1.length cap115), (11, .slice A141 r125.1.length cap142), (13, i6 m0_2), (14, i6 m1_2), (108, .bool t224)] := S254.re ⟨Z, Z, Z, Z, Z, Z, Z, Z, trivial⟩
           clear hK K hC
           try clear S196 S197 S200 S201 S202 S203 S206 S207 S208 S209 S254
           generalize a254 = a at hS ⊢
           refine y2m hS Z (fun hb255 => ?_) (fun hb255 => ?_)
           ·replace H := y3f hb255 H
            obtain ⟨x256, hx257, H⟩ := y0b H
            refine c_draw (fun K hK => y4m (fun q => False) g178 [9] 10 (ba 0 10) (by kernel_rfl) Z Z (fun w258 hw258 => ?_))
            have F258 : Fr (fun _ => False) w195 g178 w258 g178 := by rw [hw258]; exact Fr.drew _ _ _
            replace h116 := OwS.fr h116 F258 (fun _ _ h => h)
            replace h143 := OwS.fr h143 F258 (fun _ _ h => h)
            replace h181 := OwS.fr h181 F258 (fun _ _ h => h)
            replace hb0 := hb0.fr F258 (fun h => h)
            replace y2v := RdS.fr y2v F258 (by decide) (fun _ _ h => h)
            replace y0c := OwS.fr y0c F258 (fun _ _ h => h)
            replace y1o := OwS.fr y1o F258 (fun _ _ h => h)
            replace y0d := OwS.fr y0d F258 (fun _ _ h => h)
            replace y14 := OwS.fr y14 F258 (fun _ _ h => h)
            replace hF := hF.trans F258 (fun _ h => h.elim)
            have hC : Fr (fun q => False) w258 g178 w258 g178 := Fr.refl _ _ _
            refine y1b hS 0 (ba 1 9) Z Z Z Z (by kernel_rfl) (fun _ _ _ h => h) (fun _ => (y03 hS Z Z)) fun a259 S259 => y1b S259 1 (ba 2 8) Z Z Z Z (by kernel_rfl) (fun _ _ _ h => h) (fun _ => (y4s S259 Z Z)) fun a260 S260 => y1b S260 2 (ba 3 7) Z Z Z Z (by kernel_rfl) (fun _ _ _ h => h) (fun _ => (y1e (off := 2) S260 Z Z (by kernel_rfl))) fun a261 S261 => y3w S261 3 (ba 4 6) Z Z Z Z (by kernel_rfl) (fun _ _ _ h => h) ⟨_, hC⟩ (fun w' g' Fz => (y0u (n := 1) S261 Z Z (by kernel_rfl) (Bx.cell (hb0.fr Fz (fun h => h)) Z))) fun a262 S262 => y1b S262 4 (ba 5 5) Z Z Z Z (by kernel_rfl) (fun _ _ _ h => h) (fun _ => (y03 S262 Z Z)) fun a263 S263 => y1b S263 5 (ba 6 4) Z Z Z Z (by kernel_rfl) (fun _ _ _ h => h) (fun _ => (y03 S263 Z Z)) fun a264 S264 => y1b S264 6 (ba 7 3) Z Z Z Z (by kernel_rfl) (fun _ _ _ h => h) (fun _ => (y1j (e := 3) (sz := 1) (by_ := 8) S264 Z Z Z (by kernel_rfl) (RdS.some_ (OwS.rd h143) hx205) (y26 hx205) (y27 hx205))) fun a265 S265 => y3w S265 7 (ba 8 2) Z Z Z Z (by kernel_rfl) (fun _ _ _ h => h) ⟨_, hC⟩ (fun w' g' Fz => (y0u (n := 1) S265 Z Z (by kernel_rfl) (RdS.cell (i := m0_2) (sz := 1) (j := 0) (OwS.rd (OwS.fr h143 Fz (fun _ _ h => h))) hx205 Z))) fun a266 S266 => y1b S266 8 (ba 9 1) Z Z Z Z (by kernel_rfl) (fun _ _ _ h => h) (fun _ => (y1j (e := 4) (sz := 1) (by_ := 1) S266 Z Z Z (by kernel_rfl) (RdS.some_ (OwS.rd y1o) hx257) (y26 hx257) (y27 hx257))) fun a267 S267 => ?_
            refine d_one 9 (ba 10 0) Z (by kernel_rfl) (arm_effS S267 Z Z (y4l (n := 1) (bb := false) (kd := y4p) (j := 0) (x' := true) (us := [.bool true]) g178 S267 Z Z Z Z (by kernel_rfl) Z Z (by intro v hv; simp only [List.mem_cons, List.not_mem_nil, or_false] at hv; rcases hv with rfl <;> rfl) y1o hx257 Z (fun _ _ cs hR => by rw [show cs = _ from hR]; rfl)) (.inl (by decide)) ?_)
            rintro a268 w269 g269 ⟨y1o, F269⟩ S268
            replace h116 := OwS.fr h116 F269 (fun c' hc (hm : c' = c0 + 3) => by omega)
            replace h143 := OwS.fr h143 F269 (fun c' hc (hm : c' = c0 + 3) => by omega)
            replace h181 := OwS.fr h181 F269 (fun c' hc (hm : c' = c0 + 3) => by omega)
            replace hb0 := hb0.fr F269 (fun (hm : c0 = c0 + 3) => by omega)
            replace y2v := RdS.fr y2v F269 (by decide) (fun q (hq : y2a q) (hm : q = c0 + 3) => by have := y33 q hq; omega)
            replace y0c := OwS.fr y0c F269 (fun c' hc (hm : c' = c0 + 3) => by omega)
            replace y0d := OwS.fr y0d F269 (fun c' hc (hm : c' = c0 + 3) => by omega)
            replace y14 := OwS.fr y14 F269 (fun c' hc (hm : c' = c0 + 3) => by omega)
            replace hF := hF.trans F269 (fun c' (hm : c' = c0 + 3) => by (try dsimp only); omega)
            replace hb0 : Bx w269 g269 (c0) b_p0 63 [.slice y2o m1_0.D.length y1l, .slice y0x m1_0.Links.length y0m, .slice y24 (upd m1_0.On x204 true).length y1d, .slice y1m m1_0.Use.length y0y, .slice y0z m1_0.Since.length y0n, .int .u64 m1_0.Clock] := by simpa only [y1w] using hb0
            refine y4v (by kernel_rfl) (hK _ _ ?_)
            replace hS : Sl 128 _ [(0, .pointer (so b_p0)), (2, .int .u64 p2), (8, .slice A179 m1_1.length cap180), (9, .slice A114 r92.1.length cap115), (11, .slice A141 r125.1.length cap142), (13, i6 m0_2), (14, i6 m1_2)] := S268.re ⟨Z, Z, Z, Z, Z, Z, Z, trivial⟩
            clear hK K hC
            try clear S259 S260 S261 S262 S263 S264 S265 S266 S267 S268
            generalize a268 = a at hS ⊢
            obtain ⟨y282, hy283, H⟩ := y0b H
            refine y3l (fun K hK => ?_)
            refine y00 hS Z Z Z (y03 hS Z Z) fun a270 S270 => y00 S270 Z Z Z (y03 S270 Z Z) fun a271 S271 => y00 S271 Z Z Z (y03 S271 Z Z) fun a272 S272 => y00 S272 Z Z Z (y1j (e := 3) (sz := 1) (by_ := 8) S272 Z Z Z (by kernel_rfl) (RdS.some_ (OwS.rd h143) hx205) (y26 hx205) (y27 hx205)) fun a273 S273 => y00 S273 Z Z Z (y0u (n := 1) S273 Z Z (by kernel_rfl) (RdS.cell (i := m0_2) (sz := 1) (j := 0) (OwS.rd h143) hx205 Z)) fun a274 S274 => y00 S274 Z Z Z (y03 S274 Z Z) fun a275 S275 => y00 S275 Z Z Z (r_build (parts := [(0, i6 x204), (1, .bool true), (2, .int .u64 p2)]) (u := .agg #[i6 x204, .bool true, .int .u64 p2]) S275 Z Z (fun _ => by kernel_rfl)) fun a276 S276 => ?_
            refine y41 S276 Z Z Z (e_lit (e := 47) (parts := [(0, .agg #[i6 x204, .bool true, .int .u64 p2])]) (cs := [i6 x204, .bool true, .int .u64 p2]) y18 [(y0e.mk x204 true p2)] (N + 10) g269 S276 Z Z (fun _ => by kernel_rfl) Z (by decide) (Rows.cons (cs := [i6 x204, .bool true, .int .u64 p2]) rfl Rows.nil)) ?_
            rintro _ a280 w281 g281 ⟨⟨A277, rfl, h278⟩, F281⟩ S280
            replace h116 := OwS.fr h116 F281 (fun _ _ h => h)
            replace h143 := OwS.fr h143 F281 (fun _ _ h => h)
            replace h181 := OwS.fr h181 F281 (fun _ _ h => h)
            replace hb0 := hb0.fr F281 (fun h => h)
            replace y2v := RdS.fr y2v F281 (by decide) (fun _ _ h => h)
            replace y0c := OwS.fr y0c F281 (fun _ _ h => h)
            replace y1o := OwS.fr y1o F281 (fun _ _ h => h)
            replace y0d := OwS.fr y0d F281 (fun _ _ h => h)
            replace y14 := OwS.fr y14 F281 (fun _ _ h => h)
            replace hF := hF.trans F281 (fun _ h => h.elim)
            refine y41 S280 Z Z Z (y4g (e := 47) (sz := 3) (by_ := 24) (z := [i6 0, .bool false, .int .u64 0]) (kd := y18) g281 S280 Z Z Z Z (by kernel_rfl) (by kernel_rfl) Z Z Z Z h181 (OwD.rdx h278) (fun _ _ _ h => h) hy283) ?_
            rintro _ a288 w289 g289 ⟨⟨A284, cap285, rfl, h286⟩, F289⟩ S288
            replace h116 := OwS.fr h116 F289 (fun c' hc (hm : c' = N + 2) => by omega)
            replace h143 := OwS.fr h143 F289 (fun c' hc (hm : c' = N + 2) => by omega)
            replace h278 := OwS.fr h278 F289 (fun c' hc (hm : c' = N + 2) => by omega)
            replace hb0 := hb0.fr F289 (fun (hm : c0 = N + 2) => by omega)
            replace y2v := RdS.fr y2v F289 (by decide) (fun q (hq : y2a q) (hm : q = N + 2) => by have := y33 q hq; omega)
            replace y0c := OwS.fr y0c F289 (fun c' hc (hm : c' = N + 2) => by omega)
            replace y1o := OwS.fr y1o F289 (fun c' hc (hm : c' = N + 2) => by omega)
            replace y0d := OwS.fr y0d F289 (fun c' hc (hm : c' = N + 2) => by omega)
            replace y14 := OwS.fr y14 F289 (fun c' hc (hm : c' = N + 2) => by omega)
            replace hF := hF.trans F289 (fun c' (hm : c' = N + 2) => by (try dsimp only); omega)
            refine y00 S288 Z Z Z (y02 S288 Z Z) fun a290 S290 => wpList_nil (hK _ _ ?_)
            replace hS : Sl 128 _ [(0, .pointer (so b_p0)), (2, .int .u64 p2), (8, .slice A284 y282.length cap285), (9, .slice A114 r92.1.length cap115), (11, .slice A141 r125.1.length cap142), (13, i6 m0_2), (14, i6 m1_2)] := S290.re ⟨Z, Z, Z, Z, Z, Z, Z, trivial⟩
            clear hK K
            try clear S270 S271 S272 S273 S274 S275 S276 S280 S288 S290
            generalize a290 = a at hS ⊢
            have e := Option.some.inj H
            subst e
            exact ⟨g289, A284, cap285, hS.re ⟨Z, Z, Z, Z, Z, Z, Z, trivial⟩, h116, h143, h286, hb0, y2v, y0c, y1o, y0d, y14, hF⟩
           ·replace H := y3g hb255 H
            refine wp_skip ?_
            have e := Option.some.inj H
            subst e
            exact ⟨g178, A179, cap180, hS.re ⟨Z, Z, Z, Z, Z, Z, Z, trivial⟩, h116, h143, h181, hb0, y2v, y0c, y1o, y0d, y14, hF⟩
          ·clear H
           clear y2v y0c y1o y14 y0d hb0 h116 h143 h181 hF
           clear hS
           rintro a w188 ⟨g188, A189, cap190, hS, h116, h143, h191, hb0, y2v, y0c, y1o, y0d, y14, hF⟩
           have H := Hl194
           clear Hl194
           refine y3e [(0, .pointer (so b_p0)), (2, .int .u64 p2), (8, .slice A189 v192.2.length cap190), (9, .slice A114 r92.1.length cap115), (11, .slice A141 r125.1.length cap142), (13, i6 m0_2), (14, i6 (wi (m1_2 + 1)))] (fun R hR => y00 hS Z Z Z (y03 hS Z Z) fun a291 S291 => y00 S291 Z Z Z (y2l S291 Z Z rfl y4z) fun a292 S292 => y00 S292 Z Z Z (y02 S292 Z Z) fun a293 S293 => wpList_nil (hR _ (S293.re ⟨Z, Z, Z, Z, Z, Z, Z, trivial⟩))) ?_
           clear hS a; intro a hS
           refine ⟨k182, Nat.lt_succ_self _, ?_⟩
           exact ⟨v192.1, v192.2, wi (m1_2 + 1), g188, A189, cap190, H, hS.re ⟨Z, Z, Z, Z, Z, Z, Z, trivial⟩, h116, h143, h191, hb0, y2v, y0c, y1o, y0d, y14, hF⟩
         ·replace H := y3g hb187 H
          refine wp_exit ?_
          have e := Option.some.inj H
          subst e
          exact ⟨g178, A179, cap180, hS.re ⟨Z, Z, Z, Z, Z, Z, trivial⟩, h116, h143, h181, hb0, y2v, y0c, y1o, y0d, y14, hF⟩
      ·clear H
       clear y2v y0c y1o y14 y0d hb0 h116 h143 h163 hF
       clear hS
       rintro a w170 ⟨g170, A171, cap172, hS, h116, h143, h173, hb0, y2v, y0c, y1o, y0d, y14, hF⟩
       have H := Hl176
       clear Hl176
       refine y3e [(0, .pointer (so b_p0)), (2, .int .u64 p2), (8, .slice A171 v174.2.length cap172), (9, .slice A114 r92.1.length cap115), (11, .slice A141 r125.1.length cap142), (13, i6 (wi (m0_2 + 1)))] (fun R hR => y00 hS Z Z Z (y03 hS Z Z) fun a294 S294 => y00 S294 Z Z Z (y2l S294 Z Z rfl y4z) fun a295 S295 => y00 S295 Z Z Z (y02 S295 Z Z) fun a296 S296 => wpList_nil (hR _ (S296.re ⟨Z, Z, Z, Z, Z, Z, trivial⟩))) ?_
       clear hS a; intro a hS
       refine ⟨k164, Nat.lt_succ_self _, ?_⟩
       exact ⟨v174.1, v174.2, wi (m0_2 + 1), g170, A171, cap172, H, hS.re ⟨Z, Z, Z, Z, Z, Z, trivial⟩, h116, h143, h173, hb0, y2v, y0c, y1o, y0d, y14, hF⟩
     ·replace H := y3g hb169 H
      refine wp_exit ?_
      have e := Option.some.inj H
      subst e
      exact ⟨g160, A161, cap162, hS.re ⟨Z, trivial⟩, h163, hb0, y2v, y0c, y1o, y0d, y14, hF⟩
  ·clear H
   clear y2v y0c y1o y14 y0d hb0 h71 h116 h143 hF
   clear hS
   rintro a w152 ⟨g152, A153, cap154, hS, h155, hb0, y2v, y0c, y1o, y0d, y14, hF⟩
   have H := Hl158
   clear Hl158
   refine y16 [(6, .slice A153 v156.1.length cap154), (7, i6 0)] (fun R hR => y00 hS Z Z Z (y03 hS Z Z) fun a297 S297 => y00 S297 Z Z Z (y02 S297 Z Z) fun a298 S298 => y00 S298 Z Z Z (y02 S298 Z Z) fun a299 S299 => wpList_nil (hR _ (S299.re ⟨Z, Z, trivial⟩))) ?_
   clear hS a; intro a hS
   refine wp_ret ?_
   have e := Option.some.inj H
   subst e
   have F300 := Fr.y2f w152 g152 (N + 2) r0
   replace h155 := h155.y2f r0
   replace hb0 := hb0.fr F300 (fun (hm : c0 = N + 2 ∨ c0 = N + 2 + 1) => by omega)
   replace y2v := RdS.fr y2v F300 (by decide) (fun q (hq : y2a q) (hm : q = N + 2 ∨ q = N + 2 + 1) => by have := y33 q hq; omega)
   replace y0c := OwS.fr y0c F300 (fun c' hc (hm : c' = N + 2 ∨ c' = N + 2 + 1) => by omega)
   replace y1o := OwS.fr y1o F300 (fun c' hc (hm : c' = N + 2 ∨ c' = N + 2 + 1) => by omega)
   replace y0d := OwS.fr y0d F300 (fun c' hc (hm : c' = N + 2 ∨ c' = N + 2 + 1) => by omega)
   replace y14 := OwS.fr y14 F300 (fun c' hc (hm : c' = N + 2 ∨ c' = N + 2 + 1) => by omega)
   replace hF := hF.trans F300 (fun c' (hm : c' = N + 2 ∨ c' = N + 2 + 1) => by (try dsimp only); omega)
   repeat (with_reducible first | refine y1i ?_ | refine y0o ?_)
   exact y4d hS Try.results53 Z rfl ⟨_, rfl, (y2f g152 (N + 2) r0), A153, cap154, rfl, ⟨hb0, y2v, y0c, y1o, y14, y0d⟩, h155, hF⟩


end Go.Proofs.Ytcfcffbjdjacfaa.Sim

namespace Go.Proofs.Ytcfcffbjdjacfaa.Sim
open Go
set_option linter.unusedVariables false
set_option linter.unusedSimpArgs false

/-! ### y47: function 51 -/
def y47.f (p0 : y06) (p1 : Int) (p2 : Int) : Option (y06 × (List y0e) × Int) := (if ((decide (p1 < 0)) || (decide ((p0.D.length : Int) ≤ p1))) = true then some true else (y36.f p0 p2).bind fun r35 => some r35).bind fun t39 => if t39 = true then (some (p0, [], 1)) else ((idx p0.Use p1).bind fun x64 => if (x64 == 0) = true then (some (p0, [], 9)) else ((y15.f (y06.mk p0.D p0.Links p0.On p0.Use p0.Since p2) ([] : List y0e) p2).bind fun r80 => (idx r80.1.Use p1).bind fun x94 => ((y21.f (y06.mk r80.1.D r80.1.Links r80.1.On (upd r80.1.Use p1 (wi (x94 - 1))) r80.1.Since r80.1.Clock) p1).bind fun r108 => if r108 = true then ((idx r80.1.Since p1).bind fun x119 => some (y06.mk r80.1.D r80.1.Links r80.1.On (upd r80.1.Use p1 (wi (x94 - 1))) (upd r80.1.Since p1 p2) r80.1.Clock)) else (some (y06.mk r80.1.D r80.1.Links r80.1.On (upd r80.1.Use p1 (wi (x94 - 1))) r80.1.Since r80.1.Clock)) : Option (y06)).bind fun v103 => (y15.f v103 r80.2 p2).bind fun r127 => some (r127.1, r127.2, 0)))
set_option maxRecDepth 100000 in
set_option maxHeartbeats 4000000 in
theorem y47.calls {p0 : y06} {c0 : Nat} {y2a : Nat → Prop} {b_p0 : Nat} {y2o : Option Addr} {y1l : Nat} {y0x : Option Addr} {y0m : Nat} {y24 : Option Addr} {y1d : Nat} {y1m : Option Addr} {y0y : Nat} {y0z : Option Addr} {y0n : Nat} {p1 : Int} {p2 : Int} {w : World} {g : Nat → Nat} {out : y06 × (List y0e) × Int} (N : Nat) (r0 : Nat) (hp0 : y2q w g c0 y2a b_p0 y2o y1l y0x y0m y24 y1d y1m y0y y0z y0n p0) (hc0 : c0 + 9 ≤ N) (y33 : ∀ c, y2a c → c < N ∧ (c < c0 ∨ c0 + 9 ≤ c)) (hr0 : r0 + 2 ≤ N) (hq0_0 : r0 + 2 ≤ c0 ∨ c0 + 9 ≤ r0) (H : y47.f p0 p1 p2 = some out) :
  Calls Try.prog 51 #[.pointer (so b_p0), i6 p1, .int .u64 p2] w (fun e w' => ∃ v, e = .returned v ∧ ∃ (g' : Nat → Nat) (A_r0 : Option Addr) (cap_r0 : Nat), v = .tuple #[.slice A_r0 out.2.1.length cap_r0, i6 out.2.2] ∧ y2q w' g' c0 y2a b_p0 y2o y1l y0x y0m y24 y1d y1m y0y y0z y0n out.1 ∧ OwS y18 47 w' g' r0 A_r0 cap_r0 out.2.1 ∧ Fr (fun q => (c0 ≤ q ∧ q < c0 + 9) ∨ (r0 ≤ q ∧ q < r0 + 2) ∨ N ≤ q) w g w' g') := by
 unfold y47.f at H
 refine y1k Try.func51 rfl Try.ntmps51 Z (fun a hS => ?_)
 replace hS : Sl 63 a [(0, .pointer (so b_p0)), (1, i6 p1), (2, .int .u64 p2)] := hS
 have hF : Fr (fun q => (c0 ≤ q ∧ q < c0 + 9) ∨ (r0 ≤ q ∧ q < r0 + 2) ∨ N ≤ q) w g w g := Fr.refl _ _ _
 obtain ⟨hb0, y2v, y0c, y1o, y14, y0d⟩ := hp0
 refine y16 [(0, .pointer (so b_p0)), (1, i6 p1), (2, .int .u64 p2)] (fun R hR => y00 hS Z Z Z (y02 hS Z Z) fun a1 S1 => y00 S1 Z Z Z (y02 S1 Z Z) fun a2 S2 => wpList_nil (hR _ (S2.re ⟨Z, Z, Z, trivial⟩))) ?_
 clear hS a; intro a hS
 refine wp_seq ?_
 obtain ⟨t39, ht40, H⟩ := y0b H
 refine y0t (fun K hK => ?_)
 refine y00 hS Z Z Z (y03 hS Z Z) fun a3 S3 => y00 S3 Z Z Z (y2l S3 Z Z rfl y4t) fun a4 S4 => y00 S4 Z Z Z (y03 S4 Z Z) fun a5 S5 => ?_
 refine y4b (N := 63) 8 [(0, .pointer (so b_p0)), (1, i6 p1), (2, .int .u64 p2), (19, .bool ((decide (p1 < 0)) || (decide ((p0.D.length : Int) ≤ p1))))] ?_ (fun hk => ?_)
 rotate_left
 ·rcases Bool.eq_false_or_eq_true (decide (p1 < 0)) with hb6 | hb6
  ·refine y1c S5 (y05 S5 Z Z rfl hb6) Z Z fun a14 S14 => y1c S14 (y05 S14 Z Z rfl hb6) Z Z fun a15 S15 => y1c S15 (y05 S15 Z Z rfl hb6) Z Z fun a16 S16 => y1c S16 (y05 S16 Z Z rfl hb6) Z Z fun a17 S17 => y1c S17 (y05 S17 Z Z rfl hb6) Z Z fun a18 S18 => y1c S18 (y05 S18 Z Z rfl hb6) Z Z fun a19 S19 => y1c S19 (y05 S19 Z Z rfl hb6) Z Z fun a20 S20 => y00 S20 Z Z Z (y2s S20 Z Z rfl hb6) fun a21 S21 => hk _ (S21.re ⟨rfl, rfl, rfl, (by rw [hb6]; rfl), trivial⟩)
  ·refine y0p S5 (y0a S5 Z Z rfl hb6) Z Z (y03 S5 Z Z) fun a22 S22 => y0p S22 (y0a S22 Z Z rfl hb6) Z Z (y03 S22 Z Z) fun a23 S23 => y0p S23 (y0a S23 Z Z rfl hb6) Z Z (y4s S23 Z Z) fun a24 S24 => y0p S24 (y0a S24 Z Z rfl hb6) Z Z (y1e (off := 0) S24 Z Z (by kernel_rfl)) fun a25 S25 => y0p S25 (y0a S25 Z Z rfl hb6) Z Z (y0u (n := 1) S25 Z Z (by kernel_rfl) (Bx.cell hb0 Z)) fun a26 S26 => y0p S26 (y0a S26 Z Z rfl hb6) Z Z (y4x (e := 30) (sz := 3) (by_ := 40) S26 Z Z (by kernel_rfl)) fun a27 S27 => y0p S27 (y0a S27 Z Z rfl hb6) Z Z (y2l S27 Z Z rfl b_geq) fun a28 S28 => y00 S28 Z Z Z (y2t S28 Z Z rfl hb6) fun a29 S29 => hk _ (S29.re ⟨rfl, rfl, rfl, (by rw [hb6]; rfl), trivial⟩)
 intro a30 S30
 refine y00 S30 Z Z Z (y03 S30 Z Z) fun a31 S31 => ?_
 refine g_joinR 4 (fun a w41 => ∃ (g41 : Nat → Nat), Sl 63 a [(0, .pointer (so b_p0)), (1, i6 p1), (2, .int .u64 p2), (24, .bool t39)] ∧ Bx w41 g41 (c0) b_p0 63 [.slice y2o p0.D.length y1l, .slice y0x p0.Links.length y0m, .slice y24 p0.On.length y1d, .slice y1m p0.Use.length y0y, .slice y0z p0.Since.length y0n, .int .u64 p0.Clock] ∧ RdS y0f w41 g41 y2a y2o y1l p0.D ∧ OwS y0r 67 w41 g41 (c0 + 1) y0x y0m p0.Links ∧ OwS y4p 4 w41 g41 (c0 + 3) y24 y1d p0.On ∧ OwS (kint .u64) 28 w41 g41 (c0 + 7) y0z y0n p0.Since ∧ OwS (kint .i64) 3 w41 g41 (c0 + 5) y1m y0y p0.Use ∧ Fr (fun q => (c0 ≤ q ∧ q < c0 + 9) ∨ (r0 ≤ q ∧ q < r0 + 2) ∨ N ≤ q) w g w41 g41) ?_ (fun hk => ?_)
 rotate_left
 ·rcases Bool.eq_false_or_eq_true (((decide (p1 < 0)) || (decide ((p0.D.length : Int) ≤ p1)))) with hb32 | hb32
  ·have H := y3f hb32 ht40
   have e42 := Option.some.inj H
   refine y1c S31 (y05 S31 Z Z rfl hb32) Z Z fun a43 S43 => y1c S43 (y05 S43 Z Z rfl hb32) Z Z fun a44 S44 => y1c S44 (y05 S44 Z Z rfl hb32) Z Z fun a45 S45 => y00 S45 Z Z Z (y2s S45 Z Z rfl hb32) fun a46 S46 => hk _ _ ?_
   exact ⟨g, S46.re ⟨rfl, rfl, rfl, (by rw [← e42]; rfl), trivial⟩, hb0, y2v, y0c, y1o, y0d, y14, hF⟩
  ·have H := y3g hb32 ht40
   obtain ⟨r49, hr50, H⟩ := y0b H
   have e53 := Option.some.inj H
   refine y0p S31 (y0a S31 Z Z rfl hb32) Z Z (y03 S31 Z Z) fun a47 S47 => y0p S47 (y0a S47 Z Z rfl hb32) Z Z (y03 S47 Z Z) fun a48 S48 => ?_
   refine st_enterW S48 (y0a S48 Z Z rfl hb32) Z Z (y2z S48 Z Z (by kernel_rfl)) (y36.calls (c0 := c0) (b_p0 := b_p0) (y2o := y2o) (y1l := y1l) (y2a := y2a) (y0x := y0x) (y0m := y0m) (y24 := y24) (y1d := y1d) (y1m := y1m) (y0y := y0y) (y0z := y0z) (y0n := y0n) (p0 := p0) (p1 := p2) (g := g) (N + 6)  ⟨hb0, y2v, y0c, y1o, y14, y0d⟩ (by omega) (fun q (hq : y2a q) => by have := y33 q hq; omega) hr50) ?_
   rintro _ a51 w52 ⟨g52, rfl, F52⟩ S51
   replace hb0 := hb0.fr F52 (fun (hm : N + 6 ≤ c0) => by omega)
   replace y2v := RdS.fr y2v F52 (by decide) (fun q (hq : y2a q) (hm : N + 6 ≤ q) => by have := y33 q hq; omega)
   replace y0c := OwS.fr y0c F52 (fun c' hc (hm : N + 6 ≤ c') => by omega)
   replace y1o := OwS.fr y1o F52 (fun c' hc (hm : N + 6 ≤ c') => by omega)
   replace y0d := OwS.fr y0d F52 (fun c' hc (hm : N + 6 ≤ c') => by omega)
   replace y14 := OwS.fr y14 F52 (fun c' hc (hm : N + 6 ≤ c') => by omega)
   replace hF := hF.trans F52 (fun c' (hm : N + 6 ≤ c') => by (try dsimp only); omega)
   refine y00 S51 Z Z Z (y2t S51 Z Z rfl hb32) fun a54 S54 => hk _ _ ?_
   exact ⟨g52, S54.re ⟨rfl, rfl, rfl, (by rw [← e53]; rfl), trivial⟩, hb0, y2v, y0c, y1o, y0d, y14, hF⟩
 rintro a55 w41 ⟨g41, S55, hb0, y2v, y0c, y1o, y0d, y14, hF⟩
 refine wpList_nil (hK _ _ ?_)
 replace hS : Sl 63 _ [(0, .pointer (so b_p0)), (1, i6 p1), (2, .int .u64 p2), (24, .bool t39)] := S55.re ⟨Z, Z, Z, Z, trivial⟩
 clear hK K
 try clear S3 S4 S5 S30 S31 S55
 generalize a55 = a at hS ⊢
 refine y2m hS Z (fun hb56 => ?_) (fun hb56 => ?_)
 ·replace H := y3f hb56 H
  refine y16 [(6, .slice none 0 0), (7, i6 1)] (fun R hR => y00 hS Z Z Z (y02 hS Z Z) fun a57 S57 => y00 S57 Z Z Z (y02 S57 Z Z) fun a58 S58 => wpList_nil (hR _ (S58.re ⟨Z, Z, trivial⟩))) ?_
  clear hS a; intro a hS
  refine wp_ret ?_
  have e := Option.some.inj H
  subst e
  repeat (with_reducible first | refine y1i ?_ | refine y0o ?_)
  exact y4d hS Try.results51 Z rfl ⟨_, rfl, g41, none, 0, rfl, ⟨hb0, y2v, y0c, y1o, y14, y0d⟩, OwS.nil y18 47 w41 g41 r0, hF⟩
 ·replace H := y3g hb56 H
  refine wp_skip ?_
  change Code.wp _ _ _ _ _
  refine wp_seq ?_
  obtain ⟨x64, hx65, H⟩ := y0b H
  refine y16 [(0, .pointer (so b_p0)), (1, i6 p1), (2, .int .u64 p2), (32, .bool (x64 == 0))] (fun R hR => y00 hS Z Z Z (y03 hS Z Z) fun a59 S59 => y00 S59 Z Z Z (y4s S59 Z Z) fun a60 S60 => y00 S60 Z Z Z (y1e (off := 3) S60 Z Z (by kernel_rfl)) fun a61 S61 => y00 S61 Z Z Z (y0u (n := 1) S61 Z Z (by kernel_rfl) (Bx.cell hb0 Z)) fun a62 S62 => y00 S62 Z Z Z (y03 S62 Z Z) fun a63 S63 => y00 S63 Z Z Z (y1j (e := 3) (sz := 1) (by_ := 8) S63 Z Z Z (by kernel_rfl) (RdS.some_ (OwS.rd y14) hx65) (y26 hx65) (y27 hx65)) fun a66 S66 => y00 S66 Z Z Z (y0u (n := 1) S66 Z Z (by kernel_rfl) (RdS.cell (i := p1) (sz := 1) (j := 0) (OwS.rd y14) hx65 Z)) fun a67 S67 => y00 S67 Z Z Z (y2l S67 Z Z rfl b_eql) fun a68 S68 => wpList_nil (hR _ (S68.re ⟨Z, Z, Z, Z, trivial⟩))) ?_
  clear hS a; intro a hS
  refine y2m hS Z (fun hb69 => ?_) (fun hb69 => ?_)
  ·replace H := y3f hb69 H
   refine y16 [(6, .slice none 0 0), (7, i6 9)] (fun R hR => y00 hS Z Z Z (y02 hS Z Z) fun a70 S70 => y00 S70 Z Z Z (y02 S70 Z Z) fun a71 S71 => wpList_nil (hR _ (S71.re ⟨Z, Z, trivial⟩))) ?_
   clear hS a; intro a hS
   refine wp_ret ?_
   have e := Option.some.inj H
   subst e
   repeat (with_reducible first | refine y1i ?_ | refine y0o ?_)
   exact y4d hS Try.results51 Z rfl ⟨_, rfl, g41, none, 0, rfl, ⟨hb0, y2v, y0c, y1o, y14, y0d⟩, OwS.nil y18 47 w41 g41 r0, hF⟩
  ·replace H := y3g hb69 H
   refine wp_skip ?_
   change Code.wp _ _ _ _ _
   refine y0t (fun K hK => ?_)
   refine y00 hS Z Z Z (y03 hS Z Z) fun a72 S72 => y00 S72 Z Z Z (y03 S72 Z Z) fun a73 S73 => y00 S73 Z Z Z (y4s S73 Z Z) fun a74 S74 => y00 S74 Z Z Z (y1e (off := 5) S74 Z Z (by kernel_rfl)) fun a75 S75 => ?_
   refine y3s S75 Z Z (y4a (n := 1) (bb := false) (cs' := [.slice y2o p0.D.length y1l, .slice y0x p0.Links.length y0m, .slice y24 p0.On.length y1d, .slice y1m p0.Use.length y0y, .slice y0z p0.Since.length y0n, .int .u64 p2]) g41 S75 Z Z Z (by kernel_rfl) Z Z rfl hb0 Z Z) ?_
   rintro a76 w77 g77 ⟨hb0, F77⟩ S76
   replace y2v := RdS.fr y2v F77 (by decide) (fun q (hq : y2a q) (hm : q = c0) => by have := y33 q hq; omega)
   replace y0c := OwS.fr y0c F77 (fun c' hc (hm : c' = c0) => by omega)
   replace y1o := OwS.fr y1o F77 (fun c' hc (hm : c' = c0) => by omega)
   replace y0d := OwS.fr y0d F77 (fun c' hc (hm : c' = c0) => by omega)
   replace y14 := OwS.fr y14 F77 (fun c' hc (hm : c' = c0) => by omega)
   replace hF := hF.trans F77 (fun c' (hm : c' = c0) => by (try dsimp only); omega)
   refine wpList_nil (hK _ _ ?_)
   replace hS : Sl 63 _ [(0, .pointer (so b_p0)), (1, i6 p1), (2, .int .u64 p2)] := S76.re ⟨Z, Z, Z, trivial⟩
   clear hK K
   try clear S72 S73 S74 S75 S76
   generalize a76 = a at hS ⊢
   obtain ⟨r80, hr81, H⟩ := y0b H
   refine y0t (fun K hK => ?_)
   refine y00 hS Z Z Z (y03 hS Z Z) fun a78 S78 => y00 S78 Z Z Z (y03 S78 Z Z) fun a79 S79 => ?_
   refine y1y S79 Z Z Z (y2z S79 Z Z (by kernel_rfl)) (y15.calls (c0 := c0) (b_p0 := b_p0) (y2o := y2o) (y1l := y1l) (y2a := y2a) (y0x := y0x) (y0m := y0m) (y24 := y24) (y1d := y1d) (y1m := y1m) (y0y := y0y) (y0z := y0z) (y0n := y0n) (c1 := N + 0) (A1 := none) (cap1 := 0) (p0 := (y06.mk p0.D p0.Links p0.On p0.Use p0.Since p2)) (p1 := ([] : List y0e)) (p2 := p2) (g := g77) (N + 6) (N + 2) ⟨hb0, y2v, y0c, y1o, y14, y0d⟩ (by omega) (fun q (hq : y2a q) => by have := y33 q hq; omega) (OwS.nil y18 47 w77 g77 (N + 0)) (by omega) (fun q (hq : y2a q) => by have := y33 q hq; omega) (by omega) (by omega) (by omega) (by omega) hr81) ?_
   rintro _ a86 w87 ⟨g87, A82, cap83, rfl, ⟨hb0, y2v, y0c, y1o, y14, y0d⟩, h84, F87⟩ S86
   replace hF := hF.trans F87 (fun c' (hm : (c0 ≤ c' ∧ c' < c0 + 9) ∨ (N + 0 ≤ c' ∧ c' < N + 0 + 2) ∨ (N + 2 ≤ c' ∧ c' < N + 2 + 2) ∨ N + 6 ≤ c') => by (try dsimp only); omega)
   refine y00 S86 Z Z Z (y02 S86 Z Z) fun a88 S88 => wpList_nil (hK _ _ ?_)
   replace hS : Sl 63 _ [(0, .pointer (so b_p0)), (1, i6 p1), (2, .int .u64 p2), (8, .slice A82 r80.2.length cap83)] := S88.re ⟨Z, Z, Z, Z, trivial⟩
   clear hK K
   try clear S78 S79 S86 S88
   generalize a88 = a at hS ⊢
   obtain ⟨x94, hx95, H⟩ := y0b H
   refine y0t (fun K hK => ?_)
   refine y00 hS Z Z Z (y03 hS Z Z) fun a89 S89 => y00 S89 Z Z Z (y4s S89 Z Z) fun a90 S90 => y00 S90 Z Z Z (y1e (off := 3) S90 Z Z (by kernel_rfl)) fun a91 S91 => y00 S91 Z Z Z (y0u (n := 1) S91 Z Z (by kernel_rfl) (Bx.cell hb0 Z)) fun a92 S92 => y00 S92 Z Z Z (y03 S92 Z Z) fun a93 S93 => y00 S93 Z Z Z (y1j (e := 3) (sz := 1) (by_ := 8) S93 Z Z Z (by kernel_rfl) (RdS.some_ (OwS.rd y14) hx95) (y26 hx95) (y27 hx95)) fun a96 S96 => y00 S96 Z Z Z (y0u (n := 1) S96 Z Z (by kernel_rfl) (RdS.cell (i := p1) (sz := 1) (j := 0) (OwS.rd y14) hx95 Z)) fun a97 S97 => y00 S97 Z Z Z (y2l S97 Z Z rfl b_sub) fun a98 S98 => y00 S98 Z Z Z (y1j (e := 3) (sz := 1) (by_ := 8) S98 Z Z Z (by kernel_rfl) (RdS.some_ (OwS.rd y14) hx95) (y26 hx95) (y27 hx95)) fun a99 S99 => ?_
   refine y3s S99 Z Z (y4l (n := 1) (bb := false) (kd := (kint .i64)) (j := 0) (x' := wi (x94 - 1)) (us := [i6 (wi (x94 - 1))]) g87 S99 Z Z Z Z (by kernel_rfl) Z Z (by intro v hv; simp only [List.mem_cons, List.not_mem_nil, or_false] at hv; rcases hv with rfl <;> rfl) y14 hx95 Z (fun _ _ cs hR => by rw [show cs = _ from hR]; rfl)) ?_
   rintro a100 w101 g101 ⟨y14, F101⟩ S100
   replace h84 := OwS.fr h84 F101 (fun c' hc (hm : c' = c0 + 5) => by omega)
   replace hb0 := hb0.fr F101 (fun (hm : c0 = c0 + 5) => by omega)
   replace y2v := RdS.fr y2v F101 (by decide) (fun q (hq : y2a q) (hm : q = c0 + 5) => by have := y33 q hq; omega)
   replace y0c := OwS.fr y0c F101 (fun c' hc (hm : c' = c0 + 5) => by omega)
   replace y1o := OwS.fr y1o F101 (fun c' hc (hm : c' = c0 + 5) => by omega)
   replace y0d := OwS.fr y0d F101 (fun c' hc (hm : c' = c0 + 5) => by omega)
   replace hF := hF.trans F101 (fun c' (hm : c' = c0 + 5) => by (try dsimp only); omega)
   replace hb0 : Bx w101 g101 (c0) b_p0 63 [.slice y2o r80.1.D.length y1l, .slice y0x r80.1.Links.length y0m, .slice y24 r80.1.On.length y1d, .slice y1m (upd r80.1.Use p1 (wi (x94 - 1))).length y0y, .slice y0z r80.1.Since.length y0n, .int .u64 r80.1.Clock] := by simpa only [y1w] using hb0
   refine wpList_nil (hK _ _ ?_)
   replace hS : Sl 63 _ [(0, .pointer (so b_p0)), (1, i6 p1), (2, .int .u64 p2), (8, .slice A82 r80.2.length cap83)] := S100.re ⟨Z, Z, Z, Z, trivial⟩
   clear hK K
   try clear S89 S90 S91 S92 S93 S96 S97 S98 S99 S100
   generalize a100 = a at hS ⊢
   obtain ⟨v103, H, Hl105⟩ := y0b H
   refine y4u (fun a w102 => ∃ (g102 : Nat → Nat), Sl 63 a [(0, .pointer (so b_p0)), (2, .int .u64 p2), (8, .slice A82 r80.2.length cap83)] ∧ OwS y18 47 w102 g102 (N + 2) A82 cap83 r80.2 ∧ Bx w102 g102 (c0) b_p0 63 [.slice y2o v103.D.length y1l, .slice y0x v103.Links.length y0m, .slice y24 v103.On.length y1d, .slice y1m v103.Use.length y0y, .slice y0z v103.Since.length y0n, .int .u64 v103.Clock] ∧ RdS y0f w102 g102 y2a y2o y1l v103.D ∧ OwS y0r 67 w102 g102 (c0 + 1) y0x y0m v103.Links ∧ OwS y4p 4 w102 g102 (c0 + 3) y24 y1d v103.On ∧ OwS (kint .u64) 28 w102 g102 (c0 + 7) y0z y0n v103.Since ∧ OwS (kint .i64) 3 w102 g102 (c0 + 5) y1m y0y v103.Use ∧ Fr (fun q => (c0 ≤ q ∧ q < c0 + 9) ∨ (r0 ≤ q ∧ q < r0 + 2) ∨ N ≤ q) w g w102 g102) ?_ ?_
   ·obtain ⟨r108, hr109, H⟩ := y0b H
    refine y0t (fun K hK => ?_)
    refine y00 hS Z Z Z (y03 hS Z Z) fun a106 S106 => y00 S106 Z Z Z (y03 S106 Z Z) fun a107 S107 => ?_
    refine y1y S107 Z Z Z (y2z S107 Z Z (by kernel_rfl)) (y21.calls (c0 := c0) (b_p0 := b_p0) (y2o := y2o) (y1l := y1l) (y2a := y2a) (y0x := y0x) (y0m := y0m) (y24 := y24) (y1d := y1d) (y1m := y1m) (y0y := y0y) (y0z := y0z) (y0n := y0n) (p0 := (y06.mk r80.1.D r80.1.Links r80.1.On (upd r80.1.Use p1 (wi (x94 - 1))) r80.1.Since r80.1.Clock)) (p1 := p1) (g := g101) (N + 6)  ⟨hb0, y2v, y0c, y1o, y14, y0d⟩ (by omega) (fun q (hq : y2a q) => by have := y33 q hq; omega) hr109) ?_
    rintro _ a110 w111 ⟨g111, rfl, F111⟩ S110
    replace h84 := OwS.fr h84 F111 (fun c' hc (hm : N + 6 ≤ c') => by omega)
    replace hb0 := hb0.fr F111 (fun (hm : N + 6 ≤ c0) => by omega)
    replace y2v := RdS.fr y2v F111 (by decide) (fun q (hq : y2a q) (hm : N + 6 ≤ q) => by have := y33 q hq; omega)
    replace y0c := OwS.fr y0c F111 (fun c' hc (hm : N + 6 ≤ c') => by omega)
    replace y1o := OwS.fr y1o F111 (fun c' hc (hm : N + 6 ≤ c') => by omega)
    replace y0d := OwS.fr y0d F111 (fun c' hc (hm : N + 6 ≤ c') => by omega)
    replace y14 := OwS.fr y14 F111 (fun c' hc (hm : N + 6 ≤ c') => by omega)
    replace hF := hF.trans F111 (fun c' (hm : N + 6 ≤ c') => by (try dsimp only); omega)
    refine wpList_nil (hK _ _ ?_)
    replace hS : Sl 63 _ [(0, .pointer (so b_p0)), (1, i6 p1), (2, .int .u64 p2), (8, .slice A82 r80.2.length cap83), (51, .bool r108)] := S110.re ⟨Z, Z, Z, Z, Z, trivial⟩
    clear hK K
    try clear S106 S107 S110
    generalize a110 = a at hS ⊢
    refine y2m hS Z (fun hb112 => ?_) (fun hb112 => ?_)
    ·replace H := y3f hb112 H
     obtain ⟨x119, hx120, H⟩ := y0b H
     refine y3l (fun K hK => ?_)
     refine y00 hS Z Z Z (y03 hS Z Z) fun a113 S113 => y00 S113 Z Z Z (y4s S113 Z Z) fun a114 S114 => y00 S114 Z Z Z (y1e (off := 4) S114 Z Z (by kernel_rfl)) fun a115 S115 => y00 S115 Z Z Z (y0u (n := 1) S115 Z Z (by kernel_rfl) (Bx.cell hb0 Z)) fun a116 S116 => y00 S116 Z Z Z (y03 S116 Z Z) fun a117 S117 => y00 S117 Z Z Z (y03 S117 Z Z) fun a118 S118 => y00 S118 Z Z Z (y1j (e := 28) (sz := 1) (by_ := 8) S118 Z Z Z (by kernel_rfl) (RdS.some_ (OwS.rd y0d) hx120) (y26 hx120) (y27 hx120)) fun a121 S121 => ?_
     refine y3s S121 Z Z (y4l (n := 1) (bb := false) (kd := (kint .u64)) (j := 0) (x' := p2) (us := [.int .u64 p2]) g111 S121 Z Z Z Z (by kernel_rfl) Z Z (by intro v hv; simp only [List.mem_cons, List.not_mem_nil, or_false] at hv; rcases hv with rfl <;> rfl) y0d hx120 Z (fun _ _ cs hR => by rw [show cs = _ from hR]; rfl)) ?_
     rintro a122 w123 g123 ⟨y0d, F123⟩ S122
     replace h84 := OwS.fr h84 F123 (fun c' hc (hm : c' = c0 + 7) => by omega)
     replace hb0 := hb0.fr F123 (fun (hm : c0 = c0 + 7) => by omega)
     replace y2v := RdS.fr y2v F123 (by decide) (fun q (hq : y2a q) (hm : q = c0 + 7) => by have := y33 q hq; omega)
     replace y0c := OwS.fr y0c F123 (fun c' hc (hm : c' = c0 + 7) => by omega)
     replace y1o := OwS.fr y1o F123 (fun c' hc (hm : c' = c0 + 7) => by omega)
     replace y14 := OwS.fr y14 F123 (fun c' hc (hm : c' = c0 + 7) => by omega)
     replace hF := hF.trans F123 (fun c' (hm : c' = c0 + 7) => by (try dsimp only); omega)
     replace hb0 : Bx w123 g123 (c0) b_p0 63 [.slice y2o r80.1.D.length y1l, .slice y0x r80.1.Links.length y0m, .slice y24 r80.1.On.length y1d, .slice y1m (upd r80.1.Use p1 (wi (x94 - 1))).length y0y, .slice y0z (upd r80.1.Since p1 p2).length y0n, .int .u64 r80.1.Clock] := by simpa only [y1w] using hb0
     refine wpList_nil (hK _ _ ?_)
     replace hS : Sl 63 _ [(0, .pointer (so b_p0)), (2, .int .u64 p2), (8, .slice A82 r80.2.length cap83)] := S122.re ⟨Z, Z, Z, trivial⟩
     clear hK K
     try clear S113 S114 S115 S116 S117 S118 S121 S122
     generalize a122 = a at hS ⊢
     have e := Option.some.inj H
     subst e
     exact ⟨g123, hS.re ⟨Z, Z, Z, trivial⟩, h84, hb0, y2v, y0c, y1o, y0d, y14, hF⟩
    ·replace H := y3g hb112 H
     refine wp_skip ?_
     have e := Option.some.inj H
     subst e
     exact ⟨g111, hS.re ⟨Z, Z, Z, trivial⟩, h84, hb0, y2v, y0c, y1o, y0d, y14, hF⟩
   ·clear H
    clear y2v y0c y1o y14 y0d hb0 h84 hF
    clear hS
    rintro a w102 ⟨g102, hS, h84, hb0, y2v, y0c, y1o, y0d, y14, hF⟩
    have H := Hl105
    clear Hl105
    obtain ⟨r127, hr128, H⟩ := y0b H
    refine y0t (fun K hK => ?_)
    refine y00 hS Z Z Z (y03 hS Z Z) fun a124 S124 => y00 S124 Z Z Z (y03 S124 Z Z) fun a125 S125 => y00 S125 Z Z Z (y03 S125 Z Z) fun a126 S126 => ?_
    refine y1y S126 Z Z Z (y2z S126 Z Z (by kernel_rfl)) (y15.calls (c0 := c0) (b_p0 := b_p0) (y2o := y2o) (y1l := y1l) (y2a := y2a) (y0x := y0x) (y0m := y0m) (y24 := y24) (y1d := y1d) (y1m := y1m) (y0y := y0y) (y0z := y0z) (y0n := y0n) (c1 := N + 2) (A1 := A82) (cap1 := cap83) (p0 := v103) (p1 := r80.2) (p2 := p2) (g := g102) (N + 6) (N + 4) ⟨hb0, y2v, y0c, y1o, y14, y0d⟩ (by omega) (fun q (hq : y2a q) => by have := y33 q hq; omega) h84 (by omega) (fun q (hq : y2a q) => by have := y33 q hq; omega) (by omega) (by omega) (by omega) (by omega) hr128) ?_
    rintro _ a133 w134 ⟨g134, A129, cap130, rfl, ⟨hb0, y2v, y0c, y1o, y14, y0d⟩, h131, F134⟩ S133
    replace hF := hF.trans F134 (fun c' (hm : (c0 ≤ c' ∧ c' < c0 + 9) ∨ (N + 2 ≤ c' ∧ c' < N + 2 + 2) ∨ (N + 4 ≤ c' ∧ c' < N + 4 + 2) ∨ N + 6 ≤ c') => by (try dsimp only); omega)
    refine y00 S133 Z Z Z (y02 S133 Z Z) fun a135 S135 => y00 S135 Z Z Z (y02 S135 Z Z) fun a136 S136 => wpList_nil (hK _ _ ?_)
    replace hS : Sl 63 _ [(6, .slice A129 r127.2.length cap130), (7, i6 0)] := S136.re ⟨Z, Z, trivial⟩
    clear hK K
    try clear S124 S125 S126 S133 S135 S136
    generalize a136 = a at hS ⊢
    refine wp_ret ?_
    have e := Option.some.inj H
    subst e
    have F137 := Fr.y2f w134 g134 (N + 4) r0
    replace h131 := h131.y2f r0
    replace hb0 := hb0.fr F137 (fun (hm : c0 = N + 4 ∨ c0 = N + 4 + 1) => by omega)
    replace y2v := RdS.fr y2v F137 (by decide) (fun q (hq : y2a q) (hm : q = N + 4 ∨ q = N + 4 + 1) => by have := y33 q hq; omega)
    replace y0c := OwS.fr y0c F137 (fun c' hc (hm : c' = N + 4 ∨ c' = N + 4 + 1) => by omega)
    replace y1o := OwS.fr y1o F137 (fun c' hc (hm : c' = N + 4 ∨ c' = N + 4 + 1) => by omega)
    replace y0d := OwS.fr y0d F137 (fun c' hc (hm : c' = N + 4 ∨ c' = N + 4 + 1) => by omega)
    replace y14 := OwS.fr y14 F137 (fun c' hc (hm : c' = N + 4 ∨ c' = N + 4 + 1) => by omega)
    replace hF := hF.trans F137 (fun c' (hm : c' = N + 4 ∨ c' = N + 4 + 1) => by (try dsimp only); omega)
    repeat (with_reducible first | refine y1i ?_ | refine y0o ?_)
    exact y4d hS Try.results51 Z rfl ⟨_, rfl, (y2f g134 (N + 4) r0), A129, cap130, rfl, ⟨hb0, y2v, y0c, y1o, y14, y0d⟩, h131, hF⟩


end Go.Proofs.Ytcfcffbjdjacfaa.Sim

namespace Go.Proofs.Ytcfcffbjdjacfaa.Sim
open Go
set_option linter.unusedVariables false
set_option linter.unusedSimpArgs false

/-! ### law28_want: function 30 -/
def law28_want.f (p0 : y06) (p1 : y3t) (p2 : Int) (p3 : Int) : Option (y06 × (List y0e) × Int) := (y3z.f p1 p2 p3).bind fun r11 => (y4r.f p1.Kind 4).bind fun r22 => if (r22 == 2) = true then ((y47.f p0 r11.1 r11.2).bind fun r32 => some (r32.1, r32.2.1, r32.2.2)) else (if (r22 == 3) = true then ((y3j.f p0 r11.2).bind fun r50 => some (r50.1, r50.2.1, r50.2.2)) else ((y1s.f p0 r11.1 r11.2).bind fun r66 => some (r66.1, r66.2.1, r66.2.2)))
set_option maxRecDepth 100000 in
set_option maxHeartbeats 4000000 in
theorem law28_want.calls {p0 : y06} {c0 : Nat} {y2a : Nat → Prop} {b_p0 : Nat} {y2o : Option Addr} {y1l : Nat} {y0x : Option Addr} {y0m : Nat} {y24 : Option Addr} {y1d : Nat} {y1m : Option Addr} {y0y : Nat} {y0z : Option Addr} {y0n : Nat} {p1 : y3t} {p2 : Int} {p3 : Int} {w : World} {g : Nat → Nat} {out : y06 × (List y0e) × Int} (N : Nat) (r0 : Nat) (hp0 : y2q w g c0 y2a b_p0 y2o y1l y0x y0m y24 y1d y1m y0y y0z y0n p0) (hc0 : c0 + 9 ≤ N) (y33 : ∀ c, y2a c → c < N ∧ (c < c0 ∨ c0 + 9 ≤ c)) (hr0 : r0 + 2 ≤ N) (hq0_0 : r0 + 2 ≤ c0 ∨ c0 + 9 ≤ r0) (H : law28_want.f p0 p1 p2 p3 = some out) :
  Calls Try.prog 30 #[.pointer (so b_p0), .agg #[i6 p1.Kind, i6 p1.Device, .int .u64 p1.Wait, .bool p1.Raw], i6 p2, .int .u64 p3] w (fun e w' => ∃ v, e = .returned v ∧ ∃ (g' : Nat → Nat) (A_r0 : Option Addr) (cap_r0 : Nat), v = .tuple #[.slice A_r0 out.2.1.length cap_r0, i6 out.2.2] ∧ y2q w' g' c0 y2a b_p0 y2o y1l y0x y0m y24 y1d y1m y0y y0z y0n out.1 ∧ OwS y18 47 w' g' r0 A_r0 cap_r0 out.2.1 ∧ Fr (fun q => (c0 ≤ q ∧ q < c0 + 9) ∨ (r0 ≤ q ∧ q < r0 + 2) ∨ N ≤ q) w g w' g') := by
 unfold law28_want.f at H
 refine y1k Try.func30 rfl Try.ntmps30 Z (fun a hS => ?_)
 replace hS : Sl 43 a [(0, .pointer (so b_p0)), (1, .agg #[i6 p1.Kind, i6 p1.Device, .int .u64 p1.Wait, .bool p1.Raw]), (2, i6 p2), (3, .int .u64 p3)] := hS
 have hF : Fr (fun q => (c0 ≤ q ∧ q < c0 + 9) ∨ (r0 ≤ q ∧ q < r0 + 2) ∨ N ≤ q) w g w g := Fr.refl _ _ _
 obtain ⟨hb0, y2v, y0c, y1o, y14, y0d⟩ := hp0
 refine y0t (fun K hK => ?_)
 refine y41 hS Z Z Z (e_box (cs := [i6 p1.Kind, i6 p1.Device, .int .u64 p1.Wait, .bool p1.Raw]) (N + 0) g hS Z Z Z) ?_
 rintro _ a4 w5 g5 ⟨⟨b1, rfl, h2⟩, F5⟩ S4
 replace hb0 := hb0.fr F5 (fun h => h)
 replace y2v := RdS.fr y2v F5 (by decide) (fun _ _ h => h)
 replace y0c := OwS.fr y0c F5 (fun _ _ h => h)
 replace y1o := OwS.fr y1o F5 (fun _ _ h => h)
 replace y0d := OwS.fr y0d F5 (fun _ _ h => h)
 replace y14 := OwS.fr y14 F5 (fun _ _ h => h)
 replace hF := hF.trans F5 (fun _ h => h.elim)
 refine y00 S4 Z Z Z (y02 S4 Z Z) fun a6 S6 => y00 S6 Z Z Z (y02 S6 Z Z) fun a7 S7 => wpList_nil (hK _ _ ?_)
 replace hS : Sl 43 _ [(0, .pointer (so b_p0)), (2, i6 p2), (3, .int .u64 p3), (5, .pointer (so b1))] := S7.re ⟨Z, Z, Z, Z, trivial⟩
 clear hK K
 try clear S4 S6 S7
 generalize a7 = a at hS ⊢
 obtain ⟨r11, hr12, H⟩ := y0b H
 refine y0t (fun K hK => ?_)
 refine y00 hS Z Z Z (r_loadN (n := 4) (cs := [i6 p1.Kind, i6 p1.Device, .int .u64 p1.Wait, .bool p1.Raw]) hS Z Z (by kernel_rfl) Z (Bx.cells_off h2 0 4)) fun a8 S8 => y00 S8 Z Z Z (y03 S8 Z Z) fun a9 S9 => y00 S9 Z Z Z (y03 S9 Z Z) fun a10 S10 => ?_
 refine y1y S10 Z Z Z (y2z S10 Z Z (by kernel_rfl)) (y3z.calls (p0 := p1) (p1 := p2) (p2 := p3) (g := g5) (N + 8)   hr12) ?_
 rintro _ a13 w14 ⟨g14, rfl, F14⟩ S13
 replace h2 := h2.fr F14 (fun (hm : N + 8 ≤ N + 0) => by omega)
 replace hb0 := hb0.fr F14 (fun (hm : N + 8 ≤ c0) => by omega)
 replace y2v := RdS.fr y2v F14 (by decide) (fun q (hq : y2a q) (hm : N + 8 ≤ q) => by have := y33 q hq; omega)
 replace y0c := OwS.fr y0c F14 (fun c' hc (hm : N + 8 ≤ c') => by omega)
 replace y1o := OwS.fr y1o F14 (fun c' hc (hm : N + 8 ≤ c') => by omega)
 replace y0d := OwS.fr y0d F14 (fun c' hc (hm : N + 8 ≤ c') => by omega)
 replace y14 := OwS.fr y14 F14 (fun c' hc (hm : N + 8 ≤ c') => by omega)
 replace hF := hF.trans F14 (fun c' (hm : N + 8 ≤ c') => by (try dsimp only); omega)
 refine y00 S13 Z Z Z (y03 S13 Z Z) fun a15 S15 => y00 S15 Z Z Z (y1z S15 Z Z Z) fun a16 S16 => y00 S16 Z Z Z (y1z S16 Z Z Z) fun a17 S17 => y00 S17 Z Z Z (y02 S17 Z Z) fun a18 S18 => y00 S18 Z Z Z (y02 S18 Z Z) fun a19 S19 => wpList_nil (hK _ _ ?_)
 replace hS : Sl 43 _ [(0, .pointer (so b_p0)), (5, .pointer (so b1)), (10, i6 r11.1), (11, .int .u64 r11.2)] := S19.re ⟨Z, Z, Z, Z, trivial⟩
 clear hK K
 try clear S8 S9 S10 S13 S15 S16 S17 S18 S19
 generalize a19 = a at hS ⊢
 refine wp_seq ?_
 obtain ⟨r22, hr23, H⟩ := y0b H
 refine y0t (fun K hK => ?_)
 refine y00 hS Z Z Z (y1e (off := 0) hS Z Z (by kernel_rfl)) fun a20 S20 => y00 S20 Z Z Z (y0u (n := 1) S20 Z Z (by kernel_rfl) (Bx.cell h2 Z)) fun a21 S21 => ?_
 refine y1y S21 Z Z Z (y2z S21 Z Z (by kernel_rfl)) (y4r.calls (p0 := p1.Kind) (p1 := 4) (g := g14) (N + 8)   hr23) ?_
 rintro _ a24 w25 ⟨g25, rfl, F25⟩ S24
 replace h2 := h2.fr F25 (fun (hm : N + 8 ≤ N + 0) => by omega)
 replace hb0 := hb0.fr F25 (fun (hm : N + 8 ≤ c0) => by omega)
 replace y2v := RdS.fr y2v F25 (by decide) (fun q (hq : y2a q) (hm : N + 8 ≤ q) => by have := y33 q hq; omega)
 replace y0c := OwS.fr y0c F25 (fun c' hc (hm : N + 8 ≤ c') => by omega)
 replace y1o := OwS.fr y1o F25 (fun c' hc (hm : N + 8 ≤ c') => by omega)
 replace y0d := OwS.fr y0d F25 (fun c' hc (hm : N + 8 ≤ c') => by omega)
 replace y14 := OwS.fr y14 F25 (fun c' hc (hm : N + 8 ≤ c') => by omega)
 replace hF := hF.trans F25 (fun c' (hm : N + 8 ≤ c') => by (try dsimp only); omega)
 refine wpList_nil (hK _ _ ?_)
 replace hS : Sl 43 _ [(0, .pointer (so b_p0)), (10, i6 r11.1), (11, .int .u64 r11.2), (21, i6 r22)] := S24.re ⟨Z, Z, Z, Z, trivial⟩
 clear hK K
 try clear S20 S21 S24
 generalize a24 = a at hS ⊢
 refine wp_block ?_
 refine y16 [(0, .pointer (so b_p0)), (10, i6 r11.1), (11, .int .u64 r11.2), (21, i6 r22), (22, .bool (r22 == 2))] (fun R hR => y00 hS Z Z Z (y2l hS Z Z rfl b_eql) fun a26 S26 => y00 S26 Z Z Z (y02 S26 Z Z) fun a27 S27 => wpList_nil (hR _ (S27.re ⟨Z, Z, Z, Z, Z, trivial⟩))) ?_
 clear hS a; intro a hS
 refine y2m hS Z (fun hb28 => ?_) (fun hb28 => ?_)
 ·replace H := y3f hb28 H
  obtain ⟨r32, hr33, H⟩ := y0b H
  refine y0t (fun K hK => ?_)
  refine y00 hS Z Z Z (y03 hS Z Z) fun a29 S29 => y00 S29 Z Z Z (y03 S29 Z Z) fun a30 S30 => y00 S30 Z Z Z (y03 S30 Z Z) fun a31 S31 => ?_
  refine y1y S31 Z Z Z (y2z S31 Z Z (by kernel_rfl)) (y47.calls (c0 := c0) (b_p0 := b_p0) (y2o := y2o) (y1l := y1l) (y2a := y2a) (y0x := y0x) (y0m := y0m) (y24 := y24) (y1d := y1d) (y1m := y1m) (y0y := y0y) (y0z := y0z) (y0n := y0n) (p0 := p0) (p1 := r11.1) (p2 := r11.2) (g := g25) (N + 8) (N + 2) ⟨hb0, y2v, y0c, y1o, y14, y0d⟩ (by omega) (fun q (hq : y2a q) => by have := y33 q hq; omega) (by omega) (by omega) hr33) ?_
  rintro _ a38 w39 ⟨g39, A34, cap35, rfl, ⟨hb0, y2v, y0c, y1o, y14, y0d⟩, h36, F39⟩ S38
  replace hF := hF.trans F39 (fun c' (hm : (c0 ≤ c' ∧ c' < c0 + 9) ∨ (N + 2 ≤ c' ∧ c' < N + 2 + 2) ∨ N + 8 ≤ c') => by (try dsimp only); omega)
  refine y00 S38 Z Z Z (y1z S38 Z Z Z) fun a40 S40 => y00 S40 Z Z Z (y1z S40 Z Z Z) fun a41 S41 => y00 S41 Z Z Z (y02 S41 Z Z) fun a42 S42 => y00 S42 Z Z Z (y02 S42 Z Z) fun a43 S43 => wpList_nil (hK _ _ ?_)
  replace hS : Sl 43 _ [(8, .slice A34 r32.2.1.length cap35), (9, i6 r32.2.2)] := S43.re ⟨Z, Z, trivial⟩
  clear hK K
  try clear S29 S30 S31 S38 S40 S41 S42 S43
  generalize a43 = a at hS ⊢
  refine wp_ret ?_
  have e := Option.some.inj H
  subst e
  have F44 := Fr.y2f w39 g39 (N + 2) r0
  replace h36 := h36.y2f r0
  replace hb0 := hb0.fr F44 (fun (hm : c0 = N + 2 ∨ c0 = N + 2 + 1) => by omega)
  replace y2v := RdS.fr y2v F44 (by decide) (fun q (hq : y2a q) (hm : q = N + 2 ∨ q = N + 2 + 1) => by have := y33 q hq; omega)
  replace y0c := OwS.fr y0c F44 (fun c' hc (hm : c' = N + 2 ∨ c' = N + 2 + 1) => by omega)
  replace y1o := OwS.fr y1o F44 (fun c' hc (hm : c' = N + 2 ∨ c' = N + 2 + 1) => by omega)
  replace y0d := OwS.fr y0d F44 (fun c' hc (hm : c' = N + 2 ∨ c' = N + 2 + 1) => by omega)
  replace y14 := OwS.fr y14 F44 (fun c' hc (hm : c' = N + 2 ∨ c' = N + 2 + 1) => by omega)
  replace hF := hF.trans F44 (fun c' (hm : c' = N + 2 ∨ c' = N + 2 + 1) => by (try dsimp only); omega)
  repeat (with_reducible first | refine y1i ?_ | refine y0o ?_)
  exact y4d hS Try.results30 Z rfl ⟨_, rfl, (y2f g39 (N + 2) r0), A34, cap35, rfl, ⟨hb0, y2v, y0c, y1o, y14, y0d⟩, h36, hF⟩
 ·replace H := y3g hb28 H
  refine y16 [(0, .pointer (so b_p0)), (10, i6 r11.1), (11, .int .u64 r11.2), (30, .bool (r22 == 3))] (fun R hR => y00 hS Z Z Z (y2l hS Z Z rfl b_eql) fun a45 S45 => y00 S45 Z Z Z (y02 S45 Z Z) fun a46 S46 => wpList_nil (hR _ (S46.re ⟨Z, Z, Z, Z, trivial⟩))) ?_
  clear hS a; intro a hS
  refine y2m hS Z (fun hb47 => ?_) (fun hb47 => ?_)
  ·replace H := y3f hb47 H
   obtain ⟨r50, hr51, H⟩ := y0b H
   refine y0t (fun K hK => ?_)
   refine y00 hS Z Z Z (y03 hS Z Z) fun a48 S48 => y00 S48 Z Z Z (y03 S48 Z Z) fun a49 S49 => ?_
   refine y1y S49 Z Z Z (y2z S49 Z Z (by kernel_rfl)) (y3j.calls (c0 := c0) (b_p0 := b_p0) (y2o := y2o) (y1l := y1l) (y2a := y2a) (y0x := y0x) (y0m := y0m) (y24 := y24) (y1d := y1d) (y1m := y1m) (y0y := y0y) (y0z := y0z) (y0n := y0n) (p0 := p0) (p1 := r11.2) (g := g25) (N + 8) (N + 4) ⟨hb0, y2v, y0c, y1o, y14, y0d⟩ (by omega) (fun q (hq : y2a q) => by have := y33 q hq; omega) (by omega) (by omega) hr51) ?_
   rintro _ a56 w57 ⟨g57, A52, cap53, rfl, ⟨hb0, y2v, y0c, y1o, y14, y0d⟩, h54, F57⟩ S56
   replace hF := hF.trans F57 (fun c' (hm : (c0 ≤ c' ∧ c' < c0 + 9) ∨ (N + 4 ≤ c' ∧ c' < N + 4 + 2) ∨ N + 8 ≤ c') => by (try dsimp only); omega)
   refine y00 S56 Z Z Z (y1z S56 Z Z Z) fun a58 S58 => y00 S58 Z Z Z (y1z S58 Z Z Z) fun a59 S59 => y00 S59 Z Z Z (y02 S59 Z Z) fun a60 S60 => y00 S60 Z Z Z (y02 S60 Z Z) fun a61 S61 => wpList_nil (hK _ _ ?_)
   replace hS : Sl 43 _ [(8, .slice A52 r50.2.1.length cap53), (9, i6 r50.2.2)] := S61.re ⟨Z, Z, trivial⟩
   clear hK K
   try clear S48 S49 S56 S58 S59 S60 S61
   generalize a61 = a at hS ⊢
   refine wp_ret ?_
   have e := Option.some.inj H
   subst e
   have F62 := Fr.y2f w57 g57 (N + 4) r0
   replace h54 := h54.y2f r0
   replace hb0 := hb0.fr F62 (fun (hm : c0 = N + 4 ∨ c0 = N + 4 + 1) => by omega)
   replace y2v := RdS.fr y2v F62 (by decide) (fun q (hq : y2a q) (hm : q = N + 4 ∨ q = N + 4 + 1) => by have := y33 q hq; omega)
   replace y0c := OwS.fr y0c F62 (fun c' hc (hm : c' = N + 4 ∨ c' = N + 4 + 1) => by omega)
   replace y1o := OwS.fr y1o F62 (fun c' hc (hm : c' = N + 4 ∨ c' = N + 4 + 1) => by omega)
   replace y0d := OwS.fr y0d F62 (fun c' hc (hm : c' = N + 4 ∨ c' = N + 4 + 1) => by omega)
   replace y14 := OwS.fr y14 F62 (fun c' hc (hm : c' = N + 4 ∨ c' = N + 4 + 1) => by omega)
   replace hF := hF.trans F62 (fun c' (hm : c' = N + 4 ∨ c' = N + 4 + 1) => by (try dsimp only); omega)
   repeat (with_reducible first | refine y1i ?_ | refine y0o ?_)
   exact y4d hS Try.results30 Z rfl ⟨_, rfl, (y2f g57 (N + 4) r0), A52, cap53, rfl, ⟨hb0, y2v, y0c, y1o, y14, y0d⟩, h54, hF⟩
  ·replace H := y3g hb47 H
   refine wp_skip ?_
   change Code.wp _ _ _ _ _
   obtain ⟨r66, hr67, H⟩ := y0b H
   refine y0t (fun K hK => ?_)
   refine y00 hS Z Z Z (y03 hS Z Z) fun a63 S63 => y00 S63 Z Z Z (y03 S63 Z Z) fun a64 S64 => y00 S64 Z Z Z (y03 S64 Z Z) fun a65 S65 => ?_
   refine y1y S65 Z Z Z (y2z S65 Z Z (by kernel_rfl)) (y1s.calls (c0 := c0) (b_p0 := b_p0) (y2o := y2o) (y1l := y1l) (y2a := y2a) (y0x := y0x) (y0m := y0m) (y24 := y24) (y1d := y1d) (y1m := y1m) (y0y := y0y) (y0z := y0z) (y0n := y0n) (p0 := p0) (p1 := r11.1) (p2 := r11.2) (g := g25) (N + 8) (N + 6) ⟨hb0, y2v, y0c, y1o, y14, y0d⟩ (by omega) (fun q (hq : y2a q) => by have := y33 q hq; omega) (by omega) (by omega) hr67) ?_
   rintro _ a72 w73 ⟨g73, A68, cap69, rfl, ⟨hb0, y2v, y0c, y1o, y14, y0d⟩, h70, F73⟩ S72
   replace hF := hF.trans F73 (fun c' (hm : (c0 ≤ c' ∧ c' < c0 + 9) ∨ (N + 6 ≤ c' ∧ c' < N + 6 + 2) ∨ N + 8 ≤ c') => by (try dsimp only); omega)
   refine y00 S72 Z Z Z (y1z S72 Z Z Z) fun a74 S74 => y00 S74 Z Z Z (y1z S74 Z Z Z) fun a75 S75 => y00 S75 Z Z Z (y02 S75 Z Z) fun a76 S76 => y00 S76 Z Z Z (y02 S76 Z Z) fun a77 S77 => wpList_nil (hK _ _ ?_)
   replace hS : Sl 43 _ [(8, .slice A68 r66.2.1.length cap69), (9, i6 r66.2.2)] := S77.re ⟨Z, Z, trivial⟩
   clear hK K
   try clear S63 S64 S65 S72 S74 S75 S76 S77
   generalize a77 = a at hS ⊢
   refine wp_ret ?_
   have e := Option.some.inj H
   subst e
   have F78 := Fr.y2f w73 g73 (N + 6) r0
   replace h70 := h70.y2f r0
   replace hb0 := hb0.fr F78 (fun (hm : c0 = N + 6 ∨ c0 = N + 6 + 1) => by omega)
   replace y2v := RdS.fr y2v F78 (by decide) (fun q (hq : y2a q) (hm : q = N + 6 ∨ q = N + 6 + 1) => by have := y33 q hq; omega)
   replace y0c := OwS.fr y0c F78 (fun c' hc (hm : c' = N + 6 ∨ c' = N + 6 + 1) => by omega)
   replace y1o := OwS.fr y1o F78 (fun c' hc (hm : c' = N + 6 ∨ c' = N + 6 + 1) => by omega)
   replace y0d := OwS.fr y0d F78 (fun c' hc (hm : c' = N + 6 ∨ c' = N + 6 + 1) => by omega)
   replace y14 := OwS.fr y14 F78 (fun c' hc (hm : c' = N + 6 ∨ c' = N + 6 + 1) => by omega)
   replace hF := hF.trans F78 (fun c' (hm : c' = N + 6 ∨ c' = N + 6 + 1) => by (try dsimp only); omega)
   repeat (with_reducible first | refine y1i ?_ | refine y0o ?_)
   exact y4d hS Try.results30 Z rfl ⟨_, rfl, (y2f g73 (N + 6) r0), A68, cap69, rfl, ⟨hb0, y2v, y0c, y1o, y14, y0d⟩, h70, hF⟩


end Go.Proofs.Ytcfcffbjdjacfaa.Sim

namespace Go.Proofs.Ytcfcffbjdjacfaa.Sim
open Go
set_option linter.unusedVariables false
set_option linter.unusedSimpArgs false

/-! ### y3n: function 32 -/
def y3n.f (p0 : y06) (p1 : Int) : Option (Bool) := (if ((decide (0 ≤ p1)) && (decide (p1 < (p0.D.length : Int)))) = true then (idx p0.On p1).bind fun x37 => some x37 else some false).bind fun t41 => some t41
set_option maxRecDepth 100000 in
set_option maxHeartbeats 4000000 in
theorem y3n.calls {p0 : y06} {c0 : Nat} {y2a : Nat → Prop} {b_p0 : Nat} {y2o : Option Addr} {y1l : Nat} {y0x : Option Addr} {y0m : Nat} {y24 : Option Addr} {y1d : Nat} {y1m : Option Addr} {y0y : Nat} {y0z : Option Addr} {y0n : Nat} {p1 : Int} {w : World} {g : Nat → Nat} {out : Bool} (N : Nat) (hp0 : y2q w g c0 y2a b_p0 y2o y1l y0x y0m y24 y1d y1m y0y y0z y0n p0) (hc0 : c0 + 9 ≤ N) (y33 : ∀ c, y2a c → c < N ∧ (c < c0 ∨ c0 + 9 ≤ c)) (H : y3n.f p0 p1 = some out) :
  Calls Try.prog 32 #[.pointer (so b_p0), i6 p1] w (fun e w' => ∃ v, e = .returned v ∧ ∃ (g' : Nat → Nat), v = .bool out ∧ Fr (fun q => N ≤ q) w g w' g') := by
 unfold y3n.f at H
 refine y1k Try.func32 rfl Try.ntmps32 Z (fun a hS => ?_)
 replace hS : Sl 25 a [(0, .pointer (so b_p0)), (1, i6 p1)] := hS
 have hF : Fr (fun q => N ≤ q) w g w g := Fr.refl _ _ _
 obtain ⟨hb0, y2v, y0c, y1o, y14, y0d⟩ := hp0
 refine y16 [(0, .pointer (so b_p0)), (1, i6 p1)] (fun R hR => y00 hS Z Z Z (y02 hS Z Z) fun a1 S1 => wpList_nil (hR _ (S1.re ⟨Z, Z, trivial⟩))) ?_
 clear hS a; intro a hS
 obtain ⟨t41, ht42, H⟩ := y0b H
 refine y0t (fun K hK => ?_)
 refine y00 hS Z Z Z (y03 hS Z Z) fun a2 S2 => y00 S2 Z Z Z (y2l S2 Z Z rfl b_geq) fun a3 S3 => y00 S3 Z Z Z (y03 S3 Z Z) fun a4 S4 => ?_
 refine y4b (N := 25) 8 [(0, .pointer (so b_p0)), (1, i6 p1), (15, .bool ((decide (0 ≤ p1)) && (decide (p1 < (p0.D.length : Int)))))] ?_ (fun hk => ?_)
 rotate_left
 ·rcases Bool.eq_false_or_eq_true (decide (0 ≤ p1)) with hb5 | hb5
  ·refine y0p S4 (y0a S4 Z Z rfl hb5) Z Z (y03 S4 Z Z) fun a13 S13 => y0p S13 (y0a S13 Z Z rfl hb5) Z Z (y03 S13 Z Z) fun a14 S14 => y0p S14 (y0a S14 Z Z rfl hb5) Z Z (y4s S14 Z Z) fun a15 S15 => y0p S15 (y0a S15 Z Z rfl hb5) Z Z (y1e (off := 0) S15 Z Z (by kernel_rfl)) fun a16 S16 => y0p S16 (y0a S16 Z Z rfl hb5) Z Z (y0u (n := 1) S16 Z Z (by kernel_rfl) (Bx.cell hb0 Z)) fun a17 S17 => y0p S17 (y0a S17 Z Z rfl hb5) Z Z (y4x (e := 30) (sz := 3) (by_ := 40) S17 Z Z (by kernel_rfl)) fun a18 S18 => y0p S18 (y0a S18 Z Z rfl hb5) Z Z (y2l S18 Z Z rfl y4t) fun a19 S19 => y00 S19 Z Z Z (y2s S19 Z Z rfl hb5) fun a20 S20 => hk _ (S20.re ⟨rfl, rfl, (by rw [hb5]; rfl), trivial⟩)
  ·refine y1c S4 (y05 S4 Z Z rfl hb5) Z Z fun a21 S21 => y1c S21 (y05 S21 Z Z rfl hb5) Z Z fun a22 S22 => y1c S22 (y05 S22 Z Z rfl hb5) Z Z fun a23 S23 => y1c S23 (y05 S23 Z Z rfl hb5) Z Z fun a24 S24 => y1c S24 (y05 S24 Z Z rfl hb5) Z Z fun a25 S25 => y1c S25 (y05 S25 Z Z rfl hb5) Z Z fun a26 S26 => y1c S26 (y05 S26 Z Z rfl hb5) Z Z fun a27 S27 => y00 S27 Z Z Z (y2t S27 Z Z rfl hb5) fun a28 S28 => hk _ (S28.re ⟨rfl, rfl, (by rw [hb5]; rfl), trivial⟩)
 intro a29 S29
 refine y00 S29 Z Z Z (y03 S29 Z Z) fun a30 S30 => ?_
 refine y4b (N := 25) 8 [(24, .bool t41)] ?_ (fun hk => ?_)
 rotate_left
 ·rcases Bool.eq_false_or_eq_true (((decide (0 ≤ p1)) && (decide (p1 < (p0.D.length : Int))))) with hb31 | hb31
  ·have H := y3f hb31 ht42
   obtain ⟨x48, hx49, H⟩ := y0b H
   have e52 := Option.some.inj H
   refine y0p S30 (y0a S30 Z Z rfl hb31) Z Z (y03 S30 Z Z) fun a43 S43 => y0p S43 (y0a S43 Z Z rfl hb31) Z Z (y4s S43 Z Z) fun a44 S44 => y0p S44 (y0a S44 Z Z rfl hb31) Z Z (y1e (off := 2) S44 Z Z (by kernel_rfl)) fun a45 S45 => y0p S45 (y0a S45 Z Z rfl hb31) Z Z (y0u (n := 1) S45 Z Z (by kernel_rfl) (Bx.cell hb0 Z)) fun a46 S46 => y0p S46 (y0a S46 Z Z rfl hb31) Z Z (y03 S46 Z Z) fun a47 S47 => y0p S47 (y0a S47 Z Z rfl hb31) Z Z (y1j (e := 4) (sz := 1) (by_ := 1) S47 Z Z Z (by kernel_rfl) (RdS.some_ (OwS.rd y1o) hx49) (y26 hx49) (y27 hx49)) fun a50 S50 => y0p S50 (y0a S50 Z Z rfl hb31) Z Z (y0u (n := 1) S50 Z Z (by kernel_rfl) (RdS.cell (i := p1) (sz := 1) (j := 0) (OwS.rd y1o) hx49 Z)) fun a51 S51 => y00 S51 Z Z Z (y2s S51 Z Z rfl hb31) fun a53 S53 => hk _ (S53.re ⟨(by rw [← e52]; rfl), trivial⟩)
  ·have H := y3g hb31 ht42
   have e54 := Option.some.inj H
   refine y1c S30 (y05 S30 Z Z rfl hb31) Z Z fun a55 S55 => y1c S55 (y05 S55 Z Z rfl hb31) Z Z fun a56 S56 => y1c S56 (y05 S56 Z Z rfl hb31) Z Z fun a57 S57 => y1c S57 (y05 S57 Z Z rfl hb31) Z Z fun a58 S58 => y1c S58 (y05 S58 Z Z rfl hb31) Z Z fun a59 S59 => y1c S59 (y05 S59 Z Z rfl hb31) Z Z fun a60 S60 => y1c S60 (y05 S60 Z Z rfl hb31) Z Z fun a61 S61 => y00 S61 Z Z Z (y2t S61 Z Z rfl hb31) fun a62 S62 => hk _ (S62.re ⟨(by rw [← e54]; rfl), trivial⟩)
 intro a63 S63
 refine y00 S63 Z Z Z (y02 S63 Z Z) fun a64 S64 => wpList_nil (hK _ _ ?_)
 replace hS : Sl 25 _ [(4, .bool t41)] := S64.re ⟨Z, trivial⟩
 clear hK K
 try clear S2 S3 S4 S29 S30 S63 S64
 generalize a64 = a at hS ⊢
 refine wp_ret ?_
 have e := Option.some.inj H
 subst e
 repeat (with_reducible first | refine y1i ?_ | refine y0o ?_)
 exact y3v hS Try.results32 rfl ⟨_, rfl, g, rfl, hF⟩


end Go.Proofs.Ytcfcffbjdjacfaa.Sim

namespace Go.Proofs.Ytcfcffbjdjacfaa.Sim
open Go
set_option linter.unusedVariables false
set_option linter.unusedSimpArgs false

/-! ### y37: function 31 -/
def y37.f (p0 : y06) : Option (Int × Bool) := (y25.f p0).bind fun r4 => if decide (r4 < 0) = true then (some (0, false)) else ((idx p0.Since r4).bind fun x20 => (idx p0.D r4).bind fun x29 => some (wu (x20 + x29.Delay), true))
set_option maxRecDepth 100000 in
set_option maxHeartbeats 4000000 in
theorem y37.calls {p0 : y06} {c0 : Nat} {y2a : Nat → Prop} {b_p0 : Nat} {y2o : Option Addr} {y1l : Nat} {y0x : Option Addr} {y0m : Nat} {y24 : Option Addr} {y1d : Nat} {y1m : Option Addr} {y0y : Nat} {y0z : Option Addr} {y0n : Nat} {w : World} {g : Nat → Nat} {out : Int × Bool} (N : Nat) (hp0 : y2q w g c0 y2a b_p0 y2o y1l y0x y0m y24 y1d y1m y0y y0z y0n p0) (hc0 : c0 + 9 ≤ N) (y33 : ∀ c, y2a c → c < N ∧ (c < c0 ∨ c0 + 9 ≤ c)) (H : y37.f p0 = some out) :
  Calls Try.prog 31 #[.pointer (so b_p0)] w (fun e w' => ∃ v, e = .returned v ∧ ∃ (g' : Nat → Nat), v = .tuple #[.int .u64 out.1, .bool out.2] ∧ Fr (fun q => N ≤ q) w g w' g') := by
 unfold y37.f at H
 refine y1k Try.func31 rfl Try.ntmps31 Z (fun a hS => ?_)
 replace hS : Sl 25 a [(0, .pointer (so b_p0))] := hS
 have hF : Fr (fun q => N ≤ q) w g w g := Fr.refl _ _ _
 obtain ⟨hb0, y2v, y0c, y1o, y14, y0d⟩ := hp0
 refine y16 [(0, .pointer (so b_p0))] (fun R hR => y00 hS Z Z Z (y02 hS Z Z) fun a1 S1 => y00 S1 Z Z Z (y02 S1 Z Z) fun a2 S2 => wpList_nil (hR _ (S2.re ⟨Z, trivial⟩))) ?_
 clear hS a; intro a hS
 obtain ⟨r4, hr5, H⟩ := y0b H
 refine y0t (fun K hK => ?_)
 refine y00 hS Z Z Z (y03 hS Z Z) fun a3 S3 => ?_
 refine y1y S3 Z Z Z (y2z S3 Z Z (by kernel_rfl)) (y25.calls (c0 := c0) (b_p0 := b_p0) (y2o := y2o) (y1l := y1l) (y2a := y2a) (y0x := y0x) (y0m := y0m) (y24 := y24) (y1d := y1d) (y1m := y1m) (y0y := y0y) (y0z := y0z) (y0n := y0n) (p0 := p0) (g := g) (N + 0)  ⟨hb0, y2v, y0c, y1o, y14, y0d⟩ (by omega) (fun q (hq : y2a q) => by have := y33 q hq; omega) hr5) ?_
 rintro _ a6 w7 ⟨g7, rfl, F7⟩ S6
 replace hb0 := hb0.fr F7 (fun (hm : N + 0 ≤ c0) => by omega)
 replace y2v := RdS.fr y2v F7 (by decide) (fun q (hq : y2a q) (hm : N + 0 ≤ q) => by have := y33 q hq; omega)
 replace y0c := OwS.fr y0c F7 (fun c' hc (hm : N + 0 ≤ c') => by omega)
 replace y1o := OwS.fr y1o F7 (fun c' hc (hm : N + 0 ≤ c') => by omega)
 replace y0d := OwS.fr y0d F7 (fun c' hc (hm : N + 0 ≤ c') => by omega)
 replace y14 := OwS.fr y14 F7 (fun c' hc (hm : N + 0 ≤ c') => by omega)
 replace hF := hF.trans F7 (fun c' (hm : N + 0 ≤ c') => by (try dsimp only); omega)
 refine y00 S6 Z Z Z (y02 S6 Z Z) fun a8 S8 => wpList_nil (hK _ _ ?_)
 replace hS : Sl 25 _ [(0, .pointer (so b_p0)), (4, i6 r4)] := S8.re ⟨Z, Z, trivial⟩
 clear hK K
 try clear S3 S6 S8
 generalize a8 = a at hS ⊢
 refine wp_seq ?_
 refine y16 [(0, .pointer (so b_p0)), (4, i6 r4), (8, .bool (decide (r4 < 0)))] (fun R hR => y00 hS Z Z Z (y03 hS Z Z) fun a9 S9 => y00 S9 Z Z Z (y2l S9 Z Z rfl y4t) fun a10 S10 => wpList_nil (hR _ (S10.re ⟨Z, Z, Z, trivial⟩))) ?_
 clear hS a; intro a hS
 refine y2m hS Z (fun hb11 => ?_) (fun hb11 => ?_)
 ·replace H := y3f hb11 H
  refine y16 [(2, .int .u64 0), (3, .bool false)] (fun R hR => y00 hS Z Z Z (y02 hS Z Z) fun a12 S12 => y00 S12 Z Z Z (y02 S12 Z Z) fun a13 S13 => wpList_nil (hR _ (S13.re ⟨Z, Z, trivial⟩))) ?_
  clear hS a; intro a hS
  refine wp_ret ?_
  have e := Option.some.inj H
  subst e
  repeat (with_reducible first | refine y1i ?_ | refine y0o ?_)
  exact y4d hS Try.results31 Z rfl ⟨_, rfl, g7, rfl, hF⟩
 ·replace H := y3g hb11 H
  refine wp_skip ?_
  change Code.wp _ _ _ _ _
  obtain ⟨x20, hx21, H⟩ := y0b H
  obtain ⟨x29, hx30, H⟩ := y0b H
  refine c_draw (fun K hK => y4m (fun q => False) g7 [] 18 (ba 0 18) (by kernel_rfl) Z Z (fun w14 hw14 => ?_))
  have F14 : Fr (fun _ => False) w7 g7 w14 g7 := by rw [hw14]; exact Fr.drew _ _ _
  replace hb0 := hb0.fr F14 (fun h => h)
  replace y2v := RdS.fr y2v F14 (by decide) (fun _ _ h => h)
  replace y0c := OwS.fr y0c F14 (fun _ _ h => h)
  replace y1o := OwS.fr y1o F14 (fun _ _ h => h)
  replace y0d := OwS.fr y0d F14 (fun _ _ h => h)
  replace y14 := OwS.fr y14 F14 (fun _ _ h => h)
  replace hF := hF.trans F14 (fun _ h => h.elim)
  have hC : Fr (fun q => False) w14 g7 w14 g7 := Fr.refl _ _ _
  refine y1b hS 0 (ba 1 17) Z Z Z Z (by kernel_rfl) (fun _ _ _ h => h) (fun _ => (y03 hS Z Z)) fun a15 S15 => y1b S15 1 (ba 2 16) Z Z Z Z (by kernel_rfl) (fun _ _ _ h => h) (fun _ => (y4s S15 Z Z)) fun a16 S16 => y1b S16 2 (ba 3 15) Z Z Z Z (by kernel_rfl) (fun _ _ _ h => h) (fun _ => (y1e (off := 4) S16 Z Z (by kernel_rfl))) fun a17 S17 => y3w S17 3 (ba 4 14) Z Z Z Z (by kernel_rfl) (fun _ _ _ h => h) ⟨_, hC⟩ (fun w' g' Fz => (y0u (n := 1) S17 Z Z (by kernel_rfl) (Bx.cell (hb0.fr Fz (fun h => h)) Z))) fun a18 S18 => y1b S18 4 (ba 5 13) Z Z Z Z (by kernel_rfl) (fun _ _ _ h => h) (fun _ => (y03 S18 Z Z)) fun a19 S19 => y1b S19 5 (ba 6 12) Z Z Z Z (by kernel_rfl) (fun _ _ _ h => h) (fun _ => (y1j (e := 28) (sz := 1) (by_ := 8) S19 Z Z Z (by kernel_rfl) (RdS.some_ (OwS.rd y0d) hx21) (y26 hx21) (y27 hx21))) fun a22 S22 => y3w S22 6 (ba 7 11) Z Z Z Z (by kernel_rfl) (fun _ _ _ h => h) ⟨_, hC⟩ (fun w' g' Fz => (y0u (n := 1) S22 Z Z (by kernel_rfl) (RdS.cell (i := r4) (sz := 1) (j := 0) (OwS.rd (OwS.fr y0d Fz (fun _ _ h => h))) hx21 Z))) fun a23 S23 => y1b S23 7 (ba 8 10) Z Z Z Z (by kernel_rfl) (fun _ _ _ h => h) (fun _ => (y03 S23 Z Z)) fun a24 S24 => y1b S24 8 (ba 9 9) Z Z Z Z (by kernel_rfl) (fun _ _ _ h => h) (fun _ => (y4s S24 Z Z)) fun a25 S25 => y1b S25 9 (ba 10 8) Z Z Z Z (by kernel_rfl) (fun _ _ _ h => h) (fun _ => (y1e (off := 0) S25 Z Z (by kernel_rfl))) fun a26 S26 => y3w S26 10 (ba 11 7) Z Z Z Z (by kernel_rfl) (fun _ _ _ h => h) ⟨_, hC⟩ (fun w' g' Fz => (y0u (n := 1) S26 Z Z (by kernel_rfl) (Bx.cell (hb0.fr Fz (fun h => h)) Z))) fun a27 S27 => y1b S27 11 (ba 12 6) Z Z Z Z (by kernel_rfl) (fun _ _ _ h => h) (fun _ => (y03 S27 Z Z)) fun a28 S28 => ?_
  obtain ⟨_, ⟨A32, cap33, rfl, h34⟩, hel31⟩ := El.of y2v hx30 (by decide)
  replace hel31 : El w14 g7 y2a y2o (r4.toNat * 3) [i6 x29.Parent, .slice A32 x29.Suppliers.length cap33, .int .u64 x29.Delay] := hel31
  refine y1b S28 12 (ba 13 5) Z Z Z Z (by kernel_rfl) (fun _ _ _ h => h) (fun _ => (y1j (e := 30) (sz := 3) (by_ := 40) S28 Z Z Z (by kernel_rfl) (RdS.some_ y2v hx30) (y26 hx30) (y27 hx30))) fun a37 S37 => y1b S37 13 (ba 14 4) Z Z Z Z (by kernel_rfl) (fun _ _ _ h => h) (fun _ => (y2w (off := 2) S37 Z Z (by kernel_rfl))) fun a38 S38 => y3w S38 14 (ba 15 3) Z Z Z Z (by kernel_rfl) (fun _ _ _ h => h) ⟨_, hC⟩ (fun w' g' Fz => (y0u (n := 1) S38 Z Z (by kernel_rfl) (El.cell (j := 2) (hel31.fr Fz (fun _ _ h => h)) Z))) fun a39 S39 => y1b S39 15 (ba 16 2) Z Z Z Z (by kernel_rfl) (fun _ _ _ h => h) (fun _ => (y2l S39 Z Z rfl y4z)) fun a40 S40 => y1b S40 16 (ba 17 1) Z Z Z Z (by kernel_rfl) (fun _ _ _ h => h) (fun _ => (y02 S40 Z Z)) fun a41 S41 => y1b S41 17 (ba 18 0) Z Z Z Z (by kernel_rfl) (fun _ _ _ h => h) (fun _ => (y02 S41 Z Z)) fun a42 S42 => y4v (by kernel_rfl) (hK _ _ ?_)
  replace hS : Sl 25 _ [(2, .int .u64 (wu (x20 + x29.Delay))), (3, .bool true)] := S42.re ⟨Z, Z, trivial⟩
  clear hK K hC
  try clear S15 S16 S17 S18 S19 S22 S23 S24 S25 S26 S27 S28 S37 S38 S39 S40 S41 S42
  generalize a42 = a at hS ⊢
  refine wp_ret ?_
  have e := Option.some.inj H
  subst e
  repeat (with_reducible first | refine y1i ?_ | refine y0o ?_)
  exact y4d hS Try.results31 Z rfl ⟨_, rfl, g7, rfl, hF⟩


end Go.Proofs.Ytcfcffbjdjacfaa.Sim

namespace Go.Proofs.Ytcfcffbjdjacfaa.Sim
open Go
set_option linter.unusedVariables false
set_option linter.unusedSimpArgs false

/-! ### y3q: function 33 -/
def y3q.f (p0 : y06) (p1 : Int) : Option (Int) := if ((decide (p1 < 0)) || (decide ((p0.D.length : Int) ≤ p1))) = true then (some 0) else ((idx p0.Use p1).bind fun x37 => some x37)
set_option maxRecDepth 100000 in
set_option maxHeartbeats 4000000 in
theorem y3q.calls {p0 : y06} {c0 : Nat} {y2a : Nat → Prop} {b_p0 : Nat} {y2o : Option Addr} {y1l : Nat} {y0x : Option Addr} {y0m : Nat} {y24 : Option Addr} {y1d : Nat} {y1m : Option Addr} {y0y : Nat} {y0z : Option Addr} {y0n : Nat} {p1 : Int} {w : World} {g : Nat → Nat} {out : Int} (N : Nat) (hp0 : y2q w g c0 y2a b_p0 y2o y1l y0x y0m y24 y1d y1m y0y y0z y0n p0) (hc0 : c0 + 9 ≤ N) (y33 : ∀ c, y2a c → c < N ∧ (c < c0 ∨ c0 + 9 ≤ c)) (H : y3q.f p0 p1 = some out) :
  Calls Try.prog 33 #[.pointer (so b_p0), i6 p1] w (fun e w' => ∃ v, e = .returned v ∧ ∃ (g' : Nat → Nat), v = i6 out ∧ Fr (fun q => N ≤ q) w g w' g') := by
 unfold y3q.f at H
 refine y1k Try.func33 rfl Try.ntmps33 Z (fun a hS => ?_)
 replace hS : Sl 23 a [(0, .pointer (so b_p0)), (1, i6 p1)] := hS
 have hF : Fr (fun q => N ≤ q) w g w g := Fr.refl _ _ _
 obtain ⟨hb0, y2v, y0c, y1o, y14, y0d⟩ := hp0
 refine y16 [(0, .pointer (so b_p0)), (1, i6 p1)] (fun R hR => y00 hS Z Z Z (y02 hS Z Z) fun a1 S1 => wpList_nil (hR _ (S1.re ⟨Z, Z, trivial⟩))) ?_
 clear hS a; intro a hS
 refine wp_seq ?_
 refine y0t (fun K hK => ?_)
 refine y00 hS Z Z Z (y03 hS Z Z) fun a2 S2 => y00 S2 Z Z Z (y2l S2 Z Z rfl y4t) fun a3 S3 => y00 S3 Z Z Z (y03 S3 Z Z) fun a4 S4 => ?_
 refine y4b (N := 23) 8 [(0, .pointer (so b_p0)), (1, i6 p1), (15, .bool ((decide (p1 < 0)) || (decide ((p0.D.length : Int) ≤ p1))))] ?_ (fun hk => ?_)
 rotate_left
 ·rcases Bool.eq_false_or_eq_true (decide (p1 < 0)) with hb5 | hb5
  ·refine y1c S4 (y05 S4 Z Z rfl hb5) Z Z fun a13 S13 => y1c S13 (y05 S13 Z Z rfl hb5) Z Z fun a14 S14 => y1c S14 (y05 S14 Z Z rfl hb5) Z Z fun a15 S15 => y1c S15 (y05 S15 Z Z rfl hb5) Z Z fun a16 S16 => y1c S16 (y05 S16 Z Z rfl hb5) Z Z fun a17 S17 => y1c S17 (y05 S17 Z Z rfl hb5) Z Z fun a18 S18 => y1c S18 (y05 S18 Z Z rfl hb5) Z Z fun a19 S19 => y00 S19 Z Z Z (y2s S19 Z Z rfl hb5) fun a20 S20 => hk _ (S20.re ⟨rfl, rfl, (by rw [hb5]; rfl), trivial⟩)
  ·refine y0p S4 (y0a S4 Z Z rfl hb5) Z Z (y03 S4 Z Z) fun a21 S21 => y0p S21 (y0a S21 Z Z rfl hb5) Z Z (y03 S21 Z Z) fun a22 S22 => y0p S22 (y0a S22 Z Z rfl hb5) Z Z (y4s S22 Z Z) fun a23 S23 => y0p S23 (y0a S23 Z Z rfl hb5) Z Z (y1e (off := 0) S23 Z Z (by kernel_rfl)) fun a24 S24 => y0p S24 (y0a S24 Z Z rfl hb5) Z Z (y0u (n := 1) S24 Z Z (by kernel_rfl) (Bx.cell hb0 Z)) fun a25 S25 => y0p S25 (y0a S25 Z Z rfl hb5) Z Z (y4x (e := 30) (sz := 3) (by_ := 40) S25 Z Z (by kernel_rfl)) fun a26 S26 => y0p S26 (y0a S26 Z Z rfl hb5) Z Z (y2l S26 Z Z rfl b_geq) fun a27 S27 => y00 S27 Z Z Z (y2t S27 Z Z rfl hb5) fun a28 S28 => hk _ (S28.re ⟨rfl, rfl, (by rw [hb5]; rfl), trivial⟩)
 intro a29 S29
 refine wpList_nil (hK _ _ ?_)
 replace hS : Sl 23 _ [(0, .pointer (so b_p0)), (1, i6 p1), (15, .bool ((decide (p1 < 0)) || (decide ((p0.D.length : Int) ≤ p1))))] := S29.re ⟨Z, Z, Z, trivial⟩
 clear hK K
 try clear S2 S3 S4 S29
 generalize a29 = a at hS ⊢
 refine y2m hS Z (fun hb30 => ?_) (fun hb30 => ?_)
 ·replace H := y3f hb30 H
  refine y16 [(4, i6 0)] (fun R hR => y00 hS Z Z Z (y02 hS Z Z) fun a31 S31 => wpList_nil (hR _ (S31.re ⟨Z, trivial⟩))) ?_
  clear hS a; intro a hS
  refine wp_ret ?_
  have e := Option.some.inj H
  subst e
  repeat (with_reducible first | refine y1i ?_ | refine y0o ?_)
  exact y3v hS Try.results33 rfl ⟨_, rfl, g, rfl, hF⟩
 ·replace H := y3g hb30 H
  refine wp_skip ?_
  change Code.wp _ _ _ _ _
  obtain ⟨x37, hx38, H⟩ := y0b H
  refine y16 [(4, i6 x37)] (fun R hR => y00 hS Z Z Z (y03 hS Z Z) fun a32 S32 => y00 S32 Z Z Z (y4s S32 Z Z) fun a33 S33 => y00 S33 Z Z Z (y1e (off := 3) S33 Z Z (by kernel_rfl)) fun a34 S34 => y00 S34 Z Z Z (y0u (n := 1) S34 Z Z (by kernel_rfl) (Bx.cell hb0 Z)) fun a35 S35 => y00 S35 Z Z Z (y03 S35 Z Z) fun a36 S36 => y00 S36 Z Z Z (y1j (e := 3) (sz := 1) (by_ := 8) S36 Z Z Z (by kernel_rfl) (RdS.some_ (OwS.rd y14) hx38) (y26 hx38) (y27 hx38)) fun a39 S39 => y00 S39 Z Z Z (y0u (n := 1) S39 Z Z (by kernel_rfl) (RdS.cell (i := p1) (sz := 1) (j := 0) (OwS.rd y14) hx38 Z)) fun a40 S40 => y00 S40 Z Z Z (y02 S40 Z Z) fun a41 S41 => wpList_nil (hR _ (S41.re ⟨Z, trivial⟩))) ?_
  clear hS a; intro a hS
  refine wp_ret ?_
  have e := Option.some.inj H
  subst e
  repeat (with_reducible first | refine y1i ?_ | refine y0o ?_)
  exact y3v hS Try.results33 rfl ⟨_, rfl, g, rfl, hF⟩


end Go.Proofs.Ytcfcffbjdjacfaa.Sim

namespace Go.Proofs.Ytcfcffbjdjacfaa.Sim
open Go
set_option linter.unusedVariables false
set_option linter.unusedSimpArgs false

/-! ### y3m: function 20 -/
def y3m.l1 (p0 : List y08) (m0_1 : Int) (x344 : y08) : Nat → y06 → Int → Option (Fl (Fl ((Option y06) × Int) (y06)) (y06))
 | 0, _, _ => none
 | k465 + 1, m1_0, m1_1 => if decide (m1_1 < (x344.Suppliers.length : Int)) = true then ((idx x344.Suppliers m1_1).bind fun x475 => if ((decide (x475 < 0)) || (decide ((p0.length : Int) ≤ x475))) = true then (some (.out (.out ((none : Option y06), 1)))) else ((app m1_0.Links [(y0g.mk m0_1 x475)]).bind fun y512 => y3m.l1 p0 m0_1 x344 k465 (y06.mk p0 y512 m1_0.On m1_0.Use m1_0.Since m1_0.Clock) (wi (m1_1 + 1)))) else (some (.nxt (y06.mk p0 m1_0.Links m1_0.On m1_0.Use m1_0.Since m1_0.Clock)))
def y3m.l0 (p0 : List y08) : Nat → y06 → Int → Option (Fl ((Option y06) × Int) (y06))
 | 0, _, _ => none
 | k330 + 1, m0_0, m0_1 => if decide (m0_1 < (p0.length : Int)) = true then (((idx p0 m0_1).bind fun x344 => if ((((decide (x344.Parent < (-1))) || (decide ((p0.length : Int) ≤ x344.Parent))) || (decide (1048576 < x344.Delay))) || (decide (1024 < (x344.Suppliers.length : Int)))) = true then (some (.out (.out ((none : Option y06), 1)))) else ((if decide (0 ≤ x344.Parent) = true then ((app m0_0.Links [(y0g.mk m0_1 x344.Parent)]).bind fun y429 => some (y06.mk p0 y429 m0_0.On m0_0.Use m0_0.Since m0_0.Clock)) else (some (y06.mk p0 m0_0.Links m0_0.On m0_0.Use m0_0.Since m0_0.Clock)) : Option (y06)).bind fun v419 => y3m.l1 p0 m0_1 x344 FUEL (y06.mk p0 v419.Links v419.On v419.Use v419.Since v419.Clock) 0) : Option (Fl (Fl ((Option y06) × Int) (y06)) (y06))).bind fun o340 => o340.go fun v339 => y3m.l0 p0 k330 (y06.mk p0 v339.Links v339.On v339.Use v339.Since v339.Clock) (wi (m0_1 + 1))) else (some (.nxt (y06.mk p0 m0_0.Links m0_0.On m0_0.Use m0_0.Since m0_0.Clock)))
def y3m.f (p0 : List y08) : Option ((Option y06) × Int) := if decide (64 < (p0.length : Int)) = true then (some ((none : Option y06), 1)) else ((mk (p0.length : Int) false).bind fun y11 => (mk (p0.length : Int) 0).bind fun y17 => (mk (p0.length : Int) 0).bind fun y23 => (y3m.l0 p0 FUEL (y06.mk p0 ([] : List y0g) y11 y17 y23 0) 0 : Option (Fl ((Option y06) × Int) (y06))).bind fun o323 => o323.go fun v322 => (y3i.f (p0.length : Int) v322.Links).bind fun r557 => if (r557 != 0) = true then (some ((none : Option y06), r557)) else (some ((some v322), 0)))
set_option maxRecDepth 100000 in
set_option maxHeartbeats 4000000 in
theorem y3m.calls {p0 : List y08} {A0 : Option Addr} {cap0 : Nat} {C0 : Nat → Prop} {w : World} {g : Nat → Nat} {out : (Option y06) × Int} (N : Nat) (r0 : Nat) (hp0 : RdS y0f w g C0 A0 cap0 p0) (hC0 : ∀ c, C0 c → c < N) (hr0 : r0 + 9 ≤ N) (H : y3m.f p0 = some out) :
  Calls Try.prog 20 #[.slice A0 p0.length cap0] w (fun e w' => ∃ v, e = .returned v ∧ ∃ (g' : Nat → Nat) (p_r0 : Option Addr), v = .tuple #[.pointer p_r0, i6 out.2] ∧ ref28_Manager_Opt w' g' r0 C0 p_r0 out.1 ∧ Fr (fun q => (r0 ≤ q ∧ q < r0 + 9) ∨ N ≤ q) w g w' g') := by
 unfold y3m.f at H
 refine y1k Try.func20 rfl Try.ntmps20 Z (fun a hS => ?_)
 replace hS : Sl 116 a [(0, .slice A0 p0.length cap0)] := hS
 have hF : Fr (fun q => (r0 ≤ q ∧ q < r0 + 9) ∨ N ≤ q) w g w g := Fr.refl _ _ _
 refine y16 [(0, .slice A0 p0.length cap0)] (fun R hR => y00 hS Z Z Z (y02 hS Z Z) fun a1 S1 => y00 S1 Z Z Z (y02 S1 Z Z) fun a2 S2 => wpList_nil (hR _ (S2.re ⟨Z, trivial⟩))) ?_
 clear hS a; intro a hS
 refine y16 [(0, .slice A0 p0.length cap0), (4, i6 (p0.length : Int))] (fun R hR => y00 hS Z Z Z (y03 hS Z Z) fun a3 S3 => y00 S3 Z Z Z (y4x (e := 30) (sz := 3) (by_ := 40) S3 Z Z (by kernel_rfl)) fun a4 S4 => y00 S4 Z Z Z (y02 S4 Z Z) fun a5 S5 => wpList_nil (hR _ (S5.re ⟨Z, Z, trivial⟩))) ?_
 clear hS a; intro a hS
 refine wp_seq ?_
 refine y16 [(0, .slice A0 p0.length cap0), (4, i6 (p0.length : Int)), (13, .bool (decide (64 < (p0.length : Int))))] (fun R hR => y00 hS Z Z Z (y03 hS Z Z) fun a6 S6 => y00 S6 Z Z Z (y2l S6 Z Z rfl b_gtr) fun a7 S7 => wpList_nil (hR _ (S7.re ⟨Z, Z, Z, trivial⟩))) ?_
 clear hS a; intro a hS
 refine y2m hS Z (fun hb8 => ?_) (fun hb8 => ?_)
 ·replace H := y3f hb8 H
  refine y16 [(2, .pointer none), (3, i6 1)] (fun R hR => y00 hS Z Z Z (y02 hS Z Z) fun a9 S9 => y00 S9 Z Z Z (y02 S9 Z Z) fun a10 S10 => wpList_nil (hR _ (S10.re ⟨Z, Z, trivial⟩))) ?_
  clear hS a; intro a hS
  refine wp_ret ?_
  have e := Option.some.inj H
  subst e
  repeat (with_reducible first | refine y1i ?_ | refine y0o ?_)
  exact y4d hS Try.results20 Z rfl ⟨_, rfl, g, none, rfl, rfl, hF⟩
 ·replace H := y3g hb8 H
  refine wp_skip ?_
  change Code.wp _ _ _ _ _
  obtain ⟨y11, hy12, H⟩ := y0b H
  obtain ⟨y17, hy18, H⟩ := y0b H
  obtain ⟨y23, hy24, H⟩ := y0b H
  refine y4u (fun a w169 => ∃ (g169 : Nat → Nat), ∃ (b170 : Nat), ∃ (A172 : Option Addr), ∃ (cap173 : Nat), ∃ (A175 : Option Addr), ∃ (cap176 : Nat), ∃ (A178 : Option Addr), ∃ (cap179 : Nat), Sl 116 a [(0, .slice A0 p0.length cap0), (4, i6 (p0.length : Int)), (5, .pointer (so b170))] ∧ OwS y4p 4 w169 g169 (N + 0) A172 cap173 y11 ∧ OwS (kint .i64) 3 w169 g169 (N + 2) A175 cap176 y17 ∧ OwS (kint .u64) 28 w169 g169 (N + 4) A178 cap179 y23 ∧ Bx w169 g169 (N + 6) b170 63 [.slice A0 p0.length cap0, .slice none 0 0, .slice A172 y11.length cap173, .slice A175 y17.length cap176, .slice A178 y23.length cap179, .int .u64 0] ∧ RdS y0f w169 g169 C0 A0 cap0 p0 ∧ Fr (fun q => (r0 ≤ q ∧ q < r0 + 9) ∨ N ≤ q) w g w169 g169) (y4m (fun q => False) g [] 10 (ba 0 10) (by kernel_rfl) Z Z (fun w181 hw181 => ?_)) ?_
  ·have F181 : Fr (fun _ => False) w g w181 g := by rw [hw181]; exact Fr.drew _ _ _
   replace hp0 := RdS.fr hp0 F181 (by decide) (fun _ _ h => h)
   replace hF := hF.trans F181 (fun _ h => h.elim)
   have hC : Fr (fun q => False) w181 g w181 g := Fr.refl _ _ _
   refine y1b hS 0 (ba 1 9) Z Z Z Z (by kernel_rfl) (fun _ _ _ h => h) (fun _ => (y03 hS Z Z)) fun a182 S182 => y1b S182 1 (ba 2 8) Z Z Z Z (by kernel_rfl) (fun _ _ _ h => h) (fun _ => (y03 S182 Z Z)) fun a183 S183 => y1b S183 3 #[tt_, tt_, ff_, tt_, ff_, ff_, ff_, ff_, ff_, ff_] Z Z Z Z (by kernel_rfl) (fun _ _ _ h => h) (fun _ => (y03 S183 Z Z)) fun a184 S184 => y1b S184 5 #[tt_, tt_, ff_, tt_, ff_, tt_, ff_, ff_, ff_, ff_] Z Z Z Z (by kernel_rfl) (fun _ _ _ h => h) (fun _ => (y03 S184 Z Z)) fun a185 S185 => ?_
   refine d_three 2 4 6 #[tt_, tt_, tt_, tt_, ff_, tt_, ff_, ff_, ff_, ff_] #[tt_, tt_, ff_, tt_, tt_, tt_, ff_, ff_, ff_, ff_] #[tt_, tt_, ff_, tt_, ff_, tt_, tt_, ff_, ff_, ff_] Z Z Z (by kernel_rfl) (y43 S185 Z Z Z (e_make (e := 4) (sz := 1) (by_ := 1) (z := [.bool false]) (kd := y4p) (N + 0) g S185 Z Z (by kernel_rfl) (by kernel_rfl) Z Z Z (fun _ _ _ => by exact rfl) hy12) (fun _ _ g' hR _ => ⟨g', hC.trans hR.2 (fun _ h => h.elim)⟩) ?_) (y43 S185 Z Z Z (e_make (e := 3) (sz := 1) (by_ := 8) (z := [i6 0]) (kd := (kint .i64)) (N + 2) g S185 Z Z (by kernel_rfl) (by kernel_rfl) Z Z Z (fun _ _ _ => by exact rfl) hy18) (fun _ _ g' hR _ => ⟨g', hC.trans hR.2 (fun _ h => h.elim)⟩) ?_) (y43 S185 Z Z Z (e_make (e := 28) (sz := 1) (by_ := 8) (z := [.int .u64 0]) (kd := (kint .u64)) (N + 4) g S185 Z Z (by kernel_rfl) (by kernel_rfl) Z Z Z (fun _ _ _ => by exact rfl) hy24) (fun _ _ g' hR _ => ⟨g', hC.trans hR.2 (fun _ h => h.elim)⟩) ?_)
   ·rintro _ a190 w191 g191 ⟨⟨A186, cap187, rfl, h188⟩, F191⟩ S190
    have hC191 := hC.trans F191 (fun _ h => h.elim)
    replace hp0 := RdS.fr hp0 F191 (by decide) (fun _ _ h => h)
    replace hF := hF.trans F191 (fun _ h => h.elim)
    refine d_two 4 6 (ba 6 4) #[tt_, tt_, tt_, tt_, ff_, tt_, tt_, ff_, ff_, ff_] Z Z (by kernel_rfl) (y43 S190 Z Z Z (e_make (e := 3) (sz := 1) (by_ := 8) (z := [i6 0]) (kd := (kint .i64)) (N + 2) g191 S190 Z Z (by kernel_rfl) (by kernel_rfl) Z Z Z (fun _ _ _ => by exact rfl) hy18) (fun _ _ g' hR _ => ⟨g', hC191.trans hR.2 (fun _ h => h.elim)⟩) ?_) (y43 S190 Z Z Z (e_make (e := 28) (sz := 1) (by_ := 8) (z := [.int .u64 0]) (kd := (kint .u64)) (N + 4) g191 S190 Z Z (by kernel_rfl) (by kernel_rfl) Z Z Z (fun _ _ _ => by exact rfl) hy24) (fun _ _ g' hR _ => ⟨g', hC191.trans hR.2 (fun _ h => h.elim)⟩) ?_)
    ·rintro _ a196 w197 g197 ⟨⟨A192, cap193, rfl, h194⟩, F197⟩ S196
     have hC197 := hC191.trans F197 (fun _ h => h.elim)
     replace h188 := OwS.fr h188 F197 (fun _ _ h => h)
     replace hp0 := RdS.fr hp0 F197 (by decide) (fun _ _ h => h)
     replace hF := hF.trans F197 (fun _ h => h.elim)
     refine d_one 6 (ba 7 3) Z (by kernel_rfl) (y43 S196 Z Z Z (e_make (e := 28) (sz := 1) (by_ := 8) (z := [.int .u64 0]) (kd := (kint .u64)) (N + 4) g197 S196 Z Z (by kernel_rfl) (by kernel_rfl) Z Z Z (fun _ _ _ => by exact rfl) hy24) (fun _ _ g' hR _ => ⟨g', hC197.trans hR.2 (fun _ h => h.elim)⟩) ?_)
     rintro _ a202 w203 g203 ⟨⟨A198, cap199, rfl, h200⟩, F203⟩ S202
     have hC203 := hC197.trans F203 (fun _ h => h.elim)
     replace h188 := OwS.fr h188 F203 (fun _ _ h => h)
     replace h194 := OwS.fr h194 F203 (fun _ _ h => h)
     replace hp0 := RdS.fr hp0 F203 (by decide) (fun _ _ h => h)
     replace hF := hF.trans F203 (fun _ h => h.elim)
     refine y1b S202 7 (ba 8 2) Z Z Z Z (by kernel_rfl) (fun _ _ _ h => h) (fun _ => (r_build (parts := [(0, .slice A0 p0.length cap0), (2, .slice A186 y11.length cap187), (3, .slice A192 y17.length cap193), (4, .slice A198 y23.length cap199)]) (u := .agg #[.slice A0 p0.length cap0, .slice none 0 0, .slice A186 y11.length cap187, .slice A192 y17.length cap193, .slice A198 y23.length cap199, .int .u64 0]) S202 Z Z (fun _ => by kernel_rfl))) fun a204 S204 => ?_
     refine d_one 8 (ba 9 1) Z (by kernel_rfl) (y43 S204 Z Z Z (e_box (cs := [.slice A0 p0.length cap0, .slice none 0 0, .slice A186 y11.length cap187, .slice A192 y17.length cap193, .slice A198 y23.length cap199, .int .u64 0]) (N + 6) g203 S204 Z Z Z) (fun _ _ g' hR _ => ⟨g', hC203.trans hR.2 (fun _ h => h.elim)⟩) ?_)
     rintro _ a208 w209 g209 ⟨⟨b205, rfl, h206⟩, F209⟩ S208
     have hC209 := hC203.trans F209 (fun _ h => h.elim)
     replace h188 := OwS.fr h188 F209 (fun _ _ h => h)
     replace h194 := OwS.fr h194 F209 (fun _ _ h => h)
     replace h200 := OwS.fr h200 F209 (fun _ _ h => h)
     replace hp0 := RdS.fr hp0 F209 (by decide) (fun _ _ h => h)
     replace hF := hF.trans F209 (fun _ h => h.elim)
     refine y1b S208 9 (ba 10 0) Z Z Z Z (by kernel_rfl) (fun _ _ _ h => h) (fun _ => (y02 S208 Z Z)) fun a210 S210 => y4v (by kernel_rfl) ?_
     exact ⟨g209, b205, A186, cap187, A192, cap193, A198, cap199, S210.re ⟨Z, Z, Z, trivial⟩, h188, h194, h200, h206, hp0, hF⟩
    ·rintro _ a215 w216 g216 ⟨⟨A211, cap212, rfl, h213⟩, F216⟩ S215
     have hC216 := hC191.trans F216 (fun _ h => h.elim)
     replace h188 := OwS.fr h188 F216 (fun _ _ h => h)
     replace hp0 := RdS.fr hp0 F216 (by decide) (fun _ _ h => h)
     replace hF := hF.trans F216 (fun _ h => h.elim)
     refine d_one 4 (ba 7 3) Z (by kernel_rfl) (y43 S215 Z Z Z (e_make (e := 3) (sz := 1) (by_ := 8) (z := [i6 0]) (kd := (kint .i64)) (N + 2) g216 S215 Z Z (by kernel_rfl) (by kernel_rfl) Z Z Z (fun _ _ _ => by exact rfl) hy18) (fun _ _ g' hR _ => ⟨g', hC216.trans hR.2 (fun _ h => h.elim)⟩) ?_)
     rintro _ a221 w222 g222 ⟨⟨A217, cap218, rfl, h219⟩, F222⟩ S221
     have hC222 := hC216.trans F222 (fun _ h => h.elim)
     replace h188 := OwS.fr h188 F222 (fun _ _ h => h)
     replace h213 := OwS.fr h213 F222 (fun _ _ h => h)
     replace hp0 := RdS.fr hp0 F222 (by decide) (fun _ _ h => h)
     replace hF := hF.trans F222 (fun _ h => h.elim)
     refine y1b S221 7 (ba 8 2) Z Z Z Z (by kernel_rfl) (fun _ _ _ h => h) (fun _ => (r_build (parts := [(0, .slice A0 p0.length cap0), (2, .slice A186 y11.length cap187), (3, .slice A217 y17.length cap218), (4, .slice A211 y23.length cap212)]) (u := .agg #[.slice A0 p0.length cap0, .slice none 0 0, .slice A186 y11.length cap187, .slice A217 y17.length cap218, .slice A211 y23.length cap212, .int .u64 0]) S221 Z Z (fun _ => by kernel_rfl))) fun a223 S223 => ?_
     refine d_one 8 (ba 9 1) Z (by kernel_rfl) (y43 S223 Z Z Z (e_box (cs := [.slice A0 p0.length cap0, .slice none 0 0, .slice A186 y11.length cap187, .slice A217 y17.length cap218, .slice A211 y23.length cap212, .int .u64 0]) (N + 6) g222 S223 Z Z Z) (fun _ _ g' hR _ => ⟨g', hC222.trans hR.2 (fun _ h => h.elim)⟩) ?_)
     rintro _ a227 w228 g228 ⟨⟨b224, rfl, h225⟩, F228⟩ S227
     have hC228 := hC222.trans F228 (fun _ h => h.elim)
     replace h188 := OwS.fr h188 F228 (fun _ _ h => h)
     replace h213 := OwS.fr h213 F228 (fun _ _ h => h)
     replace h219 := OwS.fr h219 F228 (fun _ _ h => h)
     replace hp0 := RdS.fr hp0 F228 (by decide) (fun _ _ h => h)
     replace hF := hF.trans F228 (fun _ h => h.elim)
     refine y1b S227 9 (ba 10 0) Z Z Z Z (by kernel_rfl) (fun _ _ _ h => h) (fun _ => (y02 S227 Z Z)) fun a229 S229 => y4v (by kernel_rfl) ?_
     exact ⟨g228, b224, A186, cap187, A217, cap218, A211, cap212, S229.re ⟨Z, Z, Z, trivial⟩, h188, h219, h213, h225, hp0, hF⟩
   ·rintro _ a234 w235 g235 ⟨⟨A230, cap231, rfl, h232⟩, F235⟩ S234
    have hC235 := hC.trans F235 (fun _ h => h.elim)
    replace hp0 := RdS.fr hp0 F235 (by decide) (fun _ _ h => h)
    replace hF := hF.trans F235 (fun _ h => h.elim)
    refine d_two 2 6 (ba 6 4) #[tt_, tt_, ff_, tt_, tt_, tt_, tt_, ff_, ff_, ff_] Z Z (by kernel_rfl) (y43 S234 Z Z Z (e_make (e := 4) (sz := 1) (by_ := 1) (z := [.bool false]) (kd := y4p) (N + 0) g235 S234 Z Z (by kernel_rfl) (by kernel_rfl) Z Z Z (fun _ _ _ => by exact rfl) hy12) (fun _ _ g' hR _ => ⟨g', hC235.trans hR.2 (fun _ h => h.elim)⟩) ?_) (y43 S234 Z Z Z (e_make (e := 28) (sz := 1) (by_ := 8) (z := [.int .u64 0]) (kd := (kint .u64)) (N + 4) g235 S234 Z Z (by kernel_rfl) (by kernel_rfl) Z Z Z (fun _ _ _ => by exact rfl) hy24) (fun _ _ g' hR _ => ⟨g', hC235.trans hR.2 (fun _ h => h.elim)⟩) ?_)
    ·rintro _ a240 w241 g241 ⟨⟨A236, cap237, rfl, h238⟩, F241⟩ S240
     have hC241 := hC235.trans F241 (fun _ h => h.elim)
     replace h232 := OwS.fr h232 F241 (fun _ _ h => h)
     replace hp0 := RdS.fr hp0 F241 (by decide) (fun _ _ h => h)
     replace hF := hF.trans F241 (fun _ h => h.elim)
     refine d_one 6 (ba 7 3) Z (by kernel_rfl) (y43 S240 Z Z Z (e_make (e := 28) (sz := 1) (by_ := 8) (z := [.int .u64 0]) (kd := (kint .u64)) (N + 4) g241 S240 Z Z (by kernel_rfl) (by kernel_rfl) Z Z Z (fun _ _ _ => by exact rfl) hy24) (fun _ _ g' hR _ => ⟨g', hC241.trans hR.2 (fun _ h => h.elim)⟩) ?_)
     rintro _ a246 w247 g247 ⟨⟨A242, cap243, rfl, h244⟩, F247⟩ S246
     have hC247 := hC241.trans F247 (fun _ h => h.elim)
     replace h232 := OwS.fr h232 F247 (fun _ _ h => h)
     replace h238 := OwS.fr h238 F247 (fun _ _ h => h)
     replace hp0 := RdS.fr hp0 F247 (by decide) (fun _ _ h => h)
     replace hF := hF.trans F247 (fun _ h => h.elim)
     refine y1b S246 7 (ba 8 2) Z Z Z Z (by kernel_rfl) (fun _ _ _ h => h) (fun _ => (r_build (parts := [(0, .slice A0 p0.length cap0), (2, .slice A236 y11.length cap237), (3, .slice A230 y17.length cap231), (4, .slice A242 y23.length cap243)]) (u := .agg #[.slice A0 p0.length cap0, .slice none 0 0, .slice A236 y11.length cap237, .slice A230 y17.length cap231, .slice A242 y23.length cap243, .int .u64 0]) S246 Z Z (fun _ => by kernel_rfl))) fun a248 S248 => ?_
     refine d_one 8 (ba 9 1) Z (by kernel_rfl) (y43 S248 Z Z Z (e_box (cs := [.slice A0 p0.length cap0, .slice none 0 0, .slice A236 y11.length cap237, .slice A230 y17.length cap231, .slice A242 y23.length cap243, .int .u64 0]) (N + 6) g247 S248 Z Z Z) (fun _ _ g' hR _ => ⟨g', hC247.trans hR.2 (fun _ h => h.elim)⟩) ?_)
     rintro _ a252 w253 g253 ⟨⟨b249, rfl, h250⟩, F253⟩ S252
     have hC253 := hC247.trans F253 (fun _ h => h.elim)
     replace h232 := OwS.fr h232 F253 (fun _ _ h => h)
     replace h238 := OwS.fr h238 F253 (fun _ _ h => h)
     replace h244 := OwS.fr h244 F253 (fun _ _ h => h)
     replace hp0 := RdS.fr hp0 F253 (by decide) (fun _ _ h => h)
     replace hF := hF.trans F253 (fun _ h => h.elim)
     refine y1b S252 9 (ba 10 0) Z Z Z Z (by kernel_rfl) (fun _ _ _ h => h) (fun _ => (y02 S252 Z Z)) fun a254 S254 => y4v (by kernel_rfl) ?_
     exact ⟨g253, b249, A236, cap237, A230, cap231, A242, cap243, S254.re ⟨Z, Z, Z, trivial⟩, h238, h232, h244, h250, hp0, hF⟩
    ·rintro _ a259 w260 g260 ⟨⟨A255, cap256, rfl, h257⟩, F260⟩ S259
     have hC260 := hC235.trans F260 (fun _ h => h.elim)
     replace h232 := OwS.fr h232 F260 (fun _ _ h => h)
     replace hp0 := RdS.fr hp0 F260 (by decide) (fun _ _ h => h)
     replace hF := hF.trans F260 (fun _ h => h.elim)
     refine d_one 2 (ba 7 3) Z (by kernel_rfl) (y43 S259 Z Z Z (e_make (e := 4) (sz := 1) (by_ := 1) (z := [.bool false]) (kd := y4p) (N + 0) g260 S259 Z Z (by kernel_rfl) (by kernel_rfl) Z Z Z (fun _ _ _ => by exact rfl) hy12) (fun _ _ g' hR _ => ⟨g', hC260.trans hR.2 (fun _ h => h.elim)⟩) ?_)
     rintro _ a265 w266 g266 ⟨⟨A261, cap262, rfl, h263⟩, F266⟩ S265
     have hC266 := hC260.trans F266 (fun _ h => h.elim)
     replace h232 := OwS.fr h232 F266 (fun _ _ h => h)
     replace h257 := OwS.fr h257 F266 (fun _ _ h => h)
     replace hp0 := RdS.fr hp0 F266 (by decide) (fun _ _ h => h)
     replace hF := hF.trans F266 (fun _ h => h.elim)
     refine y1b S265 7 (ba 8 2) Z Z Z Z (by kernel_rfl) (fun _ _ _ h => h) (fun _ => (r_build (parts := [(0, .slice A0 p0.length cap0), (2, .slice A261 y11.length cap262), (3, .slice A230 y17.length cap231), (4, .slice A255 y23.length cap256)]) (u := .agg #[.slice A0 p0.length cap0, .slice none 0 0, .slice A261 y11.length cap262, .slice A230 y17.length cap231, .slice A255 y23.length cap256, .int .u64 0]) S265 Z Z (fun _ => by kernel_rfl))) fun a267 S267 => ?_
     refine d_one 8 (ba 9 1) Z (by kernel_rfl) (y43 S267 Z Z Z (e_box (cs := [.slice A0 p0.length cap0, .slice none 0 0, .slice A261 y11.length cap262, .slice A230 y17.length cap231, .slice A255 y23.length cap256, .int .u64 0]) (N + 6) g266 S267 Z Z Z) (fun _ _ g' hR _ => ⟨g', hC266.trans hR.2 (fun _ h => h.elim)⟩) ?_)
     rintro _ a271 w272 g272 ⟨⟨b268, rfl, h269⟩, F272⟩ S271
     have hC272 := hC266.trans F272 (fun _ h => h.elim)
     replace h232 := OwS.fr h232 F272 (fun _ _ h => h)
     replace h257 := OwS.fr h257 F272 (fun _ _ h => h)
     replace h263 := OwS.fr h263 F272 (fun _ _ h => h)
     replace hp0 := RdS.fr hp0 F272 (by decide) (fun _ _ h => h)
     replace hF := hF.trans F272 (fun _ h => h.elim)
     refine y1b S271 9 (ba 10 0) Z Z Z Z (by kernel_rfl) (fun _ _ _ h => h) (fun _ => (y02 S271 Z Z)) fun a273 S273 => y4v (by kernel_rfl) ?_
     exact ⟨g272, b268, A261, cap262, A230, cap231, A255, cap256, S273.re ⟨Z, Z, Z, trivial⟩, h263, h232, h257, h269, hp0, hF⟩
   ·rintro _ a278 w279 g279 ⟨⟨A274, cap275, rfl, h276⟩, F279⟩ S278
    have hC279 := hC.trans F279 (fun _ h => h.elim)
    replace hp0 := RdS.fr hp0 F279 (by decide) (fun _ _ h => h)
    replace hF := hF.trans F279 (fun _ h => h.elim)
    refine d_two 2 4 #[tt_, tt_, tt_, tt_, ff_, tt_, tt_, ff_, ff_, ff_] #[tt_, tt_, ff_, tt_, tt_, tt_, tt_, ff_, ff_, ff_] Z Z (by kernel_rfl) (y43 S278 Z Z Z (e_make (e := 4) (sz := 1) (by_ := 1) (z := [.bool false]) (kd := y4p) (N + 0) g279 S278 Z Z (by kernel_rfl) (by kernel_rfl) Z Z Z (fun _ _ _ => by exact rfl) hy12) (fun _ _ g' hR _ => ⟨g', hC279.trans hR.2 (fun _ h => h.elim)⟩) ?_) (y43 S278 Z Z Z (e_make (e := 3) (sz := 1) (by_ := 8) (z := [i6 0]) (kd := (kint .i64)) (N + 2) g279 S278 Z Z (by kernel_rfl) (by kernel_rfl) Z Z Z (fun _ _ _ => by exact rfl) hy18) (fun _ _ g' hR _ => ⟨g', hC279.trans hR.2 (fun _ h => h.elim)⟩) ?_)
    ·rintro _ a284 w285 g285 ⟨⟨A280, cap281, rfl, h282⟩, F285⟩ S284
     have hC285 := hC279.trans F285 (fun _ h => h.elim)
     replace h276 := OwS.fr h276 F285 (fun _ _ h => h)
     replace hp0 := RdS.fr hp0 F285 (by decide) (fun _ _ h => h)
     replace hF := hF.trans F285 (fun _ h => h.elim)
     refine d_one 4 (ba 7 3) Z (by kernel_rfl) (y43 S284 Z Z Z (e_make (e := 3) (sz := 1) (by_ := 8) (z := [i6 0]) (kd := (kint .i64)) (N + 2) g285 S284 Z Z (by kernel_rfl) (by kernel_rfl) Z Z Z (fun _ _ _ => by exact rfl) hy18) (fun _ _ g' hR _ => ⟨g', hC285.trans hR.2 (fun _ h => h.elim)⟩) ?_)
     rintro _ a290 w291 g291 ⟨⟨A286, cap287, rfl, h288⟩, F291⟩ S290
     have hC291 := hC285.trans F291 (fun _ h => h.elim)
     replace h276 := OwS.fr h276 F291 (fun _ _ h => h)
     replace h282 := OwS.fr h282 F291 (fun _ _ h => h)
     replace hp0 := RdS.fr hp0 F291 (by decide) (fun _ _ h => h)
     replace hF := hF.trans F291 (fun _ h => h.elim)
     refine y1b S290 7 (ba 8 2) Z Z Z Z (by kernel_rfl) (fun _ _ _ h => h) (fun _ => (r_build (parts := [(0, .slice A0 p0.length cap0), (2, .slice A280 y11.length cap281), (3, .slice A286 y17.length cap287), (4, .slice A274 y23.length cap275)]) (u := .agg #[.slice A0 p0.length cap0, .slice none 0 0, .slice A280 y11.length cap281, .slice A286 y17.length cap287, .slice A274 y23.length cap275, .int .u64 0]) S290 Z Z (fun _ => by kernel_rfl))) fun a292 S292 => ?_
     refine d_one 8 (ba 9 1) Z (by kernel_rfl) (y43 S292 Z Z Z (e_box (cs := [.slice A0 p0.length cap0, .slice none 0 0, .slice A280 y11.length cap281, .slice A286 y17.length cap287, .slice A274 y23.length cap275, .int .u64 0]) (N + 6) g291 S292 Z Z Z) (fun _ _ g' hR _ => ⟨g', hC291.trans hR.2 (fun _ h => h.elim)⟩) ?_)
     rintro _ a296 w297 g297 ⟨⟨b293, rfl, h294⟩, F297⟩ S296
     have hC297 := hC291.trans F297 (fun _ h => h.elim)
     replace h276 := OwS.fr h276 F297 (fun _ _ h => h)
     replace h282 := OwS.fr h282 F297 (fun _ _ h => h)
     replace h288 := OwS.fr h288 F297 (fun _ _ h => h)
     replace hp0 := RdS.fr hp0 F297 (by decide) (fun _ _ h => h)
     replace hF := hF.trans F297 (fun _ h => h.elim)
     refine y1b S296 9 (ba 10 0) Z Z Z Z (by kernel_rfl) (fun _ _ _ h => h) (fun _ => (y02 S296 Z Z)) fun a298 S298 => y4v (by kernel_rfl) ?_
     exact ⟨g297, b293, A280, cap281, A286, cap287, A274, cap275, S298.re ⟨Z, Z, Z, trivial⟩, h282, h288, h276, h294, hp0, hF⟩
    ·rintro _ a303 w304 g304 ⟨⟨A299, cap300, rfl, h301⟩, F304⟩ S303
     have hC304 := hC279.trans F304 (fun _ h => h.elim)
     replace h276 := OwS.fr h276 F304 (fun _ _ h => h)
     replace hp0 := RdS.fr hp0 F304 (by decide) (fun _ _ h => h)
     replace hF := hF.trans F304 (fun _ h => h.elim)
     refine d_one 2 (ba 7 3) Z (by kernel_rfl) (y43 S303 Z Z Z (e_make (e := 4) (sz := 1) (by_ := 1) (z := [.bool false]) (kd := y4p) (N + 0) g304 S303 Z Z (by kernel_rfl) (by kernel_rfl) Z Z Z (fun _ _ _ => by exact rfl) hy12) (fun _ _ g' hR _ => ⟨g', hC304.trans hR.2 (fun _ h => h.elim)⟩) ?_)
     rintro _ a309 w310 g310 ⟨⟨A305, cap306, rfl, h307⟩, F310⟩ S309
     have hC310 := hC304.trans F310 (fun _ h => h.elim)
     replace h276 := OwS.fr h276 F310 (fun _ _ h => h)
     replace h301 := OwS.fr h301 F310 (fun _ _ h => h)
     replace hp0 := RdS.fr hp0 F310 (by decide) (fun _ _ h => h)
     replace hF := hF.trans F310 (fun _ h => h.elim)
     refine y1b S309 7 (ba 8 2) Z Z Z Z (by kernel_rfl) (fun _ _ _ h => h) (fun _ => (r_build (parts := [(0, .slice A0 p0.length cap0), (2, .slice A305 y11.length cap306), (3, .slice A299 y17.length cap300), (4, .slice A274 y23.length cap275)]) (u := .agg #[.slice A0 p0.length cap0, .slice none 0 0, .slice A305 y11.length cap306, .slice A299 y17.length cap300, .slice A274 y23.length cap275, .int .u64 0]) S309 Z Z (fun _ => by kernel_rfl))) fun a311 S311 => ?_
     refine d_one 8 (ba 9 1) Z (by kernel_rfl) (y43 S311 Z Z Z (e_box (cs := [.slice A0 p0.length cap0, .slice none 0 0, .slice A305 y11.length cap306, .slice A299 y17.length cap300, .slice A274 y23.length cap275, .int .u64 0]) (N + 6) g310 S311 Z Z Z) (fun _ _ g' hR _ => ⟨g', hC310.trans hR.2 (fun _ h => h.elim)⟩) ?_)
     rintro _ a315 w316 g316 ⟨⟨b312, rfl, h313⟩, F316⟩ S315
     have hC316 := hC310.trans F316 (fun _ h => h.elim)
     replace h276 := OwS.fr h276 F316 (fun _ _ h => h)
     replace h301 := OwS.fr h301 F316 (fun _ _ h => h)
     replace h307 := OwS.fr h307 F316 (fun _ _ h => h)
     replace hp0 := RdS.fr hp0 F316 (by decide) (fun _ _ h => h)
     replace hF := hF.trans F316 (fun _ h => h.elim)
     refine y1b S315 9 (ba 10 0) Z Z Z Z (by kernel_rfl) (fun _ _ _ h => h) (fun _ => (y02 S315 Z Z)) fun a317 S317 => y4v (by kernel_rfl) ?_
     exact ⟨g316, b312, A305, cap306, A299, cap300, A274, cap275, S317.re ⟨Z, Z, Z, trivial⟩, h307, h301, h276, h313, hp0, hF⟩
  clear hp0 hF
  clear hS
  rintro a w169 ⟨g169, b170, A172, cap173, A175, cap176, A178, cap179, hS, h174, h177, h180, h171, hp0, hF⟩
  obtain ⟨o323, H, Hl324⟩ := y0b H
  refine y4u (fun a w318 => ∃ (v322 : y06), ∃ (g318 : Nat → Nat), ∃ (A319 : Option Addr), ∃ (cap320 : Nat), o323 = .nxt v322 ∧ Sl 116 a [(4, i6 (p0.length : Int)), (5, .pointer (so b170))] ∧ OwS y0r 67 w318 g318 (N + 19) A319 cap320 v322.Links ∧ OwS y4p 4 w318 g318 (N + 0) A172 cap173 v322.On ∧ OwS (kint .i64) 3 w318 g318 (N + 2) A175 cap176 v322.Use ∧ OwS (kint .u64) 28 w318 g318 (N + 4) A178 cap179 v322.Since ∧ Bx w318 g318 (N + 6) b170 63 [.slice A0 v322.D.length cap0, .slice A319 v322.Links.length cap320, .slice A172 v322.On.length cap173, .slice A175 v322.Use.length cap176, .slice A178 v322.Since.length cap179, .int .u64 v322.Clock] ∧ RdS y0f w318 g318 C0 A0 cap0 v322.D ∧ Fr (fun q => (r0 ≤ q ∧ q < r0 + 9) ∨ N ≤ q) w g w318 g318) ?_ ?_
  ·refine y16 [(0, .slice A0 p0.length cap0), (4, i6 (p0.length : Int)), (5, .pointer (so b170)), (6, i6 0)] (fun R hR => y00 hS Z Z Z (y02 hS Z Z) fun a325 S325 => wpList_nil (hR _ (S325.re ⟨Z, Z, Z, Z, trivial⟩))) ?_
   clear hS a; intro a hS
   refine wp_block ?_
   refine wp_loop_ghost (fun kq => fun a w326 => ∃ (m0_0 : y06), ∃ (m0_1 : Int), ∃ (g326 : Nat → Nat), ∃ (A327 : Option Addr), ∃ (cap328 : Nat), y3m.l0 p0 kq m0_0 m0_1 = some o323 ∧ Sl 116 a [(0, .slice A0 p0.length cap0), (4, i6 (p0.length : Int)), (5, .pointer (so b170)), (6, i6 m0_1)] ∧ OwS y0r 67 w326 g326 (N + 19) A327 cap328 m0_0.Links ∧ OwS y4p 4 w326 g326 (N + 0) A172 cap173 m0_0.On ∧ OwS (kint .i64) 3 w326 g326 (N + 2) A175 cap176 m0_0.Use ∧ OwS (kint .u64) 28 w326 g326 (N + 4) A178 cap179 m0_0.Since ∧ Bx w326 g326 (N + 6) b170 63 [.slice A0 p0.length cap0, .slice A327 m0_0.Links.length cap328, .slice A172 m0_0.On.length cap173, .slice A175 m0_0.Use.length cap176, .slice A178 m0_0.Since.length cap179, .int .u64 m0_0.Clock] ∧ RdS y0f w326 g326 C0 A0 cap0 p0 ∧ Fr (fun q => (r0 ≤ q ∧ q < r0 + 9) ∨ N ≤ q) w g w326 g326) FUEL ?_ ?_
   ·exact ⟨(y06.mk p0 ([] : List y0g) y11 y17 y23 0), 0, g169, none, 0, H, hS.re ⟨Z, Z, Z, Z, trivial⟩, OwS.nil y0r 67 w169 g169 (N + 19), h174, h177, h180, h171, hp0, hF⟩
   ·clear H
    clear hp0 h174 h177 h180 h171 hF
    clear hS
    rintro k330 a w326 ⟨m0_0, m0_1, g326, A327, cap328, hpre0, hS, h329, h174, h177, h180, h171, hp0, hF⟩
    have H := hpre0
    clear hpre0
    cases k330 with
    | zero => exact absurd H (by simp [y3m.l0])
    | succ k330 =>
     rw [y3m.l0] at H
     refine wp_seq ?_
     refine y16 [(0, .slice A0 p0.length cap0), (4, i6 (p0.length : Int)), (5, .pointer (so b170)), (6, i6 m0_1), (25, .bool (decide (m0_1 < (p0.length : Int))))] (fun R hR => y00 hS Z Z Z (y03 hS Z Z) fun a331 S331 => y00 S331 Z Z Z (y03 S331 Z Z) fun a332 S332 => y00 S332 Z Z Z (y2l S332 Z Z rfl y4t) fun a333 S333 => wpList_nil (hR _ (S333.re ⟨Z, Z, Z, Z, Z, trivial⟩))) ?_
     clear hS a; intro a hS
     refine y2m hS Z (fun hb334 => ?_) (fun hb334 => ?_)
     ·replace H := y3f hb334 H
      refine wp_skip ?_
      change Code.wp _ _ _ _ _
      obtain ⟨o340, H, Hl341⟩ := y0b H
      refine y4u (fun a w335 => ∃ (v339 : y06), ∃ (g335 : Nat → Nat), ∃ (A336 : Option Addr), ∃ (cap337 : Nat), o340 = .nxt v339 ∧ Sl 116 a [(0, .slice A0 p0.length cap0), (4, i6 (p0.length : Int)), (5, .pointer (so b170)), (6, i6 m0_1)] ∧ OwS y0r 67 w335 g335 (N + 19) A336 cap337 v339.Links ∧ OwS y4p 4 w335 g335 (N + 0) A172 cap173 v339.On ∧ OwS (kint .i64) 3 w335 g335 (N + 2) A175 cap176 v339.Use ∧ OwS (kint .u64) 28 w335 g335 (N + 4) A178 cap179 v339.Since ∧ Bx w335 g335 (N + 6) b170 63 [.slice A0 p0.length cap0, .slice A336 v339.Links.length cap337, .slice A172 v339.On.length cap173, .slice A175 v339.Use.length cap176, .slice A178 v339.Since.length cap179, .int .u64 v339.Clock] ∧ RdS y0f w335 g335 C0 A0 cap0 p0 ∧ Fr (fun q => (r0 ≤ q ∧ q < r0 + 9) ∨ N ≤ q) w g w335 g335) ?_ ?_
      ·refine wp_block ?_
       obtain ⟨x344, hx345, H⟩ := y0b H
       refine y0t (fun K hK => ?_)
       refine y00 hS Z Z Z (y03 hS Z Z) fun a342 S342 => y00 S342 Z Z Z (y03 S342 Z Z) fun a343 S343 => ?_
       obtain ⟨_, ⟨A347, cap348, rfl, h349⟩, hel346⟩ := El.of hp0 hx345 (by decide)
       replace hel346 : El w326 g326 C0 A0 (m0_1.toNat * 3) [i6 x344.Parent, .slice A347 x344.Suppliers.length cap348, .int .u64 x344.Delay] := hel346
       refine y00 S343 Z Z Z (y1j (e := 30) (sz := 3) (by_ := 40) S343 Z Z Z (by kernel_rfl) (RdS.some_ hp0 hx345) (y26 hx345) (y27 hx345)) fun a352 S352 => y00 S352 Z Z Z (r_loadN (n := 3) (cs := [i6 x344.Parent, .slice A347 x344.Suppliers.length cap348, .int .u64 x344.Delay]) S352 Z Z (by kernel_rfl) Z (El.cells_off hel346 0 3)) fun a353 S353 => ?_
       refine y41 S353 Z Z Z (e_alloc (cs := [i6 0, .slice none 0 0, .int .u64 0]) (N + 15) g326 S353 Z (by kernel_rfl)) ?_
       rintro _ a357 w358 g358 ⟨⟨b354, rfl, h355⟩, F358⟩ S357
       replace h349 := RdS.fr h349 F358 (by decide) (fun _ _ h => h)
       replace hel346 := hel346.fr F358 (fun _ _ h => h)
       replace h329 := OwS.fr h329 F358 (fun _ _ h => h)
       replace h174 := OwS.fr h174 F358 (fun _ _ h => h)
       replace h177 := OwS.fr h177 F358 (fun _ _ h => h)
       replace h180 := OwS.fr h180 F358 (fun _ _ h => h)
       replace h171 := h171.fr F358 (fun h => h)
       replace hp0 := RdS.fr hp0 F358 (by decide) (fun _ _ h => h)
       replace hF := hF.trans F358 (fun _ h => h.elim)
       refine y3s S357 Z Z (y4a (n := 3) (bb := true) (cs' := [i6 x344.Parent, .slice A347 x344.Suppliers.length cap348, .int .u64 x344.Delay]) g358 S357 Z Z Z (by kernel_rfl) Z Z Z h355 Z Z) ?_
       rintro a359 w360 g360 ⟨h355, F360⟩ S359
       replace h349 := RdS.fr h349 F360 (by decide) (fun q (hq : C0 q) (hm : q = N + 15) => by have := hC0 q hq; omega)
       replace hel346 := hel346.fr F360 (fun q (hq : C0 q) (hm : q = N + 15) => by have := hC0 q hq; omega)
       replace h329 := OwS.fr h329 F360 (fun c' hc (hm : c' = N + 15) => by omega)
       replace h174 := OwS.fr h174 F360 (fun c' hc (hm : c' = N + 15) => by omega)
       replace h177 := OwS.fr h177 F360 (fun c' hc (hm : c' = N + 15) => by omega)
       replace h180 := OwS.fr h180 F360 (fun c' hc (hm : c' = N + 15) => by omega)
       replace h171 := h171.fr F360 (fun (hm : N + 6 = N + 15) => by omega)
       replace hp0 := RdS.fr hp0 F360 (by decide) (fun q (hq : C0 q) (hm : q = N + 15) => by have := hC0 q hq; omega)
       replace hF := hF.trans F360 (fun c' (hm : c' = N + 15) => by (try dsimp only); omega)
       refine wpList_nil (hK _ _ ?_)
       replace hS : Sl 116 _ [(0, .slice A0 p0.length cap0), (4, i6 (p0.length : Int)), (5, .pointer (so b170)), (6, i6 m0_1), (7, .pointer (so b354))] := S359.re ⟨Z, Z, Z, Z, Z, trivial⟩
       clear hK K
       try clear S342 S343 S352 S353 S357 S359
       generalize a359 = a at hS ⊢
       refine wp_seq ?_
       refine y0t (fun K hK => ?_)
       refine y00 hS Z Z Z (y1e (off := 0) hS Z Z (by kernel_rfl)) fun a361 S361 => y00 S361 Z Z Z (y0u (n := 1) S361 Z Z (by kernel_rfl) (Bx.cell h355 Z)) fun a362 S362 => y00 S362 Z Z Z (y2l S362 Z Z rfl y4t) fun a363 S363 => y00 S363 Z Z Z (y03 S363 Z Z) fun a364 S364 => ?_
       refine y4b (N := 116) 5 [(0, .slice A0 p0.length cap0), (4, i6 (p0.length : Int)), (5, .pointer (so b170)), (6, i6 m0_1), (7, .pointer (so b354)), (40, .bool ((decide (x344.Parent < (-1))) || (decide ((p0.length : Int) ≤ x344.Parent))))] ?_ (fun hk => ?_)
       rotate_left
       ·rcases Bool.eq_false_or_eq_true (decide (x344.Parent < (-1))) with hb365 | hb365
        ·refine y1c S364 (y05 S364 Z Z rfl hb365) Z Z fun a370 S370 => y1c S370 (y05 S370 Z Z rfl hb365) Z Z fun a371 S371 => y1c S371 (y05 S371 Z Z rfl hb365) Z Z fun a372 S372 => y1c S372 (y05 S372 Z Z rfl hb365) Z Z fun a373 S373 => y00 S373 Z Z Z (y2s S373 Z Z rfl hb365) fun a374 S374 => hk _ (S374.re ⟨rfl, rfl, rfl, rfl, rfl, (by rw [hb365]; rfl), trivial⟩)
        ·refine y0p S364 (y0a S364 Z Z rfl hb365) Z Z (y1e (off := 0) S364 Z Z (by kernel_rfl)) fun a375 S375 => y0p S375 (y0a S375 Z Z rfl hb365) Z Z (y0u (n := 1) S375 Z Z (by kernel_rfl) (Bx.cell h355 Z)) fun a376 S376 => y0p S376 (y0a S376 Z Z rfl hb365) Z Z (y03 S376 Z Z) fun a377 S377 => y0p S377 (y0a S377 Z Z rfl hb365) Z Z (y2l S377 Z Z rfl b_geq) fun a378 S378 => y00 S378 Z Z Z (y2t S378 Z Z rfl hb365) fun a379 S379 => hk _ (S379.re ⟨rfl, rfl, rfl, rfl, rfl, (by rw [hb365]; rfl), trivial⟩)
       intro a380 S380
       refine y00 S380 Z Z Z (y03 S380 Z Z) fun a381 S381 => ?_
       refine y4b (N := 116) 4 [(0, .slice A0 p0.length cap0), (4, i6 (p0.length : Int)), (5, .pointer (so b170)), (6, i6 m0_1), (7, .pointer (so b354)), (45, .bool (((decide (x344.Parent < (-1))) || (decide ((p0.length : Int) ≤ x344.Parent))) || (decide (1048576 < x344.Delay))))] ?_ (fun hk => ?_)
       rotate_left
       ·rcases Bool.eq_false_or_eq_true (((decide (x344.Parent < (-1))) || (decide ((p0.length : Int) ≤ x344.Parent)))) with hb382 | hb382
        ·refine y1c S381 (y05 S381 Z Z rfl hb382) Z Z fun a386 S386 => y1c S386 (y05 S386 Z Z rfl hb382) Z Z fun a387 S387 => y1c S387 (y05 S387 Z Z rfl hb382) Z Z fun a388 S388 => y00 S388 Z Z Z (y2s S388 Z Z rfl hb382) fun a389 S389 => hk _ (S389.re ⟨rfl, rfl, rfl, rfl, rfl, (by rw [hb382]; rfl), trivial⟩)
        ·refine y0p S381 (y0a S381 Z Z rfl hb382) Z Z (y1e (off := 2) S381 Z Z (by kernel_rfl)) fun a390 S390 => y0p S390 (y0a S390 Z Z rfl hb382) Z Z (y0u (n := 1) S390 Z Z (by kernel_rfl) (Bx.cell h355 Z)) fun a391 S391 => y0p S391 (y0a S391 Z Z rfl hb382) Z Z (y2l S391 Z Z rfl b_gtr) fun a392 S392 => y00 S392 Z Z Z (y2t S392 Z Z rfl hb382) fun a393 S393 => hk _ (S393.re ⟨rfl, rfl, rfl, rfl, rfl, (by rw [hb382]; rfl), trivial⟩)
       intro a394 S394
       refine y00 S394 Z Z Z (y03 S394 Z Z) fun a395 S395 => ?_
       refine y4b (N := 116) 5 [(0, .slice A0 p0.length cap0), (4, i6 (p0.length : Int)), (5, .pointer (so b170)), (6, i6 m0_1), (7, .pointer (so b354)), (51, .bool ((((decide (x344.Parent < (-1))) || (decide ((p0.length : Int) ≤ x344.Parent))) || (decide (1048576 < x344.Delay))) || (decide (1024 < (x344.Suppliers.length : Int)))))] ?_ (fun hk => ?_)
       rotate_left
       ·rcases Bool.eq_false_or_eq_true ((((decide (x344.Parent < (-1))) || (decide ((p0.length : Int) ≤ x344.Parent))) || (decide (1048576 < x344.Delay)))) with hb396 | hb396
        ·refine y1c S395 (y05 S395 Z Z rfl hb396) Z Z fun a401 S401 => y1c S401 (y05 S401 Z Z rfl hb396) Z Z fun a402 S402 => y1c S402 (y05 S402 Z Z rfl hb396) Z Z fun a403 S403 => y1c S403 (y05 S403 Z Z rfl hb396) Z Z fun a404 S404 => y00 S404 Z Z Z (y2s S404 Z Z rfl hb396) fun a405 S405 => hk _ (S405.re ⟨rfl, rfl, rfl, rfl, rfl, (by rw [hb396]; rfl), trivial⟩)
        ·refine y0p S395 (y0a S395 Z Z rfl hb396) Z Z (y1e (off := 1) S395 Z Z (by kernel_rfl)) fun a406 S406 => y0p S406 (y0a S406 Z Z rfl hb396) Z Z (y0u (n := 1) S406 Z Z (by kernel_rfl) (Bx.cell h355 Z)) fun a407 S407 => y0p S407 (y0a S407 Z Z rfl hb396) Z Z (y4x (e := 3) (sz := 1) (by_ := 8) S407 Z Z (by kernel_rfl)) fun a408 S408 => y0p S408 (y0a S408 Z Z rfl hb396) Z Z (y2l S408 Z Z rfl b_gtr) fun a409 S409 => y00 S409 Z Z Z (y2t S409 Z Z rfl hb396) fun a410 S410 => hk _ (S410.re ⟨rfl, rfl, rfl, rfl, rfl, (by rw [hb396]; rfl), trivial⟩)
       intro a411 S411
       refine wpList_nil (hK _ _ ?_)
       replace hS : Sl 116 _ [(0, .slice A0 p0.length cap0), (4, i6 (p0.length : Int)), (5, .pointer (so b170)), (6, i6 m0_1), (7, .pointer (so b354)), (51, .bool ((((decide (x344.Parent < (-1))) || (decide ((p0.length : Int) ≤ x344.Parent))) || (decide (1048576 < x344.Delay))) || (decide (1024 < (x344.Suppliers.length : Int)))))] := S411.re ⟨Z, Z, Z, Z, Z, Z, trivial⟩
       clear hK K
       try clear S361 S362 S363 S364 S380 S381 S394 S395 S411
       generalize a411 = a at hS ⊢
       refine y2m hS Z (fun hb412 => ?_) (fun hb412 => ?_)
       ·replace H := y3f hb412 H
        refine y16 [(2, .pointer none), (3, i6 1)] (fun R hR => y00 hS Z Z Z (y02 hS Z Z) fun a413 S413 => y00 S413 Z Z Z (y02 S413 Z Z) fun a414 S414 => wpList_nil (hR _ (S414.re ⟨Z, Z, trivial⟩))) ?_
        clear hS a; intro a hS
        refine wp_ret ?_
        have e := Option.some.inj H
        subst e
        replace H := Fl.go_out Hl341
        have e := Option.some.inj H
        subst e
        replace H := Fl.go_out Hl324
        have e := Option.some.inj H
        subst e
        repeat (with_reducible first | refine y1i ?_ | refine y0o ?_)
        exact y4d hS Try.results20 Z rfl ⟨_, rfl, g360, none, rfl, rfl, hF⟩
       ·replace H := y3g hb412 H
        refine wp_skip ?_
        change Code.wp _ _ _ _ _
        obtain ⟨v419, H, Hl421⟩ := y0b H
        refine y4u (fun a w415 => ∃ (g415 : Nat → Nat), ∃ (A416 : Option Addr), ∃ (cap417 : Nat), Sl 116 a [(0, .slice A0 p0.length cap0), (4, i6 (p0.length : Int)), (5, .pointer (so b170)), (6, i6 m0_1), (7, .pointer (so b354))] ∧ RdS (kint .i64) w415 g415 C0 A347 cap348 x344.Suppliers ∧ Bx w415 g415 (N + 15) b354 30 [i6 x344.Parent, .slice A347 x344.Suppliers.length cap348, .int .u64 x344.Delay] ∧ OwS y0r 67 w415 g415 (N + 19) A416 cap417 v419.Links ∧ OwS y4p 4 w415 g415 (N + 0) A172 cap173 v419.On ∧ OwS (kint .i64) 3 w415 g415 (N + 2) A175 cap176 v419.Use ∧ OwS (kint .u64) 28 w415 g415 (N + 4) A178 cap179 v419.Since ∧ Bx w415 g415 (N + 6) b170 63 [.slice A0 p0.length cap0, .slice A416 v419.Links.length cap417, .slice A172 v419.On.length cap173, .slice A175 v419.Use.length cap176, .slice A178 v419.Since.length cap179, .int .u64 v419.Clock] ∧ RdS y0f w415 g415 C0 A0 cap0 p0 ∧ Fr (fun q => (r0 ≤ q ∧ q < r0 + 9) ∨ N ≤ q) w g w415 g415) ?_ ?_
        ·refine y16 [(0, .slice A0 p0.length cap0), (4, i6 (p0.length : Int)), (5, .pointer (so b170)), (6, i6 m0_1), (7, .pointer (so b354)), (54, .bool (decide (0 ≤ x344.Parent)))] (fun R hR => y00 hS Z Z Z (y1e (off := 0) hS Z Z (by kernel_rfl)) fun a422 S422 => y00 S422 Z Z Z (y0u (n := 1) S422 Z Z (by kernel_rfl) (Bx.cell h355 Z)) fun a423 S423 => y00 S423 Z Z Z (y2l S423 Z Z rfl b_geq) fun a424 S424 => wpList_nil (hR _ (S424.re ⟨Z, Z, Z, Z, Z, Z, trivial⟩))) ?_
         clear hS a; intro a hS
         refine y2m hS Z (fun hb425 => ?_) (fun hb425 => ?_)
         ·replace H := y3f hb425 H
          obtain ⟨y429, hy430, H⟩ := y0b H
          refine c_draw1 (fun K hK => y4m (fun q => q = N + 19) g360 [13] 14 (ba 0 14) (by kernel_rfl) Z Z (fun w435 hw435 => ?_))
          have F435 : Fr (fun _ => False) w360 g360 w435 g360 := by rw [hw435]; exact Fr.drew _ _ _
          replace h349 := RdS.fr h349 F435 (by decide) (fun _ _ h => h)
          replace h355 := h355.fr F435 (fun h => h)
          replace h329 := OwS.fr h329 F435 (fun _ _ h => h)
          replace h174 := OwS.fr h174 F435 (fun _ _ h => h)
          replace h177 := OwS.fr h177 F435 (fun _ _ h => h)
          replace h180 := OwS.fr h180 F435 (fun _ _ h => h)
          replace h171 := h171.fr F435 (fun h => h)
          replace hp0 := RdS.fr hp0 F435 (by decide) (fun _ _ h => h)
          replace hF := hF.trans F435 (fun _ h => h.elim)
          have hC : Fr (fun q => q = N + 19) w435 g360 w435 g360 := Fr.refl _ _ _
          refine y1b hS 0 (ba 1 13) Z Z Z Z (by kernel_rfl) (fun _ _ _ h => h) (fun _ => (y03 hS Z Z)) fun a436 S436 => y1b S436 1 (ba 2 12) Z Z Z Z (by kernel_rfl) (fun _ _ _ h => h) (fun _ => (y03 S436 Z Z)) fun a437 S437 => y1b S437 2 (ba 3 11) Z Z Z Z (by kernel_rfl) (fun _ _ _ h => h) (fun _ => (y4s S437 Z Z)) fun a438 S438 => y1b S438 3 (ba 4 10) Z Z Z Z (by kernel_rfl) (fun _ _ _ h => h) (fun _ => (y1e (off := 1) S438 Z Z (by kernel_rfl))) fun a439 S439 => y3w S439 4 (ba 5 9) Z Z Z Z (by kernel_rfl) (fun _ _ _ h => h) ⟨_, hC⟩ (fun w' g' Fz => (y0u (n := 1) S439 Z Z (by kernel_rfl) (Bx.cell (h171.fr Fz (fun (hm : N + 6 = N + 19) => by omega)) Z))) fun a440 S440 => y1b S440 5 (ba 6 8) Z Z Z Z (by kernel_rfl) (fun _ _ _ h => h) (fun _ => (y03 S440 Z Z)) fun a441 S441 => y1b S441 6 (ba 7 7) Z Z Z Z (by kernel_rfl) (fun _ _ _ h => h) (fun _ => (y1e (off := 0) S441 Z Z (by kernel_rfl))) fun a442 S442 => y3w S442 7 (ba 8 6) Z Z Z Z (by kernel_rfl) (fun _ _ _ h => h) ⟨_, hC⟩ (fun w' g' Fz => (y0u (n := 1) S442 Z Z (by kernel_rfl) (Bx.cell (h355.fr Fz (fun (hm : N + 15 = N + 19) => by omega)) Z))) fun a443 S443 => y1b S443 8 (ba 9 5) Z Z Z Z (by kernel_rfl) (fun _ _ _ h => h) (fun _ => (r_build (parts := [(0, i6 m0_1), (1, i6 x344.Parent)]) (u := .agg #[i6 m0_1, i6 x344.Parent]) S443 Z Z (fun _ => by kernel_rfl))) fun a444 S444 => ?_
          refine d_one 9 (ba 10 4) Z (by kernel_rfl) (y43 S444 Z Z Z (e_lit (e := 67) (parts := [(0, .agg #[i6 m0_1, i6 x344.Parent])]) (cs := [i6 m0_1, i6 x344.Parent]) y0r [(y0g.mk m0_1 x344.Parent)] (N + 17) g360 S444 Z Z (fun _ => by kernel_rfl) Z (by decide) (Rows.cons (cs := [i6 m0_1, i6 x344.Parent]) rfl Rows.nil)) (fun _ _ g' hR _ => ⟨g', hC.trans hR.2 (fun _ h => h.elim)⟩) ?_)
          rintro _ a448 w449 g449 ⟨⟨A445, rfl, h446⟩, F449⟩ S448
          have hC449 := hC.trans F449 (fun _ h => h.elim)
          replace h349 := RdS.fr h349 F449 (by decide) (fun _ _ h => h)
          replace h355 := h355.fr F449 (fun h => h)
          replace h329 := OwS.fr h329 F449 (fun _ _ h => h)
          replace h174 := OwS.fr h174 F449 (fun _ _ h => h)
          replace h177 := OwS.fr h177 F449 (fun _ _ h => h)
          replace h180 := OwS.fr h180 F449 (fun _ _ h => h)
          replace h171 := h171.fr F449 (fun h => h)
          replace hp0 := RdS.fr hp0 F449 (by decide) (fun _ _ h => h)
          replace hF := hF.trans F449 (fun _ h => h.elim)
          refine d_one 10 (ba 11 3) Z (by kernel_rfl) (y43 S448 Z Z Z (y4g (e := 67) (sz := 2) (by_ := 16) (z := [i6 0, i6 0]) (kd := y0r) g449 S448 Z Z Z Z (by kernel_rfl) (by kernel_rfl) Z Z Z Z h329 (OwD.rdx h446) (fun _ _ _ h => h) hy430) (fun _ _ g' hR _ => ⟨g', hC449.trans hR.2 (fun c' (hm : c' = N + 19) => by (try dsimp only); omega)⟩) ?_)
          rintro _ a454 w455 g455 ⟨⟨A450, cap451, rfl, h452⟩, F455⟩ S454
          have hC455 := hC449.trans F455 (fun c' (hm : c' = N + 19) => by (try dsimp only); omega)
          replace h349 := RdS.fr h349 F455 (by decide) (fun q (hq : C0 q) (hm : q = N + 19) => by have := hC0 q hq; omega)
          replace h355 := h355.fr F455 (fun (hm : N + 15 = N + 19) => by omega)
          replace h446 := OwS.fr h446 F455 (fun c' hc (hm : c' = N + 19) => by omega)
          replace h174 := OwS.fr h174 F455 (fun c' hc (hm : c' = N + 19) => by omega)
          replace h177 := OwS.fr h177 F455 (fun c' hc (hm : c' = N + 19) => by omega)
          replace h180 := OwS.fr h180 F455 (fun c' hc (hm : c' = N + 19) => by omega)
          replace h171 := h171.fr F455 (fun (hm : N + 6 = N + 19) => by omega)
          replace hp0 := RdS.fr hp0 F455 (by decide) (fun q (hq : C0 q) (hm : q = N + 19) => by have := hC0 q hq; omega)
          replace hF := hF.trans F455 (fun c' (hm : c' = N + 19) => by (try dsimp only); omega)
          refine y1b S454 11 (ba 12 2) Z Z Z Z (by kernel_rfl) (fun _ _ _ h => h) (fun _ => (y4s S454 Z Z)) fun a456 S456 => y1b S456 12 (ba 13 1) Z Z Z Z (by kernel_rfl) (fun _ _ _ h => h) (fun _ => (y1e (off := 1) S456 Z Z (by kernel_rfl))) fun a457 S457 => ?_
          refine d_one 13 (ba 14 0) Z (by kernel_rfl) (arm_effS S457 Z Z (y4a (n := 1) (bb := false) (cs' := [.slice A0 p0.length cap0, .slice A450 y429.length cap451, .slice A172 m0_0.On.length cap173, .slice A175 m0_0.Use.length cap176, .slice A178 m0_0.Since.length cap179, .int .u64 m0_0.Clock]) g455 S457 Z Z Z (by kernel_rfl) Z Z Z h171 Z Z) (.inl (by decide)) ?_)
          rintro a458 w459 g459 ⟨h171, F459⟩ S458
          replace h349 := RdS.fr h349 F459 (by decide) (fun q (hq : C0 q) (hm : q = N + 6) => by have := hC0 q hq; omega)
          replace h355 := h355.fr F459 (fun (hm : N + 15 = N + 6) => by omega)
          replace h446 := OwS.fr h446 F459 (fun c' hc (hm : c' = N + 6) => by omega)
          replace h452 := OwS.fr h452 F459 (fun c' hc (hm : c' = N + 6) => by omega)
          replace h174 := OwS.fr h174 F459 (fun c' hc (hm : c' = N + 6) => by omega)
          replace h177 := OwS.fr h177 F459 (fun c' hc (hm : c' = N + 6) => by omega)
          replace h180 := OwS.fr h180 F459 (fun c' hc (hm : c' = N + 6) => by omega)
          replace hp0 := RdS.fr hp0 F459 (by decide) (fun q (hq : C0 q) (hm : q = N + 6) => by have := hC0 q hq; omega)
          replace hF := hF.trans F459 (fun c' (hm : c' = N + 6) => by (try dsimp only); omega)
          refine y4v (by kernel_rfl) (hK _ _ ?_)
          replace hS : Sl 116 _ [(0, .slice A0 p0.length cap0), (4, i6 (p0.length : Int)), (5, .pointer (so b170)), (6, i6 m0_1), (7, .pointer (so b354))] := S458.re ⟨Z, Z, Z, Z, Z, trivial⟩
          clear hK K hC
          try clear S436 S437 S438 S439 S440 S441 S442 S443 S444 S448 S454 S456 S457 S458
          generalize a458 = a at hS ⊢
          have e := Option.some.inj H
          subst e
          exact ⟨g459, A450, cap451, hS.re ⟨Z, Z, Z, Z, Z, trivial⟩, h349, h355, h452, h174, h177, h180, h171, hp0, hF⟩
         ·replace H := y3g hb425 H
          refine wp_skip ?_
          have e := Option.some.inj H
          subst e
          exact ⟨g360, A327, cap328, hS.re ⟨Z, Z, Z, Z, Z, trivial⟩, h349, h355, h329, h174, h177, h180, h171, hp0, hF⟩
        ·clear H
         clear hp0 h174 h177 h180 h171 h329 h349 h355 hF
         clear hS
         rintro a w415 ⟨g415, A416, cap417, hS, h349, h355, h418, h174, h177, h180, h171, hp0, hF⟩
         have H := Hl421
         clear Hl421
         refine y16 [(0, .slice A0 p0.length cap0), (4, i6 (p0.length : Int)), (5, .pointer (so b170)), (6, i6 m0_1), (7, .pointer (so b354)), (8, i6 0)] (fun R hR => y00 hS Z Z Z (y02 hS Z Z) fun a460 S460 => wpList_nil (hR _ (S460.re ⟨Z, Z, Z, Z, Z, Z, trivial⟩))) ?_
         clear hS a; intro a hS
         refine wp_block ?_
         refine wp_loop_ghost (fun kq => fun a w461 => ∃ (m1_0 : y06), ∃ (m1_1 : Int), ∃ (g461 : Nat → Nat), ∃ (A462 : Option Addr), ∃ (cap463 : Nat), y3m.l1 p0 m0_1 x344 kq m1_0 m1_1 = some o340 ∧ Sl 116 a [(0, .slice A0 p0.length cap0), (4, i6 (p0.length : Int)), (5, .pointer (so b170)), (6, i6 m0_1), (7, .pointer (so b354)), (8, i6 m1_1)] ∧ RdS (kint .i64) w461 g461 C0 A347 cap348 x344.Suppliers ∧ Bx w461 g461 (N + 15) b354 30 [i6 x344.Parent, .slice A347 x344.Suppliers.length cap348, .int .u64 x344.Delay] ∧ OwS y0r 67 w461 g461 (N + 19) A462 cap463 m1_0.Links ∧ OwS y4p 4 w461 g461 (N + 0) A172 cap173 m1_0.On ∧ OwS (kint .i64) 3 w461 g461 (N + 2) A175 cap176 m1_0.Use ∧ OwS (kint .u64) 28 w461 g461 (N + 4) A178 cap179 m1_0.Since ∧ Bx w461 g461 (N + 6) b170 63 [.slice A0 p0.length cap0, .slice A462 m1_0.Links.length cap463, .slice A172 m1_0.On.length cap173, .slice A175 m1_0.Use.length cap176, .slice A178 m1_0.Since.length cap179, .int .u64 m1_0.Clock] ∧ RdS y0f w461 g461 C0 A0 cap0 p0 ∧ Fr (fun q => (r0 ≤ q ∧ q < r0 + 9) ∨ N ≤ q) w g w461 g461) FUEL ?_ ?_
         ·exact ⟨(y06.mk p0 v419.Links v419.On v419.Use v419.Since v419.Clock), 0, g415, A416, cap417, H, hS.re ⟨Z, Z, Z, Z, Z, Z, trivial⟩, h349, h355, h418, h174, h177, h180, h171, hp0, hF⟩
         ·clear H
          clear hp0 h174 h177 h180 h171 h349 h355 h418 hF
          clear hS
          rintro k465 a w461 ⟨m1_0, m1_1, g461, A462, cap463, hpre0, hS, h349, h355, h464, h174, h177, h180, h171, hp0, hF⟩
          have H := hpre0
          clear hpre0
          cases k465 with
          | zero => exact absurd H (by simp [y3m.l1])
          | succ k465 =>
           rw [y3m.l1] at H
           refine wp_seq ?_
           refine y16 [(0, .slice A0 p0.length cap0), (4, i6 (p0.length : Int)), (5, .pointer (so b170)), (6, i6 m0_1), (7, .pointer (so b354)), (8, i6 m1_1), (72, .bool (decide (m1_1 < (x344.Suppliers.length : Int))))] (fun R hR => y00 hS Z Z Z (y03 hS Z Z) fun a466 S466 => y00 S466 Z Z Z (y1e (off := 1) S466 Z Z (by kernel_rfl)) fun a467 S467 => y00 S467 Z Z Z (y0u (n := 1) S467 Z Z (by kernel_rfl) (Bx.cell h355 Z)) fun a468 S468 => y00 S468 Z Z Z (y4x (e := 3) (sz := 1) (by_ := 8) S468 Z Z (by kernel_rfl)) fun a469 S469 => y00 S469 Z Z Z (y2l S469 Z Z rfl y4t) fun a470 S470 => wpList_nil (hR _ (S470.re ⟨Z, Z, Z, Z, Z, Z, Z, trivial⟩))) ?_
           clear hS a; intro a hS
           refine y2m hS Z (fun hb471 => ?_) (fun hb471 => ?_)
           ·replace H := y3f hb471 H
            refine wp_skip ?_
            change Code.wp _ _ _ _ _
            refine wp_seq ?_
            refine wp_block ?_
            refine wp_seq ?_
            obtain ⟨x475, hx476, H⟩ := y0b H
            refine y0t (fun K hK => ?_)
            refine y00 hS Z Z Z (y1e (off := 1) hS Z Z (by kernel_rfl)) fun a472 S472 => y00 S472 Z Z Z (y0u (n := 1) S472 Z Z (by kernel_rfl) (Bx.cell h355 Z)) fun a473 S473 => y00 S473 Z Z Z (y03 S473 Z Z) fun a474 S474 => y00 S474 Z Z Z (y1j (e := 3) (sz := 1) (by_ := 8) S474 Z Z Z (by kernel_rfl) (RdS.some_ h349 hx476) (y26 hx476) (y27 hx476)) fun a477 S477 => y00 S477 Z Z Z (y0u (n := 1) S477 Z Z (by kernel_rfl) (RdS.cell (i := m1_1) (sz := 1) (j := 0) h349 hx476 Z)) fun a478 S478 => y00 S478 Z Z Z (y2l S478 Z Z rfl y4t) fun a479 S479 => y00 S479 Z Z Z (y03 S479 Z Z) fun a480 S480 => ?_
            refine y4b (N := 116) 8 [(0, .slice A0 p0.length cap0), (4, i6 (p0.length : Int)), (5, .pointer (so b170)), (6, i6 m0_1), (7, .pointer (so b354)), (8, i6 m1_1), (89, .bool ((decide (x475 < 0)) || (decide ((p0.length : Int) ≤ x475))))] ?_ (fun hk => ?_)
            rotate_left
            ·rcases Bool.eq_false_or_eq_true (decide (x475 < 0)) with hb481 | hb481
             ·refine y1c S480 (y05 S480 Z Z rfl hb481) Z Z fun a489 S489 => y1c S489 (y05 S489 Z Z rfl hb481) Z Z fun a490 S490 => y1c S490 (y05 S490 Z Z rfl hb481) Z Z fun a491 S491 => y1c S491 (y05 S491 Z Z rfl hb481) Z Z fun a492 S492 => y1c S492 (y05 S492 Z Z rfl hb481) Z Z fun a493 S493 => y1c S493 (y05 S493 Z Z rfl hb481) Z Z fun a494 S494 => y1c S494 (y05 S494 Z Z rfl hb481) Z Z fun a495 S495 => y00 S495 Z Z Z (y2s S495 Z Z rfl hb481) fun a496 S496 => hk _ (S496.re ⟨rfl, rfl, rfl, rfl, rfl, rfl, (by rw [hb481]; rfl), trivial⟩)
             ·refine y0p S480 (y0a S480 Z Z rfl hb481) Z Z (y1e (off := 1) S480 Z Z (by kernel_rfl)) fun a497 S497 => y0p S497 (y0a S497 Z Z rfl hb481) Z Z (y0u (n := 1) S497 Z Z (by kernel_rfl) (Bx.cell h355 Z)) fun a498 S498 => y0p S498 (y0a S498 Z Z rfl hb481) Z Z (y03 S498 Z Z) fun a499 S499 => y0p S499 (y0a S499 Z Z rfl hb481) Z Z (y1j (e := 3) (sz := 1) (by_ := 8) S499 Z Z Z (by kernel_rfl) (RdS.some_ h349 hx476) (y26 hx476) (y27 hx476)) fun a500 S500 => y0p S500 (y0a S500 Z Z rfl hb481) Z Z (y0u (n := 1) S500 Z Z (by kernel_rfl) (RdS.cell (i := m1_1) (sz := 1) (j := 0) h349 hx476 Z)) fun a501 S501 => y0p S501 (y0a S501 Z Z rfl hb481) Z Z (y03 S501 Z Z) fun a502 S502 => y0p S502 (y0a S502 Z Z rfl hb481) Z Z (y2l S502 Z Z rfl b_geq) fun a503 S503 => y00 S503 Z Z Z (y2t S503 Z Z rfl hb481) fun a504 S504 => hk _ (S504.re ⟨rfl, rfl, rfl, rfl, rfl, rfl, (by rw [hb481]; rfl), trivial⟩)
            intro a505 S505
            refine wpList_nil (hK _ _ ?_)
            replace hS : Sl 116 _ [(0, .slice A0 p0.length cap0), (4, i6 (p0.length : Int)), (5, .pointer (so b170)), (6, i6 m0_1), (7, .pointer (so b354)), (8, i6 m1_1), (89, .bool ((decide (x475 < 0)) || (decide ((p0.length : Int) ≤ x475))))] := S505.re ⟨Z, Z, Z, Z, Z, Z, Z, trivial⟩
            clear hK K
            try clear S472 S473 S474 S477 S478 S479 S480 S505
            generalize a505 = a at hS ⊢
            refine y2m hS Z (fun hb506 => ?_) (fun hb506 => ?_)
            ·replace H := y3f hb506 H
             refine y16 [(2, .pointer none), (3, i6 1)] (fun R hR => y00 hS Z Z Z (y02 hS Z Z) fun a507 S507 => y00 S507 Z Z Z (y02 S507 Z Z) fun a508 S508 => wpList_nil (hR _ (S508.re ⟨Z, Z, trivial⟩))) ?_
             clear hS a; intro a hS
             refine wp_ret ?_
             have e := Option.some.inj H
             subst e
             replace H := Fl.go_out Hl341
             have e := Option.some.inj H
             subst e
             replace H := Fl.go_out Hl324
             have e := Option.some.inj H
             subst e
             repeat (with_reducible first | refine y1i ?_ | refine y0o ?_)
             exact y4d hS Try.results20 Z rfl ⟨_, rfl, g461, none, rfl, rfl, hF⟩
            ·replace H := y3g hb506 H
             refine wp_skip ?_
             change Code.wp _ _ _ _ _
             obtain ⟨y512, hy513, H⟩ := y0b H
             refine c_draw1 (fun K hK => y4m (fun q => q = N + 19) g461 [16] 17 (ba 0 17) (by kernel_rfl) Z Z (fun w518 hw518 => ?_))
             have F518 : Fr (fun _ => False) w461 g461 w518 g461 := by rw [hw518]; exact Fr.drew _ _ _
             replace h349 := RdS.fr h349 F518 (by decide) (fun _ _ h => h)
             replace h355 := h355.fr F518 (fun h => h)
             replace h464 := OwS.fr h464 F518 (fun _ _ h => h)
             replace h174 := OwS.fr h174 F518 (fun _ _ h => h)
             replace h177 := OwS.fr h177 F518 (fun _ _ h => h)
             replace h180 := OwS.fr h180 F518 (fun _ _ h => h)
             replace h171 := h171.fr F518 (fun h => h)
             replace hp0 := RdS.fr hp0 F518 (by decide) (fun _ _ h => h)
             replace hF := hF.trans F518 (fun _ h => h.elim)
             have hC : Fr (fun q => q = N + 19) w518 g461 w518 g461 := Fr.refl _ _ _
             refine y1b hS 0 (ba 1 16) Z Z Z Z (by kernel_rfl) (fun _ _ _ h => h) (fun _ => (y03 hS Z Z)) fun a519 S519 => y1b S519 1 (ba 2 15) Z Z Z Z (by kernel_rfl) (fun _ _ _ h => h) (fun _ => (y03 S519 Z Z)) fun a520 S520 => y1b S520 2 (ba 3 14) Z Z Z Z (by kernel_rfl) (fun _ _ _ h => h) (fun _ => (y4s S520 Z Z)) fun a521 S521 => y1b S521 3 (ba 4 13) Z Z Z Z (by kernel_rfl) (fun _ _ _ h => h) (fun _ => (y1e (off := 1) S521 Z Z (by kernel_rfl))) fun a522 S522 => y3w S522 4 (ba 5 12) Z Z Z Z (by kernel_rfl) (fun _ _ _ h => h) ⟨_, hC⟩ (fun w' g' Fz => (y0u (n := 1) S522 Z Z (by kernel_rfl) (Bx.cell (h171.fr Fz (fun (hm : N + 6 = N + 19) => by omega)) Z))) fun a523 S523 => y1b S523 5 (ba 6 11) Z Z Z Z (by kernel_rfl) (fun _ _ _ h => h) (fun _ => (y03 S523 Z Z)) fun a524 S524 => y1b S524 6 (ba 7 10) Z Z Z Z (by kernel_rfl) (fun _ _ _ h => h) (fun _ => (y1e (off := 1) S524 Z Z (by kernel_rfl))) fun a525 S525 => y3w S525 7 (ba 8 9) Z Z Z Z (by kernel_rfl) (fun _ _ _ h => h) ⟨_, hC⟩ (fun w' g' Fz => (y0u (n := 1) S525 Z Z (by kernel_rfl) (Bx.cell (h355.fr Fz (fun (hm : N + 15 = N + 19) => by omega)) Z))) fun a526 S526 => y1b S526 8 (ba 9 8) Z Z Z Z (by kernel_rfl) (fun _ _ _ h => h) (fun _ => (y03 S526 Z Z)) fun a527 S527 => y1b S527 9 (ba 10 7) Z Z Z Z (by kernel_rfl) (fun _ _ _ h => h) (fun _ => (y1j (e := 3) (sz := 1) (by_ := 8) S527 Z Z Z (by kernel_rfl) (RdS.some_ h349 hx476) (y26 hx476) (y27 hx476))) fun a528 S528 => y3w S528 10 (ba 11 6) Z Z Z Z (by kernel_rfl) (fun _ _ _ h => h) ⟨_, hC⟩ (fun w' g' Fz => (y0u (n := 1) S528 Z Z (by kernel_rfl) (RdS.cell (i := m1_1) (sz := 1) (j := 0) (RdS.fr h349 Fz (by decide) (fun q (hq : C0 q) (hm : q = N + 19) => by have := hC0 q hq; omega)) hx476 Z))) fun a529 S529 => y1b S529 11 (ba 12 5) Z Z Z Z (by kernel_rfl) (fun _ _ _ h => h) (fun _ => (r_build (parts := [(0, i6 m0_1), (1, i6 x475)]) (u := .agg #[i6 m0_1, i6 x475]) S529 Z Z (fun _ => by kernel_rfl))) fun a530 S530 => ?_
             refine d_one 12 (ba 13 4) Z (by kernel_rfl) (y43 S530 Z Z Z (e_lit (e := 67) (parts := [(0, .agg #[i6 m0_1, i6 x475])]) (cs := [i6 m0_1, i6 x475]) y0r [(y0g.mk m0_1 x475)] (N + 21) g461 S530 Z Z (fun _ => by kernel_rfl) Z (by decide) (Rows.cons (cs := [i6 m0_1, i6 x475]) rfl Rows.nil)) (fun _ _ g' hR _ => ⟨g', hC.trans hR.2 (fun _ h => h.elim)⟩) ?_)
             rintro _ a534 w535 g535 ⟨⟨A531, rfl, h532⟩, F535⟩ S534
             have hC535 := hC.trans F535 (fun _ h => h.elim)
             replace h349 := RdS.fr h349 F535 (by decide) (fun _ _ h => h)
             replace h355 := h355.fr F535 (fun h => h)
             replace h464 := OwS.fr h464 F535 (fun _ _ h => h)
             replace h174 := OwS.fr h174 F535 (fun _ _ h => h)
             replace h177 := OwS.fr h177 F535 (fun _ _ h => h)
             replace h180 := OwS.fr h180 F535 (fun _ _ h => h)
             replace h171 := h171.fr F535 (fun h => h)
             replace hp0 := RdS.fr hp0 F535 (by decide) (fun _ _ h => h)
             replace hF := hF.trans F535 (fun _ h => h.elim)
             refine d_one 13 (ba 14 3) Z (by kernel_rfl) (y43 S534 Z Z Z (y4g (e := 67) (sz := 2) (by_ := 16) (z := [i6 0, i6 0]) (kd := y0r) g535 S534 Z Z Z Z (by kernel_rfl) (by kernel_rfl) Z Z Z Z h464 (OwD.rdx h532) (fun _ _ _ h => h) hy513) (fun _ _ g' hR _ => ⟨g', hC535.trans hR.2 (fun c' (hm : c' = N + 19) => by (try dsimp only); omega)⟩) ?_)
             rintro _ a540 w541 g541 ⟨⟨A536, cap537, rfl, h538⟩, F541⟩ S540
             have hC541 := hC535.trans F541 (fun c' (hm : c' = N + 19) => by (try dsimp only); omega)
             replace h349 := RdS.fr h349 F541 (by decide) (fun q (hq : C0 q) (hm : q = N + 19) => by have := hC0 q hq; omega)
             replace h355 := h355.fr F541 (fun (hm : N + 15 = N + 19) => by omega)
             replace h532 := OwS.fr h532 F541 (fun c' hc (hm : c' = N + 19) => by omega)
             replace h174 := OwS.fr h174 F541 (fun c' hc (hm : c' = N + 19) => by omega)
             replace h177 := OwS.fr h177 F541 (fun c' hc (hm : c' = N + 19) => by omega)
             replace h180 := OwS.fr h180 F541 (fun c' hc (hm : c' = N + 19) => by omega)
             replace h171 := h171.fr F541 (fun (hm : N + 6 = N + 19) => by omega)
             replace hp0 := RdS.fr hp0 F541 (by decide) (fun q (hq : C0 q) (hm : q = N + 19) => by have := hC0 q hq; omega)
             replace hF := hF.trans F541 (fun c' (hm : c' = N + 19) => by (try dsimp only); omega)
             refine y1b S540 14 (ba 15 2) Z Z Z Z (by kernel_rfl) (fun _ _ _ h => h) (fun _ => (y4s S540 Z Z)) fun a542 S542 => y1b S542 15 (ba 16 1) Z Z Z Z (by kernel_rfl) (fun _ _ _ h => h) (fun _ => (y1e (off := 1) S542 Z Z (by kernel_rfl))) fun a543 S543 => ?_
             refine d_one 16 (ba 17 0) Z (by kernel_rfl) (arm_effS S543 Z Z (y4a (n := 1) (bb := false) (cs' := [.slice A0 p0.length cap0, .slice A536 y512.length cap537, .slice A172 m1_0.On.length cap173, .slice A175 m1_0.Use.length cap176, .slice A178 m1_0.Since.length cap179, .int .u64 m1_0.Clock]) g541 S543 Z Z Z (by kernel_rfl) Z Z Z h171 Z Z) (.inl (by decide)) ?_)
             rintro a544 w545 g545 ⟨h171, F545⟩ S544
             replace h349 := RdS.fr h349 F545 (by decide) (fun q (hq : C0 q) (hm : q = N + 6) => by have := hC0 q hq; omega)
             replace h355 := h355.fr F545 (fun (hm : N + 15 = N + 6) => by omega)
             replace h532 := OwS.fr h532 F545 (fun c' hc (hm : c' = N + 6) => by omega)
             replace h538 := OwS.fr h538 F545 (fun c' hc (hm : c' = N + 6) => by omega)
             replace h174 := OwS.fr h174 F545 (fun c' hc (hm : c' = N + 6) => by omega)
             replace h177 := OwS.fr h177 F545 (fun c' hc (hm : c' = N + 6) => by omega)
             replace h180 := OwS.fr h180 F545 (fun c' hc (hm : c' = N + 6) => by omega)
             replace hp0 := RdS.fr hp0 F545 (by decide) (fun q (hq : C0 q) (hm : q = N + 6) => by have := hC0 q hq; omega)
             replace hF := hF.trans F545 (fun c' (hm : c' = N + 6) => by (try dsimp only); omega)
             refine y4v (by kernel_rfl) (hK _ _ ?_)
             replace hS : Sl 116 _ [(0, .slice A0 p0.length cap0), (4, i6 (p0.length : Int)), (5, .pointer (so b170)), (6, i6 m0_1), (7, .pointer (so b354)), (8, i6 m1_1)] := S544.re ⟨Z, Z, Z, Z, Z, Z, trivial⟩
             clear hK K hC
             try clear S519 S520 S521 S522 S523 S524 S525 S526 S527 S528 S529 S530 S534 S540 S542 S543 S544
             generalize a544 = a at hS ⊢
             change Code.wp _ _ _ _ _
             refine y3e [(0, .slice A0 p0.length cap0), (4, i6 (p0.length : Int)), (5, .pointer (so b170)), (6, i6 m0_1), (7, .pointer (so b354)), (8, i6 (wi (m1_1 + 1)))] (fun R hR => y00 hS Z Z Z (y03 hS Z Z) fun a546 S546 => y00 S546 Z Z Z (y2l S546 Z Z rfl y4z) fun a547 S547 => y00 S547 Z Z Z (y02 S547 Z Z) fun a548 S548 => wpList_nil (hR _ (S548.re ⟨Z, Z, Z, Z, Z, Z, trivial⟩))) ?_
             clear hS a; intro a hS
             refine ⟨k465, Nat.lt_succ_self _, ?_⟩
             exact ⟨(y06.mk p0 y512 m1_0.On m1_0.Use m1_0.Since m1_0.Clock), wi (m1_1 + 1), g545, A536, cap537, H, hS.re ⟨Z, Z, Z, Z, Z, Z, trivial⟩, h349, h355, h538, h174, h177, h180, h171, hp0, hF⟩
           ·replace H := y3g hb471 H
            refine wp_exit ?_
            have e := Option.some.inj H
            exact ⟨(y06.mk p0 m1_0.Links m1_0.On m1_0.Use m1_0.Since m1_0.Clock), g461, A462, cap463, e.symm, hS.re ⟨Z, Z, Z, Z, trivial⟩, h464, h174, h177, h180, h171, hp0, hF⟩
      ·clear H
       clear hp0 h174 h177 h180 h171 h329 hF
       clear hS
       rintro a w335 ⟨v339, g335, A336, cap337, hpre0, hS, h338, h174, h177, h180, h171, hp0, hF⟩
       subst hpre0
       have H := Fl.go_nxt Hl341
       clear Hl341
       refine y3e [(0, .slice A0 p0.length cap0), (4, i6 (p0.length : Int)), (5, .pointer (so b170)), (6, i6 (wi (m0_1 + 1)))] (fun R hR => y00 hS Z Z Z (y03 hS Z Z) fun a549 S549 => y00 S549 Z Z Z (y2l S549 Z Z rfl y4z) fun a550 S550 => y00 S550 Z Z Z (y02 S550 Z Z) fun a551 S551 => wpList_nil (hR _ (S551.re ⟨Z, Z, Z, Z, trivial⟩))) ?_
       clear hS a; intro a hS
       refine ⟨k330, Nat.lt_succ_self _, ?_⟩
       exact ⟨(y06.mk p0 v339.Links v339.On v339.Use v339.Since v339.Clock), wi (m0_1 + 1), g335, A336, cap337, H, hS.re ⟨Z, Z, Z, Z, trivial⟩, h338, h174, h177, h180, h171, hp0, hF⟩
     ·replace H := y3g hb334 H
      refine wp_exit ?_
      have e := Option.some.inj H
      exact ⟨(y06.mk p0 m0_0.Links m0_0.On m0_0.Use m0_0.Since m0_0.Clock), g326, A327, cap328, e.symm, hS.re ⟨Z, Z, trivial⟩, h329, h174, h177, h180, h171, hp0, hF⟩
  ·clear H
   clear hp0 h174 h177 h180 h171 hF
   clear hS
   rintro a w318 ⟨v322, g318, A319, cap320, hpre0, hS, h321, h174, h177, h180, h171, hp0, hF⟩
   subst hpre0
   have H := Fl.go_nxt Hl324
   clear Hl324
   refine wp_seq ?_
   obtain ⟨r557, hr558, H⟩ := y0b H
   refine y0t (fun K hK => ?_)
   refine y00 hS Z Z Z (y03 hS Z Z) fun a552 S552 => y00 S552 Z Z Z (y03 S552 Z Z) fun a553 S553 => y00 S553 Z Z Z (y4s S553 Z Z) fun a554 S554 => y00 S554 Z Z Z (y1e (off := 1) S554 Z Z (by kernel_rfl)) fun a555 S555 => y00 S555 Z Z Z (y0u (n := 1) S555 Z Z (by kernel_rfl) (Bx.cell h171 Z)) fun a556 S556 => ?_
   refine y1y S556 Z Z Z (y2z S556 Z Z (by kernel_rfl)) (y3i.calls (C1 := (fun q => q = N + 19)) (p0 := (p0.length : Int)) (p1 := v322.Links) (g := g318) (N + 23)  (OwD.rdf (fun _ _ _ _ _ _ h => h) h321) (fun q (hq : q = N + 19) => by omega) hr558) ?_
   rintro _ a559 w560 ⟨g560, rfl, F560⟩ S559
   replace h321 := OwS.fr h321 F560 (fun c' hc (hm : N + 23 ≤ c') => by omega)
   replace h174 := OwS.fr h174 F560 (fun c' hc (hm : N + 23 ≤ c') => by omega)
   replace h177 := OwS.fr h177 F560 (fun c' hc (hm : N + 23 ≤ c') => by omega)
   replace h180 := OwS.fr h180 F560 (fun c' hc (hm : N + 23 ≤ c') => by omega)
   replace h171 := h171.fr F560 (fun (hm : N + 23 ≤ N + 6) => by omega)
   replace hp0 := RdS.fr hp0 F560 (by decide) (fun q (hq : C0 q) (hm : N + 23 ≤ q) => by have := hC0 q hq; omega)
   replace hF := hF.trans F560 (fun c' (hm : N + 23 ≤ c') => by (try dsimp only); omega)
   refine y00 S559 Z Z Z (y02 S559 Z Z) fun a561 S561 => wpList_nil (hK _ _ ?_)
   replace hS : Sl 116 _ [(5, .pointer (so b170)), (9, i6 r557)] := S561.re ⟨Z, Z, trivial⟩
   clear hK K
   try clear S552 S553 S554 S555 S556 S559 S561
   generalize a561 = a at hS ⊢
   refine y16 [(5, .pointer (so b170)), (9, i6 r557), (113, .bool (r557 != 0))] (fun R hR => y00 hS Z Z Z (y03 hS Z Z) fun a562 S562 => y00 S562 Z Z Z (y2l S562 Z Z rfl b_neq) fun a563 S563 => wpList_nil (hR _ (S563.re ⟨Z, Z, Z, trivial⟩))) ?_
   clear hS a; intro a hS
   refine y2m hS Z (fun hb564 => ?_) (fun hb564 => ?_)
   ·replace H := y3f hb564 H
    refine y16 [(2, .pointer none), (3, i6 r557)] (fun R hR => y00 hS Z Z Z (y03 hS Z Z) fun a565 S565 => y00 S565 Z Z Z (y02 S565 Z Z) fun a566 S566 => y00 S566 Z Z Z (y02 S566 Z Z) fun a567 S567 => wpList_nil (hR _ (S567.re ⟨Z, Z, trivial⟩))) ?_
    clear hS a; intro a hS
    refine wp_ret ?_
    have e := Option.some.inj H
    subst e
    repeat (with_reducible first | refine y1i ?_ | refine y0o ?_)
    exact y4d hS Try.results20 Z rfl ⟨_, rfl, g560, none, rfl, rfl, hF⟩
   ·replace H := y3g hb564 H
    refine wp_skip ?_
    change Code.wp _ _ _ _ _
    refine y16 [(2, .pointer (so b170)), (3, i6 0)] (fun R hR => y00 hS Z Z Z (y03 hS Z Z) fun a568 S568 => y00 S568 Z Z Z (y02 S568 Z Z) fun a569 S569 => y00 S569 Z Z Z (y02 S569 Z Z) fun a570 S570 => wpList_nil (hR _ (S570.re ⟨Z, Z, trivial⟩))) ?_
    clear hS a; intro a hS
    refine wp_ret ?_
    have e := Option.some.inj H
    subst e
    have F571 : Fr (fun q => q = N + 6) w560 g560 w560 (y4y g560 (N + 6) r0) := Fr.y4y w560 g560 (N + 6) r0 rfl
    replace h171 := Bx.y4y h171 r0
    replace h321 := OwS.fr h321 F571 (fun c' hc (hm : c' = N + 6) => by omega)
    replace h174 := OwS.fr h174 F571 (fun c' hc (hm : c' = N + 6) => by omega)
    replace h177 := OwS.fr h177 F571 (fun c' hc (hm : c' = N + 6) => by omega)
    replace h180 := OwS.fr h180 F571 (fun c' hc (hm : c' = N + 6) => by omega)
    replace hp0 := RdS.fr hp0 F571 (by decide) (fun q (hq : C0 q) (hm : q = N + 6) => by have := hC0 q hq; omega)
    replace hF := hF.trans F571 (fun c' (hm : c' = N + 6) => by (try dsimp only); omega)
    have F572 := Fr.y2f w560 (y4y g560 (N + 6) r0) (N + 19) (r0 + 1)
    replace h321 := h321.y2f (r0 + 1)
    replace h174 := OwS.fr h174 F572 (fun c' hc (hm : c' = N + 19 ∨ c' = N + 19 + 1) => by omega)
    replace h177 := OwS.fr h177 F572 (fun c' hc (hm : c' = N + 19 ∨ c' = N + 19 + 1) => by omega)
    replace h180 := OwS.fr h180 F572 (fun c' hc (hm : c' = N + 19 ∨ c' = N + 19 + 1) => by omega)
    replace h171 := h171.fr F572 (fun (hm : r0 = N + 19 ∨ r0 = N + 19 + 1) => by omega)
    replace hp0 := RdS.fr hp0 F572 (by decide) (fun q (hq : C0 q) (hm : q = N + 19 ∨ q = N + 19 + 1) => by have := hC0 q hq; omega)
    replace hF := hF.trans F572 (fun c' (hm : c' = N + 19 ∨ c' = N + 19 + 1) => by (try dsimp only); omega)
    have F573 := Fr.y2f w560 (y2f (y4y g560 (N + 6) r0) (N + 19) (r0 + 1)) (N + 0) (r0 + 3)
    replace h174 := h174.y2f (r0 + 3)
    replace h321 := OwS.fr h321 F573 (fun c' hc (hm : c' = N + 0 ∨ c' = N + 0 + 1) => by omega)
    replace h177 := OwS.fr h177 F573 (fun c' hc (hm : c' = N + 0 ∨ c' = N + 0 + 1) => by omega)
    replace h180 := OwS.fr h180 F573 (fun c' hc (hm : c' = N + 0 ∨ c' = N + 0 + 1) => by omega)
    replace h171 := h171.fr F573 (fun (hm : r0 = N + 0 ∨ r0 = N + 0 + 1) => by omega)
    replace hp0 := RdS.fr hp0 F573 (by decide) (fun q (hq : C0 q) (hm : q = N + 0 ∨ q = N + 0 + 1) => by have := hC0 q hq; omega)
    replace hF := hF.trans F573 (fun c' (hm : c' = N + 0 ∨ c' = N + 0 + 1) => by (try dsimp only); omega)
    have F574 := Fr.y2f w560 (y2f (y2f (y4y g560 (N + 6) r0) (N + 19) (r0 + 1)) (N + 0) (r0 + 3)) (N + 2) (r0 + 5)
    replace h177 := h177.y2f (r0 + 5)
    replace h321 := OwS.fr h321 F574 (fun c' hc (hm : c' = N + 2 ∨ c' = N + 2 + 1) => by omega)
    replace h174 := OwS.fr h174 F574 (fun c' hc (hm : c' = N + 2 ∨ c' = N + 2 + 1) => by omega)
    replace h180 := OwS.fr h180 F574 (fun c' hc (hm : c' = N + 2 ∨ c' = N + 2 + 1) => by omega)
    replace h171 := h171.fr F574 (fun (hm : r0 = N + 2 ∨ r0 = N + 2 + 1) => by omega)
    replace hp0 := RdS.fr hp0 F574 (by decide) (fun q (hq : C0 q) (hm : q = N + 2 ∨ q = N + 2 + 1) => by have := hC0 q hq; omega)
    replace hF := hF.trans F574 (fun c' (hm : c' = N + 2 ∨ c' = N + 2 + 1) => by (try dsimp only); omega)
    have F575 := Fr.y2f w560 (y2f (y2f (y2f (y4y g560 (N + 6) r0) (N + 19) (r0 + 1)) (N + 0) (r0 + 3)) (N + 2) (r0 + 5)) (N + 4) (r0 + 7)
    replace h180 := h180.y2f (r0 + 7)
    replace h321 := OwS.fr h321 F575 (fun c' hc (hm : c' = N + 4 ∨ c' = N + 4 + 1) => by omega)
    replace h174 := OwS.fr h174 F575 (fun c' hc (hm : c' = N + 4 ∨ c' = N + 4 + 1) => by omega)
    replace h177 := OwS.fr h177 F575 (fun c' hc (hm : c' = N + 4 ∨ c' = N + 4 + 1) => by omega)
    replace h171 := h171.fr F575 (fun (hm : r0 = N + 4 ∨ r0 = N + 4 + 1) => by omega)
    replace hp0 := RdS.fr hp0 F575 (by decide) (fun q (hq : C0 q) (hm : q = N + 4 ∨ q = N + 4 + 1) => by have := hC0 q hq; omega)
    replace hF := hF.trans F575 (fun c' (hm : c' = N + 4 ∨ c' = N + 4 + 1) => by (try dsimp only); omega)
    repeat (with_reducible first | refine y1i ?_ | refine y0o ?_)
    exact y4d hS Try.results20 Z rfl ⟨_, rfl, (y2f (y2f (y2f (y2f (y4y g560 (N + 6) r0) (N + 19) (r0 + 1)) (N + 0) (r0 + 3)) (N + 2) (r0 + 5)) (N + 4) (r0 + 7)), (so b170), rfl, ⟨b170, A0, cap0, A319, cap320, A172, cap173, A175, cap176, A178, cap179, rfl, h171, hp0, h321, h174, h177, h180⟩, hF⟩


end Go.Proofs.Ytcfcffbjdjacfaa.Sim

namespace Go.Proofs.Ytcfcffbjdjacfaa.Sim
open Go
set_option linter.unusedVariables false
set_option linter.unusedSimpArgs false

/-! ### y38: function 28 -/
def y38.f (p0 : y01) (p1 : Int) : Option (Bool) := (y2j.f p0 p1).bind fun r4 => (if r4 = true then (idx p0.devices p1).bind fun x15 => some x15.active else some false).bind fun t30 => some t30
set_option maxRecDepth 100000 in
set_option maxHeartbeats 4000000 in
theorem y38.calls {p0 : y01} {c0 : Nat}  {b_p0 : Nat} {y09 : Option Addr} {y07 : Nat} {y0v : Option Addr} {y0l : Nat} {y0q : Option Addr} {y0h : Nat} {p1 : Int} {w : World} {g : Nat → Nat} {out : Bool} (N : Nat) (hp0 : y1v w g c0 b_p0 y09 y07 y0v y0l y0q y0h p0) (hc0 : c0 + 7 ≤ N) (H : y38.f p0 p1 = some out) :
  Calls Try.prog 28 #[.pointer (so b_p0), i6 p1] w (fun e w' => ∃ v, e = .returned v ∧ ∃ (g' : Nat → Nat), v = .bool out ∧ Fr (fun q => N ≤ q) w g w' g') := by
 unfold y38.f at H
 refine y1k Try.func28 rfl Try.ntmps28 Z (fun a hS => ?_)
 replace hS : Sl 18 a [(0, .pointer (so b_p0)), (1, i6 p1)] := hS
 have hF : Fr (fun q => N ≤ q) w g w g := Fr.refl _ _ _
 obtain ⟨hb0, y04, y0j, y0i⟩ := hp0
 refine y16 [(0, .pointer (so b_p0)), (1, i6 p1)] (fun R hR => y00 hS Z Z Z (y02 hS Z Z) fun a1 S1 => wpList_nil (hR _ (S1.re ⟨Z, Z, trivial⟩))) ?_
 clear hS a; intro a hS
 obtain ⟨r4, hr5, H⟩ := y0b H
 obtain ⟨t30, ht31, H⟩ := y0b H
 refine y0t (fun K hK => ?_)
 refine y00 hS Z Z Z (y03 hS Z Z) fun a2 S2 => y00 S2 Z Z Z (y03 S2 Z Z) fun a3 S3 => ?_
 refine y1y S3 Z Z Z (y2z S3 Z Z (by kernel_rfl)) (y2j.calls (c0 := c0) (b_p0 := b_p0) (y09 := y09) (y07 := y07) (y0v := y0v) (y0l := y0l) (y0q := y0q) (y0h := y0h) (p0 := p0) (p1 := p1) (g := g) (N + 0)  ⟨hb0, y04, y0j, y0i⟩ (by omega) hr5) ?_
 rintro _ a6 w7 ⟨g7, rfl, F7⟩ S6
 replace hb0 := hb0.fr F7 (fun (hm : N + 0 ≤ c0) => by omega)
 replace y04 := OwS.fr y04 F7 (fun c' hc (hm : N + 0 ≤ c') => by omega)
 replace y0j := OwS.fr y0j F7 (fun c' hc (hm : N + 0 ≤ c') => by omega)
 replace y0i := OwS.fr y0i F7 (fun c' hc (hm : N + 0 ≤ c') => by omega)
 replace hF := hF.trans F7 (fun c' (hm : N + 0 ≤ c') => by (try dsimp only); omega)
 refine y00 S6 Z Z Z (y03 S6 Z Z) fun a8 S8 => ?_
 refine y4b (N := 18) 9 [(17, .bool t30)] ?_ (fun hk => ?_)
 rotate_left
 ·rcases Bool.eq_false_or_eq_true (r4) with hb9 | hb9
  ·have H := y3f hb9 ht31
   obtain ⟨x37, hx38, H⟩ := y0b H
   have e52 := Option.some.inj H
   refine y0p S8 (y0a S8 Z Z rfl hb9) Z Z (y03 S8 Z Z) fun a32 S32 => y0p S32 (y0a S32 Z Z rfl hb9) Z Z (y4s S32 Z Z) fun a33 S33 => y0p S33 (y0a S33 Z Z rfl hb9) Z Z (y1e (off := 0) S33 Z Z (by kernel_rfl)) fun a34 S34 => y0p S34 (y0a S34 Z Z rfl hb9) Z Z (y0u (n := 1) S34 Z Z (by kernel_rfl) (Bx.cell hb0 Z)) fun a35 S35 => y0p S35 (y0a S35 Z Z rfl hb9) Z Z (y03 S35 Z Z) fun a36 S36 => ?_
   obtain ⟨_, ⟨A40, cap41, A44, cap45, rfl, h42, h46⟩, hel39⟩ := El.of (OwD.rdx y04) hx38 (by decide)
   replace hel39 : El w7 g7 (fun q => q = c0 + 1) y09 (p1.toNat * 6) [.int .u64 x37.delay, .slice A40 x37.suppliers.length cap41, .slice A44 x37.consumers.length cap45, .bool x37.active, i6 x37.count, .int .u64 x37.idle] := hel39
   refine y0p S36 (y0a S36 Z Z rfl hb9) Z Z (y1j (e := 88) (sz := 6) (by_ := 80) S36 Z Z Z (by kernel_rfl) (RdS.some_ (OwS.rd y04) hx38) (y26 hx38) (y27 hx38)) fun a49 S49 => y0p S49 (y0a S49 Z Z rfl hb9) Z Z (y2w (off := 3) S49 Z Z (by kernel_rfl)) fun a50 S50 => y0p S50 (y0a S50 Z Z rfl hb9) Z Z (y0u (n := 1) S50 Z Z (by kernel_rfl) (El.cell (j := 3) hel39 Z)) fun a51 S51 => y00 S51 Z Z Z (y2s S51 Z Z rfl hb9) fun a53 S53 => hk _ (S53.re ⟨(by rw [← e52]; rfl), trivial⟩)
  ·have H := y3g hb9 ht31
   have e54 := Option.some.inj H
   refine y1c S8 (y05 S8 Z Z rfl hb9) Z Z fun a55 S55 => y1c S55 (y05 S55 Z Z rfl hb9) Z Z fun a56 S56 => y1c S56 (y05 S56 Z Z rfl hb9) Z Z fun a57 S57 => y1c S57 (y05 S57 Z Z rfl hb9) Z Z fun a58 S58 => y1c S58 (y05 S58 Z Z rfl hb9) Z Z fun a59 S59 => y1c S59 (y05 S59 Z Z rfl hb9) Z Z fun a60 S60 => y1c S60 (y05 S60 Z Z rfl hb9) Z Z fun a61 S61 => y1c S61 (y05 S61 Z Z rfl hb9) Z Z fun a62 S62 => y00 S62 Z Z Z (y2t S62 Z Z rfl hb9) fun a63 S63 => hk _ (S63.re ⟨(by rw [← e54]; rfl), trivial⟩)
 intro a64 S64
 refine y00 S64 Z Z Z (y02 S64 Z Z) fun a65 S65 => wpList_nil (hK _ _ ?_)
 replace hS : Sl 18 _ [(4, .bool t30)] := S65.re ⟨Z, trivial⟩
 clear hK K
 try clear S2 S3 S6 S8 S64 S65
 generalize a65 = a at hS ⊢
 refine wp_ret ?_
 have e := Option.some.inj H
 subst e
 repeat (with_reducible first | refine y1i ?_ | refine y0o ?_)
 exact y3v hS Try.results28 rfl ⟨_, rfl, g7, rfl, hF⟩


end Go.Proofs.Ytcfcffbjdjacfaa.Sim

namespace Go.Proofs.Ytcfcffbjdjacfaa.Sim
open Go
set_option linter.unusedVariables false
set_option linter.unusedSimpArgs false

/-! ### y3b: function 29 -/
def y3b.f (p0 : y01) (p1 : Int) : Option (Int) := (y2j.f p0 p1).bind fun r4 => if (!r4) = true then (some 0) else ((idx p0.devices p1).bind fun x16 => some x16.count)
set_option maxRecDepth 100000 in
set_option maxHeartbeats 4000000 in
theorem y3b.calls {p0 : y01} {c0 : Nat}  {b_p0 : Nat} {y09 : Option Addr} {y07 : Nat} {y0v : Option Addr} {y0l : Nat} {y0q : Option Addr} {y0h : Nat} {p1 : Int} {w : World} {g : Nat → Nat} {out : Int} (N : Nat) (hp0 : y1v w g c0 b_p0 y09 y07 y0v y0l y0q y0h p0) (hc0 : c0 + 7 ≤ N) (H : y3b.f p0 p1 = some out) :
  Calls Try.prog 29 #[.pointer (so b_p0), i6 p1] w (fun e w' => ∃ v, e = .returned v ∧ ∃ (g' : Nat → Nat), v = i6 out ∧ Fr (fun q => N ≤ q) w g w' g') := by
 unfold y3b.f at H
 refine y1k Try.func29 rfl Try.ntmps29 Z (fun a hS => ?_)
 replace hS : Sl 17 a [(0, .pointer (so b_p0)), (1, i6 p1)] := hS
 have hF : Fr (fun q => N ≤ q) w g w g := Fr.refl _ _ _
 obtain ⟨hb0, y04, y0j, y0i⟩ := hp0
 refine y16 [(0, .pointer (so b_p0)), (1, i6 p1)] (fun R hR => y00 hS Z Z Z (y02 hS Z Z) fun a1 S1 => wpList_nil (hR _ (S1.re ⟨Z, Z, trivial⟩))) ?_
 clear hS a; intro a hS
 refine wp_seq ?_
 obtain ⟨r4, hr5, H⟩ := y0b H
 refine y0t (fun K hK => ?_)
 refine y00 hS Z Z Z (y03 hS Z Z) fun a2 S2 => y00 S2 Z Z Z (y03 S2 Z Z) fun a3 S3 => ?_
 refine y1y S3 Z Z Z (y2z S3 Z Z (by kernel_rfl)) (y2j.calls (c0 := c0) (b_p0 := b_p0) (y09 := y09) (y07 := y07) (y0v := y0v) (y0l := y0l) (y0q := y0q) (y0h := y0h) (p0 := p0) (p1 := p1) (g := g) (N + 0)  ⟨hb0, y04, y0j, y0i⟩ (by omega) hr5) ?_
 rintro _ a6 w7 ⟨g7, rfl, F7⟩ S6
 replace hb0 := hb0.fr F7 (fun (hm : N + 0 ≤ c0) => by omega)
 replace y04 := OwS.fr y04 F7 (fun c' hc (hm : N + 0 ≤ c') => by omega)
 replace y0j := OwS.fr y0j F7 (fun c' hc (hm : N + 0 ≤ c') => by omega)
 replace y0i := OwS.fr y0i F7 (fun c' hc (hm : N + 0 ≤ c') => by omega)
 replace hF := hF.trans F7 (fun c' (hm : N + 0 ≤ c') => by (try dsimp only); omega)
 refine y00 S6 Z Z Z (r_not S6 Z Z) fun a8 S8 => wpList_nil (hK _ _ ?_)
 replace hS : Sl 17 _ [(0, .pointer (so b_p0)), (1, i6 p1), (8, .bool (!r4))] := S8.re ⟨Z, Z, Z, trivial⟩
 clear hK K
 try clear S2 S3 S6 S8
 generalize a8 = a at hS ⊢
 refine y2m hS Z (fun hb9 => ?_) (fun hb9 => ?_)
 ·replace H := y3f hb9 H
  refine y16 [(4, i6 0)] (fun R hR => y00 hS Z Z Z (y02 hS Z Z) fun a10 S10 => wpList_nil (hR _ (S10.re ⟨Z, trivial⟩))) ?_
  clear hS a; intro a hS
  refine wp_ret ?_
  have e := Option.some.inj H
  subst e
  repeat (with_reducible first | refine y1i ?_ | refine y0o ?_)
  exact y3v hS Try.results29 rfl ⟨_, rfl, g7, rfl, hF⟩
 ·replace H := y3g hb9 H
  refine wp_skip ?_
  change Code.wp _ _ _ _ _
  obtain ⟨x16, hx17, H⟩ := y0b H
  refine y0t (fun K hK => ?_)
  refine y00 hS Z Z Z (y03 hS Z Z) fun a11 S11 => y00 S11 Z Z Z (y4s S11 Z Z) fun a12 S12 => y00 S12 Z Z Z (y1e (off := 0) S12 Z Z (by kernel_rfl)) fun a13 S13 => y00 S13 Z Z Z (y0u (n := 1) S13 Z Z (by kernel_rfl) (Bx.cell hb0 Z)) fun a14 S14 => y00 S14 Z Z Z (y03 S14 Z Z) fun a15 S15 => ?_
  obtain ⟨_, ⟨A19, cap20, A23, cap24, rfl, h21, h25⟩, hel18⟩ := El.of (OwD.rdx y04) hx17 (by decide)
  replace hel18 : El w7 g7 (fun q => q = c0 + 1) y09 (p1.toNat * 6) [.int .u64 x16.delay, .slice A19 x16.suppliers.length cap20, .slice A23 x16.consumers.length cap24, .bool x16.active, i6 x16.count, .int .u64 x16.idle] := hel18
  refine y00 S15 Z Z Z (y1j (e := 88) (sz := 6) (by_ := 80) S15 Z Z Z (by kernel_rfl) (RdS.some_ (OwS.rd y04) hx17) (y26 hx17) (y27 hx17)) fun a28 S28 => y00 S28 Z Z Z (y2w (off := 4) S28 Z Z (by kernel_rfl)) fun a29 S29 => y00 S29 Z Z Z (y0u (n := 1) S29 Z Z (by kernel_rfl) (El.cell (j := 4) hel18 Z)) fun a30 S30 => y00 S30 Z Z Z (y02 S30 Z Z) fun a31 S31 => wpList_nil (hK _ _ ?_)
  replace hS : Sl 17 _ [(4, i6 x16.count)] := S31.re ⟨Z, trivial⟩
  clear hK K
  try clear S11 S12 S13 S14 S15 S28 S29 S30 S31
  generalize a31 = a at hS ⊢
  refine wp_ret ?_
  have e := Option.some.inj H
  subst e
  repeat (with_reducible first | refine y1i ?_ | refine y0o ?_)
  exact y3v hS Try.results29 rfl ⟨_, rfl, g7, rfl, hF⟩


end Go.Proofs.Ytcfcffbjdjacfaa.Sim

namespace Go.Proofs.Ytcfcffbjdjacfaa.Sim
open Go
set_option linter.unusedVariables false
set_option linter.unusedSimpArgs false

def Wf_api_IdleDevice (x : y08) : Prop := (Lit.int .i64 x.Parent).wf = true ∧ (x.Suppliers.length ≤ maxLen ∧ ∀ x' ∈ x.Suppliers, (Lit.int .i64 x').wf = true) ∧ (Lit.int .u64 x.Delay).wf = true
theorem opens_api_IdleDevice : Opens Try.prog 30 y0f Wf_api_IdleDevice := by
 intro H enc w held fuel cs x h
 have hl : cs.length = 3 := by
  obtain ⟨_, _, _, _, hl, _⟩ := DataW.trod_struct Try.underlying30 h
  rw [hl]; kernel_rfl
 match cs, hl with
 | [c0, c1, c2], _ =>
  obtain ⟨ys0, m0, _, _, _, hlen0, hf0⟩ := DataW.trod_struct Try.underlying30 h
  obtain ⟨y0_0, h0_0⟩ := trod_field hf0 hlen0 0 rfl (n := 1) (by kernel_rfl)
  obtain ⟨n1, r1, w1⟩ := (Opens.int Try.underlying3) enc w held _ _ _ h0_0
  injection (show [c0] = [.int .i64 n1] from r1) with e1; subst e1
  obtain ⟨y0_1, h0_1⟩ := trod_field hf0 hlen0 1 rfl (n := 1) (by kernel_rfl)
  obtain ⟨n2, r2, w2⟩ := (Opens.slice Try.underlying27 (by decide) (by kernel_rfl) (Opens.int Try.underlying3)) enc w held _ _ _ h0_1
  obtain ⟨A2, cap2, e2, s2⟩ := r2
  injection (show [c1] = [.slice A2 n2.length cap2] from e2) with e2; subst e2
  obtain ⟨y0_2, h0_2⟩ := trod_field hf0 hlen0 2 rfl (n := 1) (by kernel_rfl)
  obtain ⟨n3, r3, w3⟩ := (Opens.int Try.underlying28) enc w held _ _ _ h0_2
  injection (show [c2] = [.int .u64 n3] from r3) with e3; subst e3
  exact ⟨(y08.mk n1 n2 n3), ⟨A2, cap2, rfl, s2⟩, ⟨w1, w2, w3⟩⟩

def Wf_law28_Call (x : y3t) : Prop := (Lit.int .i64 x.Kind).wf = true ∧ (Lit.int .i64 x.Device).wf = true ∧ (Lit.int .u64 x.Wait).wf = true ∧ True
theorem opens_law28_Call : Opens Try.prog 54 kd_law28_Call Wf_law28_Call := by
 intro H enc w held fuel cs x h
 have hl : cs.length = 4 := by
  obtain ⟨_, _, _, _, hl, _⟩ := DataW.trod_struct Try.underlying54 h
  rw [hl]; kernel_rfl
 match cs, hl with
 | [c0, c1, c2, c3], _ =>
  obtain ⟨ys0, m0, _, _, _, hlen0, hf0⟩ := DataW.trod_struct Try.underlying54 h
  obtain ⟨y0_0, h0_0⟩ := trod_field hf0 hlen0 0 rfl (n := 1) (by kernel_rfl)
  obtain ⟨n1, r1, w1⟩ := (Opens.int Try.underlying3) enc w held _ _ _ h0_0
  injection (show [c0] = [.int .i64 n1] from r1) with e1; subst e1
  obtain ⟨y0_1, h0_1⟩ := trod_field hf0 hlen0 1 rfl (n := 1) (by kernel_rfl)
  obtain ⟨n2, r2, w2⟩ := (Opens.int Try.underlying3) enc w held _ _ _ h0_1
  injection (show [c1] = [.int .i64 n2] from r2) with e2; subst e2
  obtain ⟨y0_2, h0_2⟩ := trod_field hf0 hlen0 2 rfl (n := 1) (by kernel_rfl)
  obtain ⟨n3, r3, w3⟩ := (Opens.int Try.underlying28) enc w held _ _ _ h0_2
  injection (show [c2] = [.int .u64 n3] from r3) with e3; subst e3
  obtain ⟨y0_3, h0_3⟩ := trod_field hf0 hlen0 3 rfl (n := 1) (by kernel_rfl)
  obtain ⟨n4, r4, w4⟩ := (Opens.bool Try.underlying4) enc w held _ _ _ h0_3
  injection (show [c3] = [.bool n4] from r4) with e4; subst e4
  exact ⟨(y3t.mk n1 n2 n3 n4), rfl, ⟨w1, w2, w3, w4⟩⟩


end Go.Proofs.Ytcfcffbjdjacfaa.Sim

namespace Go.Proofs.Ytcfcffbjdjacfaa.Sim
open Go
set_option linter.unusedVariables false
set_option linter.unusedSimpArgs false

/-! ### y0w: function 8 -/
def y0w.l1 (r15 : (List y08)) (r151 : y01 × (List y0e) × Int) (r172 : y06 × (List y0e) × Int) : Nat → Int → Option (Fl (Fl (Bool) (Unit)) (y01 × y06))
 | 0, _ => none
 | k268 + 1, m1_0 => if decide (m1_0 ≤ (r15.length : Int)) = true then ((y38.f r151.1 m1_0).bind fun r276 => (y3n.f r172.1 m1_0).bind fun r282 => (if (!(r276 == r282)) = true then some true else (y3b.f r151.1 m1_0).bind fun r291 => (y3q.f r172.1 m1_0).bind fun r297 => some (r291 != r297)).bind fun t302 => if t302 = true then (some (.out (.out false))) else (y0w.l1 r15 r151 r172 k268 (wi (m1_0 + 1)))) else (some (.nxt (r151.1, r172.1)))
def y0w.l0 (p1 : List y3t) (r15 : (List y08)) : Nat → y01 → y06 → Int → Option (Fl (Bool) (Unit))
 | 0, _, _, _ => none
 | k126 + 1, m0_0, m0_1, m0_2 => if decide (m0_2 < (p1.length : Int)) = true then (((idx p1 m0_2).bind fun x144 => (law28_do.f m0_0 x144 (r15.length : Int) m0_1.Clock).bind fun r151 => (law28_want.f m0_1 x144 (r15.length : Int) m0_1.Clock).bind fun r172 => (y2g.f r151.1).bind fun r186 => (y37.f r172.1).bind fun r196 => (if (r151.2.2 != r172.2.2) = true then some true else (y1n.f r151.2.1 r172.2.1).bind fun r212 => some (!r212)).bind fun t217 => if ((t217 || (r186.1 != r196.1)) || (!(r186.2 == r196.2))) = true then (some (.out (.out false))) else (y0w.l1 r15 r151 r172 FUEL (-1)) : Option (Fl (Fl (Bool) (Unit)) (y01 × y06))).bind fun o134 => o134.go fun v133 => y0w.l0 p1 r15 k126 v133.1 v133.2 (wi (m0_2 + 1))) else (some (.nxt ()))
def y0w.f (p0 : List y08) (p1 : List y3t) : Option (Bool) := (y3o.f p0 p1).bind fun r4 => if r4 = true then ((law28_awake.f ).bind fun r9 => some r9) else ((y1t.f p0).bind fun r15 => (y2b.f r15).bind fun r25 => (y3m.f r15).bind fun r38 => if (((r25.2 != 0) || (r38.2 != 0)) || r25.1.isNone) = true then (some false) else (((r25.1).bind fun st81 => (r38.1).bind fun st99 => y0w.l0 p1 r15 FUEL st81 st99 0 : Option (Fl (Bool) (Unit))).bind fun o78 => o78.go fun _ => (law28_awake.f ).bind fun r338 => some r338))
set_option maxRecDepth 100000 in
set_option maxHeartbeats 4000000 in
theorem y0w.calls {p0 : List y08} {A0 : Option Addr} {cap0 : Nat} {C0 : Nat → Prop} {p1 : List y3t} {A1 : Option Addr} {cap1 : Nat} {C1 : Nat → Prop} {w : World} {g : Nat → Nat} {out : Bool} (N : Nat) (hp0 : RdS y0f w g C0 A0 cap0 p0) (hC0 : ∀ c, C0 c → c < N) (hp1 : RdS kd_law28_Call w g C1 A1 cap1 p1) (hC1 : ∀ c, C1 c → c < N) (H : y0w.f p0 p1 = some out) :
  Calls Try.prog 8 #[.slice A0 p0.length cap0, .slice A1 p1.length cap1] w (fun e w' => ∃ v, e = .returned v ∧ ∃ (g' : Nat → Nat), v = .bool out ∧ Fr (fun q => N ≤ q) w g w' g') := by
 unfold y0w.f at H
 refine y1k Try.func8 rfl Try.ntmps8 Z (fun a hS => ?_)
 replace hS : Sl 133 a [(0, .slice A0 p0.length cap0), (1, .slice A1 p1.length cap1)] := hS
 have hF : Fr (fun q => N ≤ q) w g w g := Fr.refl _ _ _
 refine y16 [(0, .slice A0 p0.length cap0), (1, .slice A1 p1.length cap1)] (fun R hR => y00 hS Z Z Z (y02 hS Z Z) fun a1 S1 => wpList_nil (hR _ (S1.re ⟨Z, Z, trivial⟩))) ?_
 clear hS a; intro a hS
 refine wp_seq ?_
 obtain ⟨r4, hr5, H⟩ := y0b H
 refine y0t (fun K hK => ?_)
 refine y00 hS Z Z Z (y03 hS Z Z) fun a2 S2 => y00 S2 Z Z Z (y03 S2 Z Z) fun a3 S3 => ?_
 refine y1y S3 Z Z Z (y2z S3 Z Z (by kernel_rfl)) (y3o.calls (C0 := C0) (C1 := C1) (p0 := p0) (p1 := p1) (g := g) (N + 22)  hp0 (fun q (hq : C0 q) => by have := hC0 q hq; omega) hp1 (fun q (hq : C1 q) => by have := hC1 q hq; omega) hr5) ?_
 rintro _ a6 w7 ⟨g7, rfl, F7⟩ S6
 replace hp0 := RdS.fr hp0 F7 (by decide) (fun q (hq : C0 q) (hm : N + 22 ≤ q) => by have := hC0 q hq; omega)
 replace hp1 := RdS.fr hp1 F7 (by decide) (fun q (hq : C1 q) (hm : N + 22 ≤ q) => by have := hC1 q hq; omega)
 replace hF := hF.trans F7 (fun c' (hm : N + 22 ≤ c') => by (try dsimp only); omega)
 refine wpList_nil (hK _ _ ?_)
 replace hS : Sl 133 _ [(0, .slice A0 p0.length cap0), (1, .slice A1 p1.length cap1), (23, .bool r4)] := S6.re ⟨Z, Z, Z, trivial⟩
 clear hK K
 try clear S2 S3 S6
 generalize a6 = a at hS ⊢
 refine y2m hS Z (fun hb8 => ?_) (fun hb8 => ?_)
 ·replace H := y3f hb8 H
  obtain ⟨r9, hr10, H⟩ := y0b H
  refine y0t (fun K hK => ?_)
  refine y1y hS Z Z Z (y2z hS Z Z (by kernel_rfl)) (law28_awake.calls (g := g7) (N + 22)   hr10) ?_
  rintro _ a11 w12 ⟨g12, rfl, F12⟩ S11
  replace hp0 := RdS.fr hp0 F12 (by decide) (fun q (hq : C0 q) (hm : N + 22 ≤ q) => by have := hC0 q hq; omega)
  replace hp1 := RdS.fr hp1 F12 (by decide) (fun q (hq : C1 q) (hm : N + 22 ≤ q) => by have := hC1 q hq; omega)
  replace hF := hF.trans F12 (fun c' (hm : N + 22 ≤ c') => by (try dsimp only); omega)
  refine y00 S11 Z Z Z (y02 S11 Z Z) fun a13 S13 => wpList_nil (hK _ _ ?_)
  replace hS : Sl 133 _ [(4, .bool r9)] := S13.re ⟨Z, trivial⟩
  clear hK K
  try clear S11 S13
  generalize a13 = a at hS ⊢
  refine wp_ret ?_
  have e := Option.some.inj H
  subst e
  repeat (with_reducible first | refine y1i ?_ | refine y0o ?_)
  exact y3v hS Try.results8 rfl ⟨_, rfl, g12, rfl, hF⟩
 ·replace H := y3g hb8 H
  refine wp_skip ?_
  change Code.wp _ _ _ _ _
  obtain ⟨r15, hr16, H⟩ := y0b H
  refine y0t (fun K hK => ?_)
  refine y00 hS Z Z Z (y03 hS Z Z) fun a14 S14 => ?_
  refine y1y S14 Z Z Z (y2z S14 Z Z (by kernel_rfl)) (y1t.calls (C0 := C0) (p0 := p0) (g := g7) (N + 22) (N + 0) hp0 (fun q (hq : C0 q) => by have := hC0 q hq; omega) (by omega) hr16) ?_
  rintro _ a21 w22 ⟨g22, A17, cap18, rfl, h19, F22⟩ S21
  replace hp0 := RdS.fr hp0 F22 (by decide) (fun q (hq : C0 q) (hm : (N + 0 ≤ q ∧ q < N + 0 + 2) ∨ N + 22 ≤ q) => by have := hC0 q hq; omega)
  replace hp1 := RdS.fr hp1 F22 (by decide) (fun q (hq : C1 q) (hm : (N + 0 ≤ q ∧ q < N + 0 + 2) ∨ N + 22 ≤ q) => by have := hC1 q hq; omega)
  replace hF := hF.trans F22 (fun c' (hm : (N + 0 ≤ c' ∧ c' < N + 0 + 2) ∨ N + 22 ≤ c') => by (try dsimp only); omega)
  refine y00 S21 Z Z Z (y02 S21 Z Z) fun a23 S23 => wpList_nil (hK _ _ ?_)
  replace hS : Sl 133 _ [(1, .slice A1 p1.length cap1), (5, .slice A17 r15.length cap18)] := S23.re ⟨Z, Z, trivial⟩
  clear hK K
  try clear S14 S21 S23
  generalize a23 = a at hS ⊢
  obtain ⟨r25, hr26, H⟩ := y0b H
  refine y0t (fun K hK => ?_)
  refine y00 hS Z Z Z (y03 hS Z Z) fun a24 S24 => ?_
  refine y1y S24 Z Z Z (y2z S24 Z Z (by kernel_rfl)) (y2b.calls (C0 := (fun q => q = N + 0 ∨ q = N + 0 + 1)) (p0 := r15) (g := g22) (N + 22) (N + 2) (OwS.rd h19) (fun q (hq : q = N + 0 ∨ q = N + 0 + 1) => by rcases hq with hq | hq; all_goals first | (omega; done) | (omega; done)) (by omega) hr26) ?_
  rintro _ a30 w31 ⟨g31, p27, rfl, h28, F31⟩ S30
  replace h19 := OwS.fr h19 F31 (fun c' hc (hm : (N + 2 ≤ c' ∧ c' < N + 2 + 7) ∨ N + 22 ≤ c') => by omega)
  replace hp1 := RdS.fr hp1 F31 (by decide) (fun q (hq : C1 q) (hm : (N + 2 ≤ q ∧ q < N + 2 + 7) ∨ N + 22 ≤ q) => by have := hC1 q hq; omega)
  replace hF := hF.trans F31 (fun c' (hm : (N + 2 ≤ c' ∧ c' < N + 2 + 7) ∨ N + 22 ≤ c') => by (try dsimp only); omega)
  refine y00 S30 Z Z Z (y03 S30 Z Z) fun a32 S32 => y00 S32 Z Z Z (y1z S32 Z Z Z) fun a33 S33 => y00 S33 Z Z Z (y1z S33 Z Z Z) fun a34 S34 => y00 S34 Z Z Z (y02 S34 Z Z) fun a35 S35 => y00 S35 Z Z Z (y02 S35 Z Z) fun a36 S36 => wpList_nil (hK _ _ ?_)
  replace hS : Sl 133 _ [(1, .slice A1 p1.length cap1), (5, .slice A17 r15.length cap18), (6, .pointer p27), (7, i6 r25.2)] := S36.re ⟨Z, Z, Z, Z, trivial⟩
  clear hK K
  try clear S24 S30 S32 S33 S34 S35 S36
  generalize a36 = a at hS ⊢
  obtain ⟨r38, hr39, H⟩ := y0b H
  refine y0t (fun K hK => ?_)
  refine y00 hS Z Z Z (y03 hS Z Z) fun a37 S37 => ?_
  refine y1y S37 Z Z Z (y2z S37 Z Z (by kernel_rfl)) (y3m.calls (C0 := (fun q => q = N + 0 ∨ q = N + 0 + 1)) (p0 := r15) (g := g31) (N + 22) (N + 9) (OwS.rd h19) (fun q (hq : q = N + 0 ∨ q = N + 0 + 1) => by rcases hq with hq | hq; all_goals first | (omega; done) | (omega; done)) (by omega) hr39) ?_
  rintro _ a43 w44 ⟨g44, p40, rfl, h41, F44⟩ S43
  replace h19 := OwS.fr h19 F44 (fun c' hc (hm : (N + 9 ≤ c' ∧ c' < N + 9 + 9) ∨ N + 22 ≤ c') => by omega)
  replace h28 := y3c.fr h28 F44 (fun q hq1 hq2 (hm : (N + 9 ≤ q ∧ q < N + 9 + 9) ∨ N + 22 ≤ q) => by omega)
  replace hp1 := RdS.fr hp1 F44 (by decide) (fun q (hq : C1 q) (hm : (N + 9 ≤ q ∧ q < N + 9 + 9) ∨ N + 22 ≤ q) => by have := hC1 q hq; omega)
  replace hF := hF.trans F44 (fun c' (hm : (N + 9 ≤ c' ∧ c' < N + 9 + 9) ∨ N + 22 ≤ c') => by (try dsimp only); omega)
  refine y00 S43 Z Z Z (y03 S43 Z Z) fun a45 S45 => y00 S45 Z Z Z (y1z S45 Z Z Z) fun a46 S46 => y00 S46 Z Z Z (y1z S46 Z Z Z) fun a47 S47 => y00 S47 Z Z Z (y02 S47 Z Z) fun a48 S48 => y00 S48 Z Z Z (y02 S48 Z Z) fun a49 S49 => wpList_nil (hK _ _ ?_)
  replace hS : Sl 133 _ [(1, .slice A1 p1.length cap1), (5, .slice A17 r15.length cap18), (6, .pointer p27), (7, i6 r25.2), (8, .pointer p40), (9, i6 r38.2)] := S49.re ⟨Z, Z, Z, Z, Z, Z, trivial⟩
  clear hK K
  try clear S37 S43 S45 S46 S47 S48 S49
  generalize a49 = a at hS ⊢
  refine wp_seq ?_
  refine y0t (fun K hK => ?_)
  refine y00 hS Z Z Z (y03 hS Z Z) fun a50 S50 => y00 S50 Z Z Z (y2l S50 Z Z rfl b_neq) fun a51 S51 => y00 S51 Z Z Z (y03 S51 Z Z) fun a52 S52 => ?_
  refine y4b (N := 133) 3 [(1, .slice A1 p1.length cap1), (5, .slice A17 r15.length cap18), (6, .pointer p27), (8, .pointer p40), (42, .bool ((r25.2 != 0) || (r38.2 != 0)))] ?_ (fun hk => ?_)
  rotate_left
  ·rcases Bool.eq_false_or_eq_true ((r25.2 != 0)) with hb53 | hb53
   ·refine y1c S52 (y05 S52 Z Z rfl hb53) Z Z fun a56 S56 => y1c S56 (y05 S56 Z Z rfl hb53) Z Z fun a57 S57 => y00 S57 Z Z Z (y2s S57 Z Z rfl hb53) fun a58 S58 => hk _ (S58.re ⟨rfl, rfl, rfl, rfl, (by rw [hb53]; rfl), trivial⟩)
   ·refine y0p S52 (y0a S52 Z Z rfl hb53) Z Z (y03 S52 Z Z) fun a59 S59 => y0p S59 (y0a S59 Z Z rfl hb53) Z Z (y2l S59 Z Z rfl b_neq) fun a60 S60 => y00 S60 Z Z Z (y2t S60 Z Z rfl hb53) fun a61 S61 => hk _ (S61.re ⟨rfl, rfl, rfl, rfl, (by rw [hb53]; rfl), trivial⟩)
  intro a62 S62
  refine y00 S62 Z Z Z (y03 S62 Z Z) fun a63 S63 => ?_
  refine y4b (N := 133) 3 [(1, .slice A1 p1.length cap1), (5, .slice A17 r15.length cap18), (6, .pointer p27), (8, .pointer p40), (46, .bool (((r25.2 != 0) || (r38.2 != 0)) || r25.1.isNone))] ?_ (fun hk => ?_)
  rotate_left
  ·rcases Bool.eq_false_or_eq_true (((r25.2 != 0) || (r38.2 != 0))) with hb64 | hb64
   ·refine y1c S63 (y05 S63 Z Z rfl hb64) Z Z fun a67 S67 => y1c S67 (y05 S67 Z Z rfl hb64) Z Z fun a68 S68 => y00 S68 Z Z Z (y2s S68 Z Z rfl hb64) fun a69 S69 => hk _ (S69.re ⟨rfl, rfl, rfl, rfl, (by rw [hb64]; rfl), trivial⟩)
   ·refine y0p S63 (y0a S63 Z Z rfl hb64) Z Z (y03 S63 Z Z) fun a70 S70 => y0p S70 (y0a S70 Z Z rfl hb64) Z Z (r_optEq S70 Z Z (by kernel_rfl) (y3c.isNone h28)) fun a71 S71 => y00 S71 Z Z Z (y2t S71 Z Z rfl hb64) fun a72 S72 => hk _ (S72.re ⟨rfl, rfl, rfl, rfl, (by rw [hb64]; rfl), trivial⟩)
  intro a73 S73
  refine wpList_nil (hK _ _ ?_)
  replace hS : Sl 133 _ [(1, .slice A1 p1.length cap1), (5, .slice A17 r15.length cap18), (6, .pointer p27), (8, .pointer p40), (46, .bool (((r25.2 != 0) || (r38.2 != 0)) || r25.1.isNone))] := S73.re ⟨Z, Z, Z, Z, Z, trivial⟩
  clear hK K
  try clear S50 S51 S52 S62 S63 S73
  generalize a73 = a at hS ⊢
  refine y2m hS Z (fun hb74 => ?_) (fun hb74 => ?_)
  ·replace H := y3f hb74 H
   refine y16 [(4, .bool false)] (fun R hR => y00 hS Z Z Z (y02 hS Z Z) fun a75 S75 => wpList_nil (hR _ (S75.re ⟨Z, trivial⟩))) ?_
   clear hS a; intro a hS
   refine wp_ret ?_
   have e := Option.some.inj H
   subst e
   repeat (with_reducible first | refine y1i ?_ | refine y0o ?_)
   exact y3v hS Try.results8 rfl ⟨_, rfl, g44, rfl, hF⟩
  ·replace H := y3g hb74 H
   refine wp_skip ?_
   change Code.wp _ _ _ _ _
   obtain ⟨o78, H, Hl79⟩ := y0b H
   refine y4u (fun a w76 => ∃ (g76 : Nat → Nat), o78 = .nxt () ∧ Sl 133 a [] ∧ Fr (fun q => N ≤ q) w g w76 g76) ?_ ?_
   ·refine y16 [(1, .slice A1 p1.length cap1), (5, .slice A17 r15.length cap18), (6, .pointer p27), (8, .pointer p40), (10, i6 0)] (fun R hR => y00 hS Z Z Z (y02 hS Z Z) fun a80 S80 => wpList_nil (hR _ (S80.re ⟨Z, Z, Z, Z, Z, trivial⟩))) ?_
    clear hS a; intro a hS
    refine wp_block ?_
    obtain ⟨st81, hst82, H⟩ := y0b H
    rw [hst82] at h28
    obtain ⟨b83, A86, cap87, A90, cap91, A94, cap95, hp98, h84, h88, h92, h96⟩ := h28
    subst hp98
    obtain ⟨st99, hst100, H⟩ := y0b H
    rw [hst100] at h41
    obtain ⟨b101, A104, cap105, A108, cap109, A112, cap113, A116, cap117, A120, cap121, hp124, h102, h106, h110, h114, h118, h122⟩ := h41
    subst hp124
    refine wp_loop_ghost (fun kq => fun a w125 => ∃ (m0_0 : y01), ∃ (m0_1 : y06), ∃ (m0_2 : Int), ∃ (g125 : Nat → Nat), y0w.l0 p1 r15 kq m0_0 m0_1 m0_2 = some o78 ∧ Sl 133 a [(1, .slice A1 p1.length cap1), (5, .slice A17 r15.length cap18), (6, .pointer (so b83)), (8, .pointer (so b101)), (10, i6 m0_2)] ∧ Bx w125 g125 (N + 9) b101 63 [.slice A104 m0_1.D.length cap105, .slice A108 m0_1.Links.length cap109, .slice A112 m0_1.On.length cap113, .slice A116 m0_1.Use.length cap117, .slice A120 m0_1.Since.length cap121, .int .u64 m0_1.Clock] ∧ RdS y0f w125 g125 (fun q => q = N + 0 ∨ q = N + 0 + 1) A104 cap105 m0_1.D ∧ OwS y0r 67 w125 g125 (N + 9 + 1) A108 cap109 m0_1.Links ∧ OwS y4p 4 w125 g125 (N + 9 + 3) A112 cap113 m0_1.On ∧ OwS (kint .i64) 3 w125 g125 (N + 9 + 5) A116 cap117 m0_1.Use ∧ OwS (kint .u64) 28 w125 g125 (N + 9 + 7) A120 cap121 m0_1.Since ∧ OwS y0f 30 w125 g125 (N + 0) A17 cap18 r15 ∧ Bx w125 g125 (N + 2) b83 85 [.slice A86 m0_0.devices.length cap87, .slice A90 m0_0.links.length cap91, .slice A94 m0_0.order.length cap95, .int .u64 m0_0.now] ∧ OwS y1h 88 w125 g125 (N + 2 + 1) A86 cap87 m0_0.devices ∧ OwS y0r 67 w125 g125 (N + 2 + 3) A90 cap91 m0_0.links ∧ OwS (kint .i64) 3 w125 g125 (N + 2 + 5) A94 cap95 m0_0.order ∧ RdS kd_law28_Call w125 g125 C1 A1 cap1 p1 ∧ Fr (fun q => N ≤ q) w g w125 g125) FUEL ?_ ?_
    ·exact ⟨st81, st99, 0, g44, H, hS.re ⟨Z, Z, Z, Z, Z, trivial⟩, h102, h106, h110, h114, h118, h122, h19, h84, h88, h92, h96, hp1, hF⟩
    ·clear H
     clear hp1 h19 h88 h92 h96 h84 h106 h110 h114 h118 h122 h102 hF
     clear hS
     rintro k126 a w125 ⟨m0_0, m0_1, m0_2, g125, hpre0, hS, h102, h106, h110, h114, h118, h122, h19, h84, h88, h92, h96, hp1, hF⟩
     have H := hpre0
     clear hpre0
     cases k126 with
     | zero => exact absurd H (by simp [y0w.l0])
     | succ k126 =>
      rw [y0w.l0] at H
      refine wp_seq ?_
      refine y16 [(1, .slice A1 p1.length cap1), (5, .slice A17 r15.length cap18), (6, .pointer (so b83)), (8, .pointer (so b101)), (10, i6 m0_2), (50, .bool (decide (m0_2 < (p1.length : Int))))] (fun R hR => y00 hS Z Z Z (y03 hS Z Z) fun a127 S127 => y00 S127 Z Z Z (y03 S127 Z Z) fun a128 S128 => y00 S128 Z Z Z (y4x (e := 54) (sz := 4) (by_ := 32) S128 Z Z (by kernel_rfl)) fun a129 S129 => y00 S129 Z Z Z (y2l S129 Z Z rfl y4t) fun a130 S130 => wpList_nil (hR _ (S130.re ⟨Z, Z, Z, Z, Z, Z, trivial⟩))) ?_
      clear hS a; intro a hS
      refine y2m hS Z (fun hb131 => ?_) (fun hb131 => ?_)
      ·replace H := y3f hb131 H
       refine wp_skip ?_
       change Code.wp _ _ _ _ _
       obtain ⟨o134, H, Hl135⟩ := y0b H
       refine y4u (fun a w132 => ∃ (v133 : y01 × y06), ∃ (g132 : Nat → Nat), o134 = .nxt v133 ∧ Sl 133 a [(1, .slice A1 p1.length cap1), (5, .slice A17 r15.length cap18), (6, .pointer (so b83)), (8, .pointer (so b101)), (10, i6 m0_2)] ∧ Bx w132 g132 (N + 9) b101 63 [.slice A104 v133.2.D.length cap105, .slice A108 v133.2.Links.length cap109, .slice A112 v133.2.On.length cap113, .slice A116 v133.2.Use.length cap117, .slice A120 v133.2.Since.length cap121, .int .u64 v133.2.Clock] ∧ RdS y0f w132 g132 (fun q => q = N + 0 ∨ q = N + 0 + 1) A104 cap105 v133.2.D ∧ OwS y0r 67 w132 g132 (N + 9 + 1) A108 cap109 v133.2.Links ∧ OwS y4p 4 w132 g132 (N + 9 + 3) A112 cap113 v133.2.On ∧ OwS (kint .i64) 3 w132 g132 (N + 9 + 5) A116 cap117 v133.2.Use ∧ OwS (kint .u64) 28 w132 g132 (N + 9 + 7) A120 cap121 v133.2.Since ∧ OwS y0f 30 w132 g132 (N + 0) A17 cap18 r15 ∧ Bx w132 g132 (N + 2) b83 85 [.slice A86 v133.1.devices.length cap87, .slice A90 v133.1.links.length cap91, .slice A94 v133.1.order.length cap95, .int .u64 v133.1.now] ∧ OwS y1h 88 w132 g132 (N + 2 + 1) A86 cap87 v133.1.devices ∧ OwS y0r 67 w132 g132 (N + 2 + 3) A90 cap91 v133.1.links ∧ OwS (kint .i64) 3 w132 g132 (N + 2 + 5) A94 cap95 v133.1.order ∧ RdS kd_law28_Call w132 g132 C1 A1 cap1 p1 ∧ Fr (fun q => N ≤ q) w g w132 g132) ?_ ?_
       ·refine wp_block ?_
        refine y16 [(1, .slice A1 p1.length cap1), (5, .slice A17 r15.length cap18), (6, .pointer (so b83)), (8, .pointer (so b101)), (10, i6 m0_2), (11, .int .u64 m0_1.Clock)] (fun R hR => y00 hS Z Z Z (y03 hS Z Z) fun a136 S136 => y00 S136 Z Z Z (y4s S136 Z Z) fun a137 S137 => y00 S137 Z Z Z (y1e (off := 5) S137 Z Z (by kernel_rfl)) fun a138 S138 => y00 S138 Z Z Z (y0u (n := 1) S138 Z Z (by kernel_rfl) (Bx.cell h102 Z)) fun a139 S139 => y00 S139 Z Z Z (y02 S139 Z Z) fun a140 S140 => wpList_nil (hR _ (S140.re ⟨Z, Z, Z, Z, Z, Z, trivial⟩))) ?_
        clear hS a; intro a hS
        obtain ⟨x144, hx145, H⟩ := y0b H
        obtain ⟨r151, hr152, H⟩ := y0b H
        refine y0t (fun K hK => ?_)
        refine y00 hS Z Z Z (y03 hS Z Z) fun a141 S141 => y00 S141 Z Z Z (y03 S141 Z Z) fun a142 S142 => y00 S142 Z Z Z (y03 S142 Z Z) fun a143 S143 => y00 S143 Z Z Z (y1j (e := 54) (sz := 4) (by_ := 32) S143 Z Z Z (by kernel_rfl) (RdS.some_ hp1 hx145) (y26 hx145) (y27 hx145)) fun a146 S146 => y00 S146 Z Z Z (r_loadN (n := 4) (cs := [i6 x144.Kind, i6 x144.Device, .int .u64 x144.Wait, .bool x144.Raw]) S146 Z Z (by kernel_rfl) Z (RdS.cells_off hp1 hx145 0 4)) fun a147 S147 => y00 S147 Z Z Z (y03 S147 Z Z) fun a148 S148 => y00 S148 Z Z Z (y4x (e := 30) (sz := 3) (by_ := 40) S148 Z Z (by kernel_rfl)) fun a149 S149 => y00 S149 Z Z Z (y03 S149 Z Z) fun a150 S150 => ?_
        refine y1y S150 Z Z Z (y2z S150 Z Z (by kernel_rfl)) (law28_do.calls (c0 := N + 2) (b_p0 := b83) (y09 := A86) (y07 := cap87) (y0v := A90) (y0l := cap91) (y0q := A94) (y0h := cap95) (p0 := m0_0) (p1 := x144) (p2 := (r15.length : Int)) (p3 := m0_1.Clock) (g := g125) (N + 22) (N + 18) ⟨h84, h88, h92, h96⟩ (by omega) (by omega) (by omega) hr152) ?_
        rintro _ a157 w158 ⟨g158, A153, cap154, rfl, ⟨h84, h88, h92, h96⟩, h155, F158⟩ S157
        replace h102 := h102.fr F158 (fun (hm : (N + 2 ≤ N + 9 ∧ N + 9 < N + 2 + 7) ∨ (N + 18 ≤ N + 9 ∧ N + 9 < N + 18 + 2) ∨ N + 22 ≤ N + 9) => by omega)
        replace h106 := RdS.fr h106 F158 (by decide) (fun q (hq : q = N + 0 ∨ q = N + 0 + 1) (hm : (N + 2 ≤ q ∧ q < N + 2 + 7) ∨ (N + 18 ≤ q ∧ q < N + 18 + 2) ∨ N + 22 ≤ q) => by rcases hq with hq | hq; all_goals first | (omega; done) | (omega; done))
        replace h110 := OwS.fr h110 F158 (fun c' hc (hm : (N + 2 ≤ c' ∧ c' < N + 2 + 7) ∨ (N + 18 ≤ c' ∧ c' < N + 18 + 2) ∨ N + 22 ≤ c') => by omega)
        replace h114 := OwS.fr h114 F158 (fun c' hc (hm : (N + 2 ≤ c' ∧ c' < N + 2 + 7) ∨ (N + 18 ≤ c' ∧ c' < N + 18 + 2) ∨ N + 22 ≤ c') => by omega)
        replace h118 := OwS.fr h118 F158 (fun c' hc (hm : (N + 2 ≤ c' ∧ c' < N + 2 + 7) ∨ (N + 18 ≤ c' ∧ c' < N + 18 + 2) ∨ N + 22 ≤ c') => by omega)
        replace h122 := OwS.fr h122 F158 (fun c' hc (hm : (N + 2 ≤ c' ∧ c' < N + 2 + 7) ∨ (N + 18 ≤ c' ∧ c' < N + 18 + 2) ∨ N + 22 ≤ c') => by omega)
        replace h19 := OwS.fr h19 F158 (fun c' hc (hm : (N + 2 ≤ c' ∧ c' < N + 2 + 7) ∨ (N + 18 ≤ c' ∧ c' < N + 18 + 2) ∨ N + 22 ≤ c') => by omega)
        replace hp1 := RdS.fr hp1 F158 (by decide) (fun q (hq : C1 q) (hm : (N + 2 ≤ q ∧ q < N + 2 + 7) ∨ (N + 18 ≤ q ∧ q < N + 18 + 2) ∨ N + 22 ≤ q) => by have := hC1 q hq; omega)
        replace hF := hF.trans F158 (fun c' (hm : (N + 2 ≤ c' ∧ c' < N + 2 + 7) ∨ (N + 18 ≤ c' ∧ c' < N + 18 + 2) ∨ N + 22 ≤ c') => by (try dsimp only); omega)
        refine y00 S157 Z Z Z (y03 S157 Z Z) fun a159 S159 => y00 S159 Z Z Z (y1z S159 Z Z Z) fun a160 S160 => y00 S160 Z Z Z (y1z S160 Z Z Z) fun a161 S161 => y00 S161 Z Z Z (y02 S161 Z Z) fun a162 S162 => y00 S162 Z Z Z (y02 S162 Z Z) fun a163 S163 => wpList_nil (hK _ _ ?_)
        replace hS : Sl 133 _ [(1, .slice A1 p1.length cap1), (5, .slice A17 r15.length cap18), (6, .pointer (so b83)), (8, .pointer (so b101)), (10, i6 m0_2), (11, .int .u64 m0_1.Clock), (12, .slice A153 r151.2.1.length cap154), (13, i6 r151.2.2)] := S163.re ⟨Z, Z, Z, Z, Z, Z, Z, Z, trivial⟩
        clear hK K
        try clear S141 S142 S143 S146 S147 S148 S149 S150 S157 S159 S160 S161 S162 S163
        generalize a163 = a at hS ⊢
        obtain ⟨r172, hr173, H⟩ := y0b H
        refine y0t (fun K hK => ?_)
        refine y00 hS Z Z Z (y03 hS Z Z) fun a164 S164 => y00 S164 Z Z Z (y03 S164 Z Z) fun a165 S165 => y00 S165 Z Z Z (y03 S165 Z Z) fun a166 S166 => y00 S166 Z Z Z (y1j (e := 54) (sz := 4) (by_ := 32) S166 Z Z Z (by kernel_rfl) (RdS.some_ hp1 hx145) (y26 hx145) (y27 hx145)) fun a167 S167 => y00 S167 Z Z Z (r_loadN (n := 4) (cs := [i6 x144.Kind, i6 x144.Device, .int .u64 x144.Wait, .bool x144.Raw]) S167 Z Z (by kernel_rfl) Z (RdS.cells_off hp1 hx145 0 4)) fun a168 S168 => y00 S168 Z Z Z (y03 S168 Z Z) fun a169 S169 => y00 S169 Z Z Z (y4x (e := 30) (sz := 3) (by_ := 40) S169 Z Z (by kernel_rfl)) fun a170 S170 => y00 S170 Z Z Z (y03 S170 Z Z) fun a171 S171 => ?_
        refine y1y S171 Z Z Z (y2z S171 Z Z (by kernel_rfl)) (law28_want.calls (c0 := N + 9) (b_p0 := b101) (y2o := A104) (y1l := cap105) (y2a := (fun q => q = N + 0 ∨ q = N + 0 + 1)) (y0x := A108) (y0m := cap109) (y24 := A112) (y1d := cap113) (y1m := A116) (y0y := cap117) (y0z := A120) (y0n := cap121) (p0 := m0_1) (p1 := x144) (p2 := (r15.length : Int)) (p3 := m0_1.Clock) (g := g158) (N + 22) (N + 20) ⟨h102, h106, h110, h114, h118, h122⟩ (by omega) (fun q (hq : q = N + 0 ∨ q = N + 0 + 1) => by rcases hq with hq | hq; all_goals first | (omega; done) | (omega; done)) (by omega) (by omega) hr173) ?_
        rintro _ a178 w179 ⟨g179, A174, cap175, rfl, ⟨h102, h106, h110, h114, h118, h122⟩, h176, F179⟩ S178
        replace h155 := OwS.fr h155 F179 (fun c' hc (hm : (N + 9 ≤ c' ∧ c' < N + 9 + 9) ∨ (N + 20 ≤ c' ∧ c' < N + 20 + 2) ∨ N + 22 ≤ c') => by omega)
        replace h19 := OwS.fr h19 F179 (fun c' hc (hm : (N + 9 ≤ c' ∧ c' < N + 9 + 9) ∨ (N + 20 ≤ c' ∧ c' < N + 20 + 2) ∨ N + 22 ≤ c') => by omega)
        replace h84 := h84.fr F179 (fun (hm : (N + 9 ≤ N + 2 ∧ N + 2 < N + 9 + 9) ∨ (N + 20 ≤ N + 2 ∧ N + 2 < N + 20 + 2) ∨ N + 22 ≤ N + 2) => by omega)
        replace h88 := OwS.fr h88 F179 (fun c' hc (hm : (N + 9 ≤ c' ∧ c' < N + 9 + 9) ∨ (N + 20 ≤ c' ∧ c' < N + 20 + 2) ∨ N + 22 ≤ c') => by omega)
        replace h92 := OwS.fr h92 F179 (fun c' hc (hm : (N + 9 ≤ c' ∧ c' < N + 9 + 9) ∨ (N + 20 ≤ c' ∧ c' < N + 20 + 2) ∨ N + 22 ≤ c') => by omega)
        replace h96 := OwS.fr h96 F179 (fun c' hc (hm : (N + 9 ≤ c' ∧ c' < N + 9 + 9) ∨ (N + 20 ≤ c' ∧ c' < N + 20 + 2) ∨ N + 22 ≤ c') => by omega)
        replace hp1 := RdS.fr hp1 F179 (by decide) (fun q (hq : C1 q) (hm : (N + 9 ≤ q ∧ q < N + 9 + 9) ∨ (N + 20 ≤ q ∧ q < N + 20 + 2) ∨ N + 22 ≤ q) => by have := hC1 q hq; omega)
        replace hF := hF.trans F179 (fun c' (hm : (N + 9 ≤ c' ∧ c' < N + 9 + 9) ∨ (N + 20 ≤ c' ∧ c' < N + 20 + 2) ∨ N + 22 ≤ c') => by (try dsimp only); omega)
        refine y00 S178 Z Z Z (y03 S178 Z Z) fun a180 S180 => y00 S180 Z Z Z (y1z S180 Z Z Z) fun a181 S181 => y00 S181 Z Z Z (y1z S181 Z Z Z) fun a182 S182 => y00 S182 Z Z Z (y02 S182 Z Z) fun a183 S183 => y00 S183 Z Z Z (y02 S183 Z Z) fun a184 S184 => wpList_nil (hK _ _ ?_)
        replace hS : Sl 133 _ [(1, .slice A1 p1.length cap1), (5, .slice A17 r15.length cap18), (6, .pointer (so b83)), (8, .pointer (so b101)), (10, i6 m0_2), (12, .slice A153 r151.2.1.length cap154), (13, i6 r151.2.2), (14, .slice A174 r172.2.1.length cap175), (15, i6 r172.2.2)] := S184.re ⟨Z, Z, Z, Z, Z, Z, Z, Z, Z, trivial⟩
        clear hK K
        try clear S164 S165 S166 S167 S168 S169 S170 S171 S178 S180 S181 S182 S183 S184
        generalize a184 = a at hS ⊢
        obtain ⟨r186, hr187, H⟩ := y0b H
        refine y0t (fun K hK => ?_)
        refine y00 hS Z Z Z (y03 hS Z Z) fun a185 S185 => ?_
        refine y1y S185 Z Z Z (y2z S185 Z Z (by kernel_rfl)) (y2g.calls (c0 := N + 2) (b_p0 := b83) (y09 := A86) (y07 := cap87) (y0v := A90) (y0l := cap91) (y0q := A94) (y0h := cap95) (p0 := r151.1) (g := g179) (N + 22)  ⟨h84, h88, h92, h96⟩ (by omega) hr187) ?_
        rintro _ a188 w189 ⟨g189, rfl, F189⟩ S188
        replace h102 := h102.fr F189 (fun (hm : N + 22 ≤ N + 9) => by omega)
        replace h106 := RdS.fr h106 F189 (by decide) (fun q (hq : q = N + 0 ∨ q = N + 0 + 1) (hm : N + 22 ≤ q) => by rcases hq with hq | hq; all_goals first | (omega; done) | (omega; done))
        replace h110 := OwS.fr h110 F189 (fun c' hc (hm : N + 22 ≤ c') => by omega)
        replace h114 := OwS.fr h114 F189 (fun c' hc (hm : N + 22 ≤ c') => by omega)
        replace h118 := OwS.fr h118 F189 (fun c' hc (hm : N + 22 ≤ c') => by omega)
        replace h122 := OwS.fr h122 F189 (fun c' hc (hm : N + 22 ≤ c') => by omega)
        replace h155 := OwS.fr h155 F189 (fun c' hc (hm : N + 22 ≤ c') => by omega)
        replace h176 := OwS.fr h176 F189 (fun c' hc (hm : N + 22 ≤ c') => by omega)
        replace h19 := OwS.fr h19 F189 (fun c' hc (hm : N + 22 ≤ c') => by omega)
        replace h84 := h84.fr F189 (fun (hm : N + 22 ≤ N + 2) => by omega)
        replace h88 := OwS.fr h88 F189 (fun c' hc (hm : N + 22 ≤ c') => by omega)
        replace h92 := OwS.fr h92 F189 (fun c' hc (hm : N + 22 ≤ c') => by omega)
        replace h96 := OwS.fr h96 F189 (fun c' hc (hm : N + 22 ≤ c') => by omega)
        replace hp1 := RdS.fr hp1 F189 (by decide) (fun q (hq : C1 q) (hm : N + 22 ≤ q) => by have := hC1 q hq; omega)
        replace hF := hF.trans F189 (fun c' (hm : N + 22 ≤ c') => by (try dsimp only); omega)
        refine y00 S188 Z Z Z (y03 S188 Z Z) fun a190 S190 => y00 S190 Z Z Z (y1z S190 Z Z Z) fun a191 S191 => y00 S191 Z Z Z (y1z S191 Z Z Z) fun a192 S192 => y00 S192 Z Z Z (y02 S192 Z Z) fun a193 S193 => y00 S193 Z Z Z (y02 S193 Z Z) fun a194 S194 => wpList_nil (hK _ _ ?_)
        replace hS : Sl 133 _ [(1, .slice A1 p1.length cap1), (5, .slice A17 r15.length cap18), (6, .pointer (so b83)), (8, .pointer (so b101)), (10, i6 m0_2), (12, .slice A153 r151.2.1.length cap154), (13, i6 r151.2.2), (14, .slice A174 r172.2.1.length cap175), (15, i6 r172.2.2), (16, .int .u64 r186.1), (17, .bool r186.2)] := S194.re ⟨Z, Z, Z, Z, Z, Z, Z, Z, Z, Z, Z, trivial⟩
        clear hK K
        try clear S185 S188 S190 S191 S192 S193 S194
        generalize a194 = a at hS ⊢
        obtain ⟨r196, hr197, H⟩ := y0b H
        refine y0t (fun K hK => ?_)
        refine y00 hS Z Z Z (y03 hS Z Z) fun a195 S195 => ?_
        refine y1y S195 Z Z Z (y2z S195 Z Z (by kernel_rfl)) (y37.calls (c0 := N + 9) (b_p0 := b101) (y2o := A104) (y1l := cap105) (y2a := (fun q => q = N + 0 ∨ q = N + 0 + 1)) (y0x := A108) (y0m := cap109) (y24 := A112) (y1d := cap113) (y1m := A116) (y0y := cap117) (y0z := A120) (y0n := cap121) (p0 := r172.1) (g := g189) (N + 22)  ⟨h102, h106, h110, h114, h118, h122⟩ (by omega) (fun q (hq : q = N + 0 ∨ q = N + 0 + 1) => by rcases hq with hq | hq; all_goals first | (omega; done) | (omega; done)) hr197) ?_
        rintro _ a198 w199 ⟨g199, rfl, F199⟩ S198
        replace h102 := h102.fr F199 (fun (hm : N + 22 ≤ N + 9) => by omega)
        replace h106 := RdS.fr h106 F199 (by decide) (fun q (hq : q = N + 0 ∨ q = N + 0 + 1) (hm : N + 22 ≤ q) => by rcases hq with hq | hq; all_goals first | (omega; done) | (omega; done))
        replace h110 := OwS.fr h110 F199 (fun c' hc (hm : N + 22 ≤ c') => by omega)
        replace h114 := OwS.fr h114 F199 (fun c' hc (hm : N + 22 ≤ c') => by omega)
        replace h118 := OwS.fr h118 F199 (fun c' hc (hm : N + 22 ≤ c') => by omega)
        replace h122 := OwS.fr h122 F199 (fun c' hc (hm : N + 22 ≤ c') => by omega)
        replace h155 := OwS.fr h155 F199 (fun c' hc (hm : N + 22 ≤ c') => by omega)
        replace h176 := OwS.fr h176 F199 (fun c' hc (hm : N + 22 ≤ c') => by omega)
        replace h19 := OwS.fr h19 F199 (fun c' hc (hm : N + 22 ≤ c') => by omega)
        replace h84 := h84.fr F199 (fun (hm : N + 22 ≤ N + 2) => by omega)
        replace h88 := OwS.fr h88 F199 (fun c' hc (hm : N + 22 ≤ c') => by omega)
        replace h92 := OwS.fr h92 F199 (fun c' hc (hm : N + 22 ≤ c') => by omega)
        replace h96 := OwS.fr h96 F199 (fun c' hc (hm : N + 22 ≤ c') => by omega)
        replace hp1 := RdS.fr hp1 F199 (by decide) (fun q (hq : C1 q) (hm : N + 22 ≤ q) => by have := hC1 q hq; omega)
        replace hF := hF.trans F199 (fun c' (hm : N + 22 ≤ c') => by (try dsimp only); omega)
        refine y00 S198 Z Z Z (y03 S198 Z Z) fun a200 S200 => y00 S200 Z Z Z (y1z S200 Z Z Z) fun a201 S201 => y00 S201 Z Z Z (y1z S201 Z Z Z) fun a202 S202 => y00 S202 Z Z Z (y02 S202 Z Z) fun a203 S203 => y00 S203 Z Z Z (y02 S203 Z Z) fun a204 S204 => wpList_nil (hK _ _ ?_)
        replace hS : Sl 133 _ [(1, .slice A1 p1.length cap1), (5, .slice A17 r15.length cap18), (6, .pointer (so b83)), (8, .pointer (so b101)), (10, i6 m0_2), (12, .slice A153 r151.2.1.length cap154), (13, i6 r151.2.2), (14, .slice A174 r172.2.1.length cap175), (15, i6 r172.2.2), (16, .int .u64 r186.1), (17, .bool r186.2), (18, .int .u64 r196.1), (19, .bool r196.2)] := S204.re ⟨Z, Z, Z, Z, Z, Z, Z, Z, Z, Z, Z, Z, Z, trivial⟩
        clear hK K
        try clear S195 S198 S200 S201 S202 S203 S204
        generalize a204 = a at hS ⊢
        refine wp_seq ?_
        obtain ⟨t217, ht218, H⟩ := y0b H
        refine y0t (fun K hK => ?_)
        refine y00 hS Z Z Z (y03 hS Z Z) fun a205 S205 => y00 S205 Z Z Z (y03 S205 Z Z) fun a206 S206 => y00 S206 Z Z Z (y2l S206 Z Z rfl b_neq) fun a207 S207 => y00 S207 Z Z Z (y03 S207 Z Z) fun a208 S208 => ?_
        refine g_joinR 5 (fun a w219 => ∃ (g219 : Nat → Nat), Sl 133 a [(1, .slice A1 p1.length cap1), (5, .slice A17 r15.length cap18), (6, .pointer (so b83)), (8, .pointer (so b101)), (10, i6 m0_2), (16, .int .u64 r186.1), (17, .bool r186.2), (18, .int .u64 r196.1), (19, .bool r196.2), (99, .bool t217)] ∧ Bx w219 g219 (N + 9) b101 63 [.slice A104 r172.1.D.length cap105, .slice A108 r172.1.Links.length cap109, .slice A112 r172.1.On.length cap113, .slice A116 r172.1.Use.length cap117, .slice A120 r172.1.Since.length cap121, .int .u64 r172.1.Clock] ∧ RdS y0f w219 g219 (fun q => q = N + 0 ∨ q = N + 0 + 1) A104 cap105 r172.1.D ∧ OwS y0r 67 w219 g219 (N + 9 + 1) A108 cap109 r172.1.Links ∧ OwS y4p 4 w219 g219 (N + 9 + 3) A112 cap113 r172.1.On ∧ OwS (kint .i64) 3 w219 g219 (N + 9 + 5) A116 cap117 r172.1.Use ∧ OwS (kint .u64) 28 w219 g219 (N + 9 + 7) A120 cap121 r172.1.Since ∧ OwS y0f 30 w219 g219 (N + 0) A17 cap18 r15 ∧ Bx w219 g219 (N + 2) b83 85 [.slice A86 r151.1.devices.length cap87, .slice A90 r151.1.links.length cap91, .slice A94 r151.1.order.length cap95, .int .u64 r151.1.now] ∧ OwS y1h 88 w219 g219 (N + 2 + 1) A86 cap87 r151.1.devices ∧ OwS y0r 67 w219 g219 (N + 2 + 3) A90 cap91 r151.1.links ∧ OwS (kint .i64) 3 w219 g219 (N + 2 + 5) A94 cap95 r151.1.order ∧ RdS kd_law28_Call w219 g219 C1 A1 cap1 p1 ∧ Fr (fun q => N ≤ q) w g w219 g219) ?_ (fun hk => ?_)
        rotate_left
        ·rcases Bool.eq_false_or_eq_true ((r151.2.2 != r172.2.2)) with hb209 | hb209
         ·have H := y3f hb209 ht218
          have e220 := Option.some.inj H
          refine y1c S208 (y05 S208 Z Z rfl hb209) Z Z fun a221 S221 => y1c S221 (y05 S221 Z Z rfl hb209) Z Z fun a222 S222 => y1c S222 (y05 S222 Z Z rfl hb209) Z Z fun a223 S223 => y1c S223 (y05 S223 Z Z rfl hb209) Z Z fun a224 S224 => y00 S224 Z Z Z (y2s S224 Z Z rfl hb209) fun a225 S225 => hk _ _ ?_
          exact ⟨g199, S225.re ⟨rfl, rfl, rfl, rfl, rfl, rfl, rfl, rfl, rfl, (by rw [← e220]; rfl), trivial⟩, h102, h106, h110, h114, h118, h122, h19, h84, h88, h92, h96, hp1, hF⟩
         ·have H := y3g hb209 ht218
          obtain ⟨r228, hr229, H⟩ := y0b H
          have e233 := Option.some.inj H
          refine y0p S208 (y0a S208 Z Z rfl hb209) Z Z (y03 S208 Z Z) fun a226 S226 => y0p S226 (y0a S226 Z Z rfl hb209) Z Z (y03 S226 Z Z) fun a227 S227 => ?_
          refine st_enterW S227 (y0a S227 Z Z rfl hb209) Z Z (y2z S227 Z Z (by kernel_rfl)) (y1n.calls (C0 := (fun q => q = N + 18)) (C1 := (fun q => q = N + 20)) (p0 := r151.2.1) (p1 := r172.2.1) (g := g199) (N + 22)  (OwD.rdf (fun _ _ _ _ _ _ h => h) h155) (fun q (hq : q = N + 18) => by omega) (OwD.rdf (fun _ _ _ _ _ _ h => h) h176) (fun q (hq : q = N + 20) => by omega) hr229) ?_
          rintro _ a230 w231 ⟨g231, rfl, F231⟩ S230
          replace h102 := h102.fr F231 (fun (hm : N + 22 ≤ N + 9) => by omega)
          replace h106 := RdS.fr h106 F231 (by decide) (fun q (hq : q = N + 0 ∨ q = N + 0 + 1) (hm : N + 22 ≤ q) => by rcases hq with hq | hq; all_goals first | (omega; done) | (omega; done))
          replace h110 := OwS.fr h110 F231 (fun c' hc (hm : N + 22 ≤ c') => by omega)
          replace h114 := OwS.fr h114 F231 (fun c' hc (hm : N + 22 ≤ c') => by omega)
          replace h118 := OwS.fr h118 F231 (fun c' hc (hm : N + 22 ≤ c') => by omega)
          replace h122 := OwS.fr h122 F231 (fun c' hc (hm : N + 22 ≤ c') => by omega)
          replace h155 := OwS.fr h155 F231 (fun c' hc (hm : N + 22 ≤ c') => by omega)
          replace h176 := OwS.fr h176 F231 (fun c' hc (hm : N + 22 ≤ c') => by omega)
          replace h19 := OwS.fr h19 F231 (fun c' hc (hm : N + 22 ≤ c') => by omega)
          replace h84 := h84.fr F231 (fun (hm : N + 22 ≤ N + 2) => by omega)
          replace h88 := OwS.fr h88 F231 (fun c' hc (hm : N + 22 ≤ c') => by omega)
          replace h92 := OwS.fr h92 F231 (fun c' hc (hm : N + 22 ≤ c') => by omega)
          replace h96 := OwS.fr h96 F231 (fun c' hc (hm : N + 22 ≤ c') => by omega)
          replace hp1 := RdS.fr hp1 F231 (by decide) (fun q (hq : C1 q) (hm : N + 22 ≤ q) => by have := hC1 q hq; omega)
          replace hF := hF.trans F231 (fun c' (hm : N + 22 ≤ c') => by (try dsimp only); omega)
          refine y0p S230 (y0a S230 Z Z rfl hb209) Z Z (r_not S230 Z Z) fun a232 S232 => ?_
          refine y00 S232 Z Z Z (y2t S232 Z Z rfl hb209) fun a234 S234 => hk _ _ ?_
          exact ⟨g231, S234.re ⟨rfl, rfl, rfl, rfl, rfl, rfl, rfl, rfl, rfl, (by rw [← e233]; rfl), trivial⟩, h102, h106, h110, h114, h118, h122, h19, h84, h88, h92, h96, hp1, hF⟩
        rintro a235 w219 ⟨g219, S235, h102, h106, h110, h114, h118, h122, h19, h84, h88, h92, h96, hp1, hF⟩
        refine y00 S235 Z Z Z (y03 S235 Z Z) fun a236 S236 => ?_
        refine y4b (N := 133) 4 [(1, .slice A1 p1.length cap1), (5, .slice A17 r15.length cap18), (6, .pointer (so b83)), (8, .pointer (so b101)), (10, i6 m0_2), (17, .bool r186.2), (19, .bool r196.2), (104, .bool (t217 || (r186.1 != r196.1)))] ?_ (fun hk => ?_)
        rotate_left
        ·rcases Bool.eq_false_or_eq_true (t217) with hb237 | hb237
         ·refine y1c S236 (y05 S236 Z Z rfl hb237) Z Z fun a241 S241 => y1c S241 (y05 S241 Z Z rfl hb237) Z Z fun a242 S242 => y1c S242 (y05 S242 Z Z rfl hb237) Z Z fun a243 S243 => y00 S243 Z Z Z (y2s S243 Z Z rfl hb237) fun a244 S244 => hk _ (S244.re ⟨rfl, rfl, rfl, rfl, rfl, rfl, rfl, (by rw [hb237]; rfl), trivial⟩)
         ·refine y0p S236 (y0a S236 Z Z rfl hb237) Z Z (y03 S236 Z Z) fun a245 S245 => y0p S245 (y0a S245 Z Z rfl hb237) Z Z (y03 S245 Z Z) fun a246 S246 => y0p S246 (y0a S246 Z Z rfl hb237) Z Z (y2l S246 Z Z rfl b_neq) fun a247 S247 => y00 S247 Z Z Z (y2t S247 Z Z rfl hb237) fun a248 S248 => hk _ (S248.re ⟨rfl, rfl, rfl, rfl, rfl, rfl, rfl, (by rw [hb237]; rfl), trivial⟩)
        intro a249 S249
        refine y00 S249 Z Z Z (y03 S249 Z Z) fun a250 S250 => ?_
        refine y4b (N := 133) 4 [(1, .slice A1 p1.length cap1), (5, .slice A17 r15.length cap18), (6, .pointer (so b83)), (8, .pointer (so b101)), (10, i6 m0_2), (109, .bool ((t217 || (r186.1 != r196.1)) || (!(r186.2 == r196.2))))] ?_ (fun hk => ?_)
        rotate_left
        ·rcases Bool.eq_false_or_eq_true ((t217 || (r186.1 != r196.1))) with hb251 | hb251
         ·refine y1c S250 (y05 S250 Z Z rfl hb251) Z Z fun a255 S255 => y1c S255 (y05 S255 Z Z rfl hb251) Z Z fun a256 S256 => y1c S256 (y05 S256 Z Z rfl hb251) Z Z fun a257 S257 => y00 S257 Z Z Z (y2s S257 Z Z rfl hb251) fun a258 S258 => hk _ (S258.re ⟨rfl, rfl, rfl, rfl, rfl, (by rw [hb251]; rfl), trivial⟩)
         ·refine y0p S250 (y0a S250 Z Z rfl hb251) Z Z (y03 S250 Z Z) fun a259 S259 => y0p S259 (y0a S259 Z Z rfl hb251) Z Z (y03 S259 Z Z) fun a260 S260 => y0p S260 (y0a S260 Z Z rfl hb251) Z Z (r_binB S260 Z Z Z (b_neqB (by kernel_rfl))) fun a261 S261 => y00 S261 Z Z Z (y2t S261 Z Z rfl hb251) fun a262 S262 => hk _ (S262.re ⟨rfl, rfl, rfl, rfl, rfl, (by rw [hb251]; rfl), trivial⟩)
        intro a263 S263
        refine wpList_nil (hK _ _ ?_)
        replace hS : Sl 133 _ [(1, .slice A1 p1.length cap1), (5, .slice A17 r15.length cap18), (6, .pointer (so b83)), (8, .pointer (so b101)), (10, i6 m0_2), (109, .bool ((t217 || (r186.1 != r196.1)) || (!(r186.2 == r196.2))))] := S263.re ⟨Z, Z, Z, Z, Z, Z, trivial⟩
        clear hK K
        try clear S205 S206 S207 S208 S235 S236 S249 S250 S263
        generalize a263 = a at hS ⊢
        refine y2m hS Z (fun hb264 => ?_) (fun hb264 => ?_)
        ·replace H := y3f hb264 H
         refine y16 [(4, .bool false)] (fun R hR => y00 hS Z Z Z (y02 hS Z Z) fun a265 S265 => wpList_nil (hR _ (S265.re ⟨Z, trivial⟩))) ?_
         clear hS a; intro a hS
         refine wp_ret ?_
         have e := Option.some.inj H
         subst e
         replace H := Fl.go_out Hl135
         have e := Option.some.inj H
         subst e
         replace H := Fl.go_out Hl79
         have e := Option.some.inj H
         subst e
         repeat (with_reducible first | refine y1i ?_ | refine y0o ?_)
         exact y3v hS Try.results8 rfl ⟨_, rfl, g219, rfl, hF⟩
        ·replace H := y3g hb264 H
         refine wp_skip ?_
         change Code.wp _ _ _ _ _
         refine y16 [(1, .slice A1 p1.length cap1), (5, .slice A17 r15.length cap18), (6, .pointer (so b83)), (8, .pointer (so b101)), (10, i6 m0_2), (20, i6 (-1))] (fun R hR => y00 hS Z Z Z (y02 hS Z Z) fun a266 S266 => wpList_nil (hR _ (S266.re ⟨Z, Z, Z, Z, Z, Z, trivial⟩))) ?_
         clear hS a; intro a hS
         refine wp_block ?_
         refine wp_loop_ghost (fun kq => fun a w267 => ∃ (m1_0 : Int), ∃ (g267 : Nat → Nat), y0w.l1 r15 r151 r172 kq m1_0 = some o134 ∧ Sl 133 a [(1, .slice A1 p1.length cap1), (5, .slice A17 r15.length cap18), (6, .pointer (so b83)), (8, .pointer (so b101)), (10, i6 m0_2), (20, i6 m1_0)] ∧ Bx w267 g267 (N + 9) b101 63 [.slice A104 r172.1.D.length cap105, .slice A108 r172.1.Links.length cap109, .slice A112 r172.1.On.length cap113, .slice A116 r172.1.Use.length cap117, .slice A120 r172.1.Since.length cap121, .int .u64 r172.1.Clock] ∧ RdS y0f w267 g267 (fun q => q = N + 0 ∨ q = N + 0 + 1) A104 cap105 r172.1.D ∧ OwS y0r 67 w267 g267 (N + 9 + 1) A108 cap109 r172.1.Links ∧ OwS y4p 4 w267 g267 (N + 9 + 3) A112 cap113 r172.1.On ∧ OwS (kint .i64) 3 w267 g267 (N + 9 + 5) A116 cap117 r172.1.Use ∧ OwS (kint .u64) 28 w267 g267 (N + 9 + 7) A120 cap121 r172.1.Since ∧ OwS y0f 30 w267 g267 (N + 0) A17 cap18 r15 ∧ Bx w267 g267 (N + 2) b83 85 [.slice A86 r151.1.devices.length cap87, .slice A90 r151.1.links.length cap91, .slice A94 r151.1.order.length cap95, .int .u64 r151.1.now] ∧ OwS y1h 88 w267 g267 (N + 2 + 1) A86 cap87 r151.1.devices ∧ OwS y0r 67 w267 g267 (N + 2 + 3) A90 cap91 r151.1.links ∧ OwS (kint .i64) 3 w267 g267 (N + 2 + 5) A94 cap95 r151.1.order ∧ RdS kd_law28_Call w267 g267 C1 A1 cap1 p1 ∧ Fr (fun q => N ≤ q) w g w267 g267) FUEL ?_ ?_
         ·exact ⟨(-1), g219, H, hS.re ⟨Z, Z, Z, Z, Z, Z, trivial⟩, h102, h106, h110, h114, h118, h122, h19, h84, h88, h92, h96, hp1, hF⟩
         ·clear H
          clear hp1 h19 h88 h92 h96 h84 h106 h110 h114 h118 h122 h102 hF
          clear hS
          rintro k268 a w267 ⟨m1_0, g267, hpre0, hS, h102, h106, h110, h114, h118, h122, h19, h84, h88, h92, h96, hp1, hF⟩
          have H := hpre0
          clear hpre0
          cases k268 with
          | zero => exact absurd H (by simp [y0w.l1])
          | succ k268 =>
           rw [y0w.l1] at H
           refine wp_seq ?_
           refine y16 [(1, .slice A1 p1.length cap1), (5, .slice A17 r15.length cap18), (6, .pointer (so b83)), (8, .pointer (so b101)), (10, i6 m0_2), (20, i6 m1_0), (113, .bool (decide (m1_0 ≤ (r15.length : Int))))] (fun R hR => y00 hS Z Z Z (y03 hS Z Z) fun a269 S269 => y00 S269 Z Z Z (y03 S269 Z Z) fun a270 S270 => y00 S270 Z Z Z (y4x (e := 30) (sz := 3) (by_ := 40) S270 Z Z (by kernel_rfl)) fun a271 S271 => y00 S271 Z Z Z (y2l S271 Z Z rfl b_leq) fun a272 S272 => wpList_nil (hR _ (S272.re ⟨Z, Z, Z, Z, Z, Z, Z, trivial⟩))) ?_
           clear hS a; intro a hS
           refine y2m hS Z (fun hb273 => ?_) (fun hb273 => ?_)
           ·replace H := y3f hb273 H
            refine wp_skip ?_
            change Code.wp _ _ _ _ _
            refine wp_seq ?_
            refine wp_block ?_
            obtain ⟨r276, hr277, H⟩ := y0b H
            obtain ⟨r282, hr283, H⟩ := y0b H
            obtain ⟨t302, ht303, H⟩ := y0b H
            refine y0t (fun K hK => ?_)
            refine y00 hS Z Z Z (y03 hS Z Z) fun a274 S274 => y00 S274 Z Z Z (y03 S274 Z Z) fun a275 S275 => ?_
            refine y1y S275 Z Z Z (y2z S275 Z Z (by kernel_rfl)) (y38.calls (c0 := N + 2) (b_p0 := b83) (y09 := A86) (y07 := cap87) (y0v := A90) (y0l := cap91) (y0q := A94) (y0h := cap95) (p0 := r151.1) (p1 := m1_0) (g := g267) (N + 22)  ⟨h84, h88, h92, h96⟩ (by omega) hr277) ?_
            rintro _ a278 w279 ⟨g279, rfl, F279⟩ S278
            replace h102 := h102.fr F279 (fun (hm : N + 22 ≤ N + 9) => by omega)
            replace h106 := RdS.fr h106 F279 (by decide) (fun q (hq : q = N + 0 ∨ q = N + 0 + 1) (hm : N + 22 ≤ q) => by rcases hq with hq | hq; all_goals first | (omega; done) | (omega; done))
            replace h110 := OwS.fr h110 F279 (fun c' hc (hm : N + 22 ≤ c') => by omega)
            replace h114 := OwS.fr h114 F279 (fun c' hc (hm : N + 22 ≤ c') => by omega)
            replace h118 := OwS.fr h118 F279 (fun c' hc (hm : N + 22 ≤ c') => by omega)
            replace h122 := OwS.fr h122 F279 (fun c' hc (hm : N + 22 ≤ c') => by omega)
            replace h19 := OwS.fr h19 F279 (fun c' hc (hm : N + 22 ≤ c') => by omega)
            replace h84 := h84.fr F279 (fun (hm : N + 22 ≤ N + 2) => by omega)
            replace h88 := OwS.fr h88 F279 (fun c' hc (hm : N + 22 ≤ c') => by omega)
            replace h92 := OwS.fr h92 F279 (fun c' hc (hm : N + 22 ≤ c') => by omega)
            replace h96 := OwS.fr h96 F279 (fun c' hc (hm : N + 22 ≤ c') => by omega)
            replace hp1 := RdS.fr hp1 F279 (by decide) (fun q (hq : C1 q) (hm : N + 22 ≤ q) => by have := hC1 q hq; omega)
            replace hF := hF.trans F279 (fun c' (hm : N + 22 ≤ c') => by (try dsimp only); omega)
            refine y00 S278 Z Z Z (y03 S278 Z Z) fun a280 S280 => y00 S280 Z Z Z (y03 S280 Z Z) fun a281 S281 => ?_
            refine y1y S281 Z Z Z (y2z S281 Z Z (by kernel_rfl)) (y3n.calls (c0 := N + 9) (b_p0 := b101) (y2o := A104) (y1l := cap105) (y2a := (fun q => q = N + 0 ∨ q = N + 0 + 1)) (y0x := A108) (y0m := cap109) (y24 := A112) (y1d := cap113) (y1m := A116) (y0y := cap117) (y0z := A120) (y0n := cap121) (p0 := r172.1) (p1 := m1_0) (g := g279) (N + 22)  ⟨h102, h106, h110, h114, h118, h122⟩ (by omega) (fun q (hq : q = N + 0 ∨ q = N + 0 + 1) => by rcases hq with hq | hq; all_goals first | (omega; done) | (omega; done)) hr283) ?_
            rintro _ a284 w285 ⟨g285, rfl, F285⟩ S284
            replace h102 := h102.fr F285 (fun (hm : N + 22 ≤ N + 9) => by omega)
            replace h106 := RdS.fr h106 F285 (by decide) (fun q (hq : q = N + 0 ∨ q = N + 0 + 1) (hm : N + 22 ≤ q) => by rcases hq with hq | hq; all_goals first | (omega; done) | (omega; done))
            replace h110 := OwS.fr h110 F285 (fun c' hc (hm : N + 22 ≤ c') => by omega)
            replace h114 := OwS.fr h114 F285 (fun c' hc (hm : N + 22 ≤ c') => by omega)
            replace h118 := OwS.fr h118 F285 (fun c' hc (hm : N + 22 ≤ c') => by omega)
            replace h122 := OwS.fr h122 F285 (fun c' hc (hm : N + 22 ≤ c') => by omega)
            replace h19 := OwS.fr h19 F285 (fun c' hc (hm : N + 22 ≤ c') => by omega)
            replace h84 := h84.fr F285 (fun (hm : N + 22 ≤ N + 2) => by omega)
            replace h88 := OwS.fr h88 F285 (fun c' hc (hm : N + 22 ≤ c') => by omega)
            replace h92 := OwS.fr h92 F285 (fun c' hc (hm : N + 22 ≤ c') => by omega)
            replace h96 := OwS.fr h96 F285 (fun c' hc (hm : N + 22 ≤ c') => by omega)
            replace hp1 := RdS.fr hp1 F285 (by decide) (fun q (hq : C1 q) (hm : N + 22 ≤ q) => by have := hC1 q hq; omega)
            replace hF := hF.trans F285 (fun c' (hm : N + 22 ≤ c') => by (try dsimp only); omega)
            refine y00 S284 Z Z Z (r_binB S284 Z Z Z (b_neqB (by kernel_rfl))) fun a286 S286 => y00 S286 Z Z Z (y03 S286 Z Z) fun a287 S287 => ?_
            refine g_joinR 8 (fun a w304 => ∃ (g304 : Nat → Nat), Sl 133 a [(1, .slice A1 p1.length cap1), (5, .slice A17 r15.length cap18), (6, .pointer (so b83)), (8, .pointer (so b101)), (10, i6 m0_2), (20, i6 m1_0), (131, .bool t302)] ∧ Bx w304 g304 (N + 9) b101 63 [.slice A104 r172.1.D.length cap105, .slice A108 r172.1.Links.length cap109, .slice A112 r172.1.On.length cap113, .slice A116 r172.1.Use.length cap117, .slice A120 r172.1.Since.length cap121, .int .u64 r172.1.Clock] ∧ RdS y0f w304 g304 (fun q => q = N + 0 ∨ q = N + 0 + 1) A104 cap105 r172.1.D ∧ OwS y0r 67 w304 g304 (N + 9 + 1) A108 cap109 r172.1.Links ∧ OwS y4p 4 w304 g304 (N + 9 + 3) A112 cap113 r172.1.On ∧ OwS (kint .i64) 3 w304 g304 (N + 9 + 5) A116 cap117 r172.1.Use ∧ OwS (kint .u64) 28 w304 g304 (N + 9 + 7) A120 cap121 r172.1.Since ∧ OwS y0f 30 w304 g304 (N + 0) A17 cap18 r15 ∧ Bx w304 g304 (N + 2) b83 85 [.slice A86 r151.1.devices.length cap87, .slice A90 r151.1.links.length cap91, .slice A94 r151.1.order.length cap95, .int .u64 r151.1.now] ∧ OwS y1h 88 w304 g304 (N + 2 + 1) A86 cap87 r151.1.devices ∧ OwS y0r 67 w304 g304 (N + 2 + 3) A90 cap91 r151.1.links ∧ OwS (kint .i64) 3 w304 g304 (N + 2 + 5) A94 cap95 r151.1.order ∧ RdS kd_law28_Call w304 g304 C1 A1 cap1 p1 ∧ Fr (fun q => N ≤ q) w g w304 g304) ?_ (fun hk => ?_)
            rotate_left
            ·rcases Bool.eq_false_or_eq_true ((!(r276 == r282))) with hb288 | hb288
             ·have H := y3f hb288 ht303
              have e305 := Option.some.inj H
              refine y1c S287 (y05 S287 Z Z rfl hb288) Z Z fun a306 S306 => y1c S306 (y05 S306 Z Z rfl hb288) Z Z fun a307 S307 => y1c S307 (y05 S307 Z Z rfl hb288) Z Z fun a308 S308 => y1c S308 (y05 S308 Z Z rfl hb288) Z Z fun a309 S309 => y1c S309 (y05 S309 Z Z rfl hb288) Z Z fun a310 S310 => y1c S310 (y05 S310 Z Z rfl hb288) Z Z fun a311 S311 => y1c S311 (y05 S311 Z Z rfl hb288) Z Z fun a312 S312 => y00 S312 Z Z Z (y2s S312 Z Z rfl hb288) fun a313 S313 => hk _ _ ?_
              exact ⟨g285, S313.re ⟨rfl, rfl, rfl, rfl, rfl, rfl, (by rw [← e305]; rfl), trivial⟩, h102, h106, h110, h114, h118, h122, h19, h84, h88, h92, h96, hp1, hF⟩
             ·have H := y3g hb288 ht303
              obtain ⟨r316, hr317, H⟩ := y0b H
              obtain ⟨r322, hr323, H⟩ := y0b H
              have e327 := Option.some.inj H
              refine y0p S287 (y0a S287 Z Z rfl hb288) Z Z (y03 S287 Z Z) fun a314 S314 => y0p S314 (y0a S314 Z Z rfl hb288) Z Z (y03 S314 Z Z) fun a315 S315 => ?_
              refine st_enterW S315 (y0a S315 Z Z rfl hb288) Z Z (y2z S315 Z Z (by kernel_rfl)) (y3b.calls (c0 := N + 2) (b_p0 := b83) (y09 := A86) (y07 := cap87) (y0v := A90) (y0l := cap91) (y0q := A94) (y0h := cap95) (p0 := r151.1) (p1 := m1_0) (g := g285) (N + 22)  ⟨h84, h88, h92, h96⟩ (by omega) hr317) ?_
              rintro _ a318 w319 ⟨g319, rfl, F319⟩ S318
              replace h102 := h102.fr F319 (fun (hm : N + 22 ≤ N + 9) => by omega)
              replace h106 := RdS.fr h106 F319 (by decide) (fun q (hq : q = N + 0 ∨ q = N + 0 + 1) (hm : N + 22 ≤ q) => by rcases hq with hq | hq; all_goals first | (omega; done) | (omega; done))
              replace h110 := OwS.fr h110 F319 (fun c' hc (hm : N + 22 ≤ c') => by omega)
              replace h114 := OwS.fr h114 F319 (fun c' hc (hm : N + 22 ≤ c') => by omega)
              replace h118 := OwS.fr h118 F319 (fun c' hc (hm : N + 22 ≤ c') => by omega)
              replace h122 := OwS.fr h122 F319 (fun c' hc (hm : N + 22 ≤ c') => by omega)
              replace h19 := OwS.fr h19 F319 (fun c' hc (hm : N + 22 ≤ c') => by omega)
              replace h84 := h84.fr F319 (fun (hm : N + 22 ≤ N + 2) => by omega)
              replace h88 := OwS.fr h88 F319 (fun c' hc (hm : N + 22 ≤ c') => by omega)
              replace h92 := OwS.fr h92 F319 (fun c' hc (hm : N + 22 ≤ c') => by omega)
              replace h96 := OwS.fr h96 F319 (fun c' hc (hm : N + 22 ≤ c') => by omega)
              replace hp1 := RdS.fr hp1 F319 (by decide) (fun q (hq : C1 q) (hm : N + 22 ≤ q) => by have := hC1 q hq; omega)
              replace hF := hF.trans F319 (fun c' (hm : N + 22 ≤ c') => by (try dsimp only); omega)
              refine y0p S318 (y0a S318 Z Z rfl hb288) Z Z (y03 S318 Z Z) fun a320 S320 => y0p S320 (y0a S320 Z Z rfl hb288) Z Z (y03 S320 Z Z) fun a321 S321 => ?_
              refine st_enterW S321 (y0a S321 Z Z rfl hb288) Z Z (y2z S321 Z Z (by kernel_rfl)) (y3q.calls (c0 := N + 9) (b_p0 := b101) (y2o := A104) (y1l := cap105) (y2a := (fun q => q = N + 0 ∨ q = N + 0 + 1)) (y0x := A108) (y0m := cap109) (y24 := A112) (y1d := cap113) (y1m := A116) (y0y := cap117) (y0z := A120) (y0n := cap121) (p0 := r172.1) (p1 := m1_0) (g := g319) (N + 22)  ⟨h102, h106, h110, h114, h118, h122⟩ (by omega) (fun q (hq : q = N + 0 ∨ q = N + 0 + 1) => by rcases hq with hq | hq; all_goals first | (omega; done) | (omega; done)) hr323) ?_
              rintro _ a324 w325 ⟨g325, rfl, F325⟩ S324
              replace h102 := h102.fr F325 (fun (hm : N + 22 ≤ N + 9) => by omega)
              replace h106 := RdS.fr h106 F325 (by decide) (fun q (hq : q = N + 0 ∨ q = N + 0 + 1) (hm : N + 22 ≤ q) => by rcases hq with hq | hq; all_goals first | (omega; done) | (omega; done))
              replace h110 := OwS.fr h110 F325 (fun c' hc (hm : N + 22 ≤ c') => by omega)
              replace h114 := OwS.fr h114 F325 (fun c' hc (hm : N + 22 ≤ c') => by omega)
              replace h118 := OwS.fr h118 F325 (fun c' hc (hm : N + 22 ≤ c') => by omega)
              replace h122 := OwS.fr h122 F325 (fun c' hc (hm : N + 22 ≤ c') => by omega)
              replace h19 := OwS.fr h19 F325 (fun c' hc (hm : N + 22 ≤ c') => by omega)
              replace h84 := h84.fr F325 (fun (hm : N + 22 ≤ N + 2) => by omega)
              replace h88 := OwS.fr h88 F325 (fun c' hc (hm : N + 22 ≤ c') => by omega)
              replace h92 := OwS.fr h92 F325 (fun c' hc (hm : N + 22 ≤ c') => by omega)
              replace h96 := OwS.fr h96 F325 (fun c' hc (hm : N + 22 ≤ c') => by omega)
              replace hp1 := RdS.fr hp1 F325 (by decide) (fun q (hq : C1 q) (hm : N + 22 ≤ q) => by have := hC1 q hq; omega)
              replace hF := hF.trans F325 (fun c' (hm : N + 22 ≤ c') => by (try dsimp only); omega)
              refine y0p S324 (y0a S324 Z Z rfl hb288) Z Z (y2l S324 Z Z rfl b_neq) fun a326 S326 => ?_
              refine y00 S326 Z Z Z (y2t S326 Z Z rfl hb288) fun a328 S328 => hk _ _ ?_
              exact ⟨g325, S328.re ⟨rfl, rfl, rfl, rfl, rfl, rfl, (by rw [← e327]; rfl), trivial⟩, h102, h106, h110, h114, h118, h122, h19, h84, h88, h92, h96, hp1, hF⟩
            rintro a329 w304 ⟨g304, S329, h102, h106, h110, h114, h118, h122, h19, h84, h88, h92, h96, hp1, hF⟩
            refine wpList_nil (hK _ _ ?_)
            replace hS : Sl 133 _ [(1, .slice A1 p1.length cap1), (5, .slice A17 r15.length cap18), (6, .pointer (so b83)), (8, .pointer (so b101)), (10, i6 m0_2), (20, i6 m1_0), (131, .bool t302)] := S329.re ⟨Z, Z, Z, Z, Z, Z, Z, trivial⟩
            clear hK K
            try clear S274 S275 S278 S280 S281 S284 S286 S287 S329
            generalize a329 = a at hS ⊢
            refine y2m hS Z (fun hb330 => ?_) (fun hb330 => ?_)
            ·replace H := y3f hb330 H
             refine y16 [(4, .bool false)] (fun R hR => y00 hS Z Z Z (y02 hS Z Z) fun a331 S331 => wpList_nil (hR _ (S331.re ⟨Z, trivial⟩))) ?_
             clear hS a; intro a hS
             refine wp_ret ?_
             have e := Option.some.inj H
             subst e
             replace H := Fl.go_out Hl135
             have e := Option.some.inj H
             subst e
             replace H := Fl.go_out Hl79
             have e := Option.some.inj H
             subst e
             repeat (with_reducible first | refine y1i ?_ | refine y0o ?_)
             exact y3v hS Try.results8 rfl ⟨_, rfl, g304, rfl, hF⟩
            ·replace H := y3g hb330 H
             refine wp_skip ?_
             change Code.wp _ _ _ _ _
             refine y3e [(1, .slice A1 p1.length cap1), (5, .slice A17 r15.length cap18), (6, .pointer (so b83)), (8, .pointer (so b101)), (10, i6 m0_2), (20, i6 (wi (m1_0 + 1)))] (fun R hR => y00 hS Z Z Z (y03 hS Z Z) fun a332 S332 => y00 S332 Z Z Z (y2l S332 Z Z rfl y4z) fun a333 S333 => y00 S333 Z Z Z (y02 S333 Z Z) fun a334 S334 => wpList_nil (hR _ (S334.re ⟨Z, Z, Z, Z, Z, Z, trivial⟩))) ?_
             clear hS a; intro a hS
             refine ⟨k268, Nat.lt_succ_self _, ?_⟩
             exact ⟨wi (m1_0 + 1), g304, H, hS.re ⟨Z, Z, Z, Z, Z, Z, trivial⟩, h102, h106, h110, h114, h118, h122, h19, h84, h88, h92, h96, hp1, hF⟩
           ·replace H := y3g hb273 H
            refine wp_exit ?_
            have e := Option.some.inj H
            exact ⟨(r151.1, r172.1), g267, e.symm, hS.re ⟨Z, Z, Z, Z, Z, trivial⟩, h102, h106, h110, h114, h118, h122, h19, h84, h88, h92, h96, hp1, hF⟩
       ·clear H
        clear hp1 h19 h88 h92 h96 h84 h106 h110 h114 h118 h122 h102 hF
        clear hS
        rintro a w132 ⟨v133, g132, hpre0, hS, h102, h106, h110, h114, h118, h122, h19, h84, h88, h92, h96, hp1, hF⟩
        subst hpre0
        have H := Fl.go_nxt Hl135
        clear Hl135
        refine y3e [(1, .slice A1 p1.length cap1), (5, .slice A17 r15.length cap18), (6, .pointer (so b83)), (8, .pointer (so b101)), (10, i6 (wi (m0_2 + 1)))] (fun R hR => y00 hS Z Z Z (y03 hS Z Z) fun a335 S335 => y00 S335 Z Z Z (y2l S335 Z Z rfl y4z) fun a336 S336 => y00 S336 Z Z Z (y02 S336 Z Z) fun a337 S337 => wpList_nil (hR _ (S337.re ⟨Z, Z, Z, Z, Z, trivial⟩))) ?_
        clear hS a; intro a hS
        refine ⟨k126, Nat.lt_succ_self _, ?_⟩
        exact ⟨v133.1, v133.2, wi (m0_2 + 1), g132, H, hS.re ⟨Z, Z, Z, Z, Z, trivial⟩, h102, h106, h110, h114, h118, h122, h19, h84, h88, h92, h96, hp1, hF⟩
      ·replace H := y3g hb131 H
       refine wp_exit ?_
       have e := Option.some.inj H
       exact ⟨g125, e.symm, hS.re trivial, hF⟩
   ·clear H
    clear hp1 h19 h28 h41 hF
    clear hS
    rintro a w76 ⟨g76, hpre0, hS, hF⟩
    subst hpre0
    have H := Fl.go_nxt Hl79
    clear Hl79
    obtain ⟨r338, hr339, H⟩ := y0b H
    refine y0t (fun K hK => ?_)
    refine y1y hS Z Z Z (y2z hS Z Z (by kernel_rfl)) (law28_awake.calls (g := g76) (N + 22)   hr339) ?_
    rintro _ a340 w341 ⟨g341, rfl, F341⟩ S340
    replace hF := hF.trans F341 (fun c' (hm : N + 22 ≤ c') => by (try dsimp only); omega)
    refine y00 S340 Z Z Z (y02 S340 Z Z) fun a342 S342 => wpList_nil (hK _ _ ?_)
    replace hS : Sl 133 _ [(4, .bool r338)] := S342.re ⟨Z, trivial⟩
    clear hK K
    try clear S340 S342
    generalize a342 = a at hS ⊢
    refine wp_ret ?_
    have e := Option.some.inj H
    subst e
    repeat (with_reducible first | refine y1i ?_ | refine y0o ?_)
    exact y3v hS Try.results8 rfl ⟨_, rfl, g341, rfl, hF⟩

/-- What is left of y0w: about plain values alone. -/
def y0w.Pure : Prop := ∀ (p0 : List y08) (p1 : List y3t), (p0.length ≤ maxLen ∧ ∀ p0' ∈ p0, Wf_api_IdleDevice p0') → (p1.length ≤ maxLen ∧ ∀ p1' ∈ p1, Wf_law28_Call p1') → y0w.f p0 p1 = some true

end Go.Proofs.Ytcfcffbjdjacfaa.Sim
