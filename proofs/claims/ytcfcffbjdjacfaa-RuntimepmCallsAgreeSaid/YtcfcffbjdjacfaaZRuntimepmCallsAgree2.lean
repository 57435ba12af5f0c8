/-
  Texts of this session, part 2 of 7: the words of the walk, plain functions with the same answers as the Go functions and the proofs of it, plain lemmas. No condition.
  They are, one behind the other: QRuntimepmManagerValid QRuntimepmManagerAdvance QDepgraphAdjacent QDepgraphClosure QDepgraphReversed QDepgraphValidate QDepgraphSuppliers QRuntimepmManagerHas QSlicesIndexIntInt QSlicesContainsIntInt QRuntimepmManagerGet QRuntimepmManagerNextExpiry QRuntimepmManagerPut QDepgraphQueueLen QDepgraphQueuePop QDepgraphQueueSwap QDepgraphQueueLess QHeapDown QHeapPop QDepgraphQueuePush QHeapUp QHeapPush.
-/
import Derived.Test.YtcfcffbjdjacfaaProg
import Derived.Test.YtcfcffbjdjacfaaZRuntimepmCallsAgree1

namespace Go.Proofs.Ytcfcffbjdjacfaa.Sim
open Go
set_option linter.unusedVariables false
set_option linter.unusedSimpArgs false

/-! ### y2d: function 47 -/
def y2d.f (p0 : y01) (p1 : Int) : Option (Bool) := some ((decide (p0.now ≤ p1)) && (decide (p1 ≤ 1152921504606846976)))
set_option maxRecDepth 100000 in
set_option maxHeartbeats 4000000 in
theorem y2d.calls {p0 : y01} {c0 : Nat}  {b_p0 : Nat} {y09 : Option Addr} {y07 : Nat} {y0v : Option Addr} {y0l : Nat} {y0q : Option Addr} {y0h : Nat} {p1 : Int} {w : World} {g : Nat → Nat} {out : Bool} (N : Nat) (hp0 : y1v w g c0 b_p0 y09 y07 y0v y0l y0q y0h p0) (hc0 : c0 + 7 ≤ N) (H : y2d.f p0 p1 = some out) :
  Calls Try.prog 47 #[.pointer (so b_p0), .int .u64 p1] w (fun e w' => ∃ v, e = .returned v ∧ ∃ (g' : Nat → Nat), v = .bool out ∧ Fr (fun q => N ≤ q) w g w' g') := by
 unfold y2d.f at H
 refine y1k Try.func47 rfl Try.ntmps47 Z (fun a hS => ?_)
 replace hS : Sl 15 a [(0, .pointer (so b_p0)), (1, .int .u64 p1)] := hS
 have hF : Fr (fun q => N ≤ q) w g w g := Fr.refl _ _ _
 obtain ⟨hb0, y04, y0j, y0i⟩ := hp0
 refine y16 [(0, .pointer (so b_p0)), (1, .int .u64 p1)] (fun R hR => y00 hS Z Z Z (y02 hS Z Z) fun a1 S1 => wpList_nil (hR _ (S1.re ⟨Z, Z, trivial⟩))) ?_
 clear hS a; intro a hS
 refine y0t (fun K hK => ?_)
 refine y00 hS Z Z Z (y03 hS Z Z) fun a2 S2 => y00 S2 Z Z Z (y03 S2 Z Z) fun a3 S3 => y00 S3 Z Z Z (y4s S3 Z Z) fun a4 S4 => y00 S4 Z Z Z (y1e (off := 3) S4 Z Z (by kernel_rfl)) fun a5 S5 => y00 S5 Z Z Z (y0u (n := 1) S5 Z Z (by kernel_rfl) (Bx.cell hb0 Z)) fun a6 S6 => y00 S6 Z Z Z (y2l S6 Z Z rfl b_geq) fun a7 S7 => y00 S7 Z Z Z (y03 S7 Z Z) fun a8 S8 => ?_
 refine y4b (N := 15) 3 [(14, .bool ((decide (p0.now ≤ p1)) && (decide (p1 ≤ 1152921504606846976))))] ?_ (fun hk => ?_)
 rotate_left
 ·rcases Bool.eq_false_or_eq_true (decide (p0.now ≤ p1)) with hb9 | hb9
  ·refine y0p S8 (y0a S8 Z Z rfl hb9) Z Z (y03 S8 Z Z) fun a12 S12 => y0p S12 (y0a S12 Z Z rfl hb9) Z Z (y2l S12 Z Z rfl b_leq) fun a13 S13 => y00 S13 Z Z Z (y2s S13 Z Z rfl hb9) fun a14 S14 => hk _ (S14.re ⟨(by rw [hb9]; rfl), trivial⟩)
  ·refine y1c S8 (y05 S8 Z Z rfl hb9) Z Z fun a15 S15 => y1c S15 (y05 S15 Z Z rfl hb9) Z Z fun a16 S16 => y00 S16 Z Z Z (y2t S16 Z Z rfl hb9) fun a17 S17 => hk _ (S17.re ⟨(by rw [hb9]; rfl), trivial⟩)
 intro a18 S18
 refine y00 S18 Z Z Z (y02 S18 Z Z) fun a19 S19 => wpList_nil (hK _ _ ?_)
 replace hS : Sl 15 _ [(4, .bool ((decide (p0.now ≤ p1)) && (decide (p1 ≤ 1152921504606846976))))] := S19.re ⟨Z, trivial⟩
 clear hK K
 try clear S2 S3 S4 S5 S6 S7 S8 S18 S19
 generalize a19 = a at hS ⊢
 refine wp_ret ?_
 have e := Option.some.inj H
 subst e
 repeat (with_reducible first | refine y1i ?_ | refine y0o ?_)
 exact y3v hS Try.results47 rfl ⟨_, rfl, g, rfl, hF⟩


end Go.Proofs.Ytcfcffbjdjacfaa.Sim

namespace Go.Proofs.Ytcfcffbjdjacfaa.Sim
open Go
set_option linter.unusedVariables false
set_option linter.unusedSimpArgs false

/-! ### y2n: function 22 -/
def y2n.f (p0 : y01) (p1 : Int) : Option (y01 × (List y0e) × Int) := (y2d.f p0 p1).bind fun r5 => if (!r5) = true then (some (p0, [], 1)) else ((y0s.f (y01.mk p0.devices p0.links p0.order p1) p1).bind fun r21 => some (r21.1, r21.2, 0))
set_option maxRecDepth 100000 in
set_option maxHeartbeats 4000000 in
theorem y2n.calls {p0 : y01} {c0 : Nat}  {b_p0 : Nat} {y09 : Option Addr} {y07 : Nat} {y0v : Option Addr} {y0l : Nat} {y0q : Option Addr} {y0h : Nat} {p1 : Int} {w : World} {g : Nat → Nat} {out : y01 × (List y0e) × Int} (N : Nat) (r0 : Nat) (hp0 : y1v w g c0 b_p0 y09 y07 y0v y0l y0q y0h p0) (hc0 : c0 + 7 ≤ N) (hr0 : r0 + 2 ≤ N) (hq0_0 : r0 + 2 ≤ c0 ∨ c0 + 7 ≤ r0) (H : y2n.f p0 p1 = some out) :
  Calls Try.prog 22 #[.pointer (so b_p0), .int .u64 p1] w (fun e w' => ∃ v, e = .returned v ∧ ∃ (g' : Nat → Nat) (A_r0 : Option Addr) (cap_r0 : Nat), v = .tuple #[.slice A_r0 out.2.1.length cap_r0, i6 out.2.2] ∧ y1v w' g' c0 b_p0 y09 y07 y0v y0l y0q y0h out.1 ∧ OwS y18 47 w' g' r0 A_r0 cap_r0 out.2.1 ∧ Fr (fun q => (c0 ≤ q ∧ q < c0 + 7) ∨ (r0 ≤ q ∧ q < r0 + 2) ∨ N ≤ q) w g w' g') := by
 unfold y2n.f at H
 refine y1k Try.func22 rfl Try.ntmps22 Z (fun a hS => ?_)
 replace hS : Sl 17 a [(0, .pointer (so b_p0)), (1, .int .u64 p1)] := hS
 have hF : Fr (fun q => (c0 ≤ q ∧ q < c0 + 7) ∨ (r0 ≤ q ∧ q < r0 + 2) ∨ N ≤ q) w g w g := Fr.refl _ _ _
 obtain ⟨hb0, y04, y0j, y0i⟩ := hp0
 refine y16 [(0, .pointer (so b_p0)), (1, .int .u64 p1)] (fun R hR => y00 hS Z Z Z (y02 hS Z Z) fun a1 S1 => y00 S1 Z Z Z (y02 S1 Z Z) fun a2 S2 => wpList_nil (hR _ (S2.re ⟨Z, Z, trivial⟩))) ?_
 clear hS a; intro a hS
 refine wp_seq ?_
 obtain ⟨r5, hr6, H⟩ := y0b H
 refine y0t (fun K hK => ?_)
 refine y00 hS Z Z Z (y03 hS Z Z) fun a3 S3 => y00 S3 Z Z Z (y03 S3 Z Z) fun a4 S4 => ?_
 refine y1y S4 Z Z Z (y2z S4 Z Z (by kernel_rfl)) (y2d.calls (c0 := c0) (b_p0 := b_p0) (y09 := y09) (y07 := y07) (y0v := y0v) (y0l := y0l) (y0q := y0q) (y0h := y0h) (p0 := p0) (p1 := p1) (g := g) (N + 2)  ⟨hb0, y04, y0j, y0i⟩ (by omega) hr6) ?_
 rintro _ a7 w8 ⟨g8, rfl, F8⟩ S7
 replace hb0 := hb0.fr F8 (fun (hm : N + 2 ≤ c0) => by omega)
 replace y04 := OwS.fr y04 F8 (fun c' hc (hm : N + 2 ≤ c') => by omega)
 replace y0j := OwS.fr y0j F8 (fun c' hc (hm : N + 2 ≤ c') => by omega)
 replace y0i := OwS.fr y0i F8 (fun c' hc (hm : N + 2 ≤ c') => by omega)
 replace hF := hF.trans F8 (fun c' (hm : N + 2 ≤ c') => by (try dsimp only); omega)
 refine y00 S7 Z Z Z (r_not S7 Z Z) fun a9 S9 => wpList_nil (hK _ _ ?_)
 replace hS : Sl 17 _ [(0, .pointer (so b_p0)), (1, .int .u64 p1), (9, .bool (!r5))] := S9.re ⟨Z, Z, Z, trivial⟩
 clear hK K
 try clear S3 S4 S7 S9
 generalize a9 = a at hS ⊢
 refine y2m hS Z (fun hb10 => ?_) (fun hb10 => ?_)
 ·replace H := y3f hb10 H
  refine y16 [(4, .slice none 0 0), (5, i6 1)] (fun R hR => y00 hS Z Z Z (y02 hS Z Z) fun a11 S11 => y00 S11 Z Z Z (y02 S11 Z Z) fun a12 S12 => wpList_nil (hR _ (S12.re ⟨Z, Z, trivial⟩))) ?_
  clear hS a; intro a hS
  refine wp_ret ?_
  have e := Option.some.inj H
  subst e
  repeat (with_reducible first | refine y1i ?_ | refine y0o ?_)
  exact y4d hS Try.results22 Z rfl ⟨_, rfl, g8, none, 0, rfl, ⟨hb0, y04, y0j, y0i⟩, OwS.nil y18 47 w8 g8 r0, hF⟩
 ·replace H := y3g hb10 H
  refine wp_skip ?_
  change Code.wp _ _ _ _ _
  refine y0t (fun K hK => ?_)
  refine y00 hS Z Z Z (y03 hS Z Z) fun a13 S13 => y00 S13 Z Z Z (y03 S13 Z Z) fun a14 S14 => y00 S14 Z Z Z (y4s S14 Z Z) fun a15 S15 => y00 S15 Z Z Z (y1e (off := 3) S15 Z Z (by kernel_rfl)) fun a16 S16 => ?_
  refine y3s S16 Z Z (y4a (n := 1) (bb := false) (cs' := [.slice y09 p0.devices.length y07, .slice y0v p0.links.length y0l, .slice y0q p0.order.length y0h, .int .u64 p1]) g8 S16 Z Z Z (by kernel_rfl) Z Z rfl hb0 Z Z) ?_
  rintro a17 w18 g18 ⟨hb0, F18⟩ S17
  replace y04 := OwS.fr y04 F18 (fun c' hc (hm : c' = c0) => by omega)
  replace y0j := OwS.fr y0j F18 (fun c' hc (hm : c' = c0) => by omega)
  replace y0i := OwS.fr y0i F18 (fun c' hc (hm : c' = c0) => by omega)
  replace hF := hF.trans F18 (fun c' (hm : c' = c0) => by (try dsimp only); omega)
  refine wpList_nil (hK _ _ ?_)
  replace hS : Sl 17 _ [(0, .pointer (so b_p0)), (1, .int .u64 p1)] := S17.re ⟨Z, Z, trivial⟩
  clear hK K
  try clear S13 S14 S15 S16 S17
  generalize a17 = a at hS ⊢
  obtain ⟨r21, hr22, H⟩ := y0b H
  refine y0t (fun K hK => ?_)
  refine y00 hS Z Z Z (y03 hS Z Z) fun a19 S19 => y00 S19 Z Z Z (y03 S19 Z Z) fun a20 S20 => ?_
  refine y1y S20 Z Z Z (y2z S20 Z Z (by kernel_rfl)) (y0s.calls (c0 := c0) (b_p0 := b_p0) (y09 := y09) (y07 := y07) (y0v := y0v) (y0l := y0l) (y0q := y0q) (y0h := y0h) (p0 := (y01.mk p0.devices p0.links p0.order p1)) (p1 := p1) (g := g18) (N + 2) (N + 0) ⟨hb0, y04, y0j, y0i⟩ (by omega) (by omega) (by omega) hr22) ?_
  rintro _ a27 w28 ⟨g28, A23, cap24, rfl, ⟨hb0, y04, y0j, y0i⟩, h25, F28⟩ S27
  replace hF := hF.trans F28 (fun c' (hm : (c0 ≤ c' ∧ c' < c0 + 7) ∨ (N + 0 ≤ c' ∧ c' < N + 0 + 2) ∨ N + 2 ≤ c') => by (try dsimp only); omega)
  refine y00 S27 Z Z Z (y02 S27 Z Z) fun a29 S29 => y00 S29 Z Z Z (y02 S29 Z Z) fun a30 S30 => wpList_nil (hK _ _ ?_)
  replace hS : Sl 17 _ [(4, .slice A23 r21.2.length cap24), (5, i6 0)] := S30.re ⟨Z, Z, trivial⟩
  clear hK K
  try clear S19 S20 S27 S29 S30
  generalize a30 = a at hS ⊢
  refine wp_ret ?_
  have e := Option.some.inj H
  subst e
  have F31 := Fr.y2f w28 g28 (N + 0) r0
  replace h25 := h25.y2f r0
  replace hb0 := hb0.fr F31 (fun (hm : c0 = N + 0 ∨ c0 = N + 0 + 1) => by omega)
  replace y04 := OwS.fr y04 F31 (fun c' hc (hm : c' = N + 0 ∨ c' = N + 0 + 1) => by omega)
  replace y0j := OwS.fr y0j F31 (fun c' hc (hm : c' = N + 0 ∨ c' = N + 0 + 1) => by omega)
  replace y0i := OwS.fr y0i F31 (fun c' hc (hm : c' = N + 0 ∨ c' = N + 0 + 1) => by omega)
  replace hF := hF.trans F31 (fun c' (hm : c' = N + 0 ∨ c' = N + 0 + 1) => by (try dsimp only); omega)
  repeat (with_reducible first | refine y1i ?_ | refine y0o ?_)
  exact y4d hS Try.results22 Z rfl ⟨_, rfl, (y2f g28 (N + 0) r0), A23, cap24, rfl, ⟨hb0, y04, y0j, y0i⟩, h25, hF⟩


end Go.Proofs.Ytcfcffbjdjacfaa.Sim

namespace Go.Proofs.Ytcfcffbjdjacfaa.Sim
open Go
set_option linter.unusedVariables false
set_option linter.unusedSimpArgs false

/-! ### y2e: function 57 -/
def y2e.l0 (p1 : List y0g) : Nat → (List (List Int)) → (List Int) → Int → Option ((List (List Int)) × (List Int))
 | 0, _, _, _ => none
 | k100 + 1, m0_0, m0_1, m0_2 => if decide (m0_2 < (p1.length : Int)) = true then ((idx p1 m0_2).bind fun x103 => (idx m0_0 x103.Supplier).bind fun x114 => (app x114 [x103.Consumer]).bind fun y125 => (idx m0_1 x103.Consumer).bind fun x159 => y2e.l0 p1 k100 (upd m0_0 x103.Supplier y125) (upd m0_1 x103.Consumer (wi (x159 + 1))) (wi (m0_2 + 1))) else (some (m0_0, m0_1))
def y2e.f (p0 : Int) (p1 : List y0g) : Option ((List (List Int)) × (List Int)) := (mk p0 ([] : List Int)).bind fun y3 => (mk p0 0).bind fun y10 => (y2e.l0 p1 FUEL y3 y10 0 : Option ((List (List Int)) × (List Int))).bind fun v92 => some (v92.1, v92.2)
set_option maxRecDepth 100000 in
set_option maxHeartbeats 4000000 in
theorem y2e.calls {p0 : Int} {p1 : List y0g} {A1 : Option Addr} {cap1 : Nat} {C1 : Nat → Prop} {w : World} {g : Nat → Nat} {out : (List (List Int)) × (List Int)} (N : Nat) (r0 : Nat) (r1 : Nat) (hp1 : RdS y0r w g C1 A1 cap1 p1) (hC1 : ∀ c, C1 c → c < N) (hr0 : r0 + 2 ≤ N) (hr1 : r1 + 2 ≤ N) (ht1_0 : r1 + 2 ≤ r0 ∨ r0 + 2 ≤ r1) (H : y2e.f p0 p1 = some out) :
  Calls Try.prog 57 #[i6 p0, .slice A1 p1.length cap1] w (fun e w' => ∃ v, e = .returned v ∧ ∃ (g' : Nat → Nat) (A_r0 : Option Addr) (cap_r0 : Nat) (A_r1 : Option Addr) (cap_r1 : Nat), v = .tuple #[.slice A_r0 out.1.length cap_r0, .slice A_r1 out.2.length cap_r1] ∧ OwS (kslice (kint .i64) (by decide)) 27 w' g' r0 A_r0 cap_r0 out.1 ∧ OwS (kint .i64) 3 w' g' r1 A_r1 cap_r1 out.2 ∧ Fr (fun q => (r0 ≤ q ∧ q < r0 + 2) ∨ (r1 ≤ q ∧ q < r1 + 2) ∨ N ≤ q) w g w' g') := by
 unfold y2e.f at H
 refine y1k Try.func57 rfl Try.ntmps57 Z (fun a hS => ?_)
 replace hS : Sl 41 a [(0, i6 p0), (1, .slice A1 p1.length cap1)] := hS
 have hF : Fr (fun q => (r0 ≤ q ∧ q < r0 + 2) ∨ (r1 ≤ q ∧ q < r1 + 2) ∨ N ≤ q) w g w g := Fr.refl _ _ _
 refine y16 [(0, i6 p0), (1, .slice A1 p1.length cap1)] (fun R hR => y00 hS Z Z Z (y02 hS Z Z) fun a1 S1 => y00 S1 Z Z Z (y02 S1 Z Z) fun a2 S2 => wpList_nil (hR _ (S2.re ⟨Z, Z, trivial⟩))) ?_
 clear hS a; intro a hS
 obtain ⟨y3, hy4, H⟩ := y0b H
 obtain ⟨y10, hy11, H⟩ := y0b H
 refine y4u (fun a w49 => ∃ (g49 : Nat → Nat), ∃ (hs53 : List (Option Addr × Nat)), ∃ (A50 : Option Addr), ∃ (cap51 : Nat), ∃ (A54 : Option Addr), ∃ (cap55 : Nat), Sl 41 a [(1, .slice A1 p1.length cap1), (4, .slice A50 y3.length cap51), (5, .slice A54 y10.length cap55)] ∧ OwM (kint .i64) 27 3 w49 g49 (N + 0) A50 cap51 hs53 y3 (fun _ => False) ∧ OwS (kint .i64) 3 w49 g49 (N + 3) A54 cap55 y10 ∧ RdS y0r w49 g49 C1 A1 cap1 p1 ∧ Fr (fun q => (r0 ≤ q ∧ q < r0 + 2) ∨ (r1 ≤ q ∧ q < r1 + 2) ∨ N ≤ q) w g w49 g49) (y4m (fun q => False) g [] 6 (ba 0 6) (by kernel_rfl) Z Z (fun w57 hw57 => ?_)) ?_
 ·have F57 : Fr (fun _ => False) w g w57 g := by rw [hw57]; exact Fr.drew _ _ _
  replace hp1 := RdS.fr hp1 F57 (by decide) (fun _ _ h => h)
  replace hF := hF.trans F57 (fun _ h => h.elim)
  have hC : Fr (fun q => False) w57 g w57 g := Fr.refl _ _ _
  refine y1b hS 0 (ba 1 5) Z Z Z Z (by kernel_rfl) (fun _ _ _ h => h) (fun _ => (y03 hS Z Z)) fun a58 S58 => y1b S58 2 #[tt_, ff_, tt_, ff_, ff_, ff_] Z Z Z Z (by kernel_rfl) (fun _ _ _ h => h) (fun _ => (y03 S58 Z Z)) fun a59 S59 => ?_
  refine d_two 1 3 (ba 3 3) #[tt_, ff_, tt_, tt_, ff_, ff_] Z Z (by kernel_rfl) (y43 S59 Z Z Z (e_makeM (kint .i64) (e := 27) (sz := 1) (by_ := 24) (E := 3) (N + 0) g S59 Z Z (by kernel_rfl) (by kernel_rfl) Z rfl hy4) (fun _ _ g' hR _ => ⟨g', hC.trans hR.2 (fun _ h => h.elim)⟩) ?_) (y43 S59 Z Z Z (e_make (e := 3) (sz := 1) (by_ := 8) (z := [i6 0]) (kd := (kint .i64)) (N + 3) g S59 Z Z (by kernel_rfl) (by kernel_rfl) Z Z Z (fun _ _ _ => by exact rfl) hy11) (fun _ _ g' hR _ => ⟨g', hC.trans hR.2 (fun _ h => h.elim)⟩) ?_)
  ·rintro _ a65 w66 g66 ⟨⟨A60, cap61, hs62, rfl, h63⟩, F66⟩ S65
   have hC66 := hC.trans F66 (fun _ h => h.elim)
   replace hp1 := RdS.fr hp1 F66 (by decide) (fun _ _ h => h)
   replace hF := hF.trans F66 (fun _ h => h.elim)
   refine y1b S65 4 #[tt_, tt_, tt_, ff_, tt_, ff_] Z Z Z Z (by kernel_rfl) (fun _ _ _ h => h) (fun _ => (y02 S65 Z Z)) fun a67 S67 => ?_
   refine d_one 3 (ba 5 1) Z (by kernel_rfl) (y43 S67 Z Z Z (e_make (e := 3) (sz := 1) (by_ := 8) (z := [i6 0]) (kd := (kint .i64)) (N + 3) g66 S67 Z Z (by kernel_rfl) (by kernel_rfl) Z Z Z (fun _ _ _ => by exact rfl) hy11) (fun _ _ g' hR _ => ⟨g', hC66.trans hR.2 (fun _ h => h.elim)⟩) ?_)
   rintro _ a72 w73 g73 ⟨⟨A68, cap69, rfl, h70⟩, F73⟩ S72
   have hC73 := hC66.trans F73 (fun _ h => h.elim)
   replace h63 := OwM.fr h63 F73 (fun h => h) (fun h => h) (fun h => h)
   replace hp1 := RdS.fr hp1 F73 (by decide) (fun _ _ h => h)
   replace hF := hF.trans F73 (fun _ h => h.elim)
   refine y1b S72 5 (ba 6 0) Z Z Z Z (by kernel_rfl) (fun _ _ _ h => h) (fun _ => (y02 S72 Z Z)) fun a74 S74 => y4v (by kernel_rfl) ?_
   exact ⟨g73, hs62, A60, cap61, A68, cap69, S74.re ⟨Z, Z, Z, trivial⟩, h63, h70, hp1, hF⟩
  ·rintro _ a79 w80 g80 ⟨⟨A75, cap76, rfl, h77⟩, F80⟩ S79
   have hC80 := hC.trans F80 (fun _ h => h.elim)
   replace hp1 := RdS.fr hp1 F80 (by decide) (fun _ _ h => h)
   replace hF := hF.trans F80 (fun _ h => h.elim)
   refine d_one 1 (ba 4 2) Z (by kernel_rfl) (y43 S79 Z Z Z (e_makeM (kint .i64) (e := 27) (sz := 1) (by_ := 24) (E := 3) (N + 0) g80 S79 Z Z (by kernel_rfl) (by kernel_rfl) Z rfl hy4) (fun _ _ g' hR _ => ⟨g', hC80.trans hR.2 (fun _ h => h.elim)⟩) ?_)
   rintro _ a86 w87 g87 ⟨⟨A81, cap82, hs83, rfl, h84⟩, F87⟩ S86
   have hC87 := hC80.trans F87 (fun _ h => h.elim)
   replace h77 := OwS.fr h77 F87 (fun _ _ h => h)
   replace hp1 := RdS.fr hp1 F87 (by decide) (fun _ _ h => h)
   replace hF := hF.trans F87 (fun _ h => h.elim)
   refine y1b S86 4 (ba 5 1) Z Z Z Z (by kernel_rfl) (fun _ _ _ h => h) (fun _ => (y02 S86 Z Z)) fun a88 S88 => y1b S88 5 (ba 6 0) Z Z Z Z (by kernel_rfl) (fun _ _ _ h => h) (fun _ => (y02 S88 Z Z)) fun a89 S89 => y4v (by kernel_rfl) ?_
   exact ⟨g87, hs83, A81, cap82, A75, cap76, S89.re ⟨Z, Z, Z, trivial⟩, h84, h77, hp1, hF⟩
 clear hp1 hF
 clear hS
 rintro a w49 ⟨g49, hs53, A50, cap51, A54, cap55, hS, h52, h56, hp1, hF⟩
 obtain ⟨v92, H, Hl94⟩ := y0b H
 refine y4u (fun a w90 => ∃ (g90 : Nat → Nat), ∃ (hs91 : List (Option Addr × Nat)), Sl 41 a [(4, .slice A50 v92.1.length cap51), (5, .slice A54 v92.2.length cap55)] ∧ OwM (kint .i64) 27 3 w90 g90 (N + 0) A50 cap51 hs91 v92.1 (fun _ => False) ∧ OwS (kint .i64) 3 w90 g90 (N + 3) A54 cap55 v92.2 ∧ Fr (fun q => (r0 ≤ q ∧ q < r0 + 2) ∨ (r1 ≤ q ∧ q < r1 + 2) ∨ N ≤ q) w g w90 g90) ?_ ?_
 ·refine y16 [(4, .slice A50 y3.length cap51), (5, .slice A54 y10.length cap55), (12, .slice A1 p1.length cap1), (13, i6 (p1.length : Int)), (14, i6 0)] (fun R hR => y00 hS Z Z Z (y03 hS Z Z) fun a95 S95 => y00 S95 Z Z Z (y4x (e := 67) (sz := 2) (by_ := 16) S95 Z Z (by kernel_rfl)) fun a96 S96 => y00 S96 Z Z Z (y03 S96 Z Z) fun a97 S97 => wpList_nil (hR _ (S97.re ⟨Z, Z, Z, Z, Z, trivial⟩))) ?_
  clear hS a; intro a hS
  refine wp_block ?_
  refine wp_loop_ghost (fun kq => fun a w98 => ∃ (m0_0 : List (List Int)), ∃ (m0_1 : List Int), ∃ (m0_2 : Int), ∃ (g98 : Nat → Nat), ∃ (hs99 : List (Option Addr × Nat)), y2e.l0 p1 kq m0_0 m0_1 m0_2 = some v92 ∧ Sl 41 a [(4, .slice A50 m0_0.length cap51), (5, .slice A54 m0_1.length cap55), (12, .slice A1 p1.length cap1), (13, i6 (p1.length : Int)), (14, i6 m0_2)] ∧ OwM (kint .i64) 27 3 w98 g98 (N + 0) A50 cap51 hs99 m0_0 (fun _ => False) ∧ OwS (kint .i64) 3 w98 g98 (N + 3) A54 cap55 m0_1 ∧ RdS y0r w98 g98 C1 A1 cap1 p1 ∧ Fr (fun q => (r0 ≤ q ∧ q < r0 + 2) ∨ (r1 ≤ q ∧ q < r1 + 2) ∨ N ≤ q) w g w98 g98) FUEL ?_ ?_
  ·exact ⟨y3, y10, 0, g49, hs53, H, hS.re ⟨Z, Z, Z, Z, Z, trivial⟩, h52, h56, hp1, hF⟩
  ·clear H
   clear hp1 h52 h56 hF
   clear hS
   rintro k100 a w98 ⟨m0_0, m0_1, m0_2, g98, hs99, hpre0, hS, h52, h56, hp1, hF⟩
   have H := hpre0
   clear hpre0
   cases k100 with
   | zero => exact absurd H (by simp [y2e.l0])
   | succ k100 =>
    rw [y2e.l0] at H
    refine y16 [(4, .slice A50 m0_0.length cap51), (5, .slice A54 m0_1.length cap55), (12, .slice A1 p1.length cap1), (13, i6 (p1.length : Int)), (14, i6 m0_2), (15, .bool (decide (m0_2 < (p1.length : Int))))] (fun R hR => y00 hS Z Z Z (y2l hS Z Z rfl y4t) fun a101 S101 => wpList_nil (hR _ (S101.re ⟨Z, Z, Z, Z, Z, Z, trivial⟩))) ?_
    clear hS a; intro a hS
    refine c_if hS Z (fun hb102 => ?_) (fun hb102 => ?_)
    ·replace H := y3f hb102 H
     refine wp_skip ?_
     change Code.wp _ _ _ _ _
     refine wp_seq ?_
     refine wp_block ?_
     obtain ⟨x103, hx104, H⟩ := y0b H
     refine y0t (fun K hK => ?_)
     refine y00 hS Z Z Z (y1j (e := 67) (sz := 2) (by_ := 16) hS Z Z Z (by kernel_rfl) (RdS.some_ hp1 hx104) (y26 hx104) (y27 hx104)) fun a105 S105 => y00 S105 Z Z Z (r_loadN (n := 2) (cs := [i6 x103.Consumer, i6 x103.Supplier]) S105 Z Z (by kernel_rfl) Z (RdS.cells_off hp1 hx104 0 2)) fun a106 S106 => ?_
     refine y41 S106 Z Z Z (e_alloc (cs := [i6 0, i6 0]) (N + 5) g98 S106 Z (by kernel_rfl)) ?_
     rintro _ a110 w111 g111 ⟨⟨b107, rfl, h108⟩, F111⟩ S110
     replace h52 := OwM.fr h52 F111 (fun h => h) (fun h => h) (fun h => h)
     replace h56 := OwS.fr h56 F111 (fun _ _ h => h)
     replace hp1 := RdS.fr hp1 F111 (by decide) (fun _ _ h => h)
     replace hF := hF.trans F111 (fun _ h => h.elim)
     refine y3s S110 Z Z (y4a (n := 2) (bb := true) (cs' := [i6 x103.Consumer, i6 x103.Supplier]) g111 S110 Z Z Z (by kernel_rfl) Z Z Z h108 Z Z) ?_
     rintro a112 w113 g113 ⟨h108, F113⟩ S112
     replace h52 := OwM.fr h52 F113 (fun (hm : N + 0 = N + 5) => by omega) (fun (hm : N + 0 + 1 = N + 5) => by omega) (fun (hm : N + 0 + 2 = N + 5) => by omega)
     replace h56 := OwS.fr h56 F113 (fun c' hc (hm : c' = N + 5) => by omega)
     replace hp1 := RdS.fr hp1 F113 (by decide) (fun q (hq : C1 q) (hm : q = N + 5) => by have := hC1 q hq; omega)
     replace hF := hF.trans F113 (fun c' (hm : c' = N + 5) => by (try dsimp only); omega)
     refine wpList_nil (hK _ _ ?_)
     replace hS : Sl 41 _ [(4, .slice A50 m0_0.length cap51), (5, .slice A54 m0_1.length cap55), (7, .pointer (so b107)), (12, .slice A1 p1.length cap1), (13, i6 (p1.length : Int)), (14, i6 m0_2)] := S112.re ⟨Z, Z, Z, Z, Z, Z, trivial⟩
     clear hK K
     try clear S105 S106 S110 S112
     generalize a112 = a at hS ⊢
     obtain ⟨x114, hx115, H⟩ := y0b H
     obtain ⟨h116, hh117⟩ := OwM.hd h52 hx115
     obtain ⟨y125, hy126, H⟩ := y0b H
     obtain ⟨hN122, hm123, F124⟩ := OwM.take (fun _ _ _ _ _ _ _ _ h => h) h52 hx115 hh117 (N + 9) ⟨by omega, by omega⟩
     clear h52
     replace h108 := h108.fr F124 (fun (hm : N + 5 = N + 0 + 1) => by omega)
     replace h56 := OwS.fr h56 F124 (fun c' hc (hm : c' = N + 0 + 1) => by omega)
     replace hp1 := RdS.fr hp1 F124 (by decide) (fun q (hq : C1 q) (hm : q = N + 0 + 1) => by have := hC1 q hq; omega)
     replace hF := hF.trans F124 (fun c' (hm : c' = N + 0 + 1) => by (try dsimp only); omega)
     refine c_draw (fun K hK => y4m (fun q => q = N + 9) (dyeA g113 h116.1 (N + 9)) [13] 14 (ba 0 14) (by kernel_rfl) Z Z (fun w131 hw131 => ?_))
     have F131 : Fr (fun _ => False) w113 (dyeA g113 h116.1 (N + 9)) w131 (dyeA g113 h116.1 (N + 9)) := by rw [hw131]; exact Fr.drew _ _ _
     replace h108 := h108.fr F131 (fun h => h)
     replace hN122 := OwS.fr hN122 F131 (fun _ _ h => h)
     replace hm123 := OwM.fr hm123 F131 (fun h => h) (fun h => h) (fun h => h)
     replace h56 := OwS.fr h56 F131 (fun _ _ h => h)
     replace hp1 := RdS.fr hp1 F131 (by decide) (fun _ _ h => h)
     replace hF := hF.trans F131 (fun _ h => h.elim)
     have hC : Fr (fun q => q = N + 9) w131 (dyeA g113 h116.1 (N + 9)) w131 (dyeA g113 h116.1 (N + 9)) := Fr.refl _ _ _
     refine y1b hS 0 (ba 1 13) Z Z Z Z (by kernel_rfl) (fun _ _ _ h => h) (fun _ => (y03 hS Z Z)) fun a132 S132 => y1b S132 1 (ba 2 12) Z Z Z Z (by kernel_rfl) (fun _ _ _ h => h) (fun _ => (y1e (off := 1) S132 Z Z (by kernel_rfl))) fun a133 S133 => y3w S133 2 (ba 3 11) Z Z Z Z (by kernel_rfl) (fun _ _ _ h => h) ⟨_, hC⟩ (fun w' g' Fz => (y0u (n := 1) S133 Z Z (by kernel_rfl) (Bx.cell (h108.fr Fz (fun (hm : N + 5 = N + 9) => by omega)) Z))) fun a134 S134 => y1b S134 3 (ba 4 10) Z Z Z Z (by kernel_rfl) (fun _ _ _ h => h) (fun _ => (y03 S134 Z Z)) fun a135 S135 => y1b S135 4 (ba 5 9) Z Z Z Z (by kernel_rfl) (fun _ _ _ h => h) (fun _ => (y1e (off := 1) S135 Z Z (by kernel_rfl))) fun a136 S136 => y3w S136 5 (ba 6 8) Z Z Z Z (by kernel_rfl) (fun _ _ _ h => h) ⟨_, hC⟩ (fun w' g' Fz => (y0u (n := 1) S136 Z Z (by kernel_rfl) (Bx.cell (h108.fr Fz (fun (hm : N + 5 = N + 9) => by omega)) Z))) fun a137 S137 => y1b S137 6 (ba 7 7) Z Z Z Z (by kernel_rfl) (fun _ _ _ h => h) (fun _ => (y1j (e := 27) (sz := 1) (by_ := 24) S137 Z Z Z (by kernel_rfl) (OwM.some_ hm123 hx115) (y26 hx115) (y27 hx115))) fun a138 S138 => y3w S138 7 (ba 8 6) Z Z Z Z (by kernel_rfl) (fun _ _ _ h => h) ⟨_, hC⟩ (fun w' g' Fz => (y0u (n := 1) S138 Z Z (by kernel_rfl) (OwM.cell (OwM.fr hm123 Fz (fun (hm : N + 0 = N + 9) => by omega) (fun (hm : N + 0 + 1 = N + 9) => by omega) (fun (hm : N + 0 + 2 = N + 9) => by omega)) hx115 hh117))) fun a139 S139 => y1b S139 8 (ba 9 5) Z Z Z Z (by kernel_rfl) (fun _ _ _ h => h) (fun _ => (y1e (off := 0) S139 Z Z (by kernel_rfl))) fun a140 S140 => y3w S140 9 (ba 10 4) Z Z Z Z (by kernel_rfl) (fun _ _ _ h => h) ⟨_, hC⟩ (fun w' g' Fz => (y0u (n := 1) S140 Z Z (by kernel_rfl) (Bx.cell (h108.fr Fz (fun (hm : N + 5 = N + 9) => by omega)) Z))) fun a141 S141 => ?_
     refine d_one 10 (ba 11 3) Z (by kernel_rfl) (y43 S141 Z Z Z (e_lit (e := 3) (parts := [(0, i6 x103.Consumer)]) (cs := [i6 x103.Consumer]) (kint .i64) [x103.Consumer] (N + 7) (dyeA g113 h116.1 (N + 9)) S141 Z Z (fun _ => by kernel_rfl) Z (by decide) (Rows.cons (cs := [i6 x103.Consumer]) rfl Rows.nil)) (fun _ _ g' hR _ => ⟨g', hC.trans hR.2 (fun _ h => h.elim)⟩) ?_)
     rintro _ a145 w146 g146 ⟨⟨A142, rfl, h143⟩, F146⟩ S145
     have hC146 := hC.trans F146 (fun _ h => h.elim)
     replace h108 := h108.fr F146 (fun h => h)
     replace hN122 := OwS.fr hN122 F146 (fun _ _ h => h)
     replace hm123 := OwM.fr hm123 F146 (fun h => h) (fun h => h) (fun h => h)
     replace h56 := OwS.fr h56 F146 (fun _ _ h => h)
     replace hp1 := RdS.fr hp1 F146 (by decide) (fun _ _ h => h)
     replace hF := hF.trans F146 (fun _ h => h.elim)
     refine d_one 11 (ba 12 2) Z (by kernel_rfl) (y43 S145 Z Z Z (y4g (e := 3) (sz := 1) (by_ := 8) (z := [i6 0]) (kd := (kint .i64)) g146 S145 Z Z Z Z (by kernel_rfl) (by kernel_rfl) Z Z Z rfl hN122 (OwD.rdx h143) (fun _ _ _ h => h) hy126) (fun _ _ g' hR _ => ⟨g', hC146.trans hR.2 (fun c' (hm : c' = N + 9) => by (try dsimp only); omega)⟩) ?_)
     rintro _ a151 w152 g152 ⟨⟨A147, cap148, rfl, h149⟩, F152⟩ S151
     have hC152 := hC146.trans F152 (fun c' (hm : c' = N + 9) => by (try dsimp only); omega)
     replace h108 := h108.fr F152 (fun (hm : N + 5 = N + 9) => by omega)
     replace h143 := OwS.fr h143 F152 (fun c' hc (hm : c' = N + 9) => by omega)
     replace hm123 := OwM.fr hm123 F152 (fun (hm : N + 0 = N + 9) => by omega) (fun (hm : N + 0 + 1 = N + 9) => by omega) (fun (hm : N + 0 + 2 = N + 9) => by omega)
     replace h56 := OwS.fr h56 F152 (fun c' hc (hm : c' = N + 9) => by omega)
     replace hp1 := RdS.fr hp1 F152 (by decide) (fun q (hq : C1 q) (hm : q = N + 9) => by have := hC1 q hq; omega)
     replace hF := hF.trans F152 (fun c' (hm : c' = N + 9) => by (try dsimp only); omega)
     refine y1b S151 12 (ba 13 1) Z Z Z Z (by kernel_rfl) (fun _ _ _ h => h) (fun _ => (y1j (e := 27) (sz := 1) (by_ := 24) S151 Z Z Z (by kernel_rfl) (OwM.some_ hm123 hx115) (y26 hx115) (y27 hx115))) fun a153 S153 => ?_
     refine d_one 13 (ba 14 0) Z (by kernel_rfl) (arm_effS S153 Z Z (e_storeM (k := (kint .i64)) (fun _ _ _ _ _ _ _ _ h => h) g152 S153 Z Z Z Z (by kernel_rfl) rfl hm123 hx115 hh117 h149 ⟨by omega, by omega⟩) (.inl (by decide)) ?_)
     rintro a154 w155 g155 ⟨hm123, F155⟩ S154
     replace h108 := h108.fr F155 (fun (hm : N + 5 = N + 0 ∨ N + 5 = N + 9) => by omega)
     replace h143 := OwS.fr h143 F155 (fun c' hc (hm : c' = N + 0 ∨ c' = N + 9) => by omega)
     replace h56 := OwS.fr h56 F155 (fun c' hc (hm : c' = N + 0 ∨ c' = N + 9) => by omega)
     replace hp1 := RdS.fr hp1 F155 (by decide) (fun q (hq : C1 q) (hm : q = N + 0 ∨ q = N + 9) => by have := hC1 q hq; omega)
     replace hF := hF.trans F155 (fun c' (hm : c' = N + 0 ∨ c' = N + 9) => by (try dsimp only); omega)
     have hT : Sl 41 a154 [(4, .slice A50 m0_0.length cap51), (5, .slice A54 m0_1.length cap55), (7, .pointer (so b107)), (12, .slice A1 p1.length cap1), (13, i6 (p1.length : Int)), (14, i6 m0_2)] := S154.re ⟨Z, Z, Z, Z, Z, Z, trivial⟩
     replace S154 : Sl 41 a154 [(4, .slice A50 (upd m0_0 x103.Supplier y125).length cap51), (5, .slice A54 m0_1.length cap55), (7, .pointer (so b107)), (12, .slice A1 p1.length cap1), (13, i6 (p1.length : Int)), (14, i6 m0_2)] := by simpa only [y1w] using hT
     clear hT
     refine y4v (by kernel_rfl) (hK _ _ ?_)
     replace hS : Sl 41 _ [(4, .slice A50 (upd m0_0 x103.Supplier y125).length cap51), (5, .slice A54 m0_1.length cap55), (7, .pointer (so b107)), (12, .slice A1 p1.length cap1), (13, i6 (p1.length : Int)), (14, i6 m0_2)] := S154.re ⟨Z, Z, Z, Z, Z, Z, trivial⟩
     clear hK K hC
     try clear S132 S133 S134 S135 S136 S137 S138 S139 S140 S141 S145 S151 S153 S154
     generalize a154 = a at hS ⊢
     obtain ⟨x159, hx160, H⟩ := y0b H
     refine y3l (fun K hK => ?_)
     refine y00 hS Z Z Z (y03 hS Z Z) fun a156 S156 => y00 S156 Z Z Z (y1e (off := 0) S156 Z Z (by kernel_rfl)) fun a157 S157 => y00 S157 Z Z Z (y0u (n := 1) S157 Z Z (by kernel_rfl) (Bx.cell h108 Z)) fun a158 S158 => y00 S158 Z Z Z (y1j (e := 3) (sz := 1) (by_ := 8) S158 Z Z Z (by kernel_rfl) (RdS.some_ (OwS.rd h56) hx160) (y26 hx160) (y27 hx160)) fun a161 S161 => y00 S161 Z Z Z (y0u (n := 1) S161 Z Z (by kernel_rfl) (RdS.cell (i := x103.Consumer) (sz := 1) (j := 0) (OwS.rd h56) hx160 Z)) fun a162 S162 => y00 S162 Z Z Z (y2l S162 Z Z rfl y4z) fun a163 S163 => y00 S163 Z Z Z (y1j (e := 3) (sz := 1) (by_ := 8) S163 Z Z Z (by kernel_rfl) (RdS.some_ (OwS.rd h56) hx160) (y26 hx160) (y27 hx160)) fun a164 S164 => ?_
     refine y3s S164 Z Z (y4l (n := 1) (bb := false) (kd := (kint .i64)) (j := 0) (x' := wi (x159 + 1)) (us := [i6 (wi (x159 + 1))]) g155 S164 Z Z Z Z (by kernel_rfl) Z Z (by intro v hv; simp only [List.mem_cons, List.not_mem_nil, or_false] at hv; rcases hv with rfl <;> rfl) h56 hx160 Z (fun _ _ cs hR => by rw [show cs = _ from hR]; rfl)) ?_
     rintro a165 w166 g166 ⟨h56, F166⟩ S165
     replace h108 := h108.fr F166 (fun (hm : N + 5 = N + 3) => by omega)
     replace hm123 := OwM.fr hm123 F166 (fun (hm : N + 0 = N + 3) => by omega) (fun (hm : N + 0 + 1 = N + 3) => by omega) (fun (hm : N + 0 + 2 = N + 3) => by omega)
     replace hp1 := RdS.fr hp1 F166 (by decide) (fun q (hq : C1 q) (hm : q = N + 3) => by have := hC1 q hq; omega)
     replace hF := hF.trans F166 (fun c' (hm : c' = N + 3) => by (try dsimp only); omega)
     have hT : Sl 41 a165 [(4, .slice A50 (upd m0_0 x103.Supplier y125).length cap51), (5, .slice A54 m0_1.length cap55), (12, .slice A1 p1.length cap1), (13, i6 (p1.length : Int)), (14, i6 m0_2)] := S165.re ⟨Z, Z, Z, Z, Z, trivial⟩
     replace S165 : Sl 41 a165 [(4, .slice A50 (upd m0_0 x103.Supplier y125).length cap51), (5, .slice A54 (upd m0_1 x103.Consumer (wi (x159 + 1))).length cap55), (12, .slice A1 p1.length cap1), (13, i6 (p1.length : Int)), (14, i6 m0_2)] := by simpa only [y1w] using hT
     clear hT
     refine wpList_nil (hK _ _ ?_)
     replace hS : Sl 41 _ [(4, .slice A50 (upd m0_0 x103.Supplier y125).length cap51), (5, .slice A54 (upd m0_1 x103.Consumer (wi (x159 + 1))).length cap55), (12, .slice A1 p1.length cap1), (13, i6 (p1.length : Int)), (14, i6 m0_2)] := S165.re ⟨Z, Z, Z, Z, Z, trivial⟩
     clear hK K
     try clear S156 S157 S158 S161 S162 S163 S164 S165
     generalize a165 = a at hS ⊢
     change Code.wp _ _ _ _ _
     refine y3e [(4, .slice A50 (upd m0_0 x103.Supplier y125).length cap51), (5, .slice A54 (upd m0_1 x103.Consumer (wi (x159 + 1))).length cap55), (12, .slice A1 p1.length cap1), (13, i6 (p1.length : Int)), (14, i6 (wi (m0_2 + 1)))] (fun R hR => y00 hS Z Z Z (y2l hS Z Z rfl y4z) fun a167 S167 => y00 S167 Z Z Z (y03 S167 Z Z) fun a168 S168 => wpList_nil (hR _ (S168.re ⟨Z, Z, Z, Z, Z, trivial⟩))) ?_
     clear hS a; intro a hS
     refine ⟨k100, Nat.lt_succ_self _, ?_⟩
     exact ⟨(upd m0_0 x103.Supplier y125), (upd m0_1 x103.Consumer (wi (x159 + 1))), wi (m0_2 + 1), g166, (upd hs99 x103.Supplier (A147, cap148)), H, hS.re ⟨Z, Z, Z, Z, Z, trivial⟩, hm123, h56, hp1, hF⟩
    ·replace H := y3g hb102 H
     refine wp_exit ?_
     have e := Option.some.inj H
     subst e
     exact ⟨g98, hs99, hS.re ⟨Z, Z, trivial⟩, h52, h56, hF⟩
 ·clear H
  clear hp1 h52 h56 hF
  clear hS
  rintro a w90 ⟨g90, hs91, hS, h52, h56, hF⟩
  have H := Hl94
  clear Hl94
  refine y16 [(4, .slice A50 v92.1.length cap51), (5, .slice A54 v92.2.length cap55)] (fun R hR => y00 hS Z Z Z (y03 hS Z Z) fun a169 S169 => y00 S169 Z Z Z (y03 S169 Z Z) fun a170 S170 => y00 S170 Z Z Z (y02 S170 Z Z) fun a171 S171 => y00 S171 Z Z Z (y02 S171 Z Z) fun a172 S172 => wpList_nil (hR _ (S172.re ⟨Z, Z, trivial⟩))) ?_
  clear hS a; intro a hS
  refine wp_ret ?_
  have e := Option.some.inj H
  subst e
  have h173 := OwM.toS (fun _ _ _ _ _ _ _ _ h => h) (by decide) h52
  have F174 := Fr.y2f w90 g90 (N + 0) r0
  replace h173 := h173.y2f r0
  replace h56 := OwS.fr h56 F174 (fun c' hc (hm : c' = N + 0 ∨ c' = N + 0 + 1) => by omega)
  replace hF := hF.trans F174 (fun c' (hm : c' = N + 0 ∨ c' = N + 0 + 1) => by (try dsimp only); omega)
  have F175 := Fr.y2f w90 (y2f g90 (N + 0) r0) (N + 3) r1
  replace h56 := h56.y2f r1
  replace h173 := OwS.fr h173 F175 (fun c' hc (hm : c' = N + 3 ∨ c' = N + 3 + 1) => by omega)
  replace hF := hF.trans F175 (fun c' (hm : c' = N + 3 ∨ c' = N + 3 + 1) => by (try dsimp only); omega)
  repeat (with_reducible first | refine y1i ?_ | refine y0o ?_)
  exact y4d hS Try.results57 Z rfl ⟨_, rfl, (y2f (y2f g90 (N + 0) r0) (N + 3) r1), A50, cap51, A54, cap55, rfl, h173, h56, hF⟩


end Go.Proofs.Ytcfcffbjdjacfaa.Sim

namespace Go.Proofs.Ytcfcffbjdjacfaa.Sim
open Go
set_option linter.unusedVariables false
set_option linter.unusedSimpArgs false

/-! ### y19: function 59 -/
def y19.l0 (p0 : Int) (p2 : List Int) : Nat → (List Bool) → (List Int) → Int → Option (Fl ((List Int) × Int) ((List Bool) × (List Int)))
 | 0, _, _, _ => none
 | k28 + 1, m0_0, m0_1, m0_2 => if decide (m0_2 < (p2.length : Int)) = true then (((idx p2 m0_2).bind fun x38 => if ((decide (x38 < 0)) || (decide (p0 ≤ x38))) = true then (some (.out (.out ([], 1)))) else ((idx m0_0 x38).bind fun x64 => if (!x64) = true then ((app m0_1 [x38]).bind fun y82 => some (.nxt ((upd m0_0 x38 true), y82))) else (some (.nxt (m0_0, m0_1)))) : Option (Fl (Fl ((List Int) × Int) ((List Bool) × (List Int))) ((List Bool) × (List Int)))).bind fun o36 => o36.go fun v35 => y19.l0 p0 p2 k28 v35.1 v35.2 (wi (m0_2 + 1))) else (some (.nxt (m0_0, m0_1)))
def y19.l2 (x134 : List Int) : Nat → (List Bool) → (List Int) → Int → Option ((List Bool) × (List Int))
 | 0, _, _, _ => none
 | k150 + 1, m2_0, m2_1, m2_2 => if decide (m2_2 < (x134.length : Int)) = true then (((idx x134 m2_2).bind fun x160 => (idx m2_0 x160).bind fun x167 => if (!x167) = true then ((app m2_1 [x160]).bind fun y185 => some ((upd m2_0 x160 true), y185)) else (some (m2_0, m2_1)) : Option ((List Bool) × (List Int))).bind fun v157 => y19.l2 x134 k150 v157.1 v157.2 (wi (m2_2 + 1))) else (some (m2_0, m2_1))
def y19.l1 (p1 : List (List Int)) : Nat → (List Bool) → (List Int) → Option ((List Bool))
 | 0, _, _ => none
 | k101 + 1, m1_0, m1_1 => if decide (0 < (m1_1.length : Int)) = true then (((idx m1_1 (wi ((m1_1.length : Int) - 1))).bind fun x117 => (slc m1_1 0 (wi ((m1_1.length : Int) - 1))).bind fun y126 => (idx p1 x117).bind fun x134 => y19.l2 x134 FUEL m1_0 y126 0 : Option ((List Bool) × (List Int))).bind fun v110 => y19.l1 p1 k101 v110.1 v110.2) else (some m1_0)
def y19.l3 (v94 : (List Bool)) : Nat → (List Int) → Int → Option ((List Int))
 | 0, _, _ => none
 | k211 + 1, m3_0, m3_1 => if decide (m3_1 < (v94.length : Int)) = true then (((idx v94 m3_1).bind fun x222 => if x222 = true then ((app m3_0 [m3_1]).bind fun y237 => some y237) else (some m3_0) : Option ((List Int))).bind fun v218 => y19.l3 v94 k211 v218 (wi (m3_1 + 1))) else (some m3_0)
def y19.f (p0 : Int) (p1 : List (List Int)) (p2 : List Int) : Option ((List Int) × Int) := (mk p0 false).bind fun y4 => (y19.l0 p0 p2 FUEL y4 [] 0 : Option (Fl ((List Int) × Int) ((List Bool) × (List Int)))).bind fun o19 => o19.go fun v18 => (y19.l1 p1 FUEL v18.1 v18.2 : Option ((List Bool))).bind fun v94 => (y19.l3 v94 FUEL [] 0 : Option ((List Int))).bind fun v201 => some (v201, 0)
set_option maxRecDepth 100000 in
set_option maxHeartbeats 4000000 in
theorem y19.calls {p0 : Int} {p1 : List (List Int)} {A1 : Option Addr} {cap1 : Nat} {C1 : Nat → Prop} {p2 : List Int} {A2 : Option Addr} {cap2 : Nat} {C2 : Nat → Prop} {w : World} {g : Nat → Nat} {out : (List Int) × Int} (N : Nat) (r0 : Nat) (hp1 : RdS (kslice (kint .i64) (by decide)) w g C1 A1 cap1 p1) (hC1 : ∀ c, C1 c → c < N) (hp2 : RdS (kint .i64) w g C2 A2 cap2 p2) (hC2 : ∀ c, C2 c → c < N) (hr0 : r0 + 2 ≤ N) (H : y19.f p0 p1 p2 = some out) :
  Calls Try.prog 59 #[i6 p0, .slice A1 p1.length cap1, .slice A2 p2.length cap2] w (fun e w' => ∃ v, e = .returned v ∧ ∃ (g' : Nat → Nat) (A_r0 : Option Addr) (cap_r0 : Nat), v = .tuple #[.slice A_r0 out.1.length cap_r0, i6 out.2] ∧ OwS (kint .i64) 3 w' g' r0 A_r0 cap_r0 out.1 ∧ Fr (fun q => (r0 ≤ q ∧ q < r0 + 2) ∨ N ≤ q) w g w' g') := by
 unfold y19.f at H
 refine y1k Try.func59 rfl Try.ntmps59 Z (fun a hS => ?_)
 replace hS : Sl 96 a [(0, i6 p0), (1, .slice A1 p1.length cap1), (2, .slice A2 p2.length cap2)] := hS
 have hF : Fr (fun q => (r0 ≤ q ∧ q < r0 + 2) ∨ N ≤ q) w g w g := Fr.refl _ _ _
 refine y16 [(0, i6 p0), (1, .slice A1 p1.length cap1), (2, .slice A2 p2.length cap2)] (fun R hR => y00 hS Z Z Z (y02 hS Z Z) fun a1 S1 => y00 S1 Z Z Z (y02 S1 Z Z) fun a2 S2 => wpList_nil (hR _ (S2.re ⟨Z, Z, Z, trivial⟩))) ?_
 clear hS a; intro a hS
 obtain ⟨y4, hy5, H⟩ := y0b H
 refine y0t (fun K hK => ?_)
 refine y00 hS Z Z Z (y03 hS Z Z) fun a3 S3 => ?_
 refine y41 S3 Z Z Z (e_make (e := 4) (sz := 1) (by_ := 1) (z := [.bool false]) (kd := y4p) (N + 0) g S3 Z Z (by kernel_rfl) (by kernel_rfl) Z Z Z (fun _ _ _ => by exact rfl) hy5) ?_
 rintro _ a10 w11 g11 ⟨⟨A6, cap7, rfl, h8⟩, F11⟩ S10
 replace hp1 := RdS.fr hp1 F11 (by decide) (fun _ _ h => h)
 replace hp2 := RdS.fr hp2 F11 (by decide) (fun _ _ h => h)
 replace hF := hF.trans F11 (fun _ h => h.elim)
 refine y00 S10 Z Z Z (y02 S10 Z Z) fun a12 S12 => wpList_nil (hK _ _ ?_)
 replace hS : Sl 96 _ [(0, i6 p0), (1, .slice A1 p1.length cap1), (2, .slice A2 p2.length cap2), (8, .slice A6 y4.length cap7)] := S12.re ⟨Z, Z, Z, Z, trivial⟩
 clear hK K
 try clear S3 S10 S12
 generalize a12 = a at hS ⊢
 refine y16 [(0, i6 p0), (1, .slice A1 p1.length cap1), (2, .slice A2 p2.length cap2), (8, .slice A6 y4.length cap7), (9, .slice none 0 0)] (fun R hR => y00 hS Z Z Z (y02 hS Z Z) fun a13 S13 => wpList_nil (hR _ (S13.re ⟨Z, Z, Z, Z, Z, trivial⟩))) ?_
 clear hS a; intro a hS
 obtain ⟨o19, H, Hl20⟩ := y0b H
 refine y4u (fun a w14 => ∃ (v18 : (List Bool) × (List Int)), ∃ (g14 : Nat → Nat), ∃ (A15 : Option Addr), ∃ (cap16 : Nat), o19 = .nxt v18 ∧ Sl 96 a [(1, .slice A1 p1.length cap1), (8, .slice A6 v18.1.length cap7), (9, .slice A15 v18.2.length cap16)] ∧ OwS y4p 4 w14 g14 (N + 0) A6 cap7 v18.1 ∧ OwS (kint .i64) 3 w14 g14 (N + 4) A15 cap16 v18.2 ∧ RdS (kslice (kint .i64) (by decide)) w14 g14 C1 A1 cap1 p1 ∧ Fr (fun q => (r0 ≤ q ∧ q < r0 + 2) ∨ N ≤ q) w g w14 g14) ?_ ?_
 ·refine y16 [(0, i6 p0), (1, .slice A1 p1.length cap1), (8, .slice A6 y4.length cap7), (9, .slice none 0 0), (20, .slice A2 p2.length cap2), (21, i6 (p2.length : Int)), (22, i6 0)] (fun R hR => y00 hS Z Z Z (y03 hS Z Z) fun a21 S21 => y00 S21 Z Z Z (y4x (e := 3) (sz := 1) (by_ := 8) S21 Z Z (by kernel_rfl)) fun a22 S22 => y00 S22 Z Z Z (y03 S22 Z Z) fun a23 S23 => wpList_nil (hR _ (S23.re ⟨Z, Z, Z, Z, Z, Z, Z, trivial⟩))) ?_
  clear hS a; intro a hS
  refine wp_block ?_
  refine wp_loop_ghost (fun kq => fun a w24 => ∃ (m0_0 : List Bool), ∃ (m0_1 : List Int), ∃ (m0_2 : Int), ∃ (g24 : Nat → Nat), ∃ (A25 : Option Addr), ∃ (cap26 : Nat), y19.l0 p0 p2 kq m0_0 m0_1 m0_2 = some o19 ∧ Sl 96 a [(0, i6 p0), (1, .slice A1 p1.length cap1), (8, .slice A6 m0_0.length cap7), (9, .slice A25 m0_1.length cap26), (20, .slice A2 p2.length cap2), (21, i6 (p2.length : Int)), (22, i6 m0_2)] ∧ OwS y4p 4 w24 g24 (N + 0) A6 cap7 m0_0 ∧ OwS (kint .i64) 3 w24 g24 (N + 4) A25 cap26 m0_1 ∧ RdS (kslice (kint .i64) (by decide)) w24 g24 C1 A1 cap1 p1 ∧ RdS (kint .i64) w24 g24 C2 A2 cap2 p2 ∧ Fr (fun q => (r0 ≤ q ∧ q < r0 + 2) ∨ N ≤ q) w g w24 g24) FUEL ?_ ?_
  ·exact ⟨y4, [], 0, g11, none, 0, H, hS.re ⟨Z, Z, Z, Z, Z, Z, Z, trivial⟩, h8, OwS.nil (kint .i64) 3 w11 g11 (N + 4), hp1, hp2, hF⟩
  ·clear H
   clear hp1 hp2 h8 hF
   clear hS
   rintro k28 a w24 ⟨m0_0, m0_1, m0_2, g24, A25, cap26, hpre0, hS, h8, h27, hp1, hp2, hF⟩
   have H := hpre0
   clear hpre0
   cases k28 with
   | zero => exact absurd H (by simp [y19.l0])
   | succ k28 =>
    rw [y19.l0] at H
    refine y16 [(0, i6 p0), (1, .slice A1 p1.length cap1), (8, .slice A6 m0_0.length cap7), (9, .slice A25 m0_1.length cap26), (20, .slice A2 p2.length cap2), (21, i6 (p2.length : Int)), (22, i6 m0_2), (23, .bool (decide (m0_2 < (p2.length : Int))))] (fun R hR => y00 hS Z Z Z (y2l hS Z Z rfl y4t) fun a29 S29 => wpList_nil (hR _ (S29.re ⟨Z, Z, Z, Z, Z, Z, Z, Z, trivial⟩))) ?_
    clear hS a; intro a hS
    refine c_if hS Z (fun hb30 => ?_) (fun hb30 => ?_)
    ·replace H := y3f hb30 H
     refine wp_skip ?_
     change Code.wp _ _ _ _ _
     obtain ⟨o36, H, Hl37⟩ := y0b H
     refine y4u (fun a w31 => ∃ (v35 : (List Bool) × (List Int)), ∃ (g31 : Nat → Nat), ∃ (A32 : Option Addr), ∃ (cap33 : Nat), o36 = .nxt v35 ∧ Sl 96 a [(0, i6 p0), (1, .slice A1 p1.length cap1), (8, .slice A6 v35.1.length cap7), (9, .slice A32 v35.2.length cap33), (20, .slice A2 p2.length cap2), (21, i6 (p2.length : Int)), (22, i6 m0_2)] ∧ OwS y4p 4 w31 g31 (N + 0) A6 cap7 v35.1 ∧ OwS (kint .i64) 3 w31 g31 (N + 4) A32 cap33 v35.2 ∧ RdS (kslice (kint .i64) (by decide)) w31 g31 C1 A1 cap1 p1 ∧ RdS (kint .i64) w31 g31 C2 A2 cap2 p2 ∧ Fr (fun q => (r0 ≤ q ∧ q < r0 + 2) ∨ N ≤ q) w g w31 g31) ?_ ?_
     ·refine wp_block ?_
      obtain ⟨x38, hx39, H⟩ := y0b H
      refine y16 [(0, i6 p0), (1, .slice A1 p1.length cap1), (8, .slice A6 m0_0.length cap7), (9, .slice A25 m0_1.length cap26), (11, i6 x38), (20, .slice A2 p2.length cap2), (21, i6 (p2.length : Int)), (22, i6 m0_2)] (fun R hR => y00 hS Z Z Z (y1j (e := 3) (sz := 1) (by_ := 8) hS Z Z Z (by kernel_rfl) (RdS.some_ hp2 hx39) (y26 hx39) (y27 hx39)) fun a40 S40 => y00 S40 Z Z Z (y0u (n := 1) S40 Z Z (by kernel_rfl) (RdS.cell (i := m0_2) (sz := 1) (j := 0) hp2 hx39 Z)) fun a41 S41 => y00 S41 Z Z Z (y02 S41 Z Z) fun a42 S42 => wpList_nil (hR _ (S42.re ⟨Z, Z, Z, Z, Z, Z, Z, Z, trivial⟩))) ?_
      clear hS a; intro a hS
      refine wp_seq ?_
      refine y0t (fun K hK => ?_)
      refine y00 hS Z Z Z (y03 hS Z Z) fun a43 S43 => y00 S43 Z Z Z (y2l S43 Z Z rfl y4t) fun a44 S44 => y00 S44 Z Z Z (y03 S44 Z Z) fun a45 S45 => ?_
      refine y4b (N := 96) 4 [(0, i6 p0), (1, .slice A1 p1.length cap1), (8, .slice A6 m0_0.length cap7), (9, .slice A25 m0_1.length cap26), (11, i6 x38), (20, .slice A2 p2.length cap2), (21, i6 (p2.length : Int)), (22, i6 m0_2), (32, .bool ((decide (x38 < 0)) || (decide (p0 ≤ x38))))] ?_ (fun hk => ?_)
      rotate_left
      ·rcases Bool.eq_false_or_eq_true (decide (x38 < 0)) with hb46 | hb46
       ·refine y1c S45 (y05 S45 Z Z rfl hb46) Z Z fun a50 S50 => y1c S50 (y05 S50 Z Z rfl hb46) Z Z fun a51 S51 => y1c S51 (y05 S51 Z Z rfl hb46) Z Z fun a52 S52 => y00 S52 Z Z Z (y2s S52 Z Z rfl hb46) fun a53 S53 => hk _ (S53.re ⟨rfl, rfl, rfl, rfl, rfl, rfl, rfl, rfl, (by rw [hb46]; rfl), trivial⟩)
       ·refine y0p S45 (y0a S45 Z Z rfl hb46) Z Z (y03 S45 Z Z) fun a54 S54 => y0p S54 (y0a S54 Z Z rfl hb46) Z Z (y03 S54 Z Z) fun a55 S55 => y0p S55 (y0a S55 Z Z rfl hb46) Z Z (y2l S55 Z Z rfl b_geq) fun a56 S56 => y00 S56 Z Z Z (y2t S56 Z Z rfl hb46) fun a57 S57 => hk _ (S57.re ⟨rfl, rfl, rfl, rfl, rfl, rfl, rfl, rfl, (by rw [hb46]; rfl), trivial⟩)
      intro a58 S58
      refine wpList_nil (hK _ _ ?_)
      replace hS : Sl 96 _ [(0, i6 p0), (1, .slice A1 p1.length cap1), (8, .slice A6 m0_0.length cap7), (9, .slice A25 m0_1.length cap26), (11, i6 x38), (20, .slice A2 p2.length cap2), (21, i6 (p2.length : Int)), (22, i6 m0_2), (32, .bool ((decide (x38 < 0)) || (decide (p0 ≤ x38))))] := S58.re ⟨Z, Z, Z, Z, Z, Z, Z, Z, Z, trivial⟩
      clear hK K
      try clear S43 S44 S45 S58
      generalize a58 = a at hS ⊢
      refine y2m hS Z (fun hb59 => ?_) (fun hb59 => ?_)
      ·replace H := y3f hb59 H
       refine y16 [(6, .slice none 0 0), (7, i6 1)] (fun R hR => y00 hS Z Z Z (y02 hS Z Z) fun a60 S60 => y00 S60 Z Z Z (y02 S60 Z Z) fun a61 S61 => wpList_nil (hR _ (S61.re ⟨Z, Z, trivial⟩))) ?_
       clear hS a; intro a hS
       refine wp_ret ?_
       have e := Option.some.inj H
       subst e
       replace H := Fl.go_out Hl37
       have e := Option.some.inj H
       subst e
       replace H := Fl.go_out Hl20
       have e := Option.some.inj H
       subst e
       repeat (with_reducible first | refine y1i ?_ | refine y0o ?_)
       exact y4d hS Try.results59 Z rfl ⟨_, rfl, g24, none, 0, rfl, OwS.nil (kint .i64) 3 w24 g24 r0, hF⟩
      ·replace H := y3g hb59 H
       refine wp_skip ?_
       change Code.wp _ _ _ _ _
       obtain ⟨x64, hx65, H⟩ := y0b H
       refine y16 [(0, i6 p0), (1, .slice A1 p1.length cap1), (8, .slice A6 m0_0.length cap7), (9, .slice A25 m0_1.length cap26), (11, i6 x38), (20, .slice A2 p2.length cap2), (21, i6 (p2.length : Int)), (22, i6 m0_2), (37, .bool (!x64))] (fun R hR => y00 hS Z Z Z (y03 hS Z Z) fun a62 S62 => y00 S62 Z Z Z (y03 S62 Z Z) fun a63 S63 => y00 S63 Z Z Z (y1j (e := 4) (sz := 1) (by_ := 1) S63 Z Z Z (by kernel_rfl) (RdS.some_ (OwS.rd h8) hx65) (y26 hx65) (y27 hx65)) fun a66 S66 => y00 S66 Z Z Z (y0u (n := 1) S66 Z Z (by kernel_rfl) (RdS.cell (i := x38) (sz := 1) (j := 0) (OwS.rd h8) hx65 Z)) fun a67 S67 => y00 S67 Z Z Z (r_not S67 Z Z) fun a68 S68 => wpList_nil (hR _ (S68.re ⟨Z, Z, Z, Z, Z, Z, Z, Z, Z, trivial⟩))) ?_
       clear hS a; intro a hS
       refine y2m hS Z (fun hb69 => ?_) (fun hb69 => ?_)
       ·replace H := y3f hb69 H
        refine y0t (fun K hK => ?_)
        refine y00 hS Z Z Z (y03 hS Z Z) fun a70 S70 => y00 S70 Z Z Z (y03 S70 Z Z) fun a71 S71 => y00 S71 Z Z Z (y1j (e := 4) (sz := 1) (by_ := 1) S71 Z Z Z (by kernel_rfl) (RdS.some_ (OwS.rd h8) hx65) (y26 hx65) (y27 hx65)) fun a72 S72 => ?_
        refine y3s S72 Z Z (y4l (n := 1) (bb := false) (kd := y4p) (j := 0) (x' := true) (us := [.bool true]) g24 S72 Z Z Z Z (by kernel_rfl) Z Z (by intro v hv; simp only [List.mem_cons, List.not_mem_nil, or_false] at hv; rcases hv with rfl <;> rfl) h8 hx65 Z (fun _ _ cs hR => by rw [show cs = _ from hR]; rfl)) ?_
        rintro a73 w74 g74 ⟨h8, F74⟩ S73
        replace h27 := OwS.fr h27 F74 (fun c' hc (hm : c' = N + 0) => by omega)
        replace hp1 := RdS.fr hp1 F74 (by decide) (fun q (hq : C1 q) (hm : q = N + 0) => by have := hC1 q hq; omega)
        replace hp2 := RdS.fr hp2 F74 (by decide) (fun q (hq : C2 q) (hm : q = N + 0) => by have := hC2 q hq; omega)
        replace hF := hF.trans F74 (fun c' (hm : c' = N + 0) => by (try dsimp only); omega)
        have hT : Sl 96 a73 [(0, i6 p0), (1, .slice A1 p1.length cap1), (8, .slice A6 m0_0.length cap7), (9, .slice A25 m0_1.length cap26), (11, i6 x38), (20, .slice A2 p2.length cap2), (21, i6 (p2.length : Int)), (22, i6 m0_2)] := S73.re ⟨Z, Z, Z, Z, Z, Z, Z, Z, trivial⟩
        replace S73 : Sl 96 a73 [(0, i6 p0), (1, .slice A1 p1.length cap1), (8, .slice A6 (upd m0_0 x38 true).length cap7), (9, .slice A25 m0_1.length cap26), (11, i6 x38), (20, .slice A2 p2.length cap2), (21, i6 (p2.length : Int)), (22, i6 m0_2)] := by simpa only [y1w] using hT
        clear hT
        refine wpList_nil (hK _ _ ?_)
        replace hS : Sl 96 _ [(0, i6 p0), (1, .slice A1 p1.length cap1), (8, .slice A6 (upd m0_0 x38 true).length cap7), (9, .slice A25 m0_1.length cap26), (11, i6 x38), (20, .slice A2 p2.length cap2), (21, i6 (p2.length : Int)), (22, i6 m0_2)] := S73.re ⟨Z, Z, Z, Z, Z, Z, Z, Z, trivial⟩
        clear hK K
        try clear S70 S71 S72 S73
        generalize a73 = a at hS ⊢
        obtain ⟨y82, hy83, H⟩ := y0b H
        refine y3l (fun K hK => ?_)
        refine y00 hS Z Z Z (y03 hS Z Z) fun a75 S75 => y00 S75 Z Z Z (y03 S75 Z Z) fun a76 S76 => ?_
        refine y41 S76 Z Z Z (e_lit (e := 3) (parts := [(0, i6 x38)]) (cs := [i6 x38]) (kint .i64) [x38] (N + 2) g74 S76 Z Z (fun _ => by kernel_rfl) Z (by decide) (Rows.cons (cs := [i6 x38]) rfl Rows.nil)) ?_
        rintro _ a80 w81 g81 ⟨⟨A77, rfl, h78⟩, F81⟩ S80
        replace h8 := OwS.fr h8 F81 (fun _ _ h => h)
        replace h27 := OwS.fr h27 F81 (fun _ _ h => h)
        replace hp1 := RdS.fr hp1 F81 (by decide) (fun _ _ h => h)
        replace hp2 := RdS.fr hp2 F81 (by decide) (fun _ _ h => h)
        replace hF := hF.trans F81 (fun _ h => h.elim)
        refine y41 S80 Z Z Z (y4g (e := 3) (sz := 1) (by_ := 8) (z := [i6 0]) (kd := (kint .i64)) g81 S80 Z Z Z Z (by kernel_rfl) (by kernel_rfl) Z Z Z Z h27 (OwD.rdx h78) (fun _ _ _ h => h) hy83) ?_
        rintro _ a88 w89 g89 ⟨⟨A84, cap85, rfl, h86⟩, F89⟩ S88
        replace h78 := OwS.fr h78 F89 (fun c' hc (hm : c' = N + 4) => by omega)
        replace h8 := OwS.fr h8 F89 (fun c' hc (hm : c' = N + 4) => by omega)
        replace hp1 := RdS.fr hp1 F89 (by decide) (fun q (hq : C1 q) (hm : q = N + 4) => by have := hC1 q hq; omega)
        replace hp2 := RdS.fr hp2 F89 (by decide) (fun q (hq : C2 q) (hm : q = N + 4) => by have := hC2 q hq; omega)
        replace hF := hF.trans F89 (fun c' (hm : c' = N + 4) => by (try dsimp only); omega)
        refine y00 S88 Z Z Z (y02 S88 Z Z) fun a90 S90 => wpList_nil (hK _ _ ?_)
        replace hS : Sl 96 _ [(0, i6 p0), (1, .slice A1 p1.length cap1), (8, .slice A6 (upd m0_0 x38 true).length cap7), (9, .slice A84 y82.length cap85), (20, .slice A2 p2.length cap2), (21, i6 (p2.length : Int)), (22, i6 m0_2)] := S90.re ⟨Z, Z, Z, Z, Z, Z, Z, trivial⟩
        clear hK K
        try clear S75 S76 S80 S88 S90
        generalize a90 = a at hS ⊢
        have e := Option.some.inj H
        exact ⟨((upd m0_0 x38 true), y82), g89, A84, cap85, e.symm, hS.re ⟨Z, Z, Z, Z, Z, Z, Z, trivial⟩, h8, h86, hp1, hp2, hF⟩
       ·replace H := y3g hb69 H
        refine wp_skip ?_
        have e := Option.some.inj H
        exact ⟨(m0_0, m0_1), g24, A25, cap26, e.symm, hS.re ⟨Z, Z, Z, Z, Z, Z, Z, trivial⟩, h8, h27, hp1, hp2, hF⟩
     ·clear H
      clear hp1 hp2 h8 h27 hF
      clear hS
      rintro a w31 ⟨v35, g31, A32, cap33, hpre0, hS, h8, h34, hp1, hp2, hF⟩
      subst hpre0
      have H := Fl.go_nxt Hl37
      clear Hl37
      refine y3e [(0, i6 p0), (1, .slice A1 p1.length cap1), (8, .slice A6 v35.1.length cap7), (9, .slice A32 v35.2.length cap33), (20, .slice A2 p2.length cap2), (21, i6 (p2.length : Int)), (22, i6 (wi (m0_2 + 1)))] (fun R hR => y00 hS Z Z Z (y2l hS Z Z rfl y4z) fun a91 S91 => y00 S91 Z Z Z (y03 S91 Z Z) fun a92 S92 => wpList_nil (hR _ (S92.re ⟨Z, Z, Z, Z, Z, Z, Z, trivial⟩))) ?_
      clear hS a; intro a hS
      refine ⟨k28, Nat.lt_succ_self _, ?_⟩
      exact ⟨v35.1, v35.2, wi (m0_2 + 1), g31, A32, cap33, H, hS.re ⟨Z, Z, Z, Z, Z, Z, Z, trivial⟩, h8, h34, hp1, hp2, hF⟩
    ·replace H := y3g hb30 H
     refine wp_exit ?_
     have e := Option.some.inj H
     exact ⟨(m0_0, m0_1), g24, A25, cap26, e.symm, hS.re ⟨Z, Z, Z, trivial⟩, h8, h27, hp1, hF⟩
 ·clear H
  clear hp1 hp2 h8 hF
  clear hS
  rintro a w14 ⟨v18, g14, A15, cap16, hpre0, hS, h8, h17, hp1, hF⟩
  subst hpre0
  have H := Fl.go_nxt Hl20
  clear Hl20
  obtain ⟨v94, H, Hl96⟩ := y0b H
  refine y4u (fun a w93 => ∃ (g93 : Nat → Nat), Sl 96 a [(8, .slice A6 v94.length cap7)] ∧ OwS y4p 4 w93 g93 (N + 0) A6 cap7 v94 ∧ Fr (fun q => (r0 ≤ q ∧ q < r0 + 2) ∨ N ≤ q) w g w93 g93) ?_ ?_
  ·refine wp_block ?_
   refine wp_loop_ghost (fun kq => fun a w97 => ∃ (m1_0 : List Bool), ∃ (m1_1 : List Int), ∃ (g97 : Nat → Nat), ∃ (A98 : Option Addr), ∃ (cap99 : Nat), y19.l1 p1 kq m1_0 m1_1 = some v94 ∧ Sl 96 a [(1, .slice A1 p1.length cap1), (8, .slice A6 m1_0.length cap7), (9, .slice A98 m1_1.length cap99)] ∧ OwS y4p 4 w97 g97 (N + 0) A6 cap7 m1_0 ∧ OwS (kint .i64) 3 w97 g97 (N + 4) A98 cap99 m1_1 ∧ RdS (kslice (kint .i64) (by decide)) w97 g97 C1 A1 cap1 p1 ∧ Fr (fun q => (r0 ≤ q ∧ q < r0 + 2) ∨ N ≤ q) w g w97 g97) FUEL ?_ ?_
   ·exact ⟨v18.1, v18.2, g14, A15, cap16, H, hS.re ⟨Z, Z, Z, trivial⟩, h8, h17, hp1, hF⟩
   ·clear H
    clear hp1 h8 h17 hF
    clear hS
    rintro k101 a w97 ⟨m1_0, m1_1, g97, A98, cap99, hpre0, hS, h8, h100, hp1, hF⟩
    have H := hpre0
    clear hpre0
    cases k101 with
    | zero => exact absurd H (by simp [y19.l1])
    | succ k101 =>
     rw [y19.l1] at H
     refine wp_seq ?_
     refine y16 [(1, .slice A1 p1.length cap1), (8, .slice A6 m1_0.length cap7), (9, .slice A98 m1_1.length cap99), (48, .bool (decide (0 < (m1_1.length : Int))))] (fun R hR => y00 hS Z Z Z (y03 hS Z Z) fun a102 S102 => y00 S102 Z Z Z (y4x (e := 3) (sz := 1) (by_ := 8) S102 Z Z (by kernel_rfl)) fun a103 S103 => y00 S103 Z Z Z (y2l S103 Z Z rfl b_gtr) fun a104 S104 => wpList_nil (hR _ (S104.re ⟨Z, Z, Z, Z, trivial⟩))) ?_
     clear hS a; intro a hS
     refine y2m hS Z (fun hb105 => ?_) (fun hb105 => ?_)
     ·replace H := y3f hb105 H
      refine wp_skip ?_
      change Code.wp _ _ _ _ _
      obtain ⟨v110, H, Hl112⟩ := y0b H
      refine c_cut1 (fun a w106 => ∃ (g106 : Nat → Nat), ∃ (A107 : Option Addr), ∃ (cap108 : Nat), Sl 96 a [(1, .slice A1 p1.length cap1), (8, .slice A6 v110.1.length cap7), (9, .slice A107 v110.2.length cap108)] ∧ OwS y4p 4 w106 g106 (N + 0) A6 cap7 v110.1 ∧ OwS (kint .i64) 3 w106 g106 (N + 4) A107 cap108 v110.2 ∧ RdS (kslice (kint .i64) (by decide)) w106 g106 C1 A1 cap1 p1 ∧ Fr (fun q => (r0 ≤ q ∧ q < r0 + 2) ∨ N ≤ q) w g w106 g106) ?_ ?_
      ·refine wp_block ?_
       obtain ⟨x117, hx118, H⟩ := y0b H
       refine y16 [(1, .slice A1 p1.length cap1), (8, .slice A6 m1_0.length cap7), (9, .slice A98 m1_1.length cap99), (12, i6 x117)] (fun R hR => y00 hS Z Z Z (y03 hS Z Z) fun a113 S113 => y00 S113 Z Z Z (y03 S113 Z Z) fun a114 S114 => y00 S114 Z Z Z (y4x (e := 3) (sz := 1) (by_ := 8) S114 Z Z (by kernel_rfl)) fun a115 S115 => y00 S115 Z Z Z (y2l S115 Z Z rfl b_sub) fun a116 S116 => y00 S116 Z Z Z (y1j (e := 3) (sz := 1) (by_ := 8) S116 Z Z Z (by kernel_rfl) (RdS.some_ (OwS.rd h100) hx118) (y26 hx118) (y27 hx118)) fun a119 S119 => y00 S119 Z Z Z (y0u (n := 1) S119 Z Z (by kernel_rfl) (RdS.cell (i := wi ((m1_1.length : Int) - 1)) (sz := 1) (j := 0) (OwS.rd h100) hx118 Z)) fun a120 S120 => y00 S120 Z Z Z (y02 S120 Z Z) fun a121 S121 => wpList_nil (hR _ (S121.re ⟨Z, Z, Z, Z, trivial⟩))) ?_
       clear hS a; intro a hS
       obtain ⟨y126, hy127, H⟩ := y0b H
       refine y0t (fun K hK => ?_)
       refine y00 hS Z Z Z (y03 hS Z Z) fun a122 S122 => y00 S122 Z Z Z (y03 S122 Z Z) fun a123 S123 => y00 S123 Z Z Z (y4x (e := 3) (sz := 1) (by_ := 8) S123 Z Z (by kernel_rfl)) fun a124 S124 => y00 S124 Z Z Z (y2l S124 Z Z rfl b_sub) fun a125 S125 => ?_
       have h128 := OwS.slc0 h100 hy127
       refine y00 S125 Z Z Z (r_slice (e := 3) (sz := 1) (by_ := 8) (l := 0) (h := wi ((m1_1.length : Int) - 1)) S125 Z Z (by kernel_rfl) Z rfl hy127 (OwS.rd h100).1) fun a130 S130 => y00 S130 Z Z Z (y02 S130 Z Z) fun a131 S131 => wpList_nil (hK _ _ ?_)
       replace hS : Sl 96 _ [(1, .slice A1 p1.length cap1), (8, .slice A6 m1_0.length cap7), (9, .slice (slA A98 cap99 (0 : Int).toNat 1) y126.length (cap99 - (0 : Int).toNat)), (12, i6 x117)] := S131.re ⟨Z, Z, Z, Z, trivial⟩
       clear hK K
       try clear S122 S123 S124 S125 S130 S131
       generalize a131 = a at hS ⊢
       obtain ⟨x134, hx135, H⟩ := y0b H
       refine y0t (fun K hK => ?_)
       refine y00 hS Z Z Z (y03 hS Z Z) fun a132 S132 => y00 S132 Z Z Z (y03 S132 Z Z) fun a133 S133 => ?_
       obtain ⟨_, ⟨A137, cap138, rfl, h139⟩, hel136⟩ := El.of hp1 hx135 (by decide)
       replace hel136 : El w97 g97 C1 A1 (x117.toNat * 1) [.slice A137 x134.length cap138] := hel136
       refine y00 S133 Z Z Z (y1j (e := 27) (sz := 1) (by_ := 24) S133 Z Z Z (by kernel_rfl) (RdS.some_ hp1 hx135) (y26 hx135) (y27 hx135)) fun a142 S142 => y00 S142 Z Z Z (y0u (n := 1) S142 Z Z (by kernel_rfl) (El.cell (j := 0) hel136 Z)) fun a143 S143 => y00 S143 Z Z Z (y4x (e := 3) (sz := 1) (by_ := 8) S143 Z Z (by kernel_rfl)) fun a144 S144 => y00 S144 Z Z Z (y03 S144 Z Z) fun a145 S145 => wpList_nil (hK _ _ ?_)
       replace hS : Sl 96 _ [(1, .slice A1 p1.length cap1), (8, .slice A6 m1_0.length cap7), (9, .slice (slA A98 cap99 (0 : Int).toNat 1) y126.length (cap99 - (0 : Int).toNat)), (63, .slice A137 x134.length cap138), (64, i6 (x134.length : Int)), (65, i6 0)] := S145.re ⟨Z, Z, Z, Z, Z, Z, trivial⟩
       clear hK K
       try clear S132 S133 S142 S143 S144 S145
       generalize a145 = a at hS ⊢
       refine wp_block ?_
       refine wp_loop_ghost (fun kq => fun a w146 => ∃ (m2_0 : List Bool), ∃ (m2_1 : List Int), ∃ (m2_2 : Int), ∃ (g146 : Nat → Nat), ∃ (A147 : Option Addr), ∃ (cap148 : Nat), y19.l2 x134 kq m2_0 m2_1 m2_2 = some v110 ∧ Sl 96 a [(1, .slice A1 p1.length cap1), (8, .slice A6 m2_0.length cap7), (9, .slice A147 m2_1.length cap148), (63, .slice A137 x134.length cap138), (64, i6 (x134.length : Int)), (65, i6 m2_2)] ∧ RdS (kint .i64) w146 g146 C1 A137 cap138 x134 ∧ OwS y4p 4 w146 g146 (N + 0) A6 cap7 m2_0 ∧ OwS (kint .i64) 3 w146 g146 (N + 4) A147 cap148 m2_1 ∧ RdS (kslice (kint .i64) (by decide)) w146 g146 C1 A1 cap1 p1 ∧ Fr (fun q => (r0 ≤ q ∧ q < r0 + 2) ∨ N ≤ q) w g w146 g146) FUEL ?_ ?_
       ·exact ⟨m1_0, y126, 0, g97, (slA A98 cap99 (0 : Int).toNat 1), (cap99 - (0 : Int).toNat), H, hS.re ⟨Z, Z, Z, Z, Z, Z, trivial⟩, h139, h8, h128, hp1, hF⟩
       ·clear H
        clear hp1 h8 h128 h139 hF
        clear hS
        rintro k150 a w146 ⟨m2_0, m2_1, m2_2, g146, A147, cap148, hpre0, hS, h139, h8, h149, hp1, hF⟩
        have H := hpre0
        clear hpre0
        cases k150 with
        | zero => exact absurd H (by simp [y19.l2])
        | succ k150 =>
         rw [y19.l2] at H
         refine y16 [(1, .slice A1 p1.length cap1), (8, .slice A6 m2_0.length cap7), (9, .slice A147 m2_1.length cap148), (63, .slice A137 x134.length cap138), (64, i6 (x134.length : Int)), (65, i6 m2_2), (66, .bool (decide (m2_2 < (x134.length : Int))))] (fun R hR => y00 hS Z Z Z (y2l hS Z Z rfl y4t) fun a151 S151 => wpList_nil (hR _ (S151.re ⟨Z, Z, Z, Z, Z, Z, Z, trivial⟩))) ?_
         clear hS a; intro a hS
         refine c_if hS Z (fun hb152 => ?_) (fun hb152 => ?_)
         ·replace H := y3f hb152 H
          refine wp_skip ?_
          change Code.wp _ _ _ _ _
          obtain ⟨v157, H, Hl159⟩ := y0b H
          refine y4u (fun a w153 => ∃ (g153 : Nat → Nat), ∃ (A154 : Option Addr), ∃ (cap155 : Nat), Sl 96 a [(1, .slice A1 p1.length cap1), (8, .slice A6 v157.1.length cap7), (9, .slice A154 v157.2.length cap155), (63, .slice A137 x134.length cap138), (64, i6 (x134.length : Int)), (65, i6 m2_2)] ∧ RdS (kint .i64) w153 g153 C1 A137 cap138 x134 ∧ OwS y4p 4 w153 g153 (N + 0) A6 cap7 v157.1 ∧ OwS (kint .i64) 3 w153 g153 (N + 4) A154 cap155 v157.2 ∧ RdS (kslice (kint .i64) (by decide)) w153 g153 C1 A1 cap1 p1 ∧ Fr (fun q => (r0 ≤ q ∧ q < r0 + 2) ∨ N ≤ q) w g w153 g153) ?_ ?_
          ·refine wp_block ?_
           obtain ⟨x160, hx161, H⟩ := y0b H
           refine y16 [(1, .slice A1 p1.length cap1), (8, .slice A6 m2_0.length cap7), (9, .slice A147 m2_1.length cap148), (14, i6 x160), (63, .slice A137 x134.length cap138), (64, i6 (x134.length : Int)), (65, i6 m2_2)] (fun R hR => y00 hS Z Z Z (y1j (e := 3) (sz := 1) (by_ := 8) hS Z Z Z (by kernel_rfl) (RdS.some_ h139 hx161) (y26 hx161) (y27 hx161)) fun a162 S162 => y00 S162 Z Z Z (y0u (n := 1) S162 Z Z (by kernel_rfl) (RdS.cell (i := m2_2) (sz := 1) (j := 0) h139 hx161 Z)) fun a163 S163 => y00 S163 Z Z Z (y02 S163 Z Z) fun a164 S164 => wpList_nil (hR _ (S164.re ⟨Z, Z, Z, Z, Z, Z, Z, trivial⟩))) ?_
           clear hS a; intro a hS
           obtain ⟨x167, hx168, H⟩ := y0b H
           refine y16 [(1, .slice A1 p1.length cap1), (8, .slice A6 m2_0.length cap7), (9, .slice A147 m2_1.length cap148), (14, i6 x160), (63, .slice A137 x134.length cap138), (64, i6 (x134.length : Int)), (65, i6 m2_2), (73, .bool (!x167))] (fun R hR => y00 hS Z Z Z (y03 hS Z Z) fun a165 S165 => y00 S165 Z Z Z (y03 S165 Z Z) fun a166 S166 => y00 S166 Z Z Z (y1j (e := 4) (sz := 1) (by_ := 1) S166 Z Z Z (by kernel_rfl) (RdS.some_ (OwS.rd h8) hx168) (y26 hx168) (y27 hx168)) fun a169 S169 => y00 S169 Z Z Z (y0u (n := 1) S169 Z Z (by kernel_rfl) (RdS.cell (i := x160) (sz := 1) (j := 0) (OwS.rd h8) hx168 Z)) fun a170 S170 => y00 S170 Z Z Z (r_not S170 Z Z) fun a171 S171 => wpList_nil (hR _ (S171.re ⟨Z, Z, Z, Z, Z, Z, Z, Z, trivial⟩))) ?_
           clear hS a; intro a hS
           refine y2m hS Z (fun hb172 => ?_) (fun hb172 => ?_)
           ·replace H := y3f hb172 H
            refine y0t (fun K hK => ?_)
            refine y00 hS Z Z Z (y03 hS Z Z) fun a173 S173 => y00 S173 Z Z Z (y03 S173 Z Z) fun a174 S174 => y00 S174 Z Z Z (y1j (e := 4) (sz := 1) (by_ := 1) S174 Z Z Z (by kernel_rfl) (RdS.some_ (OwS.rd h8) hx168) (y26 hx168) (y27 hx168)) fun a175 S175 => ?_
            refine y3s S175 Z Z (y4l (n := 1) (bb := false) (kd := y4p) (j := 0) (x' := true) (us := [.bool true]) g146 S175 Z Z Z Z (by kernel_rfl) Z Z (by intro v hv; simp only [List.mem_cons, List.not_mem_nil, or_false] at hv; rcases hv with rfl <;> rfl) h8 hx168 Z (fun _ _ cs hR => by rw [show cs = _ from hR]; rfl)) ?_
            rintro a176 w177 g177 ⟨h8, F177⟩ S176
            replace h139 := RdS.fr h139 F177 (by decide) (fun q (hq : C1 q) (hm : q = N + 0) => by have := hC1 q hq; omega)
            replace h149 := OwS.fr h149 F177 (fun c' hc (hm : c' = N + 0) => by omega)
            replace hp1 := RdS.fr hp1 F177 (by decide) (fun q (hq : C1 q) (hm : q = N + 0) => by have := hC1 q hq; omega)
            replace hF := hF.trans F177 (fun c' (hm : c' = N + 0) => by (try dsimp only); omega)
            have hT : Sl 96 a176 [(1, .slice A1 p1.length cap1), (8, .slice A6 m2_0.length cap7), (9, .slice A147 m2_1.length cap148), (14, i6 x160), (63, .slice A137 x134.length cap138), (64, i6 (x134.length : Int)), (65, i6 m2_2)] := S176.re ⟨Z, Z, Z, Z, Z, Z, Z, trivial⟩
            replace S176 : Sl 96 a176 [(1, .slice A1 p1.length cap1), (8, .slice A6 (upd m2_0 x160 true).length cap7), (9, .slice A147 m2_1.length cap148), (14, i6 x160), (63, .slice A137 x134.length cap138), (64, i6 (x134.length : Int)), (65, i6 m2_2)] := by simpa only [y1w] using hT
            clear hT
            refine wpList_nil (hK _ _ ?_)
            replace hS : Sl 96 _ [(1, .slice A1 p1.length cap1), (8, .slice A6 (upd m2_0 x160 true).length cap7), (9, .slice A147 m2_1.length cap148), (14, i6 x160), (63, .slice A137 x134.length cap138), (64, i6 (x134.length : Int)), (65, i6 m2_2)] := S176.re ⟨Z, Z, Z, Z, Z, Z, Z, trivial⟩
            clear hK K
            try clear S173 S174 S175 S176
            generalize a176 = a at hS ⊢
            obtain ⟨y185, hy186, H⟩ := y0b H
            refine y3l (fun K hK => ?_)
            refine y00 hS Z Z Z (y03 hS Z Z) fun a178 S178 => y00 S178 Z Z Z (y03 S178 Z Z) fun a179 S179 => ?_
            refine y41 S179 Z Z Z (e_lit (e := 3) (parts := [(0, i6 x160)]) (cs := [i6 x160]) (kint .i64) [x160] (N + 6) g177 S179 Z Z (fun _ => by kernel_rfl) Z (by decide) (Rows.cons (cs := [i6 x160]) rfl Rows.nil)) ?_
            rintro _ a183 w184 g184 ⟨⟨A180, rfl, h181⟩, F184⟩ S183
            replace h139 := RdS.fr h139 F184 (by decide) (fun _ _ h => h)
            replace h8 := OwS.fr h8 F184 (fun _ _ h => h)
            replace h149 := OwS.fr h149 F184 (fun _ _ h => h)
            replace hp1 := RdS.fr hp1 F184 (by decide) (fun _ _ h => h)
            replace hF := hF.trans F184 (fun _ h => h.elim)
            refine y41 S183 Z Z Z (y4g (e := 3) (sz := 1) (by_ := 8) (z := [i6 0]) (kd := (kint .i64)) g184 S183 Z Z Z Z (by kernel_rfl) (by kernel_rfl) Z Z Z Z h149 (OwD.rdx h181) (fun _ _ _ h => h) hy186) ?_
            rintro _ a191 w192 g192 ⟨⟨A187, cap188, rfl, h189⟩, F192⟩ S191
            replace h139 := RdS.fr h139 F192 (by decide) (fun q (hq : C1 q) (hm : q = N + 4) => by have := hC1 q hq; omega)
            replace h181 := OwS.fr h181 F192 (fun c' hc (hm : c' = N + 4) => by omega)
            replace h8 := OwS.fr h8 F192 (fun c' hc (hm : c' = N + 4) => by omega)
            replace hp1 := RdS.fr hp1 F192 (by decide) (fun q (hq : C1 q) (hm : q = N + 4) => by have := hC1 q hq; omega)
            replace hF := hF.trans F192 (fun c' (hm : c' = N + 4) => by (try dsimp only); omega)
            refine y00 S191 Z Z Z (y02 S191 Z Z) fun a193 S193 => wpList_nil (hK _ _ ?_)
            replace hS : Sl 96 _ [(1, .slice A1 p1.length cap1), (8, .slice A6 (upd m2_0 x160 true).length cap7), (9, .slice A187 y185.length cap188), (63, .slice A137 x134.length cap138), (64, i6 (x134.length : Int)), (65, i6 m2_2)] := S193.re ⟨Z, Z, Z, Z, Z, Z, trivial⟩
            clear hK K
            try clear S178 S179 S183 S191 S193
            generalize a193 = a at hS ⊢
            have e := Option.some.inj H
            subst e
            exact ⟨g192, A187, cap188, hS.re ⟨Z, Z, Z, Z, Z, Z, trivial⟩, h139, h8, h189, hp1, hF⟩
           ·replace H := y3g hb172 H
            refine wp_skip ?_
            have e := Option.some.inj H
            subst e
            exact ⟨g146, A147, cap148, hS.re ⟨Z, Z, Z, Z, Z, Z, trivial⟩, h139, h8, h149, hp1, hF⟩
          ·clear H
           clear hp1 h8 h139 h149 hF
           clear hS
           rintro a w153 ⟨g153, A154, cap155, hS, h139, h8, h156, hp1, hF⟩
           have H := Hl159
           clear Hl159
           refine y3e [(1, .slice A1 p1.length cap1), (8, .slice A6 v157.1.length cap7), (9, .slice A154 v157.2.length cap155), (63, .slice A137 x134.length cap138), (64, i6 (x134.length : Int)), (65, i6 (wi (m2_2 + 1)))] (fun R hR => y00 hS Z Z Z (y2l hS Z Z rfl y4z) fun a194 S194 => y00 S194 Z Z Z (y03 S194 Z Z) fun a195 S195 => wpList_nil (hR _ (S195.re ⟨Z, Z, Z, Z, Z, Z, trivial⟩))) ?_
           clear hS a; intro a hS
           refine ⟨k150, Nat.lt_succ_self _, ?_⟩
           exact ⟨v157.1, v157.2, wi (m2_2 + 1), g153, A154, cap155, H, hS.re ⟨Z, Z, Z, Z, Z, Z, trivial⟩, h139, h8, h156, hp1, hF⟩
         ·replace H := y3g hb152 H
          refine wp_exit ?_
          have e := Option.some.inj H
          subst e
          exact ⟨g146, A147, cap148, hS.re ⟨Z, Z, Z, trivial⟩, h8, h149, hp1, hF⟩
      ·clear H
       clear hp1 h8 h100 hF
       clear hS
       rintro a w106 ⟨g106, A107, cap108, hS, h8, h109, hp1, hF⟩
       have H := Hl112
       clear Hl112
       refine ⟨k101, Nat.lt_succ_self _, ?_⟩
       exact ⟨v110.1, v110.2, g106, A107, cap108, H, hS.re ⟨Z, Z, Z, trivial⟩, h8, h109, hp1, hF⟩
     ·replace H := y3g hb105 H
      refine wp_exit ?_
      have e := Option.some.inj H
      subst e
      exact ⟨g97, hS.re ⟨Z, trivial⟩, h8, hF⟩
  ·clear H
   clear hp1 h8 h17 hF
   clear hS
   rintro a w93 ⟨g93, hS, h8, hF⟩
   have H := Hl96
   clear Hl96
   refine y16 [(8, .slice A6 v94.length cap7), (15, .slice none 0 0)] (fun R hR => y00 hS Z Z Z (y02 hS Z Z) fun a196 S196 => wpList_nil (hR _ (S196.re ⟨Z, Z, trivial⟩))) ?_
   clear hS a; intro a hS
   obtain ⟨v201, H, Hl203⟩ := y0b H
   refine y4u (fun a w197 => ∃ (g197 : Nat → Nat), ∃ (A198 : Option Addr), ∃ (cap199 : Nat), Sl 96 a [(15, .slice A198 v201.length cap199)] ∧ OwS (kint .i64) 3 w197 g197 (N + 10) A198 cap199 v201 ∧ Fr (fun q => (r0 ≤ q ∧ q < r0 + 2) ∨ N ≤ q) w g w197 g197) ?_ ?_
   ·refine y16 [(15, .slice none 0 0), (82, .slice A6 v94.length cap7), (83, i6 (v94.length : Int)), (84, i6 0)] (fun R hR => y00 hS Z Z Z (y03 hS Z Z) fun a204 S204 => y00 S204 Z Z Z (y4x (e := 4) (sz := 1) (by_ := 1) S204 Z Z (by kernel_rfl)) fun a205 S205 => y00 S205 Z Z Z (y03 S205 Z Z) fun a206 S206 => wpList_nil (hR _ (S206.re ⟨Z, Z, Z, Z, trivial⟩))) ?_
    clear hS a; intro a hS
    refine wp_block ?_
    refine wp_loop_ghost (fun kq => fun a w207 => ∃ (m3_0 : List Int), ∃ (m3_1 : Int), ∃ (g207 : Nat → Nat), ∃ (A208 : Option Addr), ∃ (cap209 : Nat), y19.l3 v94 kq m3_0 m3_1 = some v201 ∧ Sl 96 a [(15, .slice A208 m3_0.length cap209), (82, .slice A6 v94.length cap7), (83, i6 (v94.length : Int)), (84, i6 m3_1)] ∧ OwS y4p 4 w207 g207 (N + 0) A6 cap7 v94 ∧ OwS (kint .i64) 3 w207 g207 (N + 10) A208 cap209 m3_0 ∧ Fr (fun q => (r0 ≤ q ∧ q < r0 + 2) ∨ N ≤ q) w g w207 g207) FUEL ?_ ?_
    ·exact ⟨[], 0, g93, none, 0, H, hS.re ⟨Z, Z, Z, Z, trivial⟩, h8, OwS.nil (kint .i64) 3 w93 g93 (N + 10), hF⟩
    ·clear H
     clear h8 hF
     clear hS
     rintro k211 a w207 ⟨m3_0, m3_1, g207, A208, cap209, hpre0, hS, h8, h210, hF⟩
     have H := hpre0
     clear hpre0
     cases k211 with
     | zero => exact absurd H (by simp [y19.l3])
     | succ k211 =>
      rw [y19.l3] at H
      refine y16 [(15, .slice A208 m3_0.length cap209), (82, .slice A6 v94.length cap7), (83, i6 (v94.length : Int)), (84, i6 m3_1), (85, .bool (decide (m3_1 < (v94.length : Int))))] (fun R hR => y00 hS Z Z Z (y2l hS Z Z rfl y4t) fun a212 S212 => wpList_nil (hR _ (S212.re ⟨Z, Z, Z, Z, Z, trivial⟩))) ?_
      clear hS a; intro a hS
      refine c_if hS Z (fun hb213 => ?_) (fun hb213 => ?_)
      ·replace H := y3f hb213 H
       refine wp_skip ?_
       change Code.wp _ _ _ _ _
       obtain ⟨v218, H, Hl220⟩ := y0b H
       refine y4u (fun a w214 => ∃ (g214 : Nat → Nat), ∃ (A215 : Option Addr), ∃ (cap216 : Nat), Sl 96 a [(15, .slice A215 v218.length cap216), (82, .slice A6 v94.length cap7), (83, i6 (v94.length : Int)), (84, i6 m3_1)] ∧ OwS y4p 4 w214 g214 (N + 0) A6 cap7 v94 ∧ OwS (kint .i64) 3 w214 g214 (N + 10) A215 cap216 v218 ∧ Fr (fun q => (r0 ≤ q ∧ q < r0 + 2) ∨ N ≤ q) w g w214 g214) ?_ ?_
       ·refine wp_block ?_
        obtain ⟨x222, hx223, H⟩ := y0b H
        refine y16 [(15, .slice A208 m3_0.length cap209), (16, i6 m3_1), (17, .bool x222), (82, .slice A6 v94.length cap7), (83, i6 (v94.length : Int)), (84, i6 m3_1)] (fun R hR => y00 hS Z Z Z (y03 hS Z Z) fun a221 S221 => y00 S221 Z Z Z (y1j (e := 4) (sz := 1) (by_ := 1) S221 Z Z Z (by kernel_rfl) (RdS.some_ (OwS.rd h8) hx223) (y26 hx223) (y27 hx223)) fun a224 S224 => y00 S224 Z Z Z (y0u (n := 1) S224 Z Z (by kernel_rfl) (RdS.cell (i := m3_1) (sz := 1) (j := 0) (OwS.rd h8) hx223 Z)) fun a225 S225 => y00 S225 Z Z Z (y02 S225 Z Z) fun a226 S226 => y00 S226 Z Z Z (y02 S226 Z Z) fun a227 S227 => wpList_nil (hR _ (S227.re ⟨Z, Z, Z, Z, Z, Z, trivial⟩))) ?_
        clear hS a; intro a hS
        refine y16 [(15, .slice A208 m3_0.length cap209), (16, i6 m3_1), (82, .slice A6 v94.length cap7), (83, i6 (v94.length : Int)), (84, i6 m3_1), (89, .bool x222)] (fun R hR => y00 hS Z Z Z (y03 hS Z Z) fun a228 S228 => wpList_nil (hR _ (S228.re ⟨Z, Z, Z, Z, Z, Z, trivial⟩))) ?_
        clear hS a; intro a hS
        refine y2m hS Z (fun hb229 => ?_) (fun hb229 => ?_)
        ·replace H := y3f hb229 H
         obtain ⟨y237, hy238, H⟩ := y0b H
         refine y3l (fun K hK => ?_)
         refine y00 hS Z Z Z (y03 hS Z Z) fun a230 S230 => y00 S230 Z Z Z (y03 S230 Z Z) fun a231 S231 => ?_
         refine y41 S231 Z Z Z (e_lit (e := 3) (parts := [(0, i6 m3_1)]) (cs := [i6 m3_1]) (kint .i64) [m3_1] (N + 8) g207 S231 Z Z (fun _ => by kernel_rfl) Z (by decide) (Rows.cons (cs := [i6 m3_1]) rfl Rows.nil)) ?_
         rintro _ a235 w236 g236 ⟨⟨A232, rfl, h233⟩, F236⟩ S235
         replace h8 := OwS.fr h8 F236 (fun _ _ h => h)
         replace h210 := OwS.fr h210 F236 (fun _ _ h => h)
         replace hF := hF.trans F236 (fun _ h => h.elim)
         refine y41 S235 Z Z Z (y4g (e := 3) (sz := 1) (by_ := 8) (z := [i6 0]) (kd := (kint .i64)) g236 S235 Z Z Z Z (by kernel_rfl) (by kernel_rfl) Z Z Z Z h210 (OwD.rdx h233) (fun _ _ _ h => h) hy238) ?_
         rintro _ a243 w244 g244 ⟨⟨A239, cap240, rfl, h241⟩, F244⟩ S243
         replace h233 := OwS.fr h233 F244 (fun c' hc (hm : c' = N + 10) => by omega)
         replace h8 := OwS.fr h8 F244 (fun c' hc (hm : c' = N + 10) => by omega)
         replace hF := hF.trans F244 (fun c' (hm : c' = N + 10) => by (try dsimp only); omega)
         refine y00 S243 Z Z Z (y02 S243 Z Z) fun a245 S245 => wpList_nil (hK _ _ ?_)
         replace hS : Sl 96 _ [(15, .slice A239 y237.length cap240), (82, .slice A6 v94.length cap7), (83, i6 (v94.length : Int)), (84, i6 m3_1)] := S245.re ⟨Z, Z, Z, Z, trivial⟩
         clear hK K
         try clear S230 S231 S235 S243 S245
         generalize a245 = a at hS ⊢
         have e := Option.some.inj H
         subst e
         exact ⟨g244, A239, cap240, hS.re ⟨Z, Z, Z, Z, trivial⟩, h8, h241, hF⟩
        ·replace H := y3g hb229 H
         refine wp_skip ?_
         have e := Option.some.inj H
         subst e
         exact ⟨g207, A208, cap209, hS.re ⟨Z, Z, Z, Z, trivial⟩, h8, h210, hF⟩
       ·clear H
        clear h8 h210 hF
        clear hS
        rintro a w214 ⟨g214, A215, cap216, hS, h8, h217, hF⟩
        have H := Hl220
        clear Hl220
        refine y3e [(15, .slice A215 v218.length cap216), (82, .slice A6 v94.length cap7), (83, i6 (v94.length : Int)), (84, i6 (wi (m3_1 + 1)))] (fun R hR => y00 hS Z Z Z (y2l hS Z Z rfl y4z) fun a246 S246 => y00 S246 Z Z Z (y03 S246 Z Z) fun a247 S247 => wpList_nil (hR _ (S247.re ⟨Z, Z, Z, Z, trivial⟩))) ?_
        clear hS a; intro a hS
        refine ⟨k211, Nat.lt_succ_self _, ?_⟩
        exact ⟨v218, wi (m3_1 + 1), g214, A215, cap216, H, hS.re ⟨Z, Z, Z, Z, trivial⟩, h8, h217, hF⟩
      ·replace H := y3g hb213 H
       refine wp_exit ?_
       have e := Option.some.inj H
       subst e
       exact ⟨g207, A208, cap209, hS.re ⟨Z, trivial⟩, h210, hF⟩
   ·clear H
    clear h8 hF
    clear hS
    rintro a w197 ⟨g197, A198, cap199, hS, h200, hF⟩
    have H := Hl203
    clear Hl203
    refine y16 [(6, .slice A198 v201.length cap199), (7, i6 0)] (fun R hR => y00 hS Z Z Z (y03 hS Z Z) fun a248 S248 => y00 S248 Z Z Z (y02 S248 Z Z) fun a249 S249 => y00 S249 Z Z Z (y02 S249 Z Z) fun a250 S250 => wpList_nil (hR _ (S250.re ⟨Z, Z, trivial⟩))) ?_
    clear hS a; intro a hS
    refine wp_ret ?_
    have e := Option.some.inj H
    subst e
    have F251 := Fr.y2f w197 g197 (N + 10) r0
    replace h200 := h200.y2f r0
    replace hF := hF.trans F251 (fun c' (hm : c' = N + 10 ∨ c' = N + 10 + 1) => by (try dsimp only); omega)
    repeat (with_reducible first | refine y1i ?_ | refine y0o ?_)
    exact y4d hS Try.results59 Z rfl ⟨_, rfl, (y2f g197 (N + 10) r0), A198, cap199, rfl, h200, hF⟩


end Go.Proofs.Ytcfcffbjdjacfaa.Sim

namespace Go.Proofs.Ytcfcffbjdjacfaa.Sim
open Go
set_option linter.unusedVariables false
set_option linter.unusedSimpArgs false

/-! ### y2k: function 58 -/
def y2k.l0 (p0 : List y0g) : Nat → (List y0g) → Int → Option ((List y0g))
 | 0, _, _ => none
 | k17 + 1, m0_0, m0_1 => if decide (m0_1 < (p0.length : Int)) = true then ((idx p0 m0_1).bind fun x20 => (app m0_0 [(y0g.mk x20.Supplier x20.Consumer)]).bind fun y42 => y2k.l0 p0 k17 y42 (wi (m0_1 + 1))) else (some m0_0)
def y2k.f (p0 : List y0g) : Option ((List y0g)) := (y2k.l0 p0 FUEL [] 0 : Option ((List y0g))).bind fun v7 => some v7
set_option maxRecDepth 100000 in
set_option maxHeartbeats 4000000 in
theorem y2k.calls {p0 : List y0g} {A0 : Option Addr} {cap0 : Nat} {C0 : Nat → Prop} {w : World} {g : Nat → Nat} {out : (List y0g)} (N : Nat) (r0 : Nat) (hp0 : RdS y0r w g C0 A0 cap0 p0) (hC0 : ∀ c, C0 c → c < N) (hr0 : r0 + 2 ≤ N) (H : y2k.f p0 = some out) :
  Calls Try.prog 58 #[.slice A0 p0.length cap0] w (fun e w' => ∃ v, e = .returned v ∧ ∃ (g' : Nat → Nat) (A_r0 : Option Addr) (cap_r0 : Nat), v = .slice A_r0 out.length cap_r0 ∧ OwS y0r 67 w' g' r0 A_r0 cap_r0 out ∧ Fr (fun q => (r0 ≤ q ∧ q < r0 + 2) ∨ N ≤ q) w g w' g') := by
 unfold y2k.f at H
 refine y1k Try.func58 rfl Try.ntmps58 Z (fun a hS => ?_)
 replace hS : Sl 22 a [(0, .slice A0 p0.length cap0)] := hS
 have hF : Fr (fun q => (r0 ≤ q ∧ q < r0 + 2) ∨ N ≤ q) w g w g := Fr.refl _ _ _
 refine y16 [(0, .slice A0 p0.length cap0)] (fun R hR => y00 hS Z Z Z (y02 hS Z Z) fun a1 S1 => wpList_nil (hR _ (S1.re ⟨Z, trivial⟩))) ?_
 clear hS a; intro a hS
 refine y16 [(0, .slice A0 p0.length cap0), (3, .slice none 0 0)] (fun R hR => y00 hS Z Z Z (y02 hS Z Z) fun a2 S2 => wpList_nil (hR _ (S2.re ⟨Z, Z, trivial⟩))) ?_
 clear hS a; intro a hS
 obtain ⟨v7, H, Hl9⟩ := y0b H
 refine y4u (fun a w3 => ∃ (g3 : Nat → Nat), ∃ (A4 : Option Addr), ∃ (cap5 : Nat), Sl 22 a [(3, .slice A4 v7.length cap5)] ∧ OwS y0r 67 w3 g3 (N + 4) A4 cap5 v7 ∧ Fr (fun q => (r0 ≤ q ∧ q < r0 + 2) ∨ N ≤ q) w g w3 g3) ?_ ?_
 ·refine y16 [(3, .slice none 0 0), (6, .slice A0 p0.length cap0), (7, i6 (p0.length : Int)), (8, i6 0)] (fun R hR => y00 hS Z Z Z (y03 hS Z Z) fun a10 S10 => y00 S10 Z Z Z (y4x (e := 67) (sz := 2) (by_ := 16) S10 Z Z (by kernel_rfl)) fun a11 S11 => y00 S11 Z Z Z (y03 S11 Z Z) fun a12 S12 => wpList_nil (hR _ (S12.re ⟨Z, Z, Z, Z, trivial⟩))) ?_
  clear hS a; intro a hS
  refine wp_block ?_
  refine wp_loop_ghost (fun kq => fun a w13 => ∃ (m0_0 : List y0g), ∃ (m0_1 : Int), ∃ (g13 : Nat → Nat), ∃ (A14 : Option Addr), ∃ (cap15 : Nat), y2k.l0 p0 kq m0_0 m0_1 = some v7 ∧ Sl 22 a [(3, .slice A14 m0_0.length cap15), (6, .slice A0 p0.length cap0), (7, i6 (p0.length : Int)), (8, i6 m0_1)] ∧ OwS y0r 67 w13 g13 (N + 4) A14 cap15 m0_0 ∧ RdS y0r w13 g13 C0 A0 cap0 p0 ∧ Fr (fun q => (r0 ≤ q ∧ q < r0 + 2) ∨ N ≤ q) w g w13 g13) FUEL ?_ ?_
  ·exact ⟨[], 0, g, none, 0, H, hS.re ⟨Z, Z, Z, Z, trivial⟩, OwS.nil y0r 67 w g (N + 4), hp0, hF⟩
  ·clear H
   clear hp0 hF
   clear hS
   rintro k17 a w13 ⟨m0_0, m0_1, g13, A14, cap15, hpre0, hS, h16, hp0, hF⟩
   have H := hpre0
   clear hpre0
   cases k17 with
   | zero => exact absurd H (by simp [y2k.l0])
   | succ k17 =>
    rw [y2k.l0] at H
    refine y16 [(3, .slice A14 m0_0.length cap15), (6, .slice A0 p0.length cap0), (7, i6 (p0.length : Int)), (8, i6 m0_1), (9, .bool (decide (m0_1 < (p0.length : Int))))] (fun R hR => y00 hS Z Z Z (y2l hS Z Z rfl y4t) fun a18 S18 => wpList_nil (hR _ (S18.re ⟨Z, Z, Z, Z, Z, trivial⟩))) ?_
    clear hS a; intro a hS
    refine c_if hS Z (fun hb19 => ?_) (fun hb19 => ?_)
    ·replace H := y3f hb19 H
     refine wp_skip ?_
     change Code.wp _ _ _ _ _
     refine wp_seq ?_
     refine wp_block ?_
     obtain ⟨x20, hx21, H⟩ := y0b H
     refine y0t (fun K hK => ?_)
     refine y00 hS Z Z Z (y1j (e := 67) (sz := 2) (by_ := 16) hS Z Z Z (by kernel_rfl) (RdS.some_ hp0 hx21) (y26 hx21) (y27 hx21)) fun a22 S22 => y00 S22 Z Z Z (r_loadN (n := 2) (cs := [i6 x20.Consumer, i6 x20.Supplier]) S22 Z Z (by kernel_rfl) Z (RdS.cells_off hp0 hx21 0 2)) fun a23 S23 => ?_
     refine y41 S23 Z Z Z (e_alloc (cs := [i6 0, i6 0]) (N + 0) g13 S23 Z (by kernel_rfl)) ?_
     rintro _ a27 w28 g28 ⟨⟨b24, rfl, h25⟩, F28⟩ S27
     replace h16 := OwS.fr h16 F28 (fun _ _ h => h)
     replace hp0 := RdS.fr hp0 F28 (by decide) (fun _ _ h => h)
     replace hF := hF.trans F28 (fun _ h => h.elim)
     refine y3s S27 Z Z (y4a (n := 2) (bb := true) (cs' := [i6 x20.Consumer, i6 x20.Supplier]) g28 S27 Z Z Z (by kernel_rfl) Z Z Z h25 Z Z) ?_
     rintro a29 w30 g30 ⟨h25, F30⟩ S29
     replace h16 := OwS.fr h16 F30 (fun c' hc (hm : c' = N + 0) => by omega)
     replace hp0 := RdS.fr hp0 F30 (by decide) (fun q (hq : C0 q) (hm : q = N + 0) => by have := hC0 q hq; omega)
     replace hF := hF.trans F30 (fun c' (hm : c' = N + 0) => by (try dsimp only); omega)
     refine wpList_nil (hK _ _ ?_)
     replace hS : Sl 22 _ [(3, .slice A14 m0_0.length cap15), (5, .pointer (so b24)), (6, .slice A0 p0.length cap0), (7, i6 (p0.length : Int)), (8, i6 m0_1)] := S29.re ⟨Z, Z, Z, Z, Z, trivial⟩
     clear hK K
     try clear S22 S23 S27 S29
     generalize a29 = a at hS ⊢
     obtain ⟨y42, hy43, H⟩ := y0b H
     refine y3l (fun K hK => ?_)
     refine y00 hS Z Z Z (y03 hS Z Z) fun a31 S31 => y00 S31 Z Z Z (y1e (off := 1) S31 Z Z (by kernel_rfl)) fun a32 S32 => y00 S32 Z Z Z (y0u (n := 1) S32 Z Z (by kernel_rfl) (Bx.cell h25 Z)) fun a33 S33 => y00 S33 Z Z Z (y1e (off := 0) S33 Z Z (by kernel_rfl)) fun a34 S34 => y00 S34 Z Z Z (y0u (n := 1) S34 Z Z (by kernel_rfl) (Bx.cell h25 Z)) fun a35 S35 => y00 S35 Z Z Z (r_build (parts := [(0, i6 x20.Supplier), (1, i6 x20.Consumer)]) (u := .agg #[i6 x20.Supplier, i6 x20.Consumer]) S35 Z Z (fun _ => by kernel_rfl)) fun a36 S36 => ?_
     refine y41 S36 Z Z Z (e_lit (e := 67) (parts := [(0, .agg #[i6 x20.Supplier, i6 x20.Consumer])]) (cs := [i6 x20.Supplier, i6 x20.Consumer]) y0r [(y0g.mk x20.Supplier x20.Consumer)] (N + 2) g30 S36 Z Z (fun _ => by kernel_rfl) Z (by decide) (Rows.cons (cs := [i6 x20.Supplier, i6 x20.Consumer]) rfl Rows.nil)) ?_
     rintro _ a40 w41 g41 ⟨⟨A37, rfl, h38⟩, F41⟩ S40
     replace h25 := h25.fr F41 (fun h => h)
     replace h16 := OwS.fr h16 F41 (fun _ _ h => h)
     replace hp0 := RdS.fr hp0 F41 (by decide) (fun _ _ h => h)
     replace hF := hF.trans F41 (fun _ h => h.elim)
     refine y41 S40 Z Z Z (y4g (e := 67) (sz := 2) (by_ := 16) (z := [i6 0, i6 0]) (kd := y0r) g41 S40 Z Z Z Z (by kernel_rfl) (by kernel_rfl) Z Z Z Z h16 (OwD.rdx h38) (fun _ _ _ h => h) hy43) ?_
     rintro _ a48 w49 g49 ⟨⟨A44, cap45, rfl, h46⟩, F49⟩ S48
     replace h25 := h25.fr F49 (fun (hm : N + 0 = N + 4) => by omega)
     replace h38 := OwS.fr h38 F49 (fun c' hc (hm : c' = N + 4) => by omega)
     replace hp0 := RdS.fr hp0 F49 (by decide) (fun q (hq : C0 q) (hm : q = N + 4) => by have := hC0 q hq; omega)
     replace hF := hF.trans F49 (fun c' (hm : c' = N + 4) => by (try dsimp only); omega)
     refine y00 S48 Z Z Z (y02 S48 Z Z) fun a50 S50 => wpList_nil (hK _ _ ?_)
     replace hS : Sl 22 _ [(3, .slice A44 y42.length cap45), (6, .slice A0 p0.length cap0), (7, i6 (p0.length : Int)), (8, i6 m0_1)] := S50.re ⟨Z, Z, Z, Z, trivial⟩
     clear hK K
     try clear S31 S32 S33 S34 S35 S36 S40 S48 S50
     generalize a50 = a at hS ⊢
     change Code.wp _ _ _ _ _
     refine y3e [(3, .slice A44 y42.length cap45), (6, .slice A0 p0.length cap0), (7, i6 (p0.length : Int)), (8, i6 (wi (m0_1 + 1)))] (fun R hR => y00 hS Z Z Z (y2l hS Z Z rfl y4z) fun a51 S51 => y00 S51 Z Z Z (y03 S51 Z Z) fun a52 S52 => wpList_nil (hR _ (S52.re ⟨Z, Z, Z, Z, trivial⟩))) ?_
     clear hS a; intro a hS
     refine ⟨k17, Nat.lt_succ_self _, ?_⟩
     exact ⟨y42, wi (m0_1 + 1), g49, A44, cap45, H, hS.re ⟨Z, Z, Z, Z, trivial⟩, h46, hp0, hF⟩
    ·replace H := y3g hb19 H
     refine wp_exit ?_
     have e := Option.some.inj H
     subst e
     exact ⟨g13, A14, cap15, hS.re ⟨Z, trivial⟩, h16, hF⟩
 ·clear H
  clear hp0 hF
  clear hS
  rintro a w3 ⟨g3, A4, cap5, hS, h6, hF⟩
  have H := Hl9
  clear Hl9
  refine y16 [(2, .slice A4 v7.length cap5)] (fun R hR => y00 hS Z Z Z (y03 hS Z Z) fun a53 S53 => y00 S53 Z Z Z (y02 S53 Z Z) fun a54 S54 => wpList_nil (hR _ (S54.re ⟨Z, trivial⟩))) ?_
  clear hS a; intro a hS
  refine wp_ret ?_
  have e := Option.some.inj H
  subst e
  have F55 := Fr.y2f w3 g3 (N + 4) r0
  replace h6 := h6.y2f r0
  replace hF := hF.trans F55 (fun c' (hm : c' = N + 4 ∨ c' = N + 4 + 1) => by (try dsimp only); omega)
  repeat (with_reducible first | refine y1i ?_ | refine y0o ?_)
  exact y3v hS Try.results58 rfl ⟨_, rfl, (y2f g3 (N + 4) r0), A4, cap5, rfl, h6, hF⟩


end Go.Proofs.Ytcfcffbjdjacfaa.Sim

namespace Go.Proofs.Ytcfcffbjdjacfaa.Sim
open Go
set_option linter.unusedVariables false
set_option linter.unusedSimpArgs false

/-! ### y1r: function 56 -/
def y1r.l0 (p0 : Int) (p1 : List y0g) : Nat → Int → Option (Fl (Int) (Unit))
 | 0, _ => none
 | k39 + 1, m0_0 => if decide (m0_0 < (p1.length : Int)) = true then ((idx p1 m0_0).bind fun x42 => if ((((decide (x42.Consumer < 0)) || (decide (p0 ≤ x42.Consumer))) || (decide (x42.Supplier < 0))) || (decide (p0 ≤ x42.Supplier))) = true then (some (.out 1)) else (y1r.l0 p0 p1 k39 (wi (m0_0 + 1)))) else (some (.nxt ()))
def y1r.l1 (p1 : List y0g) : Nat → (List y0g) → Int → Option (Fl (Int) (Unit))
 | 0, _, _ => none
 | k122 + 1, m1_0, m1_1 => if decide (m1_1 < (p1.length : Int)) = true then ((idx p1 m1_1).bind fun x125 => if decide (x125 ∈ m1_0) = true then (some (.out 7)) else (y1r.l1 p1 k122 (m1_0 ++ [x125]) (wi (m1_1 + 1)))) else (some (.nxt ()))
def y1r.f (p0 : Int) (p1 : List y0g) : Option (Int) := if (((decide (p0 < 0)) || (decide (128 < p0))) || (decide (1024 < (p1.length : Int)))) = true then (some 1) else ((y1r.l0 p0 p1 FUEL 0 : Option (Fl (Int) (Unit))).bind fun o33 => o33.go fun _ => (y1r.l1 p1 FUEL ([] : List y0g) 0 : Option (Fl (Int) (Unit))).bind fun o116 => o116.go fun _ => some 0)
set_option maxRecDepth 100000 in
set_option maxHeartbeats 4000000 in
theorem y1r.calls {p0 : Int} {p1 : List y0g} {A1 : Option Addr} {cap1 : Nat} {C1 : Nat → Prop} {w : World} {g : Nat → Nat} {out : Int} (N : Nat) (hp1 : RdS y0r w g C1 A1 cap1 p1) (hC1 : ∀ c, C1 c → c < N) (H : y1r.f p0 p1 = some out) :
  Calls Try.prog 56 #[i6 p0, .slice A1 p1.length cap1] w (fun e w' => ∃ v, e = .returned v ∧ ∃ (g' : Nat → Nat), v = i6 out ∧ Fr (fun q => N ≤ q) w g w' g') := by
 unfold y1r.f at H
 refine y1k Try.func56 rfl Try.ntmps56 Z (fun a hS => ?_)
 replace hS : Sl 61 a [(0, i6 p0), (1, .slice A1 p1.length cap1)] := hS
 have hF : Fr (fun q => N ≤ q) w g w g := Fr.refl _ _ _
 refine y16 [(0, i6 p0), (1, .slice A1 p1.length cap1)] (fun R hR => y00 hS Z Z Z (y02 hS Z Z) fun a1 S1 => wpList_nil (hR _ (S1.re ⟨Z, Z, trivial⟩))) ?_
 clear hS a; intro a hS
 refine wp_seq ?_
 refine y0t (fun K hK => ?_)
 refine y00 hS Z Z Z (y03 hS Z Z) fun a2 S2 => y00 S2 Z Z Z (y2l S2 Z Z rfl y4t) fun a3 S3 => y00 S3 Z Z Z (y03 S3 Z Z) fun a4 S4 => ?_
 refine y4b (N := 61) 3 [(0, i6 p0), (1, .slice A1 p1.length cap1), (15, .bool ((decide (p0 < 0)) || (decide (128 < p0))))] ?_ (fun hk => ?_)
 rotate_left
 ·rcases Bool.eq_false_or_eq_true (decide (p0 < 0)) with hb5 | hb5
  ·refine y1c S4 (y05 S4 Z Z rfl hb5) Z Z fun a8 S8 => y1c S8 (y05 S8 Z Z rfl hb5) Z Z fun a9 S9 => y00 S9 Z Z Z (y2s S9 Z Z rfl hb5) fun a10 S10 => hk _ (S10.re ⟨rfl, rfl, (by rw [hb5]; rfl), trivial⟩)
  ·refine y0p S4 (y0a S4 Z Z rfl hb5) Z Z (y03 S4 Z Z) fun a11 S11 => y0p S11 (y0a S11 Z Z rfl hb5) Z Z (y2l S11 Z Z rfl b_gtr) fun a12 S12 => y00 S12 Z Z Z (y2t S12 Z Z rfl hb5) fun a13 S13 => hk _ (S13.re ⟨rfl, rfl, (by rw [hb5]; rfl), trivial⟩)
 intro a14 S14
 refine y00 S14 Z Z Z (y03 S14 Z Z) fun a15 S15 => ?_
 refine y4b (N := 61) 4 [(0, i6 p0), (1, .slice A1 p1.length cap1), (20, .bool (((decide (p0 < 0)) || (decide (128 < p0))) || (decide (1024 < (p1.length : Int)))))] ?_ (fun hk => ?_)
 rotate_left
 ·rcases Bool.eq_false_or_eq_true (((decide (p0 < 0)) || (decide (128 < p0)))) with hb16 | hb16
  ·refine y1c S15 (y05 S15 Z Z rfl hb16) Z Z fun a20 S20 => y1c S20 (y05 S20 Z Z rfl hb16) Z Z fun a21 S21 => y1c S21 (y05 S21 Z Z rfl hb16) Z Z fun a22 S22 => y00 S22 Z Z Z (y2s S22 Z Z rfl hb16) fun a23 S23 => hk _ (S23.re ⟨rfl, rfl, (by rw [hb16]; rfl), trivial⟩)
  ·refine y0p S15 (y0a S15 Z Z rfl hb16) Z Z (y03 S15 Z Z) fun a24 S24 => y0p S24 (y0a S24 Z Z rfl hb16) Z Z (y4x (e := 67) (sz := 2) (by_ := 16) S24 Z Z (by kernel_rfl)) fun a25 S25 => y0p S25 (y0a S25 Z Z rfl hb16) Z Z (y2l S25 Z Z rfl b_gtr) fun a26 S26 => y00 S26 Z Z Z (y2t S26 Z Z rfl hb16) fun a27 S27 => hk _ (S27.re ⟨rfl, rfl, (by rw [hb16]; rfl), trivial⟩)
 intro a28 S28
 refine wpList_nil (hK _ _ ?_)
 replace hS : Sl 61 _ [(0, i6 p0), (1, .slice A1 p1.length cap1), (20, .bool (((decide (p0 < 0)) || (decide (128 < p0))) || (decide (1024 < (p1.length : Int)))))] := S28.re ⟨Z, Z, Z, trivial⟩
 clear hK K
 try clear S2 S3 S4 S14 S15 S28
 generalize a28 = a at hS ⊢
 refine y2m hS Z (fun hb29 => ?_) (fun hb29 => ?_)
 ·replace H := y3f hb29 H
  refine y16 [(4, i6 1)] (fun R hR => y00 hS Z Z Z (y02 hS Z Z) fun a30 S30 => wpList_nil (hR _ (S30.re ⟨Z, trivial⟩))) ?_
  clear hS a; intro a hS
  refine wp_ret ?_
  have e := Option.some.inj H
  subst e
  repeat (with_reducible first | refine y1i ?_ | refine y0o ?_)
  exact y3v hS Try.results56 rfl ⟨_, rfl, g, rfl, hF⟩
 ·replace H := y3g hb29 H
  refine wp_skip ?_
  change Code.wp _ _ _ _ _
  obtain ⟨o33, H, Hl34⟩ := y0b H
  refine y4u (fun a w31 => ∃ (g31 : Nat → Nat), o33 = .nxt () ∧ Sl 61 a [(1, .slice A1 p1.length cap1)] ∧ RdS y0r w31 g31 C1 A1 cap1 p1 ∧ Fr (fun q => N ≤ q) w g w31 g31) ?_ ?_
  ·refine y16 [(0, i6 p0), (1, .slice A1 p1.length cap1), (21, .slice A1 p1.length cap1), (22, i6 (p1.length : Int)), (23, i6 0)] (fun R hR => y00 hS Z Z Z (y03 hS Z Z) fun a35 S35 => y00 S35 Z Z Z (y4x (e := 67) (sz := 2) (by_ := 16) S35 Z Z (by kernel_rfl)) fun a36 S36 => y00 S36 Z Z Z (y03 S36 Z Z) fun a37 S37 => wpList_nil (hR _ (S37.re ⟨Z, Z, Z, Z, Z, trivial⟩))) ?_
   clear hS a; intro a hS
   refine wp_block ?_
   refine wp_loop_ghost (fun kq => fun a w38 => ∃ (m0_0 : Int), ∃ (g38 : Nat → Nat), y1r.l0 p0 p1 kq m0_0 = some o33 ∧ Sl 61 a [(0, i6 p0), (1, .slice A1 p1.length cap1), (21, .slice A1 p1.length cap1), (22, i6 (p1.length : Int)), (23, i6 m0_0)] ∧ RdS y0r w38 g38 C1 A1 cap1 p1 ∧ Fr (fun q => N ≤ q) w g w38 g38) FUEL ?_ ?_
   ·exact ⟨0, g, H, hS.re ⟨Z, Z, Z, Z, Z, trivial⟩, hp1, hF⟩
   ·clear H
    clear hp1 hF
    clear hS
    rintro k39 a w38 ⟨m0_0, g38, hpre0, hS, hp1, hF⟩
    have H := hpre0
    clear hpre0
    cases k39 with
    | zero => exact absurd H (by simp [y1r.l0])
    | succ k39 =>
     rw [y1r.l0] at H
     refine y16 [(0, i6 p0), (1, .slice A1 p1.length cap1), (21, .slice A1 p1.length cap1), (22, i6 (p1.length : Int)), (23, i6 m0_0), (24, .bool (decide (m0_0 < (p1.length : Int))))] (fun R hR => y00 hS Z Z Z (y2l hS Z Z rfl y4t) fun a40 S40 => wpList_nil (hR _ (S40.re ⟨Z, Z, Z, Z, Z, Z, trivial⟩))) ?_
     clear hS a; intro a hS
     refine c_if hS Z (fun hb41 => ?_) (fun hb41 => ?_)
     ·replace H := y3f hb41 H
      refine wp_skip ?_
      change Code.wp _ _ _ _ _
      refine wp_seq ?_
      refine wp_block ?_
      obtain ⟨x42, hx43, H⟩ := y0b H
      refine y0t (fun K hK => ?_)
      refine y00 hS Z Z Z (y1j (e := 67) (sz := 2) (by_ := 16) hS Z Z Z (by kernel_rfl) (RdS.some_ hp1 hx43) (y26 hx43) (y27 hx43)) fun a44 S44 => y00 S44 Z Z Z (r_loadN (n := 2) (cs := [i6 x42.Consumer, i6 x42.Supplier]) S44 Z Z (by kernel_rfl) Z (RdS.cells_off hp1 hx43 0 2)) fun a45 S45 => ?_
      refine y41 S45 Z Z Z (e_alloc (cs := [i6 0, i6 0]) (N + 0) g38 S45 Z (by kernel_rfl)) ?_
      rintro _ a49 w50 g50 ⟨⟨b46, rfl, h47⟩, F50⟩ S49
      replace hp1 := RdS.fr hp1 F50 (by decide) (fun _ _ h => h)
      replace hF := hF.trans F50 (fun _ h => h.elim)
      refine y3s S49 Z Z (y4a (n := 2) (bb := true) (cs' := [i6 x42.Consumer, i6 x42.Supplier]) g50 S49 Z Z Z (by kernel_rfl) Z Z Z h47 Z Z) ?_
      rintro a51 w52 g52 ⟨h47, F52⟩ S51
      replace hp1 := RdS.fr hp1 F52 (by decide) (fun q (hq : C1 q) (hm : q = N + 0) => by have := hC1 q hq; omega)
      replace hF := hF.trans F52 (fun c' (hm : c' = N + 0) => by (try dsimp only); omega)
      refine wpList_nil (hK _ _ ?_)
      replace hS : Sl 61 _ [(0, i6 p0), (1, .slice A1 p1.length cap1), (6, .pointer (so b46)), (21, .slice A1 p1.length cap1), (22, i6 (p1.length : Int)), (23, i6 m0_0)] := S51.re ⟨Z, Z, Z, Z, Z, Z, trivial⟩
      clear hK K
      try clear S44 S45 S49 S51
      generalize a51 = a at hS ⊢
      refine y0t (fun K hK => ?_)
      refine y00 hS Z Z Z (y1e (off := 0) hS Z Z (by kernel_rfl)) fun a53 S53 => y00 S53 Z Z Z (y0u (n := 1) S53 Z Z (by kernel_rfl) (Bx.cell h47 Z)) fun a54 S54 => y00 S54 Z Z Z (y2l S54 Z Z rfl y4t) fun a55 S55 => y00 S55 Z Z Z (y03 S55 Z Z) fun a56 S56 => ?_
      refine y4b (N := 61) 5 [(0, i6 p0), (1, .slice A1 p1.length cap1), (6, .pointer (so b46)), (21, .slice A1 p1.length cap1), (22, i6 (p1.length : Int)), (23, i6 m0_0), (35, .bool ((decide (x42.Consumer < 0)) || (decide (p0 ≤ x42.Consumer))))] ?_ (fun hk => ?_)
      rotate_left
      ·rcases Bool.eq_false_or_eq_true (decide (x42.Consumer < 0)) with hb57 | hb57
       ·refine y1c S56 (y05 S56 Z Z rfl hb57) Z Z fun a62 S62 => y1c S62 (y05 S62 Z Z rfl hb57) Z Z fun a63 S63 => y1c S63 (y05 S63 Z Z rfl hb57) Z Z fun a64 S64 => y1c S64 (y05 S64 Z Z rfl hb57) Z Z fun a65 S65 => y00 S65 Z Z Z (y2s S65 Z Z rfl hb57) fun a66 S66 => hk _ (S66.re ⟨rfl, rfl, rfl, rfl, rfl, rfl, (by rw [hb57]; rfl), trivial⟩)
       ·refine y0p S56 (y0a S56 Z Z rfl hb57) Z Z (y1e (off := 0) S56 Z Z (by kernel_rfl)) fun a67 S67 => y0p S67 (y0a S67 Z Z rfl hb57) Z Z (y0u (n := 1) S67 Z Z (by kernel_rfl) (Bx.cell h47 Z)) fun a68 S68 => y0p S68 (y0a S68 Z Z rfl hb57) Z Z (y03 S68 Z Z) fun a69 S69 => y0p S69 (y0a S69 Z Z rfl hb57) Z Z (y2l S69 Z Z rfl b_geq) fun a70 S70 => y00 S70 Z Z Z (y2t S70 Z Z rfl hb57) fun a71 S71 => hk _ (S71.re ⟨rfl, rfl, rfl, rfl, rfl, rfl, (by rw [hb57]; rfl), trivial⟩)
      intro a72 S72
      refine y00 S72 Z Z Z (y03 S72 Z Z) fun a73 S73 => ?_
      refine y4b (N := 61) 4 [(0, i6 p0), (1, .slice A1 p1.length cap1), (6, .pointer (so b46)), (21, .slice A1 p1.length cap1), (22, i6 (p1.length : Int)), (23, i6 m0_0), (40, .bool (((decide (x42.Consumer < 0)) || (decide (p0 ≤ x42.Consumer))) || (decide (x42.Supplier < 0))))] ?_ (fun hk => ?_)
      rotate_left
      ·rcases Bool.eq_false_or_eq_true (((decide (x42.Consumer < 0)) || (decide (p0 ≤ x42.Consumer)))) with hb74 | hb74
       ·refine y1c S73 (y05 S73 Z Z rfl hb74) Z Z fun a78 S78 => y1c S78 (y05 S78 Z Z rfl hb74) Z Z fun a79 S79 => y1c S79 (y05 S79 Z Z rfl hb74) Z Z fun a80 S80 => y00 S80 Z Z Z (y2s S80 Z Z rfl hb74) fun a81 S81 => hk _ (S81.re ⟨rfl, rfl, rfl, rfl, rfl, rfl, (by rw [hb74]; rfl), trivial⟩)
       ·refine y0p S73 (y0a S73 Z Z rfl hb74) Z Z (y1e (off := 1) S73 Z Z (by kernel_rfl)) fun a82 S82 => y0p S82 (y0a S82 Z Z rfl hb74) Z Z (y0u (n := 1) S82 Z Z (by kernel_rfl) (Bx.cell h47 Z)) fun a83 S83 => y0p S83 (y0a S83 Z Z rfl hb74) Z Z (y2l S83 Z Z rfl y4t) fun a84 S84 => y00 S84 Z Z Z (y2t S84 Z Z rfl hb74) fun a85 S85 => hk _ (S85.re ⟨rfl, rfl, rfl, rfl, rfl, rfl, (by rw [hb74]; rfl), trivial⟩)
      intro a86 S86
      refine y00 S86 Z Z Z (y03 S86 Z Z) fun a87 S87 => ?_
      refine y4b (N := 61) 5 [(0, i6 p0), (1, .slice A1 p1.length cap1), (21, .slice A1 p1.length cap1), (22, i6 (p1.length : Int)), (23, i6 m0_0), (46, .bool ((((decide (x42.Consumer < 0)) || (decide (p0 ≤ x42.Consumer))) || (decide (x42.Supplier < 0))) || (decide (p0 ≤ x42.Supplier))))] ?_ (fun hk => ?_)
      rotate_left
      ·rcases Bool.eq_false_or_eq_true ((((decide (x42.Consumer < 0)) || (decide (p0 ≤ x42.Consumer))) || (decide (x42.Supplier < 0)))) with hb88 | hb88
       ·refine y1c S87 (y05 S87 Z Z rfl hb88) Z Z fun a93 S93 => y1c S93 (y05 S93 Z Z rfl hb88) Z Z fun a94 S94 => y1c S94 (y05 S94 Z Z rfl hb88) Z Z fun a95 S95 => y1c S95 (y05 S95 Z Z rfl hb88) Z Z fun a96 S96 => y00 S96 Z Z Z (y2s S96 Z Z rfl hb88) fun a97 S97 => hk _ (S97.re ⟨rfl, rfl, rfl, rfl, rfl, (by rw [hb88]; rfl), trivial⟩)
       ·refine y0p S87 (y0a S87 Z Z rfl hb88) Z Z (y1e (off := 1) S87 Z Z (by kernel_rfl)) fun a98 S98 => y0p S98 (y0a S98 Z Z rfl hb88) Z Z (y0u (n := 1) S98 Z Z (by kernel_rfl) (Bx.cell h47 Z)) fun a99 S99 => y0p S99 (y0a S99 Z Z rfl hb88) Z Z (y03 S99 Z Z) fun a100 S100 => y0p S100 (y0a S100 Z Z rfl hb88) Z Z (y2l S100 Z Z rfl b_geq) fun a101 S101 => y00 S101 Z Z Z (y2t S101 Z Z rfl hb88) fun a102 S102 => hk _ (S102.re ⟨rfl, rfl, rfl, rfl, rfl, (by rw [hb88]; rfl), trivial⟩)
      intro a103 S103
      refine wpList_nil (hK _ _ ?_)
      replace hS : Sl 61 _ [(0, i6 p0), (1, .slice A1 p1.length cap1), (21, .slice A1 p1.length cap1), (22, i6 (p1.length : Int)), (23, i6 m0_0), (46, .bool ((((decide (x42.Consumer < 0)) || (decide (p0 ≤ x42.Consumer))) || (decide (x42.Supplier < 0))) || (decide (p0 ≤ x42.Supplier))))] := S103.re ⟨Z, Z, Z, Z, Z, Z, trivial⟩
      clear hK K
      try clear S53 S54 S55 S56 S72 S73 S86 S87 S103
      generalize a103 = a at hS ⊢
      refine y2m hS Z (fun hb104 => ?_) (fun hb104 => ?_)
      ·replace H := y3f hb104 H
       refine y16 [(4, i6 1)] (fun R hR => y00 hS Z Z Z (y02 hS Z Z) fun a105 S105 => wpList_nil (hR _ (S105.re ⟨Z, trivial⟩))) ?_
       clear hS a; intro a hS
       refine wp_ret ?_
       have e := Option.some.inj H
       subst e
       replace H := Fl.go_out Hl34
       have e := Option.some.inj H
       subst e
       repeat (with_reducible first | refine y1i ?_ | refine y0o ?_)
       exact y3v hS Try.results56 rfl ⟨_, rfl, g52, rfl, hF⟩
      ·replace H := y3g hb104 H
       refine wp_skip ?_
       change Code.wp _ _ _ _ _
       refine y3e [(0, i6 p0), (1, .slice A1 p1.length cap1), (21, .slice A1 p1.length cap1), (22, i6 (p1.length : Int)), (23, i6 (wi (m0_0 + 1)))] (fun R hR => y00 hS Z Z Z (y2l hS Z Z rfl y4z) fun a106 S106 => y00 S106 Z Z Z (y03 S106 Z Z) fun a107 S107 => wpList_nil (hR _ (S107.re ⟨Z, Z, Z, Z, Z, trivial⟩))) ?_
       clear hS a; intro a hS
       refine ⟨k39, Nat.lt_succ_self _, ?_⟩
       exact ⟨wi (m0_0 + 1), g52, H, hS.re ⟨Z, Z, Z, Z, Z, trivial⟩, hp1, hF⟩
     ·replace H := y3g hb41 H
      refine wp_exit ?_
      have e := Option.some.inj H
      exact ⟨g38, e.symm, hS.re ⟨Z, trivial⟩, hp1, hF⟩
  ·clear H
   clear hp1 hF
   clear hS
   rintro a w31 ⟨g31, hpre0, hS, hp1, hF⟩
   subst hpre0
   have H := Fl.go_nxt Hl34
   clear Hl34
   refine y0t (fun K hK => ?_)
   refine y41 hS Z Z Z (e_makeMap enc_api_Link (N + 2) g31 hS Z) ?_
   rintro _ a111 w112 g112 ⟨⟨b108, rfl, h109⟩, F112⟩ S111
   replace hp1 := RdS.fr hp1 F112 (by decide) (fun _ _ h => h)
   replace hF := hF.trans F112 (fun _ h => h.elim)
   refine y00 S111 Z Z Z (y02 S111 Z Z) fun a113 S113 => wpList_nil (hK _ _ ?_)
   replace hS : Sl 61 _ [(1, .slice A1 p1.length cap1), (7, .map (some b108))] := S113.re ⟨Z, Z, trivial⟩
   clear hK K
   try clear S111 S113
   generalize a113 = a at hS ⊢
   obtain ⟨o116, H, Hl117⟩ := y0b H
   refine y4u (fun a w114 => ∃ (g114 : Nat → Nat), o116 = .nxt () ∧ Sl 61 a [] ∧ Fr (fun q => N ≤ q) w g w114 g114) ?_ ?_
   ·refine y16 [(7, .map (some b108)), (49, .slice A1 p1.length cap1), (50, i6 (p1.length : Int)), (51, i6 0)] (fun R hR => y00 hS Z Z Z (y03 hS Z Z) fun a118 S118 => y00 S118 Z Z Z (y4x (e := 67) (sz := 2) (by_ := 16) S118 Z Z (by kernel_rfl)) fun a119 S119 => y00 S119 Z Z Z (y03 S119 Z Z) fun a120 S120 => wpList_nil (hR _ (S120.re ⟨Z, Z, Z, Z, trivial⟩))) ?_
    clear hS a; intro a hS
    refine wp_block ?_
    refine wp_loop_ghost (fun kq => fun a w121 => ∃ (m1_0 : List y0g), ∃ (m1_1 : Int), ∃ (g121 : Nat → Nat), y1r.l1 p1 kq m1_0 m1_1 = some o116 ∧ Sl 61 a [(7, .map (some b108)), (49, .slice A1 p1.length cap1), (50, i6 (p1.length : Int)), (51, i6 m1_1)] ∧ MapS enc_api_Link w121 g121 (N + 2) b108 m1_0 ∧ RdS y0r w121 g121 C1 A1 cap1 p1 ∧ Fr (fun q => N ≤ q) w g w121 g121) FUEL ?_ ?_
    ·exact ⟨([] : List y0g), 0, g112, H, hS.re ⟨Z, Z, Z, Z, trivial⟩, h109, hp1, hF⟩
    ·clear H
     clear hp1 h109 hF
     clear hS
     rintro k122 a w121 ⟨m1_0, m1_1, g121, hpre0, hS, h109, hp1, hF⟩
     have H := hpre0
     clear hpre0
     cases k122 with
     | zero => exact absurd H (by simp [y1r.l1])
     | succ k122 =>
      rw [y1r.l1] at H
      refine y16 [(7, .map (some b108)), (49, .slice A1 p1.length cap1), (50, i6 (p1.length : Int)), (51, i6 m1_1), (52, .bool (decide (m1_1 < (p1.length : Int))))] (fun R hR => y00 hS Z Z Z (y2l hS Z Z rfl y4t) fun a123 S123 => wpList_nil (hR _ (S123.re ⟨Z, Z, Z, Z, Z, trivial⟩))) ?_
      clear hS a; intro a hS
      refine c_if hS Z (fun hb124 => ?_) (fun hb124 => ?_)
      ·replace H := y3f hb124 H
       refine wp_skip ?_
       change Code.wp _ _ _ _ _
       refine wp_seq ?_
       refine wp_block ?_
       obtain ⟨x125, hx126, H⟩ := y0b H
       refine y0t (fun K hK => ?_)
       refine y00 hS Z Z Z (y1j (e := 67) (sz := 2) (by_ := 16) hS Z Z Z (by kernel_rfl) (RdS.some_ hp1 hx126) (y26 hx126) (y27 hx126)) fun a127 S127 => y00 S127 Z Z Z (r_loadN (n := 2) (cs := [i6 x125.Consumer, i6 x125.Supplier]) S127 Z Z (by kernel_rfl) Z (RdS.cells_off hp1 hx126 0 2)) fun a128 S128 => ?_
       refine y41 S128 Z Z Z (e_alloc (cs := [i6 0, i6 0]) (N + 4) g121 S128 Z (by kernel_rfl)) ?_
       rintro _ a132 w133 g133 ⟨⟨b129, rfl, h130⟩, F133⟩ S132
       replace h109 := MapS.fr h109 F133 (fun h => h)
       replace hp1 := RdS.fr hp1 F133 (by decide) (fun _ _ h => h)
       replace hF := hF.trans F133 (fun _ h => h.elim)
       refine y3s S132 Z Z (y4a (n := 2) (bb := true) (cs' := [i6 x125.Consumer, i6 x125.Supplier]) g133 S132 Z Z Z (by kernel_rfl) Z Z Z h130 Z Z) ?_
       rintro a134 w135 g135 ⟨h130, F135⟩ S134
       replace h109 := MapS.fr h109 F135 (fun (hm : N + 2 = N + 4) => by omega)
       replace hp1 := RdS.fr hp1 F135 (by decide) (fun q (hq : C1 q) (hm : q = N + 4) => by have := hC1 q hq; omega)
       replace hF := hF.trans F135 (fun c' (hm : c' = N + 4) => by (try dsimp only); omega)
       refine wpList_nil (hK _ _ ?_)
       replace hS : Sl 61 _ [(7, .map (some b108)), (9, .pointer (so b129)), (49, .slice A1 p1.length cap1), (50, i6 (p1.length : Int)), (51, i6 m1_1)] := S134.re ⟨Z, Z, Z, Z, Z, trivial⟩
       clear hK K
       try clear S127 S128 S132 S134
       generalize a134 = a at hS ⊢
       refine wp_seq ?_
       refine y16 [(7, .map (some b108)), (9, .pointer (so b129)), (49, .slice A1 p1.length cap1), (50, i6 (p1.length : Int)), (51, i6 m1_1), (57, .bool (decide (x125 ∈ m1_0)))] (fun R hR => y00 hS Z Z Z (y03 hS Z Z) fun a136 S136 => y00 S136 Z Z Z (r_loadN (n := 2) (cs := [i6 x125.Consumer, i6 x125.Supplier]) S136 Z Z (by kernel_rfl) Z (Bx.cells_off h130 0 2)) fun a137 S137 => y00 S137 Z Z Z (r_lookup (K := 67) (E := 4) (enc := enc_api_Link) (k := x125) S137 Z Z Z (by kernel_rfl) (by kernel_rfl) key_api_Link h109) fun a138 S138 => wpList_nil (hR _ (S138.re ⟨Z, Z, Z, Z, Z, Z, trivial⟩))) ?_
       clear hS a; intro a hS
       refine y2m hS Z (fun hb139 => ?_) (fun hb139 => ?_)
       ·replace H := y3f hb139 H
        refine y16 [(4, i6 7)] (fun R hR => y00 hS Z Z Z (y02 hS Z Z) fun a140 S140 => wpList_nil (hR _ (S140.re ⟨Z, trivial⟩))) ?_
        clear hS a; intro a hS
        refine wp_ret ?_
        have e := Option.some.inj H
        subst e
        replace H := Fl.go_out Hl117
        have e := Option.some.inj H
        subst e
        repeat (with_reducible first | refine y1i ?_ | refine y0o ?_)
        exact y3v hS Try.results56 rfl ⟨_, rfl, g135, rfl, hF⟩
       ·replace H := y3g hb139 H
        refine wp_skip ?_
        change Code.wp _ _ _ _ _
        refine y3l (fun K hK => ?_)
        refine y00 hS Z Z Z (y03 hS Z Z) fun a141 S141 => y00 S141 Z Z Z (r_loadN (n := 2) (cs := [i6 x125.Consumer, i6 x125.Supplier]) S141 Z Z (by kernel_rfl) Z (Bx.cells_off h130 0 2)) fun a142 S142 => ?_
        refine y3s S142 Z Z (e_mapUpdate (K := 67) (E := 4) (enc := enc_api_Link) (k := x125) g135 S142 Z Z Z Z (by kernel_rfl) key_api_Link h109 hb139) ?_
        rintro a143 w144 g144 ⟨h109, F144⟩ S143
        replace h130 := h130.fr F144 (fun (hm : N + 4 = N + 2) => by omega)
        replace hp1 := RdS.fr hp1 F144 (by decide) (fun q (hq : C1 q) (hm : q = N + 2) => by have := hC1 q hq; omega)
        replace hF := hF.trans F144 (fun c' (hm : c' = N + 2) => by (try dsimp only); omega)
        refine wpList_nil (hK _ _ ?_)
        replace hS : Sl 61 _ [(7, .map (some b108)), (49, .slice A1 p1.length cap1), (50, i6 (p1.length : Int)), (51, i6 m1_1)] := S143.re ⟨Z, Z, Z, Z, trivial⟩
        clear hK K
        try clear S141 S142 S143
        generalize a143 = a at hS ⊢
        change Code.wp _ _ _ _ _
        refine y3e [(7, .map (some b108)), (49, .slice A1 p1.length cap1), (50, i6 (p1.length : Int)), (51, i6 (wi (m1_1 + 1)))] (fun R hR => y00 hS Z Z Z (y2l hS Z Z rfl y4z) fun a145 S145 => y00 S145 Z Z Z (y03 S145 Z Z) fun a146 S146 => wpList_nil (hR _ (S146.re ⟨Z, Z, Z, Z, trivial⟩))) ?_
        clear hS a; intro a hS
        refine ⟨k122, Nat.lt_succ_self _, ?_⟩
        exact ⟨(m1_0 ++ [x125]), wi (m1_1 + 1), g144, H, hS.re ⟨Z, Z, Z, Z, trivial⟩, h109, hp1, hF⟩
      ·replace H := y3g hb124 H
       refine wp_exit ?_
       have e := Option.some.inj H
       exact ⟨g121, e.symm, hS.re trivial, hF⟩
   ·clear H
    clear hp1 h109 hF
    clear hS
    rintro a w114 ⟨g114, hpre0, hS, hF⟩
    subst hpre0
    have H := Fl.go_nxt Hl117
    clear Hl117
    refine y16 [(4, i6 0)] (fun R hR => y00 hS Z Z Z (y02 hS Z Z) fun a147 S147 => wpList_nil (hR _ (S147.re ⟨Z, trivial⟩))) ?_
    clear hS a; intro a hS
    refine wp_ret ?_
    have e := Option.some.inj H
    subst e
    repeat (with_reducible first | refine y1i ?_ | refine y0o ?_)
    exact y3v hS Try.results56 rfl ⟨_, rfl, g114, rfl, hF⟩


end Go.Proofs.Ytcfcffbjdjacfaa.Sim

namespace Go.Proofs.Ytcfcffbjdjacfaa.Sim
open Go
set_option linter.unusedVariables false
set_option linter.unusedSimpArgs false

/-! ### y3y: function 35 -/
def y3y.f (p0 : Int) (p1 : List y0g) (p2 : List Int) : Option ((List Int) × Int) := (y1r.f p0 p1).bind fun r5 => if (r5 != 0) = true then (some ([], r5)) else ((y2k.f p1).bind fun r18 => (y2e.f p0 r18).bind fun r26 => (y19.f p0 r26.1 p2).bind fun r46 => some (r46.1, r46.2))
set_option maxRecDepth 100000 in
set_option maxHeartbeats 4000000 in
theorem y3y.calls {p0 : Int} {p1 : List y0g} {A1 : Option Addr} {cap1 : Nat} {C1 : Nat → Prop} {p2 : List Int} {A2 : Option Addr} {cap2 : Nat} {C2 : Nat → Prop} {w : World} {g : Nat → Nat} {out : (List Int) × Int} (N : Nat) (r0 : Nat) (hp1 : RdS y0r w g C1 A1 cap1 p1) (hC1 : ∀ c, C1 c → c < N) (hp2 : RdS (kint .i64) w g C2 A2 cap2 p2) (hC2 : ∀ c, C2 c → c < N) (hr0 : r0 + 2 ≤ N) (H : y3y.f p0 p1 p2 = some out) :
  Calls Try.prog 35 #[i6 p0, .slice A1 p1.length cap1, .slice A2 p2.length cap2] w (fun e w' => ∃ v, e = .returned v ∧ ∃ (g' : Nat → Nat) (A_r0 : Option Addr) (cap_r0 : Nat), v = .tuple #[.slice A_r0 out.1.length cap_r0, i6 out.2] ∧ OwS (kint .i64) 3 w' g' r0 A_r0 cap_r0 out.1 ∧ Fr (fun q => (r0 ≤ q ∧ q < r0 + 2) ∨ N ≤ q) w g w' g') := by
 unfold y3y.f at H
 refine y1k Try.func35 rfl Try.ntmps35 Z (fun a hS => ?_)
 replace hS : Sl 30 a [(0, i6 p0), (1, .slice A1 p1.length cap1), (2, .slice A2 p2.length cap2)] := hS
 have hF : Fr (fun q => (r0 ≤ q ∧ q < r0 + 2) ∨ N ≤ q) w g w g := Fr.refl _ _ _
 refine y16 [(0, i6 p0), (1, .slice A1 p1.length cap1), (2, .slice A2 p2.length cap2)] (fun R hR => y00 hS Z Z Z (y02 hS Z Z) fun a1 S1 => y00 S1 Z Z Z (y02 S1 Z Z) fun a2 S2 => wpList_nil (hR _ (S2.re ⟨Z, Z, Z, trivial⟩))) ?_
 clear hS a; intro a hS
 refine wp_seq ?_
 obtain ⟨r5, hr6, H⟩ := y0b H
 refine y0t (fun K hK => ?_)
 refine y00 hS Z Z Z (y03 hS Z Z) fun a3 S3 => y00 S3 Z Z Z (y03 S3 Z Z) fun a4 S4 => ?_
 refine y1y S4 Z Z Z (y2z S4 Z Z (by kernel_rfl)) (y1r.calls (C1 := C1) (p0 := p0) (p1 := p1) (g := g) (N + 8)  hp1 (fun q (hq : C1 q) => by have := hC1 q hq; omega) hr6) ?_
 rintro _ a7 w8 ⟨g8, rfl, F8⟩ S7
 replace hp1 := RdS.fr hp1 F8 (by decide) (fun q (hq : C1 q) (hm : N + 8 ≤ q) => by have := hC1 q hq; omega)
 replace hp2 := RdS.fr hp2 F8 (by decide) (fun q (hq : C2 q) (hm : N + 8 ≤ q) => by have := hC2 q hq; omega)
 replace hF := hF.trans F8 (fun c' (hm : N + 8 ≤ c') => by (try dsimp only); omega)
 refine y00 S7 Z Z Z (y02 S7 Z Z) fun a9 S9 => wpList_nil (hK _ _ ?_)
 replace hS : Sl 30 _ [(0, i6 p0), (1, .slice A1 p1.length cap1), (2, .slice A2 p2.length cap2), (8, i6 r5)] := S9.re ⟨Z, Z, Z, Z, trivial⟩
 clear hK K
 try clear S3 S4 S7 S9
 generalize a9 = a at hS ⊢
 refine y16 [(0, i6 p0), (1, .slice A1 p1.length cap1), (2, .slice A2 p2.length cap2), (8, i6 r5), (15, .bool (r5 != 0))] (fun R hR => y00 hS Z Z Z (y03 hS Z Z) fun a10 S10 => y00 S10 Z Z Z (y2l S10 Z Z rfl b_neq) fun a11 S11 => wpList_nil (hR _ (S11.re ⟨Z, Z, Z, Z, Z, trivial⟩))) ?_
 clear hS a; intro a hS
 refine y2m hS Z (fun hb12 => ?_) (fun hb12 => ?_)
 ·replace H := y3f hb12 H
  refine y16 [(6, .slice none 0 0), (7, i6 r5)] (fun R hR => y00 hS Z Z Z (y03 hS Z Z) fun a13 S13 => y00 S13 Z Z Z (y02 S13 Z Z) fun a14 S14 => y00 S14 Z Z Z (y02 S14 Z Z) fun a15 S15 => wpList_nil (hR _ (S15.re ⟨Z, Z, trivial⟩))) ?_
  clear hS a; intro a hS
  refine wp_ret ?_
  have e := Option.some.inj H
  subst e
  repeat (with_reducible first | refine y1i ?_ | refine y0o ?_)
  exact y4d hS Try.results35 Z rfl ⟨_, rfl, g8, none, 0, rfl, OwS.nil (kint .i64) 3 w8 g8 r0, hF⟩
 ·replace H := y3g hb12 H
  refine wp_skip ?_
  change Code.wp _ _ _ _ _
  obtain ⟨r18, hr19, H⟩ := y0b H
  obtain ⟨r26, hr27, H⟩ := y0b H
  refine y0t (fun K hK => ?_)
  refine y00 hS Z Z Z (y03 hS Z Z) fun a16 S16 => y00 S16 Z Z Z (y03 S16 Z Z) fun a17 S17 => ?_
  refine y1y S17 Z Z Z (y2z S17 Z Z (by kernel_rfl)) (y2k.calls (C0 := C1) (p0 := p1) (g := g8) (N + 8) (N + 0) hp1 (fun q (hq : C1 q) => by have := hC1 q hq; omega) (by omega) hr19) ?_
  rintro _ a24 w25 ⟨g25, A20, cap21, rfl, h22, F25⟩ S24
  replace hp1 := RdS.fr hp1 F25 (by decide) (fun q (hq : C1 q) (hm : (N + 0 ≤ q ∧ q < N + 0 + 2) ∨ N + 8 ≤ q) => by have := hC1 q hq; omega)
  replace hp2 := RdS.fr hp2 F25 (by decide) (fun q (hq : C2 q) (hm : (N + 0 ≤ q ∧ q < N + 0 + 2) ∨ N + 8 ≤ q) => by have := hC2 q hq; omega)
  replace hF := hF.trans F25 (fun c' (hm : (N + 0 ≤ c' ∧ c' < N + 0 + 2) ∨ N + 8 ≤ c') => by (try dsimp only); omega)
  refine y1y S24 Z Z Z (y2z S24 Z Z (by kernel_rfl)) (y2e.calls (C1 := (fun q => q = N + 0)) (p0 := p0) (p1 := r18) (g := g25) (N + 8) (N + 2) (N + 4) (OwD.rdf (fun _ _ _ _ _ _ h => h) h22) (fun q (hq : q = N + 0) => by omega) (by omega) (by omega) (by omega) hr27) ?_
  rintro _ a36 w37 ⟨g37, A28, cap29, A32, cap33, rfl, h30, h34, F37⟩ S36
  replace h22 := OwS.fr h22 F37 (fun c' hc (hm : (N + 2 ≤ c' ∧ c' < N + 2 + 2) ∨ (N + 4 ≤ c' ∧ c' < N + 4 + 2) ∨ N + 8 ≤ c') => by omega)
  replace hp1 := RdS.fr hp1 F37 (by decide) (fun q (hq : C1 q) (hm : (N + 2 ≤ q ∧ q < N + 2 + 2) ∨ (N + 4 ≤ q ∧ q < N + 4 + 2) ∨ N + 8 ≤ q) => by have := hC1 q hq; omega)
  replace hp2 := RdS.fr hp2 F37 (by decide) (fun q (hq : C2 q) (hm : (N + 2 ≤ q ∧ q < N + 2 + 2) ∨ (N + 4 ≤ q ∧ q < N + 4 + 2) ∨ N + 8 ≤ q) => by have := hC2 q hq; omega)
  replace hF := hF.trans F37 (fun c' (hm : (N + 2 ≤ c' ∧ c' < N + 2 + 2) ∨ (N + 4 ≤ c' ∧ c' < N + 4 + 2) ∨ N + 8 ≤ c') => by (try dsimp only); omega)
  refine y00 S36 Z Z Z (y03 S36 Z Z) fun a38 S38 => y00 S38 Z Z Z (y1z S38 Z Z Z) fun a39 S39 => y00 S39 Z Z Z (y1z S39 Z Z Z) fun a40 S40 => y00 S40 Z Z Z (y02 S40 Z Z) fun a41 S41 => y00 S41 Z Z Z (y02 S41 Z Z) fun a42 S42 => wpList_nil (hK _ _ ?_)
  replace hS : Sl 30 _ [(0, i6 p0), (2, .slice A2 p2.length cap2), (9, .slice A28 r26.1.length cap29)] := S42.re ⟨Z, Z, Z, trivial⟩
  clear hK K
  try clear S16 S17 S24 S36 S38 S39 S40 S41 S42
  generalize a42 = a at hS ⊢
  obtain ⟨r46, hr47, H⟩ := y0b H
  refine y0t (fun K hK => ?_)
  refine y00 hS Z Z Z (y03 hS Z Z) fun a43 S43 => y00 S43 Z Z Z (y03 S43 Z Z) fun a44 S44 => y00 S44 Z Z Z (y03 S44 Z Z) fun a45 S45 => ?_
  refine y1y S45 Z Z Z (y2z S45 Z Z (by kernel_rfl)) (y19.calls (C1 := (fun q => q = N + 2 ∨ q = N + 2 + 1)) (C2 := C2) (p0 := p0) (p1 := r26.1) (p2 := p2) (g := g37) (N + 8) (N + 6) (OwS.rd h30) (fun q (hq : q = N + 2 ∨ q = N + 2 + 1) => by rcases hq with hq | hq; all_goals first | (omega; done) | (omega; done)) hp2 (fun q (hq : C2 q) => by have := hC2 q hq; omega) (by omega) hr47) ?_
  rintro _ a52 w53 ⟨g53, A48, cap49, rfl, h50, F53⟩ S52
  replace h30 := OwS.fr h30 F53 (fun c' hc (hm : (N + 6 ≤ c' ∧ c' < N + 6 + 2) ∨ N + 8 ≤ c') => by omega)
  replace hp2 := RdS.fr hp2 F53 (by decide) (fun q (hq : C2 q) (hm : (N + 6 ≤ q ∧ q < N + 6 + 2) ∨ N + 8 ≤ q) => by have := hC2 q hq; omega)
  replace hF := hF.trans F53 (fun c' (hm : (N + 6 ≤ c' ∧ c' < N + 6 + 2) ∨ N + 8 ≤ c') => by (try dsimp only); omega)
  refine y00 S52 Z Z Z (y1z S52 Z Z Z) fun a54 S54 => y00 S54 Z Z Z (y1z S54 Z Z Z) fun a55 S55 => y00 S55 Z Z Z (y02 S55 Z Z) fun a56 S56 => y00 S56 Z Z Z (y02 S56 Z Z) fun a57 S57 => wpList_nil (hK _ _ ?_)
  replace hS : Sl 30 _ [(6, .slice A48 r46.1.length cap49), (7, i6 r46.2)] := S57.re ⟨Z, Z, trivial⟩
  clear hK K
  try clear S43 S44 S45 S52 S54 S55 S56 S57
  generalize a57 = a at hS ⊢
  refine wp_ret ?_
  have e := Option.some.inj H
  subst e
  have F58 := Fr.y2f w53 g53 (N + 6) r0
  replace h50 := h50.y2f r0
  replace hF := hF.trans F58 (fun c' (hm : c' = N + 6 ∨ c' = N + 6 + 1) => by (try dsimp only); omega)
  repeat (with_reducible first | refine y1i ?_ | refine y0o ?_)
  exact y4d hS Try.results35 Z rfl ⟨_, rfl, (y2f g53 (N + 6) r0), A48, cap49, rfl, h50, hF⟩


end Go.Proofs.Ytcfcffbjdjacfaa.Sim

namespace Go.Proofs.Ytcfcffbjdjacfaa.Sim
open Go
set_option linter.unusedVariables false
set_option linter.unusedSimpArgs false

/-! ### y2j: function 50 -/
def y2j.f (p0 : y01) (p1 : Int) : Option (Bool) := some ((decide (0 ≤ p1)) && (decide (p1 < (p0.devices.length : Int))))
set_option maxRecDepth 100000 in
set_option maxHeartbeats 4000000 in
theorem y2j.calls {p0 : y01} {c0 : Nat}  {b_p0 : Nat} {y09 : Option Addr} {y07 : Nat} {y0v : Option Addr} {y0l : Nat} {y0q : Option Addr} {y0h : Nat} {p1 : Int} {w : World} {g : Nat → Nat} {out : Bool} (N : Nat) (hp0 : y1v w g c0 b_p0 y09 y07 y0v y0l y0q y0h p0) (hc0 : c0 + 7 ≤ N) (H : y2j.f p0 p1 = some out) :
  Calls Try.prog 50 #[.pointer (so b_p0), i6 p1] w (fun e w' => ∃ v, e = .returned v ∧ ∃ (g' : Nat → Nat), v = .bool out ∧ Fr (fun q => N ≤ q) w g w' g') := by
 unfold y2j.f at H
 refine y1k Try.func50 rfl Try.ntmps50 Z (fun a hS => ?_)
 replace hS : Sl 16 a [(0, .pointer (so b_p0)), (1, i6 p1)] := hS
 have hF : Fr (fun q => N ≤ q) w g w g := Fr.refl _ _ _
 obtain ⟨hb0, y04, y0j, y0i⟩ := hp0
 refine y16 [(0, .pointer (so b_p0)), (1, i6 p1)] (fun R hR => y00 hS Z Z Z (y02 hS Z Z) fun a1 S1 => wpList_nil (hR _ (S1.re ⟨Z, Z, trivial⟩))) ?_
 clear hS a; intro a hS
 refine y0t (fun K hK => ?_)
 refine y00 hS Z Z Z (y03 hS Z Z) fun a2 S2 => y00 S2 Z Z Z (y2l S2 Z Z rfl b_geq) fun a3 S3 => y00 S3 Z Z Z (y03 S3 Z Z) fun a4 S4 => ?_
 refine y4b (N := 16) 8 [(15, .bool ((decide (0 ≤ p1)) && (decide (p1 < (p0.devices.length : Int)))))] ?_ (fun hk => ?_)
 rotate_left
 ·rcases Bool.eq_false_or_eq_true (decide (0 ≤ p1)) with hb5 | hb5
  ·refine y0p S4 (y0a S4 Z Z rfl hb5) Z Z (y03 S4 Z Z) fun a13 S13 => y0p S13 (y0a S13 Z Z rfl hb5) Z Z (y03 S13 Z Z) fun a14 S14 => y0p S14 (y0a S14 Z Z rfl hb5) Z Z (y4s S14 Z Z) fun a15 S15 => y0p S15 (y0a S15 Z Z rfl hb5) Z Z (y1e (off := 0) S15 Z Z (by kernel_rfl)) fun a16 S16 => y0p S16 (y0a S16 Z Z rfl hb5) Z Z (y0u (n := 1) S16 Z Z (by kernel_rfl) (Bx.cell hb0 Z)) fun a17 S17 => y0p S17 (y0a S17 Z Z rfl hb5) Z Z (y4x (e := 88) (sz := 6) (by_ := 80) S17 Z Z (by kernel_rfl)) fun a18 S18 => y0p S18 (y0a S18 Z Z rfl hb5) Z Z (y2l S18 Z Z rfl y4t) fun a19 S19 => y00 S19 Z Z Z (y2s S19 Z Z rfl hb5) fun a20 S20 => hk _ (S20.re ⟨(by rw [hb5]; rfl), trivial⟩)
  ·refine y1c S4 (y05 S4 Z Z rfl hb5) Z Z fun a21 S21 => y1c S21 (y05 S21 Z Z rfl hb5) Z Z fun a22 S22 => y1c S22 (y05 S22 Z Z rfl hb5) Z Z fun a23 S23 => y1c S23 (y05 S23 Z Z rfl hb5) Z Z fun a24 S24 => y1c S24 (y05 S24 Z Z rfl hb5) Z Z fun a25 S25 => y1c S25 (y05 S25 Z Z rfl hb5) Z Z fun a26 S26 => y1c S26 (y05 S26 Z Z rfl hb5) Z Z fun a27 S27 => y00 S27 Z Z Z (y2t S27 Z Z rfl hb5) fun a28 S28 => hk _ (S28.re ⟨(by rw [hb5]; rfl), trivial⟩)
 intro a29 S29
 refine y00 S29 Z Z Z (y02 S29 Z Z) fun a30 S30 => wpList_nil (hK _ _ ?_)
 replace hS : Sl 16 _ [(4, .bool ((decide (0 ≤ p1)) && (decide (p1 < (p0.devices.length : Int)))))] := S30.re ⟨Z, trivial⟩
 clear hK K
 try clear S2 S3 S4 S29 S30
 generalize a30 = a at hS ⊢
 refine wp_ret ?_
 have e := Option.some.inj H
 subst e
 repeat (with_reducible first | refine y1i ?_ | refine y0o ?_)
 exact y3v hS Try.results50 rfl ⟨_, rfl, g, rfl, hF⟩


end Go.Proofs.Ytcfcffbjdjacfaa.Sim

namespace Go.Proofs.Ytcfcffbjdjacfaa.Sim
open Go
set_option linter.unusedVariables false
set_option linter.unusedSimpArgs false

/-! ### y28: function 90 -/
def y28.l0 (p0 : List Int) (p1 : Int) : Nat → Int → Option (Fl (Int) (Unit))
 | 0, _ => none
 | k8 + 1, m0_0 => if decide (m0_0 < (p0.length : Int)) = true then ((idx p0 m0_0).bind fun x16 => if (p1 == x16) = true then (some (.out m0_0)) else (y28.l0 p0 p1 k8 (wi (m0_0 + 1)))) else (some (.nxt ()))
def y28.f (p0 : List Int) (p1 : Int) : Option (Int) := (y28.l0 p0 p1 FUEL 0 : Option (Fl (Int) (Unit))).bind fun o3 => o3.go fun _ => some (-1)
set_option maxRecDepth 100000 in
set_option maxHeartbeats 4000000 in
theorem y28.calls {p0 : List Int} {A0 : Option Addr} {cap0 : Nat} {C0 : Nat → Prop} {p1 : Int} {w : World} {g : Nat → Nat} {out : Int} (N : Nat) (hp0 : RdS (kint .i64) w g C0 A0 cap0 p0) (hC0 : ∀ c, C0 c → c < N) (H : y28.f p0 p1 = some out) :
  Calls Try.prog 90 #[.slice A0 p0.length cap0, i6 p1] w (fun e w' => ∃ v, e = .returned v ∧ ∃ (g' : Nat → Nat), v = i6 out ∧ Fr (fun q => N ≤ q) w g w' g') := by
 unfold y28.f at H
 refine y1k Try.func90 rfl Try.ntmps90 Z (fun a hS => ?_)
 replace hS : Sl 19 a [(0, .slice A0 p0.length cap0), (1, i6 p1)] := hS
 have hF : Fr (fun q => N ≤ q) w g w g := Fr.refl _ _ _
 refine y16 [(0, .slice A0 p0.length cap0), (1, i6 p1)] (fun R hR => y00 hS Z Z Z (y02 hS Z Z) fun a1 S1 => wpList_nil (hR _ (S1.re ⟨Z, Z, trivial⟩))) ?_
 clear hS a; intro a hS
 obtain ⟨o3, H, Hl4⟩ := y0b H
 refine y4u (fun a w' => o3 = .nxt () ∧ w = w' ∧ Sl 19 a []) ?_ ?_
 ·refine y16 [(0, .slice A0 p0.length cap0), (1, i6 p1), (7, i6 (p0.length : Int)), (8, i6 0)] (fun R hR => y00 hS Z Z Z (y03 hS Z Z) fun a5 S5 => y00 S5 Z Z Z (y4x (e := 3) (sz := 1) (by_ := 8) S5 Z Z (by kernel_rfl)) fun a6 S6 => y00 S6 Z Z Z (y03 S6 Z Z) fun a7 S7 => wpList_nil (hR _ (S7.re ⟨Z, Z, Z, Z, trivial⟩))) ?_
  clear hS a; intro a hS
  refine wp_block ?_
  refine wp_loop_ghost (fun kq => fun a w' => ∃ (m0_0 : Int), y28.l0 p0 p1 kq m0_0 = some o3 ∧ w = w' ∧ Sl 19 a [(0, .slice A0 p0.length cap0), (1, i6 p1), (7, i6 (p0.length : Int)), (8, i6 m0_0)]) FUEL ?_ ?_
  ·exact ⟨0, H, rfl, hS.re ⟨Z, Z, Z, Z, trivial⟩⟩
  ·clear H
   clear hS
   rintro k8 a w' ⟨m0_0, hpre0, hw, hS⟩
   subst hw
   have H := hpre0
   clear hpre0
   cases k8 with
   | zero => exact absurd H (by simp [y28.l0])
   | succ k8 =>
    rw [y28.l0] at H
    refine y16 [(0, .slice A0 p0.length cap0), (1, i6 p1), (7, i6 (p0.length : Int)), (8, i6 m0_0), (9, .bool (decide (m0_0 < (p0.length : Int))))] (fun R hR => y00 hS Z Z Z (y2l hS Z Z rfl y4t) fun a9 S9 => wpList_nil (hR _ (S9.re ⟨Z, Z, Z, Z, Z, trivial⟩))) ?_
    clear hS a; intro a hS
    refine c_if hS Z (fun hb10 => ?_) (fun hb10 => ?_)
    ·replace H := y3f hb10 H
     refine wp_skip ?_
     change Code.wp _ _ _ _ _
     refine wp_seq ?_
     refine wp_block ?_
     refine y16 [(0, .slice A0 p0.length cap0), (1, i6 p1), (5, i6 m0_0), (7, i6 (p0.length : Int)), (8, i6 m0_0)] (fun R hR => y00 hS Z Z Z (y03 hS Z Z) fun a11 S11 => y00 S11 Z Z Z (y02 S11 Z Z) fun a12 S12 => wpList_nil (hR _ (S12.re ⟨Z, Z, Z, Z, Z, trivial⟩))) ?_
     clear hS a; intro a hS
     obtain ⟨x16, hx17, H⟩ := y0b H
     refine y16 [(0, .slice A0 p0.length cap0), (1, i6 p1), (5, i6 m0_0), (7, i6 (p0.length : Int)), (8, i6 m0_0), (16, .bool (p1 == x16))] (fun R hR => y00 hS Z Z Z (y03 hS Z Z) fun a13 S13 => y00 S13 Z Z Z (y03 S13 Z Z) fun a14 S14 => y00 S14 Z Z Z (y03 S14 Z Z) fun a15 S15 => y00 S15 Z Z Z (y1j (e := 3) (sz := 1) (by_ := 8) S15 Z Z Z (by kernel_rfl) (RdS.some_ hp0 hx17) (y26 hx17) (y27 hx17)) fun a18 S18 => y00 S18 Z Z Z (y0u (n := 1) S18 Z Z (by kernel_rfl) (RdS.cell (i := m0_0) (sz := 1) (j := 0) hp0 hx17 Z)) fun a19 S19 => y00 S19 Z Z Z (y2l S19 Z Z rfl b_eql) fun a20 S20 => wpList_nil (hR _ (S20.re ⟨Z, Z, Z, Z, Z, Z, trivial⟩))) ?_
     clear hS a; intro a hS
     refine y2m hS Z (fun hb21 => ?_) (fun hb21 => ?_)
     ·replace H := y3f hb21 H
      refine y16 [(4, i6 m0_0)] (fun R hR => y00 hS Z Z Z (y03 hS Z Z) fun a22 S22 => y00 S22 Z Z Z (y02 S22 Z Z) fun a23 S23 => wpList_nil (hR _ (S23.re ⟨Z, trivial⟩))) ?_
      clear hS a; intro a hS
      refine wp_ret ?_
      have e := Option.some.inj H
      subst e
      replace H := Fl.go_out Hl4
      have e := Option.some.inj H
      subst e
      repeat (with_reducible first | refine y1i ?_ | refine y0o ?_)
      exact y3v hS Try.results90 rfl ⟨_, rfl, g, rfl, hF⟩
     ·replace H := y3g hb21 H
      refine wp_skip ?_
      change Code.wp _ _ _ _ _
      refine y3e [(0, .slice A0 p0.length cap0), (1, i6 p1), (7, i6 (p0.length : Int)), (8, i6 (wi (m0_0 + 1)))] (fun R hR => y00 hS Z Z Z (y2l hS Z Z rfl y4z) fun a24 S24 => y00 S24 Z Z Z (y03 S24 Z Z) fun a25 S25 => wpList_nil (hR _ (S25.re ⟨Z, Z, Z, Z, trivial⟩))) ?_
      clear hS a; intro a hS
      refine ⟨k8, Nat.lt_succ_self _, ?_⟩
      exact ⟨wi (m0_0 + 1), H, rfl, hS.re ⟨Z, Z, Z, Z, trivial⟩⟩
    ·replace H := y3g hb10 H
     refine wp_exit ?_
     have e := Option.some.inj H
     exact ⟨e.symm, rfl, hS.re trivial⟩
 ·clear H
  clear hS
  rintro a w' ⟨hpre0, hw, hS⟩
  subst hpre0
  subst hw
  have H := Fl.go_nxt Hl4
  clear Hl4
  refine y16 [(4, i6 (-1))] (fun R hR => y00 hS Z Z Z (y02 hS Z Z) fun a26 S26 => wpList_nil (hR _ (S26.re ⟨Z, trivial⟩))) ?_
  clear hS a; intro a hS
  refine wp_ret ?_
  have e := Option.some.inj H
  subst e
  repeat (with_reducible first | refine y1i ?_ | refine y0o ?_)
  exact y3v hS Try.results90 rfl ⟨_, rfl, g, rfl, hF⟩


end Go.Proofs.Ytcfcffbjdjacfaa.Sim

namespace Go.Proofs.Ytcfcffbjdjacfaa.Sim
open Go
set_option linter.unusedVariables false
set_option linter.unusedSimpArgs false

/-! ### y3a: function 69 -/
def y3a.f (p0 : List Int) (p1 : Int) : Option (Bool) := (y28.f p0 p1).bind fun r4 => some (decide (0 ≤ r4))
set_option maxRecDepth 100000 in
set_option maxHeartbeats 4000000 in
theorem y3a.calls {p0 : List Int} {A0 : Option Addr} {cap0 : Nat} {C0 : Nat → Prop} {p1 : Int} {w : World} {g : Nat → Nat} {out : Bool} (N : Nat) (hp0 : RdS (kint .i64) w g C0 A0 cap0 p0) (hC0 : ∀ c, C0 c → c < N) (H : y3a.f p0 p1 = some out) :
  Calls Try.prog 69 #[.slice A0 p0.length cap0, i6 p1] w (fun e w' => ∃ v, e = .returned v ∧ ∃ (g' : Nat → Nat), v = .bool out ∧ Fr (fun q => N ≤ q) w g w' g') := by
 unfold y3a.f at H
 refine y1k Try.func69 rfl Try.ntmps69 Z (fun a hS => ?_)
 replace hS : Sl 9 a [(0, .slice A0 p0.length cap0), (1, i6 p1)] := hS
 have hF : Fr (fun q => N ≤ q) w g w g := Fr.refl _ _ _
 refine y16 [(0, .slice A0 p0.length cap0), (1, i6 p1)] (fun R hR => y00 hS Z Z Z (y02 hS Z Z) fun a1 S1 => wpList_nil (hR _ (S1.re ⟨Z, Z, trivial⟩))) ?_
 clear hS a; intro a hS
 obtain ⟨r4, hr5, H⟩ := y0b H
 refine y0t (fun K hK => ?_)
 refine y00 hS Z Z Z (y03 hS Z Z) fun a2 S2 => y00 S2 Z Z Z (y03 S2 Z Z) fun a3 S3 => ?_
 refine y1y S3 Z Z Z (y2z S3 Z Z (by kernel_rfl)) (y28.calls (C0 := C0) (p0 := p0) (p1 := p1) (g := g) (N + 0)  hp0 (fun q (hq : C0 q) => by have := hC0 q hq; omega) hr5) ?_
 rintro _ a6 w7 ⟨g7, rfl, F7⟩ S6
 replace hp0 := RdS.fr hp0 F7 (by decide) (fun q (hq : C0 q) (hm : N + 0 ≤ q) => by have := hC0 q hq; omega)
 replace hF := hF.trans F7 (fun c' (hm : N + 0 ≤ c') => by (try dsimp only); omega)
 refine y00 S6 Z Z Z (y2l S6 Z Z rfl b_geq) fun a8 S8 => y00 S8 Z Z Z (y02 S8 Z Z) fun a9 S9 => wpList_nil (hK _ _ ?_)
 replace hS : Sl 9 _ [(4, .bool (decide (0 ≤ r4)))] := S9.re ⟨Z, trivial⟩
 clear hK K
 try clear S2 S3 S6 S8 S9
 generalize a9 = a at hS ⊢
 refine wp_ret ?_
 have e := Option.some.inj H
 subst e
 repeat (with_reducible first | refine y1i ?_ | refine y0o ?_)
 exact y3v hS Try.results69 rfl ⟨_, rfl, g7, rfl, hF⟩


end Go.Proofs.Ytcfcffbjdjacfaa.Sim

namespace Go.Proofs.Ytcfcffbjdjacfaa.Sim
open Go
set_option linter.unusedVariables false
set_option linter.unusedSimpArgs false

/-! ### y1u: function 43 -/
def y1u.l0 (p2 : Int) (r49 : y01 × (List y0e)) (r86 : (List Int) × Int) : Nat → y01 → (List y0e) → Int → Option ((List y0e) × y01)
 | 0, _, _, _ => none
 | k136 + 1, m0_0, m0_1, m0_2 => if decide (m0_2 < (r49.1.order.length : Int)) = true then (((idx m0_0.order m0_2).bind fun x146 => (y3a.f r86.1 x146).bind fun r153 => (if r153 = true then (idx m0_0.devices x146).bind fun x164 => some (!x164.active) else some false).bind fun t180 => if t180 = true then ((idx m0_0.devices x146).bind fun x223 => (app m0_1 [(y0e.mk x146 true p2)]).bind fun y248 => some ((y01.mk (upd m0_0.devices x146 ({ x223 with active := true } : y0k)) m0_0.links m0_0.order m0_0.now), y248)) else (some (m0_0, m0_1)) : Option (y01 × (List y0e))).bind fun v143 => y1u.l0 p2 r49 r86 k136 v143.1 v143.2 (wi (m0_2 + 1))) else (some (m0_1, m0_0))
def y1u.f (p0 : y01) (p1 : Int) (p2 : Int) : Option (y01 × (List y0e) × Int) := (y2j.f p0 p1).bind fun r5 => (if (!r5) = true then some true else (y2d.f p0 p2).bind fun r14 => some (!r14)).bind fun t19 => if t19 = true then (some (p0, [], 1)) else ((y0s.f (y01.mk p0.devices p0.links p0.order p2) p2).bind fun r49 => (idx r49.1.devices p1).bind fun x63 => (y3y.f ((upd r49.1.devices p1 ({ x63 with count := wi (x63.count + 1) } : y0k)).length : Int) r49.1.links [p1]).bind fun r86 => (y1u.l0 p2 r49 r86 FUEL (y01.mk (upd r49.1.devices p1 ({ x63 with count := wi (x63.count + 1) } : y0k)) r49.1.links r49.1.order r49.1.now) r49.2 0 : Option ((List y0e) × y01)).bind fun v123 => some (v123.2, v123.1, 0))
set_option maxRecDepth 100000 in
set_option maxHeartbeats 4000000 in
theorem y1u.calls {p0 : y01} {c0 : Nat}  {b_p0 : Nat} {y09 : Option Addr} {y07 : Nat} {y0v : Option Addr} {y0l : Nat} {y0q : Option Addr} {y0h : Nat} {p1 : Int} {p2 : Int} {w : World} {g : Nat → Nat} {out : y01 × (List y0e) × Int} (N : Nat) (r0 : Nat) (hp0 : y1v w g c0 b_p0 y09 y07 y0v y0l y0q y0h p0) (hc0 : c0 + 7 ≤ N) (hr0 : r0 + 2 ≤ N) (hq0_0 : r0 + 2 ≤ c0 ∨ c0 + 7 ≤ r0) (H : y1u.f p0 p1 p2 = some out) :
  Calls Try.prog 43 #[.pointer (so b_p0), i6 p1, .int .u64 p2] w (fun e w' => ∃ v, e = .returned v ∧ ∃ (g' : Nat → Nat) (A_r0 : Option Addr) (cap_r0 : Nat), v = .tuple #[.slice A_r0 out.2.1.length cap_r0, i6 out.2.2] ∧ y1v w' g' c0 b_p0 y09 y07 y0v y0l y0q y0h out.1 ∧ OwS y18 47 w' g' r0 A_r0 cap_r0 out.2.1 ∧ Fr (fun q => (c0 ≤ q ∧ q < c0 + 7) ∨ (r0 ≤ q ∧ q < r0 + 2) ∨ N ≤ q) w g w' g') := by
 unfold y1u.f at H
 refine y1k Try.func43 rfl Try.ntmps43 Z (fun a hS => ?_)
 replace hS : Sl 94 a [(0, .pointer (so b_p0)), (1, i6 p1), (2, .int .u64 p2)] := hS
 have hF : Fr (fun q => (c0 ≤ q ∧ q < c0 + 7) ∨ (r0 ≤ q ∧ q < r0 + 2) ∨ N ≤ q) w g w g := Fr.refl _ _ _
 obtain ⟨hb0, y04, y0j, y0i⟩ := hp0
 refine y16 [(0, .pointer (so b_p0)), (1, i6 p1), (2, .int .u64 p2)] (fun R hR => y00 hS Z Z Z (y02 hS Z Z) fun a1 S1 => y00 S1 Z Z Z (y02 S1 Z Z) fun a2 S2 => wpList_nil (hR _ (S2.re ⟨Z, Z, Z, trivial⟩))) ?_
 clear hS a; intro a hS
 refine wp_seq ?_
 obtain ⟨r5, hr6, H⟩ := y0b H
 obtain ⟨t19, ht20, H⟩ := y0b H
 refine y0t (fun K hK => ?_)
 refine y00 hS Z Z Z (y03 hS Z Z) fun a3 S3 => y00 S3 Z Z Z (y03 S3 Z Z) fun a4 S4 => ?_
 refine y1y S4 Z Z Z (y2z S4 Z Z (by kernel_rfl)) (y2j.calls (c0 := c0) (b_p0 := b_p0) (y09 := y09) (y07 := y07) (y0v := y0v) (y0l := y0l) (y0q := y0q) (y0h := y0h) (p0 := p0) (p1 := p1) (g := g) (N + 8)  ⟨hb0, y04, y0j, y0i⟩ (by omega) hr6) ?_
 rintro _ a7 w8 ⟨g8, rfl, F8⟩ S7
 replace hb0 := hb0.fr F8 (fun (hm : N + 8 ≤ c0) => by omega)
 replace y04 := OwS.fr y04 F8 (fun c' hc (hm : N + 8 ≤ c') => by omega)
 replace y0j := OwS.fr y0j F8 (fun c' hc (hm : N + 8 ≤ c') => by omega)
 replace y0i := OwS.fr y0i F8 (fun c' hc (hm : N + 8 ≤ c') => by omega)
 replace hF := hF.trans F8 (fun c' (hm : N + 8 ≤ c') => by (try dsimp only); omega)
 refine y00 S7 Z Z Z (r_not S7 Z Z) fun a9 S9 => y00 S9 Z Z Z (y03 S9 Z Z) fun a10 S10 => ?_
 refine g_joinR 5 (fun a w21 => ∃ (g21 : Nat → Nat), Sl 94 a [(0, .pointer (so b_p0)), (1, i6 p1), (2, .int .u64 p2), (22, .bool t19)] ∧ Bx w21 g21 (c0) b_p0 85 [.slice y09 p0.devices.length y07, .slice y0v p0.links.length y0l, .slice y0q p0.order.length y0h, .int .u64 p0.now] ∧ OwS y1h 88 w21 g21 (c0 + 1) y09 y07 p0.devices ∧ OwS y0r 67 w21 g21 (c0 + 3) y0v y0l p0.links ∧ OwS (kint .i64) 3 w21 g21 (c0 + 5) y0q y0h p0.order ∧ Fr (fun q => (c0 ≤ q ∧ q < c0 + 7) ∨ (r0 ≤ q ∧ q < r0 + 2) ∨ N ≤ q) w g w21 g21) ?_ (fun hk => ?_)
 rotate_left
 ·rcases Bool.eq_false_or_eq_true ((!r5)) with hb11 | hb11
  ·have H := y3f hb11 ht20
   have e22 := Option.some.inj H
   refine y1c S10 (y05 S10 Z Z rfl hb11) Z Z fun a23 S23 => y1c S23 (y05 S23 Z Z rfl hb11) Z Z fun a24 S24 => y1c S24 (y05 S24 Z Z rfl hb11) Z Z fun a25 S25 => y1c S25 (y05 S25 Z Z rfl hb11) Z Z fun a26 S26 => y00 S26 Z Z Z (y2s S26 Z Z rfl hb11) fun a27 S27 => hk _ _ ?_
   exact ⟨g8, S27.re ⟨rfl, rfl, rfl, (by rw [← e22]; rfl), trivial⟩, hb0, y04, y0j, y0i, hF⟩
  ·have H := y3g hb11 ht20
   obtain ⟨r30, hr31, H⟩ := y0b H
   have e35 := Option.some.inj H
   refine y0p S10 (y0a S10 Z Z rfl hb11) Z Z (y03 S10 Z Z) fun a28 S28 => y0p S28 (y0a S28 Z Z rfl hb11) Z Z (y03 S28 Z Z) fun a29 S29 => ?_
   refine st_enterW S29 (y0a S29 Z Z rfl hb11) Z Z (y2z S29 Z Z (by kernel_rfl)) (y2d.calls (c0 := c0) (b_p0 := b_p0) (y09 := y09) (y07 := y07) (y0v := y0v) (y0l := y0l) (y0q := y0q) (y0h := y0h) (p0 := p0) (p1 := p2) (g := g8) (N + 8)  ⟨hb0, y04, y0j, y0i⟩ (by omega) hr31) ?_
   rintro _ a32 w33 ⟨g33, rfl, F33⟩ S32
   replace hb0 := hb0.fr F33 (fun (hm : N + 8 ≤ c0) => by omega)
   replace y04 := OwS.fr y04 F33 (fun c' hc (hm : N + 8 ≤ c') => by omega)
   replace y0j := OwS.fr y0j F33 (fun c' hc (hm : N + 8 ≤ c') => by omega)
   replace y0i := OwS.fr y0i F33 (fun c' hc (hm : N + 8 ≤ c') => by omega)
   replace hF := hF.trans F33 (fun c' (hm : N + 8 ≤ c') => by (try dsimp only); omega)
   refine y0p S32 (y0a S32 Z Z rfl hb11) Z Z (r_not S32 Z Z) fun a34 S34 => ?_
   refine y00 S34 Z Z Z (y2t S34 Z Z rfl hb11) fun a36 S36 => hk _ _ ?_
   exact ⟨g33, S36.re ⟨rfl, rfl, rfl, (by rw [← e35]; rfl), trivial⟩, hb0, y04, y0j, y0i, hF⟩
 rintro a37 w21 ⟨g21, S37, hb0, y04, y0j, y0i, hF⟩
 refine wpList_nil (hK _ _ ?_)
 replace hS : Sl 94 _ [(0, .pointer (so b_p0)), (1, i6 p1), (2, .int .u64 p2), (22, .bool t19)] := S37.re ⟨Z, Z, Z, Z, trivial⟩
 clear hK K
 try clear S3 S4 S7 S9 S10 S37
 generalize a37 = a at hS ⊢
 refine y2m hS Z (fun hb38 => ?_) (fun hb38 => ?_)
 ·replace H := y3f hb38 H
  refine y16 [(6, .slice none 0 0), (7, i6 1)] (fun R hR => y00 hS Z Z Z (y02 hS Z Z) fun a39 S39 => y00 S39 Z Z Z (y02 S39 Z Z) fun a40 S40 => wpList_nil (hR _ (S40.re ⟨Z, Z, trivial⟩))) ?_
  clear hS a; intro a hS
  refine wp_ret ?_
  have e := Option.some.inj H
  subst e
  repeat (with_reducible first | refine y1i ?_ | refine y0o ?_)
  exact y4d hS Try.results43 Z rfl ⟨_, rfl, g21, none, 0, rfl, ⟨hb0, y04, y0j, y0i⟩, OwS.nil y18 47 w21 g21 r0, hF⟩
 ·replace H := y3g hb38 H
  refine wp_skip ?_
  change Code.wp _ _ _ _ _
  refine y0t (fun K hK => ?_)
  refine y00 hS Z Z Z (y03 hS Z Z) fun a41 S41 => y00 S41 Z Z Z (y03 S41 Z Z) fun a42 S42 => y00 S42 Z Z Z (y4s S42 Z Z) fun a43 S43 => y00 S43 Z Z Z (y1e (off := 3) S43 Z Z (by kernel_rfl)) fun a44 S44 => ?_
  refine y3s S44 Z Z (y4a (n := 1) (bb := false) (cs' := [.slice y09 p0.devices.length y07, .slice y0v p0.links.length y0l, .slice y0q p0.order.length y0h, .int .u64 p2]) g21 S44 Z Z Z (by kernel_rfl) Z Z rfl hb0 Z Z) ?_
  rintro a45 w46 g46 ⟨hb0, F46⟩ S45
  replace y04 := OwS.fr y04 F46 (fun c' hc (hm : c' = c0) => by omega)
  replace y0j := OwS.fr y0j F46 (fun c' hc (hm : c' = c0) => by omega)
  replace y0i := OwS.fr y0i F46 (fun c' hc (hm : c' = c0) => by omega)
  replace hF := hF.trans F46 (fun c' (hm : c' = c0) => by (try dsimp only); omega)
  refine wpList_nil (hK _ _ ?_)
  replace hS : Sl 94 _ [(0, .pointer (so b_p0)), (1, i6 p1), (2, .int .u64 p2)] := S45.re ⟨Z, Z, Z, trivial⟩
  clear hK K
  try clear S41 S42 S43 S44 S45
  generalize a45 = a at hS ⊢
  obtain ⟨r49, hr50, H⟩ := y0b H
  refine y0t (fun K hK => ?_)
  refine y00 hS Z Z Z (y03 hS Z Z) fun a47 S47 => y00 S47 Z Z Z (y03 S47 Z Z) fun a48 S48 => ?_
  refine y1y S48 Z Z Z (y2z S48 Z Z (by kernel_rfl)) (y0s.calls (c0 := c0) (b_p0 := b_p0) (y09 := y09) (y07 := y07) (y0v := y0v) (y0l := y0l) (y0q := y0q) (y0h := y0h) (p0 := (y01.mk p0.devices p0.links p0.order p2)) (p1 := p2) (g := g46) (N + 8) (N + 0) ⟨hb0, y04, y0j, y0i⟩ (by omega) (by omega) (by omega) hr50) ?_
  rintro _ a55 w56 ⟨g56, A51, cap52, rfl, ⟨hb0, y04, y0j, y0i⟩, h53, F56⟩ S55
  replace hF := hF.trans F56 (fun c' (hm : (c0 ≤ c' ∧ c' < c0 + 7) ∨ (N + 0 ≤ c' ∧ c' < N + 0 + 2) ∨ N + 8 ≤ c') => by (try dsimp only); omega)
  refine y00 S55 Z Z Z (y02 S55 Z Z) fun a57 S57 => wpList_nil (hK _ _ ?_)
  replace hS : Sl 94 _ [(0, .pointer (so b_p0)), (1, i6 p1), (2, .int .u64 p2), (8, .slice A51 r49.2.length cap52)] := S57.re ⟨Z, Z, Z, Z, trivial⟩
  clear hK K
  try clear S47 S48 S55 S57
  generalize a57 = a at hS ⊢
  obtain ⟨x63, hx64, H⟩ := y0b H
  refine y0t (fun K hK => ?_)
  refine y00 hS Z Z Z (y03 hS Z Z) fun a58 S58 => y00 S58 Z Z Z (y4s S58 Z Z) fun a59 S59 => y00 S59 Z Z Z (y1e (off := 0) S59 Z Z (by kernel_rfl)) fun a60 S60 => y00 S60 Z Z Z (y0u (n := 1) S60 Z Z (by kernel_rfl) (Bx.cell hb0 Z)) fun a61 S61 => y00 S61 Z Z Z (y03 S61 Z Z) fun a62 S62 => ?_
  obtain ⟨_, ⟨A66, cap67, A70, cap71, rfl, h68, h72⟩, hel65⟩ := El.of (OwD.rdx y04) hx64 (by decide)
  replace hel65 : El w56 g56 (fun q => q = c0 + 1) y09 (p1.toNat * 6) [.int .u64 x63.delay, .slice A66 x63.suppliers.length cap67, .slice A70 x63.consumers.length cap71, .bool x63.active, i6 x63.count, .int .u64 x63.idle] := hel65
  refine y00 S62 Z Z Z (y1j (e := 88) (sz := 6) (by_ := 80) S62 Z Z Z (by kernel_rfl) (RdS.some_ (OwS.rd y04) hx64) (y26 hx64) (y27 hx64)) fun a75 S75 => y00 S75 Z Z Z (y2w (off := 4) S75 Z Z (by kernel_rfl)) fun a76 S76 => y00 S76 Z Z Z (y0u (n := 1) S76 Z Z (by kernel_rfl) (El.cell (j := 4) hel65 Z)) fun a77 S77 => y00 S77 Z Z Z (y2l S77 Z Z rfl y4z) fun a78 S78 => y00 S78 Z Z Z (y1j (e := 88) (sz := 6) (by_ := 80) S78 Z Z Z (by kernel_rfl) (RdS.some_ (OwS.rd y04) hx64) (y26 hx64) (y27 hx64)) fun a79 S79 => y00 S79 Z Z Z (y2w (off := 4) S79 Z Z (by kernel_rfl)) fun a80 S80 => ?_
  refine y3s S80 Z Z (y4l (n := 1) (bb := false) (kd := y1h) (j := 4) (x' := ({ x63 with count := wi (x63.count + 1) } : y0k)) (us := [i6 (wi (x63.count + 1))]) g56 S80 Z Z Z Z (by kernel_rfl) Z Z (by intro v hv; simp only [List.mem_cons, List.not_mem_nil, or_false] at hv; rcases hv with rfl <;> rfl) y04 hx64 Z (fun _ _ cs hR => by obtain ⟨A0, cap0, A1, cap1, rfl, h0, h1⟩ := hR; exact ⟨A0, cap0, A1, cap1, rfl, h0, h1⟩)) ?_
  rintro a81 w82 g82 ⟨y04, F82⟩ S81
  replace h53 := OwS.fr h53 F82 (fun c' hc (hm : c' = c0 + 1) => by omega)
  replace h68 := RdS.fr h68 F82 (by decide) (fun q (hq : q = c0 + 1 + 1) (hm : q = c0 + 1) => by omega)
  replace h72 := RdS.fr h72 F82 (by decide) (fun q (hq : q = c0 + 1 + 1) (hm : q = c0 + 1) => by omega)
  replace hb0 := hb0.fr F82 (fun (hm : c0 = c0 + 1) => by omega)
  replace y0j := OwS.fr y0j F82 (fun c' hc (hm : c' = c0 + 1) => by omega)
  replace y0i := OwS.fr y0i F82 (fun c' hc (hm : c' = c0 + 1) => by omega)
  replace hF := hF.trans F82 (fun c' (hm : c' = c0 + 1) => by (try dsimp only); omega)
  replace hb0 : Bx w82 g82 (c0) b_p0 85 [.slice y09 (upd r49.1.devices p1 ({ x63 with count := wi (x63.count + 1) } : y0k)).length y07, .slice y0v r49.1.links.length y0l, .slice y0q r49.1.order.length y0h, .int .u64 r49.1.now] := by simpa only [y1w] using hb0
  refine wpList_nil (hK _ _ ?_)
  replace hS : Sl 94 _ [(0, .pointer (so b_p0)), (1, i6 p1), (2, .int .u64 p2), (8, .slice A51 r49.2.length cap52)] := S81.re ⟨Z, Z, Z, Z, trivial⟩
  clear hK K
  try clear S58 S59 S60 S61 S62 S75 S76 S77 S78 S79 S80 S81
  generalize a81 = a at hS ⊢
  obtain ⟨r86, hr87, H⟩ := y0b H
  refine c_draw (fun K hK => y4m (fun q => N + 8 ≤ q ∨ (N + 4 ≤ q ∧ q < N + 4 + 2)) g82 [] 17 (ba 0 17) (by kernel_rfl) Z Z (fun w92 hw92 => ?_))
  have F92 : Fr (fun _ => False) w82 g82 w92 g82 := by rw [hw92]; exact Fr.drew _ _ _
  replace h53 := OwS.fr h53 F92 (fun _ _ h => h)
  replace hb0 := hb0.fr F92 (fun h => h)
  replace y04 := OwS.fr y04 F92 (fun _ _ h => h)
  replace y0j := OwS.fr y0j F92 (fun _ _ h => h)
  replace y0i := OwS.fr y0i F92 (fun _ _ h => h)
  replace hF := hF.trans F92 (fun _ h => h.elim)
  have hC : Fr (fun q => N + 8 ≤ q ∨ (N + 4 ≤ q ∧ q < N + 4 + 2)) w92 g82 w92 g82 := Fr.refl _ _ _
  refine y1b hS 0 (ba 1 16) Z Z Z Z (by kernel_rfl) (fun _ _ _ h => h) (fun _ => (y03 hS Z Z)) fun a93 S93 => y1b S93 1 (ba 2 15) Z Z Z Z (by kernel_rfl) (fun _ _ _ h => h) (fun _ => (y4s S93 Z Z)) fun a94 S94 => y1b S94 2 (ba 3 14) Z Z Z Z (by kernel_rfl) (fun _ _ _ h => h) (fun _ => (y1e (off := 0) S94 Z Z (by kernel_rfl))) fun a95 S95 => y3w S95 3 (ba 4 13) Z Z Z Z (by kernel_rfl) (fun _ _ _ h => h) ⟨_, hC⟩ (fun w' g' Fz => (y0u (n := 1) S95 Z Z (by kernel_rfl) (Bx.cell (hb0.fr Fz (fun (hm : N + 8 ≤ c0 ∨ (N + 4 ≤ c0 ∧ c0 < N + 4 + 2)) => by omega)) Z))) fun a96 S96 => y1b S96 4 (ba 5 12) Z Z Z Z (by kernel_rfl) (fun _ _ _ h => h) (fun _ => (y4x (e := 88) (sz := 6) (by_ := 80) S96 Z Z (by kernel_rfl))) fun a97 S97 => y1b S97 5 (ba 6 11) Z Z Z Z (by kernel_rfl) (fun _ _ _ h => h) (fun _ => (y03 S97 Z Z)) fun a98 S98 => y1b S98 6 (ba 7 10) Z Z Z Z (by kernel_rfl) (fun _ _ _ h => h) (fun _ => (y4s S98 Z Z)) fun a99 S99 => y1b S99 7 (ba 8 9) Z Z Z Z (by kernel_rfl) (fun _ _ _ h => h) (fun _ => (y1e (off := 1) S99 Z Z (by kernel_rfl))) fun a100 S100 => y3w S100 8 (ba 9 8) Z Z Z Z (by kernel_rfl) (fun _ _ _ h => h) ⟨_, hC⟩ (fun w' g' Fz => (y0u (n := 1) S100 Z Z (by kernel_rfl) (Bx.cell (hb0.fr Fz (fun (hm : N + 8 ≤ c0 ∨ (N + 4 ≤ c0 ∧ c0 < N + 4 + 2)) => by omega)) Z))) fun a101 S101 => y1b S101 9 (ba 10 7) Z Z Z Z (by kernel_rfl) (fun _ _ _ h => h) (fun _ => (y03 S101 Z Z)) fun a102 S102 => ?_
  refine d_one 10 (ba 11 6) Z (by kernel_rfl) (y43 S102 Z Z Z (e_lit (e := 3) (parts := [(0, i6 p1)]) (cs := [i6 p1]) (kint .i64) [p1] (N + 2) g82 S102 Z Z (fun _ => by kernel_rfl) Z (by decide) (Rows.cons (cs := [i6 p1]) rfl Rows.nil)) (fun _ _ g' hR _ => ⟨g', hC.trans hR.2 (fun _ h => h.elim)⟩) ?_)
  rintro _ a106 w107 g107 ⟨⟨A103, rfl, h104⟩, F107⟩ S106
  have hC107 := hC.trans F107 (fun _ h => h.elim)
  replace h53 := OwS.fr h53 F107 (fun _ _ h => h)
  replace hb0 := hb0.fr F107 (fun h => h)
  replace y04 := OwS.fr y04 F107 (fun _ _ h => h)
  replace y0j := OwS.fr y0j F107 (fun _ _ h => h)
  replace y0i := OwS.fr y0i F107 (fun _ _ h => h)
  replace hF := hF.trans F107 (fun _ h => h.elim)
  refine d_one 11 (ba 12 5) Z (by kernel_rfl) (arm_call S106 Z Z Z (y2z S106 Z Z (by kernel_rfl)) (y3y.calls (C1 := (fun q => q = c0 + 3)) (C2 := (fun q => q = N + 2)) (p0 := ((upd r49.1.devices p1 ({ x63 with count := wi (x63.count + 1) } : y0k)).length : Int)) (p1 := r49.1.links) (p2 := [p1]) (g := g107) (N + 8) (N + 4) (OwD.rdf (fun _ _ _ _ _ _ h => h) y0j) (fun q (hq : q = c0 + 3) => by omega) (OwD.rdf (fun _ _ _ _ _ _ h => h) h104) (fun q (hq : q = N + 2) => by omega) (by omega) hr87) (fun _ _ ⟨g', _, _, _, _, Fz⟩ _ => ⟨g', hC107.trans Fz (fun c' (hm : (N + 4 ≤ c' ∧ c' < N + 4 + 2) ∨ N + 8 ≤ c') => by (try dsimp only); omega)⟩) ?_)
  rintro _ a112 w113 ⟨g113, A108, cap109, rfl, h110, F113⟩ S112
  have hC113 := hC107.trans F113 (fun c' (hm : (N + 4 ≤ c' ∧ c' < N + 4 + 2) ∨ N + 8 ≤ c') => by (try dsimp only); omega)
  replace h104 := OwS.fr h104 F113 (fun c' hc (hm : (N + 4 ≤ c' ∧ c' < N + 4 + 2) ∨ N + 8 ≤ c') => by omega)
  replace h53 := OwS.fr h53 F113 (fun c' hc (hm : (N + 4 ≤ c' ∧ c' < N + 4 + 2) ∨ N + 8 ≤ c') => by omega)
  replace hb0 := hb0.fr F113 (fun (hm : (N + 4 ≤ c0 ∧ c0 < N + 4 + 2) ∨ N + 8 ≤ c0) => by omega)
  replace y04 := OwS.fr y04 F113 (fun c' hc (hm : (N + 4 ≤ c' ∧ c' < N + 4 + 2) ∨ N + 8 ≤ c') => by omega)
  replace y0j := OwS.fr y0j F113 (fun c' hc (hm : (N + 4 ≤ c' ∧ c' < N + 4 + 2) ∨ N + 8 ≤ c') => by omega)
  replace y0i := OwS.fr y0i F113 (fun c' hc (hm : (N + 4 ≤ c' ∧ c' < N + 4 + 2) ∨ N + 8 ≤ c') => by omega)
  replace hF := hF.trans F113 (fun c' (hm : (N + 4 ≤ c' ∧ c' < N + 4 + 2) ∨ N + 8 ≤ c') => by (try dsimp only); omega)
  refine y1b S112 12 (ba 13 4) Z Z Z Z (by kernel_rfl) (fun _ _ _ h => h) (fun _ => (y03 S112 Z Z)) fun a114 S114 => y1b S114 13 (ba 14 3) Z Z Z Z (by kernel_rfl) (fun _ _ _ h => h) (fun _ => (y1z S114 Z Z Z)) fun a115 S115 => y1b S115 14 (ba 15 2) Z Z Z Z (by kernel_rfl) (fun _ _ _ h => h) (fun _ => (y1z S115 Z Z Z)) fun a116 S116 => y1b S116 15 (ba 16 1) Z Z Z Z (by kernel_rfl) (fun _ _ _ h => h) (fun _ => (y02 S116 Z Z)) fun a117 S117 => y1b S117 16 (ba 17 0) Z Z Z Z (by kernel_rfl) (fun _ _ _ h => h) (fun _ => (y02 S117 Z Z)) fun a118 S118 => y4v (by kernel_rfl) (hK _ _ ?_)
  replace hS : Sl 94 _ [(0, .pointer (so b_p0)), (2, .int .u64 p2), (8, .slice A51 r49.2.length cap52), (9, .slice A108 r86.1.length cap109)] := S118.re ⟨Z, Z, Z, Z, trivial⟩
  clear hK K hC
  try clear S93 S94 S95 S96 S97 S98 S99 S100 S101 S102 S106 S112 S114 S115 S116 S117 S118
  generalize a118 = a at hS ⊢
  obtain ⟨v123, H, Hl125⟩ := y0b H
  refine y4u (fun a w119 => ∃ (g119 : Nat → Nat), ∃ (A120 : Option Addr), ∃ (cap121 : Nat), Sl 94 a [(8, .slice A120 v123.1.length cap121)] ∧ OwS y18 47 w119 g119 (N + 0) A120 cap121 v123.1 ∧ Bx w119 g119 (c0) b_p0 85 [.slice y09 v123.2.devices.length y07, .slice y0v v123.2.links.length y0l, .slice y0q v123.2.order.length y0h, .int .u64 v123.2.now] ∧ OwS y1h 88 w119 g119 (c0 + 1) y09 y07 v123.2.devices ∧ OwS y0r 67 w119 g119 (c0 + 3) y0v y0l v123.2.links ∧ OwS (kint .i64) 3 w119 g119 (c0 + 5) y0q y0h v123.2.order ∧ Fr (fun q => (c0 ≤ q ∧ q < c0 + 7) ∨ (r0 ≤ q ∧ q < r0 + 2) ∨ N ≤ q) w g w119 g119) ?_ ?_
  ·refine y16 [(0, .pointer (so b_p0)), (2, .int .u64 p2), (8, .slice A51 r49.2.length cap52), (9, .slice A108 r86.1.length cap109), (59, .slice y0q r49.1.order.length y0h), (60, i6 (r49.1.order.length : Int)), (61, i6 0)] (fun R hR => y00 hS Z Z Z (y03 hS Z Z) fun a126 S126 => y00 S126 Z Z Z (y4s S126 Z Z) fun a127 S127 => y00 S127 Z Z Z (y1e (off := 2) S127 Z Z (by kernel_rfl)) fun a128 S128 => y00 S128 Z Z Z (y0u (n := 1) S128 Z Z (by kernel_rfl) (Bx.cell hb0 Z)) fun a129 S129 => y00 S129 Z Z Z (y4x (e := 3) (sz := 1) (by_ := 8) S129 Z Z (by kernel_rfl)) fun a130 S130 => y00 S130 Z Z Z (y03 S130 Z Z) fun a131 S131 => wpList_nil (hR _ (S131.re ⟨Z, Z, Z, Z, Z, Z, Z, trivial⟩))) ?_
   clear hS a; intro a hS
   refine wp_block ?_
   refine wp_loop_ghost (fun kq => fun a w132 => ∃ (m0_0 : y01), ∃ (m0_1 : List y0e), ∃ (m0_2 : Int), ∃ (g132 : Nat → Nat), ∃ (A133 : Option Addr), ∃ (cap134 : Nat), y1u.l0 p2 r49 r86 kq m0_0 m0_1 m0_2 = some v123 ∧ Sl 94 a [(0, .pointer (so b_p0)), (2, .int .u64 p2), (8, .slice A133 m0_1.length cap134), (9, .slice A108 r86.1.length cap109), (59, .slice y0q m0_0.order.length y0h), (60, i6 (r49.1.order.length : Int)), (61, i6 m0_2)] ∧ OwS (kint .i64) 3 w132 g132 (N + 4) A108 cap109 r86.1 ∧ OwS y18 47 w132 g132 (N + 0) A133 cap134 m0_1 ∧ Bx w132 g132 (c0) b_p0 85 [.slice y09 m0_0.devices.length y07, .slice y0v m0_0.links.length y0l, .slice y0q m0_0.order.length y0h, .int .u64 m0_0.now] ∧ OwS y1h 88 w132 g132 (c0 + 1) y09 y07 m0_0.devices ∧ OwS y0r 67 w132 g132 (c0 + 3) y0v y0l m0_0.links ∧ OwS (kint .i64) 3 w132 g132 (c0 + 5) y0q y0h m0_0.order ∧ Fr (fun q => (c0 ≤ q ∧ q < c0 + 7) ∨ (r0 ≤ q ∧ q < r0 + 2) ∨ N ≤ q) w g w132 g132) FUEL ?_ ?_
   ·exact ⟨(y01.mk (upd r49.1.devices p1 ({ x63 with count := wi (x63.count + 1) } : y0k)) r49.1.links r49.1.order r49.1.now), r49.2, 0, g113, A51, cap52, H, hS.re ⟨Z, Z, Z, Z, Z, Z, Z, trivial⟩, h110, h53, hb0, y04, y0j, y0i, hF⟩
   ·clear H
    clear y04 y0j y0i hb0 h53 h110 hF
    clear hS
    rintro k136 a w132 ⟨m0_0, m0_1, m0_2, g132, A133, cap134, hpre0, hS, h110, h135, hb0, y04, y0j, y0i, hF⟩
    have H := hpre0
    clear hpre0
    cases k136 with
    | zero => exact absurd H (by simp [y1u.l0])
    | succ k136 =>
     rw [y1u.l0] at H
     refine y16 [(0, .pointer (so b_p0)), (2, .int .u64 p2), (8, .slice A133 m0_1.length cap134), (9, .slice A108 r86.1.length cap109), (59, .slice y0q m0_0.order.length y0h), (60, i6 (r49.1.order.length : Int)), (61, i6 m0_2), (62, .bool (decide (m0_2 < (r49.1.order.length : Int))))] (fun R hR => y00 hS Z Z Z (y2l hS Z Z rfl y4t) fun a137 S137 => wpList_nil (hR _ (S137.re ⟨Z, Z, Z, Z, Z, Z, Z, Z, trivial⟩))) ?_
     clear hS a; intro a hS
     refine c_if hS Z (fun hb138 => ?_) (fun hb138 => ?_)
     ·replace H := y3f hb138 H
      refine wp_skip ?_
      change Code.wp _ _ _ _ _
      obtain ⟨v143, H, Hl145⟩ := y0b H
      refine y4u (fun a w139 => ∃ (g139 : Nat → Nat), ∃ (A140 : Option Addr), ∃ (cap141 : Nat), Sl 94 a [(0, .pointer (so b_p0)), (2, .int .u64 p2), (8, .slice A140 v143.2.length cap141), (9, .slice A108 r86.1.length cap109), (59, .slice y0q v143.1.order.length y0h), (60, i6 (r49.1.order.length : Int)), (61, i6 m0_2)] ∧ OwS (kint .i64) 3 w139 g139 (N + 4) A108 cap109 r86.1 ∧ OwS y18 47 w139 g139 (N + 0) A140 cap141 v143.2 ∧ Bx w139 g139 (c0) b_p0 85 [.slice y09 v143.1.devices.length y07, .slice y0v v143.1.links.length y0l, .slice y0q v143.1.order.length y0h, .int .u64 v143.1.now] ∧ OwS y1h 88 w139 g139 (c0 + 1) y09 y07 v143.1.devices ∧ OwS y0r 67 w139 g139 (c0 + 3) y0v y0l v143.1.links ∧ OwS (kint .i64) 3 w139 g139 (c0 + 5) y0q y0h v143.1.order ∧ Fr (fun q => (c0 ≤ q ∧ q < c0 + 7) ∨ (r0 ≤ q ∧ q < r0 + 2) ∨ N ≤ q) w g w139 g139) ?_ ?_
      ·refine wp_block ?_
       obtain ⟨x146, hx147, H⟩ := y0b H
       refine y16 [(0, .pointer (so b_p0)), (2, .int .u64 p2), (8, .slice A133 m0_1.length cap134), (9, .slice A108 r86.1.length cap109), (12, i6 x146), (59, .slice y0q m0_0.order.length y0h), (60, i6 (r49.1.order.length : Int)), (61, i6 m0_2)] (fun R hR => y00 hS Z Z Z (y1j (e := 3) (sz := 1) (by_ := 8) hS Z Z Z (by kernel_rfl) (RdS.some_ (OwS.rd y0i) hx147) (y26 hx147) (y27 hx147)) fun a148 S148 => y00 S148 Z Z Z (y0u (n := 1) S148 Z Z (by kernel_rfl) (RdS.cell (i := m0_2) (sz := 1) (j := 0) (OwS.rd y0i) hx147 Z)) fun a149 S149 => y00 S149 Z Z Z (y02 S149 Z Z) fun a150 S150 => wpList_nil (hR _ (S150.re ⟨Z, Z, Z, Z, Z, Z, Z, Z, trivial⟩))) ?_
       clear hS a; intro a hS
       obtain ⟨r153, hr154, H⟩ := y0b H
       obtain ⟨t180, ht181, H⟩ := y0b H
       refine y0t (fun K hK => ?_)
       refine y00 hS Z Z Z (y03 hS Z Z) fun a151 S151 => y00 S151 Z Z Z (y03 S151 Z Z) fun a152 S152 => ?_
       refine y1y S152 Z Z Z (y2z S152 Z Z (by kernel_rfl)) (y3a.calls (C0 := (fun q => q = N + 4)) (p0 := r86.1) (p1 := x146) (g := g132) (N + 8)  (OwD.rdf (fun _ _ _ _ _ _ h => h) h110) (fun q (hq : q = N + 4) => by omega) hr154) ?_
       rintro _ a155 w156 ⟨g156, rfl, F156⟩ S155
       replace h110 := OwS.fr h110 F156 (fun c' hc (hm : N + 8 ≤ c') => by omega)
       replace h135 := OwS.fr h135 F156 (fun c' hc (hm : N + 8 ≤ c') => by omega)
       replace hb0 := hb0.fr F156 (fun (hm : N + 8 ≤ c0) => by omega)
       replace y04 := OwS.fr y04 F156 (fun c' hc (hm : N + 8 ≤ c') => by omega)
       replace y0j := OwS.fr y0j F156 (fun c' hc (hm : N + 8 ≤ c') => by omega)
       replace y0i := OwS.fr y0i F156 (fun c' hc (hm : N + 8 ≤ c') => by omega)
       replace hF := hF.trans F156 (fun c' (hm : N + 8 ≤ c') => by (try dsimp only); omega)
       refine y00 S155 Z Z Z (y03 S155 Z Z) fun a157 S157 => ?_
       refine y4b (N := 94) 10 [(0, .pointer (so b_p0)), (2, .int .u64 p2), (8, .slice A133 m0_1.length cap134), (9, .slice A108 r86.1.length cap109), (12, i6 x146), (59, .slice y0q m0_0.order.length y0h), (60, i6 (r49.1.order.length : Int)), (61, i6 m0_2), (78, .bool t180)] ?_ (fun hk => ?_)
       rotate_left
       ·rcases Bool.eq_false_or_eq_true (r153) with hb158 | hb158
        ·have H := y3f hb158 ht181
         obtain ⟨x187, hx188, H⟩ := y0b H
         have e203 := Option.some.inj H
         refine y0p S157 (y0a S157 Z Z rfl hb158) Z Z (y03 S157 Z Z) fun a182 S182 => y0p S182 (y0a S182 Z Z rfl hb158) Z Z (y4s S182 Z Z) fun a183 S183 => y0p S183 (y0a S183 Z Z rfl hb158) Z Z (y1e (off := 0) S183 Z Z (by kernel_rfl)) fun a184 S184 => y0p S184 (y0a S184 Z Z rfl hb158) Z Z (y0u (n := 1) S184 Z Z (by kernel_rfl) (Bx.cell hb0 Z)) fun a185 S185 => y0p S185 (y0a S185 Z Z rfl hb158) Z Z (y03 S185 Z Z) fun a186 S186 => ?_
         obtain ⟨_, ⟨A190, cap191, A194, cap195, rfl, h192, h196⟩, hel189⟩ := El.of (OwD.rdx y04) hx188 (by decide)
         replace hel189 : El w156 g156 (fun q => q = c0 + 1) y09 (x146.toNat * 6) [.int .u64 x187.delay, .slice A190 x187.suppliers.length cap191, .slice A194 x187.consumers.length cap195, .bool x187.active, i6 x187.count, .int .u64 x187.idle] := hel189
         refine y0p S186 (y0a S186 Z Z rfl hb158) Z Z (y1j (e := 88) (sz := 6) (by_ := 80) S186 Z Z Z (by kernel_rfl) (RdS.some_ (OwS.rd y04) hx188) (y26 hx188) (y27 hx188)) fun a199 S199 => y0p S199 (y0a S199 Z Z rfl hb158) Z Z (y2w (off := 3) S199 Z Z (by kernel_rfl)) fun a200 S200 => y0p S200 (y0a S200 Z Z rfl hb158) Z Z (y0u (n := 1) S200 Z Z (by kernel_rfl) (El.cell (j := 3) hel189 Z)) fun a201 S201 => y0p S201 (y0a S201 Z Z rfl hb158) Z Z (r_not S201 Z Z) fun a202 S202 => y00 S202 Z Z Z (y2s S202 Z Z rfl hb158) fun a204 S204 => hk _ (S204.re ⟨rfl, rfl, rfl, rfl, rfl, rfl, rfl, rfl, (by rw [← e203]; rfl), trivial⟩)
        ·have H := y3g hb158 ht181
         have e205 := Option.some.inj H
         refine y1c S157 (y05 S157 Z Z rfl hb158) Z Z fun a206 S206 => y1c S206 (y05 S206 Z Z rfl hb158) Z Z fun a207 S207 => y1c S207 (y05 S207 Z Z rfl hb158) Z Z fun a208 S208 => y1c S208 (y05 S208 Z Z rfl hb158) Z Z fun a209 S209 => y1c S209 (y05 S209 Z Z rfl hb158) Z Z fun a210 S210 => y1c S210 (y05 S210 Z Z rfl hb158) Z Z fun a211 S211 => y1c S211 (y05 S211 Z Z rfl hb158) Z Z fun a212 S212 => y1c S212 (y05 S212 Z Z rfl hb158) Z Z fun a213 S213 => y1c S213 (y05 S213 Z Z rfl hb158) Z Z fun a214 S214 => y00 S214 Z Z Z (y2t S214 Z Z rfl hb158) fun a215 S215 => hk _ (S215.re ⟨rfl, rfl, rfl, rfl, rfl, rfl, rfl, rfl, (by rw [← e205]; rfl), trivial⟩)
       intro a216 S216
       refine wpList_nil (hK _ _ ?_)
       replace hS : Sl 94 _ [(0, .pointer (so b_p0)), (2, .int .u64 p2), (8, .slice A133 m0_1.length cap134), (9, .slice A108 r86.1.length cap109), (12, i6 x146), (59, .slice y0q m0_0.order.length y0h), (60, i6 (r49.1.order.length : Int)), (61, i6 m0_2), (78, .bool t180)] := S216.re ⟨Z, Z, Z, Z, Z, Z, Z, Z, Z, trivial⟩
       clear hK K
       try clear S151 S152 S155 S157 S216
       generalize a216 = a at hS ⊢
       refine y2m hS Z (fun hb217 => ?_) (fun hb217 => ?_)
       ·replace H := y3f hb217 H
        obtain ⟨x223, hx224, H⟩ := y0b H
        refine y0t (fun K hK => ?_)
        refine y00 hS Z Z Z (y03 hS Z Z) fun a218 S218 => y00 S218 Z Z Z (y4s S218 Z Z) fun a219 S219 => y00 S219 Z Z Z (y1e (off := 0) S219 Z Z (by kernel_rfl)) fun a220 S220 => y00 S220 Z Z Z (y0u (n := 1) S220 Z Z (by kernel_rfl) (Bx.cell hb0 Z)) fun a221 S221 => y00 S221 Z Z Z (y03 S221 Z Z) fun a222 S222 => ?_
        obtain ⟨_, ⟨A226, cap227, A230, cap231, rfl, h228, h232⟩, hel225⟩ := El.of (OwD.rdx y04) hx224 (by decide)
        replace hel225 : El w156 g156 (fun q => q = c0 + 1) y09 (x146.toNat * 6) [.int .u64 x223.delay, .slice A226 x223.suppliers.length cap227, .slice A230 x223.consumers.length cap231, .bool x223.active, i6 x223.count, .int .u64 x223.idle] := hel225
        refine y00 S222 Z Z Z (y1j (e := 88) (sz := 6) (by_ := 80) S222 Z Z Z (by kernel_rfl) (RdS.some_ (OwS.rd y04) hx224) (y26 hx224) (y27 hx224)) fun a235 S235 => y00 S235 Z Z Z (y2w (off := 3) S235 Z Z (by kernel_rfl)) fun a236 S236 => ?_
        refine y3s S236 Z Z (y4l (n := 1) (bb := false) (kd := y1h) (j := 3) (x' := ({ x223 with active := true } : y0k)) (us := [.bool true]) g156 S236 Z Z Z Z (by kernel_rfl) Z Z (by intro v hv; simp only [List.mem_cons, List.not_mem_nil, or_false] at hv; rcases hv with rfl <;> rfl) y04 hx224 Z (fun _ _ cs hR => by obtain ⟨A0, cap0, A1, cap1, rfl, h0, h1⟩ := hR; exact ⟨A0, cap0, A1, cap1, rfl, h0, h1⟩)) ?_
        rintro a237 w238 g238 ⟨y04, F238⟩ S237
        replace h110 := OwS.fr h110 F238 (fun c' hc (hm : c' = c0 + 1) => by omega)
        replace h228 := RdS.fr h228 F238 (by decide) (fun q (hq : q = c0 + 1 + 1) (hm : q = c0 + 1) => by omega)
        replace h232 := RdS.fr h232 F238 (by decide) (fun q (hq : q = c0 + 1 + 1) (hm : q = c0 + 1) => by omega)
        replace h135 := OwS.fr h135 F238 (fun c' hc (hm : c' = c0 + 1) => by omega)
        replace hb0 := hb0.fr F238 (fun (hm : c0 = c0 + 1) => by omega)
        replace y0j := OwS.fr y0j F238 (fun c' hc (hm : c' = c0 + 1) => by omega)
        replace y0i := OwS.fr y0i F238 (fun c' hc (hm : c' = c0 + 1) => by omega)
        replace hF := hF.trans F238 (fun c' (hm : c' = c0 + 1) => by (try dsimp only); omega)
        replace hb0 : Bx w238 g238 (c0) b_p0 85 [.slice y09 (upd m0_0.devices x146 ({ x223 with active := true } : y0k)).length y07, .slice y0v m0_0.links.length y0l, .slice y0q m0_0.order.length y0h, .int .u64 m0_0.now] := by simpa only [y1w] using hb0
        refine wpList_nil (hK _ _ ?_)
        replace hS : Sl 94 _ [(0, .pointer (so b_p0)), (2, .int .u64 p2), (8, .slice A133 m0_1.length cap134), (9, .slice A108 r86.1.length cap109), (12, i6 x146), (59, .slice y0q m0_0.order.length y0h), (60, i6 (r49.1.order.length : Int)), (61, i6 m0_2)] := S237.re ⟨Z, Z, Z, Z, Z, Z, Z, Z, trivial⟩
        clear hK K
        try clear S218 S219 S220 S221 S222 S235 S236 S237
        generalize a237 = a at hS ⊢
        obtain ⟨y248, hy249, H⟩ := y0b H
        refine y3l (fun K hK => ?_)
        refine y00 hS Z Z Z (y03 hS Z Z) fun a239 S239 => y00 S239 Z Z Z (y03 S239 Z Z) fun a240 S240 => y00 S240 Z Z Z (y03 S240 Z Z) fun a241 S241 => y00 S241 Z Z Z (r_build (parts := [(0, i6 x146), (1, .bool true), (2, .int .u64 p2)]) (u := .agg #[i6 x146, .bool true, .int .u64 p2]) S241 Z Z (fun _ => by kernel_rfl)) fun a242 S242 => ?_
        refine y41 S242 Z Z Z (e_lit (e := 47) (parts := [(0, .agg #[i6 x146, .bool true, .int .u64 p2])]) (cs := [i6 x146, .bool true, .int .u64 p2]) y18 [(y0e.mk x146 true p2)] (N + 6) g238 S242 Z Z (fun _ => by kernel_rfl) Z (by decide) (Rows.cons (cs := [i6 x146, .bool true, .int .u64 p2]) rfl Rows.nil)) ?_
        rintro _ a246 w247 g247 ⟨⟨A243, rfl, h244⟩, F247⟩ S246
        replace h110 := OwS.fr h110 F247 (fun _ _ h => h)
        replace h135 := OwS.fr h135 F247 (fun _ _ h => h)
        replace hb0 := hb0.fr F247 (fun h => h)
        replace y04 := OwS.fr y04 F247 (fun _ _ h => h)
        replace y0j := OwS.fr y0j F247 (fun _ _ h => h)
        replace y0i := OwS.fr y0i F247 (fun _ _ h => h)
        replace hF := hF.trans F247 (fun _ h => h.elim)
        refine y41 S246 Z Z Z (y4g (e := 47) (sz := 3) (by_ := 24) (z := [i6 0, .bool false, .int .u64 0]) (kd := y18) g247 S246 Z Z Z Z (by kernel_rfl) (by kernel_rfl) Z Z Z Z h135 (OwD.rdx h244) (fun _ _ _ h => h) hy249) ?_
        rintro _ a254 w255 g255 ⟨⟨A250, cap251, rfl, h252⟩, F255⟩ S254
        replace h110 := OwS.fr h110 F255 (fun c' hc (hm : c' = N + 0) => by omega)
        replace h244 := OwS.fr h244 F255 (fun c' hc (hm : c' = N + 0) => by omega)
        replace hb0 := hb0.fr F255 (fun (hm : c0 = N + 0) => by omega)
        replace y04 := OwS.fr y04 F255 (fun c' hc (hm : c' = N + 0) => by omega)
        replace y0j := OwS.fr y0j F255 (fun c' hc (hm : c' = N + 0) => by omega)
        replace y0i := OwS.fr y0i F255 (fun c' hc (hm : c' = N + 0) => by omega)
        replace hF := hF.trans F255 (fun c' (hm : c' = N + 0) => by (try dsimp only); omega)
        refine y00 S254 Z Z Z (y02 S254 Z Z) fun a256 S256 => wpList_nil (hK _ _ ?_)
        replace hS : Sl 94 _ [(0, .pointer (so b_p0)), (2, .int .u64 p2), (8, .slice A250 y248.length cap251), (9, .slice A108 r86.1.length cap109), (59, .slice y0q m0_0.order.length y0h), (60, i6 (r49.1.order.length : Int)), (61, i6 m0_2)] := S256.re ⟨Z, Z, Z, Z, Z, Z, Z, trivial⟩
        clear hK K
        try clear S239 S240 S241 S242 S246 S254 S256
        generalize a256 = a at hS ⊢
        have e := Option.some.inj H
        subst e
        exact ⟨g255, A250, cap251, hS.re ⟨Z, Z, Z, Z, Z, Z, Z, trivial⟩, h110, h252, hb0, y04, y0j, y0i, hF⟩
       ·replace H := y3g hb217 H
        refine wp_skip ?_
        have e := Option.some.inj H
        subst e
        exact ⟨g156, A133, cap134, hS.re ⟨Z, Z, Z, Z, Z, Z, Z, trivial⟩, h110, h135, hb0, y04, y0j, y0i, hF⟩
      ·clear H
       clear y04 y0j y0i hb0 h110 h135 hF
       clear hS
       rintro a w139 ⟨g139, A140, cap141, hS, h110, h142, hb0, y04, y0j, y0i, hF⟩
       have H := Hl145
       clear Hl145
       refine y3e [(0, .pointer (so b_p0)), (2, .int .u64 p2), (8, .slice A140 v143.2.length cap141), (9, .slice A108 r86.1.length cap109), (59, .slice y0q v143.1.order.length y0h), (60, i6 (r49.1.order.length : Int)), (61, i6 (wi (m0_2 + 1)))] (fun R hR => y00 hS Z Z Z (y2l hS Z Z rfl y4z) fun a257 S257 => y00 S257 Z Z Z (y03 S257 Z Z) fun a258 S258 => wpList_nil (hR _ (S258.re ⟨Z, Z, Z, Z, Z, Z, Z, trivial⟩))) ?_
       clear hS a; intro a hS
       refine ⟨k136, Nat.lt_succ_self _, ?_⟩
       exact ⟨v143.1, v143.2, wi (m0_2 + 1), g139, A140, cap141, H, hS.re ⟨Z, Z, Z, Z, Z, Z, Z, trivial⟩, h110, h142, hb0, y04, y0j, y0i, hF⟩
     ·replace H := y3g hb138 H
      refine wp_exit ?_
      have e := Option.some.inj H
      subst e
      exact ⟨g132, A133, cap134, hS.re ⟨Z, trivial⟩, h135, hb0, y04, y0j, y0i, hF⟩
  ·clear H
   clear y04 y0j y0i hb0 h53 h110 hF
   clear hS
   rintro a w119 ⟨g119, A120, cap121, hS, h122, hb0, y04, y0j, y0i, hF⟩
   have H := Hl125
   clear Hl125
   refine y16 [(6, .slice A120 v123.1.length cap121), (7, i6 0)] (fun R hR => y00 hS Z Z Z (y03 hS Z Z) fun a259 S259 => y00 S259 Z Z Z (y02 S259 Z Z) fun a260 S260 => y00 S260 Z Z Z (y02 S260 Z Z) fun a261 S261 => wpList_nil (hR _ (S261.re ⟨Z, Z, trivial⟩))) ?_
   clear hS a; intro a hS
   refine wp_ret ?_
   have e := Option.some.inj H
   subst e
   have F262 := Fr.y2f w119 g119 (N + 0) r0
   replace h122 := h122.y2f r0
   replace hb0 := hb0.fr F262 (fun (hm : c0 = N + 0 ∨ c0 = N + 0 + 1) => by omega)
   replace y04 := OwS.fr y04 F262 (fun c' hc (hm : c' = N + 0 ∨ c' = N + 0 + 1) => by omega)
   replace y0j := OwS.fr y0j F262 (fun c' hc (hm : c' = N + 0 ∨ c' = N + 0 + 1) => by omega)
   replace y0i := OwS.fr y0i F262 (fun c' hc (hm : c' = N + 0 ∨ c' = N + 0 + 1) => by omega)
   replace hF := hF.trans F262 (fun c' (hm : c' = N + 0 ∨ c' = N + 0 + 1) => by (try dsimp only); omega)
   repeat (with_reducible first | refine y1i ?_ | refine y0o ?_)
   exact y4d hS Try.results43 Z rfl ⟨_, rfl, (y2f g119 (N + 0) r0), A120, cap121, rfl, ⟨hb0, y04, y0j, y0i⟩, h122, hF⟩


end Go.Proofs.Ytcfcffbjdjacfaa.Sim

namespace Go.Proofs.Ytcfcffbjdjacfaa.Sim
open Go
set_option linter.unusedVariables false
set_option linter.unusedSimpArgs false

/-! ### y2g: function 24 -/
def y2g.f (p0 : y01) : Option (Int × Bool) := (y1q.f p0).bind fun r4 => some (r4.2, decide (0 ≤ r4.1))
set_option maxRecDepth 100000 in
set_option maxHeartbeats 4000000 in
theorem y2g.calls {p0 : y01} {c0 : Nat}  {b_p0 : Nat} {y09 : Option Addr} {y07 : Nat} {y0v : Option Addr} {y0l : Nat} {y0q : Option Addr} {y0h : Nat} {w : World} {g : Nat → Nat} {out : Int × Bool} (N : Nat) (hp0 : y1v w g c0 b_p0 y09 y07 y0v y0l y0q y0h p0) (hc0 : c0 + 7 ≤ N) (H : y2g.f p0 = some out) :
  Calls Try.prog 24 #[.pointer (so b_p0)] w (fun e w' => ∃ v, e = .returned v ∧ ∃ (g' : Nat → Nat), v = .tuple #[.int .u64 out.1, .bool out.2] ∧ Fr (fun q => N ≤ q) w g w' g') := by
 unfold y2g.f at H
 refine y1k Try.func24 rfl Try.ntmps24 Z (fun a hS => ?_)
 replace hS : Sl 14 a [(0, .pointer (so b_p0))] := hS
 have hF : Fr (fun q => N ≤ q) w g w g := Fr.refl _ _ _
 obtain ⟨hb0, y04, y0j, y0i⟩ := hp0
 refine y16 [(0, .pointer (so b_p0))] (fun R hR => y00 hS Z Z Z (y02 hS Z Z) fun a1 S1 => y00 S1 Z Z Z (y02 S1 Z Z) fun a2 S2 => wpList_nil (hR _ (S2.re ⟨Z, trivial⟩))) ?_
 clear hS a; intro a hS
 obtain ⟨r4, hr5, H⟩ := y0b H
 refine y0t (fun K hK => ?_)
 refine y00 hS Z Z Z (y03 hS Z Z) fun a3 S3 => ?_
 refine y1y S3 Z Z Z (y2z S3 Z Z (by kernel_rfl)) (y1q.calls (c0 := c0) (b_p0 := b_p0) (y09 := y09) (y07 := y07) (y0v := y0v) (y0l := y0l) (y0q := y0q) (y0h := y0h) (p0 := p0) (g := g) (N + 0)  ⟨hb0, y04, y0j, y0i⟩ (by omega) hr5) ?_
 rintro _ a6 w7 ⟨g7, rfl, F7⟩ S6
 replace hb0 := hb0.fr F7 (fun (hm : N + 0 ≤ c0) => by omega)
 replace y04 := OwS.fr y04 F7 (fun c' hc (hm : N + 0 ≤ c') => by omega)
 replace y0j := OwS.fr y0j F7 (fun c' hc (hm : N + 0 ≤ c') => by omega)
 replace y0i := OwS.fr y0i F7 (fun c' hc (hm : N + 0 ≤ c') => by omega)
 replace hF := hF.trans F7 (fun c' (hm : N + 0 ≤ c') => by (try dsimp only); omega)
 refine y00 S6 Z Z Z (y03 S6 Z Z) fun a8 S8 => y00 S8 Z Z Z (y1z S8 Z Z Z) fun a9 S9 => y00 S9 Z Z Z (y1z S9 Z Z Z) fun a10 S10 => y00 S10 Z Z Z (y02 S10 Z Z) fun a11 S11 => y00 S11 Z Z Z (y02 S11 Z Z) fun a12 S12 => wpList_nil (hK _ _ ?_)
 replace hS : Sl 14 _ [(4, i6 r4.1), (5, .int .u64 r4.2)] := S12.re ⟨Z, Z, trivial⟩
 clear hK K
 try clear S3 S6 S8 S9 S10 S11 S12
 generalize a12 = a at hS ⊢
 refine y16 [(2, .int .u64 r4.2), (3, .bool (decide (0 ≤ r4.1)))] (fun R hR => y00 hS Z Z Z (y03 hS Z Z) fun a13 S13 => y00 S13 Z Z Z (y03 S13 Z Z) fun a14 S14 => y00 S14 Z Z Z (y2l S14 Z Z rfl b_geq) fun a15 S15 => y00 S15 Z Z Z (y02 S15 Z Z) fun a16 S16 => y00 S16 Z Z Z (y02 S16 Z Z) fun a17 S17 => wpList_nil (hR _ (S17.re ⟨Z, Z, trivial⟩))) ?_
 clear hS a; intro a hS
 refine wp_ret ?_
 have e := Option.some.inj H
 subst e
 repeat (with_reducible first | refine y1i ?_ | refine y0o ?_)
 exact y4d hS Try.results24 Z rfl ⟨_, rfl, g7, rfl, hF⟩


end Go.Proofs.Ytcfcffbjdjacfaa.Sim

namespace Go.Proofs.Ytcfcffbjdjacfaa.Sim
open Go
set_option linter.unusedVariables false
set_option linter.unusedSimpArgs false

/-! ### y31: function 34 -/
def y31.f (p0 : y01) (p1 : Int) (p2 : Int) : Option (y01 × (List y0e) × Int) := (y2j.f p0 p1).bind fun r5 => (if (!r5) = true then some true else (y2d.f p0 p2).bind fun r14 => some (!r14)).bind fun t19 => if t19 = true then (some (p0, [], 1)) else ((idx p0.devices p1).bind fun x47 => if (x47.count == 0) = true then (some (p0, [], 9)) else ((y0s.f (y01.mk p0.devices p0.links p0.order p2) p2).bind fun r75 => (idx r75.1.devices p1).bind fun x89 => ((y2h.f (y01.mk (upd r75.1.devices p1 ({ x89 with count := wi (x89.count - 1) } : y0k)) r75.1.links r75.1.order r75.1.now) p1).bind fun r115 => if r115 = true then ((idx (upd r75.1.devices p1 ({ x89 with count := wi (x89.count - 1) } : y0k)) p1).bind fun x126 => some (y01.mk (upd (upd r75.1.devices p1 ({ x89 with count := wi (x89.count - 1) } : y0k)) p1 ({ x126 with idle := p2 } : y0k)) r75.1.links r75.1.order r75.1.now)) else (some (y01.mk (upd r75.1.devices p1 ({ x89 with count := wi (x89.count - 1) } : y0k)) r75.1.links r75.1.order r75.1.now)) : Option (y01)).bind fun v110 => (y0s.f v110 p2).bind fun r145 => (app r75.2 r145.2).bind fun y153 => some (r145.1, y153, 0)))
set_option maxRecDepth 100000 in
set_option maxHeartbeats 4000000 in
theorem y31.calls {p0 : y01} {c0 : Nat}  {b_p0 : Nat} {y09 : Option Addr} {y07 : Nat} {y0v : Option Addr} {y0l : Nat} {y0q : Option Addr} {y0h : Nat} {p1 : Int} {p2 : Int} {w : World} {g : Nat → Nat} {out : y01 × (List y0e) × Int} (N : Nat) (r0 : Nat) (hp0 : y1v w g c0 b_p0 y09 y07 y0v y0l y0q y0h p0) (hc0 : c0 + 7 ≤ N) (hr0 : r0 + 2 ≤ N) (hq0_0 : r0 + 2 ≤ c0 ∨ c0 + 7 ≤ r0) (H : y31.f p0 p1 p2 = some out) :
  Calls Try.prog 34 #[.pointer (so b_p0), i6 p1, .int .u64 p2] w (fun e w' => ∃ v, e = .returned v ∧ ∃ (g' : Nat → Nat) (A_r0 : Option Addr) (cap_r0 : Nat), v = .tuple #[.slice A_r0 out.2.1.length cap_r0, i6 out.2.2] ∧ y1v w' g' c0 b_p0 y09 y07 y0v y0l y0q y0h out.1 ∧ OwS y18 47 w' g' r0 A_r0 cap_r0 out.2.1 ∧ Fr (fun q => (c0 ≤ q ∧ q < c0 + 7) ∨ (r0 ≤ q ∧ q < r0 + 2) ∨ N ≤ q) w g w' g') := by
 unfold y31.f at H
 refine y1k Try.func34 rfl Try.ntmps34 Z (fun a hS => ?_)
 replace hS : Sl 64 a [(0, .pointer (so b_p0)), (1, i6 p1), (2, .int .u64 p2)] := hS
 have hF : Fr (fun q => (c0 ≤ q ∧ q < c0 + 7) ∨ (r0 ≤ q ∧ q < r0 + 2) ∨ N ≤ q) w g w g := Fr.refl _ _ _
 obtain ⟨hb0, y04, y0j, y0i⟩ := hp0
 refine y16 [(0, .pointer (so b_p0)), (1, i6 p1), (2, .int .u64 p2)] (fun R hR => y00 hS Z Z Z (y02 hS Z Z) fun a1 S1 => y00 S1 Z Z Z (y02 S1 Z Z) fun a2 S2 => wpList_nil (hR _ (S2.re ⟨Z, Z, Z, trivial⟩))) ?_
 clear hS a; intro a hS
 refine wp_seq ?_
 refine wp_block ?_
 obtain ⟨r5, hr6, H⟩ := y0b H
 obtain ⟨t19, ht20, H⟩ := y0b H
 refine y0t (fun K hK => ?_)
 refine y00 hS Z Z Z (y03 hS Z Z) fun a3 S3 => y00 S3 Z Z Z (y03 S3 Z Z) fun a4 S4 => ?_
 refine y1y S4 Z Z Z (y2z S4 Z Z (by kernel_rfl)) (y2j.calls (c0 := c0) (b_p0 := b_p0) (y09 := y09) (y07 := y07) (y0v := y0v) (y0l := y0l) (y0q := y0q) (y0h := y0h) (p0 := p0) (p1 := p1) (g := g) (N + 4)  ⟨hb0, y04, y0j, y0i⟩ (by omega) hr6) ?_
 rintro _ a7 w8 ⟨g8, rfl, F8⟩ S7
 replace hb0 := hb0.fr F8 (fun (hm : N + 4 ≤ c0) => by omega)
 replace y04 := OwS.fr y04 F8 (fun c' hc (hm : N + 4 ≤ c') => by omega)
 replace y0j := OwS.fr y0j F8 (fun c' hc (hm : N + 4 ≤ c') => by omega)
 replace y0i := OwS.fr y0i F8 (fun c' hc (hm : N + 4 ≤ c') => by omega)
 replace hF := hF.trans F8 (fun c' (hm : N + 4 ≤ c') => by (try dsimp only); omega)
 refine y00 S7 Z Z Z (r_not S7 Z Z) fun a9 S9 => y00 S9 Z Z Z (y03 S9 Z Z) fun a10 S10 => ?_
 refine g_joinR 5 (fun a w21 => ∃ (g21 : Nat → Nat), Sl 64 a [(0, .pointer (so b_p0)), (1, i6 p1), (2, .int .u64 p2), (19, .bool t19)] ∧ Bx w21 g21 (c0) b_p0 85 [.slice y09 p0.devices.length y07, .slice y0v p0.links.length y0l, .slice y0q p0.order.length y0h, .int .u64 p0.now] ∧ OwS y1h 88 w21 g21 (c0 + 1) y09 y07 p0.devices ∧ OwS y0r 67 w21 g21 (c0 + 3) y0v y0l p0.links ∧ OwS (kint .i64) 3 w21 g21 (c0 + 5) y0q y0h p0.order ∧ Fr (fun q => (c0 ≤ q ∧ q < c0 + 7) ∨ (r0 ≤ q ∧ q < r0 + 2) ∨ N ≤ q) w g w21 g21) ?_ (fun hk => ?_)
 rotate_left
 ·rcases Bool.eq_false_or_eq_true ((!r5)) with hb11 | hb11
  ·have H := y3f hb11 ht20
   have e22 := Option.some.inj H
   refine y1c S10 (y05 S10 Z Z rfl hb11) Z Z fun a23 S23 => y1c S23 (y05 S23 Z Z rfl hb11) Z Z fun a24 S24 => y1c S24 (y05 S24 Z Z rfl hb11) Z Z fun a25 S25 => y1c S25 (y05 S25 Z Z rfl hb11) Z Z fun a26 S26 => y00 S26 Z Z Z (y2s S26 Z Z rfl hb11) fun a27 S27 => hk _ _ ?_
   exact ⟨g8, S27.re ⟨rfl, rfl, rfl, (by rw [← e22]; rfl), trivial⟩, hb0, y04, y0j, y0i, hF⟩
  ·have H := y3g hb11 ht20
   obtain ⟨r30, hr31, H⟩ := y0b H
   have e35 := Option.some.inj H
   refine y0p S10 (y0a S10 Z Z rfl hb11) Z Z (y03 S10 Z Z) fun a28 S28 => y0p S28 (y0a S28 Z Z rfl hb11) Z Z (y03 S28 Z Z) fun a29 S29 => ?_
   refine st_enterW S29 (y0a S29 Z Z rfl hb11) Z Z (y2z S29 Z Z (by kernel_rfl)) (y2d.calls (c0 := c0) (b_p0 := b_p0) (y09 := y09) (y07 := y07) (y0v := y0v) (y0l := y0l) (y0q := y0q) (y0h := y0h) (p0 := p0) (p1 := p2) (g := g8) (N + 4)  ⟨hb0, y04, y0j, y0i⟩ (by omega) hr31) ?_
   rintro _ a32 w33 ⟨g33, rfl, F33⟩ S32
   replace hb0 := hb0.fr F33 (fun (hm : N + 4 ≤ c0) => by omega)
   replace y04 := OwS.fr y04 F33 (fun c' hc (hm : N + 4 ≤ c') => by omega)
   replace y0j := OwS.fr y0j F33 (fun c' hc (hm : N + 4 ≤ c') => by omega)
   replace y0i := OwS.fr y0i F33 (fun c' hc (hm : N + 4 ≤ c') => by omega)
   replace hF := hF.trans F33 (fun c' (hm : N + 4 ≤ c') => by (try dsimp only); omega)
   refine y0p S32 (y0a S32 Z Z rfl hb11) Z Z (r_not S32 Z Z) fun a34 S34 => ?_
   refine y00 S34 Z Z Z (y2t S34 Z Z rfl hb11) fun a36 S36 => hk _ _ ?_
   exact ⟨g33, S36.re ⟨rfl, rfl, rfl, (by rw [← e35]; rfl), trivial⟩, hb0, y04, y0j, y0i, hF⟩
 rintro a37 w21 ⟨g21, S37, hb0, y04, y0j, y0i, hF⟩
 refine y00 S37 Z Z Z (y02 S37 Z Z) fun a38 S38 => wpList_nil (hK _ _ ?_)
 replace hS : Sl 64 _ [(0, .pointer (so b_p0)), (1, i6 p1), (2, .int .u64 p2), (9, .bool t19)] := S38.re ⟨Z, Z, Z, Z, trivial⟩
 clear hK K
 try clear S3 S4 S7 S9 S10 S37 S38
 generalize a38 = a at hS ⊢
 refine y2m hS Z (fun hb39 => ?_) (fun hb39 => ?_)
 ·replace H := y3f hb39 H
  refine y16 [(6, .slice none 0 0), (7, i6 1)] (fun R hR => y00 hS Z Z Z (y02 hS Z Z) fun a40 S40 => y00 S40 Z Z Z (y02 S40 Z Z) fun a41 S41 => wpList_nil (hR _ (S41.re ⟨Z, Z, trivial⟩))) ?_
  clear hS a; intro a hS
  refine wp_ret ?_
  have e := Option.some.inj H
  subst e
  repeat (with_reducible first | refine y1i ?_ | refine y0o ?_)
  exact y4d hS Try.results34 Z rfl ⟨_, rfl, g21, none, 0, rfl, ⟨hb0, y04, y0j, y0i⟩, OwS.nil y18 47 w21 g21 r0, hF⟩
 ·replace H := y3g hb39 H
  obtain ⟨x47, hx48, H⟩ := y0b H
  refine y0t (fun K hK => ?_)
  refine y00 hS Z Z Z (y03 hS Z Z) fun a42 S42 => y00 S42 Z Z Z (y4s S42 Z Z) fun a43 S43 => y00 S43 Z Z Z (y1e (off := 0) S43 Z Z (by kernel_rfl)) fun a44 S44 => y00 S44 Z Z Z (y0u (n := 1) S44 Z Z (by kernel_rfl) (Bx.cell hb0 Z)) fun a45 S45 => y00 S45 Z Z Z (y03 S45 Z Z) fun a46 S46 => ?_
  obtain ⟨_, ⟨A50, cap51, A54, cap55, rfl, h52, h56⟩, hel49⟩ := El.of (OwD.rdx y04) hx48 (by decide)
  replace hel49 : El w21 g21 (fun q => q = c0 + 1) y09 (p1.toNat * 6) [.int .u64 x47.delay, .slice A50 x47.suppliers.length cap51, .slice A54 x47.consumers.length cap55, .bool x47.active, i6 x47.count, .int .u64 x47.idle] := hel49
  refine y00 S46 Z Z Z (y1j (e := 88) (sz := 6) (by_ := 80) S46 Z Z Z (by kernel_rfl) (RdS.some_ (OwS.rd y04) hx48) (y26 hx48) (y27 hx48)) fun a59 S59 => y00 S59 Z Z Z (y2w (off := 4) S59 Z Z (by kernel_rfl)) fun a60 S60 => y00 S60 Z Z Z (y0u (n := 1) S60 Z Z (by kernel_rfl) (El.cell (j := 4) hel49 Z)) fun a61 S61 => y00 S61 Z Z Z (y2l S61 Z Z rfl b_eql) fun a62 S62 => y00 S62 Z Z Z (y02 S62 Z Z) fun a63 S63 => wpList_nil (hK _ _ ?_)
  replace hS : Sl 64 _ [(0, .pointer (so b_p0)), (1, i6 p1), (2, .int .u64 p2), (20, .bool (x47.count == 0))] := S63.re ⟨Z, Z, Z, Z, trivial⟩
  clear hK K
  try clear S42 S43 S44 S45 S46 S59 S60 S61 S62 S63
  generalize a63 = a at hS ⊢
  refine y2m hS Z (fun hb64 => ?_) (fun hb64 => ?_)
  ·replace H := y3f hb64 H
   refine y16 [(6, .slice none 0 0), (7, i6 9)] (fun R hR => y00 hS Z Z Z (y02 hS Z Z) fun a65 S65 => y00 S65 Z Z Z (y02 S65 Z Z) fun a66 S66 => wpList_nil (hR _ (S66.re ⟨Z, Z, trivial⟩))) ?_
   clear hS a; intro a hS
   refine wp_ret ?_
   have e := Option.some.inj H
   subst e
   repeat (with_reducible first | refine y1i ?_ | refine y0o ?_)
   exact y4d hS Try.results34 Z rfl ⟨_, rfl, g21, none, 0, rfl, ⟨hb0, y04, y0j, y0i⟩, OwS.nil y18 47 w21 g21 r0, hF⟩
  ·replace H := y3g hb64 H
   refine wp_skip ?_
   change Code.wp _ _ _ _ _
   refine y0t (fun K hK => ?_)
   refine y00 hS Z Z Z (y03 hS Z Z) fun a67 S67 => y00 S67 Z Z Z (y03 S67 Z Z) fun a68 S68 => y00 S68 Z Z Z (y4s S68 Z Z) fun a69 S69 => y00 S69 Z Z Z (y1e (off := 3) S69 Z Z (by kernel_rfl)) fun a70 S70 => ?_
   refine y3s S70 Z Z (y4a (n := 1) (bb := false) (cs' := [.slice y09 p0.devices.length y07, .slice y0v p0.links.length y0l, .slice y0q p0.order.length y0h, .int .u64 p2]) g21 S70 Z Z Z (by kernel_rfl) Z Z rfl hb0 Z Z) ?_
   rintro a71 w72 g72 ⟨hb0, F72⟩ S71
   replace y04 := OwS.fr y04 F72 (fun c' hc (hm : c' = c0) => by omega)
   replace y0j := OwS.fr y0j F72 (fun c' hc (hm : c' = c0) => by omega)
   replace y0i := OwS.fr y0i F72 (fun c' hc (hm : c' = c0) => by omega)
   replace hF := hF.trans F72 (fun c' (hm : c' = c0) => by (try dsimp only); omega)
   refine wpList_nil (hK _ _ ?_)
   replace hS : Sl 64 _ [(0, .pointer (so b_p0)), (1, i6 p1), (2, .int .u64 p2)] := S71.re ⟨Z, Z, Z, trivial⟩
   clear hK K
   try clear S67 S68 S69 S70 S71
   generalize a71 = a at hS ⊢
   obtain ⟨r75, hr76, H⟩ := y0b H
   refine y0t (fun K hK => ?_)
   refine y00 hS Z Z Z (y03 hS Z Z) fun a73 S73 => y00 S73 Z Z Z (y03 S73 Z Z) fun a74 S74 => ?_
   refine y1y S74 Z Z Z (y2z S74 Z Z (by kernel_rfl)) (y0s.calls (c0 := c0) (b_p0 := b_p0) (y09 := y09) (y07 := y07) (y0v := y0v) (y0l := y0l) (y0q := y0q) (y0h := y0h) (p0 := (y01.mk p0.devices p0.links p0.order p2)) (p1 := p2) (g := g72) (N + 4) (N + 0) ⟨hb0, y04, y0j, y0i⟩ (by omega) (by omega) (by omega) hr76) ?_
   rintro _ a81 w82 ⟨g82, A77, cap78, rfl, ⟨hb0, y04, y0j, y0i⟩, h79, F82⟩ S81
   replace hF := hF.trans F82 (fun c' (hm : (c0 ≤ c' ∧ c' < c0 + 7) ∨ (N + 0 ≤ c' ∧ c' < N + 0 + 2) ∨ N + 4 ≤ c') => by (try dsimp only); omega)
   refine y00 S81 Z Z Z (y02 S81 Z Z) fun a83 S83 => wpList_nil (hK _ _ ?_)
   replace hS : Sl 64 _ [(0, .pointer (so b_p0)), (1, i6 p1), (2, .int .u64 p2), (8, .slice A77 r75.2.length cap78)] := S83.re ⟨Z, Z, Z, Z, trivial⟩
   clear hK K
   try clear S73 S74 S81 S83
   generalize a83 = a at hS ⊢
   obtain ⟨x89, hx90, H⟩ := y0b H
   refine y0t (fun K hK => ?_)
   refine y00 hS Z Z Z (y03 hS Z Z) fun a84 S84 => y00 S84 Z Z Z (y4s S84 Z Z) fun a85 S85 => y00 S85 Z Z Z (y1e (off := 0) S85 Z Z (by kernel_rfl)) fun a86 S86 => y00 S86 Z Z Z (y0u (n := 1) S86 Z Z (by kernel_rfl) (Bx.cell hb0 Z)) fun a87 S87 => y00 S87 Z Z Z (y03 S87 Z Z) fun a88 S88 => ?_
   obtain ⟨_, ⟨A92, cap93, A96, cap97, rfl, h94, h98⟩, hel91⟩ := El.of (OwD.rdx y04) hx90 (by decide)
   replace hel91 : El w82 g82 (fun q => q = c0 + 1) y09 (p1.toNat * 6) [.int .u64 x89.delay, .slice A92 x89.suppliers.length cap93, .slice A96 x89.consumers.length cap97, .bool x89.active, i6 x89.count, .int .u64 x89.idle] := hel91
   refine y00 S88 Z Z Z (y1j (e := 88) (sz := 6) (by_ := 80) S88 Z Z Z (by kernel_rfl) (RdS.some_ (OwS.rd y04) hx90) (y26 hx90) (y27 hx90)) fun a101 S101 => y00 S101 Z Z Z (y2w (off := 4) S101 Z Z (by kernel_rfl)) fun a102 S102 => y00 S102 Z Z Z (y0u (n := 1) S102 Z Z (by kernel_rfl) (El.cell (j := 4) hel91 Z)) fun a103 S103 => y00 S103 Z Z Z (y2l S103 Z Z rfl b_sub) fun a104 S104 => y00 S104 Z Z Z (y1j (e := 88) (sz := 6) (by_ := 80) S104 Z Z Z (by kernel_rfl) (RdS.some_ (OwS.rd y04) hx90) (y26 hx90) (y27 hx90)) fun a105 S105 => y00 S105 Z Z Z (y2w (off := 4) S105 Z Z (by kernel_rfl)) fun a106 S106 => ?_
   refine y3s S106 Z Z (y4l (n := 1) (bb := false) (kd := y1h) (j := 4) (x' := ({ x89 with count := wi (x89.count - 1) } : y0k)) (us := [i6 (wi (x89.count - 1))]) g82 S106 Z Z Z Z (by kernel_rfl) Z Z (by intro v hv; simp only [List.mem_cons, List.not_mem_nil, or_false] at hv; rcases hv with rfl <;> rfl) y04 hx90 Z (fun _ _ cs hR => by obtain ⟨A0, cap0, A1, cap1, rfl, h0, h1⟩ := hR; exact ⟨A0, cap0, A1, cap1, rfl, h0, h1⟩)) ?_
   rintro a107 w108 g108 ⟨y04, F108⟩ S107
   replace h79 := OwS.fr h79 F108 (fun c' hc (hm : c' = c0 + 1) => by omega)
   replace h94 := RdS.fr h94 F108 (by decide) (fun q (hq : q = c0 + 1 + 1) (hm : q = c0 + 1) => by omega)
   replace h98 := RdS.fr h98 F108 (by decide) (fun q (hq : q = c0 + 1 + 1) (hm : q = c0 + 1) => by omega)
   replace hb0 := hb0.fr F108 (fun (hm : c0 = c0 + 1) => by omega)
   replace y0j := OwS.fr y0j F108 (fun c' hc (hm : c' = c0 + 1) => by omega)
   replace y0i := OwS.fr y0i F108 (fun c' hc (hm : c' = c0 + 1) => by omega)
   replace hF := hF.trans F108 (fun c' (hm : c' = c0 + 1) => by (try dsimp only); omega)
   replace hb0 : Bx w108 g108 (c0) b_p0 85 [.slice y09 (upd r75.1.devices p1 ({ x89 with count := wi (x89.count - 1) } : y0k)).length y07, .slice y0v r75.1.links.length y0l, .slice y0q r75.1.order.length y0h, .int .u64 r75.1.now] := by simpa only [y1w] using hb0
   refine wpList_nil (hK _ _ ?_)
   replace hS : Sl 64 _ [(0, .pointer (so b_p0)), (1, i6 p1), (2, .int .u64 p2), (8, .slice A77 r75.2.length cap78)] := S107.re ⟨Z, Z, Z, Z, trivial⟩
   clear hK K
   try clear S84 S85 S86 S87 S88 S101 S102 S103 S104 S105 S106 S107
   generalize a107 = a at hS ⊢
   obtain ⟨v110, H, Hl112⟩ := y0b H
   refine y4u (fun a w109 => ∃ (g109 : Nat → Nat), Sl 64 a [(0, .pointer (so b_p0)), (2, .int .u64 p2), (8, .slice A77 r75.2.length cap78)] ∧ OwS y18 47 w109 g109 (N + 0) A77 cap78 r75.2 ∧ Bx w109 g109 (c0) b_p0 85 [.slice y09 v110.devices.length y07, .slice y0v v110.links.length y0l, .slice y0q v110.order.length y0h, .int .u64 v110.now] ∧ OwS y1h 88 w109 g109 (c0 + 1) y09 y07 v110.devices ∧ OwS y0r 67 w109 g109 (c0 + 3) y0v y0l v110.links ∧ OwS (kint .i64) 3 w109 g109 (c0 + 5) y0q y0h v110.order ∧ Fr (fun q => (c0 ≤ q ∧ q < c0 + 7) ∨ (r0 ≤ q ∧ q < r0 + 2) ∨ N ≤ q) w g w109 g109) ?_ ?_
   ·obtain ⟨r115, hr116, H⟩ := y0b H
    refine y0t (fun K hK => ?_)
    refine y00 hS Z Z Z (y03 hS Z Z) fun a113 S113 => y00 S113 Z Z Z (y03 S113 Z Z) fun a114 S114 => ?_
    refine y1y S114 Z Z Z (y2z S114 Z Z (by kernel_rfl)) (y2h.calls (c0 := c0) (b_p0 := b_p0) (y09 := y09) (y07 := y07) (y0v := y0v) (y0l := y0l) (y0q := y0q) (y0h := y0h) (p0 := (y01.mk (upd r75.1.devices p1 ({ x89 with count := wi (x89.count - 1) } : y0k)) r75.1.links r75.1.order r75.1.now)) (p1 := p1) (g := g108) (N + 4)  ⟨hb0, y04, y0j, y0i⟩ (by omega) hr116) ?_
    rintro _ a117 w118 ⟨g118, rfl, F118⟩ S117
    replace h79 := OwS.fr h79 F118 (fun c' hc (hm : N + 4 ≤ c') => by omega)
    replace hb0 := hb0.fr F118 (fun (hm : N + 4 ≤ c0) => by omega)
    replace y04 := OwS.fr y04 F118 (fun c' hc (hm : N + 4 ≤ c') => by omega)
    replace y0j := OwS.fr y0j F118 (fun c' hc (hm : N + 4 ≤ c') => by omega)
    replace y0i := OwS.fr y0i F118 (fun c' hc (hm : N + 4 ≤ c') => by omega)
    replace hF := hF.trans F118 (fun c' (hm : N + 4 ≤ c') => by (try dsimp only); omega)
    refine wpList_nil (hK _ _ ?_)
    replace hS : Sl 64 _ [(0, .pointer (so b_p0)), (1, i6 p1), (2, .int .u64 p2), (8, .slice A77 r75.2.length cap78), (50, .bool r115)] := S117.re ⟨Z, Z, Z, Z, Z, trivial⟩
    clear hK K
    try clear S113 S114 S117
    generalize a117 = a at hS ⊢
    refine y2m hS Z (fun hb119 => ?_) (fun hb119 => ?_)
    ·replace H := y3f hb119 H
     obtain ⟨x126, hx127, H⟩ := y0b H
     refine y3l (fun K hK => ?_)
     refine y00 hS Z Z Z (y03 hS Z Z) fun a120 S120 => y00 S120 Z Z Z (y4s S120 Z Z) fun a121 S121 => y00 S121 Z Z Z (y1e (off := 0) S121 Z Z (by kernel_rfl)) fun a122 S122 => y00 S122 Z Z Z (y0u (n := 1) S122 Z Z (by kernel_rfl) (Bx.cell hb0 Z)) fun a123 S123 => y00 S123 Z Z Z (y03 S123 Z Z) fun a124 S124 => y00 S124 Z Z Z (y03 S124 Z Z) fun a125 S125 => ?_
     obtain ⟨_, ⟨A129, cap130, A133, cap134, rfl, h131, h135⟩, hel128⟩ := El.of (OwD.rdx y04) hx127 (by decide)
     replace hel128 : El w118 g118 (fun q => q = c0 + 1) y09 (p1.toNat * 6) [.int .u64 x126.delay, .slice A129 x126.suppliers.length cap130, .slice A133 x126.consumers.length cap134, .bool x126.active, i6 x126.count, .int .u64 x126.idle] := hel128
     refine y00 S125 Z Z Z (y1j (e := 88) (sz := 6) (by_ := 80) S125 Z Z Z (by kernel_rfl) (RdS.some_ (OwS.rd y04) hx127) (y26 hx127) (y27 hx127)) fun a138 S138 => y00 S138 Z Z Z (y2w (off := 5) S138 Z Z (by kernel_rfl)) fun a139 S139 => ?_
     refine y3s S139 Z Z (y4l (n := 1) (bb := false) (kd := y1h) (j := 5) (x' := ({ x126 with idle := p2 } : y0k)) (us := [.int .u64 p2]) g118 S139 Z Z Z Z (by kernel_rfl) Z Z (by intro v hv; simp only [List.mem_cons, List.not_mem_nil, or_false] at hv; rcases hv with rfl <;> rfl) y04 hx127 Z (fun _ _ cs hR => by obtain ⟨A0, cap0, A1, cap1, rfl, h0, h1⟩ := hR; exact ⟨A0, cap0, A1, cap1, rfl, h0, h1⟩)) ?_
     rintro a140 w141 g141 ⟨y04, F141⟩ S140
     replace h131 := RdS.fr h131 F141 (by decide) (fun q (hq : q = c0 + 1 + 1) (hm : q = c0 + 1) => by omega)
     replace h135 := RdS.fr h135 F141 (by decide) (fun q (hq : q = c0 + 1 + 1) (hm : q = c0 + 1) => by omega)
     replace h79 := OwS.fr h79 F141 (fun c' hc (hm : c' = c0 + 1) => by omega)
     replace hb0 := hb0.fr F141 (fun (hm : c0 = c0 + 1) => by omega)
     replace y0j := OwS.fr y0j F141 (fun c' hc (hm : c' = c0 + 1) => by omega)
     replace y0i := OwS.fr y0i F141 (fun c' hc (hm : c' = c0 + 1) => by omega)
     replace hF := hF.trans F141 (fun c' (hm : c' = c0 + 1) => by (try dsimp only); omega)
     replace hb0 : Bx w141 g141 (c0) b_p0 85 [.slice y09 (upd (upd r75.1.devices p1 ({ x89 with count := wi (x89.count - 1) } : y0k)) p1 ({ x126 with idle := p2 } : y0k)).length y07, .slice y0v r75.1.links.length y0l, .slice y0q r75.1.order.length y0h, .int .u64 r75.1.now] := by simpa only [y1w] using hb0
     refine wpList_nil (hK _ _ ?_)
     replace hS : Sl 64 _ [(0, .pointer (so b_p0)), (2, .int .u64 p2), (8, .slice A77 r75.2.length cap78)] := S140.re ⟨Z, Z, Z, trivial⟩
     clear hK K
     try clear S120 S121 S122 S123 S124 S125 S138 S139 S140
     generalize a140 = a at hS ⊢
     have e := Option.some.inj H
     subst e
     exact ⟨g141, hS.re ⟨Z, Z, Z, trivial⟩, h79, hb0, y04, y0j, y0i, hF⟩
    ·replace H := y3g hb119 H
     refine wp_skip ?_
     have e := Option.some.inj H
     subst e
     exact ⟨g118, hS.re ⟨Z, Z, Z, trivial⟩, h79, hb0, y04, y0j, y0i, hF⟩
   ·clear H
    clear y04 y0j y0i hb0 h79 hF
    clear hS
    rintro a w109 ⟨g109, hS, h79, hb0, y04, y0j, y0i, hF⟩
    have H := Hl112
    clear Hl112
    obtain ⟨r145, hr146, H⟩ := y0b H
    obtain ⟨y153, hy154, H⟩ := y0b H
    refine y0t (fun K hK => ?_)
    refine y00 hS Z Z Z (y03 hS Z Z) fun a142 S142 => y00 S142 Z Z Z (y03 S142 Z Z) fun a143 S143 => y00 S143 Z Z Z (y03 S143 Z Z) fun a144 S144 => ?_
    refine y1y S144 Z Z Z (y2z S144 Z Z (by kernel_rfl)) (y0s.calls (c0 := c0) (b_p0 := b_p0) (y09 := y09) (y07 := y07) (y0v := y0v) (y0l := y0l) (y0q := y0q) (y0h := y0h) (p0 := v110) (p1 := p2) (g := g109) (N + 4) (N + 2) ⟨hb0, y04, y0j, y0i⟩ (by omega) (by omega) (by omega) hr146) ?_
    rintro _ a151 w152 ⟨g152, A147, cap148, rfl, ⟨hb0, y04, y0j, y0i⟩, h149, F152⟩ S151
    replace h79 := OwS.fr h79 F152 (fun c' hc (hm : (c0 ≤ c' ∧ c' < c0 + 7) ∨ (N + 2 ≤ c' ∧ c' < N + 2 + 2) ∨ N + 4 ≤ c') => by omega)
    replace hF := hF.trans F152 (fun c' (hm : (c0 ≤ c' ∧ c' < c0 + 7) ∨ (N + 2 ≤ c' ∧ c' < N + 2 + 2) ∨ N + 4 ≤ c') => by (try dsimp only); omega)
    refine y41 S151 Z Z Z (y4g (e := 47) (sz := 3) (by_ := 24) (z := [i6 0, .bool false, .int .u64 0]) (kd := y18) g152 S151 Z Z Z Z (by kernel_rfl) (by kernel_rfl) Z Z Z Z h79 (OwD.rdx h149) (fun _ _ _ h => h) hy154) ?_
    rintro _ a159 w160 g160 ⟨⟨A155, cap156, rfl, h157⟩, F160⟩ S159
    replace h149 := OwS.fr h149 F160 (fun c' hc (hm : c' = N + 0) => by omega)
    replace hb0 := hb0.fr F160 (fun (hm : c0 = N + 0) => by omega)
    replace y04 := OwS.fr y04 F160 (fun c' hc (hm : c' = N + 0) => by omega)
    replace y0j := OwS.fr y0j F160 (fun c' hc (hm : c' = N + 0) => by omega)
    replace y0i := OwS.fr y0i F160 (fun c' hc (hm : c' = N + 0) => by omega)
    replace hF := hF.trans F160 (fun c' (hm : c' = N + 0) => by (try dsimp only); omega)
    refine y00 S159 Z Z Z (y02 S159 Z Z) fun a161 S161 => y00 S161 Z Z Z (y02 S161 Z Z) fun a162 S162 => wpList_nil (hK _ _ ?_)
    replace hS : Sl 64 _ [(6, .slice A155 y153.length cap156), (7, i6 0)] := S162.re ⟨Z, Z, trivial⟩
    clear hK K
    try clear S142 S143 S144 S151 S159 S161 S162
    generalize a162 = a at hS ⊢
    refine wp_ret ?_
    have e := Option.some.inj H
    subst e
    have F163 := Fr.y2f w160 g160 (N + 0) r0
    replace h157 := h157.y2f r0
    replace hb0 := hb0.fr F163 (fun (hm : c0 = N + 0 ∨ c0 = N + 0 + 1) => by omega)
    replace y04 := OwS.fr y04 F163 (fun c' hc (hm : c' = N + 0 ∨ c' = N + 0 + 1) => by omega)
    replace y0j := OwS.fr y0j F163 (fun c' hc (hm : c' = N + 0 ∨ c' = N + 0 + 1) => by omega)
    replace y0i := OwS.fr y0i F163 (fun c' hc (hm : c' = N + 0 ∨ c' = N + 0 + 1) => by omega)
    replace hF := hF.trans F163 (fun c' (hm : c' = N + 0 ∨ c' = N + 0 + 1) => by (try dsimp only); omega)
    repeat (with_reducible first | refine y1i ?_ | refine y0o ?_)
    exact y4d hS Try.results34 Z rfl ⟨_, rfl, (y2f g160 (N + 0) r0), A155, cap156, rfl, ⟨hb0, y04, y0j, y0i⟩, h157, hF⟩


end Go.Proofs.Ytcfcffbjdjacfaa.Sim

namespace Go.Proofs.Ytcfcffbjdjacfaa.Sim
open Go
set_option linter.unusedVariables false
set_option linter.unusedSimpArgs false

/-! ### y3h: function 123 -/
def y3h.f (p0 : List Int) : Option (Int) := some (p0.length : Int)
set_option maxRecDepth 100000 in
set_option maxHeartbeats 4000000 in
theorem y3h.calls {p0 : List Int} {A0 : Option Addr} {cap0 : Nat} {C0 : Nat → Prop} {w : World} {g : Nat → Nat} {out : Int} (N : Nat) (hp0 : RdS (kint .i64) w g C0 A0 cap0 p0) (hC0 : ∀ c, C0 c → c < N) (H : y3h.f p0 = some out) :
  Calls Try.prog 123 #[.slice A0 p0.length cap0] w (fun e w' => ∃ v, e = .returned v ∧ ∃ (g' : Nat → Nat), v = i6 out ∧ Fr (fun q => N ≤ q) w g w' g') := by
 unfold y3h.f at H
 refine y1k Try.func123 rfl Try.ntmps123 Z (fun a hS => ?_)
 replace hS : Sl 5 a [(0, .slice A0 p0.length cap0)] := hS
 have hF : Fr (fun q => N ≤ q) w g w g := Fr.refl _ _ _
 refine y16 [(0, .slice A0 p0.length cap0)] (fun R hR => y00 hS Z Z Z (y02 hS Z Z) fun a1 S1 => wpList_nil (hR _ (S1.re ⟨Z, trivial⟩))) ?_
 clear hS a; intro a hS
 refine y16 [(2, i6 (p0.length : Int))] (fun R hR => y00 hS Z Z Z (y03 hS Z Z) fun a2 S2 => y00 S2 Z Z Z (y4x (e := 3) (sz := 1) (by_ := 8) S2 Z Z (by kernel_rfl)) fun a3 S3 => y00 S3 Z Z Z (y02 S3 Z Z) fun a4 S4 => wpList_nil (hR _ (S4.re ⟨Z, trivial⟩))) ?_
 clear hS a; intro a hS
 refine wp_ret ?_
 have e := Option.some.inj H
 subst e
 repeat (with_reducible first | refine y1i ?_ | refine y0o ?_)
 exact y3v hS Try.results123 rfl ⟨_, rfl, g, rfl, hF⟩


end Go.Proofs.Ytcfcffbjdjacfaa.Sim

namespace Go.Proofs.Ytcfcffbjdjacfaa.Sim
open Go
set_option linter.unusedVariables false
set_option linter.unusedSimpArgs false

/-! ### y49: function 126 -/
def y49.f (p0 : y1p) : Option (y1p × Int) := (idx p0.q (wi ((p0.q.length : Int) - 1))).bind fun x12 => (slc p0.q 0 (wi ((p0.q.length : Int) - 1))).bind fun y22 => some ((y1p.mk y22), x12)
set_option maxRecDepth 100000 in
set_option maxHeartbeats 4000000 in
theorem y49.calls {p0 : y1p} {c0 : Nat}  {b_p0 : Nat} {y4q : Option Addr} {y34 : Nat} {w : World} {g : Nat → Nat} {out : y1p × Int} (N : Nat) (hp0 : y35 w g c0 b_p0 y4q y34 p0) (hc0 : c0 + 3 ≤ N) (H : y49.f p0 = some out) :
  Calls Try.prog 126 #[.pointer (so b_p0)] w (fun e w' => ∃ v, e = .returned v ∧ ∃ (g' : Nat → Nat) (A_q_q0 : Option Addr) (cap_q_q0 : Nat), v = .iface 3 (i6 out.2) ∧ y35 w' g' c0 b_p0 A_q_q0 cap_q_q0 out.1 ∧ Fr (fun q => (c0 ≤ q ∧ q < c0 + 3) ∨ N ≤ q) w g w' g') := by
 unfold y49.f at H
 refine y1k Try.func126 rfl Try.ntmps126 Z (fun a hS => ?_)
 replace hS : Sl 25 a [(0, .pointer (so b_p0))] := hS
 have hF : Fr (fun q => (c0 ≤ q ∧ q < c0 + 3) ∨ N ≤ q) w g w g := Fr.refl _ _ _
 obtain ⟨hb0, y4w⟩ := hp0
 refine y16 [(0, .pointer (so b_p0))] (fun R hR => y00 hS Z Z Z (y02 hS Z Z) fun a1 S1 => wpList_nil (hR _ (S1.re ⟨Z, trivial⟩))) ?_
 clear hS a; intro a hS
 refine y16 [(0, .pointer (so b_p0)), (3, i6 (wi ((p0.q.length : Int) - 1)))] (fun R hR => y00 hS Z Z Z (y03 hS Z Z) fun a2 S2 => y00 S2 Z Z Z (y4s S2 Z Z) fun a3 S3 => y00 S3 Z Z Z (y0u (n := 1) S3 Z Z (by kernel_rfl) (Bx.cell hb0 Z)) fun a4 S4 => y00 S4 Z Z Z (y4x (e := 3) (sz := 1) (by_ := 8) S4 Z Z (by kernel_rfl)) fun a5 S5 => y00 S5 Z Z Z (y2l S5 Z Z rfl b_sub) fun a6 S6 => y00 S6 Z Z Z (y02 S6 Z Z) fun a7 S7 => wpList_nil (hR _ (S7.re ⟨Z, Z, trivial⟩))) ?_
 clear hS a; intro a hS
 obtain ⟨x12, hx13, H⟩ := y0b H
 refine y16 [(0, .pointer (so b_p0)), (3, i6 (wi ((p0.q.length : Int) - 1))), (4, i6 x12)] (fun R hR => y00 hS Z Z Z (y03 hS Z Z) fun a8 S8 => y00 S8 Z Z Z (y4s S8 Z Z) fun a9 S9 => y00 S9 Z Z Z (y0u (n := 1) S9 Z Z (by kernel_rfl) (Bx.cell hb0 Z)) fun a10 S10 => y00 S10 Z Z Z (y03 S10 Z Z) fun a11 S11 => y00 S11 Z Z Z (y1j (e := 3) (sz := 1) (by_ := 8) S11 Z Z Z (by kernel_rfl) (RdS.some_ (OwS.rd y4w) hx13) (y26 hx13) (y27 hx13)) fun a14 S14 => y00 S14 Z Z Z (y0u (n := 1) S14 Z Z (by kernel_rfl) (RdS.cell (i := wi ((p0.q.length : Int) - 1)) (sz := 1) (j := 0) (OwS.rd y4w) hx13 Z)) fun a15 S15 => y00 S15 Z Z Z (y02 S15 Z Z) fun a16 S16 => wpList_nil (hR _ (S16.re ⟨Z, Z, Z, trivial⟩))) ?_
 clear hS a; intro a hS
 obtain ⟨y22, hy23, H⟩ := y0b H
 refine y0t (fun K hK => ?_)
 refine y00 hS Z Z Z (y03 hS Z Z) fun a17 S17 => y00 S17 Z Z Z (y03 S17 Z Z) fun a18 S18 => y00 S18 Z Z Z (y4s S18 Z Z) fun a19 S19 => y00 S19 Z Z Z (y0u (n := 1) S19 Z Z (by kernel_rfl) (Bx.cell hb0 Z)) fun a20 S20 => y00 S20 Z Z Z (y03 S20 Z Z) fun a21 S21 => ?_
 have h24 := OwS.slc0 y4w hy23
 refine y00 S21 Z Z Z (r_slice (e := 3) (sz := 1) (by_ := 8) (l := 0) (h := wi ((p0.q.length : Int) - 1)) S21 Z Z (by kernel_rfl) Z rfl hy23 (OwS.rd y4w).1) fun a26 S26 => y00 S26 Z Z Z (y4s S26 Z Z) fun a27 S27 => ?_
 refine y3s S27 Z Z (y4a (n := 1) (bb := false) (cs' := [.slice (slA y4q y34 (0 : Int).toNat 1) y22.length (y34 - (0 : Int).toNat)]) g S27 Z Z Z (by kernel_rfl) Z Z rfl hb0 Z Z) ?_
 rintro a28 w29 g29 ⟨hb0, F29⟩ S28
 replace h24 := OwS.fr h24 F29 (fun c' hc (hm : c' = c0) => by omega)
 replace hF := hF.trans F29 (fun c' (hm : c' = c0) => by (try dsimp only); omega)
 refine wpList_nil (hK _ _ ?_)
 replace hS : Sl 25 _ [(4, i6 x12)] := S28.re ⟨Z, trivial⟩
 clear hK K
 try clear S17 S18 S19 S20 S21 S26 S27 S28
 generalize a28 = a at hS ⊢
 refine y16 [(2, .iface 3 (i6 x12))] (fun R hR => y00 hS Z Z Z (y03 hS Z Z) fun a30 S30 => y00 S30 Z Z Z (r_mkif S30 Z Z (by kernel_rfl)) fun a31 S31 => y00 S31 Z Z Z (y02 S31 Z Z) fun a32 S32 => wpList_nil (hR _ (S32.re ⟨Z, trivial⟩))) ?_
 clear hS a; intro a hS
 refine wp_ret ?_
 have e := Option.some.inj H
 subst e
 repeat (with_reducible first | refine y1i ?_ | refine y0o ?_)
 exact y3v hS Try.results126 rfl ⟨_, rfl, g29, (slA y4q y34 (0 : Int).toNat 1), (y34 - (0 : Int).toNat), rfl, ⟨hb0, h24⟩, hF⟩


end Go.Proofs.Ytcfcffbjdjacfaa.Sim

namespace Go.Proofs.Ytcfcffbjdjacfaa.Sim
open Go
set_option linter.unusedVariables false
set_option linter.unusedSimpArgs false

/-! ### y2y: function 125 -/
def y2y.f (p0 : List Int) (p1 : Int) (p2 : Int) : Option ((List Int)) := (idx p0 p2).bind fun x1 => (idx p0 p1).bind fun x3 => (idx (upd p0 p1 x1) p2).bind fun x5 => some (upd (upd p0 p1 x1) p2 x3)
set_option maxRecDepth 100000 in
set_option maxHeartbeats 4000000 in
theorem y2y.calls {p0 : List Int} {A0 : Option Addr} {cap0 : Nat} {c0 : Nat} {p1 : Int} {p2 : Int} {w : World} {g : Nat → Nat} {out : (List Int)} (N : Nat) (hp0 : OwS (kint .i64) 3 w g c0 A0 cap0 p0) (hc0 : c0 + 2 ≤ N) (H : y2y.f p0 p1 p2 = some out) :
  Calls Try.prog 125 #[.slice A0 p0.length cap0, i6 p1, i6 p2] w (fun e w' => ∃ v, e = .returned v ∧ ∃ (g' : Nat → Nat), v = .tuple #[] ∧ OwS (kint .i64) 3 w' g' c0 A0 cap0 out ∧ out.length = p0.length ∧ Fr (fun q => (c0 ≤ q ∧ q < c0 + 2) ∨ N ≤ q) w g w' g') := by
 unfold y2y.f at H
 refine y1k Try.func125 rfl Try.ntmps125 Z (fun a hS => ?_)
 replace hS : Sl 20 a [(0, .slice A0 p0.length cap0), (1, i6 p1), (2, i6 p2)] := hS
 have hF : Fr (fun q => (c0 ≤ q ∧ q < c0 + 2) ∨ N ≤ q) w g w g := Fr.refl _ _ _
 have hl0 : p0.length = p0.length := rfl
 obtain ⟨x1, hx2, H⟩ := y0b H
 obtain ⟨x3, hx4, H⟩ := y0b H
 obtain ⟨x5, hx6, H⟩ := y0b H
 refine c_draw1 (fun K hK => y4m (fun q => False) g [13, 15] 16 (ba 0 16) (by kernel_rfl) Z Z (fun w7 hw7 => ?_))
 have F7 : Fr (fun _ => False) w g w7 g := by rw [hw7]; exact Fr.drew _ _ _
 replace hp0 := OwS.fr hp0 F7 (fun _ _ h => h)
 replace hF := hF.trans F7 (fun _ h => h.elim)
 have hC : Fr (fun q => False) w7 g w7 g := Fr.refl _ _ _
 refine y1b hS 0 (ba 1 15) Z Z Z Z (by kernel_rfl) (fun _ _ _ h => h) (fun _ => (y03 hS Z Z)) fun a8 S8 => y1b S8 1 (ba 2 14) Z Z Z Z (by kernel_rfl) (fun _ _ _ h => h) (fun _ => (y03 S8 Z Z)) fun a9 S9 => y1b S9 2 (ba 3 13) Z Z Z Z (by kernel_rfl) (fun _ _ _ h => h) (fun _ => (y03 S9 Z Z)) fun a10 S10 => y1b S10 3 (ba 4 12) Z Z Z Z (by kernel_rfl) (fun _ _ _ h => h) (fun _ => (y03 S10 Z Z)) fun a11 S11 => y1b S11 4 (ba 5 11) Z Z Z Z (by kernel_rfl) (fun _ _ _ h => h) (fun _ => (y03 S11 Z Z)) fun a12 S12 => y1b S12 5 (ba 6 10) Z Z Z Z (by kernel_rfl) (fun _ _ _ h => h) (fun _ => (y03 S12 Z Z)) fun a13 S13 => y1b S13 6 (ba 7 9) Z Z Z Z (by kernel_rfl) (fun _ _ _ h => h) (fun _ => (y1j (e := 3) (sz := 1) (by_ := 8) S13 Z Z Z (by kernel_rfl) (RdS.some_ (OwS.rd hp0) hx2) (y26 hx2) (y27 hx2))) fun a14 S14 => y3w S14 7 (ba 8 8) Z Z Z Z (by kernel_rfl) (fun _ _ _ h => h) ⟨_, hC⟩ (fun w' g' Fz => (y0u (n := 1) S14 Z Z (by kernel_rfl) (RdS.cell (i := p2) (sz := 1) (j := 0) (OwS.rd (OwS.fr hp0 Fz (fun _ _ h => h))) hx2 Z))) fun a15 S15 => y1b S15 8 (ba 9 7) Z Z Z Z (by kernel_rfl) (fun _ _ _ h => h) (fun _ => (y03 S15 Z Z)) fun a16 S16 => y1b S16 9 (ba 10 6) Z Z Z Z (by kernel_rfl) (fun _ _ _ h => h) (fun _ => (y03 S16 Z Z)) fun a17 S17 => y1b S17 10 (ba 11 5) Z Z Z Z (by kernel_rfl) (fun _ _ _ h => h) (fun _ => (y1j (e := 3) (sz := 1) (by_ := 8) S17 Z Z Z (by kernel_rfl) (RdS.some_ (OwS.rd hp0) hx4) (y26 hx4) (y27 hx4))) fun a18 S18 => y3w S18 11 (ba 12 4) Z Z Z Z (by kernel_rfl) (fun _ _ _ h => h) ⟨_, hC⟩ (fun w' g' Fz => (y0u (n := 1) S18 Z Z (by kernel_rfl) (RdS.cell (i := p1) (sz := 1) (j := 0) (OwS.rd (OwS.fr hp0 Fz (fun _ _ h => h))) hx4 Z))) fun a19 S19 => y1b S19 12 (ba 13 3) Z Z Z Z (by kernel_rfl) (fun _ _ _ h => h) (fun _ => (y1j (e := 3) (sz := 1) (by_ := 8) S19 Z Z Z (by kernel_rfl) (RdS.some_ (OwS.rd hp0) hx4) (y26 hx4) (y27 hx4))) fun a20 S20 => ?_
 refine d_one 13 (ba 14 2) Z (by kernel_rfl) (arm_effS S20 Z Z (y4l (n := 1) (bb := false) (kd := (kint .i64)) (j := 0) (x' := x1) (us := [i6 x1]) g S20 Z Z Z Z (by kernel_rfl) Z Z (by intro v hv; simp only [List.mem_cons, List.not_mem_nil, or_false] at hv; rcases hv with rfl <;> rfl) hp0 hx4 Z (fun _ _ cs hR => by rw [show cs = _ from hR]; rfl)) (.inl (by decide)) ?_)
 rintro a21 w22 g22 ⟨hp0, F22⟩ S21
 replace hF := hF.trans F22 (fun c' (hm : c' = c0) => by (try dsimp only); omega)
 have hT : Sl 20 a21 [(8, .slice A0 p0.length cap0), (9, i6 p2), (17, i6 x3)] := S21.re ⟨Z, Z, Z, trivial⟩
 replace S21 : Sl 20 a21 [(8, .slice A0 (upd p0 p1 x1).length cap0), (9, i6 p2), (17, i6 x3)] := by simpa only [y1w] using hT
 clear hT
 refine y1b S21 14 (ba 15 1) Z Z Z Z (by kernel_rfl) (fun _ _ _ h => h) (fun _ => (y1j (e := 3) (sz := 1) (by_ := 8) S21 Z Z Z (by kernel_rfl) (RdS.some_ (OwS.rd hp0) hx6) (y26 hx6) (y27 hx6))) fun a23 S23 => ?_
 refine d_one 15 (ba 16 0) Z (by kernel_rfl) (arm_effS S23 Z Z (y4l (n := 1) (bb := false) (kd := (kint .i64)) (j := 0) (x' := x3) (us := [i6 x3]) g22 S23 Z Z Z Z (by kernel_rfl) Z Z (by intro v hv; simp only [List.mem_cons, List.not_mem_nil, or_false] at hv; rcases hv with rfl <;> rfl) hp0 hx6 Z (fun _ _ cs hR => by rw [show cs = _ from hR]; rfl)) (.inl (by decide)) ?_)
 rintro a24 w25 g25 ⟨hp0, F25⟩ S24
 replace hF := hF.trans F25 (fun c' (hm : c' = c0) => by (try dsimp only); omega)
 refine y4v (by kernel_rfl) (hK _ _ ?_)
 replace hS : Sl 20 _ [] := S24.re trivial
 clear hK K hC
 try clear S8 S9 S10 S11 S12 S13 S14 S15 S16 S17 S18 S19 S20 S21 S23 S24
 generalize a24 = a at hS ⊢
 have e := Option.some.inj H
 subst e
 repeat (with_reducible first | refine inBlock_exit ?_ | refine then_exit ?_ | refine inBlock_out (by decide) ?_ | refine inBlock_normal ?_)
 exact c_end0 hS Try.results125 ⟨_, rfl, g25, rfl, hp0, (by first | exact hl0 | (simp only [y1w] <;> exact hl0)), hF⟩


end Go.Proofs.Ytcfcffbjdjacfaa.Sim

namespace Go.Proofs.Ytcfcffbjdjacfaa.Sim
open Go
set_option linter.unusedVariables false
set_option linter.unusedSimpArgs false

/-! ### y2u: function 124 -/
def y2u.f (p0 : List Int) (p1 : Int) (p2 : Int) : Option (Bool) := (idx p0 p1).bind fun x5 => (idx p0 p2).bind fun x11 => some (decide (x5 < x11))
set_option maxRecDepth 100000 in
set_option maxHeartbeats 4000000 in
theorem y2u.calls {p0 : List Int} {A0 : Option Addr} {cap0 : Nat} {C0 : Nat → Prop} {p1 : Int} {p2 : Int} {w : World} {g : Nat → Nat} {out : Bool} (N : Nat) (hp0 : RdS (kint .i64) w g C0 A0 cap0 p0) (hC0 : ∀ c, C0 c → c < N) (H : y2u.f p0 p1 p2 = some out) :
  Calls Try.prog 124 #[.slice A0 p0.length cap0, i6 p1, i6 p2] w (fun e w' => ∃ v, e = .returned v ∧ ∃ (g' : Nat → Nat), v = .bool out ∧ Fr (fun q => N ≤ q) w g w' g') := by
 unfold y2u.f at H
 refine y1k Try.func124 rfl Try.ntmps124 Z (fun a hS => ?_)
 replace hS : Sl 16 a [(0, .slice A0 p0.length cap0), (1, i6 p1), (2, i6 p2)] := hS
 have hF : Fr (fun q => N ≤ q) w g w g := Fr.refl _ _ _
 refine y16 [(0, .slice A0 p0.length cap0), (1, i6 p1), (2, i6 p2)] (fun R hR => y00 hS Z Z Z (y02 hS Z Z) fun a1 S1 => wpList_nil (hR _ (S1.re ⟨Z, Z, Z, trivial⟩))) ?_
 clear hS a; intro a hS
 obtain ⟨x5, hx6, H⟩ := y0b H
 obtain ⟨x11, hx12, H⟩ := y0b H
 refine c_draw (fun K hK => y4m (fun q => False) g [] 10 (ba 0 10) (by kernel_rfl) Z Z (fun w2 hw2 => ?_))
 have F2 : Fr (fun _ => False) w g w2 g := by rw [hw2]; exact Fr.drew _ _ _
 replace hp0 := RdS.fr hp0 F2 (by decide) (fun _ _ h => h)
 replace hF := hF.trans F2 (fun _ h => h.elim)
 have hC : Fr (fun q => False) w2 g w2 g := Fr.refl _ _ _
 refine y1b hS 0 (ba 1 9) Z Z Z Z (by kernel_rfl) (fun _ _ _ h => h) (fun _ => (y03 hS Z Z)) fun a3 S3 => y1b S3 1 (ba 2 8) Z Z Z Z (by kernel_rfl) (fun _ _ _ h => h) (fun _ => (y03 S3 Z Z)) fun a4 S4 => y1b S4 2 (ba 3 7) Z Z Z Z (by kernel_rfl) (fun _ _ _ h => h) (fun _ => (y1j (e := 3) (sz := 1) (by_ := 8) S4 Z Z Z (by kernel_rfl) (RdS.some_ hp0 hx6) (y26 hx6) (y27 hx6))) fun a7 S7 => y3w S7 3 (ba 4 6) Z Z Z Z (by kernel_rfl) (fun _ _ _ h => h) ⟨_, hC⟩ (fun w' g' Fz => (y0u (n := 1) S7 Z Z (by kernel_rfl) (RdS.cell (i := p1) (sz := 1) (j := 0) (RdS.fr hp0 Fz (by decide) (fun _ _ h => h)) hx6 Z))) fun a8 S8 => y1b S8 4 (ba 5 5) Z Z Z Z (by kernel_rfl) (fun _ _ _ h => h) (fun _ => (y03 S8 Z Z)) fun a9 S9 => y1b S9 5 (ba 6 4) Z Z Z Z (by kernel_rfl) (fun _ _ _ h => h) (fun _ => (y03 S9 Z Z)) fun a10 S10 => y1b S10 6 (ba 7 3) Z Z Z Z (by kernel_rfl) (fun _ _ _ h => h) (fun _ => (y1j (e := 3) (sz := 1) (by_ := 8) S10 Z Z Z (by kernel_rfl) (RdS.some_ hp0 hx12) (y26 hx12) (y27 hx12))) fun a13 S13 => y3w S13 7 (ba 8 2) Z Z Z Z (by kernel_rfl) (fun _ _ _ h => h) ⟨_, hC⟩ (fun w' g' Fz => (y0u (n := 1) S13 Z Z (by kernel_rfl) (RdS.cell (i := p2) (sz := 1) (j := 0) (RdS.fr hp0 Fz (by decide) (fun _ _ h => h)) hx12 Z))) fun a14 S14 => y1b S14 8 (ba 9 1) Z Z Z Z (by kernel_rfl) (fun _ _ _ h => h) (fun _ => (y2l S14 Z Z rfl y4t)) fun a15 S15 => y1b S15 9 (ba 10 0) Z Z Z Z (by kernel_rfl) (fun _ _ _ h => h) (fun _ => (y02 S15 Z Z)) fun a16 S16 => y4v (by kernel_rfl) (hK _ _ ?_)
 replace hS : Sl 16 _ [(6, .bool (decide (x5 < x11)))] := S16.re ⟨Z, trivial⟩
 clear hK K hC
 try clear S3 S4 S7 S8 S9 S10 S13 S14 S15 S16
 generalize a16 = a at hS ⊢
 refine wp_ret ?_
 have e := Option.some.inj H
 subst e
 repeat (with_reducible first | refine y1i ?_ | refine y0o ?_)
 exact y3v hS Try.results124 rfl ⟨_, rfl, g, rfl, hF⟩


end Go.Proofs.Ytcfcffbjdjacfaa.Sim

namespace Go.Proofs.Ytcfcffbjdjacfaa.Sim
open Go
set_option linter.unusedVariables false
set_option linter.unusedSimpArgs false

/-! ### y4n: function 106 -/
def y4n.l0 (p2 : Int) : Nat → (List Int) → Int → Option (Int × (List Int))
 | 0, _, _ => none
 | k9 + 1, m0_0, m0_1 => if ((decide (p2 ≤ (wi ((wi (2 * m0_1)) + 1)))) || (decide ((wi ((wi (2 * m0_1)) + 1)) < 0))) = true then (some (m0_1, m0_0)) else (((if decide ((wi ((wi ((wi (2 * m0_1)) + 1)) + 1)) < p2) = true then (y2u.f m0_0 (wi ((wi ((wi (2 * m0_1)) + 1)) + 1)) (wi ((wi (2 * m0_1)) + 1))).bind fun r46 => some r46 else some false).bind fun t50 => if t50 = true then (some (wi ((wi ((wi (2 * m0_1)) + 1)) + 1))) else (some (wi ((wi (2 * m0_1)) + 1))) : Option (Int)).bind fun v32 => (y2u.f m0_0 v32 m0_1).bind fun r75 => if (!r75) = true then (some (m0_1, m0_0)) else ((y2y.f m0_0 m0_1 v32).bind fun r84 => y4n.l0 p2 k9 r84 v32))
def y4n.f (p0 : y1p) (p1 : Int) (p2 : Int) : Option (y1p × Bool) := (y4n.l0 p2 FUEL p0.q p1 : Option (Int × (List Int))).bind fun v5 => some ((y1p.mk v5.2), decide (p1 < v5.1))
set_option maxRecDepth 100000 in
set_option maxHeartbeats 4000000 in
theorem y4n.calls {p0 : y1p} {c0 : Nat}  {b_p0 : Nat} {y4q : Option Addr} {y34 : Nat} {p1 : Int} {p2 : Int} {w : World} {g : Nat → Nat} {out : y1p × Bool} (N : Nat) (hp0 : y35 w g c0 b_p0 y4q y34 p0) (hc0 : c0 + 3 ≤ N) (H : y4n.f p0 p1 p2 = some out) :
  Calls Try.prog 106 #[.iface 140 (.pointer (so b_p0)), i6 p1, i6 p2] w (fun e w' => ∃ v, e = .returned v ∧ ∃ (g' : Nat → Nat), v = .bool out.2 ∧ y35 w' g' c0 b_p0 y4q y34 out.1 ∧ Fr (fun q => (c0 ≤ q ∧ q < c0 + 3) ∨ N ≤ q) w g w' g') := by
 unfold y4n.f at H
 refine y1k Try.func106 rfl Try.ntmps106 Z (fun a hS => ?_)
 replace hS : Sl 48 a [(0, .iface 140 (.pointer (so b_p0))), (1, i6 p1), (2, i6 p2)] := hS
 have hF : Fr (fun q => (c0 ≤ q ∧ q < c0 + 3) ∨ N ≤ q) w g w g := Fr.refl _ _ _
 obtain ⟨hb0, y4w⟩ := hp0
 refine y16 [(0, .iface 140 (.pointer (so b_p0))), (1, i6 p1), (2, i6 p2)] (fun R hR => y00 hS Z Z Z (y02 hS Z Z) fun a1 S1 => wpList_nil (hR _ (S1.re ⟨Z, Z, Z, trivial⟩))) ?_
 clear hS a; intro a hS
 refine y16 [(0, .iface 140 (.pointer (so b_p0))), (1, i6 p1), (2, i6 p2), (7, i6 p1)] (fun R hR => y00 hS Z Z Z (y03 hS Z Z) fun a2 S2 => y00 S2 Z Z Z (y02 S2 Z Z) fun a3 S3 => wpList_nil (hR _ (S3.re ⟨Z, Z, Z, Z, trivial⟩))) ?_
 clear hS a; intro a hS
 obtain ⟨v5, H, Hl7⟩ := y0b H
 refine y4u (fun a w4 => ∃ (g4 : Nat → Nat), Sl 48 a [(1, i6 p1), (7, i6 v5.1)] ∧ Bx w4 g4 (c0) b_p0 138 [.slice y4q v5.2.length y34] ∧ OwS (kint .i64) 3 w4 g4 (c0 + 1) y4q y34 v5.2 ∧ Fr (fun q => (c0 ≤ q ∧ q < c0 + 3) ∨ N ≤ q) w g w4 g4) ?_ ?_
 ·refine wp_block ?_
  refine wp_loop_ghost (fun kq => fun a w8 => ∃ (m0_0 : List Int), ∃ (m0_1 : Int), ∃ (g8 : Nat → Nat), y4n.l0 p2 kq m0_0 m0_1 = some v5 ∧ Sl 48 a [(0, .iface 140 (.pointer (so b_p0))), (1, i6 p1), (2, i6 p2), (7, i6 m0_1)] ∧ Bx w8 g8 (c0) b_p0 138 [.slice y4q m0_0.length y34] ∧ OwS (kint .i64) 3 w8 g8 (c0 + 1) y4q y34 m0_0 ∧ Fr (fun q => (c0 ≤ q ∧ q < c0 + 3) ∨ N ≤ q) w g w8 g8) FUEL ?_ ?_
  ·exact ⟨p0.q, p1, g, H, hS.re ⟨Z, Z, Z, Z, trivial⟩, hb0, y4w, hF⟩
  ·clear H
   clear y4w hb0 hF
   clear hS
   rintro k9 a w8 ⟨m0_0, m0_1, g8, hpre0, hS, hb0, y4w, hF⟩
   have H := hpre0
   clear hpre0
   cases k9 with
   | zero => exact absurd H (by simp [y4n.l0])
   | succ k9 =>
    rw [y4n.l0] at H
    refine wp_block ?_
    refine y16 [(0, .iface 140 (.pointer (so b_p0))), (1, i6 p1), (2, i6 p2), (7, i6 m0_1), (8, i6 (wi ((wi (2 * m0_1)) + 1)))] (fun R hR => y00 hS Z Z Z (y03 hS Z Z) fun a10 S10 => y00 S10 Z Z Z (y2l S10 Z Z rfl b_mul) fun a11 S11 => y00 S11 Z Z Z (y2l S11 Z Z rfl y4z) fun a12 S12 => y00 S12 Z Z Z (y02 S12 Z Z) fun a13 S13 => wpList_nil (hR _ (S13.re ⟨Z, Z, Z, Z, Z, trivial⟩))) ?_
    clear hS a; intro a hS
    refine wp_seq ?_
    refine y0t (fun K hK => ?_)
    refine y00 hS Z Z Z (y03 hS Z Z) fun a14 S14 => y00 S14 Z Z Z (y03 S14 Z Z) fun a15 S15 => y00 S15 Z Z Z (y2l S15 Z Z rfl b_geq) fun a16 S16 => y00 S16 Z Z Z (y03 S16 Z Z) fun a17 S17 => ?_
    refine y4b (N := 48) 3 [(0, .iface 140 (.pointer (so b_p0))), (1, i6 p1), (2, i6 p2), (7, i6 m0_1), (8, i6 (wi ((wi (2 * m0_1)) + 1))), (21, .bool ((decide (p2 ≤ (wi ((wi (2 * m0_1)) + 1)))) || (decide ((wi ((wi (2 * m0_1)) + 1)) < 0))))] ?_ (fun hk => ?_)
    rotate_left
    ·rcases Bool.eq_false_or_eq_true (decide (p2 ≤ (wi ((wi (2 * m0_1)) + 1)))) with hb18 | hb18
     ·refine y1c S17 (y05 S17 Z Z rfl hb18) Z Z fun a21 S21 => y1c S21 (y05 S21 Z Z rfl hb18) Z Z fun a22 S22 => y00 S22 Z Z Z (y2s S22 Z Z rfl hb18) fun a23 S23 => hk _ (S23.re ⟨rfl, rfl, rfl, rfl, rfl, (by rw [hb18]; rfl), trivial⟩)
     ·refine y0p S17 (y0a S17 Z Z rfl hb18) Z Z (y03 S17 Z Z) fun a24 S24 => y0p S24 (y0a S24 Z Z rfl hb18) Z Z (y2l S24 Z Z rfl y4t) fun a25 S25 => y00 S25 Z Z Z (y2t S25 Z Z rfl hb18) fun a26 S26 => hk _ (S26.re ⟨rfl, rfl, rfl, rfl, rfl, (by rw [hb18]; rfl), trivial⟩)
    intro a27 S27
    refine wpList_nil (hK _ _ ?_)
    replace hS : Sl 48 _ [(0, .iface 140 (.pointer (so b_p0))), (1, i6 p1), (2, i6 p2), (7, i6 m0_1), (8, i6 (wi ((wi (2 * m0_1)) + 1))), (21, .bool ((decide (p2 ≤ (wi ((wi (2 * m0_1)) + 1)))) || (decide ((wi ((wi (2 * m0_1)) + 1)) < 0))))] := S27.re ⟨Z, Z, Z, Z, Z, Z, trivial⟩
    clear hK K
    try clear S14 S15 S16 S17 S27
    generalize a27 = a at hS ⊢
    refine y2m hS Z (fun hb28 => ?_) (fun hb28 => ?_)
    ·replace H := y3f hb28 H
     refine wp_exit ?_
     have e := Option.some.inj H
     subst e
     exact ⟨g8, hS.re ⟨Z, Z, trivial⟩, hb0, y4w, hF⟩
    ·replace H := y3g hb28 H
     refine wp_skip ?_
     change Code.wp _ _ _ _ _
     refine y16 [(0, .iface 140 (.pointer (so b_p0))), (1, i6 p1), (2, i6 p2), (7, i6 m0_1), (8, i6 (wi ((wi (2 * m0_1)) + 1))), (9, i6 (wi ((wi (2 * m0_1)) + 1)))] (fun R hR => y00 hS Z Z Z (y03 hS Z Z) fun a29 S29 => y00 S29 Z Z Z (y02 S29 Z Z) fun a30 S30 => wpList_nil (hR _ (S30.re ⟨Z, Z, Z, Z, Z, Z, trivial⟩))) ?_
     clear hS a; intro a hS
     obtain ⟨v32, H, Hl34⟩ := y0b H
     refine y4u (fun a w31 => ∃ (g31 : Nat → Nat), Sl 48 a [(0, .iface 140 (.pointer (so b_p0))), (1, i6 p1), (2, i6 p2), (7, i6 m0_1), (9, i6 v32)] ∧ Bx w31 g31 (c0) b_p0 138 [.slice y4q m0_0.length y34] ∧ OwS (kint .i64) 3 w31 g31 (c0 + 1) y4q y34 m0_0 ∧ Fr (fun q => (c0 ≤ q ∧ q < c0 + 3) ∨ N ≤ q) w g w31 g31) ?_ ?_
     ·refine y16 [(0, .iface 140 (.pointer (so b_p0))), (1, i6 p1), (2, i6 p2), (7, i6 m0_1), (8, i6 (wi ((wi (2 * m0_1)) + 1))), (9, i6 (wi ((wi (2 * m0_1)) + 1))), (10, i6 (wi ((wi ((wi (2 * m0_1)) + 1)) + 1)))] (fun R hR => y00 hS Z Z Z (y03 hS Z Z) fun a35 S35 => y00 S35 Z Z Z (y2l S35 Z Z rfl y4z) fun a36 S36 => y00 S36 Z Z Z (y02 S36 Z Z) fun a37 S37 => wpList_nil (hR _ (S37.re ⟨Z, Z, Z, Z, Z, Z, Z, trivial⟩))) ?_
      clear hS a; intro a hS
      obtain ⟨t50, ht51, H⟩ := y0b H
      refine y0t (fun K hK => ?_)
      refine y00 hS Z Z Z (y03 hS Z Z) fun a38 S38 => y00 S38 Z Z Z (y03 S38 Z Z) fun a39 S39 => y00 S39 Z Z Z (y2l S39 Z Z rfl y4t) fun a40 S40 => y00 S40 Z Z Z (y03 S40 Z Z) fun a41 S41 => ?_
      refine g_joinR 5 (fun a w52 => ∃ (g52 : Nat → Nat), Sl 48 a [(0, .iface 140 (.pointer (so b_p0))), (1, i6 p1), (2, i6 p2), (7, i6 m0_1), (9, i6 (wi ((wi (2 * m0_1)) + 1))), (10, i6 (wi ((wi ((wi (2 * m0_1)) + 1)) + 1))), (33, .bool t50)] ∧ Bx w52 g52 (c0) b_p0 138 [.slice y4q m0_0.length y34] ∧ OwS (kint .i64) 3 w52 g52 (c0 + 1) y4q y34 m0_0 ∧ Fr (fun q => (c0 ≤ q ∧ q < c0 + 3) ∨ N ≤ q) w g w52 g52) ?_ (fun hk => ?_)
      rotate_left
      ·rcases Bool.eq_false_or_eq_true (decide ((wi ((wi ((wi (2 * m0_1)) + 1)) + 1)) < p2)) with hb42 | hb42
       ·have H := y3f hb42 ht51
        obtain ⟨r56, hr57, H⟩ := y0b H
        have e60 := Option.some.inj H
        refine y0p S41 (y0a S41 Z Z rfl hb42) Z Z (y03 S41 Z Z) fun a53 S53 => y0p S53 (y0a S53 Z Z rfl hb42) Z Z (y03 S53 Z Z) fun a54 S54 => y0p S54 (y0a S54 Z Z rfl hb42) Z Z (y03 S54 Z Z) fun a55 S55 => ?_
        refine st_enterW S55 (y0a S55 Z Z rfl hb42) Z Z (r_invoke (T := 140) (E := 138) (f := 124) (n := 1) (b := false) S55 Z Z Z (by kernel_rfl) (by kernel_rfl) (by kernel_rfl) (.inr ⟨rfl, (by kernel_rfl), Bx.cell hb0 rfl⟩)) (y2u.calls (C0 := (fun q => q = c0 + 1)) (p0 := m0_0) (p1 := (wi ((wi ((wi (2 * m0_1)) + 1)) + 1))) (p2 := (wi ((wi (2 * m0_1)) + 1))) (g := g8) (N + 0)  (OwD.rdf (fun _ _ _ _ _ _ h => h) y4w) (fun q (hq : q = c0 + 1) => by omega) hr57) ?_
        rintro _ a58 w59 ⟨g59, rfl, F59⟩ S58
        replace hb0 := hb0.fr F59 (fun (hm : N + 0 ≤ c0) => by omega)
        replace y4w := OwS.fr y4w F59 (fun c' hc (hm : N + 0 ≤ c') => by omega)
        replace hF := hF.trans F59 (fun c' (hm : N + 0 ≤ c') => by (try dsimp only); omega)
        refine y00 S58 Z Z Z (y2s S58 Z Z rfl hb42) fun a61 S61 => hk _ _ ?_
        exact ⟨g59, S61.re ⟨rfl, rfl, rfl, rfl, rfl, rfl, (by rw [← e60]; rfl), trivial⟩, hb0, y4w, hF⟩
       ·have H := y3g hb42 ht51
        have e62 := Option.some.inj H
        refine y1c S41 (y05 S41 Z Z rfl hb42) Z Z fun a63 S63 => y1c S63 (y05 S63 Z Z rfl hb42) Z Z fun a64 S64 => y1c S64 (y05 S64 Z Z rfl hb42) Z Z fun a65 S65 => y1c S65 (y05 S65 Z Z rfl hb42) Z Z fun a66 S66 => y00 S66 Z Z Z (y2t S66 Z Z rfl hb42) fun a67 S67 => hk _ _ ?_
        exact ⟨g8, S67.re ⟨rfl, rfl, rfl, rfl, rfl, rfl, (by rw [← e62]; rfl), trivial⟩, hb0, y4w, hF⟩
      rintro a68 w52 ⟨g52, S68, hb0, y4w, hF⟩
      refine wpList_nil (hK _ _ ?_)
      replace hS : Sl 48 _ [(0, .iface 140 (.pointer (so b_p0))), (1, i6 p1), (2, i6 p2), (7, i6 m0_1), (9, i6 (wi ((wi (2 * m0_1)) + 1))), (10, i6 (wi ((wi ((wi (2 * m0_1)) + 1)) + 1))), (33, .bool t50)] := S68.re ⟨Z, Z, Z, Z, Z, Z, Z, trivial⟩
      clear hK K
      try clear S38 S39 S40 S41 S68
      generalize a68 = a at hS ⊢
      refine y2m hS Z (fun hb69 => ?_) (fun hb69 => ?_)
      ·replace H := y3f hb69 H
       refine y3e [(0, .iface 140 (.pointer (so b_p0))), (1, i6 p1), (2, i6 p2), (7, i6 m0_1), (9, i6 (wi ((wi ((wi (2 * m0_1)) + 1)) + 1)))] (fun R hR => y00 hS Z Z Z (y03 hS Z Z) fun a70 S70 => y00 S70 Z Z Z (y02 S70 Z Z) fun a71 S71 => wpList_nil (hR _ (S71.re ⟨Z, Z, Z, Z, Z, trivial⟩))) ?_
       clear hS a; intro a hS
       have e := Option.some.inj H
       subst e
       exact ⟨g52, hS.re ⟨Z, Z, Z, Z, Z, trivial⟩, hb0, y4w, hF⟩
      ·replace H := y3g hb69 H
       refine wp_skip ?_
       have e := Option.some.inj H
       subst e
       exact ⟨g52, hS.re ⟨Z, Z, Z, Z, Z, trivial⟩, hb0, y4w, hF⟩
     ·clear H
      clear y4w hb0 hF
      clear hS
      rintro a w31 ⟨g31, hS, hb0, y4w, hF⟩
      have H := Hl34
      clear Hl34
      refine wp_seq ?_
      obtain ⟨r75, hr76, H⟩ := y0b H
      refine y0t (fun K hK => ?_)
      refine y00 hS Z Z Z (y03 hS Z Z) fun a72 S72 => y00 S72 Z Z Z (y03 S72 Z Z) fun a73 S73 => y00 S73 Z Z Z (y03 S73 Z Z) fun a74 S74 => ?_
      refine y1y S74 Z Z Z (r_invoke (T := 140) (E := 138) (f := 124) (n := 1) (b := false) S74 Z Z Z (by kernel_rfl) (by kernel_rfl) (by kernel_rfl) (.inr ⟨rfl, (by kernel_rfl), Bx.cell hb0 rfl⟩)) (y2u.calls (C0 := (fun q => q = c0 + 1)) (p0 := m0_0) (p1 := v32) (p2 := m0_1) (g := g31) (N + 0)  (OwD.rdf (fun _ _ _ _ _ _ h => h) y4w) (fun q (hq : q = c0 + 1) => by omega) hr76) ?_
      rintro _ a77 w78 ⟨g78, rfl, F78⟩ S77
      replace hb0 := hb0.fr F78 (fun (hm : N + 0 ≤ c0) => by omega)
      replace y4w := OwS.fr y4w F78 (fun c' hc (hm : N + 0 ≤ c') => by omega)
      replace hF := hF.trans F78 (fun c' (hm : N + 0 ≤ c') => by (try dsimp only); omega)
      refine y00 S77 Z Z Z (r_not S77 Z Z) fun a79 S79 => wpList_nil (hK _ _ ?_)
      replace hS : Sl 48 _ [(0, .iface 140 (.pointer (so b_p0))), (1, i6 p1), (2, i6 p2), (7, i6 m0_1), (9, i6 v32), (39, .bool (!r75))] := S79.re ⟨Z, Z, Z, Z, Z, Z, trivial⟩
      clear hK K
      try clear S72 S73 S74 S77 S79
      generalize a79 = a at hS ⊢
      refine y2m hS Z (fun hb80 => ?_) (fun hb80 => ?_)
      ·replace H := y3f hb80 H
       refine wp_exit ?_
       have e := Option.some.inj H
       subst e
       exact ⟨g78, hS.re ⟨Z, Z, trivial⟩, hb0, y4w, hF⟩
      ·replace H := y3g hb80 H
       refine wp_skip ?_
       change Code.wp _ _ _ _ _
       obtain ⟨r84, hr85, H⟩ := y0b H
       refine y0t (fun K hK => ?_)
       refine y00 hS Z Z Z (y03 hS Z Z) fun a81 S81 => y00 S81 Z Z Z (y03 S81 Z Z) fun a82 S82 => y00 S82 Z Z Z (y03 S82 Z Z) fun a83 S83 => ?_
       refine y1y S83 Z Z Z (r_invoke (T := 140) (E := 138) (f := 125) (n := 1) (b := false) S83 Z Z Z (by kernel_rfl) (by kernel_rfl) (by kernel_rfl) (.inr ⟨rfl, (by kernel_rfl), Bx.cell hb0 rfl⟩)) (y2y.calls (c0 := c0 + 1) (A0 := y4q) (cap0 := y34) (p0 := m0_0) (p1 := m0_1) (p2 := v32) (g := g78) (N + 0)  y4w (by omega) hr85) ?_
       rintro _ a87 w88 ⟨g88, rfl, y4w, hl86, F88⟩ S87
       replace hb0 := hb0.fr F88 (fun (hm : (c0 + 1 ≤ c0 ∧ c0 < c0 + 1 + 2) ∨ N + 0 ≤ c0) => by omega)
       replace hF := hF.trans F88 (fun c' (hm : (c0 + 1 ≤ c' ∧ c' < c0 + 1 + 2) ∨ N + 0 ≤ c') => by (try dsimp only); omega)
       replace hb0 : Bx w88 g88 (c0) b_p0 138 [.slice y4q r84.length y34] := by simpa only [hl86] using hb0
       refine wpList_nil (hK _ _ ?_)
       replace hS : Sl 48 _ [(0, .iface 140 (.pointer (so b_p0))), (1, i6 p1), (2, i6 p2), (9, i6 v32)] := S87.re ⟨Z, Z, Z, Z, trivial⟩
       clear hK K
       try clear S81 S82 S83 S87
       generalize a87 = a at hS ⊢
       refine y3e [(0, .iface 140 (.pointer (so b_p0))), (1, i6 p1), (2, i6 p2), (7, i6 v32)] (fun R hR => y00 hS Z Z Z (y03 hS Z Z) fun a89 S89 => y00 S89 Z Z Z (y02 S89 Z Z) fun a90 S90 => wpList_nil (hR _ (S90.re ⟨Z, Z, Z, Z, trivial⟩))) ?_
       clear hS a; intro a hS
       refine ⟨k9, Nat.lt_succ_self _, ?_⟩
       exact ⟨r84, v32, g88, H, hS.re ⟨Z, Z, Z, Z, trivial⟩, hb0, y4w, hF⟩
 ·clear H
  clear y4w hb0 hF
  clear hS
  rintro a w4 ⟨g4, hS, hb0, y4w, hF⟩
  have H := Hl7
  clear Hl7
  refine y16 [(6, .bool (decide (p1 < v5.1)))] (fun R hR => y00 hS Z Z Z (y03 hS Z Z) fun a91 S91 => y00 S91 Z Z Z (y03 S91 Z Z) fun a92 S92 => y00 S92 Z Z Z (y2l S92 Z Z rfl b_gtr) fun a93 S93 => y00 S93 Z Z Z (y02 S93 Z Z) fun a94 S94 => wpList_nil (hR _ (S94.re ⟨Z, trivial⟩))) ?_
  clear hS a; intro a hS
  refine wp_ret ?_
  have e := Option.some.inj H
  subst e
  repeat (with_reducible first | refine y1i ?_ | refine y0o ?_)
  exact y3v hS Try.results106 rfl ⟨_, rfl, g4, rfl, ⟨hb0, y4w⟩, hF⟩


end Go.Proofs.Ytcfcffbjdjacfaa.Sim

namespace Go.Proofs.Ytcfcffbjdjacfaa.Sim
open Go
set_option linter.unusedVariables false
set_option linter.unusedSimpArgs false

/-! ### heap_Pop: function 92 -/
def heap_Pop.f (p0 : y1p) : Option (y1p × Int) := (y3h.f p0.q).bind fun r3 => (y2y.f p0.q 0 (wi (r3 - 1))).bind fun r11 => (y4n.f (y1p.mk r11) 0 (wi (r3 - 1))).bind fun r18 => (y49.f r18.1).bind fun r23 => some (r23.1, r23.2)
set_option maxRecDepth 100000 in
set_option maxHeartbeats 4000000 in
theorem heap_Pop.calls {p0 : y1p} {c0 : Nat}  {b_p0 : Nat} {y4q : Option Addr} {y34 : Nat} {w : World} {g : Nat → Nat} {out : y1p × Int} (N : Nat) (hp0 : y35 w g c0 b_p0 y4q y34 p0) (hc0 : c0 + 3 ≤ N) (H : heap_Pop.f p0 = some out) :
  Calls Try.prog 92 #[.iface 140 (.pointer (so b_p0))] w (fun e w' => ∃ v, e = .returned v ∧ ∃ (g' : Nat → Nat) (A_q_q0 : Option Addr) (cap_q_q0 : Nat), v = .iface 3 (i6 out.2) ∧ y35 w' g' c0 b_p0 A_q_q0 cap_q_q0 out.1 ∧ Fr (fun q => (c0 ≤ q ∧ q < c0 + 3) ∨ N ≤ q) w g w' g') := by
 unfold heap_Pop.f at H
 refine y1k Try.func92 rfl Try.ntmps92 Z (fun a hS => ?_)
 replace hS : Sl 15 a [(0, .iface 140 (.pointer (so b_p0)))] := hS
 have hF : Fr (fun q => (c0 ≤ q ∧ q < c0 + 3) ∨ N ≤ q) w g w g := Fr.refl _ _ _
 obtain ⟨hb0, y4w⟩ := hp0
 refine y16 [(0, .iface 140 (.pointer (so b_p0)))] (fun R hR => y00 hS Z Z Z (y02 hS Z Z) fun a1 S1 => wpList_nil (hR _ (S1.re ⟨Z, trivial⟩))) ?_
 clear hS a; intro a hS
 obtain ⟨r3, hr4, H⟩ := y0b H
 refine y0t (fun K hK => ?_)
 refine y00 hS Z Z Z (y03 hS Z Z) fun a2 S2 => ?_
 refine y1y S2 Z Z Z (r_invoke (T := 140) (E := 138) (f := 123) (n := 1) (b := false) S2 Z Z Z (by kernel_rfl) (by kernel_rfl) (by kernel_rfl) (.inr ⟨rfl, (by kernel_rfl), Bx.cell hb0 rfl⟩)) (y3h.calls (C0 := (fun q => q = c0 + 1)) (p0 := p0.q) (g := g) (N + 0)  (OwD.rdf (fun _ _ _ _ _ _ h => h) y4w) (fun q (hq : q = c0 + 1) => by omega) hr4) ?_
 rintro _ a5 w6 ⟨g6, rfl, F6⟩ S5
 replace hb0 := hb0.fr F6 (fun (hm : N + 0 ≤ c0) => by omega)
 replace y4w := OwS.fr y4w F6 (fun c' hc (hm : N + 0 ≤ c') => by omega)
 replace hF := hF.trans F6 (fun c' (hm : N + 0 ≤ c') => by (try dsimp only); omega)
 refine y00 S5 Z Z Z (y2l S5 Z Z rfl b_sub) fun a7 S7 => y00 S7 Z Z Z (y02 S7 Z Z) fun a8 S8 => wpList_nil (hK _ _ ?_)
 replace hS : Sl 15 _ [(0, .iface 140 (.pointer (so b_p0))), (3, i6 (wi (r3 - 1)))] := S8.re ⟨Z, Z, trivial⟩
 clear hK K
 try clear S2 S5 S7 S8
 generalize a8 = a at hS ⊢
 obtain ⟨r11, hr12, H⟩ := y0b H
 refine y0t (fun K hK => ?_)
 refine y00 hS Z Z Z (y03 hS Z Z) fun a9 S9 => y00 S9 Z Z Z (y03 S9 Z Z) fun a10 S10 => ?_
 refine y1y S10 Z Z Z (r_invoke (T := 140) (E := 138) (f := 125) (n := 1) (b := false) S10 Z Z Z (by kernel_rfl) (by kernel_rfl) (by kernel_rfl) (.inr ⟨rfl, (by kernel_rfl), Bx.cell hb0 rfl⟩)) (y2y.calls (c0 := c0 + 1) (A0 := y4q) (cap0 := y34) (p0 := p0.q) (p1 := 0) (p2 := (wi (r3 - 1))) (g := g6) (N + 0)  y4w (by omega) hr12) ?_
 rintro _ a14 w15 ⟨g15, rfl, y4w, hl13, F15⟩ S14
 replace hb0 := hb0.fr F15 (fun (hm : (c0 + 1 ≤ c0 ∧ c0 < c0 + 1 + 2) ∨ N + 0 ≤ c0) => by omega)
 replace hF := hF.trans F15 (fun c' (hm : (c0 + 1 ≤ c' ∧ c' < c0 + 1 + 2) ∨ N + 0 ≤ c') => by (try dsimp only); omega)
 replace hb0 : Bx w15 g15 (c0) b_p0 138 [.slice y4q r11.length y34] := by simpa only [hl13] using hb0
 refine wpList_nil (hK _ _ ?_)
 replace hS : Sl 15 _ [(0, .iface 140 (.pointer (so b_p0))), (3, i6 (wi (r3 - 1)))] := S14.re ⟨Z, Z, trivial⟩
 clear hK K
 try clear S9 S10 S14
 generalize a14 = a at hS ⊢
 obtain ⟨r18, hr19, H⟩ := y0b H
 refine y0t (fun K hK => ?_)
 refine y00 hS Z Z Z (y03 hS Z Z) fun a16 S16 => y00 S16 Z Z Z (y03 S16 Z Z) fun a17 S17 => ?_
 refine y1y S17 Z Z Z (y2z S17 Z Z (by kernel_rfl)) (y4n.calls (c0 := c0) (b_p0 := b_p0) (y4q := y4q) (y34 := y34) (p0 := (y1p.mk r11)) (p1 := 0) (p2 := (wi (r3 - 1))) (g := g15) (N + 0)  ⟨hb0, y4w⟩ (by omega) hr19) ?_
 rintro _ a20 w21 ⟨g21, rfl, ⟨hb0, y4w⟩, F21⟩ S20
 replace hF := hF.trans F21 (fun c' (hm : (c0 ≤ c' ∧ c' < c0 + 3) ∨ N + 0 ≤ c') => by (try dsimp only); omega)
 refine wpList_nil (hK _ _ ?_)
 replace hS : Sl 15 _ [(0, .iface 140 (.pointer (so b_p0)))] := S20.re ⟨Z, trivial⟩
 clear hK K
 try clear S16 S17 S20
 generalize a20 = a at hS ⊢
 obtain ⟨r23, hr24, H⟩ := y0b H
 refine y0t (fun K hK => ?_)
 refine y00 hS Z Z Z (y03 hS Z Z) fun a22 S22 => ?_
 refine y1y S22 Z Z Z (r_invoke (T := 140) (E := 138) (f := 126) (n := 1) (b := true) S22 Z Z Z (by kernel_rfl) (by kernel_rfl) (by kernel_rfl) (.inl ⟨rfl, rfl⟩)) (y49.calls (c0 := c0) (b_p0 := b_p0) (y4q := y4q) (y34 := y34) (p0 := r18.1) (g := g21) (N + 0)  ⟨hb0, y4w⟩ (by omega) hr24) ?_
 rintro _ a27 w28 ⟨g28, A25, cap26, rfl, ⟨hb0, y4w⟩, F28⟩ S27
 replace hF := hF.trans F28 (fun c' (hm : (c0 ≤ c' ∧ c' < c0 + 3) ∨ N + 0 ≤ c') => by (try dsimp only); omega)
 refine y00 S27 Z Z Z (y02 S27 Z Z) fun a29 S29 => wpList_nil (hK _ _ ?_)
 replace hS : Sl 15 _ [(2, .iface 3 (i6 r23.2))] := S29.re ⟨Z, trivial⟩
 clear hK K
 try clear S22 S27 S29
 generalize a29 = a at hS ⊢
 refine wp_ret ?_
 have e := Option.some.inj H
 subst e
 repeat (with_reducible first | refine y1i ?_ | refine y0o ?_)
 exact y3v hS Try.results92 rfl ⟨_, rfl, g28, A25, cap26, rfl, ⟨hb0, y4w⟩, hF⟩


end Go.Proofs.Ytcfcffbjdjacfaa.Sim

namespace Go.Proofs.Ytcfcffbjdjacfaa.Sim
open Go
set_option linter.unusedVariables false
set_option linter.unusedSimpArgs false

/-! ### y46: function 127 -/
def y46.f (p0 : y1p) (p1 : Int) : Option (y1p) := (app p0.q [p1]).bind fun y20 => some (y1p.mk y20)
set_option maxRecDepth 100000 in
set_option maxHeartbeats 4000000 in
theorem y46.calls {p0 : y1p} {c0 : Nat}  {b_p0 : Nat} {y4q : Option Addr} {y34 : Nat} {p1 : Int} {w : World} {g : Nat → Nat} {out : y1p} (N : Nat) (hp0 : y35 w g c0 b_p0 y4q y34 p0) (hc0 : c0 + 3 ≤ N) (H : y46.f p0 p1 = some out) :
  Calls Try.prog 127 #[.pointer (so b_p0), .iface 3 (i6 p1)] w (fun e w' => ∃ v, e = .returned v ∧ ∃ (g' : Nat → Nat) (A_q_q0 : Option Addr) (cap_q_q0 : Nat), v = .tuple #[] ∧ y35 w' g' c0 b_p0 A_q_q0 cap_q_q0 out ∧ Fr (fun q => (c0 ≤ q ∧ q < c0 + 3) ∨ N ≤ q) w g w' g') := by
 unfold y46.f at H
 refine y1k Try.func127 rfl Try.ntmps127 Z (fun a hS => ?_)
 replace hS : Sl 20 a [(0, .pointer (so b_p0)), (1, .iface 3 (i6 p1))] := hS
 have hF : Fr (fun q => (c0 ≤ q ∧ q < c0 + 3) ∨ N ≤ q) w g w g := Fr.refl _ _ _
 obtain ⟨hb0, y4w⟩ := hp0
 refine y16 [(0, .pointer (so b_p0)), (4, i6 p1), (5, .bool true)] (fun R hR => y00 hS Z Z Z (y03 hS Z Z) fun a1 S1 => y00 S1 Z Z Z (r_assert S1 Z Z (by kernel_rfl)) fun a2 S2 => y00 S2 Z Z Z (y03 S2 Z Z) fun a3 S3 => y00 S3 Z Z Z (y1z S3 Z Z Z) fun a4 S4 => y00 S4 Z Z Z (y1z S4 Z Z Z) fun a5 S5 => y00 S5 Z Z Z (y02 S5 Z Z) fun a6 S6 => y00 S6 Z Z Z (y02 S6 Z Z) fun a7 S7 => wpList_nil (hR _ (S7.re ⟨Z, Z, Z, trivial⟩))) ?_
 clear hS a; intro a hS
 refine y16 [(0, .pointer (so b_p0)), (4, i6 p1), (11, .bool true)] (fun R hR => y00 hS Z Z Z (y03 hS Z Z) fun a8 S8 => wpList_nil (hR _ (S8.re ⟨Z, Z, Z, trivial⟩))) ?_
 clear hS a; intro a hS
 refine y2m hS Z (fun hb9 => ?_) (fun hb9 => ?_)
 ·obtain ⟨y20, hy21, H⟩ := y0b H
  refine y3l (fun K hK => ?_)
  refine y00 hS Z Z Z (y03 hS Z Z) fun a10 S10 => y00 S10 Z Z Z (y03 S10 Z Z) fun a11 S11 => y00 S11 Z Z Z (y4s S11 Z Z) fun a12 S12 => y00 S12 Z Z Z (y0u (n := 1) S12 Z Z (by kernel_rfl) (Bx.cell hb0 Z)) fun a13 S13 => y00 S13 Z Z Z (y03 S13 Z Z) fun a14 S14 => ?_
  refine y41 S14 Z Z Z (e_lit (e := 3) (parts := [(0, i6 p1)]) (cs := [i6 p1]) (kint .i64) [p1] (N + 0) g S14 Z Z (fun _ => by kernel_rfl) Z (by decide) (Rows.cons (cs := [i6 p1]) rfl Rows.nil)) ?_
  rintro _ a18 w19 g19 ⟨⟨A15, rfl, h16⟩, F19⟩ S18
  replace hb0 := hb0.fr F19 (fun h => h)
  replace y4w := OwS.fr y4w F19 (fun _ _ h => h)
  replace hF := hF.trans F19 (fun _ h => h.elim)
  refine y41 S18 Z Z Z (y4g (e := 3) (sz := 1) (by_ := 8) (z := [i6 0]) (kd := (kint .i64)) g19 S18 Z Z Z Z (by kernel_rfl) (by kernel_rfl) Z Z Z rfl y4w (OwD.rdx h16) (fun _ _ _ h => h) hy21) ?_
  rintro _ a26 w27 g27 ⟨⟨A22, cap23, rfl, h24⟩, F27⟩ S26
  replace h16 := OwS.fr h16 F27 (fun c' hc (hm : c' = c0 + 1) => by omega)
  replace hb0 := hb0.fr F27 (fun (hm : c0 = c0 + 1) => by omega)
  replace hF := hF.trans F27 (fun c' (hm : c' = c0 + 1) => by (try dsimp only); omega)
  refine y00 S26 Z Z Z (y4s S26 Z Z) fun a28 S28 => ?_
  refine y3s S28 Z Z (y4a (n := 1) (bb := false) (cs' := [.slice A22 y20.length cap23]) g27 S28 Z Z Z (by kernel_rfl) Z Z rfl hb0 Z Z) ?_
  rintro a29 w30 g30 ⟨hb0, F30⟩ S29
  replace h16 := OwS.fr h16 F30 (fun c' hc (hm : c' = c0) => by omega)
  replace h24 := OwS.fr h24 F30 (fun c' hc (hm : c' = c0) => by omega)
  replace hF := hF.trans F30 (fun c' (hm : c' = c0) => by (try dsimp only); omega)
  refine wpList_nil (hK _ _ ?_)
  replace hS : Sl 20 _ [] := S29.re trivial
  clear hK K
  try clear S10 S11 S12 S13 S14 S18 S26 S28 S29
  generalize a29 = a at hS ⊢
  have e := Option.some.inj H
  subst e
  repeat (with_reducible first | refine inBlock_exit ?_ | refine then_exit ?_ | refine inBlock_out (by decide) ?_ | refine inBlock_normal ?_)
  exact c_end0 hS Try.results127 ⟨_, rfl, g30, A22, cap23, rfl, ⟨hb0, h24⟩, hF⟩
 ·exact absurd hb9 (by decide)


end Go.Proofs.Ytcfcffbjdjacfaa.Sim

namespace Go.Proofs.Ytcfcffbjdjacfaa.Sim
open Go
set_option linter.unusedVariables false
set_option linter.unusedSimpArgs false

/-! ### heap_up: function 105 -/
def heap_up.l0 : Nat → (List Int) → Int → Option (y1p)
 | 0, _, _ => none
 | k2 + 1, m0_0, m0_1 => (if ((wi (Int.tdiv (wi (m0_1 - 1)) 2)) == m0_1) = true then some true else (y2u.f m0_0 m0_1 (wi (Int.tdiv (wi (m0_1 - 1)) 2))).bind fun r15 => some (!r15)).bind fun t20 => if t20 = true then (some (y1p.mk m0_0)) else ((y2y.f m0_0 (wi (Int.tdiv (wi (m0_1 - 1)) 2)) m0_1).bind fun r45 => heap_up.l0 k2 r45 (wi (Int.tdiv (wi (m0_1 - 1)) 2)))
def heap_up.f (p0 : y1p) (p1 : Int) : Option (y1p) := heap_up.l0 FUEL p0.q p1
set_option maxRecDepth 100000 in
set_option maxHeartbeats 4000000 in
theorem heap_up.calls {p0 : y1p} {c0 : Nat}  {b_p0 : Nat} {y4q : Option Addr} {y34 : Nat} {p1 : Int} {w : World} {g : Nat → Nat} {out : y1p} (N : Nat) (hp0 : y35 w g c0 b_p0 y4q y34 p0) (hc0 : c0 + 3 ≤ N) (H : heap_up.f p0 p1 = some out) :
  Calls Try.prog 105 #[.iface 140 (.pointer (so b_p0)), i6 p1] w (fun e w' => ∃ v, e = .returned v ∧ ∃ (g' : Nat → Nat), v = .tuple #[] ∧ y35 w' g' c0 b_p0 y4q y34 out ∧ Fr (fun q => (c0 ≤ q ∧ q < c0 + 3) ∨ N ≤ q) w g w' g') := by
 unfold heap_up.f at H
 refine y1k Try.func105 rfl Try.ntmps105 Z (fun a hS => ?_)
 replace hS : Sl 23 a [(0, .iface 140 (.pointer (so b_p0))), (1, i6 p1)] := hS
 have hF : Fr (fun q => (c0 ≤ q ∧ q < c0 + 3) ∨ N ≤ q) w g w g := Fr.refl _ _ _
 obtain ⟨hb0, y4w⟩ := hp0
 refine wp_block ?_
 refine wp_loop_ghost (fun kq => fun a w1 => ∃ (m0_0 : List Int), ∃ (m0_1 : Int), ∃ (g1 : Nat → Nat), heap_up.l0 kq m0_0 m0_1 = some out ∧ Sl 23 a [(0, .iface 140 (.pointer (so b_p0))), (1, i6 m0_1)] ∧ Bx w1 g1 (c0) b_p0 138 [.slice y4q m0_0.length y34] ∧ OwS (kint .i64) 3 w1 g1 (c0 + 1) y4q y34 m0_0 ∧ Fr (fun q => (c0 ≤ q ∧ q < c0 + 3) ∨ N ≤ q) w g w1 g1) FUEL ?_ ?_
 ·exact ⟨p0.q, p1, g, H, hS.re ⟨Z, Z, trivial⟩, hb0, y4w, hF⟩
 ·clear H
  clear y4w hb0 hF
  clear hS
  rintro k2 a w1 ⟨m0_0, m0_1, g1, hpre0, hS, hb0, y4w, hF⟩
  have H := hpre0
  clear hpre0
  cases k2 with
  | zero => exact absurd H (by simp [heap_up.l0])
  | succ k2 =>
   rw [heap_up.l0] at H
   refine wp_block ?_
   refine y16 [(0, .iface 140 (.pointer (so b_p0))), (1, i6 m0_1), (4, i6 (wi (Int.tdiv (wi (m0_1 - 1)) 2)))] (fun R hR => y00 hS Z Z Z (y03 hS Z Z) fun a3 S3 => y00 S3 Z Z Z (y2l S3 Z Z rfl b_sub) fun a4 S4 => y00 S4 Z Z Z (y2l S4 Z Z Z (b_quo (by decide))) fun a5 S5 => y00 S5 Z Z Z (y02 S5 Z Z) fun a6 S6 => wpList_nil (hR _ (S6.re ⟨Z, Z, Z, trivial⟩))) ?_
   clear hS a; intro a hS
   refine wp_seq ?_
   obtain ⟨t20, ht21, H⟩ := y0b H
   refine y0t (fun K hK => ?_)
   refine y00 hS Z Z Z (y03 hS Z Z) fun a7 S7 => y00 S7 Z Z Z (y03 S7 Z Z) fun a8 S8 => y00 S8 Z Z Z (y2l S8 Z Z rfl b_eql) fun a9 S9 => y00 S9 Z Z Z (y03 S9 Z Z) fun a10 S10 => ?_
   refine g_joinR 6 (fun a w22 => ∃ (g22 : Nat → Nat), Sl 23 a [(0, .iface 140 (.pointer (so b_p0))), (1, i6 m0_1), (4, i6 (wi (Int.tdiv (wi (m0_1 - 1)) 2))), (17, .bool t20)] ∧ Bx w22 g22 (c0) b_p0 138 [.slice y4q m0_0.length y34] ∧ OwS (kint .i64) 3 w22 g22 (c0 + 1) y4q y34 m0_0 ∧ Fr (fun q => (c0 ≤ q ∧ q < c0 + 3) ∨ N ≤ q) w g w22 g22) ?_ (fun hk => ?_)
   rotate_left
   ·rcases Bool.eq_false_or_eq_true (((wi (Int.tdiv (wi (m0_1 - 1)) 2)) == m0_1)) with hb11 | hb11
    ·have H := y3f hb11 ht21
     have e23 := Option.some.inj H
     refine y1c S10 (y05 S10 Z Z rfl hb11) Z Z fun a24 S24 => y1c S24 (y05 S24 Z Z rfl hb11) Z Z fun a25 S25 => y1c S25 (y05 S25 Z Z rfl hb11) Z Z fun a26 S26 => y1c S26 (y05 S26 Z Z rfl hb11) Z Z fun a27 S27 => y1c S27 (y05 S27 Z Z rfl hb11) Z Z fun a28 S28 => y00 S28 Z Z Z (y2s S28 Z Z rfl hb11) fun a29 S29 => hk _ _ ?_
     exact ⟨g1, S29.re ⟨rfl, rfl, rfl, (by rw [← e23]; rfl), trivial⟩, hb0, y4w, hF⟩
    ·have H := y3g hb11 ht21
     obtain ⟨r33, hr34, H⟩ := y0b H
     have e38 := Option.some.inj H
     refine y0p S10 (y0a S10 Z Z rfl hb11) Z Z (y03 S10 Z Z) fun a30 S30 => y0p S30 (y0a S30 Z Z rfl hb11) Z Z (y03 S30 Z Z) fun a31 S31 => y0p S31 (y0a S31 Z Z rfl hb11) Z Z (y03 S31 Z Z) fun a32 S32 => ?_
     refine st_enterW S32 (y0a S32 Z Z rfl hb11) Z Z (r_invoke (T := 140) (E := 138) (f := 124) (n := 1) (b := false) S32 Z Z Z (by kernel_rfl) (by kernel_rfl) (by kernel_rfl) (.inr ⟨rfl, (by kernel_rfl), Bx.cell hb0 rfl⟩)) (y2u.calls (C0 := (fun q => q = c0 + 1)) (p0 := m0_0) (p1 := m0_1) (p2 := (wi (Int.tdiv (wi (m0_1 - 1)) 2))) (g := g1) (N + 0)  (OwD.rdf (fun _ _ _ _ _ _ h => h) y4w) (fun q (hq : q = c0 + 1) => by omega) hr34) ?_
     rintro _ a35 w36 ⟨g36, rfl, F36⟩ S35
     replace hb0 := hb0.fr F36 (fun (hm : N + 0 ≤ c0) => by omega)
     replace y4w := OwS.fr y4w F36 (fun c' hc (hm : N + 0 ≤ c') => by omega)
     replace hF := hF.trans F36 (fun c' (hm : N + 0 ≤ c') => by (try dsimp only); omega)
     refine y0p S35 (y0a S35 Z Z rfl hb11) Z Z (r_not S35 Z Z) fun a37 S37 => ?_
     refine y00 S37 Z Z Z (y2t S37 Z Z rfl hb11) fun a39 S39 => hk _ _ ?_
     exact ⟨g36, S39.re ⟨rfl, rfl, rfl, (by rw [← e38]; rfl), trivial⟩, hb0, y4w, hF⟩
   rintro a40 w22 ⟨g22, S40, hb0, y4w, hF⟩
   refine wpList_nil (hK _ _ ?_)
   replace hS : Sl 23 _ [(0, .iface 140 (.pointer (so b_p0))), (1, i6 m0_1), (4, i6 (wi (Int.tdiv (wi (m0_1 - 1)) 2))), (17, .bool t20)] := S40.re ⟨Z, Z, Z, Z, trivial⟩
   clear hK K
   try clear S7 S8 S9 S10 S40
   generalize a40 = a at hS ⊢
   refine y2m hS Z (fun hb41 => ?_) (fun hb41 => ?_)
   ·replace H := y3f hb41 H
    refine wp_exit ?_
    have e := Option.some.inj H
    subst e
    repeat (with_reducible first | refine inBlock_exit ?_ | refine then_exit ?_ | refine inBlock_out (by decide) ?_ | refine inBlock_normal ?_)
    exact c_end0 hS Try.results105 ⟨_, rfl, g22, rfl, ⟨hb0, y4w⟩, hF⟩
   ·replace H := y3g hb41 H
    refine wp_skip ?_
    change Code.wp _ _ _ _ _
    obtain ⟨r45, hr46, H⟩ := y0b H
    refine y0t (fun K hK => ?_)
    refine y00 hS Z Z Z (y03 hS Z Z) fun a42 S42 => y00 S42 Z Z Z (y03 S42 Z Z) fun a43 S43 => y00 S43 Z Z Z (y03 S43 Z Z) fun a44 S44 => ?_
    refine y1y S44 Z Z Z (r_invoke (T := 140) (E := 138) (f := 125) (n := 1) (b := false) S44 Z Z Z (by kernel_rfl) (by kernel_rfl) (by kernel_rfl) (.inr ⟨rfl, (by kernel_rfl), Bx.cell hb0 rfl⟩)) (y2y.calls (c0 := c0 + 1) (A0 := y4q) (cap0 := y34) (p0 := m0_0) (p1 := (wi (Int.tdiv (wi (m0_1 - 1)) 2))) (p2 := m0_1) (g := g22) (N + 0)  y4w (by omega) hr46) ?_
    rintro _ a48 w49 ⟨g49, rfl, y4w, hl47, F49⟩ S48
    replace hb0 := hb0.fr F49 (fun (hm : (c0 + 1 ≤ c0 ∧ c0 < c0 + 1 + 2) ∨ N + 0 ≤ c0) => by omega)
    replace hF := hF.trans F49 (fun c' (hm : (c0 + 1 ≤ c' ∧ c' < c0 + 1 + 2) ∨ N + 0 ≤ c') => by (try dsimp only); omega)
    replace hb0 : Bx w49 g49 (c0) b_p0 138 [.slice y4q r45.length y34] := by simpa only [hl47] using hb0
    refine wpList_nil (hK _ _ ?_)
    replace hS : Sl 23 _ [(0, .iface 140 (.pointer (so b_p0))), (4, i6 (wi (Int.tdiv (wi (m0_1 - 1)) 2)))] := S48.re ⟨Z, Z, trivial⟩
    clear hK K
    try clear S42 S43 S44 S48
    generalize a48 = a at hS ⊢
    refine y3e [(0, .iface 140 (.pointer (so b_p0))), (1, i6 (wi (Int.tdiv (wi (m0_1 - 1)) 2)))] (fun R hR => y00 hS Z Z Z (y03 hS Z Z) fun a50 S50 => y00 S50 Z Z Z (y02 S50 Z Z) fun a51 S51 => wpList_nil (hR _ (S51.re ⟨Z, Z, trivial⟩))) ?_
    clear hS a; intro a hS
    refine ⟨k2, Nat.lt_succ_self _, ?_⟩
    exact ⟨r45, wi (Int.tdiv (wi (m0_1 - 1)) 2), g49, H, hS.re ⟨Z, Z, trivial⟩, hb0, y4w, hF⟩


end Go.Proofs.Ytcfcffbjdjacfaa.Sim

namespace Go.Proofs.Ytcfcffbjdjacfaa.Sim
open Go
set_option linter.unusedVariables false
set_option linter.unusedSimpArgs false

/-! ### heap_Push: function 91 -/
def heap_Push.f (p0 : y1p) (p1 : Int) : Option (y1p) := (y46.f p0 p1).bind fun r3 => (y3h.f r3.q).bind fun r11 => (heap_up.f r3 (wi (r11 - 1))).bind fun r16 => some r16
set_option maxRecDepth 100000 in
set_option maxHeartbeats 4000000 in
theorem heap_Push.calls {p0 : y1p} {c0 : Nat}  {b_p0 : Nat} {y4q : Option Addr} {y34 : Nat} {p1 : Int} {w : World} {g : Nat → Nat} {out : y1p} (N : Nat) (hp0 : y35 w g c0 b_p0 y4q y34 p0) (hc0 : c0 + 3 ≤ N) (H : heap_Push.f p0 p1 = some out) :
  Calls Try.prog 91 #[.iface 140 (.pointer (so b_p0)), .iface 3 (i6 p1)] w (fun e w' => ∃ v, e = .returned v ∧ ∃ (g' : Nat → Nat) (A_q_q0 : Option Addr) (cap_q_q0 : Nat), v = .tuple #[] ∧ y35 w' g' c0 b_p0 A_q_q0 cap_q_q0 out ∧ Fr (fun q => (c0 ≤ q ∧ q < c0 + 3) ∨ N ≤ q) w g w' g') := by
 unfold heap_Push.f at H
 refine y1k Try.func91 rfl Try.ntmps91 Z (fun a hS => ?_)
 replace hS : Sl 12 a [(0, .iface 140 (.pointer (so b_p0))), (1, .iface 3 (i6 p1))] := hS
 have hF : Fr (fun q => (c0 ≤ q ∧ q < c0 + 3) ∨ N ≤ q) w g w g := Fr.refl _ _ _
 obtain ⟨hb0, y4w⟩ := hp0
 obtain ⟨r3, hr4, H⟩ := y0b H
 refine y0t (fun K hK => ?_)
 refine y00 hS Z Z Z (y03 hS Z Z) fun a1 S1 => y00 S1 Z Z Z (y03 S1 Z Z) fun a2 S2 => ?_
 refine y1y S2 Z Z Z (r_invoke (T := 140) (E := 138) (f := 127) (n := 1) (b := true) S2 Z Z Z (by kernel_rfl) (by kernel_rfl) (by kernel_rfl) (.inl ⟨rfl, rfl⟩)) (y46.calls (c0 := c0) (b_p0 := b_p0) (y4q := y4q) (y34 := y34) (p0 := p0) (p1 := p1) (g := g) (N + 0)  ⟨hb0, y4w⟩ (by omega) hr4) ?_
 rintro _ a7 w8 ⟨g8, A5, cap6, rfl, ⟨hb0, y4w⟩, F8⟩ S7
 replace hF := hF.trans F8 (fun c' (hm : (c0 ≤ c' ∧ c' < c0 + 3) ∨ N + 0 ≤ c') => by (try dsimp only); omega)
 refine wpList_nil (hK _ _ ?_)
 replace hS : Sl 12 _ [(0, .iface 140 (.pointer (so b_p0)))] := S7.re ⟨Z, trivial⟩
 clear hK K
 try clear S1 S2 S7
 generalize a7 = a at hS ⊢
 obtain ⟨r11, hr12, H⟩ := y0b H
 obtain ⟨r16, hr17, H⟩ := y0b H
 refine y3l (fun K hK => ?_)
 refine y00 hS Z Z Z (y03 hS Z Z) fun a9 S9 => y00 S9 Z Z Z (y03 S9 Z Z) fun a10 S10 => ?_
 refine y1y S10 Z Z Z (r_invoke (T := 140) (E := 138) (f := 123) (n := 1) (b := false) S10 Z Z Z (by kernel_rfl) (by kernel_rfl) (by kernel_rfl) (.inr ⟨rfl, (by kernel_rfl), Bx.cell hb0 rfl⟩)) (y3h.calls (C0 := (fun q => q = c0 + 1)) (p0 := r3.q) (g := g8) (N + 0)  (OwD.rdf (fun _ _ _ _ _ _ h => h) y4w) (fun q (hq : q = c0 + 1) => by omega) hr12) ?_
 rintro _ a13 w14 ⟨g14, rfl, F14⟩ S13
 replace hb0 := hb0.fr F14 (fun (hm : N + 0 ≤ c0) => by omega)
 replace y4w := OwS.fr y4w F14 (fun c' hc (hm : N + 0 ≤ c') => by omega)
 replace hF := hF.trans F14 (fun c' (hm : N + 0 ≤ c') => by (try dsimp only); omega)
 refine y00 S13 Z Z Z (y2l S13 Z Z rfl b_sub) fun a15 S15 => ?_
 refine y1y S15 Z Z Z (y2z S15 Z Z (by kernel_rfl)) (heap_up.calls (c0 := c0) (b_p0 := b_p0) (y4q := A5) (y34 := cap6) (p0 := r3) (p1 := (wi (r11 - 1))) (g := g14) (N + 0)  ⟨hb0, y4w⟩ (by omega) hr17) ?_
 rintro _ a18 w19 ⟨g19, rfl, ⟨hb0, y4w⟩, F19⟩ S18
 replace hF := hF.trans F19 (fun c' (hm : (c0 ≤ c' ∧ c' < c0 + 3) ∨ N + 0 ≤ c') => by (try dsimp only); omega)
 refine wpList_nil (hK _ _ ?_)
 replace hS : Sl 12 _ [] := S18.re trivial
 clear hK K
 try clear S9 S10 S13 S15 S18
 generalize a18 = a at hS ⊢
 have e := Option.some.inj H
 subst e
 repeat (with_reducible first | refine inBlock_exit ?_ | refine then_exit ?_ | refine inBlock_out (by decide) ?_ | refine inBlock_normal ?_)
 exact c_end0 hS Try.results91 ⟨_, rfl, g19, A5, cap6, rfl, ⟨hb0, y4w⟩, hF⟩


end Go.Proofs.Ytcfcffbjdjacfaa.Sim
