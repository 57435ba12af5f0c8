/-
  Texts of this session, part 4 of 7: the words of the walk, plain functions with the same answers as the Go functions and the proofs of it, plain lemmas. No condition.
  They are, one behind the other: QRef28ManagerIdle QRef28ManagerFirst QRef28ManagerExpire QRef28ManagerAdvance QRef24Invalid QRef24Basic QRef24Matrix QRef24Check QRef24Remove QRef24Order QRef24Closure QRef24Suppliers.
-/
import Derived.Test.YtcfcffbjdjacfaaProg
import Derived.Test.YtcfcffbjdjacfaaZRuntimepmCallsAgree3

namespace Go.Proofs.Ytcfcffbjdjacfaa.Sim
open Go
set_option linter.unusedVariables false
set_option linter.unusedSimpArgs false

/-! ### y21: function 75 -/
def y21.l0 (p0 : y06) (p1 : Int) : Nat → Int → Option (Fl (Bool) (Unit))
 | 0, _ => none
 | k57 + 1, m0_0 => if decide (m0_0 < (p0.Links.length : Int)) = true then ((idx p0.Links m0_0).bind fun x72 => (if (x72.Supplier == p1) = true then (idx p0.On x72.Consumer).bind fun x93 => some x93 else some false).bind fun t97 => if t97 = true then (some (.out false)) else (y21.l0 p0 p1 k57 (wi (m0_0 + 1)))) else (some (.nxt ()))
def y21.f (p0 : y06) (p1 : Int) : Option (Bool) := (idx p0.On p1).bind fun x7 => (if (!x7) = true then some true else (idx p0.Use p1).bind fun x19 => some (decide (0 < x19))).bind fun t24 => if t24 = true then (some false) else ((y21.l0 p0 p1 FUEL 0 : Option (Fl (Bool) (Unit))).bind fun o53 => o53.go fun _ => some true)
set_option maxRecDepth 100000 in
set_option maxHeartbeats 4000000 in
theorem y21.calls {p0 : y06} {c0 : Nat} {y2a : Nat → Prop} {b_p0 : Nat} {y2o : Option Addr} {y1l : Nat} {y0x : Option Addr} {y0m : Nat} {y24 : Option Addr} {y1d : Nat} {y1m : Option Addr} {y0y : Nat} {y0z : Option Addr} {y0n : Nat} {p1 : Int} {w : World} {g : Nat → Nat} {out : Bool} (N : Nat) (hp0 : y2q w g c0 y2a b_p0 y2o y1l y0x y0m y24 y1d y1m y0y y0z y0n p0) (hc0 : c0 + 9 ≤ N) (y33 : ∀ c, y2a c → c < N ∧ (c < c0 ∨ c0 + 9 ≤ c)) (H : y21.f p0 p1 = some out) :
  Calls Try.prog 75 #[.pointer (so b_p0), i6 p1] w (fun e w' => ∃ v, e = .returned v ∧ ∃ (g' : Nat → Nat), v = .bool out ∧ Fr (fun q => N ≤ q) w g w' g') := by
 unfold y21.f at H
 refine y1k Try.func75 rfl Try.ntmps75 Z (fun a hS => ?_)
 replace hS : Sl 59 a [(0, .pointer (so b_p0)), (1, i6 p1)] := hS
 have hF : Fr (fun q => N ≤ q) w g w g := Fr.refl _ _ _
 obtain ⟨hb0, y2v, y0c, y1o, y14, y0d⟩ := hp0
 refine y16 [(0, .pointer (so b_p0)), (1, i6 p1)] (fun R hR => y00 hS Z Z Z (y02 hS Z Z) fun a1 S1 => wpList_nil (hR _ (S1.re ⟨Z, Z, trivial⟩))) ?_
 clear hS a; intro a hS
 refine wp_seq ?_
 obtain ⟨x7, hx8, H⟩ := y0b H
 obtain ⟨t24, ht25, H⟩ := y0b H
 refine y0t (fun K hK => ?_)
 refine y00 hS Z Z Z (y03 hS Z Z) fun a2 S2 => y00 S2 Z Z Z (y4s S2 Z Z) fun a3 S3 => y00 S3 Z Z Z (y1e (off := 2) S3 Z Z (by kernel_rfl)) fun a4 S4 => y00 S4 Z Z Z (y0u (n := 1) S4 Z Z (by kernel_rfl) (Bx.cell hb0 Z)) fun a5 S5 => y00 S5 Z Z Z (y03 S5 Z Z) fun a6 S6 => y00 S6 Z Z Z (y1j (e := 4) (sz := 1) (by_ := 1) S6 Z Z Z (by kernel_rfl) (RdS.some_ (OwS.rd y1o) hx8) (y26 hx8) (y27 hx8)) fun a9 S9 => y00 S9 Z Z Z (y0u (n := 1) S9 Z Z (by kernel_rfl) (RdS.cell (i := p1) (sz := 1) (j := 0) (OwS.rd y1o) hx8 Z)) fun a10 S10 => y00 S10 Z Z Z (r_not S10 Z Z) fun a11 S11 => y00 S11 Z Z Z (y03 S11 Z Z) fun a12 S12 => ?_
 refine y4b (N := 59) 9 [(0, .pointer (so b_p0)), (1, i6 p1), (23, .bool t24)] ?_ (fun hk => ?_)
 rotate_left
 ·rcases Bool.eq_false_or_eq_true ((!x7)) with hb13 | hb13
  ·have H := y3f hb13 ht25
   have e26 := Option.some.inj H
   refine y1c S12 (y05 S12 Z Z rfl hb13) Z Z fun a27 S27 => y1c S27 (y05 S27 Z Z rfl hb13) Z Z fun a28 S28 => y1c S28 (y05 S28 Z Z rfl hb13) Z Z fun a29 S29 => y1c S29 (y05 S29 Z Z rfl hb13) Z Z fun a30 S30 => y1c S30 (y05 S30 Z Z rfl hb13) Z Z fun a31 S31 => y1c S31 (y05 S31 Z Z rfl hb13) Z Z fun a32 S32 => y1c S32 (y05 S32 Z Z rfl hb13) Z Z fun a33 S33 => y1c S33 (y05 S33 Z Z rfl hb13) Z Z fun a34 S34 => y00 S34 Z Z Z (y2s S34 Z Z rfl hb13) fun a35 S35 => hk _ (S35.re ⟨rfl, rfl, (by rw [← e26]; rfl), trivial⟩)
  ·have H := y3g hb13 ht25
   obtain ⟨x41, hx42, H⟩ := y0b H
   have e46 := Option.some.inj H
   refine y0p S12 (y0a S12 Z Z rfl hb13) Z Z (y03 S12 Z Z) fun a36 S36 => y0p S36 (y0a S36 Z Z rfl hb13) Z Z (y4s S36 Z Z) fun a37 S37 => y0p S37 (y0a S37 Z Z rfl hb13) Z Z (y1e (off := 3) S37 Z Z (by kernel_rfl)) fun a38 S38 => y0p S38 (y0a S38 Z Z rfl hb13) Z Z (y0u (n := 1) S38 Z Z (by kernel_rfl) (Bx.cell hb0 Z)) fun a39 S39 => y0p S39 (y0a S39 Z Z rfl hb13) Z Z (y03 S39 Z Z) fun a40 S40 => y0p S40 (y0a S40 Z Z rfl hb13) Z Z (y1j (e := 3) (sz := 1) (by_ := 8) S40 Z Z Z (by kernel_rfl) (RdS.some_ (OwS.rd y14) hx42) (y26 hx42) (y27 hx42)) fun a43 S43 => y0p S43 (y0a S43 Z Z rfl hb13) Z Z (y0u (n := 1) S43 Z Z (by kernel_rfl) (RdS.cell (i := p1) (sz := 1) (j := 0) (OwS.rd y14) hx42 Z)) fun a44 S44 => y0p S44 (y0a S44 Z Z rfl hb13) Z Z (y2l S44 Z Z rfl b_gtr) fun a45 S45 => y00 S45 Z Z Z (y2t S45 Z Z rfl hb13) fun a47 S47 => hk _ (S47.re ⟨rfl, rfl, (by rw [← e46]; rfl), trivial⟩)
 intro a48 S48
 refine wpList_nil (hK _ _ ?_)
 replace hS : Sl 59 _ [(0, .pointer (so b_p0)), (1, i6 p1), (23, .bool t24)] := S48.re ⟨Z, Z, Z, trivial⟩
 clear hK K
 try clear S2 S3 S4 S5 S6 S9 S10 S11 S12 S48
 generalize a48 = a at hS ⊢
 refine y2m hS Z (fun hb49 => ?_) (fun hb49 => ?_)
 ·replace H := y3f hb49 H
  refine y16 [(4, .bool false)] (fun R hR => y00 hS Z Z Z (y02 hS Z Z) fun a50 S50 => wpList_nil (hR _ (S50.re ⟨Z, trivial⟩))) ?_
  clear hS a; intro a hS
  refine wp_ret ?_
  have e := Option.some.inj H
  subst e
  repeat (with_reducible first | refine y1i ?_ | refine y0o ?_)
  exact y3v hS Try.results75 rfl ⟨_, rfl, g, rfl, hF⟩
 ·replace H := y3g hb49 H
  refine wp_skip ?_
  change Code.wp _ _ _ _ _
  obtain ⟨o53, H, Hl54⟩ := y0b H
  refine y4u (fun a w51 => ∃ (g51 : Nat → Nat), o53 = .nxt () ∧ Sl 59 a [] ∧ Bx w51 g51 (c0) b_p0 63 [.slice y2o p0.D.length y1l, .slice y0x p0.Links.length y0m, .slice y24 p0.On.length y1d, .slice y1m p0.Use.length y0y, .slice y0z p0.Since.length y0n, .int .u64 p0.Clock] ∧ RdS y0f w51 g51 y2a y2o y1l p0.D ∧ OwS y0r 67 w51 g51 (c0 + 1) y0x y0m p0.Links ∧ OwS y4p 4 w51 g51 (c0 + 3) y24 y1d p0.On ∧ OwS (kint .u64) 28 w51 g51 (c0 + 7) y0z y0n p0.Since ∧ OwS (kint .i64) 3 w51 g51 (c0 + 5) y1m y0y p0.Use ∧ Fr (fun q => N ≤ q) w g w51 g51) ?_ ?_
  ·refine y16 [(0, .pointer (so b_p0)), (1, i6 p1), (5, i6 0)] (fun R hR => y00 hS Z Z Z (y02 hS Z Z) fun a55 S55 => wpList_nil (hR _ (S55.re ⟨Z, Z, Z, trivial⟩))) ?_
   clear hS a; intro a hS
   refine wp_block ?_
   refine wp_loop_ghost (fun kq => fun a w56 => ∃ (m0_0 : Int), ∃ (g56 : Nat → Nat), y21.l0 p0 p1 kq m0_0 = some o53 ∧ Sl 59 a [(0, .pointer (so b_p0)), (1, i6 p1), (5, i6 m0_0)] ∧ Bx w56 g56 (c0) b_p0 63 [.slice y2o p0.D.length y1l, .slice y0x p0.Links.length y0m, .slice y24 p0.On.length y1d, .slice y1m p0.Use.length y0y, .slice y0z p0.Since.length y0n, .int .u64 p0.Clock] ∧ RdS y0f w56 g56 y2a y2o y1l p0.D ∧ OwS y0r 67 w56 g56 (c0 + 1) y0x y0m p0.Links ∧ OwS y4p 4 w56 g56 (c0 + 3) y24 y1d p0.On ∧ OwS (kint .u64) 28 w56 g56 (c0 + 7) y0z y0n p0.Since ∧ OwS (kint .i64) 3 w56 g56 (c0 + 5) y1m y0y p0.Use ∧ Fr (fun q => N ≤ q) w g w56 g56) FUEL ?_ ?_
   ·exact ⟨0, g, H, hS.re ⟨Z, Z, Z, trivial⟩, hb0, y2v, y0c, y1o, y0d, y14, hF⟩
   ·clear H
    clear y2v y0c y1o y14 y0d hb0 hF
    clear hS
    rintro k57 a w56 ⟨m0_0, g56, hpre0, hS, hb0, y2v, y0c, y1o, y0d, y14, hF⟩
    have H := hpre0
    clear hpre0
    cases k57 with
    | zero => exact absurd H (by simp [y21.l0])
    | succ k57 =>
     rw [y21.l0] at H
     refine wp_seq ?_
     refine y16 [(0, .pointer (so b_p0)), (1, i6 p1), (5, i6 m0_0), (30, .bool (decide (m0_0 < (p0.Links.length : Int))))] (fun R hR => y00 hS Z Z Z (y03 hS Z Z) fun a58 S58 => y00 S58 Z Z Z (y03 S58 Z Z) fun a59 S59 => y00 S59 Z Z Z (y4s S59 Z Z) fun a60 S60 => y00 S60 Z Z Z (y1e (off := 1) S60 Z Z (by kernel_rfl)) fun a61 S61 => y00 S61 Z Z Z (y0u (n := 1) S61 Z Z (by kernel_rfl) (Bx.cell hb0 Z)) fun a62 S62 => y00 S62 Z Z Z (y4x (e := 67) (sz := 2) (by_ := 16) S62 Z Z (by kernel_rfl)) fun a63 S63 => y00 S63 Z Z Z (y2l S63 Z Z rfl y4t) fun a64 S64 => wpList_nil (hR _ (S64.re ⟨Z, Z, Z, Z, trivial⟩))) ?_
     clear hS a; intro a hS
     refine y2m hS Z (fun hb65 => ?_) (fun hb65 => ?_)
     ·replace H := y3f hb65 H
      refine wp_skip ?_
      change Code.wp _ _ _ _ _
      refine wp_seq ?_
      refine wp_block ?_
      obtain ⟨x72, hx73, H⟩ := y0b H
      obtain ⟨t97, ht98, H⟩ := y0b H
      refine c_draw (fun K hK => y4m (fun q => False) g56 [] 26 (ba 0 26) (by kernel_rfl) Z Z (fun w66 hw66 => ?_))
      have F66 : Fr (fun _ => False) w56 g56 w66 g56 := by rw [hw66]; exact Fr.drew _ _ _
      replace hb0 := hb0.fr F66 (fun h => h)
      replace y2v := RdS.fr y2v F66 (by decide) (fun _ _ h => h)
      replace y0c := OwS.fr y0c F66 (fun _ _ h => h)
      replace y1o := OwS.fr y1o F66 (fun _ _ h => h)
      replace y0d := OwS.fr y0d F66 (fun _ _ h => h)
      replace y14 := OwS.fr y14 F66 (fun _ _ h => h)
      replace hF := hF.trans F66 (fun _ h => h.elim)
      have hC : Fr (fun q => False) w66 g56 w66 g56 := Fr.refl _ _ _
      refine y1b hS 0 (ba 1 25) Z Z Z Z (by kernel_rfl) (fun _ _ _ h => h) (fun _ => (y03 hS Z Z)) fun a67 S67 => y1b S67 1 (ba 2 24) Z Z Z Z (by kernel_rfl) (fun _ _ _ h => h) (fun _ => (y4s S67 Z Z)) fun a68 S68 => y1b S68 2 (ba 3 23) Z Z Z Z (by kernel_rfl) (fun _ _ _ h => h) (fun _ => (y1e (off := 1) S68 Z Z (by kernel_rfl))) fun a69 S69 => y3w S69 3 (ba 4 22) Z Z Z Z (by kernel_rfl) (fun _ _ _ h => h) ⟨_, hC⟩ (fun w' g' Fz => (y0u (n := 1) S69 Z Z (by kernel_rfl) (Bx.cell (hb0.fr Fz (fun h => h)) Z))) fun a70 S70 => y1b S70 4 (ba 5 21) Z Z Z Z (by kernel_rfl) (fun _ _ _ h => h) (fun _ => (y03 S70 Z Z)) fun a71 S71 => y1b S71 5 (ba 6 20) Z Z Z Z (by kernel_rfl) (fun _ _ _ h => h) (fun _ => (y1j (e := 67) (sz := 2) (by_ := 16) S71 Z Z Z (by kernel_rfl) (RdS.some_ (OwS.rd y0c) hx73) (y26 hx73) (y27 hx73))) fun a74 S74 => y1b S74 6 (ba 7 19) Z Z Z Z (by kernel_rfl) (fun _ _ _ h => h) (fun _ => (y2w (off := 1) S74 Z Z (by kernel_rfl))) fun a75 S75 => y3w S75 7 (ba 8 18) Z Z Z Z (by kernel_rfl) (fun _ _ _ h => h) ⟨_, hC⟩ (fun w' g' Fz => (y0u (n := 1) S75 Z Z (by kernel_rfl) (RdS.cell (i := m0_0) (sz := 2) (j := 1) (OwS.rd (OwS.fr y0c Fz (fun _ _ h => h))) hx73 Z))) fun a76 S76 => y1b S76 8 (ba 9 17) Z Z Z Z (by kernel_rfl) (fun _ _ _ h => h) (fun _ => (y03 S76 Z Z)) fun a77 S77 => y1b S77 9 (ba 10 16) Z Z Z Z (by kernel_rfl) (fun _ _ _ h => h) (fun _ => (y2l S77 Z Z rfl b_eql)) fun a78 S78 => y1b S78 10 (ba 11 15) Z Z Z Z (by kernel_rfl) (fun _ _ _ h => h) (fun _ => (y03 S78 Z Z)) fun a79 S79 => ?_
      refine d_join (N := 59) 0 (ba 26 0) [(0, .pointer (so b_p0)), (1, i6 p1), (5, i6 m0_0), (58, .bool t97)] ?_ (fun hk => ?_)
      rotate_left
      ·rcases Bool.eq_false_or_eq_true ((x72.Supplier == p1)) with hb80 | hb80
       ·have H := y3f hb80 ht98
        obtain ⟨x111, hx112, H⟩ := y0b H
        have e115 := Option.some.inj H
        refine y30 S79 11 (ba 12 14) Z (y0a S79 Z Z rfl hb80) Z Z (by kernel_rfl) (fun _ _ _ h => h) (fun _ => (y03 S79 Z Z)) fun a99 S99 => y30 S99 12 (ba 13 13) Z (y0a S99 Z Z rfl hb80) Z Z (by kernel_rfl) (fun _ _ _ h => h) (fun _ => (y4s S99 Z Z)) fun a100 S100 => y30 S100 13 (ba 14 12) Z (y0a S100 Z Z rfl hb80) Z Z (by kernel_rfl) (fun _ _ _ h => h) (fun _ => (y1e (off := 2) S100 Z Z (by kernel_rfl))) fun a101 S101 => d_takeW S101 14 (ba 15 11) Z (y0a S101 Z Z rfl hb80) Z Z (by kernel_rfl) (fun _ _ _ h => h) ⟨_, hC⟩ (fun w' g' Fz => (y0u (n := 1) S101 Z Z (by kernel_rfl) (Bx.cell (hb0.fr Fz (fun h => h)) Z))) fun a102 S102 => y30 S102 15 (ba 16 10) Z (y0a S102 Z Z rfl hb80) Z Z (by kernel_rfl) (fun _ _ _ h => h) (fun _ => (y03 S102 Z Z)) fun a103 S103 => y30 S103 16 (ba 17 9) Z (y0a S103 Z Z rfl hb80) Z Z (by kernel_rfl) (fun _ _ _ h => h) (fun _ => (y4s S103 Z Z)) fun a104 S104 => y30 S104 17 (ba 18 8) Z (y0a S104 Z Z rfl hb80) Z Z (by kernel_rfl) (fun _ _ _ h => h) (fun _ => (y1e (off := 1) S104 Z Z (by kernel_rfl))) fun a105 S105 => d_takeW S105 18 (ba 19 7) Z (y0a S105 Z Z rfl hb80) Z Z (by kernel_rfl) (fun _ _ _ h => h) ⟨_, hC⟩ (fun w' g' Fz => (y0u (n := 1) S105 Z Z (by kernel_rfl) (Bx.cell (hb0.fr Fz (fun h => h)) Z))) fun a106 S106 => y30 S106 19 (ba 20 6) Z (y0a S106 Z Z rfl hb80) Z Z (by kernel_rfl) (fun _ _ _ h => h) (fun _ => (y03 S106 Z Z)) fun a107 S107 => y30 S107 20 (ba 21 5) Z (y0a S107 Z Z rfl hb80) Z Z (by kernel_rfl) (fun _ _ _ h => h) (fun _ => (y1j (e := 67) (sz := 2) (by_ := 16) S107 Z Z Z (by kernel_rfl) (RdS.some_ (OwS.rd y0c) hx73) (y26 hx73) (y27 hx73))) fun a108 S108 => y30 S108 21 (ba 22 4) Z (y0a S108 Z Z rfl hb80) Z Z (by kernel_rfl) (fun _ _ _ h => h) (fun _ => (y2w (off := 0) S108 Z Z (by kernel_rfl))) fun a109 S109 => d_takeW S109 22 (ba 23 3) Z (y0a S109 Z Z rfl hb80) Z Z (by kernel_rfl) (fun _ _ _ h => h) ⟨_, hC⟩ (fun w' g' Fz => (y0u (n := 1) S109 Z Z (by kernel_rfl) (RdS.cell (i := m0_0) (sz := 2) (j := 0) (OwS.rd (OwS.fr y0c Fz (fun _ _ h => h))) hx73 Z))) fun a110 S110 => y30 S110 23 (ba 24 2) Z (y0a S110 Z Z rfl hb80) Z Z (by kernel_rfl) (fun _ _ _ h => h) (fun _ => (y1j (e := 4) (sz := 1) (by_ := 1) S110 Z Z Z (by kernel_rfl) (RdS.some_ (OwS.rd y1o) hx112) (y26 hx112) (y27 hx112))) fun a113 S113 => d_takeW S113 24 (ba 25 1) Z (y0a S113 Z Z rfl hb80) Z Z (by kernel_rfl) (fun _ _ _ h => h) ⟨_, hC⟩ (fun w' g' Fz => (y0u (n := 1) S113 Z Z (by kernel_rfl) (RdS.cell (i := x72.Consumer) (sz := 1) (j := 0) (OwS.rd (OwS.fr y1o Fz (fun _ _ h => h))) hx112 Z))) fun a114 S114 => y1b S114 25 (ba 26 0) Z Z Z Z (by kernel_rfl) (fun _ _ _ h => h) (fun _ => (y2s S114 Z Z rfl hb80)) fun a116 S116 => hk _ (S116.re ⟨rfl, rfl, rfl, (by rw [← e115]; rfl), trivial⟩)
       ·have H := y3g hb80 ht98
        have e117 := Option.some.inj H
        refine y48 S79 11 (ba 12 14) Z (y05 S79 Z Z rfl hb80) Z Z (by kernel_rfl) (fun _ _ _ h => h) fun a118 S118 => y48 S118 12 (ba 13 13) Z (y05 S118 Z Z rfl hb80) Z Z (by kernel_rfl) (fun _ _ _ h => h) fun a119 S119 => y48 S119 13 (ba 14 12) Z (y05 S119 Z Z rfl hb80) Z Z (by kernel_rfl) (fun _ _ _ h => h) fun a120 S120 => y48 S120 14 (ba 15 11) Z (y05 S120 Z Z rfl hb80) Z Z (by kernel_rfl) (fun _ _ _ h => h) fun a121 S121 => y48 S121 15 (ba 16 10) Z (y05 S121 Z Z rfl hb80) Z Z (by kernel_rfl) (fun _ _ _ h => h) fun a122 S122 => y48 S122 16 (ba 17 9) Z (y05 S122 Z Z rfl hb80) Z Z (by kernel_rfl) (fun _ _ _ h => h) fun a123 S123 => y48 S123 17 (ba 18 8) Z (y05 S123 Z Z rfl hb80) Z Z (by kernel_rfl) (fun _ _ _ h => h) fun a124 S124 => y48 S124 18 (ba 19 7) Z (y05 S124 Z Z rfl hb80) Z Z (by kernel_rfl) (fun _ _ _ h => h) fun a125 S125 => y48 S125 19 (ba 20 6) Z (y05 S125 Z Z rfl hb80) Z Z (by kernel_rfl) (fun _ _ _ h => h) fun a126 S126 => y48 S126 20 (ba 21 5) Z (y05 S126 Z Z rfl hb80) Z Z (by kernel_rfl) (fun _ _ _ h => h) fun a127 S127 => y48 S127 21 (ba 22 4) Z (y05 S127 Z Z rfl hb80) Z Z (by kernel_rfl) (fun _ _ _ h => h) fun a128 S128 => y48 S128 22 (ba 23 3) Z (y05 S128 Z Z rfl hb80) Z Z (by kernel_rfl) (fun _ _ _ h => h) fun a129 S129 => y48 S129 23 (ba 24 2) Z (y05 S129 Z Z rfl hb80) Z Z (by kernel_rfl) (fun _ _ _ h => h) fun a130 S130 => y48 S130 24 (ba 25 1) Z (y05 S130 Z Z rfl hb80) Z Z (by kernel_rfl) (fun _ _ _ h => h) fun a131 S131 => y1b S131 25 (ba 26 0) Z Z Z Z (by kernel_rfl) (fun _ _ _ h => h) (fun _ => (y2t S131 Z Z rfl hb80)) fun a132 S132 => hk _ (S132.re ⟨rfl, rfl, rfl, (by rw [← e117]; rfl), trivial⟩)
      intro a133 S133
      refine y4v (by kernel_rfl) (hK _ _ ?_)
      replace hS : Sl 59 _ [(0, .pointer (so b_p0)), (1, i6 p1), (5, i6 m0_0), (58, .bool t97)] := S133.re ⟨Z, Z, Z, Z, trivial⟩
      clear hK K hC
      try clear S67 S68 S69 S70 S71 S74 S75 S76 S77 S78 S79 S133
      generalize a133 = a at hS ⊢
      refine y2m hS Z (fun hb134 => ?_) (fun hb134 => ?_)
      ·replace H := y3f hb134 H
       refine y16 [(4, .bool false)] (fun R hR => y00 hS Z Z Z (y02 hS Z Z) fun a135 S135 => wpList_nil (hR _ (S135.re ⟨Z, trivial⟩))) ?_
       clear hS a; intro a hS
       refine wp_ret ?_
       have e := Option.some.inj H
       subst e
       replace H := Fl.go_out Hl54
       have e := Option.some.inj H
       subst e
       repeat (with_reducible first | refine y1i ?_ | refine y0o ?_)
       exact y3v hS Try.results75 rfl ⟨_, rfl, g56, rfl, hF⟩
      ·replace H := y3g hb134 H
       refine wp_skip ?_
       change Code.wp _ _ _ _ _
       refine y3e [(0, .pointer (so b_p0)), (1, i6 p1), (5, i6 (wi (m0_0 + 1)))] (fun R hR => y00 hS Z Z Z (y03 hS Z Z) fun a136 S136 => y00 S136 Z Z Z (y2l S136 Z Z rfl y4z) fun a137 S137 => y00 S137 Z Z Z (y02 S137 Z Z) fun a138 S138 => wpList_nil (hR _ (S138.re ⟨Z, Z, Z, trivial⟩))) ?_
       clear hS a; intro a hS
       refine ⟨k57, Nat.lt_succ_self _, ?_⟩
       exact ⟨wi (m0_0 + 1), g56, H, hS.re ⟨Z, Z, Z, trivial⟩, hb0, y2v, y0c, y1o, y0d, y14, hF⟩
     ·replace H := y3g hb65 H
      refine wp_exit ?_
      have e := Option.some.inj H
      exact ⟨g56, e.symm, hS.re trivial, hb0, y2v, y0c, y1o, y0d, y14, hF⟩
  ·clear H
   clear y2v y0c y1o y14 y0d hb0 hF
   clear hS
   rintro a w51 ⟨g51, hpre0, hS, hb0, y2v, y0c, y1o, y0d, y14, hF⟩
   subst hpre0
   have H := Fl.go_nxt Hl54
   clear Hl54
   refine y16 [(4, .bool true)] (fun R hR => y00 hS Z Z Z (y02 hS Z Z) fun a139 S139 => wpList_nil (hR _ (S139.re ⟨Z, trivial⟩))) ?_
   clear hS a; intro a hS
   refine wp_ret ?_
   have e := Option.some.inj H
   subst e
   repeat (with_reducible first | refine y1i ?_ | refine y0o ?_)
   exact y3v hS Try.results75 rfl ⟨_, rfl, g51, rfl, hF⟩


end Go.Proofs.Ytcfcffbjdjacfaa.Sim

namespace Go.Proofs.Ytcfcffbjdjacfaa.Sim
open Go
set_option linter.unusedVariables false
set_option linter.unusedSimpArgs false

/-! ### y25: function 54 -/
def y25.l0 (p0 : y06) : Nat → Int → Int → Option (Int)
 | 0, _, _ => none
 | k9 + 1, m0_0, m0_1 => if decide (m0_1 < (p0.D.length : Int)) = true then (((y21.f p0 m0_1).bind fun r25 => (if r25 = true then (if decide (m0_0 < 0) = true then some true else (idx p0.Since m0_1).bind fun x41 => (idx p0.D m0_1).bind fun x50 => (idx p0.Since m0_0).bind fun x67 => (idx p0.D m0_0).bind fun x76 => some (decide ((wu (x41 + x50.Delay)) < (wu (x67 + x76.Delay))))).bind fun t89 => some t89 else some false).bind fun t182 => if t182 = true then (some m0_1) else (some m0_0) : Option (Int)).bind fun v19 => y25.l0 p0 k9 v19 (wi (m0_1 + 1))) else (some m0_0)
def y25.f (p0 : y06) : Option (Int) := (y25.l0 p0 FUEL (-1) 0 : Option (Int)).bind fun v4 => some v4
set_option maxRecDepth 100000 in
set_option maxHeartbeats 4000000 in
theorem y25.calls {p0 : y06} {c0 : Nat} {y2a : Nat → Prop} {b_p0 : Nat} {y2o : Option Addr} {y1l : Nat} {y0x : Option Addr} {y0m : Nat} {y24 : Option Addr} {y1d : Nat} {y1m : Option Addr} {y0y : Nat} {y0z : Option Addr} {y0n : Nat} {w : World} {g : Nat → Nat} {out : Int} (N : Nat) (hp0 : y2q w g c0 y2a b_p0 y2o y1l y0x y0m y24 y1d y1m y0y y0z y0n p0) (hc0 : c0 + 9 ≤ N) (y33 : ∀ c, y2a c → c < N ∧ (c < c0 ∨ c0 + 9 ≤ c)) (H : y25.f p0 = some out) :
  Calls Try.prog 54 #[.pointer (so b_p0)] w (fun e w' => ∃ v, e = .returned v ∧ ∃ (g' : Nat → Nat), v = i6 out ∧ Fr (fun q => N ≤ q) w g w' g') := by
 unfold y25.f at H
 refine y1k Try.func54 rfl Try.ntmps54 Z (fun a hS => ?_)
 replace hS : Sl 58 a [(0, .pointer (so b_p0))] := hS
 have hF : Fr (fun q => N ≤ q) w g w g := Fr.refl _ _ _
 obtain ⟨hb0, y2v, y0c, y1o, y14, y0d⟩ := hp0
 refine y16 [(0, .pointer (so b_p0))] (fun R hR => y00 hS Z Z Z (y02 hS Z Z) fun a1 S1 => wpList_nil (hR _ (S1.re ⟨Z, trivial⟩))) ?_
 clear hS a; intro a hS
 refine y16 [(0, .pointer (so b_p0)), (3, i6 (-1))] (fun R hR => y00 hS Z Z Z (y02 hS Z Z) fun a2 S2 => wpList_nil (hR _ (S2.re ⟨Z, Z, trivial⟩))) ?_
 clear hS a; intro a hS
 obtain ⟨v4, H, Hl6⟩ := y0b H
 refine y4u (fun a w3 => ∃ (g3 : Nat → Nat), Sl 58 a [(3, i6 v4)] ∧ Bx w3 g3 (c0) b_p0 63 [.slice y2o p0.D.length y1l, .slice y0x p0.Links.length y0m, .slice y24 p0.On.length y1d, .slice y1m p0.Use.length y0y, .slice y0z p0.Since.length y0n, .int .u64 p0.Clock] ∧ RdS y0f w3 g3 y2a y2o y1l p0.D ∧ OwS y0r 67 w3 g3 (c0 + 1) y0x y0m p0.Links ∧ OwS y4p 4 w3 g3 (c0 + 3) y24 y1d p0.On ∧ OwS (kint .u64) 28 w3 g3 (c0 + 7) y0z y0n p0.Since ∧ OwS (kint .i64) 3 w3 g3 (c0 + 5) y1m y0y p0.Use ∧ Fr (fun q => N ≤ q) w g w3 g3) ?_ ?_
 ·refine y16 [(0, .pointer (so b_p0)), (3, i6 (-1)), (4, i6 0)] (fun R hR => y00 hS Z Z Z (y02 hS Z Z) fun a7 S7 => wpList_nil (hR _ (S7.re ⟨Z, Z, Z, trivial⟩))) ?_
  clear hS a; intro a hS
  refine wp_block ?_
  refine wp_loop_ghost (fun kq => fun a w8 => ∃ (m0_0 : Int), ∃ (m0_1 : Int), ∃ (g8 : Nat → Nat), y25.l0 p0 kq m0_0 m0_1 = some v4 ∧ Sl 58 a [(0, .pointer (so b_p0)), (3, i6 m0_0), (4, i6 m0_1)] ∧ Bx w8 g8 (c0) b_p0 63 [.slice y2o p0.D.length y1l, .slice y0x p0.Links.length y0m, .slice y24 p0.On.length y1d, .slice y1m p0.Use.length y0y, .slice y0z p0.Since.length y0n, .int .u64 p0.Clock] ∧ RdS y0f w8 g8 y2a y2o y1l p0.D ∧ OwS y0r 67 w8 g8 (c0 + 1) y0x y0m p0.Links ∧ OwS y4p 4 w8 g8 (c0 + 3) y24 y1d p0.On ∧ OwS (kint .u64) 28 w8 g8 (c0 + 7) y0z y0n p0.Since ∧ OwS (kint .i64) 3 w8 g8 (c0 + 5) y1m y0y p0.Use ∧ Fr (fun q => N ≤ q) w g w8 g8) FUEL ?_ ?_
  ·exact ⟨(-1), 0, g, H, hS.re ⟨Z, Z, Z, trivial⟩, hb0, y2v, y0c, y1o, y0d, y14, hF⟩
  ·clear H
   clear y2v y0c y1o y14 y0d hb0 hF
   clear hS
   rintro k9 a w8 ⟨m0_0, m0_1, g8, hpre0, hS, hb0, y2v, y0c, y1o, y0d, y14, hF⟩
   have H := hpre0
   clear hpre0
   cases k9 with
   | zero => exact absurd H (by simp [y25.l0])
   | succ k9 =>
    rw [y25.l0] at H
    refine wp_seq ?_
    refine y16 [(0, .pointer (so b_p0)), (3, i6 m0_0), (4, i6 m0_1), (11, .bool (decide (m0_1 < (p0.D.length : Int))))] (fun R hR => y00 hS Z Z Z (y03 hS Z Z) fun a10 S10 => y00 S10 Z Z Z (y03 S10 Z Z) fun a11 S11 => y00 S11 Z Z Z (y4s S11 Z Z) fun a12 S12 => y00 S12 Z Z Z (y1e (off := 0) S12 Z Z (by kernel_rfl)) fun a13 S13 => y00 S13 Z Z Z (y0u (n := 1) S13 Z Z (by kernel_rfl) (Bx.cell hb0 Z)) fun a14 S14 => y00 S14 Z Z Z (y4x (e := 30) (sz := 3) (by_ := 40) S14 Z Z (by kernel_rfl)) fun a15 S15 => y00 S15 Z Z Z (y2l S15 Z Z rfl y4t) fun a16 S16 => wpList_nil (hR _ (S16.re ⟨Z, Z, Z, Z, trivial⟩))) ?_
    clear hS a; intro a hS
    refine y2m hS Z (fun hb17 => ?_) (fun hb17 => ?_)
    ·replace H := y3f hb17 H
     refine wp_skip ?_
     change Code.wp _ _ _ _ _
     obtain ⟨v19, H, Hl21⟩ := y0b H
     refine y4u (fun a w18 => ∃ (g18 : Nat → Nat), Sl 58 a [(0, .pointer (so b_p0)), (3, i6 v19), (4, i6 m0_1)] ∧ Bx w18 g18 (c0) b_p0 63 [.slice y2o p0.D.length y1l, .slice y0x p0.Links.length y0m, .slice y24 p0.On.length y1d, .slice y1m p0.Use.length y0y, .slice y0z p0.Since.length y0n, .int .u64 p0.Clock] ∧ RdS y0f w18 g18 y2a y2o y1l p0.D ∧ OwS y0r 67 w18 g18 (c0 + 1) y0x y0m p0.Links ∧ OwS y4p 4 w18 g18 (c0 + 3) y24 y1d p0.On ∧ OwS (kint .u64) 28 w18 g18 (c0 + 7) y0z y0n p0.Since ∧ OwS (kint .i64) 3 w18 g18 (c0 + 5) y1m y0y p0.Use ∧ Fr (fun q => N ≤ q) w g w18 g18) ?_ ?_
     ·refine wp_block ?_
      obtain ⟨r25, hr26, H⟩ := y0b H
      obtain ⟨t182, ht183, H⟩ := y0b H
      refine c_draw (fun K hK => y4m (fun q => N + 0 ≤ q) g8 [] 42 (ba 0 42) (by kernel_rfl) Z Z (fun w22 hw22 => ?_))
      have F22 : Fr (fun _ => False) w8 g8 w22 g8 := by rw [hw22]; exact Fr.drew _ _ _
      replace hb0 := hb0.fr F22 (fun h => h)
      replace y2v := RdS.fr y2v F22 (by decide) (fun _ _ h => h)
      replace y0c := OwS.fr y0c F22 (fun _ _ h => h)
      replace y1o := OwS.fr y1o F22 (fun _ _ h => h)
      replace y0d := OwS.fr y0d F22 (fun _ _ h => h)
      replace y14 := OwS.fr y14 F22 (fun _ _ h => h)
      replace hF := hF.trans F22 (fun _ h => h.elim)
      have hC : Fr (fun q => N + 0 ≤ q) w22 g8 w22 g8 := Fr.refl _ _ _
      refine y1b hS 0 (ba 1 41) Z Z Z Z (by kernel_rfl) (fun _ _ _ h => h) (fun _ => (y03 hS Z Z)) fun a23 S23 => y1b S23 1 (ba 2 40) Z Z Z Z (by kernel_rfl) (fun _ _ _ h => h) (fun _ => (y03 S23 Z Z)) fun a24 S24 => ?_
      refine d_one 2 (ba 3 39) Z (by kernel_rfl) (arm_call S24 Z Z Z (y2z S24 Z Z (by kernel_rfl)) (y21.calls (c0 := c0) (b_p0 := b_p0) (y2o := y2o) (y1l := y1l) (y2a := y2a) (y0x := y0x) (y0m := y0m) (y24 := y24) (y1d := y1d) (y1m := y1m) (y0y := y0y) (y0z := y0z) (y0n := y0n) (p0 := p0) (p1 := m0_1) (g := g8) (N + 0)  ⟨hb0, y2v, y0c, y1o, y14, y0d⟩ (by omega) (fun q (hq : y2a q) => by have := y33 q hq; omega) hr26) (fun _ _ ⟨g', _, Fz⟩ _ => ⟨g', hC.trans Fz (fun c' (hm : N + 0 ≤ c') => by (try dsimp only); omega)⟩) ?_)
      rintro _ a27 w28 ⟨g28, rfl, F28⟩ S27
      have hC28 := hC.trans F28 (fun c' (hm : N + 0 ≤ c') => by (try dsimp only); omega)
      clear hC
      replace hb0 := hb0.fr F28 (fun (hm : N + 0 ≤ c0) => by omega)
      replace y2v := RdS.fr y2v F28 (by decide) (fun q (hq : y2a q) (hm : N + 0 ≤ q) => by have := y33 q hq; omega)
      replace y0c := OwS.fr y0c F28 (fun c' hc (hm : N + 0 ≤ c') => by omega)
      replace y1o := OwS.fr y1o F28 (fun c' hc (hm : N + 0 ≤ c') => by omega)
      replace y0d := OwS.fr y0d F28 (fun c' hc (hm : N + 0 ≤ c') => by omega)
      replace y14 := OwS.fr y14 F28 (fun c' hc (hm : N + 0 ≤ c') => by omega)
      replace hF := hF.trans F28 (fun c' (hm : N + 0 ≤ c') => by (try dsimp only); omega)
      refine y1b S27 3 (ba 4 38) Z Z Z Z (by kernel_rfl) (fun _ _ _ h => h) (fun _ => (y03 S27 Z Z)) fun a29 S29 => ?_
      refine d_rebase (M2 := fun q => N + 0 ≤ q) (w2 := w28) (g2 := g28) (fun _ ⟨g', Fz⟩ => ⟨g', hC28.trans Fz (fun _ h => h)⟩) ⟨_, Fr.refl _ _ _⟩ ?_
      clear hC28
      have hC30 : Fr (fun q => N + 0 ≤ q) w28 g28 w28 g28 := Fr.refl _ _ _
      refine d_join (N := 58) 0 (ba 42 0) [(0, .pointer (so b_p0)), (3, i6 m0_0), (4, i6 m0_1), (55, .bool t182)] ?_ (fun hk => ?_)
      rotate_left
      ·rcases Bool.eq_false_or_eq_true (r25) with hb31 | hb31
       ·have H := y3f hb31 ht183
        obtain ⟨t241, ht242, H⟩ := y0b H
        have e334 := Option.some.inj H
        refine y30 S29 4 (ba 5 37) Z (y0a S29 Z Z rfl hb31) Z Z (by kernel_rfl) (fun _ _ _ h => h) (fun _ => (y03 S29 Z Z)) fun a184 S184 => y30 S184 5 (ba 6 36) Z (y0a S184 Z Z rfl hb31) Z Z (by kernel_rfl) (fun _ _ _ h => h) (fun _ => (y2l S184 Z Z rfl y4t)) fun a185 S185 => y30 S185 6 (ba 7 35) Z (y0a S185 Z Z rfl hb31) Z Z (by kernel_rfl) (fun _ _ _ h => h) (fun _ => (y03 S185 Z Z)) fun a186 S186 => ?_
        refine d_join (N := 58) 1 (ba 41 1) [(0, .pointer (so b_p0)), (3, i6 m0_0), (4, i6 m0_1), (17, .bool r25), (18, i6 m0_0), (19, .bool (decide (m0_0 < 0))), (20, .bool (decide (m0_0 < 0))), (54, .bool t241)] ?_ (fun hk => ?_)
        rotate_left
        ·rcases Bool.eq_false_or_eq_true (decide (m0_0 < 0)) with hb187 | hb187
         ·have H := y3f hb187 ht242
          have e243 := Option.some.inj H
          refine y48 S186 7 (ba 8 34) Z (y05 S186 Z Z rfl hb187) Z Z (by kernel_rfl) (fun _ _ _ h => h) fun a244 S244 => y48 S244 8 (ba 9 33) Z (y05 S244 Z Z rfl hb187) Z Z (by kernel_rfl) (fun _ _ _ h => h) fun a245 S245 => y48 S245 9 (ba 10 32) Z (y05 S245 Z Z rfl hb187) Z Z (by kernel_rfl) (fun _ _ _ h => h) fun a246 S246 => y48 S246 10 (ba 11 31) Z (y05 S246 Z Z rfl hb187) Z Z (by kernel_rfl) (fun _ _ _ h => h) fun a247 S247 => y48 S247 11 (ba 12 30) Z (y05 S247 Z Z rfl hb187) Z Z (by kernel_rfl) (fun _ _ _ h => h) fun a248 S248 => y48 S248 12 (ba 13 29) Z (y05 S248 Z Z rfl hb187) Z Z (by kernel_rfl) (fun _ _ _ h => h) fun a249 S249 => y48 S249 13 (ba 14 28) Z (y05 S249 Z Z rfl hb187) Z Z (by kernel_rfl) (fun _ _ _ h => h) fun a250 S250 => y48 S250 14 (ba 15 27) Z (y05 S250 Z Z rfl hb187) Z Z (by kernel_rfl) (fun _ _ _ h => h) fun a251 S251 => y48 S251 15 (ba 16 26) Z (y05 S251 Z Z rfl hb187) Z Z (by kernel_rfl) (fun _ _ _ h => h) fun a252 S252 => y48 S252 16 (ba 17 25) Z (y05 S252 Z Z rfl hb187) Z Z (by kernel_rfl) (fun _ _ _ h => h) fun a253 S253 => y48 S253 17 (ba 18 24) Z (y05 S253 Z Z rfl hb187) Z Z (by kernel_rfl) (fun _ _ _ h => h) fun a254 S254 => y48 S254 18 (ba 19 23) Z (y05 S254 Z Z rfl hb187) Z Z (by kernel_rfl) (fun _ _ _ h => h) fun a255 S255 => y48 S255 19 (ba 20 22) Z (y05 S255 Z Z rfl hb187) Z Z (by kernel_rfl) (fun _ _ _ h => h) fun a256 S256 => y48 S256 20 (ba 21 21) Z (y05 S256 Z Z rfl hb187) Z Z (by kernel_rfl) (fun _ _ _ h => h) fun a257 S257 => y48 S257 21 (ba 22 20) Z (y05 S257 Z Z rfl hb187) Z Z (by kernel_rfl) (fun _ _ _ h => h) fun a258 S258 => y48 S258 22 (ba 23 19) Z (y05 S258 Z Z rfl hb187) Z Z (by kernel_rfl) (fun _ _ _ h => h) fun a259 S259 => y48 S259 23 (ba 24 18) Z (y05 S259 Z Z rfl hb187) Z Z (by kernel_rfl) (fun _ _ _ h => h) fun a260 S260 => y48 S260 24 (ba 25 17) Z (y05 S260 Z Z rfl hb187) Z Z (by kernel_rfl) (fun _ _ _ h => h) fun a261 S261 => y48 S261 25 (ba 26 16) Z (y05 S261 Z Z rfl hb187) Z Z (by kernel_rfl) (fun _ _ _ h => h) fun a262 S262 => y48 S262 26 (ba 27 15) Z (y05 S262 Z Z rfl hb187) Z Z (by kernel_rfl) (fun _ _ _ h => h) fun a263 S263 => y48 S263 27 (ba 28 14) Z (y05 S263 Z Z rfl hb187) Z Z (by kernel_rfl) (fun _ _ _ h => h) fun a264 S264 => y48 S264 28 (ba 29 13) Z (y05 S264 Z Z rfl hb187) Z Z (by kernel_rfl) (fun _ _ _ h => h) fun a265 S265 => y48 S265 29 (ba 30 12) Z (y05 S265 Z Z rfl hb187) Z Z (by kernel_rfl) (fun _ _ _ h => h) fun a266 S266 => y48 S266 30 (ba 31 11) Z (y05 S266 Z Z rfl hb187) Z Z (by kernel_rfl) (fun _ _ _ h => h) fun a267 S267 => y48 S267 31 (ba 32 10) Z (y05 S267 Z Z rfl hb187) Z Z (by kernel_rfl) (fun _ _ _ h => h) fun a268 S268 => y48 S268 32 (ba 33 9) Z (y05 S268 Z Z rfl hb187) Z Z (by kernel_rfl) (fun _ _ _ h => h) fun a269 S269 => y48 S269 33 (ba 34 8) Z (y05 S269 Z Z rfl hb187) Z Z (by kernel_rfl) (fun _ _ _ h => h) fun a270 S270 => y48 S270 34 (ba 35 7) Z (y05 S270 Z Z rfl hb187) Z Z (by kernel_rfl) (fun _ _ _ h => h) fun a271 S271 => y48 S271 35 (ba 36 6) Z (y05 S271 Z Z rfl hb187) Z Z (by kernel_rfl) (fun _ _ _ h => h) fun a272 S272 => y48 S272 36 (ba 37 5) Z (y05 S272 Z Z rfl hb187) Z Z (by kernel_rfl) (fun _ _ _ h => h) fun a273 S273 => y48 S273 37 (ba 38 4) Z (y05 S273 Z Z rfl hb187) Z Z (by kernel_rfl) (fun _ _ _ h => h) fun a274 S274 => y48 S274 38 (ba 39 3) Z (y05 S274 Z Z rfl hb187) Z Z (by kernel_rfl) (fun _ _ _ h => h) fun a275 S275 => y48 S275 39 (ba 40 2) Z (y05 S275 Z Z rfl hb187) Z Z (by kernel_rfl) (fun _ _ _ h => h) fun a276 S276 => y30 S276 40 (ba 41 1) Z (y0a S276 Z Z rfl hb31) Z Z (by kernel_rfl) (fun _ _ _ h => h) (fun _ => (y2s S276 Z Z rfl hb187)) fun a277 S277 => hk _ (S277.re ⟨rfl, rfl, rfl, rfl, rfl, rfl, rfl, (by rw [← e243]; rfl), trivial⟩)
         ·have H := y3g hb187 ht242
          obtain ⟨x283, hx284, H⟩ := y0b H
          obtain ⟨x292, hx293, H⟩ := y0b H
          obtain ⟨x309, hx310, H⟩ := y0b H
          obtain ⟨x318, hx319, H⟩ := y0b H
          have e331 := Option.some.inj H
          refine y30 S186 7 (ba 8 34) Z (y0a S186 Z Z rfl hb187) Z Z (by kernel_rfl) (fun _ _ _ h => h) (fun _ => (y03 S186 Z Z)) fun a278 S278 => y30 S278 8 (ba 9 33) Z (y0a S278 Z Z rfl hb187) Z Z (by kernel_rfl) (fun _ _ _ h => h) (fun _ => (y4s S278 Z Z)) fun a279 S279 => y30 S279 9 (ba 10 32) Z (y0a S279 Z Z rfl hb187) Z Z (by kernel_rfl) (fun _ _ _ h => h) (fun _ => (y1e (off := 4) S279 Z Z (by kernel_rfl))) fun a280 S280 => d_takeW S280 10 (ba 11 31) Z (y0a S280 Z Z rfl hb187) Z Z (by kernel_rfl) (fun _ _ _ h => h) ⟨_, hC30⟩ (fun w' g' Fz => (y0u (n := 1) S280 Z Z (by kernel_rfl) (Bx.cell (hb0.fr Fz (fun (hm : N + 0 ≤ c0) => by omega)) Z))) fun a281 S281 => y30 S281 11 (ba 12 30) Z (y0a S281 Z Z rfl hb187) Z Z (by kernel_rfl) (fun _ _ _ h => h) (fun _ => (y03 S281 Z Z)) fun a282 S282 => y30 S282 12 (ba 13 29) Z (y0a S282 Z Z rfl hb187) Z Z (by kernel_rfl) (fun _ _ _ h => h) (fun _ => (y1j (e := 28) (sz := 1) (by_ := 8) S282 Z Z Z (by kernel_rfl) (RdS.some_ (OwS.rd y0d) hx284) (y26 hx284) (y27 hx284))) fun a285 S285 => d_takeW S285 13 (ba 14 28) Z (y0a S285 Z Z rfl hb187) Z Z (by kernel_rfl) (fun _ _ _ h => h) ⟨_, hC30⟩ (fun w' g' Fz => (y0u (n := 1) S285 Z Z (by kernel_rfl) (RdS.cell (i := m0_1) (sz := 1) (j := 0) (OwS.rd (OwS.fr y0d Fz (fun c' hc (hm : N + 0 ≤ c') => by omega))) hx284 Z))) fun a286 S286 => y30 S286 14 (ba 15 27) Z (y0a S286 Z Z rfl hb187) Z Z (by kernel_rfl) (fun _ _ _ h => h) (fun _ => (y03 S286 Z Z)) fun a287 S287 => y30 S287 15 (ba 16 26) Z (y0a S287 Z Z rfl hb187) Z Z (by kernel_rfl) (fun _ _ _ h => h) (fun _ => (y4s S287 Z Z)) fun a288 S288 => y30 S288 16 (ba 17 25) Z (y0a S288 Z Z rfl hb187) Z Z (by kernel_rfl) (fun _ _ _ h => h) (fun _ => (y1e (off := 0) S288 Z Z (by kernel_rfl))) fun a289 S289 => d_takeW S289 17 (ba 18 24) Z (y0a S289 Z Z rfl hb187) Z Z (by kernel_rfl) (fun _ _ _ h => h) ⟨_, hC30⟩ (fun w' g' Fz => (y0u (n := 1) S289 Z Z (by kernel_rfl) (Bx.cell (hb0.fr Fz (fun (hm : N + 0 ≤ c0) => by omega)) Z))) fun a290 S290 => y30 S290 18 (ba 19 23) Z (y0a S290 Z Z rfl hb187) Z Z (by kernel_rfl) (fun _ _ _ h => h) (fun _ => (y03 S290 Z Z)) fun a291 S291 => ?_
          obtain ⟨_, ⟨A295, cap296, rfl, h297⟩, hel294⟩ := El.of y2v hx293 (by decide)
          replace hel294 : El w28 g28 y2a y2o (m0_1.toNat * 3) [i6 x292.Parent, .slice A295 x292.Suppliers.length cap296, .int .u64 x292.Delay] := hel294
          refine y30 S291 19 (ba 20 22) Z (y0a S291 Z Z rfl hb187) Z Z (by kernel_rfl) (fun _ _ _ h => h) (fun _ => (y1j (e := 30) (sz := 3) (by_ := 40) S291 Z Z Z (by kernel_rfl) (RdS.some_ y2v hx293) (y26 hx293) (y27 hx293))) fun a300 S300 => y30 S300 20 (ba 21 21) Z (y0a S300 Z Z rfl hb187) Z Z (by kernel_rfl) (fun _ _ _ h => h) (fun _ => (y2w (off := 2) S300 Z Z (by kernel_rfl))) fun a301 S301 => d_takeW S301 21 (ba 22 20) Z (y0a S301 Z Z rfl hb187) Z Z (by kernel_rfl) (fun _ _ _ h => h) ⟨_, hC30⟩ (fun w' g' Fz => (y0u (n := 1) S301 Z Z (by kernel_rfl) (El.cell (j := 2) (hel294.fr Fz (fun q (hq : y2a q) (hm : N + 0 ≤ q) => by have := y33 q hq; omega)) Z))) fun a302 S302 => y30 S302 22 (ba 23 19) Z (y0a S302 Z Z rfl hb187) Z Z (by kernel_rfl) (fun _ _ _ h => h) (fun _ => (y2l S302 Z Z rfl y4z)) fun a303 S303 => y30 S303 23 (ba 24 18) Z (y0a S303 Z Z rfl hb187) Z Z (by kernel_rfl) (fun _ _ _ h => h) (fun _ => (y03 S303 Z Z)) fun a304 S304 => y30 S304 24 (ba 25 17) Z (y0a S304 Z Z rfl hb187) Z Z (by kernel_rfl) (fun _ _ _ h => h) (fun _ => (y4s S304 Z Z)) fun a305 S305 => y30 S305 25 (ba 26 16) Z (y0a S305 Z Z rfl hb187) Z Z (by kernel_rfl) (fun _ _ _ h => h) (fun _ => (y1e (off := 4) S305 Z Z (by kernel_rfl))) fun a306 S306 => d_takeW S306 26 (ba 27 15) Z (y0a S306 Z Z rfl hb187) Z Z (by kernel_rfl) (fun _ _ _ h => h) ⟨_, hC30⟩ (fun w' g' Fz => (y0u (n := 1) S306 Z Z (by kernel_rfl) (Bx.cell (hb0.fr Fz (fun (hm : N + 0 ≤ c0) => by omega)) Z))) fun a307 S307 => y30 S307 27 (ba 28 14) Z (y0a S307 Z Z rfl hb187) Z Z (by kernel_rfl) (fun _ _ _ h => h) (fun _ => (y03 S307 Z Z)) fun a308 S308 => y30 S308 28 (ba 29 13) Z (y0a S308 Z Z rfl hb187) Z Z (by kernel_rfl) (fun _ _ _ h => h) (fun _ => (y1j (e := 28) (sz := 1) (by_ := 8) S308 Z Z Z (by kernel_rfl) (RdS.some_ (OwS.rd y0d) hx310) (y26 hx310) (y27 hx310))) fun a311 S311 => d_takeW S311 29 (ba 30 12) Z (y0a S311 Z Z rfl hb187) Z Z (by kernel_rfl) (fun _ _ _ h => h) ⟨_, hC30⟩ (fun w' g' Fz => (y0u (n := 1) S311 Z Z (by kernel_rfl) (RdS.cell (i := m0_0) (sz := 1) (j := 0) (OwS.rd (OwS.fr y0d Fz (fun c' hc (hm : N + 0 ≤ c') => by omega))) hx310 Z))) fun a312 S312 => y30 S312 30 (ba 31 11) Z (y0a S312 Z Z rfl hb187) Z Z (by kernel_rfl) (fun _ _ _ h => h) (fun _ => (y03 S312 Z Z)) fun a313 S313 => y30 S313 31 (ba 32 10) Z (y0a S313 Z Z rfl hb187) Z Z (by kernel_rfl) (fun _ _ _ h => h) (fun _ => (y4s S313 Z Z)) fun a314 S314 => y30 S314 32 (ba 33 9) Z (y0a S314 Z Z rfl hb187) Z Z (by kernel_rfl) (fun _ _ _ h => h) (fun _ => (y1e (off := 0) S314 Z Z (by kernel_rfl))) fun a315 S315 => d_takeW S315 33 (ba 34 8) Z (y0a S315 Z Z rfl hb187) Z Z (by kernel_rfl) (fun _ _ _ h => h) ⟨_, hC30⟩ (fun w' g' Fz => (y0u (n := 1) S315 Z Z (by kernel_rfl) (Bx.cell (hb0.fr Fz (fun (hm : N + 0 ≤ c0) => by omega)) Z))) fun a316 S316 => y30 S316 34 (ba 35 7) Z (y0a S316 Z Z rfl hb187) Z Z (by kernel_rfl) (fun _ _ _ h => h) (fun _ => (y03 S316 Z Z)) fun a317 S317 => ?_
          obtain ⟨_, ⟨A321, cap322, rfl, h323⟩, hel320⟩ := El.of y2v hx319 (by decide)
          replace hel320 : El w28 g28 y2a y2o (m0_0.toNat * 3) [i6 x318.Parent, .slice A321 x318.Suppliers.length cap322, .int .u64 x318.Delay] := hel320
          refine y30 S317 35 (ba 36 6) Z (y0a S317 Z Z rfl hb187) Z Z (by kernel_rfl) (fun _ _ _ h => h) (fun _ => (y1j (e := 30) (sz := 3) (by_ := 40) S317 Z Z Z (by kernel_rfl) (RdS.some_ y2v hx319) (y26 hx319) (y27 hx319))) fun a326 S326 => y30 S326 36 (ba 37 5) Z (y0a S326 Z Z rfl hb187) Z Z (by kernel_rfl) (fun _ _ _ h => h) (fun _ => (y2w (off := 2) S326 Z Z (by kernel_rfl))) fun a327 S327 => d_takeW S327 37 (ba 38 4) Z (y0a S327 Z Z rfl hb187) Z Z (by kernel_rfl) (fun _ _ _ h => h) ⟨_, hC30⟩ (fun w' g' Fz => (y0u (n := 1) S327 Z Z (by kernel_rfl) (El.cell (j := 2) (hel320.fr Fz (fun q (hq : y2a q) (hm : N + 0 ≤ q) => by have := y33 q hq; omega)) Z))) fun a328 S328 => y30 S328 38 (ba 39 3) Z (y0a S328 Z Z rfl hb187) Z Z (by kernel_rfl) (fun _ _ _ h => h) (fun _ => (y2l S328 Z Z rfl y4z)) fun a329 S329 => y30 S329 39 (ba 40 2) Z (y0a S329 Z Z rfl hb187) Z Z (by kernel_rfl) (fun _ _ _ h => h) (fun _ => (y2l S329 Z Z rfl y4t)) fun a330 S330 => y30 S330 40 (ba 41 1) Z (y0a S330 Z Z rfl hb31) Z Z (by kernel_rfl) (fun _ _ _ h => h) (fun _ => (y2t S330 Z Z rfl hb187)) fun a332 S332 => hk _ (S332.re ⟨rfl, rfl, rfl, rfl, rfl, rfl, rfl, (by rw [← e331]; rfl), trivial⟩)
        intro a333 S333
        refine y1b S333 41 (ba 42 0) Z Z Z Z (by kernel_rfl) (fun _ _ _ h => h) (fun _ => (y2s S333 Z Z rfl hb31)) fun a335 S335 => hk _ (S335.re ⟨rfl, rfl, rfl, (by rw [← e334]; rfl), trivial⟩)
       ·have H := y3g hb31 ht183
        have e336 := Option.some.inj H
        refine y48 S29 4 (ba 5 37) Z (y05 S29 Z Z rfl hb31) Z Z (by kernel_rfl) (fun _ _ _ h => h) fun a337 S337 => y48 S337 5 (ba 6 36) Z (y05 S337 Z Z rfl hb31) Z Z (by kernel_rfl) (fun _ _ _ h => h) fun a338 S338 => y48 S338 6 (ba 7 35) Z (y05 S338 Z Z rfl hb31) Z Z (by kernel_rfl) (fun _ _ _ h => h) fun a339 S339 => y48 S339 7 (ba 8 34) Z (y40 S339 Z Z Z) Z Z (by kernel_rfl) (fun _ _ _ h => h) fun a340 S340 => y48 S340 8 (ba 9 33) Z (y40 S340 Z Z Z) Z Z (by kernel_rfl) (fun _ _ _ h => h) fun a341 S341 => y48 S341 9 (ba 10 32) Z (y40 S341 Z Z Z) Z Z (by kernel_rfl) (fun _ _ _ h => h) fun a342 S342 => y48 S342 10 (ba 11 31) Z (y40 S342 Z Z Z) Z Z (by kernel_rfl) (fun _ _ _ h => h) fun a343 S343 => y48 S343 11 (ba 12 30) Z (y40 S343 Z Z Z) Z Z (by kernel_rfl) (fun _ _ _ h => h) fun a344 S344 => y48 S344 12 (ba 13 29) Z (y40 S344 Z Z Z) Z Z (by kernel_rfl) (fun _ _ _ h => h) fun a345 S345 => y48 S345 13 (ba 14 28) Z (y40 S345 Z Z Z) Z Z (by kernel_rfl) (fun _ _ _ h => h) fun a346 S346 => y48 S346 14 (ba 15 27) Z (y40 S346 Z Z Z) Z Z (by kernel_rfl) (fun _ _ _ h => h) fun a347 S347 => y48 S347 15 (ba 16 26) Z (y40 S347 Z Z Z) Z Z (by kernel_rfl) (fun _ _ _ h => h) fun a348 S348 => y48 S348 16 (ba 17 25) Z (y40 S348 Z Z Z) Z Z (by kernel_rfl) (fun _ _ _ h => h) fun a349 S349 => y48 S349 17 (ba 18 24) Z (y40 S349 Z Z Z) Z Z (by kernel_rfl) (fun _ _ _ h => h) fun a350 S350 => y48 S350 18 (ba 19 23) Z (y40 S350 Z Z Z) Z Z (by kernel_rfl) (fun _ _ _ h => h) fun a351 S351 => y48 S351 19 (ba 20 22) Z (y40 S351 Z Z Z) Z Z (by kernel_rfl) (fun _ _ _ h => h) fun a352 S352 => y48 S352 20 (ba 21 21) Z (y40 S352 Z Z Z) Z Z (by kernel_rfl) (fun _ _ _ h => h) fun a353 S353 => y48 S353 21 (ba 22 20) Z (y40 S353 Z Z Z) Z Z (by kernel_rfl) (fun _ _ _ h => h) fun a354 S354 => y48 S354 22 (ba 23 19) Z (y40 S354 Z Z Z) Z Z (by kernel_rfl) (fun _ _ _ h => h) fun a355 S355 => y48 S355 23 (ba 24 18) Z (y40 S355 Z Z Z) Z Z (by kernel_rfl) (fun _ _ _ h => h) fun a356 S356 => y48 S356 24 (ba 25 17) Z (y40 S356 Z Z Z) Z Z (by kernel_rfl) (fun _ _ _ h => h) fun a357 S357 => y48 S357 25 (ba 26 16) Z (y40 S357 Z Z Z) Z Z (by kernel_rfl) (fun _ _ _ h => h) fun a358 S358 => y48 S358 26 (ba 27 15) Z (y40 S358 Z Z Z) Z Z (by kernel_rfl) (fun _ _ _ h => h) fun a359 S359 => y48 S359 27 (ba 28 14) Z (y40 S359 Z Z Z) Z Z (by kernel_rfl) (fun _ _ _ h => h) fun a360 S360 => y48 S360 28 (ba 29 13) Z (y40 S360 Z Z Z) Z Z (by kernel_rfl) (fun _ _ _ h => h) fun a361 S361 => y48 S361 29 (ba 30 12) Z (y40 S361 Z Z Z) Z Z (by kernel_rfl) (fun _ _ _ h => h) fun a362 S362 => y48 S362 30 (ba 31 11) Z (y40 S362 Z Z Z) Z Z (by kernel_rfl) (fun _ _ _ h => h) fun a363 S363 => y48 S363 31 (ba 32 10) Z (y40 S363 Z Z Z) Z Z (by kernel_rfl) (fun _ _ _ h => h) fun a364 S364 => y48 S364 32 (ba 33 9) Z (y40 S364 Z Z Z) Z Z (by kernel_rfl) (fun _ _ _ h => h) fun a365 S365 => y48 S365 33 (ba 34 8) Z (y40 S365 Z Z Z) Z Z (by kernel_rfl) (fun _ _ _ h => h) fun a366 S366 => y48 S366 34 (ba 35 7) Z (y40 S366 Z Z Z) Z Z (by kernel_rfl) (fun _ _ _ h => h) fun a367 S367 => y48 S367 35 (ba 36 6) Z (y40 S367 Z Z Z) Z Z (by kernel_rfl) (fun _ _ _ h => h) fun a368 S368 => y48 S368 36 (ba 37 5) Z (y40 S368 Z Z Z) Z Z (by kernel_rfl) (fun _ _ _ h => h) fun a369 S369 => y48 S369 37 (ba 38 4) Z (y40 S369 Z Z Z) Z Z (by kernel_rfl) (fun _ _ _ h => h) fun a370 S370 => y48 S370 38 (ba 39 3) Z (y40 S370 Z Z Z) Z Z (by kernel_rfl) (fun _ _ _ h => h) fun a371 S371 => y48 S371 39 (ba 40 2) Z (y40 S371 Z Z Z) Z Z (by kernel_rfl) (fun _ _ _ h => h) fun a372 S372 => y48 S372 40 (ba 41 1) Z (y05 S372 Z Z rfl hb31) Z Z (by kernel_rfl) (fun _ _ _ h => h) fun a373 S373 => y1b S373 41 (ba 42 0) Z Z Z Z (by kernel_rfl) (fun _ _ _ h => h) (fun _ => (y2t S373 Z Z rfl hb31)) fun a374 S374 => hk _ (S374.re ⟨rfl, rfl, rfl, (by rw [← e336]; rfl), trivial⟩)
      intro a375 S375
      refine y4v (by kernel_rfl) (hK _ _ ?_)
      replace hS : Sl 58 _ [(0, .pointer (so b_p0)), (3, i6 m0_0), (4, i6 m0_1), (55, .bool t182)] := S375.re ⟨Z, Z, Z, Z, trivial⟩
      clear hK K hC30
      try clear S23 S24 S27 S29 S375
      generalize a375 = a at hS ⊢
      refine y2m hS Z (fun hb376 => ?_) (fun hb376 => ?_)
      ·replace H := y3f hb376 H
       refine y3e [(0, .pointer (so b_p0)), (3, i6 m0_1), (4, i6 m0_1)] (fun R hR => y00 hS Z Z Z (y03 hS Z Z) fun a377 S377 => y00 S377 Z Z Z (y02 S377 Z Z) fun a378 S378 => wpList_nil (hR _ (S378.re ⟨Z, Z, Z, trivial⟩))) ?_
       clear hS a; intro a hS
       have e := Option.some.inj H
       subst e
       exact ⟨g28, hS.re ⟨Z, Z, Z, trivial⟩, hb0, y2v, y0c, y1o, y0d, y14, hF⟩
      ·replace H := y3g hb376 H
       refine wp_skip ?_
       have e := Option.some.inj H
       subst e
       exact ⟨g28, hS.re ⟨Z, Z, Z, trivial⟩, hb0, y2v, y0c, y1o, y0d, y14, hF⟩
     ·clear H
      clear y2v y0c y1o y14 y0d hb0 hF
      clear hS
      rintro a w18 ⟨g18, hS, hb0, y2v, y0c, y1o, y0d, y14, hF⟩
      have H := Hl21
      clear Hl21
      refine y3e [(0, .pointer (so b_p0)), (3, i6 v19), (4, i6 (wi (m0_1 + 1)))] (fun R hR => y00 hS Z Z Z (y03 hS Z Z) fun a379 S379 => y00 S379 Z Z Z (y2l S379 Z Z rfl y4z) fun a380 S380 => y00 S380 Z Z Z (y02 S380 Z Z) fun a381 S381 => wpList_nil (hR _ (S381.re ⟨Z, Z, Z, trivial⟩))) ?_
      clear hS a; intro a hS
      refine ⟨k9, Nat.lt_succ_self _, ?_⟩
      exact ⟨v19, wi (m0_1 + 1), g18, H, hS.re ⟨Z, Z, Z, trivial⟩, hb0, y2v, y0c, y1o, y0d, y14, hF⟩
    ·replace H := y3g hb17 H
     refine wp_exit ?_
     have e := Option.some.inj H
     subst e
     exact ⟨g8, hS.re ⟨Z, trivial⟩, hb0, y2v, y0c, y1o, y0d, y14, hF⟩
 ·clear H
  clear y2v y0c y1o y14 y0d hb0 hF
  clear hS
  rintro a w3 ⟨g3, hS, hb0, y2v, y0c, y1o, y0d, y14, hF⟩
  have H := Hl6
  clear Hl6
  refine y16 [(2, i6 v4)] (fun R hR => y00 hS Z Z Z (y03 hS Z Z) fun a382 S382 => y00 S382 Z Z Z (y02 S382 Z Z) fun a383 S383 => wpList_nil (hR _ (S383.re ⟨Z, trivial⟩))) ?_
  clear hS a; intro a hS
  refine wp_ret ?_
  have e := Option.some.inj H
  subst e
  repeat (with_reducible first | refine y1i ?_ | refine y0o ?_)
  exact y3v hS Try.results54 rfl ⟨_, rfl, g3, rfl, hF⟩


end Go.Proofs.Ytcfcffbjdjacfaa.Sim

namespace Go.Proofs.Ytcfcffbjdjacfaa.Sim
open Go
set_option linter.unusedVariables false
set_option linter.unusedSimpArgs false

/-! ### y15: function 74 -/
def y15.l1 (r15 : Int) (x116 : Int) (x125 : y08) (y157 : List y0e) : Nat → y06 → Int → Option (Fl (y06 × (List y0e)) (y06 × (List y0e)))
 | 0, _, _ => none
 | k168 + 1, m1_0, m1_1 => if decide (m1_1 < (m1_0.Links.length : Int)) = true then (((idx m1_0.Links m1_1).bind fun x186 => (if (x186.Consumer == r15) = true then (y21.f m1_0 x186.Supplier).bind fun r204 => some r204 else some false).bind fun t208 => if t208 = true then ((idx m1_0.Since x186.Supplier).bind fun x240 => some (y06.mk m1_0.D m1_0.Links m1_0.On m1_0.Use (upd m1_0.Since x186.Supplier (wu (x116 + x125.Delay))) m1_0.Clock)) else (some m1_0) : Option (y06)).bind fun v178 => y15.l1 r15 x116 x125 y157 k168 v178 (wi (m1_1 + 1))) else (some (.nxt (m1_0, y157)))
def y15.l0 (p2 : Int) : Nat → y06 → (List y0e) → Option (y06 × (List y0e))
 | 0, _, _ => none
 | k6 + 1, m0_0, m0_1 => ((y25.f m0_0).bind fun r15 => (if decide (r15 < 0) = true then some true else (idx m0_0.Since r15).bind fun x30 => (idx m0_0.D r15).bind fun x39 => some (decide (p2 < (wu (x30 + x39.Delay))))).bind fun t53 => if t53 = true then (some (.out (m0_0, m0_1))) else ((idx m0_0.Since r15).bind fun x116 => (idx m0_0.D r15).bind fun x125 => (idx m0_0.On r15).bind fun x143 => (app m0_1 [(y0e.mk r15 false (wu (x116 + x125.Delay)))]).bind fun y157 => y15.l1 r15 x116 x125 y157 FUEL (y06.mk m0_0.D m0_0.Links (upd m0_0.On r15 false) m0_0.Use m0_0.Since m0_0.Clock) 0) : Option (Fl (y06 × (List y0e)) (y06 × (List y0e)))).bind fun o12 => o12.go fun v11 => y15.l0 p2 k6 v11.1 v11.2
def y15.f (p0 : y06) (p1 : List y0e) (p2 : Int) : Option (y06 × (List y0e)) := y15.l0 p2 FUEL p0 p1
set_option maxRecDepth 100000 in
set_option maxHeartbeats 4000000 in
theorem y15.calls {p0 : y06} {c0 : Nat} {y2a : Nat → Prop} {b_p0 : Nat} {y2o : Option Addr} {y1l : Nat} {y0x : Option Addr} {y0m : Nat} {y24 : Option Addr} {y1d : Nat} {y1m : Option Addr} {y0y : Nat} {y0z : Option Addr} {y0n : Nat} {p1 : List y0e} {A1 : Option Addr} {cap1 : Nat} {c1 : Nat} {p2 : Int} {w : World} {g : Nat → Nat} {out : y06 × (List y0e)} (N : Nat) (r0 : Nat) (hp0 : y2q w g c0 y2a b_p0 y2o y1l y0x y0m y24 y1d y1m y0y y0z y0n p0) (hc0 : c0 + 9 ≤ N) (y33 : ∀ c, y2a c → c < N ∧ (c < c0 ∨ c0 + 9 ≤ c)) (hp1 : OwS y18 47 w g c1 A1 cap1 p1) (hc1 : c1 + 2 ≤ N) (hg1_C_D_p0 : ∀ c, y2a c → c < c1 ∨ c1 + 2 ≤ c) (ho1_0 : c1 + 2 ≤ c0 ∨ c0 + 9 ≤ c1) (hr0 : r0 + 2 ≤ N) (hv0_1 : r0 + 2 ≤ c1 ∨ c1 + 2 ≤ r0) (hq0_0 : r0 + 2 ≤ c0 ∨ c0 + 9 ≤ r0) (H : y15.f p0 p1 p2 = some out) :
  Calls Try.prog 74 #[.pointer (so b_p0), .slice A1 p1.length cap1, .int .u64 p2] w (fun e w' => ∃ v, e = .returned v ∧ ∃ (g' : Nat → Nat) (A_r0 : Option Addr) (cap_r0 : Nat), v = .slice A_r0 out.2.length cap_r0 ∧ y2q w' g' c0 y2a b_p0 y2o y1l y0x y0m y24 y1d y1m y0y y0z y0n out.1 ∧ OwS y18 47 w' g' r0 A_r0 cap_r0 out.2 ∧ Fr (fun q => (c0 ≤ q ∧ q < c0 + 9) ∨ (c1 ≤ q ∧ q < c1 + 2) ∨ (r0 ≤ q ∧ q < r0 + 2) ∨ N ≤ q) w g w' g') := by
 unfold y15.f at H
 refine y1k Try.func74 rfl Try.ntmps74 Z (fun a hS => ?_)
 replace hS : Sl 108 a [(0, .pointer (so b_p0)), (1, .slice A1 p1.length cap1), (2, .int .u64 p2)] := hS
 have hF : Fr (fun q => (c0 ≤ q ∧ q < c0 + 9) ∨ (c1 ≤ q ∧ q < c1 + 2) ∨ (r0 ≤ q ∧ q < r0 + 2) ∨ N ≤ q) w g w g := Fr.refl _ _ _
 obtain ⟨hb0, y2v, y0c, y1o, y14, y0d⟩ := hp0
 refine y16 [(0, .pointer (so b_p0)), (1, .slice A1 p1.length cap1), (2, .int .u64 p2)] (fun R hR => y00 hS Z Z Z (y02 hS Z Z) fun a1 S1 => wpList_nil (hR _ (S1.re ⟨Z, Z, Z, trivial⟩))) ?_
 clear hS a; intro a hS
 refine wp_block ?_
 refine wp_loop_ghost (fun kq => fun a w2 => ∃ (m0_0 : y06), ∃ (m0_1 : List y0e), ∃ (g2 : Nat → Nat), ∃ (A3 : Option Addr), ∃ (cap4 : Nat), y15.l0 p2 kq m0_0 m0_1 = some out ∧ Sl 108 a [(0, .pointer (so b_p0)), (1, .slice A3 m0_1.length cap4), (2, .int .u64 p2)] ∧ OwS y18 47 w2 g2 (c1) A3 cap4 m0_1 ∧ Bx w2 g2 (c0) b_p0 63 [.slice y2o m0_0.D.length y1l, .slice y0x m0_0.Links.length y0m, .slice y24 m0_0.On.length y1d, .slice y1m m0_0.Use.length y0y, .slice y0z m0_0.Since.length y0n, .int .u64 m0_0.Clock] ∧ RdS y0f w2 g2 y2a y2o y1l m0_0.D ∧ OwS y0r 67 w2 g2 (c0 + 1) y0x y0m m0_0.Links ∧ OwS y4p 4 w2 g2 (c0 + 3) y24 y1d m0_0.On ∧ OwS (kint .u64) 28 w2 g2 (c0 + 7) y0z y0n m0_0.Since ∧ OwS (kint .i64) 3 w2 g2 (c0 + 5) y1m y0y m0_0.Use ∧ Fr (fun q => (c0 ≤ q ∧ q < c0 + 9) ∨ (c1 ≤ q ∧ q < c1 + 2) ∨ (r0 ≤ q ∧ q < r0 + 2) ∨ N ≤ q) w g w2 g2) FUEL ?_ ?_
 ·exact ⟨p0, p1, g, A1, cap1, H, hS.re ⟨Z, Z, Z, trivial⟩, hp1, hb0, y2v, y0c, y1o, y0d, y14, hF⟩
 ·clear H
  clear y2v y0c y1o y14 y0d hb0 hp1 hF
  clear hS
  rintro k6 a w2 ⟨m0_0, m0_1, g2, A3, cap4, hpre0, hS, h5, hb0, y2v, y0c, y1o, y0d, y14, hF⟩
  have H := hpre0
  clear hpre0
  cases k6 with
  | zero => exact absurd H (by simp [y15.l0])
  | succ k6 =>
   rw [y15.l0] at H
   obtain ⟨o12, H, Hl13⟩ := y0b H
   refine c_cut1 (fun a w7 => ∃ (v11 : y06 × (List y0e)), ∃ (g7 : Nat → Nat), ∃ (A8 : Option Addr), ∃ (cap9 : Nat), o12 = .nxt v11 ∧ Sl 108 a [(0, .pointer (so b_p0)), (1, .slice A8 v11.2.length cap9), (2, .int .u64 p2)] ∧ OwS y18 47 w7 g7 (c1) A8 cap9 v11.2 ∧ Bx w7 g7 (c0) b_p0 63 [.slice y2o v11.1.D.length y1l, .slice y0x v11.1.Links.length y0m, .slice y24 v11.1.On.length y1d, .slice y1m v11.1.Use.length y0y, .slice y0z v11.1.Since.length y0n, .int .u64 v11.1.Clock] ∧ RdS y0f w7 g7 y2a y2o y1l v11.1.D ∧ OwS y0r 67 w7 g7 (c0 + 1) y0x y0m v11.1.Links ∧ OwS y4p 4 w7 g7 (c0 + 3) y24 y1d v11.1.On ∧ OwS (kint .u64) 28 w7 g7 (c0 + 7) y0z y0n v11.1.Since ∧ OwS (kint .i64) 3 w7 g7 (c0 + 5) y1m y0y v11.1.Use ∧ Fr (fun q => (c0 ≤ q ∧ q < c0 + 9) ∨ (c1 ≤ q ∧ q < c1 + 2) ∨ (r0 ≤ q ∧ q < r0 + 2) ∨ N ≤ q) w g w7 g7) ?_ ?_
   ·refine wp_block ?_
    obtain ⟨r15, hr16, H⟩ := y0b H
    refine y0t (fun K hK => ?_)
    refine y00 hS Z Z Z (y03 hS Z Z) fun a14 S14 => ?_
    refine y1y S14 Z Z Z (y2z S14 Z Z (by kernel_rfl)) (y25.calls (c0 := c0) (b_p0 := b_p0) (y2o := y2o) (y1l := y1l) (y2a := y2a) (y0x := y0x) (y0m := y0m) (y24 := y24) (y1d := y1d) (y1m := y1m) (y0y := y0y) (y0z := y0z) (y0n := y0n) (p0 := m0_0) (g := g2) (N + 2)  ⟨hb0, y2v, y0c, y1o, y14, y0d⟩ (by omega) (fun q (hq : y2a q) => by have := y33 q hq; have := hg1_C_D_p0 q hq; omega) hr16) ?_
    rintro _ a17 w18 ⟨g18, rfl, F18⟩ S17
    replace h5 := OwS.fr h5 F18 (fun c' hc (hm : N + 2 ≤ c') => by omega)
    replace hb0 := hb0.fr F18 (fun (hm : N + 2 ≤ c0) => by omega)
    replace y2v := RdS.fr y2v F18 (by decide) (fun q (hq : y2a q) (hm : N + 2 ≤ q) => by have := y33 q hq; have := hg1_C_D_p0 q hq; omega)
    replace y0c := OwS.fr y0c F18 (fun c' hc (hm : N + 2 ≤ c') => by omega)
    replace y1o := OwS.fr y1o F18 (fun c' hc (hm : N + 2 ≤ c') => by omega)
    replace y0d := OwS.fr y0d F18 (fun c' hc (hm : N + 2 ≤ c') => by omega)
    replace y14 := OwS.fr y14 F18 (fun c' hc (hm : N + 2 ≤ c') => by omega)
    replace hF := hF.trans F18 (fun c' (hm : N + 2 ≤ c') => by (try dsimp only); omega)
    refine y00 S17 Z Z Z (y02 S17 Z Z) fun a19 S19 => wpList_nil (hK _ _ ?_)
    replace hS : Sl 108 _ [(0, .pointer (so b_p0)), (1, .slice A3 m0_1.length cap4), (2, .int .u64 p2), (7, i6 r15)] := S19.re ⟨Z, Z, Z, Z, trivial⟩
    clear hK K
    try clear S14 S17 S19
    generalize a19 = a at hS ⊢
    refine wp_seq ?_
    obtain ⟨t53, ht54, H⟩ := y0b H
    refine c_draw (fun K hK => y4m (fun q => False) g18 [] 22 (ba 0 22) (by kernel_rfl) Z Z (fun w20 hw20 => ?_))
    have F20 : Fr (fun _ => False) w18 g18 w20 g18 := by rw [hw20]; exact Fr.drew _ _ _
    replace h5 := OwS.fr h5 F20 (fun _ _ h => h)
    replace hb0 := hb0.fr F20 (fun h => h)
    replace y2v := RdS.fr y2v F20 (by decide) (fun _ _ h => h)
    replace y0c := OwS.fr y0c F20 (fun _ _ h => h)
    replace y1o := OwS.fr y1o F20 (fun _ _ h => h)
    replace y0d := OwS.fr y0d F20 (fun _ _ h => h)
    replace y14 := OwS.fr y14 F20 (fun _ _ h => h)
    replace hF := hF.trans F20 (fun _ h => h.elim)
    have hC : Fr (fun q => False) w20 g18 w20 g18 := Fr.refl _ _ _
    refine y1b hS 0 (ba 1 21) Z Z Z Z (by kernel_rfl) (fun _ _ _ h => h) (fun _ => (y03 hS Z Z)) fun a21 S21 => y1b S21 1 (ba 2 20) Z Z Z Z (by kernel_rfl) (fun _ _ _ h => h) (fun _ => (y2l S21 Z Z rfl y4t)) fun a22 S22 => y1b S22 2 (ba 3 19) Z Z Z Z (by kernel_rfl) (fun _ _ _ h => h) (fun _ => (y03 S22 Z Z)) fun a23 S23 => ?_
    refine d_join (N := 108) 0 (ba 22 0) [(0, .pointer (so b_p0)), (1, .slice A3 m0_1.length cap4), (2, .int .u64 p2), (7, i6 r15), (33, .bool t53)] ?_ (fun hk => ?_)
    rotate_left
    ·rcases Bool.eq_false_or_eq_true (decide (r15 < 0)) with hb24 | hb24
     ·have H := y3f hb24 ht54
      have e55 := Option.some.inj H
      refine y48 S23 3 (ba 4 18) Z (y05 S23 Z Z rfl hb24) Z Z (by kernel_rfl) (fun _ _ _ h => h) fun a56 S56 => y48 S56 4 (ba 5 17) Z (y05 S56 Z Z rfl hb24) Z Z (by kernel_rfl) (fun _ _ _ h => h) fun a57 S57 => y48 S57 5 (ba 6 16) Z (y05 S57 Z Z rfl hb24) Z Z (by kernel_rfl) (fun _ _ _ h => h) fun a58 S58 => y48 S58 6 (ba 7 15) Z (y05 S58 Z Z rfl hb24) Z Z (by kernel_rfl) (fun _ _ _ h => h) fun a59 S59 => y48 S59 7 (ba 8 14) Z (y05 S59 Z Z rfl hb24) Z Z (by kernel_rfl) (fun _ _ _ h => h) fun a60 S60 => y48 S60 8 (ba 9 13) Z (y05 S60 Z Z rfl hb24) Z Z (by kernel_rfl) (fun _ _ _ h => h) fun a61 S61 => y48 S61 9 (ba 10 12) Z (y05 S61 Z Z rfl hb24) Z Z (by kernel_rfl) (fun _ _ _ h => h) fun a62 S62 => y48 S62 10 (ba 11 11) Z (y05 S62 Z Z rfl hb24) Z Z (by kernel_rfl) (fun _ _ _ h => h) fun a63 S63 => y48 S63 11 (ba 12 10) Z (y05 S63 Z Z rfl hb24) Z Z (by kernel_rfl) (fun _ _ _ h => h) fun a64 S64 => y48 S64 12 (ba 13 9) Z (y05 S64 Z Z rfl hb24) Z Z (by kernel_rfl) (fun _ _ _ h => h) fun a65 S65 => y48 S65 13 (ba 14 8) Z (y05 S65 Z Z rfl hb24) Z Z (by kernel_rfl) (fun _ _ _ h => h) fun a66 S66 => y48 S66 14 (ba 15 7) Z (y05 S66 Z Z rfl hb24) Z Z (by kernel_rfl) (fun _ _ _ h => h) fun a67 S67 => y48 S67 15 (ba 16 6) Z (y05 S67 Z Z rfl hb24) Z Z (by kernel_rfl) (fun _ _ _ h => h) fun a68 S68 => y48 S68 16 (ba 17 5) Z (y05 S68 Z Z rfl hb24) Z Z (by kernel_rfl) (fun _ _ _ h => h) fun a69 S69 => y48 S69 17 (ba 18 4) Z (y05 S69 Z Z rfl hb24) Z Z (by kernel_rfl) (fun _ _ _ h => h) fun a70 S70 => y48 S70 18 (ba 19 3) Z (y05 S70 Z Z rfl hb24) Z Z (by kernel_rfl) (fun _ _ _ h => h) fun a71 S71 => y48 S71 19 (ba 20 2) Z (y05 S71 Z Z rfl hb24) Z Z (by kernel_rfl) (fun _ _ _ h => h) fun a72 S72 => y48 S72 20 (ba 21 1) Z (y05 S72 Z Z rfl hb24) Z Z (by kernel_rfl) (fun _ _ _ h => h) fun a73 S73 => y1b S73 21 (ba 22 0) Z Z Z Z (by kernel_rfl) (fun _ _ _ h => h) (fun _ => (y2s S73 Z Z rfl hb24)) fun a74 S74 => hk _ (S74.re ⟨rfl, rfl, rfl, rfl, (by rw [← e55]; rfl), trivial⟩)
     ·have H := y3g hb24 ht54
      obtain ⟨x80, hx81, H⟩ := y0b H
      obtain ⟨x89, hx90, H⟩ := y0b H
      have e103 := Option.some.inj H
      refine y30 S23 3 (ba 4 18) Z (y0a S23 Z Z rfl hb24) Z Z (by kernel_rfl) (fun _ _ _ h => h) (fun _ => (y03 S23 Z Z)) fun a75 S75 => y30 S75 4 (ba 5 17) Z (y0a S75 Z Z rfl hb24) Z Z (by kernel_rfl) (fun _ _ _ h => h) (fun _ => (y4s S75 Z Z)) fun a76 S76 => y30 S76 5 (ba 6 16) Z (y0a S76 Z Z rfl hb24) Z Z (by kernel_rfl) (fun _ _ _ h => h) (fun _ => (y1e (off := 4) S76 Z Z (by kernel_rfl))) fun a77 S77 => d_takeW S77 6 (ba 7 15) Z (y0a S77 Z Z rfl hb24) Z Z (by kernel_rfl) (fun _ _ _ h => h) ⟨_, hC⟩ (fun w' g' Fz => (y0u (n := 1) S77 Z Z (by kernel_rfl) (Bx.cell (hb0.fr Fz (fun h => h)) Z))) fun a78 S78 => y30 S78 7 (ba 8 14) Z (y0a S78 Z Z rfl hb24) Z Z (by kernel_rfl) (fun _ _ _ h => h) (fun _ => (y03 S78 Z Z)) fun a79 S79 => y30 S79 8 (ba 9 13) Z (y0a S79 Z Z rfl hb24) Z Z (by kernel_rfl) (fun _ _ _ h => h) (fun _ => (y1j (e := 28) (sz := 1) (by_ := 8) S79 Z Z Z (by kernel_rfl) (RdS.some_ (OwS.rd y0d) hx81) (y26 hx81) (y27 hx81))) fun a82 S82 => d_takeW S82 9 (ba 10 12) Z (y0a S82 Z Z rfl hb24) Z Z (by kernel_rfl) (fun _ _ _ h => h) ⟨_, hC⟩ (fun w' g' Fz => (y0u (n := 1) S82 Z Z (by kernel_rfl) (RdS.cell (i := r15) (sz := 1) (j := 0) (OwS.rd (OwS.fr y0d Fz (fun _ _ h => h))) hx81 Z))) fun a83 S83 => y30 S83 10 (ba 11 11) Z (y0a S83 Z Z rfl hb24) Z Z (by kernel_rfl) (fun _ _ _ h => h) (fun _ => (y03 S83 Z Z)) fun a84 S84 => y30 S84 11 (ba 12 10) Z (y0a S84 Z Z rfl hb24) Z Z (by kernel_rfl) (fun _ _ _ h => h) (fun _ => (y4s S84 Z Z)) fun a85 S85 => y30 S85 12 (ba 13 9) Z (y0a S85 Z Z rfl hb24) Z Z (by kernel_rfl) (fun _ _ _ h => h) (fun _ => (y1e (off := 0) S85 Z Z (by kernel_rfl))) fun a86 S86 => d_takeW S86 13 (ba 14 8) Z (y0a S86 Z Z rfl hb24) Z Z (by kernel_rfl) (fun _ _ _ h => h) ⟨_, hC⟩ (fun w' g' Fz => (y0u (n := 1) S86 Z Z (by kernel_rfl) (Bx.cell (hb0.fr Fz (fun h => h)) Z))) fun a87 S87 => y30 S87 14 (ba 15 7) Z (y0a S87 Z Z rfl hb24) Z Z (by kernel_rfl) (fun _ _ _ h => h) (fun _ => (y03 S87 Z Z)) fun a88 S88 => ?_
      obtain ⟨_, ⟨A92, cap93, rfl, h94⟩, hel91⟩ := El.of y2v hx90 (by decide)
      replace hel91 : El w20 g18 y2a y2o (r15.toNat * 3) [i6 x89.Parent, .slice A92 x89.Suppliers.length cap93, .int .u64 x89.Delay] := hel91
      refine y30 S88 15 (ba 16 6) Z (y0a S88 Z Z rfl hb24) Z Z (by kernel_rfl) (fun _ _ _ h => h) (fun _ => (y1j (e := 30) (sz := 3) (by_ := 40) S88 Z Z Z (by kernel_rfl) (RdS.some_ y2v hx90) (y26 hx90) (y27 hx90))) fun a97 S97 => y30 S97 16 (ba 17 5) Z (y0a S97 Z Z rfl hb24) Z Z (by kernel_rfl) (fun _ _ _ h => h) (fun _ => (y2w (off := 2) S97 Z Z (by kernel_rfl))) fun a98 S98 => d_takeW S98 17 (ba 18 4) Z (y0a S98 Z Z rfl hb24) Z Z (by kernel_rfl) (fun _ _ _ h => h) ⟨_, hC⟩ (fun w' g' Fz => (y0u (n := 1) S98 Z Z (by kernel_rfl) (El.cell (j := 2) (hel91.fr Fz (fun _ _ h => h)) Z))) fun a99 S99 => y30 S99 18 (ba 19 3) Z (y0a S99 Z Z rfl hb24) Z Z (by kernel_rfl) (fun _ _ _ h => h) (fun _ => (y2l S99 Z Z rfl y4z)) fun a100 S100 => y30 S100 19 (ba 20 2) Z (y0a S100 Z Z rfl hb24) Z Z (by kernel_rfl) (fun _ _ _ h => h) (fun _ => (y03 S100 Z Z)) fun a101 S101 => y30 S101 20 (ba 21 1) Z (y0a S101 Z Z rfl hb24) Z Z (by kernel_rfl) (fun _ _ _ h => h) (fun _ => (y2l S101 Z Z rfl b_gtr)) fun a102 S102 => y1b S102 21 (ba 22 0) Z Z Z Z (by kernel_rfl) (fun _ _ _ h => h) (fun _ => (y2t S102 Z Z rfl hb24)) fun a104 S104 => hk _ (S104.re ⟨rfl, rfl, rfl, rfl, (by rw [← e103]; rfl), trivial⟩)
    intro a105 S105
    refine y4v (by kernel_rfl) (hK _ _ ?_)
    replace hS : Sl 108 _ [(0, .pointer (so b_p0)), (1, .slice A3 m0_1.length cap4), (2, .int .u64 p2), (7, i6 r15), (33, .bool t53)] := S105.re ⟨Z, Z, Z, Z, Z, trivial⟩
    clear hK K hC
    try clear S21 S22 S23 S105
    generalize a105 = a at hS ⊢
    refine y2m hS Z (fun hb106 => ?_) (fun hb106 => ?_)
    ·replace H := y3f hb106 H
     refine y16 [(6, .slice A3 m0_1.length cap4)] (fun R hR => y00 hS Z Z Z (y03 hS Z Z) fun a107 S107 => y00 S107 Z Z Z (y02 S107 Z Z) fun a108 S108 => wpList_nil (hR _ (S108.re ⟨Z, trivial⟩))) ?_
     clear hS a; intro a hS
     refine wp_ret ?_
     have e := Option.some.inj H
     subst e
     replace H := Fl.go_out Hl13
     have e := Option.some.inj H
     subst e
     have F109 := Fr.y2f w20 g18 (c1) r0
     replace h5 := h5.y2f r0
     replace hb0 := hb0.fr F109 (fun (hm : c0 = c1 ∨ c0 = c1 + 1) => by omega)
     replace y2v := RdS.fr y2v F109 (by decide) (fun q (hq : y2a q) (hm : q = c1 ∨ q = c1 + 1) => by have := y33 q hq; have := hg1_C_D_p0 q hq; omega)
     replace y0c := OwS.fr y0c F109 (fun c' hc (hm : c' = c1 ∨ c' = c1 + 1) => by omega)
     replace y1o := OwS.fr y1o F109 (fun c' hc (hm : c' = c1 ∨ c' = c1 + 1) => by omega)
     replace y0d := OwS.fr y0d F109 (fun c' hc (hm : c' = c1 ∨ c' = c1 + 1) => by omega)
     replace y14 := OwS.fr y14 F109 (fun c' hc (hm : c' = c1 ∨ c' = c1 + 1) => by omega)
     replace hF := hF.trans F109 (fun c' (hm : c' = c1 ∨ c' = c1 + 1) => by (try dsimp only); omega)
     repeat (with_reducible first | refine y1i ?_ | refine y0o ?_)
     exact y3v hS Try.results74 rfl ⟨_, rfl, (y2f g18 (c1) r0), A3, cap4, rfl, ⟨hb0, y2v, y0c, y1o, y14, y0d⟩, h5, hF⟩
    ·replace H := y3g hb106 H
     refine wp_skip ?_
     change Code.wp _ _ _ _ _
     obtain ⟨x116, hx117, H⟩ := y0b H
     obtain ⟨x125, hx126, H⟩ := y0b H
     refine c_draw (fun K hK => y4m (fun q => False) g18 [] 17 (ba 0 17) (by kernel_rfl) Z Z (fun w110 hw110 => ?_))
     have F110 : Fr (fun _ => False) w20 g18 w110 g18 := by rw [hw110]; exact Fr.drew _ _ _
     replace h5 := OwS.fr h5 F110 (fun _ _ h => h)
     replace hb0 := hb0.fr F110 (fun h => h)
     replace y2v := RdS.fr y2v F110 (by decide) (fun _ _ h => h)
     replace y0c := OwS.fr y0c F110 (fun _ _ h => h)
     replace y1o := OwS.fr y1o F110 (fun _ _ h => h)
     replace y0d := OwS.fr y0d F110 (fun _ _ h => h)
     replace y14 := OwS.fr y14 F110 (fun _ _ h => h)
     replace hF := hF.trans F110 (fun _ h => h.elim)
     have hC : Fr (fun q => False) w110 g18 w110 g18 := Fr.refl _ _ _
     refine y1b hS 0 (ba 1 16) Z Z Z Z (by kernel_rfl) (fun _ _ _ h => h) (fun _ => (y03 hS Z Z)) fun a111 S111 => y1b S111 1 (ba 2 15) Z Z Z Z (by kernel_rfl) (fun _ _ _ h => h) (fun _ => (y4s S111 Z Z)) fun a112 S112 => y1b S112 2 (ba 3 14) Z Z Z Z (by kernel_rfl) (fun _ _ _ h => h) (fun _ => (y1e (off := 4) S112 Z Z (by kernel_rfl))) fun a113 S113 => y3w S113 3 (ba 4 13) Z Z Z Z (by kernel_rfl) (fun _ _ _ h => h) ⟨_, hC⟩ (fun w' g' Fz => (y0u (n := 1) S113 Z Z (by kernel_rfl) (Bx.cell (hb0.fr Fz (fun h => h)) Z))) fun a114 S114 => y1b S114 4 (ba 5 12) Z Z Z Z (by kernel_rfl) (fun _ _ _ h => h) (fun _ => (y03 S114 Z Z)) fun a115 S115 => y1b S115 5 (ba 6 11) Z Z Z Z (by kernel_rfl) (fun _ _ _ h => h) (fun _ => (y1j (e := 28) (sz := 1) (by_ := 8) S115 Z Z Z (by kernel_rfl) (RdS.some_ (OwS.rd y0d) hx117) (y26 hx117) (y27 hx117))) fun a118 S118 => y3w S118 6 (ba 7 10) Z Z Z Z (by kernel_rfl) (fun _ _ _ h => h) ⟨_, hC⟩ (fun w' g' Fz => (y0u (n := 1) S118 Z Z (by kernel_rfl) (RdS.cell (i := r15) (sz := 1) (j := 0) (OwS.rd (OwS.fr y0d Fz (fun _ _ h => h))) hx117 Z))) fun a119 S119 => y1b S119 7 (ba 8 9) Z Z Z Z (by kernel_rfl) (fun _ _ _ h => h) (fun _ => (y03 S119 Z Z)) fun a120 S120 => y1b S120 8 (ba 9 8) Z Z Z Z (by kernel_rfl) (fun _ _ _ h => h) (fun _ => (y4s S120 Z Z)) fun a121 S121 => y1b S121 9 (ba 10 7) Z Z Z Z (by kernel_rfl) (fun _ _ _ h => h) (fun _ => (y1e (off := 0) S121 Z Z (by kernel_rfl))) fun a122 S122 => y3w S122 10 (ba 11 6) Z Z Z Z (by kernel_rfl) (fun _ _ _ h => h) ⟨_, hC⟩ (fun w' g' Fz => (y0u (n := 1) S122 Z Z (by kernel_rfl) (Bx.cell (hb0.fr Fz (fun h => h)) Z))) fun a123 S123 => y1b S123 11 (ba 12 5) Z Z Z Z (by kernel_rfl) (fun _ _ _ h => h) (fun _ => (y03 S123 Z Z)) fun a124 S124 => ?_
     obtain ⟨_, ⟨A128, cap129, rfl, h130⟩, hel127⟩ := El.of y2v hx126 (by decide)
     replace hel127 : El w110 g18 y2a y2o (r15.toNat * 3) [i6 x125.Parent, .slice A128 x125.Suppliers.length cap129, .int .u64 x125.Delay] := hel127
     refine y1b S124 12 (ba 13 4) Z Z Z Z (by kernel_rfl) (fun _ _ _ h => h) (fun _ => (y1j (e := 30) (sz := 3) (by_ := 40) S124 Z Z Z (by kernel_rfl) (RdS.some_ y2v hx126) (y26 hx126) (y27 hx126))) fun a133 S133 => y1b S133 13 (ba 14 3) Z Z Z Z (by kernel_rfl) (fun _ _ _ h => h) (fun _ => (y2w (off := 2) S133 Z Z (by kernel_rfl))) fun a134 S134 => y3w S134 14 (ba 15 2) Z Z Z Z (by kernel_rfl) (fun _ _ _ h => h) ⟨_, hC⟩ (fun w' g' Fz => (y0u (n := 1) S134 Z Z (by kernel_rfl) (El.cell (j := 2) (hel127.fr Fz (fun _ _ h => h)) Z))) fun a135 S135 => y1b S135 15 (ba 16 1) Z Z Z Z (by kernel_rfl) (fun _ _ _ h => h) (fun _ => (y2l S135 Z Z rfl y4z)) fun a136 S136 => y1b S136 16 (ba 17 0) Z Z Z Z (by kernel_rfl) (fun _ _ _ h => h) (fun _ => (y02 S136 Z Z)) fun a137 S137 => y4v (by kernel_rfl) (hK _ _ ?_)
     replace hS : Sl 108 _ [(0, .pointer (so b_p0)), (1, .slice A3 m0_1.length cap4), (2, .int .u64 p2), (7, i6 r15), (8, .int .u64 (wu (x116 + x125.Delay)))] := S137.re ⟨Z, Z, Z, Z, Z, trivial⟩
     clear hK K hC
     try clear S111 S112 S113 S114 S115 S118 S119 S120 S121 S122 S123 S124 S133 S134 S135 S136 S137
     generalize a137 = a at hS ⊢
     obtain ⟨x143, hx144, H⟩ := y0b H
     refine y0t (fun K hK => ?_)
     refine y00 hS Z Z Z (y03 hS Z Z) fun a138 S138 => y00 S138 Z Z Z (y4s S138 Z Z) fun a139 S139 => y00 S139 Z Z Z (y1e (off := 2) S139 Z Z (by kernel_rfl)) fun a140 S140 => y00 S140 Z Z Z (y0u (n := 1) S140 Z Z (by kernel_rfl) (Bx.cell hb0 Z)) fun a141 S141 => y00 S141 Z Z Z (y03 S141 Z Z) fun a142 S142 => y00 S142 Z Z Z (y1j (e := 4) (sz := 1) (by_ := 1) S142 Z Z Z (by kernel_rfl) (RdS.some_ (OwS.rd y1o) hx144) (y26 hx144) (y27 hx144)) fun a145 S145 => ?_
     refine y3s S145 Z Z (y4l (n := 1) (bb := false) (kd := y4p) (j := 0) (x' := false) (us := [.bool false]) g18 S145 Z Z Z Z (by kernel_rfl) Z Z (by intro v hv; simp only [List.mem_cons, List.not_mem_nil, or_false] at hv; rcases hv with rfl <;> rfl) y1o hx144 Z (fun _ _ cs hR => by rw [show cs = _ from hR]; rfl)) ?_
     rintro a146 w147 g147 ⟨y1o, F147⟩ S146
     replace h5 := OwS.fr h5 F147 (fun c' hc (hm : c' = c0 + 3) => by omega)
     replace hb0 := hb0.fr F147 (fun (hm : c0 = c0 + 3) => by omega)
     replace y2v := RdS.fr y2v F147 (by decide) (fun q (hq : y2a q) (hm : q = c0 + 3) => by have := y33 q hq; have := hg1_C_D_p0 q hq; omega)
     replace y0c := OwS.fr y0c F147 (fun c' hc (hm : c' = c0 + 3) => by omega)
     replace y0d := OwS.fr y0d F147 (fun c' hc (hm : c' = c0 + 3) => by omega)
     replace y14 := OwS.fr y14 F147 (fun c' hc (hm : c' = c0 + 3) => by omega)
     replace hF := hF.trans F147 (fun c' (hm : c' = c0 + 3) => by (try dsimp only); omega)
     replace hb0 : Bx w147 g147 (c0) b_p0 63 [.slice y2o m0_0.D.length y1l, .slice y0x m0_0.Links.length y0m, .slice y24 (upd m0_0.On r15 false).length y1d, .slice y1m m0_0.Use.length y0y, .slice y0z m0_0.Since.length y0n, .int .u64 m0_0.Clock] := by simpa only [y1w] using hb0
     refine wpList_nil (hK _ _ ?_)
     replace hS : Sl 108 _ [(0, .pointer (so b_p0)), (1, .slice A3 m0_1.length cap4), (2, .int .u64 p2), (7, i6 r15), (8, .int .u64 (wu (x116 + x125.Delay)))] := S146.re ⟨Z, Z, Z, Z, Z, trivial⟩
     clear hK K
     try clear S138 S139 S140 S141 S142 S145 S146
     generalize a146 = a at hS ⊢
     obtain ⟨y157, hy158, H⟩ := y0b H
     refine y0t (fun K hK => ?_)
     refine y00 hS Z Z Z (y03 hS Z Z) fun a148 S148 => y00 S148 Z Z Z (y03 S148 Z Z) fun a149 S149 => y00 S149 Z Z Z (y03 S149 Z Z) fun a150 S150 => y00 S150 Z Z Z (r_build (parts := [(0, i6 r15), (2, .int .u64 (wu (x116 + x125.Delay)))]) (u := .agg #[i6 r15, .bool false, .int .u64 (wu (x116 + x125.Delay))]) S150 Z Z (fun _ => by kernel_rfl)) fun a151 S151 => ?_
     refine y41 S151 Z Z Z (e_lit (e := 47) (parts := [(0, .agg #[i6 r15, .bool false, .int .u64 (wu (x116 + x125.Delay))])]) (cs := [i6 r15, .bool false, .int .u64 (wu (x116 + x125.Delay))]) y18 [(y0e.mk r15 false (wu (x116 + x125.Delay)))] (N + 0) g147 S151 Z Z (fun _ => by kernel_rfl) Z (by decide) (Rows.cons (cs := [i6 r15, .bool false, .int .u64 (wu (x116 + x125.Delay))]) rfl Rows.nil)) ?_
     rintro _ a155 w156 g156 ⟨⟨A152, rfl, h153⟩, F156⟩ S155
     replace h5 := OwS.fr h5 F156 (fun _ _ h => h)
     replace hb0 := hb0.fr F156 (fun h => h)
     replace y2v := RdS.fr y2v F156 (by decide) (fun _ _ h => h)
     replace y0c := OwS.fr y0c F156 (fun _ _ h => h)
     replace y1o := OwS.fr y1o F156 (fun _ _ h => h)
     replace y0d := OwS.fr y0d F156 (fun _ _ h => h)
     replace y14 := OwS.fr y14 F156 (fun _ _ h => h)
     replace hF := hF.trans F156 (fun _ h => h.elim)
     refine y41 S155 Z Z Z (y4g (e := 47) (sz := 3) (by_ := 24) (z := [i6 0, .bool false, .int .u64 0]) (kd := y18) g156 S155 Z Z Z Z (by kernel_rfl) (by kernel_rfl) Z Z Z Z h5 (OwD.rdx h153) (fun _ _ _ h => h) hy158) ?_
     rintro _ a163 w164 g164 ⟨⟨A159, cap160, rfl, h161⟩, F164⟩ S163
     replace h153 := OwS.fr h153 F164 (fun c' hc (hm : c' = c1) => by omega)
     replace hb0 := hb0.fr F164 (fun (hm : c0 = c1) => by omega)
     replace y2v := RdS.fr y2v F164 (by decide) (fun q (hq : y2a q) (hm : q = c1) => by have := y33 q hq; have := hg1_C_D_p0 q hq; omega)
     replace y0c := OwS.fr y0c F164 (fun c' hc (hm : c' = c1) => by omega)
     replace y1o := OwS.fr y1o F164 (fun c' hc (hm : c' = c1) => by omega)
     replace y0d := OwS.fr y0d F164 (fun c' hc (hm : c' = c1) => by omega)
     replace y14 := OwS.fr y14 F164 (fun c' hc (hm : c' = c1) => by omega)
     replace hF := hF.trans F164 (fun c' (hm : c' = c1) => by (try dsimp only); omega)
     refine y00 S163 Z Z Z (y02 S163 Z Z) fun a165 S165 => wpList_nil (hK _ _ ?_)
     replace hS : Sl 108 _ [(0, .pointer (so b_p0)), (1, .slice A159 y157.length cap160), (2, .int .u64 p2), (7, i6 r15), (8, .int .u64 (wu (x116 + x125.Delay)))] := S165.re ⟨Z, Z, Z, Z, Z, trivial⟩
     clear hK K
     try clear S148 S149 S150 S151 S155 S163 S165
     generalize a165 = a at hS ⊢
     refine y16 [(0, .pointer (so b_p0)), (1, .slice A159 y157.length cap160), (2, .int .u64 p2), (7, i6 r15), (8, .int .u64 (wu (x116 + x125.Delay))), (9, i6 0)] (fun R hR => y00 hS Z Z Z (y02 hS Z Z) fun a166 S166 => wpList_nil (hR _ (S166.re ⟨Z, Z, Z, Z, Z, Z, trivial⟩))) ?_
     clear hS a; intro a hS
     refine wp_block ?_
     refine wp_loop_ghost (fun kq => fun a w167 => ∃ (m1_0 : y06), ∃ (m1_1 : Int), ∃ (g167 : Nat → Nat), y15.l1 r15 x116 x125 y157 kq m1_0 m1_1 = some o12 ∧ Sl 108 a [(0, .pointer (so b_p0)), (1, .slice A159 y157.length cap160), (2, .int .u64 p2), (7, i6 r15), (8, .int .u64 (wu (x116 + x125.Delay))), (9, i6 m1_1)] ∧ OwS y18 47 w167 g167 (c1) A159 cap160 y157 ∧ Bx w167 g167 (c0) b_p0 63 [.slice y2o m1_0.D.length y1l, .slice y0x m1_0.Links.length y0m, .slice y24 m1_0.On.length y1d, .slice y1m m1_0.Use.length y0y, .slice y0z m1_0.Since.length y0n, .int .u64 m1_0.Clock] ∧ RdS y0f w167 g167 y2a y2o y1l m1_0.D ∧ OwS y0r 67 w167 g167 (c0 + 1) y0x y0m m1_0.Links ∧ OwS y4p 4 w167 g167 (c0 + 3) y24 y1d m1_0.On ∧ OwS (kint .u64) 28 w167 g167 (c0 + 7) y0z y0n m1_0.Since ∧ OwS (kint .i64) 3 w167 g167 (c0 + 5) y1m y0y m1_0.Use ∧ Fr (fun q => (c0 ≤ q ∧ q < c0 + 9) ∨ (c1 ≤ q ∧ q < c1 + 2) ∨ (r0 ≤ q ∧ q < r0 + 2) ∨ N ≤ q) w g w167 g167) FUEL ?_ ?_
     ·exact ⟨(y06.mk m0_0.D m0_0.Links (upd m0_0.On r15 false) m0_0.Use m0_0.Since m0_0.Clock), 0, g164, H, hS.re ⟨Z, Z, Z, Z, Z, Z, trivial⟩, h161, hb0, y2v, y0c, y1o, y0d, y14, hF⟩
     ·clear H
      clear y2v y0c y1o y14 y0d hb0 h161 hF
      clear hS
      rintro k168 a w167 ⟨m1_0, m1_1, g167, hpre0, hS, h161, hb0, y2v, y0c, y1o, y0d, y14, hF⟩
      have H := hpre0
      clear hpre0
      cases k168 with
      | zero => exact absurd H (by simp [y15.l1])
      | succ k168 =>
       rw [y15.l1] at H
       refine wp_seq ?_
       refine y16 [(0, .pointer (so b_p0)), (1, .slice A159 y157.length cap160), (2, .int .u64 p2), (7, i6 r15), (8, .int .u64 (wu (x116 + x125.Delay))), (9, i6 m1_1), (69, .bool (decide (m1_1 < (m1_0.Links.length : Int))))] (fun R hR => y00 hS Z Z Z (y03 hS Z Z) fun a169 S169 => y00 S169 Z Z Z (y03 S169 Z Z) fun a170 S170 => y00 S170 Z Z Z (y4s S170 Z Z) fun a171 S171 => y00 S171 Z Z Z (y1e (off := 1) S171 Z Z (by kernel_rfl)) fun a172 S172 => y00 S172 Z Z Z (y0u (n := 1) S172 Z Z (by kernel_rfl) (Bx.cell hb0 Z)) fun a173 S173 => y00 S173 Z Z Z (y4x (e := 67) (sz := 2) (by_ := 16) S173 Z Z (by kernel_rfl)) fun a174 S174 => y00 S174 Z Z Z (y2l S174 Z Z rfl y4t) fun a175 S175 => wpList_nil (hR _ (S175.re ⟨Z, Z, Z, Z, Z, Z, Z, trivial⟩))) ?_
       clear hS a; intro a hS
       refine y2m hS Z (fun hb176 => ?_) (fun hb176 => ?_)
       ·replace H := y3f hb176 H
        refine wp_skip ?_
        change Code.wp _ _ _ _ _
        obtain ⟨v178, H, Hl180⟩ := y0b H
        refine y4u (fun a w177 => ∃ (g177 : Nat → Nat), Sl 108 a [(0, .pointer (so b_p0)), (1, .slice A159 y157.length cap160), (2, .int .u64 p2), (7, i6 r15), (8, .int .u64 (wu (x116 + x125.Delay))), (9, i6 m1_1)] ∧ OwS y18 47 w177 g177 (c1) A159 cap160 y157 ∧ Bx w177 g177 (c0) b_p0 63 [.slice y2o v178.D.length y1l, .slice y0x v178.Links.length y0m, .slice y24 v178.On.length y1d, .slice y1m v178.Use.length y0y, .slice y0z v178.Since.length y0n, .int .u64 v178.Clock] ∧ RdS y0f w177 g177 y2a y2o y1l v178.D ∧ OwS y0r 67 w177 g177 (c0 + 1) y0x y0m v178.Links ∧ OwS y4p 4 w177 g177 (c0 + 3) y24 y1d v178.On ∧ OwS (kint .u64) 28 w177 g177 (c0 + 7) y0z y0n v178.Since ∧ OwS (kint .i64) 3 w177 g177 (c0 + 5) y1m y0y v178.Use ∧ Fr (fun q => (c0 ≤ q ∧ q < c0 + 9) ∨ (c1 ≤ q ∧ q < c1 + 2) ∨ (r0 ≤ q ∧ q < r0 + 2) ∨ N ≤ q) w g w177 g177) ?_ ?_
        ·refine wp_block ?_
         obtain ⟨x186, hx187, H⟩ := y0b H
         obtain ⟨t208, ht209, H⟩ := y0b H
         refine y0t (fun K hK => ?_)
         refine y00 hS Z Z Z (y03 hS Z Z) fun a181 S181 => y00 S181 Z Z Z (y4s S181 Z Z) fun a182 S182 => y00 S182 Z Z Z (y1e (off := 1) S182 Z Z (by kernel_rfl)) fun a183 S183 => y00 S183 Z Z Z (y0u (n := 1) S183 Z Z (by kernel_rfl) (Bx.cell hb0 Z)) fun a184 S184 => y00 S184 Z Z Z (y03 S184 Z Z) fun a185 S185 => y00 S185 Z Z Z (y1j (e := 67) (sz := 2) (by_ := 16) S185 Z Z Z (by kernel_rfl) (RdS.some_ (OwS.rd y0c) hx187) (y26 hx187) (y27 hx187)) fun a188 S188 => y00 S188 Z Z Z (y2w (off := 0) S188 Z Z (by kernel_rfl)) fun a189 S189 => y00 S189 Z Z Z (y0u (n := 1) S189 Z Z (by kernel_rfl) (RdS.cell (i := m1_1) (sz := 2) (j := 0) (OwS.rd y0c) hx187 Z)) fun a190 S190 => y00 S190 Z Z Z (y03 S190 Z Z) fun a191 S191 => y00 S191 Z Z Z (y2l S191 Z Z rfl b_eql) fun a192 S192 => y00 S192 Z Z Z (y03 S192 Z Z) fun a193 S193 => ?_
         refine g_joinR 11 (fun a w210 => ∃ (g210 : Nat → Nat), Sl 108 a [(0, .pointer (so b_p0)), (1, .slice A159 y157.length cap160), (2, .int .u64 p2), (7, i6 r15), (8, .int .u64 (wu (x116 + x125.Delay))), (9, i6 m1_1), (93, .bool t208)] ∧ OwS y18 47 w210 g210 (c1) A159 cap160 y157 ∧ Bx w210 g210 (c0) b_p0 63 [.slice y2o m1_0.D.length y1l, .slice y0x m1_0.Links.length y0m, .slice y24 m1_0.On.length y1d, .slice y1m m1_0.Use.length y0y, .slice y0z m1_0.Since.length y0n, .int .u64 m1_0.Clock] ∧ RdS y0f w210 g210 y2a y2o y1l m1_0.D ∧ OwS y0r 67 w210 g210 (c0 + 1) y0x y0m m1_0.Links ∧ OwS y4p 4 w210 g210 (c0 + 3) y24 y1d m1_0.On ∧ OwS (kint .u64) 28 w210 g210 (c0 + 7) y0z y0n m1_0.Since ∧ OwS (kint .i64) 3 w210 g210 (c0 + 5) y1m y0y m1_0.Use ∧ Fr (fun q => (c0 ≤ q ∧ q < c0 + 9) ∨ (c1 ≤ q ∧ q < c1 + 2) ∨ (r0 ≤ q ∧ q < r0 + 2) ∨ N ≤ q) w g w210 g210) ?_ (fun hk => ?_)
         rotate_left
         ·rcases Bool.eq_false_or_eq_true ((x186.Consumer == r15)) with hb194 | hb194
          ·have H := y3f hb194 ht209
           obtain ⟨r220, hr221, H⟩ := y0b H
           have e224 := Option.some.inj H
           refine y0p S193 (y0a S193 Z Z rfl hb194) Z Z (y03 S193 Z Z) fun a211 S211 => y0p S211 (y0a S211 Z Z rfl hb194) Z Z (y03 S211 Z Z) fun a212 S212 => y0p S212 (y0a S212 Z Z rfl hb194) Z Z (y4s S212 Z Z) fun a213 S213 => y0p S213 (y0a S213 Z Z rfl hb194) Z Z (y1e (off := 1) S213 Z Z (by kernel_rfl)) fun a214 S214 => y0p S214 (y0a S214 Z Z rfl hb194) Z Z (y0u (n := 1) S214 Z Z (by kernel_rfl) (Bx.cell hb0 Z)) fun a215 S215 => y0p S215 (y0a S215 Z Z rfl hb194) Z Z (y03 S215 Z Z) fun a216 S216 => y0p S216 (y0a S216 Z Z rfl hb194) Z Z (y1j (e := 67) (sz := 2) (by_ := 16) S216 Z Z Z (by kernel_rfl) (RdS.some_ (OwS.rd y0c) hx187) (y26 hx187) (y27 hx187)) fun a217 S217 => y0p S217 (y0a S217 Z Z rfl hb194) Z Z (y2w (off := 1) S217 Z Z (by kernel_rfl)) fun a218 S218 => y0p S218 (y0a S218 Z Z rfl hb194) Z Z (y0u (n := 1) S218 Z Z (by kernel_rfl) (RdS.cell (i := m1_1) (sz := 2) (j := 1) (OwS.rd y0c) hx187 Z)) fun a219 S219 => ?_
           refine st_enterW S219 (y0a S219 Z Z rfl hb194) Z Z (y2z S219 Z Z (by kernel_rfl)) (y21.calls (c0 := c0) (b_p0 := b_p0) (y2o := y2o) (y1l := y1l) (y2a := y2a) (y0x := y0x) (y0m := y0m) (y24 := y24) (y1d := y1d) (y1m := y1m) (y0y := y0y) (y0z := y0z) (y0n := y0n) (p0 := m1_0) (p1 := x186.Supplier) (g := g167) (N + 2)  ⟨hb0, y2v, y0c, y1o, y14, y0d⟩ (by omega) (fun q (hq : y2a q) => by have := y33 q hq; have := hg1_C_D_p0 q hq; omega) hr221) ?_
           rintro _ a222 w223 ⟨g223, rfl, F223⟩ S222
           replace h161 := OwS.fr h161 F223 (fun c' hc (hm : N + 2 ≤ c') => by omega)
           replace hb0 := hb0.fr F223 (fun (hm : N + 2 ≤ c0) => by omega)
           replace y2v := RdS.fr y2v F223 (by decide) (fun q (hq : y2a q) (hm : N + 2 ≤ q) => by have := y33 q hq; have := hg1_C_D_p0 q hq; omega)
           replace y0c := OwS.fr y0c F223 (fun c' hc (hm : N + 2 ≤ c') => by omega)
           replace y1o := OwS.fr y1o F223 (fun c' hc (hm : N + 2 ≤ c') => by omega)
           replace y0d := OwS.fr y0d F223 (fun c' hc (hm : N + 2 ≤ c') => by omega)
           replace y14 := OwS.fr y14 F223 (fun c' hc (hm : N + 2 ≤ c') => by omega)
           replace hF := hF.trans F223 (fun c' (hm : N + 2 ≤ c') => by (try dsimp only); omega)
           refine y00 S222 Z Z Z (y2s S222 Z Z rfl hb194) fun a225 S225 => hk _ _ ?_
           exact ⟨g223, S225.re ⟨rfl, rfl, rfl, rfl, rfl, rfl, (by rw [← e224]; rfl), trivial⟩, h161, hb0, y2v, y0c, y1o, y0d, y14, hF⟩
          ·have H := y3g hb194 ht209
           have e226 := Option.some.inj H
           refine y1c S193 (y05 S193 Z Z rfl hb194) Z Z fun a227 S227 => y1c S227 (y05 S227 Z Z rfl hb194) Z Z fun a228 S228 => y1c S228 (y05 S228 Z Z rfl hb194) Z Z fun a229 S229 => y1c S229 (y05 S229 Z Z rfl hb194) Z Z fun a230 S230 => y1c S230 (y05 S230 Z Z rfl hb194) Z Z fun a231 S231 => y1c S231 (y05 S231 Z Z rfl hb194) Z Z fun a232 S232 => y1c S232 (y05 S232 Z Z rfl hb194) Z Z fun a233 S233 => y1c S233 (y05 S233 Z Z rfl hb194) Z Z fun a234 S234 => y1c S234 (y05 S234 Z Z rfl hb194) Z Z fun a235 S235 => y1c S235 (y05 S235 Z Z rfl hb194) Z Z fun a236 S236 => y00 S236 Z Z Z (y2t S236 Z Z rfl hb194) fun a237 S237 => hk _ _ ?_
           exact ⟨g167, S237.re ⟨rfl, rfl, rfl, rfl, rfl, rfl, (by rw [← e226]; rfl), trivial⟩, h161, hb0, y2v, y0c, y1o, y0d, y14, hF⟩
         rintro a238 w210 ⟨g210, S238, h161, hb0, y2v, y0c, y1o, y0d, y14, hF⟩
         refine wpList_nil (hK _ _ ?_)
         replace hS : Sl 108 _ [(0, .pointer (so b_p0)), (1, .slice A159 y157.length cap160), (2, .int .u64 p2), (7, i6 r15), (8, .int .u64 (wu (x116 + x125.Delay))), (9, i6 m1_1), (93, .bool t208)] := S238.re ⟨Z, Z, Z, Z, Z, Z, Z, trivial⟩
         clear hK K
         try clear S181 S182 S183 S184 S185 S188 S189 S190 S191 S192 S193 S238
         generalize a238 = a at hS ⊢
         refine y2m hS Z (fun hb239 => ?_) (fun hb239 => ?_)
         ·replace H := y3f hb239 H
          obtain ⟨x240, hx241, H⟩ := y0b H
          refine c_draw1 (fun K hK => y4m (fun q => False) g210 [14] 15 (ba 0 15) (by kernel_rfl) Z Z (fun w242 hw242 => ?_))
          have F242 : Fr (fun _ => False) w210 g210 w242 g210 := by rw [hw242]; exact Fr.drew _ _ _
          replace h161 := OwS.fr h161 F242 (fun _ _ h => h)
          replace hb0 := hb0.fr F242 (fun h => h)
          replace y2v := RdS.fr y2v F242 (by decide) (fun _ _ h => h)
          replace y0c := OwS.fr y0c F242 (fun _ _ h => h)
          replace y1o := OwS.fr y1o F242 (fun _ _ h => h)
          replace y0d := OwS.fr y0d F242 (fun _ _ h => h)
          replace y14 := OwS.fr y14 F242 (fun _ _ h => h)
          replace hF := hF.trans F242 (fun _ h => h.elim)
          have hC : Fr (fun q => False) w242 g210 w242 g210 := Fr.refl _ _ _
          refine y1b hS 0 (ba 1 14) Z Z Z Z (by kernel_rfl) (fun _ _ _ h => h) (fun _ => (y03 hS Z Z)) fun a243 S243 => y1b S243 1 (ba 2 13) Z Z Z Z (by kernel_rfl) (fun _ _ _ h => h) (fun _ => (y4s S243 Z Z)) fun a244 S244 => y1b S244 2 (ba 3 12) Z Z Z Z (by kernel_rfl) (fun _ _ _ h => h) (fun _ => (y1e (off := 4) S244 Z Z (by kernel_rfl))) fun a245 S245 => y3w S245 3 (ba 4 11) Z Z Z Z (by kernel_rfl) (fun _ _ _ h => h) ⟨_, hC⟩ (fun w' g' Fz => (y0u (n := 1) S245 Z Z (by kernel_rfl) (Bx.cell (hb0.fr Fz (fun h => h)) Z))) fun a246 S246 => y1b S246 4 (ba 5 10) Z Z Z Z (by kernel_rfl) (fun _ _ _ h => h) (fun _ => (y03 S246 Z Z)) fun a247 S247 => y1b S247 5 (ba 6 9) Z Z Z Z (by kernel_rfl) (fun _ _ _ h => h) (fun _ => (y4s S247 Z Z)) fun a248 S248 => y1b S248 6 (ba 7 8) Z Z Z Z (by kernel_rfl) (fun _ _ _ h => h) (fun _ => (y1e (off := 1) S248 Z Z (by kernel_rfl))) fun a249 S249 => y3w S249 7 (ba 8 7) Z Z Z Z (by kernel_rfl) (fun _ _ _ h => h) ⟨_, hC⟩ (fun w' g' Fz => (y0u (n := 1) S249 Z Z (by kernel_rfl) (Bx.cell (hb0.fr Fz (fun h => h)) Z))) fun a250 S250 => y1b S250 8 (ba 9 6) Z Z Z Z (by kernel_rfl) (fun _ _ _ h => h) (fun _ => (y03 S250 Z Z)) fun a251 S251 => y1b S251 9 (ba 10 5) Z Z Z Z (by kernel_rfl) (fun _ _ _ h => h) (fun _ => (y1j (e := 67) (sz := 2) (by_ := 16) S251 Z Z Z (by kernel_rfl) (RdS.some_ (OwS.rd y0c) hx187) (y26 hx187) (y27 hx187))) fun a252 S252 => y1b S252 10 (ba 11 4) Z Z Z Z (by kernel_rfl) (fun _ _ _ h => h) (fun _ => (y2w (off := 1) S252 Z Z (by kernel_rfl))) fun a253 S253 => y3w S253 11 (ba 12 3) Z Z Z Z (by kernel_rfl) (fun _ _ _ h => h) ⟨_, hC⟩ (fun w' g' Fz => (y0u (n := 1) S253 Z Z (by kernel_rfl) (RdS.cell (i := m1_1) (sz := 2) (j := 1) (OwS.rd (OwS.fr y0c Fz (fun _ _ h => h))) hx187 Z))) fun a254 S254 => y1b S254 12 (ba 13 2) Z Z Z Z (by kernel_rfl) (fun _ _ _ h => h) (fun _ => (y03 S254 Z Z)) fun a255 S255 => y1b S255 13 (ba 14 1) Z Z Z Z (by kernel_rfl) (fun _ _ _ h => h) (fun _ => (y1j (e := 28) (sz := 1) (by_ := 8) S255 Z Z Z (by kernel_rfl) (RdS.some_ (OwS.rd y0d) hx241) (y26 hx241) (y27 hx241))) fun a256 S256 => ?_
          refine d_one 14 (ba 15 0) Z (by kernel_rfl) (arm_effS S256 Z Z (y4l (n := 1) (bb := false) (kd := (kint .u64)) (j := 0) (x' := wu (x116 + x125.Delay)) (us := [.int .u64 (wu (x116 + x125.Delay))]) g210 S256 Z Z Z Z (by kernel_rfl) Z Z (by intro v hv; simp only [List.mem_cons, List.not_mem_nil, or_false] at hv; rcases hv with rfl <;> rfl) y0d hx241 Z (fun _ _ cs hR => by rw [show cs = _ from hR]; rfl)) (.inl (by decide)) ?_)
          rintro a257 w258 g258 ⟨y0d, F258⟩ S257
          replace h161 := OwS.fr h161 F258 (fun c' hc (hm : c' = c0 + 7) => by omega)
          replace hb0 := hb0.fr F258 (fun (hm : c0 = c0 + 7) => by omega)
          replace y2v := RdS.fr y2v F258 (by decide) (fun q (hq : y2a q) (hm : q = c0 + 7) => by have := y33 q hq; have := hg1_C_D_p0 q hq; omega)
          replace y0c := OwS.fr y0c F258 (fun c' hc (hm : c' = c0 + 7) => by omega)
          replace y1o := OwS.fr y1o F258 (fun c' hc (hm : c' = c0 + 7) => by omega)
          replace y14 := OwS.fr y14 F258 (fun c' hc (hm : c' = c0 + 7) => by omega)
          replace hF := hF.trans F258 (fun c' (hm : c' = c0 + 7) => by (try dsimp only); omega)
          replace hb0 : Bx w258 g258 (c0) b_p0 63 [.slice y2o m1_0.D.length y1l, .slice y0x m1_0.Links.length y0m, .slice y24 m1_0.On.length y1d, .slice y1m m1_0.Use.length y0y, .slice y0z (upd m1_0.Since x186.Supplier (wu (x116 + x125.Delay))).length y0n, .int .u64 m1_0.Clock] := by simpa only [y1w] using hb0
          refine y4v (by kernel_rfl) (hK _ _ ?_)
          replace hS : Sl 108 _ [(0, .pointer (so b_p0)), (1, .slice A159 y157.length cap160), (2, .int .u64 p2), (7, i6 r15), (8, .int .u64 (wu (x116 + x125.Delay))), (9, i6 m1_1)] := S257.re ⟨Z, Z, Z, Z, Z, Z, trivial⟩
          clear hK K hC
          try clear S243 S244 S245 S246 S247 S248 S249 S250 S251 S252 S253 S254 S255 S256 S257
          generalize a257 = a at hS ⊢
          have e := Option.some.inj H
          subst e
          exact ⟨g258, hS.re ⟨Z, Z, Z, Z, Z, Z, trivial⟩, h161, hb0, y2v, y0c, y1o, y0d, y14, hF⟩
         ·replace H := y3g hb239 H
          refine wp_skip ?_
          have e := Option.some.inj H
          subst e
          exact ⟨g210, hS.re ⟨Z, Z, Z, Z, Z, Z, trivial⟩, h161, hb0, y2v, y0c, y1o, y0d, y14, hF⟩
        ·clear H
         clear y2v y0c y1o y14 y0d hb0 h161 hF
         clear hS
         rintro a w177 ⟨g177, hS, h161, hb0, y2v, y0c, y1o, y0d, y14, hF⟩
         have H := Hl180
         clear Hl180
         refine y3e [(0, .pointer (so b_p0)), (1, .slice A159 y157.length cap160), (2, .int .u64 p2), (7, i6 r15), (8, .int .u64 (wu (x116 + x125.Delay))), (9, i6 (wi (m1_1 + 1)))] (fun R hR => y00 hS Z Z Z (y03 hS Z Z) fun a259 S259 => y00 S259 Z Z Z (y2l S259 Z Z rfl y4z) fun a260 S260 => y00 S260 Z Z Z (y02 S260 Z Z) fun a261 S261 => wpList_nil (hR _ (S261.re ⟨Z, Z, Z, Z, Z, Z, trivial⟩))) ?_
         clear hS a; intro a hS
         refine ⟨k168, Nat.lt_succ_self _, ?_⟩
         exact ⟨v178, wi (m1_1 + 1), g177, H, hS.re ⟨Z, Z, Z, Z, Z, Z, trivial⟩, h161, hb0, y2v, y0c, y1o, y0d, y14, hF⟩
       ·replace H := y3g hb176 H
        refine wp_exit ?_
        have e := Option.some.inj H
        exact ⟨(m1_0, y157), g167, A159, cap160, e.symm, hS.re ⟨Z, Z, Z, trivial⟩, h161, hb0, y2v, y0c, y1o, y0d, y14, hF⟩
   ·clear H
    clear y2v y0c y1o y14 y0d hb0 h5 hF
    clear hS
    rintro a w7 ⟨v11, g7, A8, cap9, hpre0, hS, h10, hb0, y2v, y0c, y1o, y0d, y14, hF⟩
    subst hpre0
    have H := Fl.go_nxt Hl13
    clear Hl13
    refine ⟨k6, Nat.lt_succ_self _, ?_⟩
    exact ⟨v11.1, v11.2, g7, A8, cap9, H, hS.re ⟨Z, Z, Z, trivial⟩, h10, hb0, y2v, y0c, y1o, y0d, y14, hF⟩


end Go.Proofs.Ytcfcffbjdjacfaa.Sim

namespace Go.Proofs.Ytcfcffbjdjacfaa.Sim
open Go
set_option linter.unusedVariables false
set_option linter.unusedSimpArgs false

/-! ### y3j: function 52 -/
def y3j.f (p0 : y06) (p1 : Int) : Option (y06 × (List y0e) × Int) := (y36.f p0 p1).bind fun r5 => if r5 = true then (some (p0, [], 1)) else ((y15.f (y06.mk p0.D p0.Links p0.On p0.Use p0.Since p1) ([] : List y0e) p1).bind fun r20 => some (r20.1, r20.2, 0))
set_option maxRecDepth 100000 in
set_option maxHeartbeats 4000000 in
theorem y3j.calls {p0 : y06} {c0 : Nat} {y2a : Nat → Prop} {b_p0 : Nat} {y2o : Option Addr} {y1l : Nat} {y0x : Option Addr} {y0m : Nat} {y24 : Option Addr} {y1d : Nat} {y1m : Option Addr} {y0y : Nat} {y0z : Option Addr} {y0n : Nat} {p1 : Int} {w : World} {g : Nat → Nat} {out : y06 × (List y0e) × Int} (N : Nat) (r0 : Nat) (hp0 : y2q w g c0 y2a b_p0 y2o y1l y0x y0m y24 y1d y1m y0y y0z y0n p0) (hc0 : c0 + 9 ≤ N) (y33 : ∀ c, y2a c → c < N ∧ (c < c0 ∨ c0 + 9 ≤ c)) (hr0 : r0 + 2 ≤ N) (hq0_0 : r0 + 2 ≤ c0 ∨ c0 + 9 ≤ r0) (H : y3j.f p0 p1 = some out) :
  Calls Try.prog 52 #[.pointer (so b_p0), .int .u64 p1] w (fun e w' => ∃ v, e = .returned v ∧ ∃ (g' : Nat → Nat) (A_r0 : Option Addr) (cap_r0 : Nat), v = .tuple #[.slice A_r0 out.2.1.length cap_r0, i6 out.2.2] ∧ y2q w' g' c0 y2a b_p0 y2o y1l y0x y0m y24 y1d y1m y0y y0z y0n out.1 ∧ OwS y18 47 w' g' r0 A_r0 cap_r0 out.2.1 ∧ Fr (fun q => (c0 ≤ q ∧ q < c0 + 9) ∨ (r0 ≤ q ∧ q < r0 + 2) ∨ N ≤ q) w g w' g') := by
 unfold y3j.f at H
 refine y1k Try.func52 rfl Try.ntmps52 Z (fun a hS => ?_)
 replace hS : Sl 16 a [(0, .pointer (so b_p0)), (1, .int .u64 p1)] := hS
 have hF : Fr (fun q => (c0 ≤ q ∧ q < c0 + 9) ∨ (r0 ≤ q ∧ q < r0 + 2) ∨ N ≤ q) w g w g := Fr.refl _ _ _
 obtain ⟨hb0, y2v, y0c, y1o, y14, y0d⟩ := hp0
 refine y16 [(0, .pointer (so b_p0)), (1, .int .u64 p1)] (fun R hR => y00 hS Z Z Z (y02 hS Z Z) fun a1 S1 => y00 S1 Z Z Z (y02 S1 Z Z) fun a2 S2 => wpList_nil (hR _ (S2.re ⟨Z, Z, trivial⟩))) ?_
 clear hS a; intro a hS
 refine wp_seq ?_
 obtain ⟨r5, hr6, H⟩ := y0b H
 refine y0t (fun K hK => ?_)
 refine y00 hS Z Z Z (y03 hS Z Z) fun a3 S3 => y00 S3 Z Z Z (y03 S3 Z Z) fun a4 S4 => ?_
 refine y1y S4 Z Z Z (y2z S4 Z Z (by kernel_rfl)) (y36.calls (c0 := c0) (b_p0 := b_p0) (y2o := y2o) (y1l := y1l) (y2a := y2a) (y0x := y0x) (y0m := y0m) (y24 := y24) (y1d := y1d) (y1m := y1m) (y0y := y0y) (y0z := y0z) (y0n := y0n) (p0 := p0) (p1 := p1) (g := g) (N + 4)  ⟨hb0, y2v, y0c, y1o, y14, y0d⟩ (by omega) (fun q (hq : y2a q) => by have := y33 q hq; omega) hr6) ?_
 rintro _ a7 w8 ⟨g8, rfl, F8⟩ S7
 replace hb0 := hb0.fr F8 (fun (hm : N + 4 ≤ c0) => by omega)
 replace y2v := RdS.fr y2v F8 (by decide) (fun q (hq : y2a q) (hm : N + 4 ≤ q) => by have := y33 q hq; omega)
 replace y0c := OwS.fr y0c F8 (fun c' hc (hm : N + 4 ≤ c') => by omega)
 replace y1o := OwS.fr y1o F8 (fun c' hc (hm : N + 4 ≤ c') => by omega)
 replace y0d := OwS.fr y0d F8 (fun c' hc (hm : N + 4 ≤ c') => by omega)
 replace y14 := OwS.fr y14 F8 (fun c' hc (hm : N + 4 ≤ c') => by omega)
 replace hF := hF.trans F8 (fun c' (hm : N + 4 ≤ c') => by (try dsimp only); omega)
 refine wpList_nil (hK _ _ ?_)
 replace hS : Sl 16 _ [(0, .pointer (so b_p0)), (1, .int .u64 p1), (8, .bool r5)] := S7.re ⟨Z, Z, Z, trivial⟩
 clear hK K
 try clear S3 S4 S7
 generalize a7 = a at hS ⊢
 refine y2m hS Z (fun hb9 => ?_) (fun hb9 => ?_)
 ·replace H := y3f hb9 H
  refine y16 [(4, .slice none 0 0), (5, i6 1)] (fun R hR => y00 hS Z Z Z (y02 hS Z Z) fun a10 S10 => y00 S10 Z Z Z (y02 S10 Z Z) fun a11 S11 => wpList_nil (hR _ (S11.re ⟨Z, Z, trivial⟩))) ?_
  clear hS a; intro a hS
  refine wp_ret ?_
  have e := Option.some.inj H
  subst e
  repeat (with_reducible first | refine y1i ?_ | refine y0o ?_)
  exact y4d hS Try.results52 Z rfl ⟨_, rfl, g8, none, 0, rfl, ⟨hb0, y2v, y0c, y1o, y14, y0d⟩, OwS.nil y18 47 w8 g8 r0, hF⟩
 ·replace H := y3g hb9 H
  refine wp_skip ?_
  change Code.wp _ _ _ _ _
  refine y0t (fun K hK => ?_)
  refine y00 hS Z Z Z (y03 hS Z Z) fun a12 S12 => y00 S12 Z Z Z (y03 S12 Z Z) fun a13 S13 => y00 S13 Z Z Z (y4s S13 Z Z) fun a14 S14 => y00 S14 Z Z Z (y1e (off := 5) S14 Z Z (by kernel_rfl)) fun a15 S15 => ?_
  refine y3s S15 Z Z (y4a (n := 1) (bb := false) (cs' := [.slice y2o p0.D.length y1l, .slice y0x p0.Links.length y0m, .slice y24 p0.On.length y1d, .slice y1m p0.Use.length y0y, .slice y0z p0.Since.length y0n, .int .u64 p1]) g8 S15 Z Z Z (by kernel_rfl) Z Z rfl hb0 Z Z) ?_
  rintro a16 w17 g17 ⟨hb0, F17⟩ S16
  replace y2v := RdS.fr y2v F17 (by decide) (fun q (hq : y2a q) (hm : q = c0) => by have := y33 q hq; omega)
  replace y0c := OwS.fr y0c F17 (fun c' hc (hm : c' = c0) => by omega)
  replace y1o := OwS.fr y1o F17 (fun c' hc (hm : c' = c0) => by omega)
  replace y0d := OwS.fr y0d F17 (fun c' hc (hm : c' = c0) => by omega)
  replace y14 := OwS.fr y14 F17 (fun c' hc (hm : c' = c0) => by omega)
  replace hF := hF.trans F17 (fun c' (hm : c' = c0) => by (try dsimp only); omega)
  refine wpList_nil (hK _ _ ?_)
  replace hS : Sl 16 _ [(0, .pointer (so b_p0)), (1, .int .u64 p1)] := S16.re ⟨Z, Z, trivial⟩
  clear hK K
  try clear S12 S13 S14 S15 S16
  generalize a16 = a at hS ⊢
  obtain ⟨r20, hr21, H⟩ := y0b H
  refine y0t (fun K hK => ?_)
  refine y00 hS Z Z Z (y03 hS Z Z) fun a18 S18 => y00 S18 Z Z Z (y03 S18 Z Z) fun a19 S19 => ?_
  refine y1y S19 Z Z Z (y2z S19 Z Z (by kernel_rfl)) (y15.calls (c0 := c0) (b_p0 := b_p0) (y2o := y2o) (y1l := y1l) (y2a := y2a) (y0x := y0x) (y0m := y0m) (y24 := y24) (y1d := y1d) (y1m := y1m) (y0y := y0y) (y0z := y0z) (y0n := y0n) (c1 := N + 0) (A1 := none) (cap1 := 0) (p0 := (y06.mk p0.D p0.Links p0.On p0.Use p0.Since p1)) (p1 := ([] : List y0e)) (p2 := p1) (g := g17) (N + 4) (N + 2) ⟨hb0, y2v, y0c, y1o, y14, y0d⟩ (by omega) (fun q (hq : y2a q) => by have := y33 q hq; omega) (OwS.nil y18 47 w17 g17 (N + 0)) (by omega) (fun q (hq : y2a q) => by have := y33 q hq; omega) (by omega) (by omega) (by omega) (by omega) hr21) ?_
  rintro _ a26 w27 ⟨g27, A22, cap23, rfl, ⟨hb0, y2v, y0c, y1o, y14, y0d⟩, h24, F27⟩ S26
  replace hF := hF.trans F27 (fun c' (hm : (c0 ≤ c' ∧ c' < c0 + 9) ∨ (N + 0 ≤ c' ∧ c' < N + 0 + 2) ∨ (N + 2 ≤ c' ∧ c' < N + 2 + 2) ∨ N + 4 ≤ c') => by (try dsimp only); omega)
  refine y00 S26 Z Z Z (y02 S26 Z Z) fun a28 S28 => y00 S28 Z Z Z (y02 S28 Z Z) fun a29 S29 => wpList_nil (hK _ _ ?_)
  replace hS : Sl 16 _ [(4, .slice A22 r20.2.length cap23), (5, i6 0)] := S29.re ⟨Z, Z, trivial⟩
  clear hK K
  try clear S18 S19 S26 S28 S29
  generalize a29 = a at hS ⊢
  refine wp_ret ?_
  have e := Option.some.inj H
  subst e
  have F30 := Fr.y2f w27 g27 (N + 2) r0
  replace h24 := h24.y2f r0
  replace hb0 := hb0.fr F30 (fun (hm : c0 = N + 2 ∨ c0 = N + 2 + 1) => by omega)
  replace y2v := RdS.fr y2v F30 (by decide) (fun q (hq : y2a q) (hm : q = N + 2 ∨ q = N + 2 + 1) => by have := y33 q hq; omega)
  replace y0c := OwS.fr y0c F30 (fun c' hc (hm : c' = N + 2 ∨ c' = N + 2 + 1) => by omega)
  replace y1o := OwS.fr y1o F30 (fun c' hc (hm : c' = N + 2 ∨ c' = N + 2 + 1) => by omega)
  replace y0d := OwS.fr y0d F30 (fun c' hc (hm : c' = N + 2 ∨ c' = N + 2 + 1) => by omega)
  replace y14 := OwS.fr y14 F30 (fun c' hc (hm : c' = N + 2 ∨ c' = N + 2 + 1) => by omega)
  replace hF := hF.trans F30 (fun c' (hm : c' = N + 2 ∨ c' = N + 2 + 1) => by (try dsimp only); omega)
  repeat (with_reducible first | refine y1i ?_ | refine y0o ?_)
  exact y4d hS Try.results52 Z rfl ⟨_, rfl, (y2f g27 (N + 2) r0), A22, cap23, rfl, ⟨hb0, y2v, y0c, y1o, y14, y0d⟩, h24, hF⟩


end Go.Proofs.Ytcfcffbjdjacfaa.Sim

namespace Go.Proofs.Ytcfcffbjdjacfaa.Sim
open Go
set_option linter.unusedVariables false
set_option linter.unusedSimpArgs false

/-! ### y3k: function 93 -/
def y3k.l0 (p0 : Int) (p1 : List y0g) : Nat → Int → Option (Fl (Bool) (Unit))
 | 0, _ => none
 | k35 + 1, m0_0 => if decide (m0_0 < (p1.length : Int)) = true then ((idx p1 m0_0).bind fun x43 => if ((((decide (x43.Consumer < 0)) || (decide (p0 ≤ x43.Consumer))) || (decide (x43.Supplier < 0))) || (decide (p0 ≤ x43.Supplier))) = true then (some (.out true)) else (y3k.l0 p0 p1 k35 (wi (m0_0 + 1)))) else (some (.nxt ()))
def y3k.f (p0 : Int) (p1 : List y0g) : Option (Bool) := if (((decide (p0 < 0)) || (decide (128 < p0))) || (decide (1024 < (p1.length : Int)))) = true then (some true) else ((y3k.l0 p0 p1 FUEL 0 : Option (Fl (Bool) (Unit))).bind fun o32 => o32.go fun _ => some false)
set_option maxRecDepth 100000 in
set_option maxHeartbeats 4000000 in
theorem y3k.calls {p0 : Int} {p1 : List y0g} {A1 : Option Addr} {cap1 : Nat} {C1 : Nat → Prop} {w : World} {g : Nat → Nat} {out : Bool} (N : Nat) (hp1 : RdS y0r w g C1 A1 cap1 p1) (hC1 : ∀ c, C1 c → c < N) (H : y3k.f p0 p1 = some out) :
  Calls Try.prog 93 #[i6 p0, .slice A1 p1.length cap1] w (fun e w' => ∃ v, e = .returned v ∧ ∃ (g' : Nat → Nat), v = .bool out ∧ Fr (fun q => N ≤ q) w g w' g') := by
 unfold y3k.f at H
 refine y1k Try.func93 rfl Try.ntmps93 Z (fun a hS => ?_)
 replace hS : Sl 55 a [(0, i6 p0), (1, .slice A1 p1.length cap1)] := hS
 have hF : Fr (fun q => N ≤ q) w g w g := Fr.refl _ _ _
 refine y16 [(0, i6 p0), (1, .slice A1 p1.length cap1)] (fun R hR => y00 hS Z Z Z (y02 hS Z Z) fun a1 S1 => wpList_nil (hR _ (S1.re ⟨Z, Z, trivial⟩))) ?_
 clear hS a; intro a hS
 refine wp_seq ?_
 refine y0t (fun K hK => ?_)
 refine y00 hS Z Z Z (y03 hS Z Z) fun a2 S2 => y00 S2 Z Z Z (y2l S2 Z Z rfl y4t) fun a3 S3 => y00 S3 Z Z Z (y03 S3 Z Z) fun a4 S4 => ?_
 refine y4b (N := 55) 3 [(0, i6 p0), (1, .slice A1 p1.length cap1), (11, .bool ((decide (p0 < 0)) || (decide (128 < p0))))] ?_ (fun hk => ?_)
 rotate_left
 ·rcases Bool.eq_false_or_eq_true (decide (p0 < 0)) with hb5 | hb5
  ·refine y1c S4 (y05 S4 Z Z rfl hb5) Z Z fun a8 S8 => y1c S8 (y05 S8 Z Z rfl hb5) Z Z fun a9 S9 => y00 S9 Z Z Z (y2s S9 Z Z rfl hb5) fun a10 S10 => hk _ (S10.re ⟨rfl, rfl, (by rw [hb5]; rfl), trivial⟩)
  ·refine y0p S4 (y0a S4 Z Z rfl hb5) Z Z (y03 S4 Z Z) fun a11 S11 => y0p S11 (y0a S11 Z Z rfl hb5) Z Z (y2l S11 Z Z rfl b_gtr) fun a12 S12 => y00 S12 Z Z Z (y2t S12 Z Z rfl hb5) fun a13 S13 => hk _ (S13.re ⟨rfl, rfl, (by rw [hb5]; rfl), trivial⟩)
 intro a14 S14
 refine y00 S14 Z Z Z (y03 S14 Z Z) fun a15 S15 => ?_
 refine y4b (N := 55) 4 [(0, i6 p0), (1, .slice A1 p1.length cap1), (16, .bool (((decide (p0 < 0)) || (decide (128 < p0))) || (decide (1024 < (p1.length : Int)))))] ?_ (fun hk => ?_)
 rotate_left
 ·rcases Bool.eq_false_or_eq_true (((decide (p0 < 0)) || (decide (128 < p0)))) with hb16 | hb16
  ·refine y1c S15 (y05 S15 Z Z rfl hb16) Z Z fun a20 S20 => y1c S20 (y05 S20 Z Z rfl hb16) Z Z fun a21 S21 => y1c S21 (y05 S21 Z Z rfl hb16) Z Z fun a22 S22 => y00 S22 Z Z Z (y2s S22 Z Z rfl hb16) fun a23 S23 => hk _ (S23.re ⟨rfl, rfl, (by rw [hb16]; rfl), trivial⟩)
  ·refine y0p S15 (y0a S15 Z Z rfl hb16) Z Z (y03 S15 Z Z) fun a24 S24 => y0p S24 (y0a S24 Z Z rfl hb16) Z Z (y4x (e := 67) (sz := 2) (by_ := 16) S24 Z Z (by kernel_rfl)) fun a25 S25 => y0p S25 (y0a S25 Z Z rfl hb16) Z Z (y2l S25 Z Z rfl b_gtr) fun a26 S26 => y00 S26 Z Z Z (y2t S26 Z Z rfl hb16) fun a27 S27 => hk _ (S27.re ⟨rfl, rfl, (by rw [hb16]; rfl), trivial⟩)
 intro a28 S28
 refine wpList_nil (hK _ _ ?_)
 replace hS : Sl 55 _ [(0, i6 p0), (1, .slice A1 p1.length cap1), (16, .bool (((decide (p0 < 0)) || (decide (128 < p0))) || (decide (1024 < (p1.length : Int)))))] := S28.re ⟨Z, Z, Z, trivial⟩
 clear hK K
 try clear S2 S3 S4 S14 S15 S28
 generalize a28 = a at hS ⊢
 refine y2m hS Z (fun hb29 => ?_) (fun hb29 => ?_)
 ·replace H := y3f hb29 H
  refine y16 [(4, .bool true)] (fun R hR => y00 hS Z Z Z (y02 hS Z Z) fun a30 S30 => wpList_nil (hR _ (S30.re ⟨Z, trivial⟩))) ?_
  clear hS a; intro a hS
  refine wp_ret ?_
  have e := Option.some.inj H
  subst e
  repeat (with_reducible first | refine y1i ?_ | refine y0o ?_)
  exact y3v hS Try.results93 rfl ⟨_, rfl, g, rfl, hF⟩
 ·replace H := y3g hb29 H
  refine wp_skip ?_
  change Code.wp _ _ _ _ _
  obtain ⟨o32, H, Hl33⟩ := y0b H
  refine y4u (fun a w' => o32 = .nxt () ∧ w = w' ∧ Sl 55 a []) ?_ ?_
  ·refine y16 [(0, i6 p0), (1, .slice A1 p1.length cap1), (5, i6 0)] (fun R hR => y00 hS Z Z Z (y02 hS Z Z) fun a34 S34 => wpList_nil (hR _ (S34.re ⟨Z, Z, Z, trivial⟩))) ?_
   clear hS a; intro a hS
   refine wp_block ?_
   refine wp_loop_ghost (fun kq => fun a w' => ∃ (m0_0 : Int), y3k.l0 p0 p1 kq m0_0 = some o32 ∧ w = w' ∧ Sl 55 a [(0, i6 p0), (1, .slice A1 p1.length cap1), (5, i6 m0_0)]) FUEL ?_ ?_
   ·exact ⟨0, H, rfl, hS.re ⟨Z, Z, Z, trivial⟩⟩
   ·clear H
    clear hS
    rintro k35 a w' ⟨m0_0, hpre0, hw, hS⟩
    subst hw
    have H := hpre0
    clear hpre0
    cases k35 with
    | zero => exact absurd H (by simp [y3k.l0])
    | succ k35 =>
     rw [y3k.l0] at H
     refine wp_seq ?_
     refine y16 [(0, i6 p0), (1, .slice A1 p1.length cap1), (5, i6 m0_0), (20, .bool (decide (m0_0 < (p1.length : Int))))] (fun R hR => y00 hS Z Z Z (y03 hS Z Z) fun a36 S36 => y00 S36 Z Z Z (y03 S36 Z Z) fun a37 S37 => y00 S37 Z Z Z (y4x (e := 67) (sz := 2) (by_ := 16) S37 Z Z (by kernel_rfl)) fun a38 S38 => y00 S38 Z Z Z (y2l S38 Z Z rfl y4t) fun a39 S39 => wpList_nil (hR _ (S39.re ⟨Z, Z, Z, Z, trivial⟩))) ?_
     clear hS a; intro a hS
     refine y2m hS Z (fun hb40 => ?_) (fun hb40 => ?_)
     ·replace H := y3f hb40 H
      refine wp_skip ?_
      change Code.wp _ _ _ _ _
      refine wp_seq ?_
      refine wp_block ?_
      obtain ⟨x43, hx44, H⟩ := y0b H
      refine y0t (fun K hK => ?_)
      refine y00 hS Z Z Z (y03 hS Z Z) fun a41 S41 => y00 S41 Z Z Z (y03 S41 Z Z) fun a42 S42 => y00 S42 Z Z Z (y1j (e := 67) (sz := 2) (by_ := 16) S42 Z Z Z (by kernel_rfl) (RdS.some_ hp1 hx44) (y26 hx44) (y27 hx44)) fun a45 S45 => y00 S45 Z Z Z (y2w (off := 0) S45 Z Z (by kernel_rfl)) fun a46 S46 => y00 S46 Z Z Z (y0u (n := 1) S46 Z Z (by kernel_rfl) (RdS.cell (i := m0_0) (sz := 2) (j := 0) hp1 hx44 Z)) fun a47 S47 => y00 S47 Z Z Z (y2l S47 Z Z rfl y4t) fun a48 S48 => y00 S48 Z Z Z (y03 S48 Z Z) fun a49 S49 => ?_
      refine y4b (N := 55) 8 [(0, i6 p0), (1, .slice A1 p1.length cap1), (5, i6 m0_0), (37, .bool ((decide (x43.Consumer < 0)) || (decide (p0 ≤ x43.Consumer))))] ?_ (fun hk => ?_)
      rotate_left
      ·rcases Bool.eq_false_or_eq_true (decide (x43.Consumer < 0)) with hb50 | hb50
       ·refine y1c S49 (y05 S49 Z Z rfl hb50) Z Z fun a58 S58 => y1c S58 (y05 S58 Z Z rfl hb50) Z Z fun a59 S59 => y1c S59 (y05 S59 Z Z rfl hb50) Z Z fun a60 S60 => y1c S60 (y05 S60 Z Z rfl hb50) Z Z fun a61 S61 => y1c S61 (y05 S61 Z Z rfl hb50) Z Z fun a62 S62 => y1c S62 (y05 S62 Z Z rfl hb50) Z Z fun a63 S63 => y1c S63 (y05 S63 Z Z rfl hb50) Z Z fun a64 S64 => y00 S64 Z Z Z (y2s S64 Z Z rfl hb50) fun a65 S65 => hk _ (S65.re ⟨rfl, rfl, rfl, (by rw [hb50]; rfl), trivial⟩)
       ·refine y0p S49 (y0a S49 Z Z rfl hb50) Z Z (y03 S49 Z Z) fun a66 S66 => y0p S66 (y0a S66 Z Z rfl hb50) Z Z (y03 S66 Z Z) fun a67 S67 => y0p S67 (y0a S67 Z Z rfl hb50) Z Z (y1j (e := 67) (sz := 2) (by_ := 16) S67 Z Z Z (by kernel_rfl) (RdS.some_ hp1 hx44) (y26 hx44) (y27 hx44)) fun a68 S68 => y0p S68 (y0a S68 Z Z rfl hb50) Z Z (y2w (off := 0) S68 Z Z (by kernel_rfl)) fun a69 S69 => y0p S69 (y0a S69 Z Z rfl hb50) Z Z (y0u (n := 1) S69 Z Z (by kernel_rfl) (RdS.cell (i := m0_0) (sz := 2) (j := 0) hp1 hx44 Z)) fun a70 S70 => y0p S70 (y0a S70 Z Z rfl hb50) Z Z (y03 S70 Z Z) fun a71 S71 => y0p S71 (y0a S71 Z Z rfl hb50) Z Z (y2l S71 Z Z rfl b_geq) fun a72 S72 => y00 S72 Z Z Z (y2t S72 Z Z rfl hb50) fun a73 S73 => hk _ (S73.re ⟨rfl, rfl, rfl, (by rw [hb50]; rfl), trivial⟩)
      intro a74 S74
      refine y00 S74 Z Z Z (y03 S74 Z Z) fun a75 S75 => ?_
      refine y4b (N := 55) 7 [(0, i6 p0), (1, .slice A1 p1.length cap1), (5, i6 m0_0), (45, .bool (((decide (x43.Consumer < 0)) || (decide (p0 ≤ x43.Consumer))) || (decide (x43.Supplier < 0))))] ?_ (fun hk => ?_)
      rotate_left
      ·rcases Bool.eq_false_or_eq_true (((decide (x43.Consumer < 0)) || (decide (p0 ≤ x43.Consumer)))) with hb76 | hb76
       ·refine y1c S75 (y05 S75 Z Z rfl hb76) Z Z fun a83 S83 => y1c S83 (y05 S83 Z Z rfl hb76) Z Z fun a84 S84 => y1c S84 (y05 S84 Z Z rfl hb76) Z Z fun a85 S85 => y1c S85 (y05 S85 Z Z rfl hb76) Z Z fun a86 S86 => y1c S86 (y05 S86 Z Z rfl hb76) Z Z fun a87 S87 => y1c S87 (y05 S87 Z Z rfl hb76) Z Z fun a88 S88 => y00 S88 Z Z Z (y2s S88 Z Z rfl hb76) fun a89 S89 => hk _ (S89.re ⟨rfl, rfl, rfl, (by rw [hb76]; rfl), trivial⟩)
       ·refine y0p S75 (y0a S75 Z Z rfl hb76) Z Z (y03 S75 Z Z) fun a90 S90 => y0p S90 (y0a S90 Z Z rfl hb76) Z Z (y03 S90 Z Z) fun a91 S91 => y0p S91 (y0a S91 Z Z rfl hb76) Z Z (y1j (e := 67) (sz := 2) (by_ := 16) S91 Z Z Z (by kernel_rfl) (RdS.some_ hp1 hx44) (y26 hx44) (y27 hx44)) fun a92 S92 => y0p S92 (y0a S92 Z Z rfl hb76) Z Z (y2w (off := 1) S92 Z Z (by kernel_rfl)) fun a93 S93 => y0p S93 (y0a S93 Z Z rfl hb76) Z Z (y0u (n := 1) S93 Z Z (by kernel_rfl) (RdS.cell (i := m0_0) (sz := 2) (j := 1) hp1 hx44 Z)) fun a94 S94 => y0p S94 (y0a S94 Z Z rfl hb76) Z Z (y2l S94 Z Z rfl y4t) fun a95 S95 => y00 S95 Z Z Z (y2t S95 Z Z rfl hb76) fun a96 S96 => hk _ (S96.re ⟨rfl, rfl, rfl, (by rw [hb76]; rfl), trivial⟩)
      intro a97 S97
      refine y00 S97 Z Z Z (y03 S97 Z Z) fun a98 S98 => ?_
      refine y4b (N := 55) 8 [(0, i6 p0), (1, .slice A1 p1.length cap1), (5, i6 m0_0), (54, .bool ((((decide (x43.Consumer < 0)) || (decide (p0 ≤ x43.Consumer))) || (decide (x43.Supplier < 0))) || (decide (p0 ≤ x43.Supplier))))] ?_ (fun hk => ?_)
      rotate_left
      ·rcases Bool.eq_false_or_eq_true ((((decide (x43.Consumer < 0)) || (decide (p0 ≤ x43.Consumer))) || (decide (x43.Supplier < 0)))) with hb99 | hb99
       ·refine y1c S98 (y05 S98 Z Z rfl hb99) Z Z fun a107 S107 => y1c S107 (y05 S107 Z Z rfl hb99) Z Z fun a108 S108 => y1c S108 (y05 S108 Z Z rfl hb99) Z Z fun a109 S109 => y1c S109 (y05 S109 Z Z rfl hb99) Z Z fun a110 S110 => y1c S110 (y05 S110 Z Z rfl hb99) Z Z fun a111 S111 => y1c S111 (y05 S111 Z Z rfl hb99) Z Z fun a112 S112 => y1c S112 (y05 S112 Z Z rfl hb99) Z Z fun a113 S113 => y00 S113 Z Z Z (y2s S113 Z Z rfl hb99) fun a114 S114 => hk _ (S114.re ⟨rfl, rfl, rfl, (by rw [hb99]; rfl), trivial⟩)
       ·refine y0p S98 (y0a S98 Z Z rfl hb99) Z Z (y03 S98 Z Z) fun a115 S115 => y0p S115 (y0a S115 Z Z rfl hb99) Z Z (y03 S115 Z Z) fun a116 S116 => y0p S116 (y0a S116 Z Z rfl hb99) Z Z (y1j (e := 67) (sz := 2) (by_ := 16) S116 Z Z Z (by kernel_rfl) (RdS.some_ hp1 hx44) (y26 hx44) (y27 hx44)) fun a117 S117 => y0p S117 (y0a S117 Z Z rfl hb99) Z Z (y2w (off := 1) S117 Z Z (by kernel_rfl)) fun a118 S118 => y0p S118 (y0a S118 Z Z rfl hb99) Z Z (y0u (n := 1) S118 Z Z (by kernel_rfl) (RdS.cell (i := m0_0) (sz := 2) (j := 1) hp1 hx44 Z)) fun a119 S119 => y0p S119 (y0a S119 Z Z rfl hb99) Z Z (y03 S119 Z Z) fun a120 S120 => y0p S120 (y0a S120 Z Z rfl hb99) Z Z (y2l S120 Z Z rfl b_geq) fun a121 S121 => y00 S121 Z Z Z (y2t S121 Z Z rfl hb99) fun a122 S122 => hk _ (S122.re ⟨rfl, rfl, rfl, (by rw [hb99]; rfl), trivial⟩)
      intro a123 S123
      refine wpList_nil (hK _ _ ?_)
      replace hS : Sl 55 _ [(0, i6 p0), (1, .slice A1 p1.length cap1), (5, i6 m0_0), (54, .bool ((((decide (x43.Consumer < 0)) || (decide (p0 ≤ x43.Consumer))) || (decide (x43.Supplier < 0))) || (decide (p0 ≤ x43.Supplier))))] := S123.re ⟨Z, Z, Z, Z, trivial⟩
      clear hK K
      try clear S41 S42 S45 S46 S47 S48 S49 S74 S75 S97 S98 S123
      generalize a123 = a at hS ⊢
      refine y2m hS Z (fun hb124 => ?_) (fun hb124 => ?_)
      ·replace H := y3f hb124 H
       refine y16 [(4, .bool true)] (fun R hR => y00 hS Z Z Z (y02 hS Z Z) fun a125 S125 => wpList_nil (hR _ (S125.re ⟨Z, trivial⟩))) ?_
       clear hS a; intro a hS
       refine wp_ret ?_
       have e := Option.some.inj H
       subst e
       replace H := Fl.go_out Hl33
       have e := Option.some.inj H
       subst e
       repeat (with_reducible first | refine y1i ?_ | refine y0o ?_)
       exact y3v hS Try.results93 rfl ⟨_, rfl, g, rfl, hF⟩
      ·replace H := y3g hb124 H
       refine wp_skip ?_
       change Code.wp _ _ _ _ _
       refine y3e [(0, i6 p0), (1, .slice A1 p1.length cap1), (5, i6 (wi (m0_0 + 1)))] (fun R hR => y00 hS Z Z Z (y03 hS Z Z) fun a126 S126 => y00 S126 Z Z Z (y2l S126 Z Z rfl y4z) fun a127 S127 => y00 S127 Z Z Z (y02 S127 Z Z) fun a128 S128 => wpList_nil (hR _ (S128.re ⟨Z, Z, Z, trivial⟩))) ?_
       clear hS a; intro a hS
       refine ⟨k35, Nat.lt_succ_self _, ?_⟩
       exact ⟨wi (m0_0 + 1), H, rfl, hS.re ⟨Z, Z, Z, trivial⟩⟩
     ·replace H := y3g hb40 H
      refine wp_exit ?_
      have e := Option.some.inj H
      exact ⟨e.symm, rfl, hS.re trivial⟩
  ·clear H
   clear hS
   rintro a w' ⟨hpre0, hw, hS⟩
   subst hpre0
   subst hw
   have H := Fl.go_nxt Hl33
   clear Hl33
   refine y16 [(4, .bool false)] (fun R hR => y00 hS Z Z Z (y02 hS Z Z) fun a129 S129 => wpList_nil (hR _ (S129.re ⟨Z, trivial⟩))) ?_
   clear hS a; intro a hS
   refine wp_ret ?_
   have e := Option.some.inj H
   subst e
   repeat (with_reducible first | refine y1i ?_ | refine y0o ?_)
   exact y3v hS Try.results93 rfl ⟨_, rfl, g, rfl, hF⟩


end Go.Proofs.Ytcfcffbjdjacfaa.Sim

namespace Go.Proofs.Ytcfcffbjdjacfaa.Sim
open Go
set_option linter.unusedVariables false
set_option linter.unusedSimpArgs false

/-! ### y2p: function 71 -/
def y2p.l1 (p1 : List y0g) (m0_0 : Int) : Nat → Int → Option (Fl (Fl (Int) (Unit)) (Unit))
 | 0, _ => none
 | k28 + 1, m1_0 => if decide (m1_0 < m0_0) = true then ((idx p1 m0_0).bind fun x36 => (idx p1 m1_0).bind fun x42 => if decide (x36 = x42) = true then (some (.out (.out 7))) else (y2p.l1 p1 m0_0 k28 (wi (m1_0 + 1)))) else (some (.nxt ()))
def y2p.l0 (p1 : List y0g) : Nat → Int → Option (Fl (Int) (Unit))
 | 0, _ => none
 | k16 + 1, m0_0 => if decide (m0_0 < (p1.length : Int)) = true then ((y2p.l1 p1 m0_0 FUEL 0 : Option (Fl (Fl (Int) (Unit)) (Unit))).bind fun o24 => o24.go fun _ => y2p.l0 p1 k16 (wi (m0_0 + 1))) else (some (.nxt ()))
def y2p.f (p0 : Int) (p1 : List y0g) : Option (Int) := (y3k.f p0 p1).bind fun r4 => if r4 = true then (some 1) else ((y2p.l0 p1 FUEL 0 : Option (Fl (Int) (Unit))).bind fun o12 => o12.go fun _ => some 0)
set_option maxRecDepth 100000 in
set_option maxHeartbeats 4000000 in
theorem y2p.calls {p0 : Int} {p1 : List y0g} {A1 : Option Addr} {cap1 : Nat} {C1 : Nat → Prop} {w : World} {g : Nat → Nat} {out : Int} (N : Nat) (hp1 : RdS y0r w g C1 A1 cap1 p1) (hC1 : ∀ c, C1 c → c < N) (H : y2p.f p0 p1 = some out) :
  Calls Try.prog 71 #[i6 p0, .slice A1 p1.length cap1] w (fun e w' => ∃ v, e = .returned v ∧ ∃ (g' : Nat → Nat), v = i6 out ∧ Fr (fun q => N ≤ q) w g w' g') := by
 unfold y2p.f at H
 refine y1k Try.func71 rfl Try.ntmps71 Z (fun a hS => ?_)
 replace hS : Sl 30 a [(0, i6 p0), (1, .slice A1 p1.length cap1)] := hS
 have hF : Fr (fun q => N ≤ q) w g w g := Fr.refl _ _ _
 refine y16 [(0, i6 p0), (1, .slice A1 p1.length cap1)] (fun R hR => y00 hS Z Z Z (y02 hS Z Z) fun a1 S1 => wpList_nil (hR _ (S1.re ⟨Z, Z, trivial⟩))) ?_
 clear hS a; intro a hS
 refine wp_seq ?_
 obtain ⟨r4, hr5, H⟩ := y0b H
 refine y0t (fun K hK => ?_)
 refine y00 hS Z Z Z (y03 hS Z Z) fun a2 S2 => y00 S2 Z Z Z (y03 S2 Z Z) fun a3 S3 => ?_
 refine y1y S3 Z Z Z (y2z S3 Z Z (by kernel_rfl)) (y3k.calls (C1 := C1) (p0 := p0) (p1 := p1) (g := g) (N + 0)  hp1 (fun q (hq : C1 q) => by have := hC1 q hq; omega) hr5) ?_
 rintro _ a6 w7 ⟨g7, rfl, F7⟩ S6
 replace hp1 := RdS.fr hp1 F7 (by decide) (fun q (hq : C1 q) (hm : N + 0 ≤ q) => by have := hC1 q hq; omega)
 replace hF := hF.trans F7 (fun c' (hm : N + 0 ≤ c') => by (try dsimp only); omega)
 refine wpList_nil (hK _ _ ?_)
 replace hS : Sl 30 _ [(1, .slice A1 p1.length cap1), (9, .bool r4)] := S6.re ⟨Z, Z, trivial⟩
 clear hK K
 try clear S2 S3 S6
 generalize a6 = a at hS ⊢
 refine y2m hS Z (fun hb8 => ?_) (fun hb8 => ?_)
 ·replace H := y3f hb8 H
  refine y16 [(4, i6 1)] (fun R hR => y00 hS Z Z Z (y02 hS Z Z) fun a9 S9 => wpList_nil (hR _ (S9.re ⟨Z, trivial⟩))) ?_
  clear hS a; intro a hS
  refine wp_ret ?_
  have e := Option.some.inj H
  subst e
  repeat (with_reducible first | refine y1i ?_ | refine y0o ?_)
  exact y3v hS Try.results71 rfl ⟨_, rfl, g7, rfl, hF⟩
 ·replace H := y3g hb8 H
  refine wp_skip ?_
  change Code.wp _ _ _ _ _
  obtain ⟨o12, H, Hl13⟩ := y0b H
  refine y4u (fun a w10 => ∃ (g10 : Nat → Nat), o12 = .nxt () ∧ Sl 30 a [] ∧ Fr (fun q => N ≤ q) w g w10 g10) ?_ ?_
  ·refine y16 [(1, .slice A1 p1.length cap1), (5, i6 0)] (fun R hR => y00 hS Z Z Z (y02 hS Z Z) fun a14 S14 => wpList_nil (hR _ (S14.re ⟨Z, Z, trivial⟩))) ?_
   clear hS a; intro a hS
   refine wp_block ?_
   refine wp_loop_ghost (fun kq => fun a w15 => ∃ (m0_0 : Int), ∃ (g15 : Nat → Nat), y2p.l0 p1 kq m0_0 = some o12 ∧ Sl 30 a [(1, .slice A1 p1.length cap1), (5, i6 m0_0)] ∧ RdS y0r w15 g15 C1 A1 cap1 p1 ∧ Fr (fun q => N ≤ q) w g w15 g15) FUEL ?_ ?_
   ·exact ⟨0, g7, H, hS.re ⟨Z, Z, trivial⟩, hp1, hF⟩
   ·clear H
    clear hp1 hF
    clear hS
    rintro k16 a w15 ⟨m0_0, g15, hpre0, hS, hp1, hF⟩
    have H := hpre0
    clear hpre0
    cases k16 with
    | zero => exact absurd H (by simp [y2p.l0])
    | succ k16 =>
     rw [y2p.l0] at H
     refine wp_seq ?_
     refine y16 [(1, .slice A1 p1.length cap1), (5, i6 m0_0), (13, .bool (decide (m0_0 < (p1.length : Int))))] (fun R hR => y00 hS Z Z Z (y03 hS Z Z) fun a17 S17 => y00 S17 Z Z Z (y03 S17 Z Z) fun a18 S18 => y00 S18 Z Z Z (y4x (e := 67) (sz := 2) (by_ := 16) S18 Z Z (by kernel_rfl)) fun a19 S19 => y00 S19 Z Z Z (y2l S19 Z Z rfl y4t) fun a20 S20 => wpList_nil (hR _ (S20.re ⟨Z, Z, Z, trivial⟩))) ?_
     clear hS a; intro a hS
     refine y2m hS Z (fun hb21 => ?_) (fun hb21 => ?_)
     ·replace H := y3f hb21 H
      refine wp_skip ?_
      change Code.wp _ _ _ _ _
      obtain ⟨o24, H, Hl25⟩ := y0b H
      refine y4u (fun a w22 => ∃ (g22 : Nat → Nat), o24 = .nxt () ∧ Sl 30 a [(1, .slice A1 p1.length cap1), (5, i6 m0_0)] ∧ RdS y0r w22 g22 C1 A1 cap1 p1 ∧ Fr (fun q => N ≤ q) w g w22 g22) ?_ ?_
      ·refine wp_block ?_
       refine y16 [(1, .slice A1 p1.length cap1), (5, i6 m0_0), (6, i6 0)] (fun R hR => y00 hS Z Z Z (y02 hS Z Z) fun a26 S26 => wpList_nil (hR _ (S26.re ⟨Z, Z, Z, trivial⟩))) ?_
       clear hS a; intro a hS
       refine wp_block ?_
       refine wp_loop_ghost (fun kq => fun a w27 => ∃ (m1_0 : Int), ∃ (g27 : Nat → Nat), y2p.l1 p1 m0_0 kq m1_0 = some o24 ∧ Sl 30 a [(1, .slice A1 p1.length cap1), (5, i6 m0_0), (6, i6 m1_0)] ∧ RdS y0r w27 g27 C1 A1 cap1 p1 ∧ Fr (fun q => N ≤ q) w g w27 g27) FUEL ?_ ?_
       ·exact ⟨0, g15, H, hS.re ⟨Z, Z, Z, trivial⟩, hp1, hF⟩
       ·clear H
        clear hp1 hF
        clear hS
        rintro k28 a w27 ⟨m1_0, g27, hpre0, hS, hp1, hF⟩
        have H := hpre0
        clear hpre0
        cases k28 with
        | zero => exact absurd H (by simp [y2p.l1])
        | succ k28 =>
         rw [y2p.l1] at H
         refine wp_seq ?_
         refine y16 [(1, .slice A1 p1.length cap1), (5, i6 m0_0), (6, i6 m1_0), (18, .bool (decide (m1_0 < m0_0)))] (fun R hR => y00 hS Z Z Z (y03 hS Z Z) fun a29 S29 => y00 S29 Z Z Z (y03 S29 Z Z) fun a30 S30 => y00 S30 Z Z Z (y2l S30 Z Z rfl y4t) fun a31 S31 => wpList_nil (hR _ (S31.re ⟨Z, Z, Z, Z, trivial⟩))) ?_
         clear hS a; intro a hS
         refine y2m hS Z (fun hb32 => ?_) (fun hb32 => ?_)
         ·replace H := y3f hb32 H
          refine wp_skip ?_
          change Code.wp _ _ _ _ _
          refine wp_seq ?_
          refine wp_block ?_
          obtain ⟨x36, hx37, H⟩ := y0b H
          obtain ⟨x42, hx43, H⟩ := y0b H
          refine c_draw (fun K hK => y4m (fun q => False) g27 [] 9 (ba 0 9) (by kernel_rfl) Z Z (fun w33 hw33 => ?_))
          have F33 : Fr (fun _ => False) w27 g27 w33 g27 := by rw [hw33]; exact Fr.drew _ _ _
          replace hp1 := RdS.fr hp1 F33 (by decide) (fun _ _ h => h)
          replace hF := hF.trans F33 (fun _ h => h.elim)
          have hC : Fr (fun q => False) w33 g27 w33 g27 := Fr.refl _ _ _
          refine y1b hS 0 (ba 1 8) Z Z Z Z (by kernel_rfl) (fun _ _ _ h => h) (fun _ => (y03 hS Z Z)) fun a34 S34 => y1b S34 1 (ba 2 7) Z Z Z Z (by kernel_rfl) (fun _ _ _ h => h) (fun _ => (y03 S34 Z Z)) fun a35 S35 => y1b S35 2 (ba 3 6) Z Z Z Z (by kernel_rfl) (fun _ _ _ h => h) (fun _ => (y1j (e := 67) (sz := 2) (by_ := 16) S35 Z Z Z (by kernel_rfl) (RdS.some_ hp1 hx37) (y26 hx37) (y27 hx37))) fun a38 S38 => y3w S38 3 (ba 4 5) Z Z Z Z (by kernel_rfl) (fun _ _ _ h => h) ⟨_, hC⟩ (fun w' g' Fz => (r_loadN (n := 2) (cs := [i6 x36.Consumer, i6 x36.Supplier]) S38 Z Z (by kernel_rfl) Z (RdS.cells_off (RdS.fr hp1 Fz (by decide) (fun _ _ h => h)) hx37 0 2))) fun a39 S39 => y1b S39 4 (ba 5 4) Z Z Z Z (by kernel_rfl) (fun _ _ _ h => h) (fun _ => (y03 S39 Z Z)) fun a40 S40 => y1b S40 5 (ba 6 3) Z Z Z Z (by kernel_rfl) (fun _ _ _ h => h) (fun _ => (y03 S40 Z Z)) fun a41 S41 => y1b S41 6 (ba 7 2) Z Z Z Z (by kernel_rfl) (fun _ _ _ h => h) (fun _ => (y1j (e := 67) (sz := 2) (by_ := 16) S41 Z Z Z (by kernel_rfl) (RdS.some_ hp1 hx43) (y26 hx43) (y27 hx43))) fun a44 S44 => y3w S44 7 (ba 8 1) Z Z Z Z (by kernel_rfl) (fun _ _ _ h => h) ⟨_, hC⟩ (fun w' g' Fz => (r_loadN (n := 2) (cs := [i6 x42.Consumer, i6 x42.Supplier]) S44 Z Z (by kernel_rfl) Z (RdS.cells_off (RdS.fr hp1 Fz (by decide) (fun _ _ h => h)) hx43 0 2))) fun a45 S45 => y1b S45 8 (ba 9 0) Z Z Z Z (by kernel_rfl) (fun _ _ _ h => h) (fun _ => (r_stEq S45 Z Z Z (by kernel_rfl) (eqF_api_Link x36 x42 _))) fun a46 S46 => y4v (by kernel_rfl) (hK _ _ ?_)
          replace hS : Sl 30 _ [(1, .slice A1 p1.length cap1), (5, i6 m0_0), (6, i6 m1_0), (29, .bool (decide (x36 = x42)))] := S46.re ⟨Z, Z, Z, Z, trivial⟩
          clear hK K hC
          try clear S34 S35 S38 S39 S40 S41 S44 S45 S46
          generalize a46 = a at hS ⊢
          refine y2m hS Z (fun hb47 => ?_) (fun hb47 => ?_)
          ·replace H := y3f hb47 H
           refine y16 [(4, i6 7)] (fun R hR => y00 hS Z Z Z (y02 hS Z Z) fun a48 S48 => wpList_nil (hR _ (S48.re ⟨Z, trivial⟩))) ?_
           clear hS a; intro a hS
           refine wp_ret ?_
           have e := Option.some.inj H
           subst e
           replace H := Fl.go_out Hl25
           have e := Option.some.inj H
           subst e
           replace H := Fl.go_out Hl13
           have e := Option.some.inj H
           subst e
           repeat (with_reducible first | refine y1i ?_ | refine y0o ?_)
           exact y3v hS Try.results71 rfl ⟨_, rfl, g27, rfl, hF⟩
          ·replace H := y3g hb47 H
           refine wp_skip ?_
           change Code.wp _ _ _ _ _
           refine y3e [(1, .slice A1 p1.length cap1), (5, i6 m0_0), (6, i6 (wi (m1_0 + 1)))] (fun R hR => y00 hS Z Z Z (y03 hS Z Z) fun a49 S49 => y00 S49 Z Z Z (y2l S49 Z Z rfl y4z) fun a50 S50 => y00 S50 Z Z Z (y02 S50 Z Z) fun a51 S51 => wpList_nil (hR _ (S51.re ⟨Z, Z, Z, trivial⟩))) ?_
           clear hS a; intro a hS
           refine ⟨k28, Nat.lt_succ_self _, ?_⟩
           exact ⟨wi (m1_0 + 1), g27, H, hS.re ⟨Z, Z, Z, trivial⟩, hp1, hF⟩
         ·replace H := y3g hb32 H
          refine wp_exit ?_
          have e := Option.some.inj H
          exact ⟨g27, e.symm, hS.re ⟨Z, Z, trivial⟩, hp1, hF⟩
      ·clear H
       clear hp1 hF
       clear hS
       rintro a w22 ⟨g22, hpre0, hS, hp1, hF⟩
       subst hpre0
       have H := Fl.go_nxt Hl25
       clear Hl25
       refine y3e [(1, .slice A1 p1.length cap1), (5, i6 (wi (m0_0 + 1)))] (fun R hR => y00 hS Z Z Z (y03 hS Z Z) fun a52 S52 => y00 S52 Z Z Z (y2l S52 Z Z rfl y4z) fun a53 S53 => y00 S53 Z Z Z (y02 S53 Z Z) fun a54 S54 => wpList_nil (hR _ (S54.re ⟨Z, Z, trivial⟩))) ?_
       clear hS a; intro a hS
       refine ⟨k16, Nat.lt_succ_self _, ?_⟩
       exact ⟨wi (m0_0 + 1), g22, H, hS.re ⟨Z, Z, trivial⟩, hp1, hF⟩
     ·replace H := y3g hb21 H
      refine wp_exit ?_
      have e := Option.some.inj H
      exact ⟨g15, e.symm, hS.re trivial, hF⟩
  ·clear H
   clear hp1 hF
   clear hS
   rintro a w10 ⟨g10, hpre0, hS, hF⟩
   subst hpre0
   have H := Fl.go_nxt Hl13
   clear Hl13
   refine y16 [(4, i6 0)] (fun R hR => y00 hS Z Z Z (y02 hS Z Z) fun a55 S55 => wpList_nil (hR _ (S55.re ⟨Z, trivial⟩))) ?_
   clear hS a; intro a hS
   refine wp_ret ?_
   have e := Option.some.inj H
   subst e
   repeat (with_reducible first | refine y1i ?_ | refine y0o ?_)
   exact y3v hS Try.results71 rfl ⟨_, rfl, g10, rfl, hF⟩


end Go.Proofs.Ytcfcffbjdjacfaa.Sim

namespace Go.Proofs.Ytcfcffbjdjacfaa.Sim
open Go
set_option linter.unusedVariables false
set_option linter.unusedSimpArgs false

/-! ### y1g: function 72 -/
def y1g.l0 (p0 : Int) : Nat → (List (List Bool)) → Int → Option ((List (List Bool)))
 | 0, _, _ => none
 | k21 + 1, m0_0, m0_1 => if decide (m0_1 < p0) = true then ((mk p0 false).bind fun y29 => (idx m0_0 m0_1).bind fun x37 => y1g.l0 p0 k21 (upd m0_0 m0_1 y29) (wi (m0_1 + 1))) else (some m0_0)
def y1g.l1 (p1 : List y0g) : Nat → (List (List Bool)) → Int → Option ((List (List Bool)))
 | 0, _, _ => none
 | k57 + 1, m1_0, m1_1 => if decide (m1_1 < (p1.length : Int)) = true then ((idx p1 m1_1).bind fun x63 => (idx m1_0 x63.Consumer).bind fun x65 => (idx x65 x63.Supplier).bind fun x69 => y1g.l1 p1 k57 (upd m1_0 x63.Consumer (upd x65 x63.Supplier true)) (wi (m1_1 + 1))) else (some m1_0)
def y1g.l4 (p0 : Int) (m2_1 : Int) (m3_1 : Int) : Nat → (List (List Bool)) → Int → Option ((List (List Bool)))
 | 0, _, _ => none
 | k134 + 1, m4_0, m4_1 => if decide (m4_1 < p0) = true then (((idx m4_0 m2_1).bind fun x145 => (idx x145 m4_1).bind fun x152 => if x152 = true then ((idx m4_0 m3_1).bind fun x159 => (idx x159 m4_1).bind fun x166 => some (upd m4_0 m3_1 (upd x159 m4_1 true))) else (some m4_0) : Option ((List (List Bool)))).bind fun v140 => y1g.l4 p0 m2_1 m3_1 k134 v140 (wi (m4_1 + 1))) else (some m4_0)
def y1g.l3 (p0 : Int) (m2_1 : Int) : Nat → (List (List Bool)) → Int → Option ((List (List Bool)))
 | 0, _, _ => none
 | k108 + 1, m3_0, m3_1 => if decide (m3_1 < p0) = true then (((idx m3_0 m3_1).bind fun x119 => (idx x119 m2_1).bind fun x126 => if (!x126) = true then (some m3_0) else (y1g.l4 p0 m2_1 m3_1 FUEL m3_0 0) : Option ((List (List Bool)))).bind fun v114 => y1g.l3 p0 m2_1 k108 v114 (wi (m3_1 + 1))) else (some m3_0)
def y1g.l2 (p0 : Int) : Nat → (List (List Bool)) → Int → Option ((List (List Bool)))
 | 0, _, _ => none
 | k97 + 1, m2_0, m2_1 => if decide (m2_1 < p0) = true then ((y1g.l3 p0 m2_1 FUEL m2_0 0 : Option ((List (List Bool)))).bind fun v103 => y1g.l2 p0 k97 v103 (wi (m2_1 + 1))) else (some m2_0)
def y1g.f (p0 : Int) (p1 : List y0g) : Option ((List (List Bool))) := (mk p0 ([] : List Bool)).bind fun y3 => (y1g.l0 p0 FUEL y3 0 : Option ((List (List Bool)))).bind fun v15 => (y1g.l1 p1 FUEL v15 0 : Option ((List (List Bool)))).bind fun v52 => (y1g.l2 p0 FUEL v52 0 : Option ((List (List Bool)))).bind fun v92 => some v92
set_option maxRecDepth 100000 in
set_option maxHeartbeats 4000000 in
theorem y1g.calls {p0 : Int} {p1 : List y0g} {A1 : Option Addr} {cap1 : Nat} {C1 : Nat → Prop} {w : World} {g : Nat → Nat} {out : (List (List Bool))} (N : Nat) (r0 : Nat) (hp1 : RdS y0r w g C1 A1 cap1 p1) (hC1 : ∀ c, C1 c → c < N) (hr0 : r0 + 2 ≤ N) (H : y1g.f p0 p1 = some out) :
  Calls Try.prog 72 #[i6 p0, .slice A1 p1.length cap1] w (fun e w' => ∃ v, e = .returned v ∧ ∃ (g' : Nat → Nat) (A_r0 : Option Addr) (cap_r0 : Nat), v = .slice A_r0 out.length cap_r0 ∧ OwS (kslice y4p (by decide)) 52 w' g' r0 A_r0 cap_r0 out ∧ Fr (fun q => (r0 ≤ q ∧ q < r0 + 2) ∨ N ≤ q) w g w' g') := by
 unfold y1g.f at H
 refine y1k Try.func72 rfl Try.ntmps72 Z (fun a hS => ?_)
 replace hS : Sl 80 a [(0, i6 p0), (1, .slice A1 p1.length cap1)] := hS
 have hF : Fr (fun q => (r0 ≤ q ∧ q < r0 + 2) ∨ N ≤ q) w g w g := Fr.refl _ _ _
 refine y16 [(0, i6 p0), (1, .slice A1 p1.length cap1)] (fun R hR => y00 hS Z Z Z (y02 hS Z Z) fun a1 S1 => wpList_nil (hR _ (S1.re ⟨Z, Z, trivial⟩))) ?_
 clear hS a; intro a hS
 obtain ⟨y3, hy4, H⟩ := y0b H
 refine y0t (fun K hK => ?_)
 refine y00 hS Z Z Z (y03 hS Z Z) fun a2 S2 => ?_
 refine y41 S2 Z Z Z (e_makeM y4p (e := 52) (sz := 1) (by_ := 24) (E := 4) (N + 0) g S2 Z Z (by kernel_rfl) (by kernel_rfl) Z rfl hy4) ?_
 rintro _ a10 w11 g11 ⟨⟨A5, cap6, hs7, rfl, h8⟩, F11⟩ S10
 replace hp1 := RdS.fr hp1 F11 (by decide) (fun _ _ h => h)
 replace hF := hF.trans F11 (fun _ h => h.elim)
 refine y00 S10 Z Z Z (y02 S10 Z Z) fun a12 S12 => wpList_nil (hK _ _ ?_)
 replace hS : Sl 80 _ [(0, i6 p0), (1, .slice A1 p1.length cap1), (5, .slice A5 y3.length cap6)] := S12.re ⟨Z, Z, Z, trivial⟩
 clear hK K
 try clear S2 S10 S12
 generalize a12 = a at hS ⊢
 obtain ⟨v15, H, Hl17⟩ := y0b H
 refine y4u (fun a w13 => ∃ (g13 : Nat → Nat), ∃ (hs14 : List (Option Addr × Nat)), Sl 80 a [(0, i6 p0), (1, .slice A1 p1.length cap1), (5, .slice A5 v15.length cap6)] ∧ OwM y4p 52 4 w13 g13 (N + 0) A5 cap6 hs14 v15 (fun _ => False) ∧ RdS y0r w13 g13 C1 A1 cap1 p1 ∧ Fr (fun q => (r0 ≤ q ∧ q < r0 + 2) ∨ N ≤ q) w g w13 g13) ?_ ?_
 ·refine y16 [(0, i6 p0), (1, .slice A1 p1.length cap1), (5, .slice A5 y3.length cap6), (6, i6 0)] (fun R hR => y00 hS Z Z Z (y02 hS Z Z) fun a18 S18 => wpList_nil (hR _ (S18.re ⟨Z, Z, Z, Z, trivial⟩))) ?_
  clear hS a; intro a hS
  refine wp_block ?_
  refine wp_loop_ghost (fun kq => fun a w19 => ∃ (m0_0 : List (List Bool)), ∃ (m0_1 : Int), ∃ (g19 : Nat → Nat), ∃ (hs20 : List (Option Addr × Nat)), y1g.l0 p0 kq m0_0 m0_1 = some v15 ∧ Sl 80 a [(0, i6 p0), (1, .slice A1 p1.length cap1), (5, .slice A5 m0_0.length cap6), (6, i6 m0_1)] ∧ OwM y4p 52 4 w19 g19 (N + 0) A5 cap6 hs20 m0_0 (fun _ => False) ∧ RdS y0r w19 g19 C1 A1 cap1 p1 ∧ Fr (fun q => (r0 ≤ q ∧ q < r0 + 2) ∨ N ≤ q) w g w19 g19) FUEL ?_ ?_
  ·exact ⟨y3, 0, g11, hs7, H, hS.re ⟨Z, Z, Z, Z, trivial⟩, h8, hp1, hF⟩
  ·clear H
   clear hp1 h8 hF
   clear hS
   rintro k21 a w19 ⟨m0_0, m0_1, g19, hs20, hpre0, hS, h8, hp1, hF⟩
   have H := hpre0
   clear hpre0
   cases k21 with
   | zero => exact absurd H (by simp [y1g.l0])
   | succ k21 =>
    rw [y1g.l0] at H
    refine wp_seq ?_
    refine y16 [(0, i6 p0), (1, .slice A1 p1.length cap1), (5, .slice A5 m0_0.length cap6), (6, i6 m0_1), (15, .bool (decide (m0_1 < p0)))] (fun R hR => y00 hS Z Z Z (y03 hS Z Z) fun a22 S22 => y00 S22 Z Z Z (y03 S22 Z Z) fun a23 S23 => y00 S23 Z Z Z (y2l S23 Z Z rfl y4t) fun a24 S24 => wpList_nil (hR _ (S24.re ⟨Z, Z, Z, Z, Z, trivial⟩))) ?_
    clear hS a; intro a hS
    refine y2m hS Z (fun hb25 => ?_) (fun hb25 => ?_)
    ·replace H := y3f hb25 H
     refine wp_skip ?_
     change Code.wp _ _ _ _ _
     refine wp_seq ?_
     refine wp_block ?_
     obtain ⟨y29, hy30, H⟩ := y0b H
     obtain ⟨x37, hx38, H⟩ := y0b H
     refine y3l (fun K hK => ?_)
     refine y00 hS Z Z Z (y03 hS Z Z) fun a26 S26 => y00 S26 Z Z Z (y03 S26 Z Z) fun a27 S27 => y00 S27 Z Z Z (y03 S27 Z Z) fun a28 S28 => ?_
     refine y41 S28 Z Z Z (e_make (e := 4) (sz := 1) (by_ := 1) (z := [.bool false]) (kd := y4p) (N + 3) g19 S28 Z Z (by kernel_rfl) (by kernel_rfl) Z Z Z (fun _ _ _ => by exact rfl) hy30) ?_
     rintro _ a35 w36 g36 ⟨⟨A31, cap32, rfl, h33⟩, F36⟩ S35
     replace h8 := OwM.fr h8 F36 (fun h => h) (fun h => h) (fun h => h)
     replace hp1 := RdS.fr hp1 F36 (by decide) (fun _ _ h => h)
     replace hF := hF.trans F36 (fun _ h => h.elim)
     obtain ⟨h39, hh40⟩ := OwM.hd h8 hx38
     refine y00 S35 Z Z Z (y1j (e := 52) (sz := 1) (by_ := 24) S35 Z Z Z (by kernel_rfl) (OwM.some_ h8 hx38) (y26 hx38) (y27 hx38)) fun a41 S41 => ?_
     obtain ⟨hN43, hm44, F45⟩ := OwM.take (fun _ _ _ _ _ _ _ _ h => h) h8 hx38 hh40 (N + 5) ⟨by omega, by omega⟩
     clear h8
     replace h33 := OwS.fr h33 F45 (fun c' hc (hm : c' = N + 0 + 1) => by omega)
     replace hp1 := RdS.fr hp1 F45 (by decide) (fun q (hq : C1 q) (hm : q = N + 0 + 1) => by have := hC1 q hq; omega)
     replace hF := hF.trans F45 (fun c' (hm : c' = N + 0 + 1) => by (try dsimp only); omega)
     refine y3s S41 Z Z (e_storeM (k := y4p) (fun _ _ _ _ _ _ _ _ h => h) (dyeA g36 h39.1 (N + 5)) S41 Z Z Z Z (by kernel_rfl) rfl hm44 hx38 hh40 h33 ⟨by omega, by omega⟩) ?_
     rintro a46 w47 g47 ⟨hm44, F47⟩ S46
     replace hp1 := RdS.fr hp1 F47 (by decide) (fun q (hq : C1 q) (hm : q = N + 0 ∨ q = N + 3) => by have := hC1 q hq; omega)
     replace hF := hF.trans F47 (fun c' (hm : c' = N + 0 ∨ c' = N + 3) => by (try dsimp only); omega)
     have hT : Sl 80 a46 [(0, i6 p0), (1, .slice A1 p1.length cap1), (5, .slice A5 m0_0.length cap6), (6, i6 m0_1)] := S46.re ⟨Z, Z, Z, Z, trivial⟩
     replace S46 : Sl 80 a46 [(0, i6 p0), (1, .slice A1 p1.length cap1), (5, .slice A5 (upd m0_0 m0_1 y29).length cap6), (6, i6 m0_1)] := by simpa only [y1w] using hT
     clear hT
     refine wpList_nil (hK _ _ ?_)
     replace hS : Sl 80 _ [(0, i6 p0), (1, .slice A1 p1.length cap1), (5, .slice A5 (upd m0_0 m0_1 y29).length cap6), (6, i6 m0_1)] := S46.re ⟨Z, Z, Z, Z, trivial⟩
     clear hK K
     try clear S26 S27 S28 S35 S41 S46
     generalize a46 = a at hS ⊢
     change Code.wp _ _ _ _ _
     refine y3e [(0, i6 p0), (1, .slice A1 p1.length cap1), (5, .slice A5 (upd m0_0 m0_1 y29).length cap6), (6, i6 (wi (m0_1 + 1)))] (fun R hR => y00 hS Z Z Z (y03 hS Z Z) fun a48 S48 => y00 S48 Z Z Z (y2l S48 Z Z rfl y4z) fun a49 S49 => y00 S49 Z Z Z (y02 S49 Z Z) fun a50 S50 => wpList_nil (hR _ (S50.re ⟨Z, Z, Z, Z, trivial⟩))) ?_
     clear hS a; intro a hS
     refine ⟨k21, Nat.lt_succ_self _, ?_⟩
     exact ⟨(upd m0_0 m0_1 y29), wi (m0_1 + 1), g47, (upd hs20 m0_1 (A31, cap32)), H, hS.re ⟨Z, Z, Z, Z, trivial⟩, hm44, hp1, hF⟩
    ·replace H := y3g hb25 H
     refine wp_exit ?_
     have e := Option.some.inj H
     subst e
     exact ⟨g19, hs20, hS.re ⟨Z, Z, Z, trivial⟩, h8, hp1, hF⟩
 ·clear H
  clear hp1 h8 hF
  clear hS
  rintro a w13 ⟨g13, hs14, hS, h8, hp1, hF⟩
  have H := Hl17
  clear Hl17
  obtain ⟨v52, H, Hl54⟩ := y0b H
  refine y4u (fun a w51 => ∃ (g51 : Nat → Nat), Sl 80 a [(0, i6 p0), (5, .slice A5 v52.length cap6)] ∧ OwM y4p 52 4 w51 g51 (N + 0) A5 cap6 hs14 v52 (fun _ => False) ∧ Fr (fun q => (r0 ≤ q ∧ q < r0 + 2) ∨ N ≤ q) w g w51 g51) ?_ ?_
  ·refine y16 [(0, i6 p0), (1, .slice A1 p1.length cap1), (5, .slice A5 v15.length cap6), (7, i6 0)] (fun R hR => y00 hS Z Z Z (y02 hS Z Z) fun a55 S55 => wpList_nil (hR _ (S55.re ⟨Z, Z, Z, Z, trivial⟩))) ?_
   clear hS a; intro a hS
   refine wp_block ?_
   refine wp_loop_ghost (fun kq => fun a w56 => ∃ (m1_0 : List (List Bool)), ∃ (m1_1 : Int), ∃ (g56 : Nat → Nat), y1g.l1 p1 kq m1_0 m1_1 = some v52 ∧ Sl 80 a [(0, i6 p0), (1, .slice A1 p1.length cap1), (5, .slice A5 m1_0.length cap6), (7, i6 m1_1)] ∧ OwM y4p 52 4 w56 g56 (N + 0) A5 cap6 hs14 m1_0 (fun _ => False) ∧ RdS y0r w56 g56 C1 A1 cap1 p1 ∧ Fr (fun q => (r0 ≤ q ∧ q < r0 + 2) ∨ N ≤ q) w g w56 g56) FUEL ?_ ?_
   ·exact ⟨v15, 0, g13, H, hS.re ⟨Z, Z, Z, Z, trivial⟩, h8, hp1, hF⟩
   ·clear H
    clear hp1 h8 hF
    clear hS
    rintro k57 a w56 ⟨m1_0, m1_1, g56, hpre0, hS, h8, hp1, hF⟩
    have H := hpre0
    clear hpre0
    cases k57 with
    | zero => exact absurd H (by simp [y1g.l1])
    | succ k57 =>
     rw [y1g.l1] at H
     refine wp_seq ?_
     refine y16 [(0, i6 p0), (1, .slice A1 p1.length cap1), (5, .slice A5 m1_0.length cap6), (7, i6 m1_1), (26, .bool (decide (m1_1 < (p1.length : Int))))] (fun R hR => y00 hS Z Z Z (y03 hS Z Z) fun a58 S58 => y00 S58 Z Z Z (y03 S58 Z Z) fun a59 S59 => y00 S59 Z Z Z (y4x (e := 67) (sz := 2) (by_ := 16) S59 Z Z (by kernel_rfl)) fun a60 S60 => y00 S60 Z Z Z (y2l S60 Z Z rfl y4t) fun a61 S61 => wpList_nil (hR _ (S61.re ⟨Z, Z, Z, Z, Z, trivial⟩))) ?_
     clear hS a; intro a hS
     refine y2m hS Z (fun hb62 => ?_) (fun hb62 => ?_)
     ·replace H := y3f hb62 H
      refine wp_skip ?_
      change Code.wp _ _ _ _ _
      refine wp_seq ?_
      refine wp_block ?_
      obtain ⟨x63, hx64, H⟩ := y0b H
      obtain ⟨x65, hx66, H⟩ := y0b H
      obtain ⟨h67, hh68⟩ := OwM.hd h8 hx66
      obtain ⟨x69, hx70, H⟩ := y0b H
      refine c_draw1 (fun K hK => y4m (fun q => False) g56 [14] 15 (ba 0 15) (by kernel_rfl) Z Z (fun w71 hw71 => ?_))
      have F71 : Fr (fun _ => False) w56 g56 w71 g56 := by rw [hw71]; exact Fr.drew _ _ _
      replace h8 := OwM.fr h8 F71 (fun h => h) (fun h => h) (fun h => h)
      replace hp1 := RdS.fr hp1 F71 (by decide) (fun _ _ h => h)
      replace hF := hF.trans F71 (fun _ h => h.elim)
      have hC : Fr (fun q => False) w71 g56 w71 g56 := Fr.refl _ _ _
      refine y1b hS 0 (ba 1 14) Z Z Z Z (by kernel_rfl) (fun _ _ _ h => h) (fun _ => (y03 hS Z Z)) fun a72 S72 => y1b S72 1 (ba 2 13) Z Z Z Z (by kernel_rfl) (fun _ _ _ h => h) (fun _ => (y03 S72 Z Z)) fun a73 S73 => y1b S73 2 (ba 3 12) Z Z Z Z (by kernel_rfl) (fun _ _ _ h => h) (fun _ => (y03 S73 Z Z)) fun a74 S74 => y1b S74 3 (ba 4 11) Z Z Z Z (by kernel_rfl) (fun _ _ _ h => h) (fun _ => (y1j (e := 67) (sz := 2) (by_ := 16) S74 Z Z Z (by kernel_rfl) (RdS.some_ hp1 hx64) (y26 hx64) (y27 hx64))) fun a75 S75 => y1b S75 4 (ba 5 10) Z Z Z Z (by kernel_rfl) (fun _ _ _ h => h) (fun _ => (y2w (off := 0) S75 Z Z (by kernel_rfl))) fun a76 S76 => y3w S76 5 (ba 6 9) Z Z Z Z (by kernel_rfl) (fun _ _ _ h => h) ⟨_, hC⟩ (fun w' g' Fz => (y0u (n := 1) S76 Z Z (by kernel_rfl) (RdS.cell (i := m1_1) (sz := 2) (j := 0) (RdS.fr hp1 Fz (by decide) (fun _ _ h => h)) hx64 Z))) fun a77 S77 => y1b S77 6 (ba 7 8) Z Z Z Z (by kernel_rfl) (fun _ _ _ h => h) (fun _ => (y1j (e := 52) (sz := 1) (by_ := 24) S77 Z Z Z (by kernel_rfl) (OwM.some_ h8 hx66) (y26 hx66) (y27 hx66))) fun a78 S78 => y3w S78 7 (ba 8 7) Z Z Z Z (by kernel_rfl) (fun _ _ _ h => h) ⟨_, hC⟩ (fun w' g' Fz => (y0u (n := 1) S78 Z Z (by kernel_rfl) (OwM.cell (OwM.fr h8 Fz (fun h => h) (fun h => h) (fun h => h)) hx66 hh68))) fun a79 S79 => y1b S79 8 (ba 9 6) Z Z Z Z (by kernel_rfl) (fun _ _ _ h => h) (fun _ => (y03 S79 Z Z)) fun a80 S80 => y1b S80 9 (ba 10 5) Z Z Z Z (by kernel_rfl) (fun _ _ _ h => h) (fun _ => (y03 S80 Z Z)) fun a81 S81 => y1b S81 10 (ba 11 4) Z Z Z Z (by kernel_rfl) (fun _ _ _ h => h) (fun _ => (y1j (e := 67) (sz := 2) (by_ := 16) S81 Z Z Z (by kernel_rfl) (RdS.some_ hp1 hx64) (y26 hx64) (y27 hx64))) fun a82 S82 => y1b S82 11 (ba 12 3) Z Z Z Z (by kernel_rfl) (fun _ _ _ h => h) (fun _ => (y2w (off := 1) S82 Z Z (by kernel_rfl))) fun a83 S83 => y3w S83 12 (ba 13 2) Z Z Z Z (by kernel_rfl) (fun _ _ _ h => h) ⟨_, hC⟩ (fun w' g' Fz => (y0u (n := 1) S83 Z Z (by kernel_rfl) (RdS.cell (i := m1_1) (sz := 2) (j := 1) (RdS.fr hp1 Fz (by decide) (fun _ _ h => h)) hx64 Z))) fun a84 S84 => y1b S84 13 (ba 14 1) Z Z Z Z (by kernel_rfl) (fun _ _ _ h => h) (fun _ => (y1j (e := 4) (sz := 1) (by_ := 1) S84 Z Z Z (by kernel_rfl) (RdS.some_ (OwD.rd (OwM.row h8 hx66 hh68)) hx70) (y26 hx70) (y27 hx70))) fun a85 S85 => ?_
      refine d_one 14 (ba 15 0) Z (by kernel_rfl) (arm_effS S85 Z Z (e_storeMM (n := 1) (bb := false) (k := y4p) (y' := true) (us := [.bool true]) (fun _ _ _ _ _ _ _ _ h => h) g56 S85 Z Z Z Z (by kernel_rfl) Z Z h8 hx66 hh68 hx70 (fun _ _ _ => rfl)) (.inl (by decide)) ?_)
      rintro a86 w87 g87 ⟨h8, F87⟩ S86
      replace hp1 := RdS.fr hp1 F87 (by decide) (fun q (hq : C1 q) (hm : q = N + 0 + 1) => by have := hC1 q hq; omega)
      replace hF := hF.trans F87 (fun c' (hm : c' = N + 0 + 1) => by (try dsimp only); omega)
      have hT : Sl 80 a86 [(0, i6 p0), (1, .slice A1 p1.length cap1), (5, .slice A5 m1_0.length cap6), (7, i6 m1_1)] := S86.re ⟨Z, Z, Z, Z, trivial⟩
      replace S86 : Sl 80 a86 [(0, i6 p0), (1, .slice A1 p1.length cap1), (5, .slice A5 (upd m1_0 x63.Consumer (upd x65 x63.Supplier true)).length cap6), (7, i6 m1_1)] := by simpa only [y1w] using hT
      clear hT
      refine y4v (by kernel_rfl) (hK _ _ ?_)
      replace hS : Sl 80 _ [(0, i6 p0), (1, .slice A1 p1.length cap1), (5, .slice A5 (upd m1_0 x63.Consumer (upd x65 x63.Supplier true)).length cap6), (7, i6 m1_1)] := S86.re ⟨Z, Z, Z, Z, trivial⟩
      clear hK K hC
      try clear S72 S73 S74 S75 S76 S77 S78 S79 S80 S81 S82 S83 S84 S85 S86
      generalize a86 = a at hS ⊢
      change Code.wp _ _ _ _ _
      refine y3e [(0, i6 p0), (1, .slice A1 p1.length cap1), (5, .slice A5 (upd m1_0 x63.Consumer (upd x65 x63.Supplier true)).length cap6), (7, i6 (wi (m1_1 + 1)))] (fun R hR => y00 hS Z Z Z (y03 hS Z Z) fun a88 S88 => y00 S88 Z Z Z (y2l S88 Z Z rfl y4z) fun a89 S89 => y00 S89 Z Z Z (y02 S89 Z Z) fun a90 S90 => wpList_nil (hR _ (S90.re ⟨Z, Z, Z, Z, trivial⟩))) ?_
      clear hS a; intro a hS
      refine ⟨k57, Nat.lt_succ_self _, ?_⟩
      exact ⟨(upd m1_0 x63.Consumer (upd x65 x63.Supplier true)), wi (m1_1 + 1), g87, H, hS.re ⟨Z, Z, Z, Z, trivial⟩, h8, hp1, hF⟩
     ·replace H := y3g hb62 H
      refine wp_exit ?_
      have e := Option.some.inj H
      subst e
      exact ⟨g56, hS.re ⟨Z, Z, trivial⟩, h8, hF⟩
  ·clear H
   clear hp1 h8 hF
   clear hS
   rintro a w51 ⟨g51, hS, h8, hF⟩
   have H := Hl54
   clear Hl54
   obtain ⟨v92, H, Hl94⟩ := y0b H
   refine y4u (fun a w91 => ∃ (g91 : Nat → Nat), Sl 80 a [(5, .slice A5 v92.length cap6)] ∧ OwM y4p 52 4 w91 g91 (N + 0) A5 cap6 hs14 v92 (fun _ => False) ∧ Fr (fun q => (r0 ≤ q ∧ q < r0 + 2) ∨ N ≤ q) w g w91 g91) ?_ ?_
   ·refine y16 [(0, i6 p0), (5, .slice A5 v52.length cap6), (8, i6 0)] (fun R hR => y00 hS Z Z Z (y02 hS Z Z) fun a95 S95 => wpList_nil (hR _ (S95.re ⟨Z, Z, Z, trivial⟩))) ?_
    clear hS a; intro a hS
    refine wp_block ?_
    refine wp_loop_ghost (fun kq => fun a w96 => ∃ (m2_0 : List (List Bool)), ∃ (m2_1 : Int), ∃ (g96 : Nat → Nat), y1g.l2 p0 kq m2_0 m2_1 = some v92 ∧ Sl 80 a [(0, i6 p0), (5, .slice A5 m2_0.length cap6), (8, i6 m2_1)] ∧ OwM y4p 52 4 w96 g96 (N + 0) A5 cap6 hs14 m2_0 (fun _ => False) ∧ Fr (fun q => (r0 ≤ q ∧ q < r0 + 2) ∨ N ≤ q) w g w96 g96) FUEL ?_ ?_
    ·exact ⟨v52, 0, g51, H, hS.re ⟨Z, Z, Z, trivial⟩, h8, hF⟩
    ·clear H
     clear h8 hF
     clear hS
     rintro k97 a w96 ⟨m2_0, m2_1, g96, hpre0, hS, h8, hF⟩
     have H := hpre0
     clear hpre0
     cases k97 with
     | zero => exact absurd H (by simp [y1g.l2])
     | succ k97 =>
      rw [y1g.l2] at H
      refine wp_seq ?_
      refine y16 [(0, i6 p0), (5, .slice A5 m2_0.length cap6), (8, i6 m2_1), (45, .bool (decide (m2_1 < p0)))] (fun R hR => y00 hS Z Z Z (y03 hS Z Z) fun a98 S98 => y00 S98 Z Z Z (y03 S98 Z Z) fun a99 S99 => y00 S99 Z Z Z (y2l S99 Z Z rfl y4t) fun a100 S100 => wpList_nil (hR _ (S100.re ⟨Z, Z, Z, Z, trivial⟩))) ?_
      clear hS a; intro a hS
      refine y2m hS Z (fun hb101 => ?_) (fun hb101 => ?_)
      ·replace H := y3f hb101 H
       refine wp_skip ?_
       change Code.wp _ _ _ _ _
       obtain ⟨v103, H, Hl105⟩ := y0b H
       refine y4u (fun a w102 => ∃ (g102 : Nat → Nat), Sl 80 a [(0, i6 p0), (5, .slice A5 v103.length cap6), (8, i6 m2_1)] ∧ OwM y4p 52 4 w102 g102 (N + 0) A5 cap6 hs14 v103 (fun _ => False) ∧ Fr (fun q => (r0 ≤ q ∧ q < r0 + 2) ∨ N ≤ q) w g w102 g102) ?_ ?_
       ·refine wp_block ?_
        refine y16 [(0, i6 p0), (5, .slice A5 m2_0.length cap6), (8, i6 m2_1), (9, i6 0)] (fun R hR => y00 hS Z Z Z (y02 hS Z Z) fun a106 S106 => wpList_nil (hR _ (S106.re ⟨Z, Z, Z, Z, trivial⟩))) ?_
        clear hS a; intro a hS
        refine wp_block ?_
        refine wp_loop_ghost (fun kq => fun a w107 => ∃ (m3_0 : List (List Bool)), ∃ (m3_1 : Int), ∃ (g107 : Nat → Nat), y1g.l3 p0 m2_1 kq m3_0 m3_1 = some v103 ∧ Sl 80 a [(0, i6 p0), (5, .slice A5 m3_0.length cap6), (8, i6 m2_1), (9, i6 m3_1)] ∧ OwM y4p 52 4 w107 g107 (N + 0) A5 cap6 hs14 m3_0 (fun _ => False) ∧ Fr (fun q => (r0 ≤ q ∧ q < r0 + 2) ∨ N ≤ q) w g w107 g107) FUEL ?_ ?_
        ·exact ⟨m2_0, 0, g96, H, hS.re ⟨Z, Z, Z, Z, trivial⟩, h8, hF⟩
        ·clear H
         clear h8 hF
         clear hS
         rintro k108 a w107 ⟨m3_0, m3_1, g107, hpre0, hS, h8, hF⟩
         have H := hpre0
         clear hpre0
         cases k108 with
         | zero => exact absurd H (by simp [y1g.l3])
         | succ k108 =>
          rw [y1g.l3] at H
          refine wp_seq ?_
          refine y16 [(0, i6 p0), (5, .slice A5 m3_0.length cap6), (8, i6 m2_1), (9, i6 m3_1), (50, .bool (decide (m3_1 < p0)))] (fun R hR => y00 hS Z Z Z (y03 hS Z Z) fun a109 S109 => y00 S109 Z Z Z (y03 S109 Z Z) fun a110 S110 => y00 S110 Z Z Z (y2l S110 Z Z rfl y4t) fun a111 S111 => wpList_nil (hR _ (S111.re ⟨Z, Z, Z, Z, Z, trivial⟩))) ?_
          clear hS a; intro a hS
          refine y2m hS Z (fun hb112 => ?_) (fun hb112 => ?_)
          ·replace H := y3f hb112 H
           refine wp_skip ?_
           change Code.wp _ _ _ _ _
           obtain ⟨v114, H, Hl116⟩ := y0b H
           refine y4u (fun a w113 => ∃ (g113 : Nat → Nat), Sl 80 a [(0, i6 p0), (5, .slice A5 v114.length cap6), (8, i6 m2_1), (9, i6 m3_1)] ∧ OwM y4p 52 4 w113 g113 (N + 0) A5 cap6 hs14 v114 (fun _ => False) ∧ Fr (fun q => (r0 ≤ q ∧ q < r0 + 2) ∨ N ≤ q) w g w113 g113) ?_ ?_
           ·refine wp_block ?_
            refine wp_seq ?_
            obtain ⟨x119, hx120, H⟩ := y0b H
            obtain ⟨x126, hx127, H⟩ := y0b H
            refine y0t (fun K hK => ?_)
            refine y00 hS Z Z Z (y03 hS Z Z) fun a117 S117 => y00 S117 Z Z Z (y03 S117 Z Z) fun a118 S118 => ?_
            obtain ⟨h121, hh122⟩ := OwM.hd h8 hx120
            refine y00 S118 Z Z Z (y1j (e := 52) (sz := 1) (by_ := 24) S118 Z Z Z (by kernel_rfl) (OwM.some_ h8 hx120) (y26 hx120) (y27 hx120)) fun a123 S123 => y00 S123 Z Z Z (y0u (n := 1) S123 Z Z (by kernel_rfl) (OwM.cell h8 hx120 hh122)) fun a124 S124 => y00 S124 Z Z Z (y03 S124 Z Z) fun a125 S125 => y00 S125 Z Z Z (y1j (e := 4) (sz := 1) (by_ := 1) S125 Z Z Z (by kernel_rfl) (RdS.some_ (OwD.rd (OwM.row h8 hx120 hh122)) hx127) (y26 hx127) (y27 hx127)) fun a128 S128 => y00 S128 Z Z Z (y0u (n := 1) S128 Z Z (by kernel_rfl) (RdS.cell (i := m2_1) (sz := 1) (j := 0) (OwD.rd (OwM.row h8 hx120 hh122)) hx127 Z)) fun a129 S129 => y00 S129 Z Z Z (r_not S129 Z Z) fun a130 S130 => wpList_nil (hK _ _ ?_)
            replace hS : Sl 80 _ [(0, i6 p0), (5, .slice A5 m3_0.length cap6), (8, i6 m2_1), (9, i6 m3_1), (60, .bool (!x126))] := S130.re ⟨Z, Z, Z, Z, Z, trivial⟩
            clear hK K
            try clear S117 S118 S123 S124 S125 S128 S129 S130
            generalize a130 = a at hS ⊢
            refine y2m hS Z (fun hb131 => ?_) (fun hb131 => ?_)
            ·replace H := y3f hb131 H
             refine wp_exit ?_
             have e := Option.some.inj H
             subst e
             exact ⟨g107, hS.re ⟨Z, Z, Z, Z, trivial⟩, h8, hF⟩
            ·replace H := y3g hb131 H
             refine wp_skip ?_
             change Code.wp _ _ _ _ _
             refine y16 [(0, i6 p0), (5, .slice A5 m3_0.length cap6), (8, i6 m2_1), (9, i6 m3_1), (10, i6 0)] (fun R hR => y00 hS Z Z Z (y02 hS Z Z) fun a132 S132 => wpList_nil (hR _ (S132.re ⟨Z, Z, Z, Z, Z, trivial⟩))) ?_
             clear hS a; intro a hS
             refine wp_block ?_
             refine wp_loop_ghost (fun kq => fun a w133 => ∃ (m4_0 : List (List Bool)), ∃ (m4_1 : Int), ∃ (g133 : Nat → Nat), y1g.l4 p0 m2_1 m3_1 kq m4_0 m4_1 = some v114 ∧ Sl 80 a [(0, i6 p0), (5, .slice A5 m4_0.length cap6), (8, i6 m2_1), (9, i6 m3_1), (10, i6 m4_1)] ∧ OwM y4p 52 4 w133 g133 (N + 0) A5 cap6 hs14 m4_0 (fun _ => False) ∧ Fr (fun q => (r0 ≤ q ∧ q < r0 + 2) ∨ N ≤ q) w g w133 g133) FUEL ?_ ?_
             ·exact ⟨m3_0, 0, g107, H, hS.re ⟨Z, Z, Z, Z, Z, trivial⟩, h8, hF⟩
             ·clear H
              clear h8 hF
              clear hS
              rintro k134 a w133 ⟨m4_0, m4_1, g133, hpre0, hS, h8, hF⟩
              have H := hpre0
              clear hpre0
              cases k134 with
              | zero => exact absurd H (by simp [y1g.l4])
              | succ k134 =>
               rw [y1g.l4] at H
               refine wp_seq ?_
               refine y16 [(0, i6 p0), (5, .slice A5 m4_0.length cap6), (8, i6 m2_1), (9, i6 m3_1), (10, i6 m4_1), (63, .bool (decide (m4_1 < p0)))] (fun R hR => y00 hS Z Z Z (y03 hS Z Z) fun a135 S135 => y00 S135 Z Z Z (y03 S135 Z Z) fun a136 S136 => y00 S136 Z Z Z (y2l S136 Z Z rfl y4t) fun a137 S137 => wpList_nil (hR _ (S137.re ⟨Z, Z, Z, Z, Z, Z, trivial⟩))) ?_
               clear hS a; intro a hS
               refine y2m hS Z (fun hb138 => ?_) (fun hb138 => ?_)
               ·replace H := y3f hb138 H
                refine wp_skip ?_
                change Code.wp _ _ _ _ _
                obtain ⟨v140, H, Hl142⟩ := y0b H
                refine y4u (fun a w139 => ∃ (g139 : Nat → Nat), Sl 80 a [(0, i6 p0), (5, .slice A5 v140.length cap6), (8, i6 m2_1), (9, i6 m3_1), (10, i6 m4_1)] ∧ OwM y4p 52 4 w139 g139 (N + 0) A5 cap6 hs14 v140 (fun _ => False) ∧ Fr (fun q => (r0 ≤ q ∧ q < r0 + 2) ∨ N ≤ q) w g w139 g139) ?_ ?_
                ·refine wp_block ?_
                 obtain ⟨x145, hx146, H⟩ := y0b H
                 obtain ⟨x152, hx153, H⟩ := y0b H
                 refine y0t (fun K hK => ?_)
                 refine y00 hS Z Z Z (y03 hS Z Z) fun a143 S143 => y00 S143 Z Z Z (y03 S143 Z Z) fun a144 S144 => ?_
                 obtain ⟨h147, hh148⟩ := OwM.hd h8 hx146
                 refine y00 S144 Z Z Z (y1j (e := 52) (sz := 1) (by_ := 24) S144 Z Z Z (by kernel_rfl) (OwM.some_ h8 hx146) (y26 hx146) (y27 hx146)) fun a149 S149 => y00 S149 Z Z Z (y0u (n := 1) S149 Z Z (by kernel_rfl) (OwM.cell h8 hx146 hh148)) fun a150 S150 => y00 S150 Z Z Z (y03 S150 Z Z) fun a151 S151 => y00 S151 Z Z Z (y1j (e := 4) (sz := 1) (by_ := 1) S151 Z Z Z (by kernel_rfl) (RdS.some_ (OwD.rd (OwM.row h8 hx146 hh148)) hx153) (y26 hx153) (y27 hx153)) fun a154 S154 => y00 S154 Z Z Z (y0u (n := 1) S154 Z Z (by kernel_rfl) (RdS.cell (i := m4_1) (sz := 1) (j := 0) (OwD.rd (OwM.row h8 hx146 hh148)) hx153 Z)) fun a155 S155 => wpList_nil (hK _ _ ?_)
                 replace hS : Sl 80 _ [(0, i6 p0), (5, .slice A5 m4_0.length cap6), (8, i6 m2_1), (9, i6 m3_1), (10, i6 m4_1), (72, .bool x152)] := S155.re ⟨Z, Z, Z, Z, Z, Z, trivial⟩
                 clear hK K
                 try clear S143 S144 S149 S150 S151 S154 S155
                 generalize a155 = a at hS ⊢
                 refine y2m hS Z (fun hb156 => ?_) (fun hb156 => ?_)
                 ·replace H := y3f hb156 H
                  obtain ⟨x159, hx160, H⟩ := y0b H
                  obtain ⟨x166, hx167, H⟩ := y0b H
                  refine y3l (fun K hK => ?_)
                  refine y00 hS Z Z Z (y03 hS Z Z) fun a157 S157 => y00 S157 Z Z Z (y03 S157 Z Z) fun a158 S158 => ?_
                  obtain ⟨h161, hh162⟩ := OwM.hd h8 hx160
                  refine y00 S158 Z Z Z (y1j (e := 52) (sz := 1) (by_ := 24) S158 Z Z Z (by kernel_rfl) (OwM.some_ h8 hx160) (y26 hx160) (y27 hx160)) fun a163 S163 => y00 S163 Z Z Z (y0u (n := 1) S163 Z Z (by kernel_rfl) (OwM.cell h8 hx160 hh162)) fun a164 S164 => y00 S164 Z Z Z (y03 S164 Z Z) fun a165 S165 => y00 S165 Z Z Z (y1j (e := 4) (sz := 1) (by_ := 1) S165 Z Z Z (by kernel_rfl) (RdS.some_ (OwD.rd (OwM.row h8 hx160 hh162)) hx167) (y26 hx167) (y27 hx167)) fun a168 S168 => ?_
                  refine y3s S168 Z Z (e_storeMM (n := 1) (bb := false) (k := y4p) (y' := true) (us := [.bool true]) (fun _ _ _ _ _ _ _ _ h => h) g133 S168 Z Z Z Z (by kernel_rfl) Z Z h8 hx160 hh162 hx167 (fun _ _ _ => rfl)) ?_
                  rintro a169 w170 g170 ⟨h8, F170⟩ S169
                  replace hF := hF.trans F170 (fun c' (hm : c' = N + 0 + 1) => by (try dsimp only); omega)
                  have hT : Sl 80 a169 [(0, i6 p0), (5, .slice A5 m4_0.length cap6), (8, i6 m2_1), (9, i6 m3_1), (10, i6 m4_1)] := S169.re ⟨Z, Z, Z, Z, Z, trivial⟩
                  replace S169 : Sl 80 a169 [(0, i6 p0), (5, .slice A5 (upd m4_0 m3_1 (upd x159 m4_1 true)).length cap6), (8, i6 m2_1), (9, i6 m3_1), (10, i6 m4_1)] := by simpa only [y1w] using hT
                  clear hT
                  refine wpList_nil (hK _ _ ?_)
                  replace hS : Sl 80 _ [(0, i6 p0), (5, .slice A5 (upd m4_0 m3_1 (upd x159 m4_1 true)).length cap6), (8, i6 m2_1), (9, i6 m3_1), (10, i6 m4_1)] := S169.re ⟨Z, Z, Z, Z, Z, trivial⟩
                  clear hK K
                  try clear S157 S158 S163 S164 S165 S168 S169
                  generalize a169 = a at hS ⊢
                  have e := Option.some.inj H
                  subst e
                  exact ⟨g170, hS.re ⟨Z, Z, Z, Z, Z, trivial⟩, h8, hF⟩
                 ·replace H := y3g hb156 H
                  refine wp_skip ?_
                  have e := Option.some.inj H
                  subst e
                  exact ⟨g133, hS.re ⟨Z, Z, Z, Z, Z, trivial⟩, h8, hF⟩
                ·clear H
                 clear h8 hF
                 clear hS
                 rintro a w139 ⟨g139, hS, h8, hF⟩
                 have H := Hl142
                 clear Hl142
                 refine y3e [(0, i6 p0), (5, .slice A5 v140.length cap6), (8, i6 m2_1), (9, i6 m3_1), (10, i6 (wi (m4_1 + 1)))] (fun R hR => y00 hS Z Z Z (y03 hS Z Z) fun a171 S171 => y00 S171 Z Z Z (y2l S171 Z Z rfl y4z) fun a172 S172 => y00 S172 Z Z Z (y02 S172 Z Z) fun a173 S173 => wpList_nil (hR _ (S173.re ⟨Z, Z, Z, Z, Z, trivial⟩))) ?_
                 clear hS a; intro a hS
                 refine ⟨k134, Nat.lt_succ_self _, ?_⟩
                 exact ⟨v140, wi (m4_1 + 1), g139, H, hS.re ⟨Z, Z, Z, Z, Z, trivial⟩, h8, hF⟩
               ·replace H := y3g hb138 H
                refine wp_exit ?_
                have e := Option.some.inj H
                subst e
                exact ⟨g133, hS.re ⟨Z, Z, Z, Z, trivial⟩, h8, hF⟩
           ·clear H
            clear h8 hF
            clear hS
            rintro a w113 ⟨g113, hS, h8, hF⟩
            have H := Hl116
            clear Hl116
            refine y3e [(0, i6 p0), (5, .slice A5 v114.length cap6), (8, i6 m2_1), (9, i6 (wi (m3_1 + 1)))] (fun R hR => y00 hS Z Z Z (y03 hS Z Z) fun a174 S174 => y00 S174 Z Z Z (y2l S174 Z Z rfl y4z) fun a175 S175 => y00 S175 Z Z Z (y02 S175 Z Z) fun a176 S176 => wpList_nil (hR _ (S176.re ⟨Z, Z, Z, Z, trivial⟩))) ?_
            clear hS a; intro a hS
            refine ⟨k108, Nat.lt_succ_self _, ?_⟩
            exact ⟨v114, wi (m3_1 + 1), g113, H, hS.re ⟨Z, Z, Z, Z, trivial⟩, h8, hF⟩
          ·replace H := y3g hb112 H
           refine wp_exit ?_
           have e := Option.some.inj H
           subst e
           exact ⟨g107, hS.re ⟨Z, Z, Z, trivial⟩, h8, hF⟩
       ·clear H
        clear h8 hF
        clear hS
        rintro a w102 ⟨g102, hS, h8, hF⟩
        have H := Hl105
        clear Hl105
        refine y3e [(0, i6 p0), (5, .slice A5 v103.length cap6), (8, i6 (wi (m2_1 + 1)))] (fun R hR => y00 hS Z Z Z (y03 hS Z Z) fun a177 S177 => y00 S177 Z Z Z (y2l S177 Z Z rfl y4z) fun a178 S178 => y00 S178 Z Z Z (y02 S178 Z Z) fun a179 S179 => wpList_nil (hR _ (S179.re ⟨Z, Z, Z, trivial⟩))) ?_
        clear hS a; intro a hS
        refine ⟨k97, Nat.lt_succ_self _, ?_⟩
        exact ⟨v103, wi (m2_1 + 1), g102, H, hS.re ⟨Z, Z, Z, trivial⟩, h8, hF⟩
      ·replace H := y3g hb101 H
       refine wp_exit ?_
       have e := Option.some.inj H
       subst e
       exact ⟨g96, hS.re ⟨Z, trivial⟩, h8, hF⟩
   ·clear H
    clear h8 hF
    clear hS
    rintro a w91 ⟨g91, hS, h8, hF⟩
    have H := Hl94
    clear Hl94
    refine y16 [(4, .slice A5 v92.length cap6)] (fun R hR => y00 hS Z Z Z (y03 hS Z Z) fun a180 S180 => y00 S180 Z Z Z (y02 S180 Z Z) fun a181 S181 => wpList_nil (hR _ (S181.re ⟨Z, trivial⟩))) ?_
    clear hS a; intro a hS
    refine wp_ret ?_
    have e := Option.some.inj H
    subst e
    have h182 := OwM.toS (fun _ _ _ _ _ _ _ _ h => h) (by decide) h8
    have F183 := Fr.y2f w91 g91 (N + 0) r0
    replace h182 := h182.y2f r0
    replace hF := hF.trans F183 (fun c' (hm : c' = N + 0 ∨ c' = N + 0 + 1) => by (try dsimp only); omega)
    repeat (with_reducible first | refine y1i ?_ | refine y0o ?_)
    exact y3v hS Try.results72 rfl ⟨_, rfl, (y2f g91 (N + 0) r0), A5, cap6, rfl, h182, hF⟩


end Go.Proofs.Ytcfcffbjdjacfaa.Sim

namespace Go.Proofs.Ytcfcffbjdjacfaa.Sim
open Go
set_option linter.unusedVariables false
set_option linter.unusedSimpArgs false

/-! ### y3i: function 46 -/
def y3i.l0 (p0 : Int) (r16 : (List (List Bool))) : Nat → Int → Option (Fl (Int) (Unit))
 | 0, _ => none
 | k29 + 1, m0_0 => if decide (m0_0 < p0) = true then ((idx r16 m0_0).bind fun x36 => (idx x36 m0_0).bind fun x47 => if x47 = true then (some (.out 18)) else (y3i.l0 p0 r16 k29 (wi (m0_0 + 1)))) else (some (.nxt ()))
def y3i.f (p0 : Int) (p1 : List y0g) : Option (Int) := (y2p.f p0 p1).bind fun r4 => if (r4 != 0) = true then (some r4) else ((y1g.f p0 p1).bind fun r16 => (y3i.l0 p0 r16 FUEL 0 : Option (Fl (Int) (Unit))).bind fun o26 => o26.go fun _ => some 0)
set_option maxRecDepth 100000 in
set_option maxHeartbeats 4000000 in
theorem y3i.calls {p0 : Int} {p1 : List y0g} {A1 : Option Addr} {cap1 : Nat} {C1 : Nat → Prop} {w : World} {g : Nat → Nat} {out : Int} (N : Nat) (hp1 : RdS y0r w g C1 A1 cap1 p1) (hC1 : ∀ c, C1 c → c < N) (H : y3i.f p0 p1 = some out) :
  Calls Try.prog 46 #[i6 p0, .slice A1 p1.length cap1] w (fun e w' => ∃ v, e = .returned v ∧ ∃ (g' : Nat → Nat), v = i6 out ∧ Fr (fun q => N ≤ q) w g w' g') := by
 unfold y3i.f at H
 refine y1k Try.func46 rfl Try.ntmps46 Z (fun a hS => ?_)
 replace hS : Sl 29 a [(0, i6 p0), (1, .slice A1 p1.length cap1)] := hS
 have hF : Fr (fun q => N ≤ q) w g w g := Fr.refl _ _ _
 refine y16 [(0, i6 p0), (1, .slice A1 p1.length cap1)] (fun R hR => y00 hS Z Z Z (y02 hS Z Z) fun a1 S1 => wpList_nil (hR _ (S1.re ⟨Z, Z, trivial⟩))) ?_
 clear hS a; intro a hS
 refine wp_seq ?_
 obtain ⟨r4, hr5, H⟩ := y0b H
 refine y0t (fun K hK => ?_)
 refine y00 hS Z Z Z (y03 hS Z Z) fun a2 S2 => y00 S2 Z Z Z (y03 S2 Z Z) fun a3 S3 => ?_
 refine y1y S3 Z Z Z (y2z S3 Z Z (by kernel_rfl)) (y2p.calls (C1 := C1) (p0 := p0) (p1 := p1) (g := g) (N + 2)  hp1 (fun q (hq : C1 q) => by have := hC1 q hq; omega) hr5) ?_
 rintro _ a6 w7 ⟨g7, rfl, F7⟩ S6
 replace hp1 := RdS.fr hp1 F7 (by decide) (fun q (hq : C1 q) (hm : N + 2 ≤ q) => by have := hC1 q hq; omega)
 replace hF := hF.trans F7 (fun c' (hm : N + 2 ≤ c') => by (try dsimp only); omega)
 refine y00 S6 Z Z Z (y02 S6 Z Z) fun a8 S8 => wpList_nil (hK _ _ ?_)
 replace hS : Sl 29 _ [(0, i6 p0), (1, .slice A1 p1.length cap1), (5, i6 r4)] := S8.re ⟨Z, Z, Z, trivial⟩
 clear hK K
 try clear S2 S3 S6 S8
 generalize a8 = a at hS ⊢
 refine y16 [(0, i6 p0), (1, .slice A1 p1.length cap1), (5, i6 r4), (12, .bool (r4 != 0))] (fun R hR => y00 hS Z Z Z (y03 hS Z Z) fun a9 S9 => y00 S9 Z Z Z (y2l S9 Z Z rfl b_neq) fun a10 S10 => wpList_nil (hR _ (S10.re ⟨Z, Z, Z, Z, trivial⟩))) ?_
 clear hS a; intro a hS
 refine y2m hS Z (fun hb11 => ?_) (fun hb11 => ?_)
 ·replace H := y3f hb11 H
  refine y16 [(4, i6 r4)] (fun R hR => y00 hS Z Z Z (y03 hS Z Z) fun a12 S12 => y00 S12 Z Z Z (y02 S12 Z Z) fun a13 S13 => wpList_nil (hR _ (S13.re ⟨Z, trivial⟩))) ?_
  clear hS a; intro a hS
  refine wp_ret ?_
  have e := Option.some.inj H
  subst e
  repeat (with_reducible first | refine y1i ?_ | refine y0o ?_)
  exact y3v hS Try.results46 rfl ⟨_, rfl, g7, rfl, hF⟩
 ·replace H := y3g hb11 H
  refine wp_skip ?_
  change Code.wp _ _ _ _ _
  obtain ⟨r16, hr17, H⟩ := y0b H
  refine y0t (fun K hK => ?_)
  refine y00 hS Z Z Z (y03 hS Z Z) fun a14 S14 => y00 S14 Z Z Z (y03 S14 Z Z) fun a15 S15 => ?_
  refine y1y S15 Z Z Z (y2z S15 Z Z (by kernel_rfl)) (y1g.calls (C1 := C1) (p0 := p0) (p1 := p1) (g := g7) (N + 2) (N + 0) hp1 (fun q (hq : C1 q) => by have := hC1 q hq; omega) (by omega) hr17) ?_
  rintro _ a22 w23 ⟨g23, A18, cap19, rfl, h20, F23⟩ S22
  replace hp1 := RdS.fr hp1 F23 (by decide) (fun q (hq : C1 q) (hm : (N + 0 ≤ q ∧ q < N + 0 + 2) ∨ N + 2 ≤ q) => by have := hC1 q hq; omega)
  replace hF := hF.trans F23 (fun c' (hm : (N + 0 ≤ c' ∧ c' < N + 0 + 2) ∨ N + 2 ≤ c') => by (try dsimp only); omega)
  refine y00 S22 Z Z Z (y02 S22 Z Z) fun a24 S24 => wpList_nil (hK _ _ ?_)
  replace hS : Sl 29 _ [(0, i6 p0), (6, .slice A18 r16.length cap19)] := S24.re ⟨Z, Z, trivial⟩
  clear hK K
  try clear S14 S15 S22 S24
  generalize a24 = a at hS ⊢
  obtain ⟨o26, H, Hl27⟩ := y0b H
  refine y4u (fun a w' => o26 = .nxt () ∧ w23 = w' ∧ Sl 29 a []) ?_ ?_
  ·refine y16 [(0, i6 p0), (6, .slice A18 r16.length cap19), (7, i6 0)] (fun R hR => y00 hS Z Z Z (y02 hS Z Z) fun a28 S28 => wpList_nil (hR _ (S28.re ⟨Z, Z, Z, trivial⟩))) ?_
   clear hS a; intro a hS
   refine wp_block ?_
   refine wp_loop_ghost (fun kq => fun a w' => ∃ (m0_0 : Int), y3i.l0 p0 r16 kq m0_0 = some o26 ∧ w23 = w' ∧ Sl 29 a [(0, i6 p0), (6, .slice A18 r16.length cap19), (7, i6 m0_0)]) FUEL ?_ ?_
   ·exact ⟨0, H, rfl, hS.re ⟨Z, Z, Z, trivial⟩⟩
   ·clear H
    clear hS
    rintro k29 a w' ⟨m0_0, hpre0, hw, hS⟩
    subst hw
    have H := hpre0
    clear hpre0
    cases k29 with
    | zero => exact absurd H (by simp [y3i.l0])
    | succ k29 =>
     rw [y3i.l0] at H
     refine wp_seq ?_
     refine y16 [(0, i6 p0), (6, .slice A18 r16.length cap19), (7, i6 m0_0), (19, .bool (decide (m0_0 < p0)))] (fun R hR => y00 hS Z Z Z (y03 hS Z Z) fun a30 S30 => y00 S30 Z Z Z (y03 S30 Z Z) fun a31 S31 => y00 S31 Z Z Z (y2l S31 Z Z rfl y4t) fun a32 S32 => wpList_nil (hR _ (S32.re ⟨Z, Z, Z, Z, trivial⟩))) ?_
     clear hS a; intro a hS
     refine y2m hS Z (fun hb33 => ?_) (fun hb33 => ?_)
     ·replace H := y3f hb33 H
      refine wp_skip ?_
      change Code.wp _ _ _ _ _
      refine wp_seq ?_
      refine wp_block ?_
      obtain ⟨x36, hx37, H⟩ := y0b H
      obtain ⟨x47, hx48, H⟩ := y0b H
      refine y0t (fun K hK => ?_)
      refine y00 hS Z Z Z (y03 hS Z Z) fun a34 S34 => y00 S34 Z Z Z (y03 S34 Z Z) fun a35 S35 => ?_
      obtain ⟨_, ⟨A39, cap40, rfl, h41⟩, hel38⟩ := El.of (OwD.rdx h20) hx37 (by decide)
      replace hel38 : El w23 g23 (fun q => q = N + 0) A18 (m0_0.toNat * 1) [.slice A39 x36.length cap40] := hel38
      refine y00 S35 Z Z Z (y1j (e := 52) (sz := 1) (by_ := 24) S35 Z Z Z (by kernel_rfl) (RdS.some_ (OwS.rd h20) hx37) (y26 hx37) (y27 hx37)) fun a44 S44 => y00 S44 Z Z Z (y0u (n := 1) S44 Z Z (by kernel_rfl) (El.cell (j := 0) hel38 Z)) fun a45 S45 => y00 S45 Z Z Z (y03 S45 Z Z) fun a46 S46 => y00 S46 Z Z Z (y1j (e := 4) (sz := 1) (by_ := 1) S46 Z Z Z (by kernel_rfl) (RdS.some_ h41 hx48) (y26 hx48) (y27 hx48)) fun a49 S49 => y00 S49 Z Z Z (y0u (n := 1) S49 Z Z (by kernel_rfl) (RdS.cell (i := m0_0) (sz := 1) (j := 0) h41 hx48 Z)) fun a50 S50 => wpList_nil (hK _ _ ?_)
      replace hS : Sl 29 _ [(0, i6 p0), (6, .slice A18 r16.length cap19), (7, i6 m0_0), (28, .bool x47)] := S50.re ⟨Z, Z, Z, Z, trivial⟩
      clear hK K
      try clear S34 S35 S44 S45 S46 S49 S50
      generalize a50 = a at hS ⊢
      refine y2m hS Z (fun hb51 => ?_) (fun hb51 => ?_)
      ·replace H := y3f hb51 H
       refine y16 [(4, i6 18)] (fun R hR => y00 hS Z Z Z (y02 hS Z Z) fun a52 S52 => wpList_nil (hR _ (S52.re ⟨Z, trivial⟩))) ?_
       clear hS a; intro a hS
       refine wp_ret ?_
       have e := Option.some.inj H
       subst e
       replace H := Fl.go_out Hl27
       have e := Option.some.inj H
       subst e
       repeat (with_reducible first | refine y1i ?_ | refine y0o ?_)
       exact y3v hS Try.results46 rfl ⟨_, rfl, g23, rfl, hF⟩
      ·replace H := y3g hb51 H
       refine wp_skip ?_
       change Code.wp _ _ _ _ _
       refine y3e [(0, i6 p0), (6, .slice A18 r16.length cap19), (7, i6 (wi (m0_0 + 1)))] (fun R hR => y00 hS Z Z Z (y03 hS Z Z) fun a53 S53 => y00 S53 Z Z Z (y2l S53 Z Z rfl y4z) fun a54 S54 => y00 S54 Z Z Z (y02 S54 Z Z) fun a55 S55 => wpList_nil (hR _ (S55.re ⟨Z, Z, Z, trivial⟩))) ?_
       clear hS a; intro a hS
       refine ⟨k29, Nat.lt_succ_self _, ?_⟩
       exact ⟨wi (m0_0 + 1), H, rfl, hS.re ⟨Z, Z, Z, trivial⟩⟩
     ·replace H := y3g hb33 H
      refine wp_exit ?_
      have e := Option.some.inj H
      exact ⟨e.symm, rfl, hS.re trivial⟩
  ·clear H
   clear hS
   rintro a w' ⟨hpre0, hw, hS⟩
   subst hpre0
   subst hw
   have H := Fl.go_nxt Hl27
   clear Hl27
   refine y16 [(4, i6 0)] (fun R hR => y00 hS Z Z Z (y02 hS Z Z) fun a56 S56 => wpList_nil (hR _ (S56.re ⟨Z, trivial⟩))) ?_
   clear hS a; intro a hS
   refine wp_ret ?_
   have e := Option.some.inj H
   subst e
   repeat (with_reducible first | refine y1i ?_ | refine y0o ?_)
   exact y3v hS Try.results46 rfl ⟨_, rfl, g23, rfl, hF⟩


end Go.Proofs.Ytcfcffbjdjacfaa.Sim

namespace Go.Proofs.Ytcfcffbjdjacfaa.Sim
open Go
set_option linter.unusedVariables false
set_option linter.unusedSimpArgs false

/-! ### y2c: function 95 -/
def y2c.l2 (p1 : List y0g) (m0_1 : List Bool) (m1_1 : Int) : Nat → Bool → Int → Option (Bool)
 | 0, _, _ => none
 | k52 + 1, m2_0, m2_1 => if ((decide (m2_1 < (p1.length : Int))) && m2_0) = true then (((idx p1 m2_1).bind fun x71 => (if (x71.Consumer == m1_1) = true then (idx m0_1 x71.Supplier).bind fun x86 => some (!x86) else some false).bind fun t91 => if t91 = true then (some false) else (some m2_0) : Option (Bool)).bind fun v66 => y2c.l2 p1 m0_1 m1_1 k52 v66 (wi (m2_1 + 1))) else (some m2_0)
def y2c.l1 (p1 : List y0g) (m0_1 : List Bool) : Nat → Int → Int → Option (Int)
 | 0, _, _ => none
 | k33 + 1, m1_0, m1_1 => if decide (0 ≤ m1_1) = true then (((idx m0_1 m1_1).bind fun x42 => (y2c.l2 p1 m0_1 m1_1 FUEL (!x42) 0 : Option (Bool)).bind fun v48 => if v48 = true then (some m1_1) else (some m1_0) : Option (Int)).bind fun v37 => y2c.l1 p1 m0_1 k33 v37 (wi (m1_1 - 1))) else (some m1_0)
def y2c.l0 (p0 : Int) (p1 : List y0g) : Nat → (List Int) → (List Bool) → Option ((List Int) × (List Bool))
 | 0, _, _ => none
 | k18 + 1, m0_0, m0_1 => ((y2c.l1 p1 m0_1 FUEL (-1) (wi (p0 - 1)) : Option (Int)).bind fun v27 => if decide (v27 < 0) = true then (some (.out (m0_0, m0_1))) else ((idx m0_1 v27).bind fun x141 => (app m0_0 [v27]).bind fun y153 => some (.nxt (y153, (upd m0_1 v27 true)))) : Option (Fl ((List Int) × (List Bool)) ((List Int) × (List Bool)))).bind fun o24 => o24.go fun v23 => y2c.l0 p0 p1 k18 v23.1 v23.2
def y2c.f (p0 : Int) (p1 : List y0g) : Option ((List Int) × (List Bool)) := (mk p0 false).bind fun y5 => y2c.l0 p0 p1 FUEL [] y5
set_option maxRecDepth 100000 in
set_option maxHeartbeats 4000000 in
theorem y2c.calls {p0 : Int} {p1 : List y0g} {A1 : Option Addr} {cap1 : Nat} {C1 : Nat → Prop} {w : World} {g : Nat → Nat} {out : (List Int) × (List Bool)} (N : Nat) (r0 : Nat) (r1 : Nat) (hp1 : RdS y0r w g C1 A1 cap1 p1) (hC1 : ∀ c, C1 c → c < N) (hr0 : r0 + 2 ≤ N) (hr1 : r1 + 2 ≤ N) (ht1_0 : r1 + 2 ≤ r0 ∨ r0 + 2 ≤ r1) (H : y2c.f p0 p1 = some out) :
  Calls Try.prog 95 #[i6 p0, .slice A1 p1.length cap1] w (fun e w' => ∃ v, e = .returned v ∧ ∃ (g' : Nat → Nat) (A_r0 : Option Addr) (cap_r0 : Nat) (A_r1 : Option Addr) (cap_r1 : Nat), v = .tuple #[.slice A_r0 out.1.length cap_r0, .slice A_r1 out.2.length cap_r1] ∧ OwS (kint .i64) 3 w' g' r0 A_r0 cap_r0 out.1 ∧ OwS y4p 4 w' g' r1 A_r1 cap_r1 out.2 ∧ Fr (fun q => (r0 ≤ q ∧ q < r0 + 2) ∨ (r1 ≤ q ∧ q < r1 + 2) ∨ N ≤ q) w g w' g') := by
 unfold y2c.f at H
 refine y1k Try.func95 rfl Try.ntmps95 Z (fun a hS => ?_)
 replace hS : Sl 65 a [(0, i6 p0), (1, .slice A1 p1.length cap1)] := hS
 have hF : Fr (fun q => (r0 ≤ q ∧ q < r0 + 2) ∨ (r1 ≤ q ∧ q < r1 + 2) ∨ N ≤ q) w g w g := Fr.refl _ _ _
 refine y16 [(0, i6 p0), (1, .slice A1 p1.length cap1)] (fun R hR => y00 hS Z Z Z (y02 hS Z Z) fun a1 S1 => y00 S1 Z Z Z (y02 S1 Z Z) fun a2 S2 => wpList_nil (hR _ (S2.re ⟨Z, Z, trivial⟩))) ?_
 clear hS a; intro a hS
 refine y16 [(0, i6 p0), (1, .slice A1 p1.length cap1), (6, .slice none 0 0)] (fun R hR => y00 hS Z Z Z (y02 hS Z Z) fun a3 S3 => wpList_nil (hR _ (S3.re ⟨Z, Z, Z, trivial⟩))) ?_
 clear hS a; intro a hS
 obtain ⟨y5, hy6, H⟩ := y0b H
 refine y0t (fun K hK => ?_)
 refine y00 hS Z Z Z (y03 hS Z Z) fun a4 S4 => ?_
 refine y41 S4 Z Z Z (e_make (e := 4) (sz := 1) (by_ := 1) (z := [.bool false]) (kd := y4p) (N + 0) g S4 Z Z (by kernel_rfl) (by kernel_rfl) Z Z Z (fun _ _ _ => by exact rfl) hy6) ?_
 rintro _ a11 w12 g12 ⟨⟨A7, cap8, rfl, h9⟩, F12⟩ S11
 replace hp1 := RdS.fr hp1 F12 (by decide) (fun _ _ h => h)
 replace hF := hF.trans F12 (fun _ h => h.elim)
 refine y00 S11 Z Z Z (y02 S11 Z Z) fun a13 S13 => wpList_nil (hK _ _ ?_)
 replace hS : Sl 65 _ [(0, i6 p0), (1, .slice A1 p1.length cap1), (6, .slice none 0 0), (7, .slice A7 y5.length cap8)] := S13.re ⟨Z, Z, Z, Z, trivial⟩
 clear hK K
 try clear S4 S11 S13
 generalize a13 = a at hS ⊢
 refine wp_block ?_
 refine wp_loop_ghost (fun kq => fun a w14 => ∃ (m0_0 : List Int), ∃ (m0_1 : List Bool), ∃ (g14 : Nat → Nat), ∃ (A15 : Option Addr), ∃ (cap16 : Nat), y2c.l0 p0 p1 kq m0_0 m0_1 = some out ∧ Sl 65 a [(0, i6 p0), (1, .slice A1 p1.length cap1), (6, .slice A15 m0_0.length cap16), (7, .slice A7 m0_1.length cap8)] ∧ OwS y4p 4 w14 g14 (N + 0) A7 cap8 m0_1 ∧ OwS (kint .i64) 3 w14 g14 (N + 4) A15 cap16 m0_0 ∧ RdS y0r w14 g14 C1 A1 cap1 p1 ∧ Fr (fun q => (r0 ≤ q ∧ q < r0 + 2) ∨ (r1 ≤ q ∧ q < r1 + 2) ∨ N ≤ q) w g w14 g14) FUEL ?_ ?_
 ·exact ⟨[], y5, g12, none, 0, H, hS.re ⟨Z, Z, Z, Z, trivial⟩, h9, OwS.nil (kint .i64) 3 w12 g12 (N + 4), hp1, hF⟩
 ·clear H
  clear hp1 h9 hF
  clear hS
  rintro k18 a w14 ⟨m0_0, m0_1, g14, A15, cap16, hpre0, hS, h9, h17, hp1, hF⟩
  have H := hpre0
  clear hpre0
  cases k18 with
  | zero => exact absurd H (by simp [y2c.l0])
  | succ k18 =>
   rw [y2c.l0] at H
   obtain ⟨o24, H, Hl25⟩ := y0b H
   refine c_cut1 (fun a w19 => ∃ (v23 : (List Int) × (List Bool)), ∃ (g19 : Nat → Nat), ∃ (A20 : Option Addr), ∃ (cap21 : Nat), o24 = .nxt v23 ∧ Sl 65 a [(0, i6 p0), (1, .slice A1 p1.length cap1), (6, .slice A20 v23.1.length cap21), (7, .slice A7 v23.2.length cap8)] ∧ OwS y4p 4 w19 g19 (N + 0) A7 cap8 v23.2 ∧ OwS (kint .i64) 3 w19 g19 (N + 4) A20 cap21 v23.1 ∧ RdS y0r w19 g19 C1 A1 cap1 p1 ∧ Fr (fun q => (r0 ≤ q ∧ q < r0 + 2) ∨ (r1 ≤ q ∧ q < r1 + 2) ∨ N ≤ q) w g w19 g19) ?_ ?_
   ·refine wp_block ?_
    refine y16 [(0, i6 p0), (1, .slice A1 p1.length cap1), (6, .slice A15 m0_0.length cap16), (7, .slice A7 m0_1.length cap8), (8, i6 (-1))] (fun R hR => y00 hS Z Z Z (y02 hS Z Z) fun a26 S26 => wpList_nil (hR _ (S26.re ⟨Z, Z, Z, Z, Z, trivial⟩))) ?_
    clear hS a; intro a hS
    obtain ⟨v27, H, Hl29⟩ := y0b H
    refine y4u (fun a w' => w14 = w' ∧ Sl 65 a [(0, i6 p0), (1, .slice A1 p1.length cap1), (6, .slice A15 m0_0.length cap16), (7, .slice A7 m0_1.length cap8), (8, i6 v27)]) ?_ ?_
    ·refine y16 [(0, i6 p0), (1, .slice A1 p1.length cap1), (6, .slice A15 m0_0.length cap16), (7, .slice A7 m0_1.length cap8), (8, i6 (-1)), (9, i6 (wi (p0 - 1)))] (fun R hR => y00 hS Z Z Z (y03 hS Z Z) fun a30 S30 => y00 S30 Z Z Z (y2l S30 Z Z rfl b_sub) fun a31 S31 => y00 S31 Z Z Z (y02 S31 Z Z) fun a32 S32 => wpList_nil (hR _ (S32.re ⟨Z, Z, Z, Z, Z, Z, trivial⟩))) ?_
     clear hS a; intro a hS
     refine wp_block ?_
     refine wp_loop_ghost (fun kq => fun a w' => ∃ (m1_0 : Int), ∃ (m1_1 : Int), y2c.l1 p1 m0_1 kq m1_0 m1_1 = some v27 ∧ w14 = w' ∧ Sl 65 a [(0, i6 p0), (1, .slice A1 p1.length cap1), (6, .slice A15 m0_0.length cap16), (7, .slice A7 m0_1.length cap8), (8, i6 m1_0), (9, i6 m1_1)]) FUEL ?_ ?_
     ·exact ⟨(-1), wi (p0 - 1), H, rfl, hS.re ⟨Z, Z, Z, Z, Z, Z, trivial⟩⟩
     ·clear H
      clear hS
      rintro k33 a w' ⟨m1_0, m1_1, hpre0, hw, hS⟩
      subst hw
      have H := hpre0
      clear hpre0
      cases k33 with
      | zero => exact absurd H (by simp [y2c.l1])
      | succ k33 =>
       rw [y2c.l1] at H
       refine wp_seq ?_
       refine y16 [(0, i6 p0), (1, .slice A1 p1.length cap1), (6, .slice A15 m0_0.length cap16), (7, .slice A7 m0_1.length cap8), (8, i6 m1_0), (9, i6 m1_1), (17, .bool (decide (0 ≤ m1_1)))] (fun R hR => y00 hS Z Z Z (y03 hS Z Z) fun a34 S34 => y00 S34 Z Z Z (y2l S34 Z Z rfl b_geq) fun a35 S35 => wpList_nil (hR _ (S35.re ⟨Z, Z, Z, Z, Z, Z, Z, trivial⟩))) ?_
       clear hS a; intro a hS
       refine y2m hS Z (fun hb36 => ?_) (fun hb36 => ?_)
       ·replace H := y3f hb36 H
        refine wp_skip ?_
        change Code.wp _ _ _ _ _
        obtain ⟨v37, H, Hl39⟩ := y0b H
        refine y4u (fun a w' => w14 = w' ∧ Sl 65 a [(0, i6 p0), (1, .slice A1 p1.length cap1), (6, .slice A15 m0_0.length cap16), (7, .slice A7 m0_1.length cap8), (8, i6 v37), (9, i6 m1_1)]) ?_ ?_
        ·refine wp_block ?_
         obtain ⟨x42, hx43, H⟩ := y0b H
         refine y16 [(0, i6 p0), (1, .slice A1 p1.length cap1), (6, .slice A15 m0_0.length cap16), (7, .slice A7 m0_1.length cap8), (8, i6 m1_0), (9, i6 m1_1), (10, .bool (!x42))] (fun R hR => y00 hS Z Z Z (y03 hS Z Z) fun a40 S40 => y00 S40 Z Z Z (y03 S40 Z Z) fun a41 S41 => y00 S41 Z Z Z (y1j (e := 4) (sz := 1) (by_ := 1) S41 Z Z Z (by kernel_rfl) (RdS.some_ (OwS.rd h9) hx43) (y26 hx43) (y27 hx43)) fun a44 S44 => y00 S44 Z Z Z (y0u (n := 1) S44 Z Z (by kernel_rfl) (RdS.cell (i := m1_1) (sz := 1) (j := 0) (OwS.rd h9) hx43 Z)) fun a45 S45 => y00 S45 Z Z Z (r_not S45 Z Z) fun a46 S46 => y00 S46 Z Z Z (y02 S46 Z Z) fun a47 S47 => wpList_nil (hR _ (S47.re ⟨Z, Z, Z, Z, Z, Z, Z, trivial⟩))) ?_
         clear hS a; intro a hS
         obtain ⟨v48, H, Hl50⟩ := y0b H
         refine y4u (fun a w' => w14 = w' ∧ Sl 65 a [(0, i6 p0), (1, .slice A1 p1.length cap1), (6, .slice A15 m0_0.length cap16), (7, .slice A7 m0_1.length cap8), (8, i6 m1_0), (9, i6 m1_1), (10, .bool v48)]) ?_ ?_
         ·refine y16 [(0, i6 p0), (1, .slice A1 p1.length cap1), (6, .slice A15 m0_0.length cap16), (7, .slice A7 m0_1.length cap8), (8, i6 m1_0), (9, i6 m1_1), (10, .bool (!x42)), (11, i6 0)] (fun R hR => y00 hS Z Z Z (y02 hS Z Z) fun a51 S51 => wpList_nil (hR _ (S51.re ⟨Z, Z, Z, Z, Z, Z, Z, Z, trivial⟩))) ?_
          clear hS a; intro a hS
          refine wp_block ?_
          refine wp_loop_ghost (fun kq => fun a w' => ∃ (m2_0 : Bool), ∃ (m2_1 : Int), y2c.l2 p1 m0_1 m1_1 kq m2_0 m2_1 = some v48 ∧ w14 = w' ∧ Sl 65 a [(0, i6 p0), (1, .slice A1 p1.length cap1), (6, .slice A15 m0_0.length cap16), (7, .slice A7 m0_1.length cap8), (8, i6 m1_0), (9, i6 m1_1), (10, .bool m2_0), (11, i6 m2_1)]) FUEL ?_ ?_
          ·exact ⟨(!x42), 0, H, rfl, hS.re ⟨Z, Z, Z, Z, Z, Z, Z, Z, trivial⟩⟩
          ·clear H
           clear hS
           rintro k52 a w' ⟨m2_0, m2_1, hpre0, hw, hS⟩
           subst hw
           have H := hpre0
           clear hpre0
           cases k52 with
           | zero => exact absurd H (by simp [y2c.l2])
           | succ k52 =>
            rw [y2c.l2] at H
            refine wp_seq ?_
            refine y0t (fun K hK => ?_)
            refine y00 hS Z Z Z (y03 hS Z Z) fun a53 S53 => y00 S53 Z Z Z (y03 S53 Z Z) fun a54 S54 => y00 S54 Z Z Z (y4x (e := 67) (sz := 2) (by_ := 16) S54 Z Z (by kernel_rfl)) fun a55 S55 => y00 S55 Z Z Z (y2l S55 Z Z rfl y4t) fun a56 S56 => y00 S56 Z Z Z (y03 S56 Z Z) fun a57 S57 => ?_
            refine y4b (N := 65) 2 [(0, i6 p0), (1, .slice A1 p1.length cap1), (6, .slice A15 m0_0.length cap16), (7, .slice A7 m0_1.length cap8), (8, i6 m1_0), (9, i6 m1_1), (10, .bool m2_0), (11, i6 m2_1), (31, .bool ((decide (m2_1 < (p1.length : Int))) && m2_0))] ?_ (fun hk => ?_)
            rotate_left
            ·rcases Bool.eq_false_or_eq_true (decide (m2_1 < (p1.length : Int))) with hb58 | hb58
             ·refine y0p S57 (y0a S57 Z Z rfl hb58) Z Z (y03 S57 Z Z) fun a60 S60 => y00 S60 Z Z Z (y2s S60 Z Z rfl hb58) fun a61 S61 => hk _ (S61.re ⟨rfl, rfl, rfl, rfl, rfl, rfl, rfl, rfl, (by rw [hb58]; rfl), trivial⟩)
             ·refine y1c S57 (y05 S57 Z Z rfl hb58) Z Z fun a62 S62 => y00 S62 Z Z Z (y2t S62 Z Z rfl hb58) fun a63 S63 => hk _ (S63.re ⟨rfl, rfl, rfl, rfl, rfl, rfl, rfl, rfl, (by rw [hb58]; rfl), trivial⟩)
            intro a64 S64
            refine wpList_nil (hK _ _ ?_)
            replace hS : Sl 65 _ [(0, i6 p0), (1, .slice A1 p1.length cap1), (6, .slice A15 m0_0.length cap16), (7, .slice A7 m0_1.length cap8), (8, i6 m1_0), (9, i6 m1_1), (10, .bool m2_0), (11, i6 m2_1), (31, .bool ((decide (m2_1 < (p1.length : Int))) && m2_0))] := S64.re ⟨Z, Z, Z, Z, Z, Z, Z, Z, Z, trivial⟩
            clear hK K
            try clear S53 S54 S55 S56 S57 S64
            generalize a64 = a at hS ⊢
            refine y2m hS Z (fun hb65 => ?_) (fun hb65 => ?_)
            ·replace H := y3f hb65 H
             refine wp_skip ?_
             change Code.wp _ _ _ _ _
             obtain ⟨v66, H, Hl68⟩ := y0b H
             refine y4u (fun a w' => w14 = w' ∧ Sl 65 a [(0, i6 p0), (1, .slice A1 p1.length cap1), (6, .slice A15 m0_0.length cap16), (7, .slice A7 m0_1.length cap8), (8, i6 m1_0), (9, i6 m1_1), (10, .bool v66), (11, i6 m2_1)]) ?_ ?_
             ·refine wp_block ?_
              obtain ⟨x71, hx72, H⟩ := y0b H
              obtain ⟨t91, ht92, H⟩ := y0b H
              refine y0t (fun K hK => ?_)
              refine y00 hS Z Z Z (y03 hS Z Z) fun a69 S69 => y00 S69 Z Z Z (y03 S69 Z Z) fun a70 S70 => y00 S70 Z Z Z (y1j (e := 67) (sz := 2) (by_ := 16) S70 Z Z Z (by kernel_rfl) (RdS.some_ hp1 hx72) (y26 hx72) (y27 hx72)) fun a73 S73 => y00 S73 Z Z Z (y2w (off := 0) S73 Z Z (by kernel_rfl)) fun a74 S74 => y00 S74 Z Z Z (y0u (n := 1) S74 Z Z (by kernel_rfl) (RdS.cell (i := m2_1) (sz := 2) (j := 0) hp1 hx72 Z)) fun a75 S75 => y00 S75 Z Z Z (y03 S75 Z Z) fun a76 S76 => y00 S76 Z Z Z (y2l S76 Z Z rfl b_eql) fun a77 S77 => y00 S77 Z Z Z (y03 S77 Z Z) fun a78 S78 => ?_
              refine y4b (N := 65) 10 [(0, i6 p0), (1, .slice A1 p1.length cap1), (6, .slice A15 m0_0.length cap16), (7, .slice A7 m0_1.length cap8), (8, i6 m1_0), (9, i6 m1_1), (10, .bool m2_0), (11, i6 m2_1), (51, .bool t91)] ?_ (fun hk => ?_)
              rotate_left
              ·rcases Bool.eq_false_or_eq_true ((x71.Consumer == m1_1)) with hb79 | hb79
               ·have H := y3f hb79 ht92
                obtain ⟨x99, hx100, H⟩ := y0b H
                have e104 := Option.some.inj H
                refine y0p S78 (y0a S78 Z Z rfl hb79) Z Z (y03 S78 Z Z) fun a93 S93 => y0p S93 (y0a S93 Z Z rfl hb79) Z Z (y03 S93 Z Z) fun a94 S94 => y0p S94 (y0a S94 Z Z rfl hb79) Z Z (y03 S94 Z Z) fun a95 S95 => y0p S95 (y0a S95 Z Z rfl hb79) Z Z (y1j (e := 67) (sz := 2) (by_ := 16) S95 Z Z Z (by kernel_rfl) (RdS.some_ hp1 hx72) (y26 hx72) (y27 hx72)) fun a96 S96 => y0p S96 (y0a S96 Z Z rfl hb79) Z Z (y2w (off := 1) S96 Z Z (by kernel_rfl)) fun a97 S97 => y0p S97 (y0a S97 Z Z rfl hb79) Z Z (y0u (n := 1) S97 Z Z (by kernel_rfl) (RdS.cell (i := m2_1) (sz := 2) (j := 1) hp1 hx72 Z)) fun a98 S98 => y0p S98 (y0a S98 Z Z rfl hb79) Z Z (y1j (e := 4) (sz := 1) (by_ := 1) S98 Z Z Z (by kernel_rfl) (RdS.some_ (OwS.rd h9) hx100) (y26 hx100) (y27 hx100)) fun a101 S101 => y0p S101 (y0a S101 Z Z rfl hb79) Z Z (y0u (n := 1) S101 Z Z (by kernel_rfl) (RdS.cell (i := x71.Supplier) (sz := 1) (j := 0) (OwS.rd h9) hx100 Z)) fun a102 S102 => y0p S102 (y0a S102 Z Z rfl hb79) Z Z (r_not S102 Z Z) fun a103 S103 => y00 S103 Z Z Z (y2s S103 Z Z rfl hb79) fun a105 S105 => hk _ (S105.re ⟨rfl, rfl, rfl, rfl, rfl, rfl, rfl, rfl, (by rw [← e104]; rfl), trivial⟩)
               ·have H := y3g hb79 ht92
                have e106 := Option.some.inj H
                refine y1c S78 (y05 S78 Z Z rfl hb79) Z Z fun a107 S107 => y1c S107 (y05 S107 Z Z rfl hb79) Z Z fun a108 S108 => y1c S108 (y05 S108 Z Z rfl hb79) Z Z fun a109 S109 => y1c S109 (y05 S109 Z Z rfl hb79) Z Z fun a110 S110 => y1c S110 (y05 S110 Z Z rfl hb79) Z Z fun a111 S111 => y1c S111 (y05 S111 Z Z rfl hb79) Z Z fun a112 S112 => y1c S112 (y05 S112 Z Z rfl hb79) Z Z fun a113 S113 => y1c S113 (y05 S113 Z Z rfl hb79) Z Z fun a114 S114 => y1c S114 (y05 S114 Z Z rfl hb79) Z Z fun a115 S115 => y00 S115 Z Z Z (y2t S115 Z Z rfl hb79) fun a116 S116 => hk _ (S116.re ⟨rfl, rfl, rfl, rfl, rfl, rfl, rfl, rfl, (by rw [← e106]; rfl), trivial⟩)
              intro a117 S117
              refine wpList_nil (hK _ _ ?_)
              replace hS : Sl 65 _ [(0, i6 p0), (1, .slice A1 p1.length cap1), (6, .slice A15 m0_0.length cap16), (7, .slice A7 m0_1.length cap8), (8, i6 m1_0), (9, i6 m1_1), (10, .bool m2_0), (11, i6 m2_1), (51, .bool t91)] := S117.re ⟨Z, Z, Z, Z, Z, Z, Z, Z, Z, trivial⟩
              clear hK K
              try clear S69 S70 S73 S74 S75 S76 S77 S78 S117
              generalize a117 = a at hS ⊢
              refine y2m hS Z (fun hb118 => ?_) (fun hb118 => ?_)
              ·replace H := y3f hb118 H
               refine y3e [(0, i6 p0), (1, .slice A1 p1.length cap1), (6, .slice A15 m0_0.length cap16), (7, .slice A7 m0_1.length cap8), (8, i6 m1_0), (9, i6 m1_1), (10, .bool false), (11, i6 m2_1)] (fun R hR => y00 hS Z Z Z (y02 hS Z Z) fun a119 S119 => wpList_nil (hR _ (S119.re ⟨Z, Z, Z, Z, Z, Z, Z, Z, trivial⟩))) ?_
               clear hS a; intro a hS
               have e := Option.some.inj H
               subst e
               exact ⟨rfl, hS.re ⟨Z, Z, Z, Z, Z, Z, Z, Z, trivial⟩⟩
              ·replace H := y3g hb118 H
               refine wp_skip ?_
               have e := Option.some.inj H
               subst e
               exact ⟨rfl, hS.re ⟨Z, Z, Z, Z, Z, Z, Z, Z, trivial⟩⟩
             ·clear H
              clear hS
              rintro a w' ⟨hw, hS⟩
              subst hw
              have H := Hl68
              clear Hl68
              refine y3e [(0, i6 p0), (1, .slice A1 p1.length cap1), (6, .slice A15 m0_0.length cap16), (7, .slice A7 m0_1.length cap8), (8, i6 m1_0), (9, i6 m1_1), (10, .bool v66), (11, i6 (wi (m2_1 + 1)))] (fun R hR => y00 hS Z Z Z (y03 hS Z Z) fun a120 S120 => y00 S120 Z Z Z (y2l S120 Z Z rfl y4z) fun a121 S121 => y00 S121 Z Z Z (y02 S121 Z Z) fun a122 S122 => wpList_nil (hR _ (S122.re ⟨Z, Z, Z, Z, Z, Z, Z, Z, trivial⟩))) ?_
              clear hS a; intro a hS
              refine ⟨k52, Nat.lt_succ_self _, ?_⟩
              exact ⟨v66, wi (m2_1 + 1), H, rfl, hS.re ⟨Z, Z, Z, Z, Z, Z, Z, Z, trivial⟩⟩
            ·replace H := y3g hb65 H
             refine wp_exit ?_
             have e := Option.some.inj H
             subst e
             exact ⟨rfl, hS.re ⟨Z, Z, Z, Z, Z, Z, Z, trivial⟩⟩
         ·clear H
          clear hS
          rintro a w' ⟨hw, hS⟩
          subst hw
          have H := Hl50
          clear Hl50
          refine y16 [(0, i6 p0), (1, .slice A1 p1.length cap1), (6, .slice A15 m0_0.length cap16), (7, .slice A7 m0_1.length cap8), (8, i6 m1_0), (9, i6 m1_1), (52, .bool v48)] (fun R hR => y00 hS Z Z Z (y03 hS Z Z) fun a123 S123 => wpList_nil (hR _ (S123.re ⟨Z, Z, Z, Z, Z, Z, Z, trivial⟩))) ?_
          clear hS a; intro a hS
          refine y2m hS Z (fun hb124 => ?_) (fun hb124 => ?_)
          ·replace H := y3f hb124 H
           refine y3e [(0, i6 p0), (1, .slice A1 p1.length cap1), (6, .slice A15 m0_0.length cap16), (7, .slice A7 m0_1.length cap8), (8, i6 m1_1), (9, i6 m1_1)] (fun R hR => y00 hS Z Z Z (y03 hS Z Z) fun a125 S125 => y00 S125 Z Z Z (y02 S125 Z Z) fun a126 S126 => wpList_nil (hR _ (S126.re ⟨Z, Z, Z, Z, Z, Z, trivial⟩))) ?_
           clear hS a; intro a hS
           have e := Option.some.inj H
           subst e
           exact ⟨rfl, hS.re ⟨Z, Z, Z, Z, Z, Z, trivial⟩⟩
          ·replace H := y3g hb124 H
           refine wp_skip ?_
           have e := Option.some.inj H
           subst e
           exact ⟨rfl, hS.re ⟨Z, Z, Z, Z, Z, Z, trivial⟩⟩
        ·clear H
         clear hS
         rintro a w' ⟨hw, hS⟩
         subst hw
         have H := Hl39
         clear Hl39
         refine y3e [(0, i6 p0), (1, .slice A1 p1.length cap1), (6, .slice A15 m0_0.length cap16), (7, .slice A7 m0_1.length cap8), (8, i6 v37), (9, i6 (wi (m1_1 - 1)))] (fun R hR => y00 hS Z Z Z (y03 hS Z Z) fun a127 S127 => y00 S127 Z Z Z (y2l S127 Z Z rfl b_sub) fun a128 S128 => y00 S128 Z Z Z (y02 S128 Z Z) fun a129 S129 => wpList_nil (hR _ (S129.re ⟨Z, Z, Z, Z, Z, Z, trivial⟩))) ?_
         clear hS a; intro a hS
         refine ⟨k33, Nat.lt_succ_self _, ?_⟩
         exact ⟨v37, wi (m1_1 - 1), H, rfl, hS.re ⟨Z, Z, Z, Z, Z, Z, trivial⟩⟩
       ·replace H := y3g hb36 H
        refine wp_exit ?_
        have e := Option.some.inj H
        subst e
        exact ⟨rfl, hS.re ⟨Z, Z, Z, Z, Z, trivial⟩⟩
    ·clear H
     clear hS
     rintro a w' ⟨hw, hS⟩
     subst hw
     have H := Hl29
     clear Hl29
     refine wp_seq ?_
     refine y16 [(0, i6 p0), (1, .slice A1 p1.length cap1), (6, .slice A15 m0_0.length cap16), (7, .slice A7 m0_1.length cap8), (8, i6 v27), (55, .bool (decide (v27 < 0)))] (fun R hR => y00 hS Z Z Z (y03 hS Z Z) fun a130 S130 => y00 S130 Z Z Z (y2l S130 Z Z rfl y4t) fun a131 S131 => wpList_nil (hR _ (S131.re ⟨Z, Z, Z, Z, Z, Z, trivial⟩))) ?_
     clear hS a; intro a hS
     refine y2m hS Z (fun hb132 => ?_) (fun hb132 => ?_)
     ·replace H := y3f hb132 H
      refine y16 [(4, .slice A15 m0_0.length cap16), (5, .slice A7 m0_1.length cap8)] (fun R hR => y00 hS Z Z Z (y03 hS Z Z) fun a133 S133 => y00 S133 Z Z Z (y03 S133 Z Z) fun a134 S134 => y00 S134 Z Z Z (y02 S134 Z Z) fun a135 S135 => y00 S135 Z Z Z (y02 S135 Z Z) fun a136 S136 => wpList_nil (hR _ (S136.re ⟨Z, Z, trivial⟩))) ?_
      clear hS a; intro a hS
      refine wp_ret ?_
      have e := Option.some.inj H
      subst e
      replace H := Fl.go_out Hl25
      have e := Option.some.inj H
      subst e
      have F137 := Fr.y2f w14 g14 (N + 4) r0
      replace h17 := h17.y2f r0
      replace h9 := OwS.fr h9 F137 (fun c' hc (hm : c' = N + 4 ∨ c' = N + 4 + 1) => by omega)
      replace hF := hF.trans F137 (fun c' (hm : c' = N + 4 ∨ c' = N + 4 + 1) => by (try dsimp only); omega)
      have F138 := Fr.y2f w14 (y2f g14 (N + 4) r0) (N + 0) r1
      replace h9 := h9.y2f r1
      replace h17 := OwS.fr h17 F138 (fun c' hc (hm : c' = N + 0 ∨ c' = N + 0 + 1) => by omega)
      replace hF := hF.trans F138 (fun c' (hm : c' = N + 0 ∨ c' = N + 0 + 1) => by (try dsimp only); omega)
      repeat (with_reducible first | refine y1i ?_ | refine y0o ?_)
      exact y4d hS Try.results95 Z rfl ⟨_, rfl, (y2f (y2f g14 (N + 4) r0) (N + 0) r1), A15, cap16, A7, cap8, rfl, h17, h9, hF⟩
     ·replace H := y3g hb132 H
      refine wp_skip ?_
      change Code.wp _ _ _ _ _
      obtain ⟨x141, hx142, H⟩ := y0b H
      refine y0t (fun K hK => ?_)
      refine y00 hS Z Z Z (y03 hS Z Z) fun a139 S139 => y00 S139 Z Z Z (y03 S139 Z Z) fun a140 S140 => y00 S140 Z Z Z (y1j (e := 4) (sz := 1) (by_ := 1) S140 Z Z Z (by kernel_rfl) (RdS.some_ (OwS.rd h9) hx142) (y26 hx142) (y27 hx142)) fun a143 S143 => ?_
      refine y3s S143 Z Z (y4l (n := 1) (bb := false) (kd := y4p) (j := 0) (x' := true) (us := [.bool true]) g14 S143 Z Z Z Z (by kernel_rfl) Z Z (by intro v hv; simp only [List.mem_cons, List.not_mem_nil, or_false] at hv; rcases hv with rfl <;> rfl) h9 hx142 Z (fun _ _ cs hR => by rw [show cs = _ from hR]; rfl)) ?_
      rintro a144 w145 g145 ⟨h9, F145⟩ S144
      replace h17 := OwS.fr h17 F145 (fun c' hc (hm : c' = N + 0) => by omega)
      replace hp1 := RdS.fr hp1 F145 (by decide) (fun q (hq : C1 q) (hm : q = N + 0) => by have := hC1 q hq; omega)
      replace hF := hF.trans F145 (fun c' (hm : c' = N + 0) => by (try dsimp only); omega)
      have hT : Sl 65 a144 [(0, i6 p0), (1, .slice A1 p1.length cap1), (6, .slice A15 m0_0.length cap16), (7, .slice A7 m0_1.length cap8), (8, i6 v27)] := S144.re ⟨Z, Z, Z, Z, Z, trivial⟩
      replace S144 : Sl 65 a144 [(0, i6 p0), (1, .slice A1 p1.length cap1), (6, .slice A15 m0_0.length cap16), (7, .slice A7 (upd m0_1 v27 true).length cap8), (8, i6 v27)] := by simpa only [y1w] using hT
      clear hT
      refine wpList_nil (hK _ _ ?_)
      replace hS : Sl 65 _ [(0, i6 p0), (1, .slice A1 p1.length cap1), (6, .slice A15 m0_0.length cap16), (7, .slice A7 (upd m0_1 v27 true).length cap8), (8, i6 v27)] := S144.re ⟨Z, Z, Z, Z, Z, trivial⟩
      clear hK K
      try clear S139 S140 S143 S144
      generalize a144 = a at hS ⊢
      obtain ⟨y153, hy154, H⟩ := y0b H
      refine y3l (fun K hK => ?_)
      refine y00 hS Z Z Z (y03 hS Z Z) fun a146 S146 => y00 S146 Z Z Z (y03 S146 Z Z) fun a147 S147 => ?_
      refine y41 S147 Z Z Z (e_lit (e := 3) (parts := [(0, i6 v27)]) (cs := [i6 v27]) (kint .i64) [v27] (N + 2) g145 S147 Z Z (fun _ => by kernel_rfl) Z (by decide) (Rows.cons (cs := [i6 v27]) rfl Rows.nil)) ?_
      rintro _ a151 w152 g152 ⟨⟨A148, rfl, h149⟩, F152⟩ S151
      replace h9 := OwS.fr h9 F152 (fun _ _ h => h)
      replace h17 := OwS.fr h17 F152 (fun _ _ h => h)
      replace hp1 := RdS.fr hp1 F152 (by decide) (fun _ _ h => h)
      replace hF := hF.trans F152 (fun _ h => h.elim)
      refine y41 S151 Z Z Z (y4g (e := 3) (sz := 1) (by_ := 8) (z := [i6 0]) (kd := (kint .i64)) g152 S151 Z Z Z Z (by kernel_rfl) (by kernel_rfl) Z Z Z Z h17 (OwD.rdx h149) (fun _ _ _ h => h) hy154) ?_
      rintro _ a159 w160 g160 ⟨⟨A155, cap156, rfl, h157⟩, F160⟩ S159
      replace h9 := OwS.fr h9 F160 (fun c' hc (hm : c' = N + 4) => by omega)
      replace h149 := OwS.fr h149 F160 (fun c' hc (hm : c' = N + 4) => by omega)
      replace hp1 := RdS.fr hp1 F160 (by decide) (fun q (hq : C1 q) (hm : q = N + 4) => by have := hC1 q hq; omega)
      replace hF := hF.trans F160 (fun c' (hm : c' = N + 4) => by (try dsimp only); omega)
      refine y00 S159 Z Z Z (y02 S159 Z Z) fun a161 S161 => wpList_nil (hK _ _ ?_)
      replace hS : Sl 65 _ [(0, i6 p0), (1, .slice A1 p1.length cap1), (6, .slice A155 y153.length cap156), (7, .slice A7 (upd m0_1 v27 true).length cap8)] := S161.re ⟨Z, Z, Z, Z, trivial⟩
      clear hK K
      try clear S146 S147 S151 S159 S161
      generalize a161 = a at hS ⊢
      have e := Option.some.inj H
      exact ⟨(y153, (upd m0_1 v27 true)), g160, A155, cap156, e.symm, hS.re ⟨Z, Z, Z, Z, trivial⟩, h9, h157, hp1, hF⟩
   ·clear H
    clear hp1 h9 h17 hF
    clear hS
    rintro a w19 ⟨v23, g19, A20, cap21, hpre0, hS, h9, h22, hp1, hF⟩
    subst hpre0
    have H := Fl.go_nxt Hl25
    clear Hl25
    refine ⟨k18, Nat.lt_succ_self _, ?_⟩
    exact ⟨v23.1, v23.2, g19, A20, cap21, H, hS.re ⟨Z, Z, Z, Z, trivial⟩, h9, h22, hp1, hF⟩


end Go.Proofs.Ytcfcffbjdjacfaa.Sim

namespace Go.Proofs.Ytcfcffbjdjacfaa.Sim
open Go
set_option linter.unusedVariables false
set_option linter.unusedSimpArgs false

/-! ### ref24_Order: function 77 -/
def ref24_Order.f (p0 : Int) (p1 : List y0g) : Option ((List Int) × Int) := (y3i.f p0 p1).bind fun r5 => if (r5 != 0) = true then (some ([], r5)) else ((y2c.f p0 p1).bind fun r18 => some (r18.1, 0))
set_option maxRecDepth 100000 in
set_option maxHeartbeats 4000000 in
theorem ref24_Order.calls {p0 : Int} {p1 : List y0g} {A1 : Option Addr} {cap1 : Nat} {C1 : Nat → Prop} {w : World} {g : Nat → Nat} {out : (List Int) × Int} (N : Nat) (r0 : Nat) (hp1 : RdS y0r w g C1 A1 cap1 p1) (hC1 : ∀ c, C1 c → c < N) (hr0 : r0 + 2 ≤ N) (H : ref24_Order.f p0 p1 = some out) :
  Calls Try.prog 77 #[i6 p0, .slice A1 p1.length cap1] w (fun e w' => ∃ v, e = .returned v ∧ ∃ (g' : Nat → Nat) (A_r0 : Option Addr) (cap_r0 : Nat), v = .tuple #[.slice A_r0 out.1.length cap_r0, i6 out.2] ∧ OwS (kint .i64) 3 w' g' r0 A_r0 cap_r0 out.1 ∧ Fr (fun q => (r0 ≤ q ∧ q < r0 + 2) ∨ N ≤ q) w g w' g') := by
 unfold ref24_Order.f at H
 refine y1k Try.func77 rfl Try.ntmps77 Z (fun a hS => ?_)
 replace hS : Sl 22 a [(0, i6 p0), (1, .slice A1 p1.length cap1)] := hS
 have hF : Fr (fun q => (r0 ≤ q ∧ q < r0 + 2) ∨ N ≤ q) w g w g := Fr.refl _ _ _
 refine y16 [(0, i6 p0), (1, .slice A1 p1.length cap1)] (fun R hR => y00 hS Z Z Z (y02 hS Z Z) fun a1 S1 => y00 S1 Z Z Z (y02 S1 Z Z) fun a2 S2 => wpList_nil (hR _ (S2.re ⟨Z, Z, trivial⟩))) ?_
 clear hS a; intro a hS
 refine wp_seq ?_
 obtain ⟨r5, hr6, H⟩ := y0b H
 refine y0t (fun K hK => ?_)
 refine y00 hS Z Z Z (y03 hS Z Z) fun a3 S3 => y00 S3 Z Z Z (y03 S3 Z Z) fun a4 S4 => ?_
 refine y1y S4 Z Z Z (y2z S4 Z Z (by kernel_rfl)) (y3i.calls (C1 := C1) (p0 := p0) (p1 := p1) (g := g) (N + 4)  hp1 (fun q (hq : C1 q) => by have := hC1 q hq; omega) hr6) ?_
 rintro _ a7 w8 ⟨g8, rfl, F8⟩ S7
 replace hp1 := RdS.fr hp1 F8 (by decide) (fun q (hq : C1 q) (hm : N + 4 ≤ q) => by have := hC1 q hq; omega)
 replace hF := hF.trans F8 (fun c' (hm : N + 4 ≤ c') => by (try dsimp only); omega)
 refine y00 S7 Z Z Z (y02 S7 Z Z) fun a9 S9 => wpList_nil (hK _ _ ?_)
 replace hS : Sl 22 _ [(0, i6 p0), (1, .slice A1 p1.length cap1), (6, i6 r5)] := S9.re ⟨Z, Z, Z, trivial⟩
 clear hK K
 try clear S3 S4 S7 S9
 generalize a9 = a at hS ⊢
 refine y16 [(0, i6 p0), (1, .slice A1 p1.length cap1), (6, i6 r5), (13, .bool (r5 != 0))] (fun R hR => y00 hS Z Z Z (y03 hS Z Z) fun a10 S10 => y00 S10 Z Z Z (y2l S10 Z Z rfl b_neq) fun a11 S11 => wpList_nil (hR _ (S11.re ⟨Z, Z, Z, Z, trivial⟩))) ?_
 clear hS a; intro a hS
 refine y2m hS Z (fun hb12 => ?_) (fun hb12 => ?_)
 ·replace H := y3f hb12 H
  refine y16 [(4, .slice none 0 0), (5, i6 r5)] (fun R hR => y00 hS Z Z Z (y03 hS Z Z) fun a13 S13 => y00 S13 Z Z Z (y02 S13 Z Z) fun a14 S14 => y00 S14 Z Z Z (y02 S14 Z Z) fun a15 S15 => wpList_nil (hR _ (S15.re ⟨Z, Z, trivial⟩))) ?_
  clear hS a; intro a hS
  refine wp_ret ?_
  have e := Option.some.inj H
  subst e
  repeat (with_reducible first | refine y1i ?_ | refine y0o ?_)
  exact y4d hS Try.results77 Z rfl ⟨_, rfl, g8, none, 0, rfl, OwS.nil (kint .i64) 3 w8 g8 r0, hF⟩
 ·replace H := y3g hb12 H
  refine wp_skip ?_
  change Code.wp _ _ _ _ _
  obtain ⟨r18, hr19, H⟩ := y0b H
  refine y0t (fun K hK => ?_)
  refine y00 hS Z Z Z (y03 hS Z Z) fun a16 S16 => y00 S16 Z Z Z (y03 S16 Z Z) fun a17 S17 => ?_
  refine y1y S17 Z Z Z (y2z S17 Z Z (by kernel_rfl)) (y2c.calls (C1 := C1) (p0 := p0) (p1 := p1) (g := g8) (N + 4) (N + 0) (N + 2) hp1 (fun q (hq : C1 q) => by have := hC1 q hq; omega) (by omega) (by omega) (by omega) hr19) ?_
  rintro _ a28 w29 ⟨g29, A20, cap21, A24, cap25, rfl, h22, h26, F29⟩ S28
  replace hp1 := RdS.fr hp1 F29 (by decide) (fun q (hq : C1 q) (hm : (N + 0 ≤ q ∧ q < N + 0 + 2) ∨ (N + 2 ≤ q ∧ q < N + 2 + 2) ∨ N + 4 ≤ q) => by have := hC1 q hq; omega)
  replace hF := hF.trans F29 (fun c' (hm : (N + 0 ≤ c' ∧ c' < N + 0 + 2) ∨ (N + 2 ≤ c' ∧ c' < N + 2 + 2) ∨ N + 4 ≤ c') => by (try dsimp only); omega)
  refine y00 S28 Z Z Z (y03 S28 Z Z) fun a30 S30 => y00 S30 Z Z Z (y1z S30 Z Z Z) fun a31 S31 => y00 S31 Z Z Z (y1z S31 Z Z Z) fun a32 S32 => y00 S32 Z Z Z (y02 S32 Z Z) fun a33 S33 => y00 S33 Z Z Z (y02 S33 Z Z) fun a34 S34 => wpList_nil (hK _ _ ?_)
  replace hS : Sl 22 _ [(7, .slice A20 r18.1.length cap21)] := S34.re ⟨Z, trivial⟩
  clear hK K
  try clear S16 S17 S28 S30 S31 S32 S33 S34
  generalize a34 = a at hS ⊢
  refine y16 [(4, .slice A20 r18.1.length cap21), (5, i6 0)] (fun R hR => y00 hS Z Z Z (y03 hS Z Z) fun a35 S35 => y00 S35 Z Z Z (y02 S35 Z Z) fun a36 S36 => y00 S36 Z Z Z (y02 S36 Z Z) fun a37 S37 => wpList_nil (hR _ (S37.re ⟨Z, Z, trivial⟩))) ?_
  clear hS a; intro a hS
  refine wp_ret ?_
  have e := Option.some.inj H
  subst e
  have F38 := Fr.y2f w29 g29 (N + 0) r0
  replace h22 := h22.y2f r0
  replace hF := hF.trans F38 (fun c' (hm : c' = N + 0 ∨ c' = N + 0 + 1) => by (try dsimp only); omega)
  repeat (with_reducible first | refine y1i ?_ | refine y0o ?_)
  exact y4d hS Try.results77 Z rfl ⟨_, rfl, (y2f g29 (N + 0) r0), A20, cap21, rfl, h22, hF⟩


end Go.Proofs.Ytcfcffbjdjacfaa.Sim

namespace Go.Proofs.Ytcfcffbjdjacfaa.Sim
open Go
set_option linter.unusedVariables false
set_option linter.unusedSimpArgs false

/-! ### y1f: function 94 -/
def y1f.l0 (p0 : Int) (p2 : List Int) : Nat → (List Bool) → Int → Option (Fl ((List Int) × Int) ((List Bool)))
 | 0, _, _ => none
 | k32 + 1, m0_0, m0_1 => if decide (m0_1 < (p2.length : Int)) = true then ((idx p2 m0_1).bind fun x40 => if ((decide (x40 < 0)) || (decide (p0 ≤ x40))) = true then (some (.out ([], 1))) else ((idx m0_0 x40).bind fun x76 => y1f.l0 p0 p2 k32 (upd m0_0 x40 true) (wi (m0_1 + 1)))) else (some (.nxt m0_0))
def y1f.l2 (p1 : List y0g) (p3 : Bool) : Nat → (List Bool) → Int → Option ((List Bool))
 | 0, _, _ => none
 | k101 + 1, m2_0, m2_1 => if decide (m2_1 < (p1.length : Int)) = true then (((idx p1 m2_1).bind fun x114 => ((if p3 = true then (idx m2_0 x114.Consumer).bind fun x135 => some x135 else some false).bind fun t139 => if t139 = true then ((idx m2_0 x114.Supplier).bind fun x159 => some (upd m2_0 x114.Supplier true)) else (some m2_0) : Option ((List Bool))).bind fun v127 => (if (!p3) = true then (idx v127 x114.Supplier).bind fun x170 => some x170 else some false).bind fun t174 => if t174 = true then ((idx v127 x114.Consumer).bind fun x194 => some (upd v127 x114.Consumer true)) else (some v127) : Option ((List Bool))).bind fun v108 => y1f.l2 p1 p3 k101 v108 (wi (m2_1 + 1))) else (some m2_0)
def y1f.l1 (p0 : Int) (p1 : List y0g) (p3 : Bool) : Nat → (List Bool) → Int → Option ((List Bool))
 | 0, _, _ => none
 | k90 + 1, m1_0, m1_1 => if decide (m1_1 < p0) = true then ((y1f.l2 p1 p3 FUEL m1_0 0 : Option ((List Bool))).bind fun v96 => y1f.l1 p0 p1 p3 k90 v96 (wi (m1_1 + 1))) else (some m1_0)
def y1f.l3 (p0 : Int) (v85 : (List Bool)) : Nat → (List Int) → Int → Option ((List Int))
 | 0, _, _ => none
 | k218 + 1, m3_0, m3_1 => if decide (m3_1 < p0) = true then (((idx v85 m3_1).bind fun x232 => if x232 = true then ((app m3_0 [m3_1]).bind fun y244 => some y244) else (some m3_0) : Option ((List Int))).bind fun v227 => y1f.l3 p0 v85 k218 v227 (wi (m3_1 + 1))) else (some m3_0)
def y1f.f (p0 : Int) (p1 : List y0g) (p2 : List Int) (p3 : Bool) : Option ((List Int) × Int) := (y2p.f p0 p1).bind fun r5 => if (r5 != 0) = true then (some ([], r5)) else ((mk p0 false).bind fun y17 => (y1f.l0 p0 p2 FUEL y17 0 : Option (Fl ((List Int) × Int) ((List Bool)))).bind fun o28 => o28.go fun v27 => (y1f.l1 p0 p1 p3 FUEL v27 0 : Option ((List Bool))).bind fun v85 => (y1f.l3 p0 v85 FUEL [] 0 : Option ((List Int))).bind fun v210 => some (v210, 0))
set_option maxRecDepth 100000 in
set_option maxHeartbeats 4000000 in
theorem y1f.calls {p0 : Int} {p1 : List y0g} {A1 : Option Addr} {cap1 : Nat} {C1 : Nat → Prop} {p2 : List Int} {A2 : Option Addr} {cap2 : Nat} {C2 : Nat → Prop} {p3 : Bool} {w : World} {g : Nat → Nat} {out : (List Int) × Int} (N : Nat) (r0 : Nat) (hp1 : RdS y0r w g C1 A1 cap1 p1) (hC1 : ∀ c, C1 c → c < N) (hp2 : RdS (kint .i64) w g C2 A2 cap2 p2) (hC2 : ∀ c, C2 c → c < N) (hr0 : r0 + 2 ≤ N) (H : y1f.f p0 p1 p2 p3 = some out) :
  Calls Try.prog 94 #[i6 p0, .slice A1 p1.length cap1, .slice A2 p2.length cap2, .bool p3] w (fun e w' => ∃ v, e = .returned v ∧ ∃ (g' : Nat → Nat) (A_r0 : Option Addr) (cap_r0 : Nat), v = .tuple #[.slice A_r0 out.1.length cap_r0, i6 out.2] ∧ OwS (kint .i64) 3 w' g' r0 A_r0 cap_r0 out.1 ∧ Fr (fun q => (r0 ≤ q ∧ q < r0 + 2) ∨ N ≤ q) w g w' g') := by
 unfold y1f.f at H
 refine y1k Try.func94 rfl Try.ntmps94 Z (fun a hS => ?_)
 replace hS : Sl 108 a [(0, i6 p0), (1, .slice A1 p1.length cap1), (2, .slice A2 p2.length cap2), (3, .bool p3)] := hS
 have hF : Fr (fun q => (r0 ≤ q ∧ q < r0 + 2) ∨ N ≤ q) w g w g := Fr.refl _ _ _
 refine y16 [(0, i6 p0), (1, .slice A1 p1.length cap1), (2, .slice A2 p2.length cap2), (3, .bool p3)] (fun R hR => y00 hS Z Z Z (y02 hS Z Z) fun a1 S1 => y00 S1 Z Z Z (y02 S1 Z Z) fun a2 S2 => wpList_nil (hR _ (S2.re ⟨Z, Z, Z, Z, trivial⟩))) ?_
 clear hS a; intro a hS
 refine wp_seq ?_
 obtain ⟨r5, hr6, H⟩ := y0b H
 refine y0t (fun K hK => ?_)
 refine y00 hS Z Z Z (y03 hS Z Z) fun a3 S3 => y00 S3 Z Z Z (y03 S3 Z Z) fun a4 S4 => ?_
 refine y1y S4 Z Z Z (y2z S4 Z Z (by kernel_rfl)) (y2p.calls (C1 := C1) (p0 := p0) (p1 := p1) (g := g) (N + 6)  hp1 (fun q (hq : C1 q) => by have := hC1 q hq; omega) hr6) ?_
 rintro _ a7 w8 ⟨g8, rfl, F8⟩ S7
 replace hp1 := RdS.fr hp1 F8 (by decide) (fun q (hq : C1 q) (hm : N + 6 ≤ q) => by have := hC1 q hq; omega)
 replace hp2 := RdS.fr hp2 F8 (by decide) (fun q (hq : C2 q) (hm : N + 6 ≤ q) => by have := hC2 q hq; omega)
 replace hF := hF.trans F8 (fun c' (hm : N + 6 ≤ c') => by (try dsimp only); omega)
 refine y00 S7 Z Z Z (y02 S7 Z Z) fun a9 S9 => wpList_nil (hK _ _ ?_)
 replace hS : Sl 108 _ [(0, i6 p0), (1, .slice A1 p1.length cap1), (2, .slice A2 p2.length cap2), (3, .bool p3), (10, i6 r5)] := S9.re ⟨Z, Z, Z, Z, Z, trivial⟩
 clear hK K
 try clear S3 S4 S7 S9
 generalize a9 = a at hS ⊢
 refine y16 [(0, i6 p0), (1, .slice A1 p1.length cap1), (2, .slice A2 p2.length cap2), (3, .bool p3), (10, i6 r5), (23, .bool (r5 != 0))] (fun R hR => y00 hS Z Z Z (y03 hS Z Z) fun a10 S10 => y00 S10 Z Z Z (y2l S10 Z Z rfl b_neq) fun a11 S11 => wpList_nil (hR _ (S11.re ⟨Z, Z, Z, Z, Z, Z, trivial⟩))) ?_
 clear hS a; intro a hS
 refine y2m hS Z (fun hb12 => ?_) (fun hb12 => ?_)
 ·replace H := y3f hb12 H
  refine y16 [(8, .slice none 0 0), (9, i6 r5)] (fun R hR => y00 hS Z Z Z (y03 hS Z Z) fun a13 S13 => y00 S13 Z Z Z (y02 S13 Z Z) fun a14 S14 => y00 S14 Z Z Z (y02 S14 Z Z) fun a15 S15 => wpList_nil (hR _ (S15.re ⟨Z, Z, trivial⟩))) ?_
  clear hS a; intro a hS
  refine wp_ret ?_
  have e := Option.some.inj H
  subst e
  repeat (with_reducible first | refine y1i ?_ | refine y0o ?_)
  exact y4d hS Try.results94 Z rfl ⟨_, rfl, g8, none, 0, rfl, OwS.nil (kint .i64) 3 w8 g8 r0, hF⟩
 ·replace H := y3g hb12 H
  refine wp_skip ?_
  change Code.wp _ _ _ _ _
  obtain ⟨y17, hy18, H⟩ := y0b H
  refine y0t (fun K hK => ?_)
  refine y00 hS Z Z Z (y03 hS Z Z) fun a16 S16 => ?_
  refine y41 S16 Z Z Z (e_make (e := 4) (sz := 1) (by_ := 1) (z := [.bool false]) (kd := y4p) (N + 0) g8 S16 Z Z (by kernel_rfl) (by kernel_rfl) Z Z Z (fun _ _ _ => by exact rfl) hy18) ?_
  rintro _ a23 w24 g24 ⟨⟨A19, cap20, rfl, h21⟩, F24⟩ S23
  replace hp1 := RdS.fr hp1 F24 (by decide) (fun _ _ h => h)
  replace hp2 := RdS.fr hp2 F24 (by decide) (fun _ _ h => h)
  replace hF := hF.trans F24 (fun _ h => h.elim)
  refine y00 S23 Z Z Z (y02 S23 Z Z) fun a25 S25 => wpList_nil (hK _ _ ?_)
  replace hS : Sl 108 _ [(0, i6 p0), (1, .slice A1 p1.length cap1), (2, .slice A2 p2.length cap2), (3, .bool p3), (11, .slice A19 y17.length cap20)] := S25.re ⟨Z, Z, Z, Z, Z, trivial⟩
  clear hK K
  try clear S16 S23 S25
  generalize a25 = a at hS ⊢
  obtain ⟨o28, H, Hl29⟩ := y0b H
  refine y4u (fun a w26 => ∃ (v27 : (List Bool)), ∃ (g26 : Nat → Nat), o28 = .nxt v27 ∧ Sl 108 a [(0, i6 p0), (1, .slice A1 p1.length cap1), (3, .bool p3), (11, .slice A19 v27.length cap20)] ∧ OwS y4p 4 w26 g26 (N + 0) A19 cap20 v27 ∧ RdS y0r w26 g26 C1 A1 cap1 p1 ∧ Fr (fun q => (r0 ≤ q ∧ q < r0 + 2) ∨ N ≤ q) w g w26 g26) ?_ ?_
  ·refine y16 [(0, i6 p0), (1, .slice A1 p1.length cap1), (2, .slice A2 p2.length cap2), (3, .bool p3), (11, .slice A19 y17.length cap20), (12, i6 0)] (fun R hR => y00 hS Z Z Z (y02 hS Z Z) fun a30 S30 => wpList_nil (hR _ (S30.re ⟨Z, Z, Z, Z, Z, Z, trivial⟩))) ?_
   clear hS a; intro a hS
   refine wp_block ?_
   refine wp_loop_ghost (fun kq => fun a w31 => ∃ (m0_0 : List Bool), ∃ (m0_1 : Int), ∃ (g31 : Nat → Nat), y1f.l0 p0 p2 kq m0_0 m0_1 = some o28 ∧ Sl 108 a [(0, i6 p0), (1, .slice A1 p1.length cap1), (2, .slice A2 p2.length cap2), (3, .bool p3), (11, .slice A19 m0_0.length cap20), (12, i6 m0_1)] ∧ OwS y4p 4 w31 g31 (N + 0) A19 cap20 m0_0 ∧ RdS y0r w31 g31 C1 A1 cap1 p1 ∧ RdS (kint .i64) w31 g31 C2 A2 cap2 p2 ∧ Fr (fun q => (r0 ≤ q ∧ q < r0 + 2) ∨ N ≤ q) w g w31 g31) FUEL ?_ ?_
   ·exact ⟨y17, 0, g24, H, hS.re ⟨Z, Z, Z, Z, Z, Z, trivial⟩, h21, hp1, hp2, hF⟩
   ·clear H
    clear hp1 hp2 h21 hF
    clear hS
    rintro k32 a w31 ⟨m0_0, m0_1, g31, hpre0, hS, h21, hp1, hp2, hF⟩
    have H := hpre0
    clear hpre0
    cases k32 with
    | zero => exact absurd H (by simp [y1f.l0])
    | succ k32 =>
     rw [y1f.l0] at H
     refine wp_seq ?_
     refine y16 [(0, i6 p0), (1, .slice A1 p1.length cap1), (2, .slice A2 p2.length cap2), (3, .bool p3), (11, .slice A19 m0_0.length cap20), (12, i6 m0_1), (30, .bool (decide (m0_1 < (p2.length : Int))))] (fun R hR => y00 hS Z Z Z (y03 hS Z Z) fun a33 S33 => y00 S33 Z Z Z (y03 S33 Z Z) fun a34 S34 => y00 S34 Z Z Z (y4x (e := 3) (sz := 1) (by_ := 8) S34 Z Z (by kernel_rfl)) fun a35 S35 => y00 S35 Z Z Z (y2l S35 Z Z rfl y4t) fun a36 S36 => wpList_nil (hR _ (S36.re ⟨Z, Z, Z, Z, Z, Z, Z, trivial⟩))) ?_
     clear hS a; intro a hS
     refine y2m hS Z (fun hb37 => ?_) (fun hb37 => ?_)
     ·replace H := y3f hb37 H
      refine wp_skip ?_
      change Code.wp _ _ _ _ _
      refine wp_seq ?_
      refine wp_block ?_
      refine wp_seq ?_
      obtain ⟨x40, hx41, H⟩ := y0b H
      refine y0t (fun K hK => ?_)
      refine y00 hS Z Z Z (y03 hS Z Z) fun a38 S38 => y00 S38 Z Z Z (y03 S38 Z Z) fun a39 S39 => y00 S39 Z Z Z (y1j (e := 3) (sz := 1) (by_ := 8) S39 Z Z Z (by kernel_rfl) (RdS.some_ hp2 hx41) (y26 hx41) (y27 hx41)) fun a42 S42 => y00 S42 Z Z Z (y0u (n := 1) S42 Z Z (by kernel_rfl) (RdS.cell (i := m0_1) (sz := 1) (j := 0) hp2 hx41 Z)) fun a43 S43 => y00 S43 Z Z Z (y2l S43 Z Z rfl y4t) fun a44 S44 => y00 S44 Z Z Z (y03 S44 Z Z) fun a45 S45 => ?_
      refine y4b (N := 108) 7 [(0, i6 p0), (1, .slice A1 p1.length cap1), (2, .slice A2 p2.length cap2), (3, .bool p3), (11, .slice A19 m0_0.length cap20), (12, i6 m0_1), (45, .bool ((decide (x40 < 0)) || (decide (p0 ≤ x40))))] ?_ (fun hk => ?_)
      rotate_left
      ·rcases Bool.eq_false_or_eq_true (decide (x40 < 0)) with hb46 | hb46
       ·refine y1c S45 (y05 S45 Z Z rfl hb46) Z Z fun a53 S53 => y1c S53 (y05 S53 Z Z rfl hb46) Z Z fun a54 S54 => y1c S54 (y05 S54 Z Z rfl hb46) Z Z fun a55 S55 => y1c S55 (y05 S55 Z Z rfl hb46) Z Z fun a56 S56 => y1c S56 (y05 S56 Z Z rfl hb46) Z Z fun a57 S57 => y1c S57 (y05 S57 Z Z rfl hb46) Z Z fun a58 S58 => y00 S58 Z Z Z (y2s S58 Z Z rfl hb46) fun a59 S59 => hk _ (S59.re ⟨rfl, rfl, rfl, rfl, rfl, rfl, (by rw [hb46]; rfl), trivial⟩)
       ·refine y0p S45 (y0a S45 Z Z rfl hb46) Z Z (y03 S45 Z Z) fun a60 S60 => y0p S60 (y0a S60 Z Z rfl hb46) Z Z (y03 S60 Z Z) fun a61 S61 => y0p S61 (y0a S61 Z Z rfl hb46) Z Z (y1j (e := 3) (sz := 1) (by_ := 8) S61 Z Z Z (by kernel_rfl) (RdS.some_ hp2 hx41) (y26 hx41) (y27 hx41)) fun a62 S62 => y0p S62 (y0a S62 Z Z rfl hb46) Z Z (y0u (n := 1) S62 Z Z (by kernel_rfl) (RdS.cell (i := m0_1) (sz := 1) (j := 0) hp2 hx41 Z)) fun a63 S63 => y0p S63 (y0a S63 Z Z rfl hb46) Z Z (y03 S63 Z Z) fun a64 S64 => y0p S64 (y0a S64 Z Z rfl hb46) Z Z (y2l S64 Z Z rfl b_geq) fun a65 S65 => y00 S65 Z Z Z (y2t S65 Z Z rfl hb46) fun a66 S66 => hk _ (S66.re ⟨rfl, rfl, rfl, rfl, rfl, rfl, (by rw [hb46]; rfl), trivial⟩)
      intro a67 S67
      refine wpList_nil (hK _ _ ?_)
      replace hS : Sl 108 _ [(0, i6 p0), (1, .slice A1 p1.length cap1), (2, .slice A2 p2.length cap2), (3, .bool p3), (11, .slice A19 m0_0.length cap20), (12, i6 m0_1), (45, .bool ((decide (x40 < 0)) || (decide (p0 ≤ x40))))] := S67.re ⟨Z, Z, Z, Z, Z, Z, Z, trivial⟩
      clear hK K
      try clear S38 S39 S42 S43 S44 S45 S67
      generalize a67 = a at hS ⊢
      refine y2m hS Z (fun hb68 => ?_) (fun hb68 => ?_)
      ·replace H := y3f hb68 H
       refine y16 [(8, .slice none 0 0), (9, i6 1)] (fun R hR => y00 hS Z Z Z (y02 hS Z Z) fun a69 S69 => y00 S69 Z Z Z (y02 S69 Z Z) fun a70 S70 => wpList_nil (hR _ (S70.re ⟨Z, Z, trivial⟩))) ?_
       clear hS a; intro a hS
       refine wp_ret ?_
       have e := Option.some.inj H
       subst e
       replace H := Fl.go_out Hl29
       have e := Option.some.inj H
       subst e
       repeat (with_reducible first | refine y1i ?_ | refine y0o ?_)
       exact y4d hS Try.results94 Z rfl ⟨_, rfl, g31, none, 0, rfl, OwS.nil (kint .i64) 3 w31 g31 r0, hF⟩
      ·replace H := y3g hb68 H
       refine wp_skip ?_
       change Code.wp _ _ _ _ _
       obtain ⟨x76, hx77, H⟩ := y0b H
       refine y3l (fun K hK => ?_)
       refine y00 hS Z Z Z (y03 hS Z Z) fun a71 S71 => y00 S71 Z Z Z (y03 S71 Z Z) fun a72 S72 => y00 S72 Z Z Z (y03 S72 Z Z) fun a73 S73 => y00 S73 Z Z Z (y1j (e := 3) (sz := 1) (by_ := 8) S73 Z Z Z (by kernel_rfl) (RdS.some_ hp2 hx41) (y26 hx41) (y27 hx41)) fun a74 S74 => y00 S74 Z Z Z (y0u (n := 1) S74 Z Z (by kernel_rfl) (RdS.cell (i := m0_1) (sz := 1) (j := 0) hp2 hx41 Z)) fun a75 S75 => y00 S75 Z Z Z (y1j (e := 4) (sz := 1) (by_ := 1) S75 Z Z Z (by kernel_rfl) (RdS.some_ (OwS.rd h21) hx77) (y26 hx77) (y27 hx77)) fun a78 S78 => ?_
       refine y3s S78 Z Z (y4l (n := 1) (bb := false) (kd := y4p) (j := 0) (x' := true) (us := [.bool true]) g31 S78 Z Z Z Z (by kernel_rfl) Z Z (by intro v hv; simp only [List.mem_cons, List.not_mem_nil, or_false] at hv; rcases hv with rfl <;> rfl) h21 hx77 Z (fun _ _ cs hR => by rw [show cs = _ from hR]; rfl)) ?_
       rintro a79 w80 g80 ⟨h21, F80⟩ S79
       replace hp1 := RdS.fr hp1 F80 (by decide) (fun q (hq : C1 q) (hm : q = N + 0) => by have := hC1 q hq; omega)
       replace hp2 := RdS.fr hp2 F80 (by decide) (fun q (hq : C2 q) (hm : q = N + 0) => by have := hC2 q hq; omega)
       replace hF := hF.trans F80 (fun c' (hm : c' = N + 0) => by (try dsimp only); omega)
       have hT : Sl 108 a79 [(0, i6 p0), (1, .slice A1 p1.length cap1), (2, .slice A2 p2.length cap2), (3, .bool p3), (11, .slice A19 m0_0.length cap20), (12, i6 m0_1)] := S79.re ⟨Z, Z, Z, Z, Z, Z, trivial⟩
       replace S79 : Sl 108 a79 [(0, i6 p0), (1, .slice A1 p1.length cap1), (2, .slice A2 p2.length cap2), (3, .bool p3), (11, .slice A19 (upd m0_0 x40 true).length cap20), (12, i6 m0_1)] := by simpa only [y1w] using hT
       clear hT
       refine wpList_nil (hK _ _ ?_)
       replace hS : Sl 108 _ [(0, i6 p0), (1, .slice A1 p1.length cap1), (2, .slice A2 p2.length cap2), (3, .bool p3), (11, .slice A19 (upd m0_0 x40 true).length cap20), (12, i6 m0_1)] := S79.re ⟨Z, Z, Z, Z, Z, Z, trivial⟩
       clear hK K
       try clear S71 S72 S73 S74 S75 S78 S79
       generalize a79 = a at hS ⊢
       change Code.wp _ _ _ _ _
       refine y3e [(0, i6 p0), (1, .slice A1 p1.length cap1), (2, .slice A2 p2.length cap2), (3, .bool p3), (11, .slice A19 (upd m0_0 x40 true).length cap20), (12, i6 (wi (m0_1 + 1)))] (fun R hR => y00 hS Z Z Z (y03 hS Z Z) fun a81 S81 => y00 S81 Z Z Z (y2l S81 Z Z rfl y4z) fun a82 S82 => y00 S82 Z Z Z (y02 S82 Z Z) fun a83 S83 => wpList_nil (hR _ (S83.re ⟨Z, Z, Z, Z, Z, Z, trivial⟩))) ?_
       clear hS a; intro a hS
       refine ⟨k32, Nat.lt_succ_self _, ?_⟩
       exact ⟨(upd m0_0 x40 true), wi (m0_1 + 1), g80, H, hS.re ⟨Z, Z, Z, Z, Z, Z, trivial⟩, h21, hp1, hp2, hF⟩
     ·replace H := y3g hb37 H
      refine wp_exit ?_
      have e := Option.some.inj H
      exact ⟨m0_0, g31, e.symm, hS.re ⟨Z, Z, Z, Z, trivial⟩, h21, hp1, hF⟩
  ·clear H
   clear hp1 hp2 h21 hF
   clear hS
   rintro a w26 ⟨v27, g26, hpre0, hS, h21, hp1, hF⟩
   subst hpre0
   have H := Fl.go_nxt Hl29
   clear Hl29
   obtain ⟨v85, H, Hl87⟩ := y0b H
   refine y4u (fun a w84 => ∃ (g84 : Nat → Nat), Sl 108 a [(0, i6 p0), (11, .slice A19 v85.length cap20)] ∧ OwS y4p 4 w84 g84 (N + 0) A19 cap20 v85 ∧ Fr (fun q => (r0 ≤ q ∧ q < r0 + 2) ∨ N ≤ q) w g w84 g84) ?_ ?_
   ·refine y16 [(0, i6 p0), (1, .slice A1 p1.length cap1), (3, .bool p3), (11, .slice A19 v27.length cap20), (13, i6 0)] (fun R hR => y00 hS Z Z Z (y02 hS Z Z) fun a88 S88 => wpList_nil (hR _ (S88.re ⟨Z, Z, Z, Z, Z, trivial⟩))) ?_
    clear hS a; intro a hS
    refine wp_block ?_
    refine wp_loop_ghost (fun kq => fun a w89 => ∃ (m1_0 : List Bool), ∃ (m1_1 : Int), ∃ (g89 : Nat → Nat), y1f.l1 p0 p1 p3 kq m1_0 m1_1 = some v85 ∧ Sl 108 a [(0, i6 p0), (1, .slice A1 p1.length cap1), (3, .bool p3), (11, .slice A19 m1_0.length cap20), (13, i6 m1_1)] ∧ OwS y4p 4 w89 g89 (N + 0) A19 cap20 m1_0 ∧ RdS y0r w89 g89 C1 A1 cap1 p1 ∧ Fr (fun q => (r0 ≤ q ∧ q < r0 + 2) ∨ N ≤ q) w g w89 g89) FUEL ?_ ?_
    ·exact ⟨v27, 0, g26, H, hS.re ⟨Z, Z, Z, Z, Z, trivial⟩, h21, hp1, hF⟩
    ·clear H
     clear hp1 h21 hF
     clear hS
     rintro k90 a w89 ⟨m1_0, m1_1, g89, hpre0, hS, h21, hp1, hF⟩
     have H := hpre0
     clear hpre0
     cases k90 with
     | zero => exact absurd H (by simp [y1f.l1])
     | succ k90 =>
      rw [y1f.l1] at H
      refine wp_seq ?_
      refine y16 [(0, i6 p0), (1, .slice A1 p1.length cap1), (3, .bool p3), (11, .slice A19 m1_0.length cap20), (13, i6 m1_1), (54, .bool (decide (m1_1 < p0)))] (fun R hR => y00 hS Z Z Z (y03 hS Z Z) fun a91 S91 => y00 S91 Z Z Z (y03 S91 Z Z) fun a92 S92 => y00 S92 Z Z Z (y2l S92 Z Z rfl y4t) fun a93 S93 => wpList_nil (hR _ (S93.re ⟨Z, Z, Z, Z, Z, Z, trivial⟩))) ?_
      clear hS a; intro a hS
      refine y2m hS Z (fun hb94 => ?_) (fun hb94 => ?_)
      ·replace H := y3f hb94 H
       refine wp_skip ?_
       change Code.wp _ _ _ _ _
       obtain ⟨v96, H, Hl98⟩ := y0b H
       refine y4u (fun a w95 => ∃ (g95 : Nat → Nat), Sl 108 a [(0, i6 p0), (1, .slice A1 p1.length cap1), (3, .bool p3), (11, .slice A19 v96.length cap20), (13, i6 m1_1)] ∧ OwS y4p 4 w95 g95 (N + 0) A19 cap20 v96 ∧ RdS y0r w95 g95 C1 A1 cap1 p1 ∧ Fr (fun q => (r0 ≤ q ∧ q < r0 + 2) ∨ N ≤ q) w g w95 g95) ?_ ?_
       ·refine wp_block ?_
        refine y16 [(0, i6 p0), (1, .slice A1 p1.length cap1), (3, .bool p3), (11, .slice A19 m1_0.length cap20), (13, i6 m1_1), (14, i6 0)] (fun R hR => y00 hS Z Z Z (y02 hS Z Z) fun a99 S99 => wpList_nil (hR _ (S99.re ⟨Z, Z, Z, Z, Z, Z, trivial⟩))) ?_
        clear hS a; intro a hS
        refine wp_block ?_
        refine wp_loop_ghost (fun kq => fun a w100 => ∃ (m2_0 : List Bool), ∃ (m2_1 : Int), ∃ (g100 : Nat → Nat), y1f.l2 p1 p3 kq m2_0 m2_1 = some v96 ∧ Sl 108 a [(0, i6 p0), (1, .slice A1 p1.length cap1), (3, .bool p3), (11, .slice A19 m2_0.length cap20), (13, i6 m1_1), (14, i6 m2_1)] ∧ OwS y4p 4 w100 g100 (N + 0) A19 cap20 m2_0 ∧ RdS y0r w100 g100 C1 A1 cap1 p1 ∧ Fr (fun q => (r0 ≤ q ∧ q < r0 + 2) ∨ N ≤ q) w g w100 g100) FUEL ?_ ?_
        ·exact ⟨m1_0, 0, g89, H, hS.re ⟨Z, Z, Z, Z, Z, Z, trivial⟩, h21, hp1, hF⟩
        ·clear H
         clear hp1 h21 hF
         clear hS
         rintro k101 a w100 ⟨m2_0, m2_1, g100, hpre0, hS, h21, hp1, hF⟩
         have H := hpre0
         clear hpre0
         cases k101 with
         | zero => exact absurd H (by simp [y1f.l2])
         | succ k101 =>
          rw [y1f.l2] at H
          refine wp_seq ?_
          refine y16 [(0, i6 p0), (1, .slice A1 p1.length cap1), (3, .bool p3), (11, .slice A19 m2_0.length cap20), (13, i6 m1_1), (14, i6 m2_1), (60, .bool (decide (m2_1 < (p1.length : Int))))] (fun R hR => y00 hS Z Z Z (y03 hS Z Z) fun a102 S102 => y00 S102 Z Z Z (y03 S102 Z Z) fun a103 S103 => y00 S103 Z Z Z (y4x (e := 67) (sz := 2) (by_ := 16) S103 Z Z (by kernel_rfl)) fun a104 S104 => y00 S104 Z Z Z (y2l S104 Z Z rfl y4t) fun a105 S105 => wpList_nil (hR _ (S105.re ⟨Z, Z, Z, Z, Z, Z, Z, trivial⟩))) ?_
          clear hS a; intro a hS
          refine y2m hS Z (fun hb106 => ?_) (fun hb106 => ?_)
          ·replace H := y3f hb106 H
           refine wp_skip ?_
           change Code.wp _ _ _ _ _
           obtain ⟨v108, H, Hl110⟩ := y0b H
           refine y4u (fun a w107 => ∃ (g107 : Nat → Nat), Sl 108 a [(0, i6 p0), (1, .slice A1 p1.length cap1), (3, .bool p3), (11, .slice A19 v108.length cap20), (13, i6 m1_1), (14, i6 m2_1)] ∧ OwS y4p 4 w107 g107 (N + 0) A19 cap20 v108 ∧ RdS y0r w107 g107 C1 A1 cap1 p1 ∧ Fr (fun q => (r0 ≤ q ∧ q < r0 + 2) ∨ N ≤ q) w g w107 g107) ?_ ?_
           ·refine wp_block ?_
            obtain ⟨x114, hx115, H⟩ := y0b H
            refine c_draw (fun K hK => y4m (fun q => False) g100 [] 12 (ba 0 12) (by kernel_rfl) Z Z (fun w111 hw111 => ?_))
            have F111 : Fr (fun _ => False) w100 g100 w111 g100 := by rw [hw111]; exact Fr.drew _ _ _
            replace h21 := OwS.fr h21 F111 (fun _ _ h => h)
            replace hp1 := RdS.fr hp1 F111 (by decide) (fun _ _ h => h)
            replace hF := hF.trans F111 (fun _ h => h.elim)
            have hC : Fr (fun q => False) w111 g100 w111 g100 := Fr.refl _ _ _
            refine y1b hS 0 (ba 1 11) Z Z Z Z (by kernel_rfl) (fun _ _ _ h => h) (fun _ => (y03 hS Z Z)) fun a112 S112 => y1b S112 1 (ba 2 10) Z Z Z Z (by kernel_rfl) (fun _ _ _ h => h) (fun _ => (y03 S112 Z Z)) fun a113 S113 => y1b S113 2 (ba 3 9) Z Z Z Z (by kernel_rfl) (fun _ _ _ h => h) (fun _ => (y1j (e := 67) (sz := 2) (by_ := 16) S113 Z Z Z (by kernel_rfl) (RdS.some_ hp1 hx115) (y26 hx115) (y27 hx115))) fun a116 S116 => y1b S116 3 (ba 4 8) Z Z Z Z (by kernel_rfl) (fun _ _ _ h => h) (fun _ => (y2w (off := 0) S116 Z Z (by kernel_rfl))) fun a117 S117 => y3w S117 4 (ba 5 7) Z Z Z Z (by kernel_rfl) (fun _ _ _ h => h) ⟨_, hC⟩ (fun w' g' Fz => (y0u (n := 1) S117 Z Z (by kernel_rfl) (RdS.cell (i := m2_1) (sz := 2) (j := 0) (RdS.fr hp1 Fz (by decide) (fun _ _ h => h)) hx115 Z))) fun a118 S118 => y1b S118 5 (ba 6 6) Z Z Z Z (by kernel_rfl) (fun _ _ _ h => h) (fun _ => (y03 S118 Z Z)) fun a119 S119 => y1b S119 6 (ba 7 5) Z Z Z Z (by kernel_rfl) (fun _ _ _ h => h) (fun _ => (y03 S119 Z Z)) fun a120 S120 => y1b S120 7 (ba 8 4) Z Z Z Z (by kernel_rfl) (fun _ _ _ h => h) (fun _ => (y1j (e := 67) (sz := 2) (by_ := 16) S120 Z Z Z (by kernel_rfl) (RdS.some_ hp1 hx115) (y26 hx115) (y27 hx115))) fun a121 S121 => y1b S121 8 (ba 9 3) Z Z Z Z (by kernel_rfl) (fun _ _ _ h => h) (fun _ => (y2w (off := 1) S121 Z Z (by kernel_rfl))) fun a122 S122 => y3w S122 9 (ba 10 2) Z Z Z Z (by kernel_rfl) (fun _ _ _ h => h) ⟨_, hC⟩ (fun w' g' Fz => (y0u (n := 1) S122 Z Z (by kernel_rfl) (RdS.cell (i := m2_1) (sz := 2) (j := 1) (RdS.fr hp1 Fz (by decide) (fun _ _ h => h)) hx115 Z))) fun a123 S123 => y1b S123 10 (ba 11 1) Z Z Z Z (by kernel_rfl) (fun _ _ _ h => h) (fun _ => (y02 S123 Z Z)) fun a124 S124 => y1b S124 11 (ba 12 0) Z Z Z Z (by kernel_rfl) (fun _ _ _ h => h) (fun _ => (y02 S124 Z Z)) fun a125 S125 => y4v (by kernel_rfl) (hK _ _ ?_)
            replace hS : Sl 108 _ [(0, i6 p0), (1, .slice A1 p1.length cap1), (3, .bool p3), (11, .slice A19 m2_0.length cap20), (13, i6 m1_1), (14, i6 m2_1), (15, i6 x114.Consumer), (16, i6 x114.Supplier)] := S125.re ⟨Z, Z, Z, Z, Z, Z, Z, Z, trivial⟩
            clear hK K hC
            try clear S112 S113 S116 S117 S118 S119 S120 S121 S122 S123 S124 S125
            generalize a125 = a at hS ⊢
            obtain ⟨v127, H, Hl129⟩ := y0b H
            refine y4u (fun a w126 => ∃ (g126 : Nat → Nat), Sl 108 a [(0, i6 p0), (1, .slice A1 p1.length cap1), (3, .bool p3), (11, .slice A19 v127.length cap20), (13, i6 m1_1), (14, i6 m2_1), (15, i6 x114.Consumer), (16, i6 x114.Supplier)] ∧ OwS y4p 4 w126 g126 (N + 0) A19 cap20 v127 ∧ RdS y0r w126 g126 C1 A1 cap1 p1 ∧ Fr (fun q => (r0 ≤ q ∧ q < r0 + 2) ∨ N ≤ q) w g w126 g126) ?_ ?_
            ·obtain ⟨t139, ht140, H⟩ := y0b H
             refine y0t (fun K hK => ?_)
             refine y00 hS Z Z Z (y03 hS Z Z) fun a130 S130 => y00 S130 Z Z Z (y03 S130 Z Z) fun a131 S131 => ?_
             refine y4b (N := 108) 5 [(0, i6 p0), (1, .slice A1 p1.length cap1), (3, .bool p3), (11, .slice A19 m2_0.length cap20), (13, i6 m1_1), (14, i6 m2_1), (15, i6 x114.Consumer), (16, i6 x114.Supplier), (79, .bool t139)] ?_ (fun hk => ?_)
             rotate_left
             ·rcases Bool.eq_false_or_eq_true (p3) with hb132 | hb132
              ·have H := y3f hb132 ht140
               obtain ⟨x143, hx144, H⟩ := y0b H
               have e147 := Option.some.inj H
               refine y0p S131 (y0a S131 Z Z rfl hb132) Z Z (y03 S131 Z Z) fun a141 S141 => y0p S141 (y0a S141 Z Z rfl hb132) Z Z (y03 S141 Z Z) fun a142 S142 => y0p S142 (y0a S142 Z Z rfl hb132) Z Z (y1j (e := 4) (sz := 1) (by_ := 1) S142 Z Z Z (by kernel_rfl) (RdS.some_ (OwS.rd h21) hx144) (y26 hx144) (y27 hx144)) fun a145 S145 => y0p S145 (y0a S145 Z Z rfl hb132) Z Z (y0u (n := 1) S145 Z Z (by kernel_rfl) (RdS.cell (i := x114.Consumer) (sz := 1) (j := 0) (OwS.rd h21) hx144 Z)) fun a146 S146 => y00 S146 Z Z Z (y2s S146 Z Z rfl hb132) fun a148 S148 => hk _ (S148.re ⟨rfl, rfl, rfl, rfl, rfl, rfl, rfl, rfl, (by rw [← e147]; rfl), trivial⟩)
              ·have H := y3g hb132 ht140
               have e149 := Option.some.inj H
               refine y1c S131 (y05 S131 Z Z rfl hb132) Z Z fun a150 S150 => y1c S150 (y05 S150 Z Z rfl hb132) Z Z fun a151 S151 => y1c S151 (y05 S151 Z Z rfl hb132) Z Z fun a152 S152 => y1c S152 (y05 S152 Z Z rfl hb132) Z Z fun a153 S153 => y00 S153 Z Z Z (y2t S153 Z Z rfl hb132) fun a154 S154 => hk _ (S154.re ⟨rfl, rfl, rfl, rfl, rfl, rfl, rfl, rfl, (by rw [← e149]; rfl), trivial⟩)
             intro a155 S155
             refine wpList_nil (hK _ _ ?_)
             replace hS : Sl 108 _ [(0, i6 p0), (1, .slice A1 p1.length cap1), (3, .bool p3), (11, .slice A19 m2_0.length cap20), (13, i6 m1_1), (14, i6 m2_1), (15, i6 x114.Consumer), (16, i6 x114.Supplier), (79, .bool t139)] := S155.re ⟨Z, Z, Z, Z, Z, Z, Z, Z, Z, trivial⟩
             clear hK K
             try clear S130 S131 S155
             generalize a155 = a at hS ⊢
             refine y2m hS Z (fun hb156 => ?_) (fun hb156 => ?_)
             ·replace H := y3f hb156 H
              obtain ⟨x159, hx160, H⟩ := y0b H
              refine y3l (fun K hK => ?_)
              refine y00 hS Z Z Z (y03 hS Z Z) fun a157 S157 => y00 S157 Z Z Z (y03 S157 Z Z) fun a158 S158 => y00 S158 Z Z Z (y1j (e := 4) (sz := 1) (by_ := 1) S158 Z Z Z (by kernel_rfl) (RdS.some_ (OwS.rd h21) hx160) (y26 hx160) (y27 hx160)) fun a161 S161 => ?_
              refine y3s S161 Z Z (y4l (n := 1) (bb := false) (kd := y4p) (j := 0) (x' := true) (us := [.bool true]) g100 S161 Z Z Z Z (by kernel_rfl) Z Z (by intro v hv; simp only [List.mem_cons, List.not_mem_nil, or_false] at hv; rcases hv with rfl <;> rfl) h21 hx160 Z (fun _ _ cs hR => by rw [show cs = _ from hR]; rfl)) ?_
              rintro a162 w163 g163 ⟨h21, F163⟩ S162
              replace hp1 := RdS.fr hp1 F163 (by decide) (fun q (hq : C1 q) (hm : q = N + 0) => by have := hC1 q hq; omega)
              replace hF := hF.trans F163 (fun c' (hm : c' = N + 0) => by (try dsimp only); omega)
              have hT : Sl 108 a162 [(0, i6 p0), (1, .slice A1 p1.length cap1), (3, .bool p3), (11, .slice A19 m2_0.length cap20), (13, i6 m1_1), (14, i6 m2_1), (15, i6 x114.Consumer), (16, i6 x114.Supplier)] := S162.re ⟨Z, Z, Z, Z, Z, Z, Z, Z, trivial⟩
              replace S162 : Sl 108 a162 [(0, i6 p0), (1, .slice A1 p1.length cap1), (3, .bool p3), (11, .slice A19 (upd m2_0 x114.Supplier true).length cap20), (13, i6 m1_1), (14, i6 m2_1), (15, i6 x114.Consumer), (16, i6 x114.Supplier)] := by simpa only [y1w] using hT
              clear hT
              refine wpList_nil (hK _ _ ?_)
              replace hS : Sl 108 _ [(0, i6 p0), (1, .slice A1 p1.length cap1), (3, .bool p3), (11, .slice A19 (upd m2_0 x114.Supplier true).length cap20), (13, i6 m1_1), (14, i6 m2_1), (15, i6 x114.Consumer), (16, i6 x114.Supplier)] := S162.re ⟨Z, Z, Z, Z, Z, Z, Z, Z, trivial⟩
              clear hK K
              try clear S157 S158 S161 S162
              generalize a162 = a at hS ⊢
              have e := Option.some.inj H
              subst e
              exact ⟨g163, hS.re ⟨Z, Z, Z, Z, Z, Z, Z, Z, trivial⟩, h21, hp1, hF⟩
             ·replace H := y3g hb156 H
              refine wp_skip ?_
              have e := Option.some.inj H
              subst e
              exact ⟨g100, hS.re ⟨Z, Z, Z, Z, Z, Z, Z, Z, trivial⟩, h21, hp1, hF⟩
            ·clear H
             clear hp1 h21 hF
             clear hS
             rintro a w126 ⟨g126, hS, h21, hp1, hF⟩
             have H := Hl129
             clear Hl129
             obtain ⟨t174, ht175, H⟩ := y0b H
             refine y0t (fun K hK => ?_)
             refine y00 hS Z Z Z (y03 hS Z Z) fun a164 S164 => y00 S164 Z Z Z (r_not S164 Z Z) fun a165 S165 => y00 S165 Z Z Z (y03 S165 Z Z) fun a166 S166 => ?_
             refine y4b (N := 108) 5 [(0, i6 p0), (1, .slice A1 p1.length cap1), (3, .bool p3), (11, .slice A19 v127.length cap20), (13, i6 m1_1), (14, i6 m2_1), (15, i6 x114.Consumer), (90, .bool t174)] ?_ (fun hk => ?_)
             rotate_left
             ·rcases Bool.eq_false_or_eq_true ((!p3)) with hb167 | hb167
              ·have H := y3f hb167 ht175
               obtain ⟨x178, hx179, H⟩ := y0b H
               have e182 := Option.some.inj H
               refine y0p S166 (y0a S166 Z Z rfl hb167) Z Z (y03 S166 Z Z) fun a176 S176 => y0p S176 (y0a S176 Z Z rfl hb167) Z Z (y03 S176 Z Z) fun a177 S177 => y0p S177 (y0a S177 Z Z rfl hb167) Z Z (y1j (e := 4) (sz := 1) (by_ := 1) S177 Z Z Z (by kernel_rfl) (RdS.some_ (OwS.rd h21) hx179) (y26 hx179) (y27 hx179)) fun a180 S180 => y0p S180 (y0a S180 Z Z rfl hb167) Z Z (y0u (n := 1) S180 Z Z (by kernel_rfl) (RdS.cell (i := x114.Supplier) (sz := 1) (j := 0) (OwS.rd h21) hx179 Z)) fun a181 S181 => y00 S181 Z Z Z (y2s S181 Z Z rfl hb167) fun a183 S183 => hk _ (S183.re ⟨rfl, rfl, rfl, rfl, rfl, rfl, rfl, (by rw [← e182]; rfl), trivial⟩)
              ·have H := y3g hb167 ht175
               have e184 := Option.some.inj H
               refine y1c S166 (y05 S166 Z Z rfl hb167) Z Z fun a185 S185 => y1c S185 (y05 S185 Z Z rfl hb167) Z Z fun a186 S186 => y1c S186 (y05 S186 Z Z rfl hb167) Z Z fun a187 S187 => y1c S187 (y05 S187 Z Z rfl hb167) Z Z fun a188 S188 => y00 S188 Z Z Z (y2t S188 Z Z rfl hb167) fun a189 S189 => hk _ (S189.re ⟨rfl, rfl, rfl, rfl, rfl, rfl, rfl, (by rw [← e184]; rfl), trivial⟩)
             intro a190 S190
             refine wpList_nil (hK _ _ ?_)
             replace hS : Sl 108 _ [(0, i6 p0), (1, .slice A1 p1.length cap1), (3, .bool p3), (11, .slice A19 v127.length cap20), (13, i6 m1_1), (14, i6 m2_1), (15, i6 x114.Consumer), (90, .bool t174)] := S190.re ⟨Z, Z, Z, Z, Z, Z, Z, Z, trivial⟩
             clear hK K
             try clear S164 S165 S166 S190
             generalize a190 = a at hS ⊢
             refine y2m hS Z (fun hb191 => ?_) (fun hb191 => ?_)
             ·replace H := y3f hb191 H
              obtain ⟨x194, hx195, H⟩ := y0b H
              refine y3l (fun K hK => ?_)
              refine y00 hS Z Z Z (y03 hS Z Z) fun a192 S192 => y00 S192 Z Z Z (y03 S192 Z Z) fun a193 S193 => y00 S193 Z Z Z (y1j (e := 4) (sz := 1) (by_ := 1) S193 Z Z Z (by kernel_rfl) (RdS.some_ (OwS.rd h21) hx195) (y26 hx195) (y27 hx195)) fun a196 S196 => ?_
              refine y3s S196 Z Z (y4l (n := 1) (bb := false) (kd := y4p) (j := 0) (x' := true) (us := [.bool true]) g126 S196 Z Z Z Z (by kernel_rfl) Z Z (by intro v hv; simp only [List.mem_cons, List.not_mem_nil, or_false] at hv; rcases hv with rfl <;> rfl) h21 hx195 Z (fun _ _ cs hR => by rw [show cs = _ from hR]; rfl)) ?_
              rintro a197 w198 g198 ⟨h21, F198⟩ S197
              replace hp1 := RdS.fr hp1 F198 (by decide) (fun q (hq : C1 q) (hm : q = N + 0) => by have := hC1 q hq; omega)
              replace hF := hF.trans F198 (fun c' (hm : c' = N + 0) => by (try dsimp only); omega)
              have hT : Sl 108 a197 [(0, i6 p0), (1, .slice A1 p1.length cap1), (3, .bool p3), (11, .slice A19 v127.length cap20), (13, i6 m1_1), (14, i6 m2_1)] := S197.re ⟨Z, Z, Z, Z, Z, Z, trivial⟩
              replace S197 : Sl 108 a197 [(0, i6 p0), (1, .slice A1 p1.length cap1), (3, .bool p3), (11, .slice A19 (upd v127 x114.Consumer true).length cap20), (13, i6 m1_1), (14, i6 m2_1)] := by simpa only [y1w] using hT
              clear hT
              refine wpList_nil (hK _ _ ?_)
              replace hS : Sl 108 _ [(0, i6 p0), (1, .slice A1 p1.length cap1), (3, .bool p3), (11, .slice A19 (upd v127 x114.Consumer true).length cap20), (13, i6 m1_1), (14, i6 m2_1)] := S197.re ⟨Z, Z, Z, Z, Z, Z, trivial⟩
              clear hK K
              try clear S192 S193 S196 S197
              generalize a197 = a at hS ⊢
              have e := Option.some.inj H
              subst e
              exact ⟨g198, hS.re ⟨Z, Z, Z, Z, Z, Z, trivial⟩, h21, hp1, hF⟩
             ·replace H := y3g hb191 H
              refine wp_skip ?_
              have e := Option.some.inj H
              subst e
              exact ⟨g126, hS.re ⟨Z, Z, Z, Z, Z, Z, trivial⟩, h21, hp1, hF⟩
           ·clear H
            clear hp1 h21 hF
            clear hS
            rintro a w107 ⟨g107, hS, h21, hp1, hF⟩
            have H := Hl110
            clear Hl110
            refine y3e [(0, i6 p0), (1, .slice A1 p1.length cap1), (3, .bool p3), (11, .slice A19 v108.length cap20), (13, i6 m1_1), (14, i6 (wi (m2_1 + 1)))] (fun R hR => y00 hS Z Z Z (y03 hS Z Z) fun a199 S199 => y00 S199 Z Z Z (y2l S199 Z Z rfl y4z) fun a200 S200 => y00 S200 Z Z Z (y02 S200 Z Z) fun a201 S201 => wpList_nil (hR _ (S201.re ⟨Z, Z, Z, Z, Z, Z, trivial⟩))) ?_
            clear hS a; intro a hS
            refine ⟨k101, Nat.lt_succ_self _, ?_⟩
            exact ⟨v108, wi (m2_1 + 1), g107, H, hS.re ⟨Z, Z, Z, Z, Z, Z, trivial⟩, h21, hp1, hF⟩
          ·replace H := y3g hb106 H
           refine wp_exit ?_
           have e := Option.some.inj H
           subst e
           exact ⟨g100, hS.re ⟨Z, Z, Z, Z, Z, trivial⟩, h21, hp1, hF⟩
       ·clear H
        clear hp1 h21 hF
        clear hS
        rintro a w95 ⟨g95, hS, h21, hp1, hF⟩
        have H := Hl98
        clear Hl98
        refine y3e [(0, i6 p0), (1, .slice A1 p1.length cap1), (3, .bool p3), (11, .slice A19 v96.length cap20), (13, i6 (wi (m1_1 + 1)))] (fun R hR => y00 hS Z Z Z (y03 hS Z Z) fun a202 S202 => y00 S202 Z Z Z (y2l S202 Z Z rfl y4z) fun a203 S203 => y00 S203 Z Z Z (y02 S203 Z Z) fun a204 S204 => wpList_nil (hR _ (S204.re ⟨Z, Z, Z, Z, Z, trivial⟩))) ?_
        clear hS a; intro a hS
        refine ⟨k90, Nat.lt_succ_self _, ?_⟩
        exact ⟨v96, wi (m1_1 + 1), g95, H, hS.re ⟨Z, Z, Z, Z, Z, trivial⟩, h21, hp1, hF⟩
      ·replace H := y3g hb94 H
       refine wp_exit ?_
       have e := Option.some.inj H
       subst e
       exact ⟨g89, hS.re ⟨Z, Z, trivial⟩, h21, hF⟩
   ·clear H
    clear hp1 h21 hF
    clear hS
    rintro a w84 ⟨g84, hS, h21, hF⟩
    have H := Hl87
    clear Hl87
    refine y16 [(0, i6 p0), (11, .slice A19 v85.length cap20), (17, .slice none 0 0)] (fun R hR => y00 hS Z Z Z (y02 hS Z Z) fun a205 S205 => wpList_nil (hR _ (S205.re ⟨Z, Z, Z, trivial⟩))) ?_
    clear hS a; intro a hS
    obtain ⟨v210, H, Hl212⟩ := y0b H
    refine y4u (fun a w206 => ∃ (g206 : Nat → Nat), ∃ (A207 : Option Addr), ∃ (cap208 : Nat), Sl 108 a [(17, .slice A207 v210.length cap208)] ∧ OwS (kint .i64) 3 w206 g206 (N + 4) A207 cap208 v210 ∧ Fr (fun q => (r0 ≤ q ∧ q < r0 + 2) ∨ N ≤ q) w g w206 g206) ?_ ?_
    ·refine y16 [(0, i6 p0), (11, .slice A19 v85.length cap20), (17, .slice none 0 0), (18, i6 0)] (fun R hR => y00 hS Z Z Z (y02 hS Z Z) fun a213 S213 => wpList_nil (hR _ (S213.re ⟨Z, Z, Z, Z, trivial⟩))) ?_
     clear hS a; intro a hS
     refine wp_block ?_
     refine wp_loop_ghost (fun kq => fun a w214 => ∃ (m3_0 : List Int), ∃ (m3_1 : Int), ∃ (g214 : Nat → Nat), ∃ (A215 : Option Addr), ∃ (cap216 : Nat), y1f.l3 p0 v85 kq m3_0 m3_1 = some v210 ∧ Sl 108 a [(0, i6 p0), (11, .slice A19 v85.length cap20), (17, .slice A215 m3_0.length cap216), (18, i6 m3_1)] ∧ OwS y4p 4 w214 g214 (N + 0) A19 cap20 v85 ∧ OwS (kint .i64) 3 w214 g214 (N + 4) A215 cap216 m3_0 ∧ Fr (fun q => (r0 ≤ q ∧ q < r0 + 2) ∨ N ≤ q) w g w214 g214) FUEL ?_ ?_
     ·exact ⟨[], 0, g84, none, 0, H, hS.re ⟨Z, Z, Z, Z, trivial⟩, h21, OwS.nil (kint .i64) 3 w84 g84 (N + 4), hF⟩
     ·clear H
      clear h21 hF
      clear hS
      rintro k218 a w214 ⟨m3_0, m3_1, g214, A215, cap216, hpre0, hS, h21, h217, hF⟩
      have H := hpre0
      clear hpre0
      cases k218 with
      | zero => exact absurd H (by simp [y1f.l3])
      | succ k218 =>
       rw [y1f.l3] at H
       refine wp_seq ?_
       refine y16 [(0, i6 p0), (11, .slice A19 v85.length cap20), (17, .slice A215 m3_0.length cap216), (18, i6 m3_1), (96, .bool (decide (m3_1 < p0)))] (fun R hR => y00 hS Z Z Z (y03 hS Z Z) fun a219 S219 => y00 S219 Z Z Z (y03 S219 Z Z) fun a220 S220 => y00 S220 Z Z Z (y2l S220 Z Z rfl y4t) fun a221 S221 => wpList_nil (hR _ (S221.re ⟨Z, Z, Z, Z, Z, trivial⟩))) ?_
       clear hS a; intro a hS
       refine y2m hS Z (fun hb222 => ?_) (fun hb222 => ?_)
       ·replace H := y3f hb222 H
        refine wp_skip ?_
        change Code.wp _ _ _ _ _
        obtain ⟨v227, H, Hl229⟩ := y0b H
        refine y4u (fun a w223 => ∃ (g223 : Nat → Nat), ∃ (A224 : Option Addr), ∃ (cap225 : Nat), Sl 108 a [(0, i6 p0), (11, .slice A19 v85.length cap20), (17, .slice A224 v227.length cap225), (18, i6 m3_1)] ∧ OwS y4p 4 w223 g223 (N + 0) A19 cap20 v85 ∧ OwS (kint .i64) 3 w223 g223 (N + 4) A224 cap225 v227 ∧ Fr (fun q => (r0 ≤ q ∧ q < r0 + 2) ∨ N ≤ q) w g w223 g223) ?_ ?_
        ·refine wp_block ?_
         obtain ⟨x232, hx233, H⟩ := y0b H
         refine y16 [(0, i6 p0), (11, .slice A19 v85.length cap20), (17, .slice A215 m3_0.length cap216), (18, i6 m3_1), (102, .bool x232)] (fun R hR => y00 hS Z Z Z (y03 hS Z Z) fun a230 S230 => y00 S230 Z Z Z (y03 S230 Z Z) fun a231 S231 => y00 S231 Z Z Z (y1j (e := 4) (sz := 1) (by_ := 1) S231 Z Z Z (by kernel_rfl) (RdS.some_ (OwS.rd h21) hx233) (y26 hx233) (y27 hx233)) fun a234 S234 => y00 S234 Z Z Z (y0u (n := 1) S234 Z Z (by kernel_rfl) (RdS.cell (i := m3_1) (sz := 1) (j := 0) (OwS.rd h21) hx233 Z)) fun a235 S235 => wpList_nil (hR _ (S235.re ⟨Z, Z, Z, Z, Z, trivial⟩))) ?_
         clear hS a; intro a hS
         refine y2m hS Z (fun hb236 => ?_) (fun hb236 => ?_)
         ·replace H := y3f hb236 H
          obtain ⟨y244, hy245, H⟩ := y0b H
          refine y3l (fun K hK => ?_)
          refine y00 hS Z Z Z (y03 hS Z Z) fun a237 S237 => y00 S237 Z Z Z (y03 S237 Z Z) fun a238 S238 => ?_
          refine y41 S238 Z Z Z (e_lit (e := 3) (parts := [(0, i6 m3_1)]) (cs := [i6 m3_1]) (kint .i64) [m3_1] (N + 2) g214 S238 Z Z (fun _ => by kernel_rfl) Z (by decide) (Rows.cons (cs := [i6 m3_1]) rfl Rows.nil)) ?_
          rintro _ a242 w243 g243 ⟨⟨A239, rfl, h240⟩, F243⟩ S242
          replace h21 := OwS.fr h21 F243 (fun _ _ h => h)
          replace h217 := OwS.fr h217 F243 (fun _ _ h => h)
          replace hF := hF.trans F243 (fun _ h => h.elim)
          refine y41 S242 Z Z Z (y4g (e := 3) (sz := 1) (by_ := 8) (z := [i6 0]) (kd := (kint .i64)) g243 S242 Z Z Z Z (by kernel_rfl) (by kernel_rfl) Z Z Z Z h217 (OwD.rdx h240) (fun _ _ _ h => h) hy245) ?_
          rintro _ a250 w251 g251 ⟨⟨A246, cap247, rfl, h248⟩, F251⟩ S250
          replace h21 := OwS.fr h21 F251 (fun c' hc (hm : c' = N + 4) => by omega)
          replace h240 := OwS.fr h240 F251 (fun c' hc (hm : c' = N + 4) => by omega)
          replace hF := hF.trans F251 (fun c' (hm : c' = N + 4) => by (try dsimp only); omega)
          refine y00 S250 Z Z Z (y02 S250 Z Z) fun a252 S252 => wpList_nil (hK _ _ ?_)
          replace hS : Sl 108 _ [(0, i6 p0), (11, .slice A19 v85.length cap20), (17, .slice A246 y244.length cap247), (18, i6 m3_1)] := S252.re ⟨Z, Z, Z, Z, trivial⟩
          clear hK K
          try clear S237 S238 S242 S250 S252
          generalize a252 = a at hS ⊢
          have e := Option.some.inj H
          subst e
          exact ⟨g251, A246, cap247, hS.re ⟨Z, Z, Z, Z, trivial⟩, h21, h248, hF⟩
         ·replace H := y3g hb236 H
          refine wp_skip ?_
          have e := Option.some.inj H
          subst e
          exact ⟨g214, A215, cap216, hS.re ⟨Z, Z, Z, Z, trivial⟩, h21, h217, hF⟩
        ·clear H
         clear h21 h217 hF
         clear hS
         rintro a w223 ⟨g223, A224, cap225, hS, h21, h226, hF⟩
         have H := Hl229
         clear Hl229
         refine y3e [(0, i6 p0), (11, .slice A19 v85.length cap20), (17, .slice A224 v227.length cap225), (18, i6 (wi (m3_1 + 1)))] (fun R hR => y00 hS Z Z Z (y03 hS Z Z) fun a253 S253 => y00 S253 Z Z Z (y2l S253 Z Z rfl y4z) fun a254 S254 => y00 S254 Z Z Z (y02 S254 Z Z) fun a255 S255 => wpList_nil (hR _ (S255.re ⟨Z, Z, Z, Z, trivial⟩))) ?_
         clear hS a; intro a hS
         refine ⟨k218, Nat.lt_succ_self _, ?_⟩
         exact ⟨v227, wi (m3_1 + 1), g223, A224, cap225, H, hS.re ⟨Z, Z, Z, Z, trivial⟩, h21, h226, hF⟩
       ·replace H := y3g hb222 H
        refine wp_exit ?_
        have e := Option.some.inj H
        subst e
        exact ⟨g214, A215, cap216, hS.re ⟨Z, trivial⟩, h217, hF⟩
    ·clear H
     clear h21 hF
     clear hS
     rintro a w206 ⟨g206, A207, cap208, hS, h209, hF⟩
     have H := Hl212
     clear Hl212
     refine y16 [(8, .slice A207 v210.length cap208), (9, i6 0)] (fun R hR => y00 hS Z Z Z (y03 hS Z Z) fun a256 S256 => y00 S256 Z Z Z (y02 S256 Z Z) fun a257 S257 => y00 S257 Z Z Z (y02 S257 Z Z) fun a258 S258 => wpList_nil (hR _ (S258.re ⟨Z, Z, trivial⟩))) ?_
     clear hS a; intro a hS
     refine wp_ret ?_
     have e := Option.some.inj H
     subst e
     have F259 := Fr.y2f w206 g206 (N + 4) r0
     replace h209 := h209.y2f r0
     replace hF := hF.trans F259 (fun c' (hm : c' = N + 4 ∨ c' = N + 4 + 1) => by (try dsimp only); omega)
     repeat (with_reducible first | refine y1i ?_ | refine y0o ?_)
     exact y4d hS Try.results94 Z rfl ⟨_, rfl, (y2f g206 (N + 4) r0), A207, cap208, rfl, h209, hF⟩


end Go.Proofs.Ytcfcffbjdjacfaa.Sim

namespace Go.Proofs.Ytcfcffbjdjacfaa.Sim
open Go
set_option linter.unusedVariables false
set_option linter.unusedSimpArgs false

/-! ### y4e: function 76 -/
def y4e.f (p0 : Int) (p1 : List y0g) (p2 : List Int) : Option ((List Int) × Int) := (y1f.f p0 p1 p2 true).bind fun r6 => some (r6.1, r6.2)
set_option maxRecDepth 100000 in
set_option maxHeartbeats 4000000 in
theorem y4e.calls {p0 : Int} {p1 : List y0g} {A1 : Option Addr} {cap1 : Nat} {C1 : Nat → Prop} {p2 : List Int} {A2 : Option Addr} {cap2 : Nat} {C2 : Nat → Prop} {w : World} {g : Nat → Nat} {out : (List Int) × Int} (N : Nat) (r0 : Nat) (hp1 : RdS y0r w g C1 A1 cap1 p1) (hC1 : ∀ c, C1 c → c < N) (hp2 : RdS (kint .i64) w g C2 A2 cap2 p2) (hC2 : ∀ c, C2 c → c < N) (hr0 : r0 + 2 ≤ N) (H : y4e.f p0 p1 p2 = some out) :
  Calls Try.prog 76 #[i6 p0, .slice A1 p1.length cap1, .slice A2 p2.length cap2] w (fun e w' => ∃ v, e = .returned v ∧ ∃ (g' : Nat → Nat) (A_r0 : Option Addr) (cap_r0 : Nat), v = .tuple #[.slice A_r0 out.1.length cap_r0, i6 out.2] ∧ OwS (kint .i64) 3 w' g' r0 A_r0 cap_r0 out.1 ∧ Fr (fun q => (r0 ≤ q ∧ q < r0 + 2) ∨ N ≤ q) w g w' g') := by
 unfold y4e.f at H
 refine y1k Try.func76 rfl Try.ntmps76 Z (fun a hS => ?_)
 replace hS : Sl 14 a [(0, i6 p0), (1, .slice A1 p1.length cap1), (2, .slice A2 p2.length cap2)] := hS
 have hF : Fr (fun q => (r0 ≤ q ∧ q < r0 + 2) ∨ N ≤ q) w g w g := Fr.refl _ _ _
 refine y16 [(0, i6 p0), (1, .slice A1 p1.length cap1), (2, .slice A2 p2.length cap2)] (fun R hR => y00 hS Z Z Z (y02 hS Z Z) fun a1 S1 => y00 S1 Z Z Z (y02 S1 Z Z) fun a2 S2 => wpList_nil (hR _ (S2.re ⟨Z, Z, Z, trivial⟩))) ?_
 clear hS a; intro a hS
 obtain ⟨r6, hr7, H⟩ := y0b H
 refine y0t (fun K hK => ?_)
 refine y00 hS Z Z Z (y03 hS Z Z) fun a3 S3 => y00 S3 Z Z Z (y03 S3 Z Z) fun a4 S4 => y00 S4 Z Z Z (y03 S4 Z Z) fun a5 S5 => ?_
 refine y1y S5 Z Z Z (y2z S5 Z Z (by kernel_rfl)) (y1f.calls (C1 := C1) (C2 := C2) (p0 := p0) (p1 := p1) (p2 := p2) (p3 := true) (g := g) (N + 2) (N + 0) hp1 (fun q (hq : C1 q) => by have := hC1 q hq; omega) hp2 (fun q (hq : C2 q) => by have := hC2 q hq; omega) (by omega) hr7) ?_
 rintro _ a12 w13 ⟨g13, A8, cap9, rfl, h10, F13⟩ S12
 replace hp1 := RdS.fr hp1 F13 (by decide) (fun q (hq : C1 q) (hm : (N + 0 ≤ q ∧ q < N + 0 + 2) ∨ N + 2 ≤ q) => by have := hC1 q hq; omega)
 replace hp2 := RdS.fr hp2 F13 (by decide) (fun q (hq : C2 q) (hm : (N + 0 ≤ q ∧ q < N + 0 + 2) ∨ N + 2 ≤ q) => by have := hC2 q hq; omega)
 replace hF := hF.trans F13 (fun c' (hm : (N + 0 ≤ c' ∧ c' < N + 0 + 2) ∨ N + 2 ≤ c') => by (try dsimp only); omega)
 refine y00 S12 Z Z Z (y1z S12 Z Z Z) fun a14 S14 => y00 S14 Z Z Z (y1z S14 Z Z Z) fun a15 S15 => y00 S15 Z Z Z (y02 S15 Z Z) fun a16 S16 => y00 S16 Z Z Z (y02 S16 Z Z) fun a17 S17 => wpList_nil (hK _ _ ?_)
 replace hS : Sl 14 _ [(6, .slice A8 r6.1.length cap9), (7, i6 r6.2)] := S17.re ⟨Z, Z, trivial⟩
 clear hK K
 try clear S3 S4 S5 S12 S14 S15 S16 S17
 generalize a17 = a at hS ⊢
 refine wp_ret ?_
 have e := Option.some.inj H
 subst e
 have F18 := Fr.y2f w13 g13 (N + 0) r0
 replace h10 := h10.y2f r0
 replace hF := hF.trans F18 (fun c' (hm : c' = N + 0 ∨ c' = N + 0 + 1) => by (try dsimp only); omega)
 repeat (with_reducible first | refine y1i ?_ | refine y0o ?_)
 exact y4d hS Try.results76 Z rfl ⟨_, rfl, (y2f g13 (N + 0) r0), A8, cap9, rfl, h10, hF⟩


end Go.Proofs.Ytcfcffbjdjacfaa.Sim
