/-
  Words of the walk for this seat's proofs, fourth file: regions that draw their order, calls, loops, joins.
  No condition: plain lemmas over any program.
-/
import Derived.Test.YtfiodhdldleocaaSimC
import Derived.Test.YtfiodhdldleocaaWLast
namespace Go.Proofs.Ytfiodhdldleocaa.Sim
open Go Go.Proofs.YtfiodhdldleocaaW.PrintLast

section
variable {P : Program} {ops : Array Oper} {Q : Exit → Act → World → Prop} {a : Act} {w w1 : World} {o : Oper} {N : Nat} {S : List (Nat × Value)} {d : Nat} {v : Value} {M : Nat → Prop} {g g1 : Nat → Nat} {ds : List Nat} {fuel i j k n : Nat} {l l' li lj lk : Array Bool}

/-- The worlds that may be met inside a region. -/
def Cls (M : Nat → Prop) (w1 : World) (g1 : Nat → Nat) (w : World) : Prop := ∃ g, Fr M w1 g1 w g

abbrev AnyD (P : Program) (ops : Array Oper) (Q : Exit → Act → World → Prop) (M : Nat → Prop) (w1 : World) (g1 : Nat → Nat) (ds : List Nat) (fuel : Nat) (l : Array Bool) (a : Act) (w : World) : Prop :=
  wpAnyLast P .any ops Q (Cls M w1 g1) ds fuel l a w

theorem d_start {id : Nat} (M : Nat → Prop) (g : Nat → Nat) (ds : List Nat) (n : Nat) (l : Array Bool) (hm : P.follows .mixedOrders = true) (hn : ops.size = n) (hl : Array.replicate n false = l)
    (h : ∀ w1, w1 = w.drew → AnyD P ops Q M w1 g ds n l a w1) : (Code.region id ops true).wp P Q a w :=
  start_ l hm hn hl ⟨g, Fr.refl _ _ _⟩ fun _ => h _ rfl

/-- An operation that yields in every world. -/
theorem d_pure (hS : Sl N a S) (i : Nat) (l' : Array Bool) (hi : ops[i]? = some o) (hg : o.guard = none) (hd : o.dst = some d) (hN : Nat.blt d N = true) (hc : anyB .any ops l l' i = true)
    (hQ : ∀ c a w, Q (.panic c) (a.put (some d) v) w → Q (.panic c) a w) (hr : ∀ w, (execOp a.eval o).run P w = .ok (.value v) w)
    (k : ∀ a', Sl N a' ((d, v) :: S) → AnyD P ops Q M w1 g1 ds fuel l' a' w) : AnyD P ops Q M w1 g1 ds (fuel + 1) l a w :=
  pure_ l' hi hd hc (fun c a w h => hQ c a w (hd ▸ h)) (.inl ⟨wanted_none hg _, hr⟩) rfl (k _ (hS.put hN v))

/-- An operation that reads. -/
theorem d_take (hS : Sl N a S) (i : Nat) (l' : Array Bool) (hi : ops[i]? = some o) (hg : o.guard = none) (hd : o.dst = some d) (hN : Nat.blt d N = true) (hc : takeB .any ops ds l l' i = true)
    (hQ : ∀ c a w, Q (.panic c) (a.put (some d) v) w → Q (.panic c) a w) (hw : Cls M w1 g1 w) (hr : ∀ w' g', Fr M w1 g1 w' g' → (execOp a.eval o).run P w' = .ok (.value v) w')
    (k : ∀ a', Sl N a' ((d, v) :: S) → AnyD P ops Q M w1 g1 ds fuel l' a' w) : AnyD P ops Q M w1 g1 ds (fuel + 1) l a w :=
  take_ l' hi hd hc (fun c a w h => hQ c a w (hd ▸ h)) (.inl ⟨wanted_none hg _, fun w' ⟨g', F⟩ => hr w' g' F⟩) hw rfl (k _ (hS.put hN v))

theorem d_pureW (hS : Sl N a S) (i : Nat) (l' : Array Bool) (hi : ops[i]? = some o) (hg : Region.wanted o (yielded ops a.tmps) = true) (hd : o.dst = some d) (hN : Nat.blt d N = true) (hc : anyB .any ops l l' i = true)
    (hQ : ∀ c a w, Q (.panic c) (a.put (some d) v) w → Q (.panic c) a w) (hr : ∀ w, (execOp a.eval o).run P w = .ok (.value v) w)
    (k : ∀ a', Sl N a' ((d, v) :: S) → AnyD P ops Q M w1 g1 ds fuel l' a' w) : AnyD P ops Q M w1 g1 ds (fuel + 1) l a w :=
  pure_ l' hi hd hc (fun c a w h => hQ c a w (hd ▸ h)) (.inl ⟨hg, hr⟩) rfl (k _ (hS.put hN v))
theorem d_takeW (hS : Sl N a S) (i : Nat) (l' : Array Bool) (hi : ops[i]? = some o) (hg : Region.wanted o (yielded ops a.tmps) = true) (hd : o.dst = some d) (hN : Nat.blt d N = true) (hc : takeB .any ops ds l l' i = true)
    (hQ : ∀ c a w, Q (.panic c) (a.put (some d) v) w → Q (.panic c) a w) (hw : Cls M w1 g1 w) (hr : ∀ w' g', Fr M w1 g1 w' g' → (execOp a.eval o).run P w' = .ok (.value v) w')
    (k : ∀ a', Sl N a' ((d, v) :: S) → AnyD P ops Q M w1 g1 ds fuel l' a' w) : AnyD P ops Q M w1 g1 ds (fuel + 1) l a w :=
  take_ l' hi hd hc (fun c a w h => hQ c a w (hd ▸ h)) (.inl ⟨hg, fun w' ⟨g', F⟩ => hr w' g' F⟩) hw rfl (k _ (hS.put hN v))
theorem d_off (hS : Sl N a S) (i : Nat) (l' : Array Bool) (hi : ops[i]? = some o) (hg : Region.wanted o (yielded ops a.tmps) = false) (hd : o.dst = some d) (hN : Nat.blt d N = true) (hc : anyB .any ops l l' i = true)
    (hQ : ∀ c a w, Q (.panic c) (a.put (some d) undef) w → Q (.panic c) a w)
    (k : ∀ a', Sl N a' ((d, undef) :: S) → AnyD P ops Q M w1 g1 ds fuel l' a' w) : AnyD P ops Q M w1 g1 ds (fuel + 1) l a w :=
  pure_ l' hi hd hc (fun c a w h => hQ c a w (hd ▸ h)) (.inr ⟨hg, rfl⟩) rfl (k _ (hS.put hN undef))
theorem d_join (fuel' : Nat) (l' : Array Bool) (S' : List (Nat × Value)) (k : ∀ a', Sl N a' S' → AnyD P ops Q M w1 g1 ds fuel' l' a' w) (h : (∀ a', Sl N a' S' → AnyD P ops Q M w1 g1 ds fuel' l' a' w) → AnyD P ops Q M w1 g1 ds fuel l a w) : AnyD P ops Q M w1 g1 ds fuel l a w := h k

/-- What is to be shown of an operation that may come up next and does more than read. -/
def Arm (P : Program) (ops : Array Oper) (Q : Exit → Act → World → Prop) (M : Nat → Prop) (w1 : World) (g1 : Nat → Nat) (ds : List Nat) (fuel : Nat) (l' : Array Bool) (oi : Oper) (i : Nat) (a : Act) (w : World) : Prop :=
  ∀ K : Act → World → Prop, (∀ a' w', (i ∉ ds → Cls M w1 g1 w → Cls M w1 g1 w') → AnyD P ops Q M w1 g1 ds fuel l' a' w' → K a' w') → if Region.wanted oi (yielded ops a.tmps) = true then Oper.wp P oi a w K Q else K (a.put oi.dst undef) w

theorem Arm.wpOp {oi : Oper} (hi : ops[i]? = some oi) (h : Arm P ops Q M w1 g1 ds fuel (l.setIfInBounds i true) oi i a w) :
    wpOp P ops Q i (fun a' w' => (i ∉ ds → Cls M w1 g1 w → Cls M w1 g1 w') ∧ wpAnyLast P .any ops Q (Cls M w1 g1) ds fuel (l.setIfInBounds i true) a' w') a w := by
  unfold Go.wpOp
  simp only [hi]
  have := h (fun a' w' => (i ∉ ds → Cls M w1 g1 w → Cls M w1 g1 w') ∧ wpAnyLast P .any ops Q (Cls M w1 g1) ds fuel (l.setIfInBounds i true) a' w') (fun _ _ h1 h2 => ⟨h1, h2⟩)
  split
  · rename_i hw; rw [if_pos hw] at this; exact .inl this
  · rename_i hw; rw [if_neg hw] at this; exact this

theorem d_one {oi : Oper} (i : Nat) (l' : Array Bool) (hi : ops[i]? = some oi) (hc : readyB .any ops l l' i = true) (h : Arm P ops Q M w1 g1 ds fuel l' oi i a w) : AnyD P ops Q M w1 g1 ds (fuel + 1) l a w := by
  simp only [readyB, Bool.and_eq_true, beq_iff_eq] at hc
  obtain ⟨h1, h2⟩ := hc
  subst h2
  exact wpAnyLast_all h1 (by simp) fun k hk => by
    have : k = i := by simpa using hk
    subst this
    exact Arm.wpOp hi h

theorem d_two {oi oj : Oper} (i j : Nat) (li lj : Array Bool) (hi : ops[i]? = some oi) (hj : ops[j]? = some oj) (hc : (Region.ready .any ops l == [i, j] && l.setIfInBounds i true == li && l.setIfInBounds j true == lj) = true)
    (h1 : Arm P ops Q M w1 g1 ds fuel li oi i a w) (h2 : Arm P ops Q M w1 g1 ds fuel lj oj j a w) : AnyD P ops Q M w1 g1 ds (fuel + 1) l a w := by
  simp only [Bool.and_eq_true, beq_iff_eq] at hc
  obtain ⟨⟨h3, h4⟩, h5⟩ := hc
  subst h4
  subst h5
  exact wpAnyLast_all h3 (by simp) fun k hk => by
    rcases List.mem_cons.1 hk with rfl | hk
    · exact Arm.wpOp hi h1
    · have : k = j := by simpa using hk
      subst this
      exact Arm.wpOp hj h2

theorem d_three {oi oj ok : Oper} (i j k : Nat) (li lj lk : Array Bool) (hi : ops[i]? = some oi) (hj : ops[j]? = some oj) (hk : ops[k]? = some ok)
    (hc : (Region.ready .any ops l == [i, j, k] && l.setIfInBounds i true == li && l.setIfInBounds j true == lj && l.setIfInBounds k true == lk) = true)
    (h1 : Arm P ops Q M w1 g1 ds fuel li oi i a w) (h2 : Arm P ops Q M w1 g1 ds fuel lj oj j a w) (h3 : Arm P ops Q M w1 g1 ds fuel lk ok k a w) : AnyD P ops Q M w1 g1 ds (fuel + 1) l a w := by
  simp only [Bool.and_eq_true, beq_iff_eq] at hc
  obtain ⟨⟨⟨h4, h5⟩, h6⟩, h7⟩ := hc
  subst h5
  subst h6
  subst h7
  exact wpAnyLast_all h4 (by simp) fun m hm => by
    rcases List.mem_cons.1 hm with rfl | hm
    · exact Arm.wpOp hi h1
    · rcases List.mem_cons.1 hm with rfl | hm
      · exact Arm.wpOp hj h2
      · have : m = k := by simpa using hm
        subst this
        exact Arm.wpOp hk h3

theorem d_done (hr : (Region.ready .any ops l == []) = true) (h : Q .normal a w) : AnyD P ops Q M w1 g1 ds n l a w := done_ hr h

theorem arm_eff {R : Value → World → (Nat → Nat) → Prop} (hS : Sl N a S) (hg : o.guard = none) (hd : o.dst = some d) (hN : Nat.blt d N = true) (hr : Eff P a o w R) (hM : ∀ v w' g', R v w' g' → Cls M w1 g1 w → Cls M w1 g1 w')
    (k : ∀ v a' w' g', R v w' g' → Sl N a' ((d, v) :: S) → AnyD P ops Q M w1 g1 ds fuel l' a' w') : Arm P ops Q M w1 g1 ds fuel l' o i a w := by
  intro K hK
  obtain ⟨v, w', g', h1, h2⟩ := hr
  rw [if_pos (wanted_none hg _)]
  unfold Oper.wp
  rw [h1, Oper.upon_value, hd]
  exact hK _ _ (fun _ => hM v w' g' h2) (k v _ w' g' h2 (hS.put hN v))

theorem arm_effS {R : World → (Nat → Nat) → Prop} (hS : Sl N a S) (hg : o.guard = none) (hd : o.dst = none) (hr : EffS P a o w R) (hM : i ∈ ds ∨ ∀ w' g', R w' g' → Cls M w1 g1 w → Cls M w1 g1 w')
    (k : ∀ a' w' g', R w' g' → Sl N a' S → AnyD P ops Q M w1 g1 ds fuel l' a' w') : Arm P ops Q M w1 g1 ds fuel l' o i a w := by
  intro K hK
  obtain ⟨w', g', h1, h2⟩ := hr
  rw [if_pos (wanted_none hg _)]
  unfold Oper.wp
  rw [h1, Oper.upon_skip, hd]
  refine hK _ _ (fun hn hw => ?_) (k _ w' g' h2 (hS.put_none _))
  rcases hM with h | h
  · exact absurd h hn
  · exact h w' g' h2 hw

theorem arm_call {f : FuncId} {args : Array Value} {R : Value → World → Prop} (hS : Sl N a S) (hg : o.guard = none) (hd : o.dst = some d) (hN : Nat.blt d N = true)
    (hr : (execOp a.eval o).run P w = .ok (.enter f args) w) (hc : Calls P f args w (fun e w' => ∃ v, e = .returned v ∧ R v w')) (hM : ∀ v w', R v w' → Cls M w1 g1 w → Cls M w1 g1 w')
    (k : ∀ v a' w', R v w' → Sl N a' ((d, v) :: S) → AnyD P ops Q M w1 g1 ds fuel l' a' w') : Arm P ops Q M w1 g1 ds fuel l' o i a w := by
  intro K hK
  rw [if_pos (wanted_none hg _)]
  unfold Oper.wp
  rw [hr, Oper.upon_enter]
  refine hc.mono fun e w' h => ?_
  obtain ⟨v, rfl, h⟩ := h
  rw [hd]
  exact hK _ _ (fun _ => hM v w' h) (k v _ w' h (hS.put hN v))

end

/-! ### cells of flat elements and of boxes -/

section
variable {w : World} {g : Nat → Nat} {C : Nat → Prop} {A : Option Addr} {cap : Nat}

theorem RdS.cell {α : Type} {sz : Nat} {enc : α → List Value} {hl : ∀ x, (enc x).length = sz} {h1 : ∀ x, ∀ v ∈ enc x, v.oneCell' = true} {xs : List α} {i : Int} {x : α} {j : Nat} {u : Value}
    (h : RdS (flat sz enc hl h1) w g C A cap xs) (hi : idx xs i = some x) (hj : (enc x)[j]? = some u) : w.cell? (ea A (i.toNat * sz + j)) = some u := by
  obtain ⟨cs, hR, hc, _⟩ := h.at_ hi
  have hR' : cs = enc x := hR
  subst hR'
  exact hc j u hj

theorem RdS.cells_off {α : Type} {sz : Nat} {enc : α → List Value} {hl : ∀ x, (enc x).length = sz} {h1 : ∀ x, ∀ v ∈ enc x, v.oneCell' = true} {xs : List α} {i : Int} {x : α}
    (h : RdS (flat sz enc hl h1) w g C A cap xs) (hi : idx xs i = some x) (o n : Nat) : ∀ j u, (((enc x).drop o).take n)[j]? = some u → w.cell? ((ea A (i.toNat * sz + o)).add j) = some u := by
  intro j u hu
  rw [List.getElem?_take] at hu
  split at hu
  · rw [List.getElem?_drop] at hu
    have := h.cell hi hu
    rwa [ea_add, Nat.add_assoc]
  · cases hu

theorem RdS.some_ {α : Type} {k : Kd α} {xs : List α} {i : Int} {x : α} (h : RdS k w g C A cap xs) (hi : idx xs i = some x) : ∃ ad, A = some ad := by
  obtain ⟨_, _, _, _, h⟩ := h.at_ hi
  exact h

theorem idx_lo {α : Type} {xs : List α} {i : Int} {x : α} (h : idx xs i = some x) : 0 ≤ i := (idx_some h).1
theorem idx_hi {α : Type} {xs : List α} {i : Int} {x : α} (h : idx xs i = some x) : i < (xs.length : Int) := (idx_some h).2.1

theorem Bx.cells_off {c b : Nat} {T : TypeId} {cs : List Value} (h : Bx w g c b T cs) (o n : Nat) : ∀ j u, ((cs.drop o).take n)[j]? = some u → w.cell? ((⟨b, o, none⟩ : Addr).add j) = some u := by
  intro j u hu
  rw [List.getElem?_take] at hu
  split at hu
  · rw [List.getElem?_drop] at hu
    have := h.cell hu
    rwa [Addr.add_lit]
  · cases hu

end

/-! ### joins, loops, ends -/

section
variable {P : Program} {Q : Exit → Act → World → Prop} {a : Act} {w : World} {N : Nat} {S : List (Nat × Value)}

theorem c_region {id : Nat} {l : List Oper} {y : Code} (h : ∀ K : Act → World → Prop, (∀ a w, y.wp P Q a w → K a w) → wpList P l.toArray (Exit.then K Q) l a w) : (Code.seq (.region id l.toArray false) y).wp P Q a w :=
  wp_seq_k fun K hK => wp_region_lit (h K hK)

theorem c_pure {id : Nat} {l : List Oper} {y : Code} (S' : List (Nat × Value)) (h : ∀ R : Act → World → Prop, (∀ a', Sl N a' S' → R a' w) → wpList P l.toArray (Exit.then R Q) l a w) (k : ∀ a', Sl N a' S' → y.wp P Q a' w) :
    (Code.seq (.region id l.toArray false) y).wp P Q a w :=
  c_region fun K hK => h K (fun a' hS => hK _ _ (k a' hS))

theorem c_draw {id : Nat} {ops : Array Oper} {y : Code} (h : ∀ K : Act → World → Prop, (∀ a w, y.wp P Q a w → K a w) → (Code.region id ops true).wp P (Exit.then K Q) a w) : (Code.seq (.region id ops true) y).wp P Q a w :=
  wp_seq_k h

theorem c_if {c : Operand} {x y z : Code} {t : Bool} (hS : Sl N a S) (hc : ev S c = some (.bool t)) (h1 : t = true → x.wp P (Exit.then (z.wp P Q) Q) a w) (h2 : t = false → y.wp P (Exit.then (z.wp P Q) Q) a w) :
    (Code.seq (.cond c x y) z).wp P Q a w :=
  wp_seq (wp_cond_split (hS.ev hc) h1 h2)

theorem c_block {id : Nat} {c y : Code} (h : c.wp P (Exit.inBlock id (Exit.then (y.wp P Q) Q)) a w) : (Code.seq (.block id c) y).wp P Q a w := wp_seq (wp_block h)

theorem c_region1 {id : Nat} {l : List Oper} (h : ∀ K : Act → World → Prop, (∀ a w, Q .normal a w → K a w) → wpList P l.toArray (Exit.then K Q) l a w) : (Code.region id l.toArray false).wp P Q a w :=
  wp_mono (wp_region_lit (h _ (fun _ _ h => h))) fun e a w q => by
    cases e with
    | normal => exact q
    | _ => exact q

theorem c_pure1 {id : Nat} {l : List Oper} (S' : List (Nat × Value)) (h : ∀ R : Act → World → Prop, (∀ a', Sl N a' S' → R a' w) → wpList P l.toArray (Exit.then R Q) l a w) (k : ∀ a', Sl N a' S' → Q .normal a' w) :
    (Code.region id l.toArray false).wp P Q a w :=
  c_region1 fun K hK => h K (fun a' hS => hK _ _ (k a' hS))

theorem c_draw1 {id : Nat} {ops : Array Oper} (h : ∀ K : Act → World → Prop, (∀ a w, Q .normal a w → K a w) → (Code.region id ops true).wp P (Exit.then K Q) a w) : (Code.region id ops true).wp P Q a w :=
  wp_mono (h _ (fun _ _ h => h)) fun e a w q => by
    cases e with
    | normal => exact q
    | _ => exact q

/-- Ways that meet: what follows is shown once. -/
theorem g_join {ops : Array Oper} {l : List Oper} (n : Nat) (S' : List (Nat × Value)) (k : ∀ a', Sl N a' S' → wpList P ops Q (l.drop n) a' w) (h : (∀ a', Sl N a' S' → wpList P ops Q (l.drop n) a' w) → wpList P ops Q l a w) : wpList P ops Q l a w := h k

theorem g_joinR {ops : Array Oper} {l : List Oper} (n : Nat) (R : Act → World → Prop) (k : ∀ a' w', R a' w' → wpList P ops Q (l.drop n) a' w') (h : (∀ a' w', R a' w' → wpList P ops Q (l.drop n) a' w') → wpList P ops Q l a w) : wpList P ops Q l a w := h k

theorem c_cut {x y : Code} (R : Act → World → Prop) (h : x.wp P (Exit.then R Q) a w) (k : ∀ a w, R a w → y.wp P Q a w) : (Code.seq x y).wp P Q a w :=
  wp_seq (wp_mono h (fun e a w q => by
    cases e with
    | normal => exact k a w q
    | _ => exact q))

theorem c_cond {c : Operand} {x y : Code} {t : Bool} (hS : Sl N a S) (hc : ev S c = some (.bool t)) (h1 : t = true → x.wp P Q a w) (h2 : t = false → y.wp P Q a w) : (Code.cond c x y).wp P Q a w :=
  wp_cond_split (hS.ev hc) h1 h2

theorem c_cut1 {x : Code} (R : Act → World → Prop) (h : x.wp P (Exit.then R Q) a w) (k : ∀ a w, R a w → Q .normal a w) : x.wp P Q a w :=
  wp_mono h (fun e a w q => by
    cases e with
    | normal => exact k a w q
    | _ => exact q)

theorem c_ret1 {fn : Func} {R : Ending → World → Prop} {t : Tmp} {v : Value} (hS : Sl N a S) (hr : fn.results = #[.tmp t]) (hv : lk S t = some v) (h : R (.returned v) w) : bodyPost P fn R .ret a w := by
  refine bodyPost_ret (v := v) ?_ hS.defs h
  rw [results_tmp hr]
  have := hS.get t v hv
  simp [Array.getD_eq_getD_getElem?, this]

theorem c_ret2 {fn : Func} {R : Ending → World → Prop} {t u : Tmp} {v z : Value} (hS : Sl N a S) (hr : fn.results = #[.tmp t, .tmp u]) (hv : lk S t = some v) (hz : lk S u = some z) (h : R (.returned (.tuple #[v, z])) w) : bodyPost P fn R .ret a w := by
  refine bodyPost_ret (v := .tuple #[v, z]) ?_ hS.defs h
  rw [results_tmp2 hr]
  have h1 := hS.get t v hv
  have h2 := hS.get u z hz
  simp [Array.getD_eq_getD_getElem?, h1, h2]

theorem c_ret3 {fn : Func} {R : Ending → World → Prop} {t u s : Tmp} {v z y : Value} (hS : Sl N a S) (hr : fn.results = #[.tmp t, .tmp u, .tmp s]) (hv : lk S t = some v) (hz : lk S u = some z) (hy : lk S s = some y) (h : R (.returned (.tuple #[v, z, y])) w) : bodyPost P fn R .ret a w := by
  refine bodyPost_ret (v := .tuple #[v, z, y]) ?_ hS.defs h
  have h1 := hS.get t v hv
  have h2 := hS.get u z hz
  have h3 := hS.get s y hy
  simp [results, hr, Array.getD_eq_getD_getElem?, h1, h2, h3]

end

theorem ite_t {α : Type} {b : Bool} {x y z : α} (h : b = true) (H : (if b = true then x else y) = z) : x = z := by rwa [if_pos h] at H
theorem ite_f {α : Type} {b : Bool} {x y z : α} (h : b = false) (H : (if b = true then x else y) = z) : y = z := by rwa [if_neg (by rw [h]; exact Bool.false_ne_true)] at H

/-- What a piece of a printed function comes to that may leave its surroundings. -/
inductive Fl (ρ σ : Type) where
  | out (x : ρ)
  | nxt (y : σ)

def Fl.go {ρ σ : Type} (o : Fl ρ σ) (f : σ → Option ρ) : Option ρ :=
  match o with
  | .out x => some x
  | .nxt y => f y

theorem Fl.go_nxt {ρ σ : Type} {y : σ} {f : σ → Option ρ} {z : Option ρ} (h : (Fl.nxt y).go f = z) : f y = z := h
theorem Fl.go_out {ρ σ : Type} {x : ρ} {f : σ → Option ρ} {z : Option ρ} (h : (Fl.out x : Fl ρ σ).go f = z) : some x = z := h
theorem nz_el {α : Type} {y : Int} {o : Option α} {r : α} (h : (if y = 0 then none else o) = some r) : y ≠ 0 ∧ o = some r := by
  by_cases e : y = 0
  · rw [if_pos e] at h; cases h
  · rw [if_neg e] at h; exact ⟨e, h⟩

theorem calls_enter {P : Program} {f : FuncId} {fn : Func} {c : Code} {args : List Value} {n : Nat} {w : World} {R : Ending → World → Prop} (hf : P.funcs[f]? = some fn) (hb : fn.body = some c) (hn : fn.ntmps = n) (hle : Nat.ble args.length n = true)
    (h : ∀ a, Sl n a (number 0 args) → c.wp P (bodyPost P fn R) a w) : Calls P f args.toArray w R := by
  subst hn
  exact calls_of_wp hf hb (h _ (Sl.enter fn.ntmps args hle))

theorem then_ret {K : Act → World → Prop} {Q : Exit → Act → World → Prop} {a : Act} {w : World} (h : Q .ret a w) : Exit.then K Q .ret a w := h
theorem inBlock_ret {i : Nat} {Q : Exit → Act → World → Prop} {a : Act} {w : World} (h : Q .ret a w) : Exit.inBlock i Q .ret a w := h

def FUEL : Nat := 18446744073709551616

end Go.Proofs.Ytfiodhdldleocaa.Sim
