/-
  Words of the walk for this seat's proofs, fifth file: arrays, elements with addresses, parts of slices, a return without a result.
  The arrays' part is printed by wip/tools/mkE.py.
-/
import Derived.Test.YtfiodhdldleocaaSimD
namespace Go.Proofs.Ytfiodhdldleocaa.Sim
open Go
set_option linter.unusedVariables false

/-! ### arrays of a fixed length -/

structure Ar2 (α : Type) where
  a0 : α
  a1 : α
deriving DecidableEq
def Ar2.l {α : Type} (x : Ar2 α) : List α := [x.a0, x.a1]
def Ar2.put {α : Type} (x : Ar2 α) (i : Int) (v : α) : Option (Ar2 α) := if i = 0 then some { x with a0 := v } else if i = 1 then some { x with a1 := v } else none
theorem Ar2.put_cases {α : Type} {x y : Ar2 α} {i : Int} {v : α} (h : x.put i v = some y) : (i = 0 ∧ y = { x with a0 := v }) ∨ (i = 1 ∧ y = { x with a1 := v }) := by
  unfold Ar2.put at h
  repeat' split at h
  all_goals first | (cases h; done) | (injection h with h; subst h; simp_all)
theorem Ar2.put_lt {α : Type} {x y : Ar2 α} {i : Int} {v : α} (h : x.put i v = some y) : 0 ≤ i ∧ i < (2 : Int) := by
  rcases Ar2.put_cases h with ⟨e, _⟩ | ⟨e, _⟩ <;> omega
theorem Ar2.lt {α : Type} {x : Ar2 α} {i : Int} {v : α} (h : idx x.l i = some v) : i < (2 : Int) := (idx_some h).2.1
theorem Ar2.cases {α : Type} {x : Ar2 α} {i : Int} {v : α} (h : idx x.l i = some v) : (i = 0 ∧ v = x.a0) ∨ (i = 1 ∧ v = x.a1) := by
  obtain ⟨h0, h1, h2⟩ := idx_some h
  have h1' : i < (2 : Int) := h1
  have hi : i = 0 ∨ i = 1 := by omega
  rcases hi with e | e
  all_goals subst e
  · exact .inl ⟨rfl, (Option.some.inj h2).symm⟩
  · exact .inr (⟨rfl, (Option.some.inj h2).symm⟩)

structure Ar3 (α : Type) where
  a0 : α
  a1 : α
  a2 : α
deriving DecidableEq
def Ar3.l {α : Type} (x : Ar3 α) : List α := [x.a0, x.a1, x.a2]
def Ar3.put {α : Type} (x : Ar3 α) (i : Int) (v : α) : Option (Ar3 α) := if i = 0 then some { x with a0 := v } else if i = 1 then some { x with a1 := v } else if i = 2 then some { x with a2 := v } else none
theorem Ar3.put_cases {α : Type} {x y : Ar3 α} {i : Int} {v : α} (h : x.put i v = some y) : (i = 0 ∧ y = { x with a0 := v }) ∨ (i = 1 ∧ y = { x with a1 := v }) ∨ (i = 2 ∧ y = { x with a2 := v }) := by
  unfold Ar3.put at h
  repeat' split at h
  all_goals first | (cases h; done) | (injection h with h; subst h; simp_all)
theorem Ar3.put_lt {α : Type} {x y : Ar3 α} {i : Int} {v : α} (h : x.put i v = some y) : 0 ≤ i ∧ i < (3 : Int) := by
  rcases Ar3.put_cases h with ⟨e, _⟩ | ⟨e, _⟩ | ⟨e, _⟩ <;> omega
theorem Ar3.lt {α : Type} {x : Ar3 α} {i : Int} {v : α} (h : idx x.l i = some v) : i < (3 : Int) := (idx_some h).2.1
theorem Ar3.cases {α : Type} {x : Ar3 α} {i : Int} {v : α} (h : idx x.l i = some v) : (i = 0 ∧ v = x.a0) ∨ (i = 1 ∧ v = x.a1) ∨ (i = 2 ∧ v = x.a2) := by
  obtain ⟨h0, h1, h2⟩ := idx_some h
  have h1' : i < (3 : Int) := h1
  have hi : i = 0 ∨ i = 1 ∨ i = 2 := by omega
  rcases hi with e | e | e
  all_goals subst e
  · exact .inl ⟨rfl, (Option.some.inj h2).symm⟩
  · exact .inr (.inl ⟨rfl, (Option.some.inj h2).symm⟩)
  · exact .inr (.inr (⟨rfl, (Option.some.inj h2).symm⟩))

structure Ar4 (α : Type) where
  a0 : α
  a1 : α
  a2 : α
  a3 : α
deriving DecidableEq
def Ar4.l {α : Type} (x : Ar4 α) : List α := [x.a0, x.a1, x.a2, x.a3]
def Ar4.put {α : Type} (x : Ar4 α) (i : Int) (v : α) : Option (Ar4 α) := if i = 0 then some { x with a0 := v } else if i = 1 then some { x with a1 := v } else if i = 2 then some { x with a2 := v } else if i = 3 then some { x with a3 := v } else none
theorem Ar4.put_cases {α : Type} {x y : Ar4 α} {i : Int} {v : α} (h : x.put i v = some y) : (i = 0 ∧ y = { x with a0 := v }) ∨ (i = 1 ∧ y = { x with a1 := v }) ∨ (i = 2 ∧ y = { x with a2 := v }) ∨ (i = 3 ∧ y = { x with a3 := v }) := by
  unfold Ar4.put at h
  repeat' split at h
  all_goals first | (cases h; done) | (injection h with h; subst h; simp_all)
theorem Ar4.put_lt {α : Type} {x y : Ar4 α} {i : Int} {v : α} (h : x.put i v = some y) : 0 ≤ i ∧ i < (4 : Int) := by
  rcases Ar4.put_cases h with ⟨e, _⟩ | ⟨e, _⟩ | ⟨e, _⟩ | ⟨e, _⟩ <;> omega
theorem Ar4.lt {α : Type} {x : Ar4 α} {i : Int} {v : α} (h : idx x.l i = some v) : i < (4 : Int) := (idx_some h).2.1
theorem Ar4.cases {α : Type} {x : Ar4 α} {i : Int} {v : α} (h : idx x.l i = some v) : (i = 0 ∧ v = x.a0) ∨ (i = 1 ∧ v = x.a1) ∨ (i = 2 ∧ v = x.a2) ∨ (i = 3 ∧ v = x.a3) := by
  obtain ⟨h0, h1, h2⟩ := idx_some h
  have h1' : i < (4 : Int) := h1
  have hi : i = 0 ∨ i = 1 ∨ i = 2 ∨ i = 3 := by omega
  rcases hi with e | e | e | e
  all_goals subst e
  · exact .inl ⟨rfl, (Option.some.inj h2).symm⟩
  · exact .inr (.inl ⟨rfl, (Option.some.inj h2).symm⟩)
  · exact .inr (.inr (.inl ⟨rfl, (Option.some.inj h2).symm⟩))
  · exact .inr (.inr (.inr (⟨rfl, (Option.some.inj h2).symm⟩)))

structure Ar6 (α : Type) where
  a0 : α
  a1 : α
  a2 : α
  a3 : α
  a4 : α
  a5 : α
deriving DecidableEq
def Ar6.l {α : Type} (x : Ar6 α) : List α := [x.a0, x.a1, x.a2, x.a3, x.a4, x.a5]
def Ar6.put {α : Type} (x : Ar6 α) (i : Int) (v : α) : Option (Ar6 α) := if i = 0 then some { x with a0 := v } else if i = 1 then some { x with a1 := v } else if i = 2 then some { x with a2 := v } else if i = 3 then some { x with a3 := v } else if i = 4 then some { x with a4 := v } else if i = 5 then some { x with a5 := v } else none
theorem Ar6.put_cases {α : Type} {x y : Ar6 α} {i : Int} {v : α} (h : x.put i v = some y) : (i = 0 ∧ y = { x with a0 := v }) ∨ (i = 1 ∧ y = { x with a1 := v }) ∨ (i = 2 ∧ y = { x with a2 := v }) ∨ (i = 3 ∧ y = { x with a3 := v }) ∨ (i = 4 ∧ y = { x with a4 := v }) ∨ (i = 5 ∧ y = { x with a5 := v }) := by
  unfold Ar6.put at h
  repeat' split at h
  all_goals first | (cases h; done) | (injection h with h; subst h; simp_all)
theorem Ar6.put_lt {α : Type} {x y : Ar6 α} {i : Int} {v : α} (h : x.put i v = some y) : 0 ≤ i ∧ i < (6 : Int) := by
  rcases Ar6.put_cases h with ⟨e, _⟩ | ⟨e, _⟩ | ⟨e, _⟩ | ⟨e, _⟩ | ⟨e, _⟩ | ⟨e, _⟩ <;> omega
theorem Ar6.lt {α : Type} {x : Ar6 α} {i : Int} {v : α} (h : idx x.l i = some v) : i < (6 : Int) := (idx_some h).2.1
theorem Ar6.cases {α : Type} {x : Ar6 α} {i : Int} {v : α} (h : idx x.l i = some v) : (i = 0 ∧ v = x.a0) ∨ (i = 1 ∧ v = x.a1) ∨ (i = 2 ∧ v = x.a2) ∨ (i = 3 ∧ v = x.a3) ∨ (i = 4 ∧ v = x.a4) ∨ (i = 5 ∧ v = x.a5) := by
  obtain ⟨h0, h1, h2⟩ := idx_some h
  have h1' : i < (6 : Int) := h1
  have hi : i = 0 ∨ i = 1 ∨ i = 2 ∨ i = 3 ∨ i = 4 ∨ i = 5 := by omega
  rcases hi with e | e | e | e | e | e
  all_goals subst e
  · exact .inl ⟨rfl, (Option.some.inj h2).symm⟩
  · exact .inr (.inl ⟨rfl, (Option.some.inj h2).symm⟩)
  · exact .inr (.inr (.inl ⟨rfl, (Option.some.inj h2).symm⟩))
  · exact .inr (.inr (.inr (.inl ⟨rfl, (Option.some.inj h2).symm⟩)))
  · exact .inr (.inr (.inr (.inr (.inl ⟨rfl, (Option.some.inj h2).symm⟩))))
  · exact .inr (.inr (.inr (.inr (.inr (⟨rfl, (Option.some.inj h2).symm⟩)))))


/-! ### an array's places -/

section
variable {P : Program} {a : Act} {w : World} {o : Oper} {N : Nat} {S : List (Nat × Value)}

/-- Of an array type: its length, its element type, an element's cells, whether an element is read as a whole. -/
def arrInfo (P : Program) (T : Nat) : Option (Nat × Nat × Nat × Bool) :=
  match P.underlying T with
  | some (.array n e) => match tsz P e with
    | some (sz, b) => some (n, e, sz, b)
    | none => none
  | _ => none

theorem arrInfo_spec {T n e sz : Nat} {b : Bool} (h : arrInfo P T = some (n, e, sz, b)) : P.underlying T = some (.array n e) ∧ tsz P e = some (sz, b) := by
  unfold arrInfo at h
  split at h
  · rename_i n' e' hu
    split at h
    · rename_i s' b' hi
      simp only [Option.some.injEq, Prod.mk.injEq] at h
      obtain ⟨rfl, rfl, rfl, rfl⟩ := h
      exact ⟨hu, hi⟩
    · cases h
  · cases h

theorem r_ix {T n e sz : Nat} {bb : Bool} {x y : Operand} {ad : Addr} {ik : IntKind} {i : Int} (hS : Sl N a S) (ho : o.op = .indexAddr T x y) (hx : ev S x = some (.pointer (some ad))) (hy : ev S y = some (.int ik i))
    (ht : arrInfo P T = some (n, e, sz, bb)) (h0 : 0 ≤ i) (h1 : i < (n : Int)) :
    (execOp a.eval o).run P w = .ok (.value (.pointer (some (ad.add (i.toNat * sz))))) w := by
  obtain ⟨hu, hts⟩ := arrInfo_spec ht
  have hsz := run_sizeOf (w := w) hts
  unfold execOp; simp only [ho, hS.ev hx, hS.ev hy]
  refine r_value ?_
  simp [Instr.indexAt, asIntOf, run_underlying hu, Instr.sureAddr, h0, h1, hsz]

theorem r_ixB {T n e sz b j : Nat} {bb : Bool} {x y : Operand} {ik : IntKind} {i : Int} (hS : Sl N a S) (ho : o.op = .indexAddr T x y) (hx : ev S x = some (.pointer (some ⟨b, j, none⟩))) (hy : ev S y = some (.int ik i))
    (ht : arrInfo P T = some (n, e, sz, bb)) (h0 : 0 ≤ i) (h1 : i < (n : Int)) :
    (execOp a.eval o).run P w = .ok (.value (.pointer (some ⟨b, j + i.toNat * sz, none⟩))) w := by
  have := r_ix (w := w) hS ho hx hy ht h0 h1
  rwa [Addr.add_lit] at this

theorem r_ixE {T n e sz j : Nat} {bb : Bool} {x y : Operand} {A : Option Addr} {ik : IntKind} {i : Int} (hS : Sl N a S) (ho : o.op = .indexAddr T x y) (hx : ev S x = some (.pointer (some (ea A j)))) (hy : ev S y = some (.int ik i))
    (ht : arrInfo P T = some (n, e, sz, bb)) (h0 : 0 ≤ i) (h1 : i < (n : Int)) :
    (execOp a.eval o).run P w = .ok (.value (.pointer (some (ea A (j + i.toNat * sz))))) w := by
  have := r_ix (w := w) hS ho hx hy ht h0 h1
  rwa [ea_add] at this

theorem r_at1 {T n e sz : Nat} {x y : Operand} {cs : List Value} {ik : IntKind} {i : Int} {v : Value} (hS : Sl N a S) (ho : o.op = .index T x y) (hx : ev S x = some (.agg cs.toArray)) (hy : ev S y = some (.int ik i))
    (ht : arrInfo P T = some (n, e, sz, false)) (h0 : 0 ≤ i) (h1 : i < (n : Int)) (hv : (cs.drop (i.toNat * sz)).take sz = [v]) :
    (execOp a.eval o).run P w = .ok (.value v) w := by
  obtain ⟨hu, hts⟩ := arrInfo_spec ht
  have hsz := run_sizeOf (w := w) hts
  have hag := run_isAgg (w := w) hts
  have hc : cs[i.toNat * sz]? = some v := by
    have h2 : ((cs.drop (i.toNat * sz)).take sz)[0]? = some v := by rw [hv]; rfl
    rw [List.getElem?_take] at h2
    split at h2
    · rw [List.getElem?_drop] at h2; simpa using h2
    · cases h2
  unfold execOp; simp only [ho, hS.ev hx, hS.ev hy]
  refine r_value ?_
  simp [Instr.index, asIntOf, run_underlying hu, h0, h1, hsz, part, hag, hc]

theorem r_atN {T n e sz : Nat} {x y : Operand} {cs es : List Value} {ik : IntKind} {i : Int} (hS : Sl N a S) (ho : o.op = .index T x y) (hx : ev S x = some (.agg cs.toArray)) (hy : ev S y = some (.int ik i))
    (ht : arrInfo P T = some (n, e, sz, true)) (h0 : 0 ≤ i) (h1 : i < (n : Int)) (hv : (cs.drop (i.toNat * sz)).take sz = es) :
    (execOp a.eval o).run P w = .ok (.value (.agg es.toArray)) w := by
  obtain ⟨hu, hts⟩ := arrInfo_spec ht
  have hsz := run_sizeOf (w := w) hts
  have hag := run_isAgg (w := w) hts
  unfold execOp; simp only [ho, hS.ev hx, hS.ev hy]
  refine r_value ?_
  subst hv
  simp [Instr.index, asIntOf, run_underlying hu, h0, h1, hsz, part, hag]

/-! ### parts of slices -/

def slc {α : Type} (xs : List α) (l h : Int) : Option (List α) := if 0 ≤ l ∧ l ≤ h ∧ h ≤ (xs.length : Int) then some ((xs.take h.toNat).drop l.toNat) else none

theorem slc_some {α : Type} {xs ys : List α} {l h : Int} (hh : slc xs l h = some ys) : 0 ≤ l ∧ l ≤ h ∧ h ≤ (xs.length : Int) ∧ ys = (xs.take h.toNat).drop l.toNat ∧ (ys.length : Int) = h - l := by
  unfold slc at hh
  split at hh
  · rename_i h0
    injection hh with hh; subst hh
    refine ⟨h0.1, h0.2.1, h0.2.2, rfl, ?_⟩
    simp only [List.length_drop, List.length_take]; omega
  · cases hh

def slA (A : Option Addr) (cap l sz : Nat) : Option Addr := if cap = l then A else A.map (·.add (l * sz))

theorem RdX.slc {α : Type} {k : Kd α} {g : Nat → Nat} {C D : Nat → Prop} {A : Option Addr} {cap : Nat} {xs ys : List α} {l h : Int} (hr : RdX k w g C D A cap xs) (hs : slc xs l h = some ys) : RdX k w g C D (slA A cap l.toNat k.sz) (cap - l.toNat) ys := by
  obtain ⟨h0, h1, h2, rfl, h3⟩ := slc_some hs
  have hc := hr.1
  refine ⟨by omega, fun i x hx => ?_⟩
  have hi : i < (List.drop l.toNat (List.take h.toNat xs)).length := by
    rcases Nat.lt_or_ge i (List.drop l.toNat (List.take h.toNat xs)).length with q | q
    · exact q
    · rw [List.getElem?_eq_none q] at hx; cases hx
  rw [List.getElem?_drop, List.getElem?_take] at hx
  split at hx
  · obtain ⟨ad, cs, rfl, hcc, hR, hcell⟩ := hr.2 _ x hx
    have hne : ¬ cap = l.toNat := by omega
    refine ⟨ad.add (l.toNat * k.sz), cs, by simp [slA, hne], by rw [add_block]; exact hcc, hR, fun j u hu => ?_⟩
    have := hcell j u hu
    rw [add_add]
    rwa [Nat.add_mul, Nat.add_assoc] at this
  · cases hx
theorem RdS.slc {α : Type} {k : Kd α} {g : Nat → Nat} {C : Nat → Prop} {A : Option Addr} {cap : Nat} {xs ys : List α} {l h : Int} (hr : RdS k w g C A cap xs) (hs : slc xs l h = some ys) : RdS k w g C (slA A cap l.toNat k.sz) (cap - l.toNat) ys := RdX.slc hr hs

theorem slA_zero (A : Option Addr) (cap sz : Nat) : slA A cap 0 sz = A := by
  unfold slA
  split
  · rfl
  · cases A <;> simp [Addr.add]

/-- The front of an own slice. -/
theorem OwD.slc0 {α : Type} {k : Kd α} {T : TypeId} {g : Nat → Nat} {c : Nat} {D : Nat → Prop} {A : Option Addr} {cap : Nat} {xs ys : List α} {h : Int} (hr : OwD k T w g c D A cap xs) (hs : slc xs 0 h = some ys) : OwD k T w g c D (slA A cap (0 : Int).toNat k.sz) (cap - (0 : Int).toNat) ys := by
  obtain ⟨h0, h1, h2, rfl, h3⟩ := slc_some hs
  show OwD k T w g c D (slA A cap 0 k.sz) (cap - 0) _
  rw [slA_zero, Nat.sub_zero]
  simp only [Int.toNat_zero, List.drop_zero] at h3 ⊢
  have hl : (xs.take h.toNat).length = h.toNat := by omega
  have hle : h.toNat ≤ xs.length := by omega
  refine ⟨by have := hr.1; omega, hr.2.1, ?_⟩
  rcases hr.2.2 with hn | ⟨b, arr, rfl, hb, hg, hs, hrow⟩
  · exact .inl hn
  · refine .inr ⟨b, arr, rfl, hb, hg, hs, ?_⟩
    have hmul : h.toNat * k.sz ≤ xs.length * k.sz := Nat.mul_le_mul_right _ hle
    have hlen := hrow.1
    simp only [List.length_take] at hlen
    refine ⟨by simp only [List.length_take, hl]; omega, fun i x hx => ?_⟩
    rw [List.getElem?_take] at hx
    split at hx
    · rename_i hi
      have h4 := hrow.2 i x hx
      have hb2 : (i + 1) * k.sz ≤ h.toNat * k.sz := Nat.mul_le_mul_right _ hi
      rw [Nat.add_mul, Nat.one_mul] at hb2
      have e2 : ((arr.toList.take ((xs.take h.toNat).length * k.sz)).drop (i * k.sz)).take k.sz = ((arr.toList.take (xs.length * k.sz)).drop (i * k.sz)).take k.sz := by
        apply List.ext_getElem?
        intro q
        rw [List.getElem?_take, List.getElem?_take]
        split
        · rw [List.getElem?_drop, List.getElem?_drop, List.getElem?_take, List.getElem?_take, hl, if_pos (by omega), if_pos (by omega)]
        · rfl
      rw [e2]; exact h4
    · cases hx
theorem OwS.slc0 {α : Type} {k : Kd α} {T : TypeId} {g : Nat → Nat} {c : Nat} {A : Option Addr} {cap : Nat} {xs ys : List α} {h : Int} (hr : OwS k T w g c A cap xs) (hs : slc xs 0 h = some ys) : OwS k T w g c (slA A cap (0 : Int).toNat k.sz) (cap - (0 : Int).toNat) ys := OwD.slc0 hr hs

/-- The operands of a slice expression. -/
def ebd (S : List (Nat × Value)) (d : Int) : Option Operand → Option Int
  | none => some d
  | some x => match ev S x with
    | some (.int _ i) => some i
    | _ => none

theorem r_slice {T e sz by_ cap : Nat} {x : Operand} {lo hi : Option Operand} {A : Option Addr} {l h : Int} {α : Type} {xs ys : List α} (hS : Sl N a S) (ho : o.op = .slice T x lo hi none) (hx : ev S x = some (.slice A xs.length cap))
    (ht : elemInfo P T = some (e, sz, by_)) (hl : ebd S 0 lo = some l) (hh : ebd S (xs.length : Int) hi = some h) (hs : slc xs l h = some ys) (hc : xs.length ≤ cap) :
    (execOp a.eval o).run P w = .ok (.value (.slice (slA A cap l.toNat sz) ys.length (cap - l.toNat))) w := by
  obtain ⟨hu, inf, hi2, hs2, _⟩ := elemInfo_spec ht
  obtain ⟨h0, h1, h2, _, h3⟩ := slc_some hs
  unfold execOp; simp only [ho, hS.ev hx]
  refine r_value ?_
  have e1 : ys.length = h.toNat - l.toNat := by omega
  have hlo : ∀ (m : Nat), (l : Int) ≤ m → (match lo.map a.eval with | some v => Instr.sliceBound v m .sliceB | none => pure 0).run P w = .ok l.toNat w := by
    intro m hm
    cases lo with
    | none => simp only [ebd, Option.some.injEq] at hl; subst hl; rfl
    | some y =>
      simp only [ebd] at hl
      split at hl
      · rename_i k i hy
        injection hl with hl; subst hl
        simp [hS.ev hy, Instr.sliceBound, asIntOf, h0, hm]
      · cases hl
  have hhi : (match hi.map a.eval with | some v => Instr.sliceBound v cap .sliceAcap | none => pure xs.length).run P w = .ok h.toNat w := by
    cases hi with
    | none => simp only [ebd, Option.some.injEq] at hh; subst hh; rfl
    | some y =>
      simp only [ebd] at hh
      split at hh
      · rename_i k i hy
        injection hh with hh; subst hh
        have q0 : 0 ≤ i := by omega
        have q1 : i ≤ (cap : Int) := by omega
        simp [hS.ev hy, Instr.sliceBound, asIntOf, q0, q1]
      · cases hh
  have hlo' := hlo h.toNat (by omega)
  have hb : (Instr.sliceBounds true xs.length cap (lo.map a.eval) (hi.map a.eval) none).run P w = .ok (l.toNat, h.toNat, cap) w := by
    unfold Instr.sliceBounds
    cases hlo2 : lo.map a.eval <;> cases hhi2 : hi.map a.eval <;> rw [hlo2] at hlo' <;> rw [hhi2] at hhi <;> simp at hlo' hhi ⊢ <;> simp [hlo', hhi]
  simp [Instr.sliceAt, Instr.slice, run_underlying hu, hb, sizeOf, typeInfo, hi2, hs2, slA, e1]

end

/-! ### elements that lead further -/

theorem RdX.szpos : True := trivial

/-- A slice's kind as an element. -/
def kslice {α : Type} (k : Kd α) (hk : 0 < k.sz) : Kd (List α) where
  sz := 1
  R := fun w g C xs cs => ∃ A cap, cs = [.slice A xs.length cap] ∧ RdS k w g C A cap xs
  len := by rintro w g C x cs ⟨A, cap, rfl, _⟩; rfl
  one := by rintro w g C x cs ⟨A, cap, rfl, _⟩ v hv; simp at hv; subst hv; rfl
  fr := by rintro M w g w' g' C x cs F hC ⟨A, cap, rfl, h⟩; exact ⟨A, cap, rfl, RdS.fr h F hk hC⟩
  re := by rintro w g g' C C' x cs h ⟨A, cap, rfl, h'⟩; exact ⟨A, cap, rfl, RdX.re h' hk h h⟩

/-- An element's cells, at the place o behind A. -/
def El (w : World) (g : Nat → Nat) (C : Nat → Prop) (A : Option Addr) (o : Nat) (cs : List Value) : Prop := (∀ j u, cs[j]? = some u → w.cell? (ea A (o + j)) = some u) ∧ C (g (ea A 0).block) ∧ 0 < cs.length

theorem El.cell {w : World} {g : Nat → Nat} {C : Nat → Prop} {A : Option Addr} {o : Nat} {cs : List Value} (h : El w g C A o cs) {j : Nat} {u : Value} (hj : cs[j]? = some u) : w.cell? (ea A (o + j)) = some u := h.1 j u hj

theorem El.fr {M C : Nat → Prop} {w w' : World} {g g' : Nat → Nat} {A : Option Addr} {o : Nat} {cs : List Value} (h : El w g C A o cs) (F : Fr M w g w' g') (hC : ∀ c, C c → ¬ M c) : El w' g' C A o cs := by
  obtain ⟨h1, h2, h3⟩ := h
  have h0 := h1 0 _ (List.getElem?_eq_getElem h3)
  have hb := World.block_lt_of_cell? w _ h0
  have hbl : ∀ n, (ea A n).block = (ea A 0).block := fun n => by simp [ea, add_block]
  rw [hbl] at hb
  refine ⟨fun j u hu => F.cell (h1 j u hu) (by rw [hbl]; exact hC _ h2), ?_, h3⟩
  rw [(F.block _ hb (hC _ h2)).2]; exact h2

theorem El.of {α : Type} {k : Kd α} {w : World} {g : Nat → Nat} {C D : Nat → Prop} {A : Option Addr} {cap : Nat} {xs : List α} {i : Int} {x : α} (hr : RdX k w g C D A cap xs) (hi : idx xs i = some x) (hsz : 0 < k.sz) : ∃ cs, k.R w g D x cs ∧ El w g C A (i.toNat * k.sz) cs := by
  obtain ⟨cs, hR, hc, hC, _⟩ := hr.at_ hi
  exact ⟨cs, hR, hc, hC, by rw [k.len hR]; exact hsz⟩

theorem El.cells_off {w : World} {g : Nat → Nat} {C : Nat → Prop} {A : Option Addr} {p : Nat} {cs : List Value} (h : El w g C A p cs) (o n : Nat) : ∀ j u, ((cs.drop o).take n)[j]? = some u → w.cell? ((ea A (p + o)).add j) = some u := by
  intro j u hu
  rw [List.getElem?_take] at hu
  split at hu
  · rw [List.getElem?_drop] at hu
    have := h.cell hu
    rwa [ea_add, Nat.add_assoc]
  · cases hu

/-- A part of a block or of an element at a place that is known only at run time. -/
theorem Bx.at_ {w : World} {g : Nat → Nat} {c b : Nat} {T : TypeId} {cs es : List Value} {p n : Nat} (h : Bx w g c b T cs) (he : (cs.drop p).take n = es) {j : Nat} {u : Value} (hj : es[j]? = some u) : w.cell? ⟨b, p + j, none⟩ = some u := by
  subst he
  rw [List.getElem?_take] at hj
  split at hj
  · rw [List.getElem?_drop] at hj; exact h.cell hj
  · cases hj
theorem Bx.atN {w : World} {g : Nat → Nat} {c b : Nat} {T : TypeId} {cs es : List Value} {p n : Nat} (h : Bx w g c b T cs) (he : (cs.drop p).take n = es) (o m : Nat) : ∀ j u, ((es.drop o).take m)[j]? = some u → w.cell? ((⟨b, p + o, none⟩ : Addr).add j) = some u := by
  intro j u hu
  rw [List.getElem?_take] at hu
  split at hu
  · rw [List.getElem?_drop] at hu
    have := h.at_ he hu
    rwa [Addr.add_lit, Nat.add_assoc]
  · cases hu
theorem El.at_ {w : World} {g : Nat → Nat} {C : Nat → Prop} {A : Option Addr} {f o q n : Nat} {cs es : List Value} (h : El w g C A f cs) (he : (cs.drop (o + q)).take n = es) {j : Nat} {u : Value} (hj : es[j]? = some u) : w.cell? (ea A (f + o + q + j)) = some u := by
  subst he
  rw [List.getElem?_take] at hj
  split at hj
  · rw [List.getElem?_drop] at hj
    have := h.cell hj
    rwa [show f + o + q + j = f + (o + q + j) from by omega]
  · cases hj
theorem El.atN {w : World} {g : Nat → Nat} {C : Nat → Prop} {A : Option Addr} {f o q n : Nat} {cs es : List Value} (h : El w g C A f cs) (he : (cs.drop (o + q)).take n = es) (p m : Nat) : ∀ j u, ((es.drop p).take m)[j]? = some u → w.cell? ((ea A (f + o + q + p)).add j) = some u := by
  intro j u hu
  rw [List.getElem?_take] at hu
  split at hu
  · rw [List.getElem?_drop] at hu
    have := h.at_ he hu
    rwa [ea_add, Nat.add_assoc]
  · cases hu

/-- Of a kind whose fact speaks of no memory. -/
theorem OwD.rdf {α : Type} {k : Kd α} {T : TypeId} {w : World} {g : Nat → Nat} {c : Nat} {D : Nat → Prop} {A : Option Addr} {cap : Nat} {xs : List α} (hk : ∀ (w : World) (g : Nat → Nat) (C C' : Nat → Prop) x cs, k.R w g C x cs → k.R w g C' x cs) (h : OwD k T w g c D A cap xs) : RdS k w g (· = c) A cap xs := by
  refine ⟨h.1, fun i x hx => ?_⟩
  obtain ⟨ad, cs, e, h1, h2, h3⟩ := h.rdx.2 i x hx
  exact ⟨ad, cs, e, h1, hk _ _ _ _ _ _ h2, h3⟩

theorem recol_eq (g : Nat → Nat) (c1 c2 b : Nat) : recol g c1 c2 b = if g b = c1 then c2 else g b := rfl

theorem RdS.recolC {α : Type} {k : Kd α} {w : World} {g : Nat → Nat} {C C' : Nat → Prop} {A : Option Addr} {cap : Nat} {xs : List α} (h : RdS k w g C A cap xs) (hsz : 0 < k.sz) (c1 c2 : Nat) (hC : ∀ q, C q → C' (if q = c1 then c2 else q)) : RdS k w (recol g c1 c2) C' A cap xs :=
  RdX.re h hsz (fun b _ hb => hC _ hb) (fun b _ hb => hC _ hb)
theorem El.recolC {w : World} {g : Nat → Nat} {C C' : Nat → Prop} {A : Option Addr} {o : Nat} {cs : List Value} (h : El w g C A o cs) (c1 c2 : Nat) (hC : ∀ q, C q → C' (if q = c1 then c2 else q)) : El w (recol g c1 c2) C' A o cs :=
  ⟨h.1, hC _ h.2.1, h.2.2⟩
theorem OwD.recolC {α : Type} {k : Kd α} {T : TypeId} {w : World} {g : Nat → Nat} {c : Nat} {D D' : Nat → Prop} {A : Option Addr} {cap : Nat} {xs : List α} (h : OwD k T w g c D A cap xs) (c1 c2 : Nat) (hc : c ≠ c1) (hD : ∀ q, D q → D' (if q = c1 then c2 else q)) : OwD k T w (recol g c1 c2) c D' A cap xs := by
  refine ⟨h.1, h.2.1, ?_⟩
  rcases h.2.2 with hn | ⟨b, arr, rfl, hb, hg, hs, hr⟩
  · exact .inl hn
  · exact .inr ⟨b, arr, rfl, hb, by rw [recol_eq, hg, if_neg hc], hs, hr.1, fun i x hx => k.re (fun b' _ e => hD _ e) (hr.2 i x hx)⟩

theorem e_storeW {P : Program} {a : Act} {w : World} {o : Oper} {N : Nat} {S : List (Nat × Value)} {D : Nat → Prop} {T n : Nat} {bb : Bool} {x y : Operand} {α : Type} {kd : Kd α} {E : TypeId} {c : Nat} {A : Option Addr} {cap : Nat} {xs : List α} {i : Int} {x0 x' : α} {u : Value} {us : List Value} {off : Nat} (g : Nat → Nat)
    (hS : Sl N a S) (ho : o.op = .store T x y) (hx : ev S x = some (.pointer (some (ea A off)))) (hoff : off = i.toNat * kd.sz)
    (hy : ev S y = some u) (ht : tsz P T = some (n, bb)) (hu : u.cells.toList = us) (hn : us.length = n) (hw : OwD kd E w g c D A cap xs) (hD : ∀ q, D q → q ≠ c) (hi : idx xs i = some x0)
    (hR : kd.R w g D x' us) :
    EffS P a o w fun w' g' => OwD kd E w' g' c D A cap (upd xs i x') ∧ Fr (fun q => q = c) w g w' g' := by
  have hl := kd.len hR
  refine e_storeD (j := 0) g hS ho hx (by omega) hy ht hu hn (kd.one hR) hw hD hi (by rw [Nat.zero_add, hl]; exact Nat.ble_self_eq_true _) (fun cs h0 => ?_)
  have hl0 := kd.len h0
  have : splice cs 0 us = us := by
    unfold splice
    rw [Nat.zero_add, List.take_zero, List.nil_append, List.drop_of_length_le (by omega), List.append_nil]
  rw [this]; exact hR

theorem c_ret0 {P : Program} {a : Act} {w : World} {N : Nat} {S : List (Nat × Value)} {fn : Func} {R : Ending → World → Prop} (hS : Sl N a S) (hr : fn.results = #[]) (h : R (.returned (.tuple #[])) w) : bodyPost P fn R .ret a w := by
  refine bodyPost_ret (v := .tuple #[]) ?_ hS.defs h
  simp [results, hr]

/-- The body's end, of a function without results. -/
theorem c_end0 {P : Program} {a : Act} {w : World} {N : Nat} {S : List (Nat × Value)} {fn : Func} {R : Ending → World → Prop} (hS : Sl N a S) (hr : fn.results = #[]) (h : R (.returned (.tuple #[])) w) : bodyPost P fn R .normal a w := by
  exact c_ret0 hS hr h

theorem inBlock_exit {i : Nat} {Q : Exit → Act → World → Prop} {a : Act} {w : World} (h : Q .normal a w) : Exit.inBlock i Q (.exit i) a w := by
  simp only [Exit.inBlock, if_true]; exact h
theorem inBlock_out {i j : Nat} {Q : Exit → Act → World → Prop} {a : Act} {w : World} (hn : ¬ j = i) (h : Q (.exit j) a w) : Exit.inBlock i Q (.exit j) a w := by
  simp only [Exit.inBlock, if_neg hn]; exact h
theorem then_exit {i : Nat} {K : Act → World → Prop} {Q : Exit → Act → World → Prop} {a : Act} {w : World} (h : Q (.exit i) a w) : Exit.then K Q (.exit i) a w := h
theorem inBlock_normal {i : Nat} {Q : Exit → Act → World → Prop} {a : Act} {w : World} (h : Q .normal a w) : Exit.inBlock i Q .normal a w := h

theorem st_effW {P : Program} {ops : Array Oper} {Q : Exit → Act → World → Prop} {a : Act} {w : World} {rest : List Oper} {o : Oper} {N : Nat} {S : List (Nat × Value)} {d : Nat} {R : Value → World → (Nat → Nat) → Prop} (hS : Sl N a S) (hw : Region.wanted o (yielded ops a.tmps) = true) (hd : o.dst = some d) (hN : Nat.blt d N = true) (hr : Eff P a o w R)
    (k : ∀ v a' w' g', R v w' g' → Sl N a' ((d, v) :: S) → wpList P ops Q rest a' w') : wpList P ops Q (o :: rest) a w := by
  obtain ⟨v, w', g', h1, h2⟩ := hr
  unfold wpList
  rw [if_pos hw]
  refine .inl ?_
  unfold Oper.wp
  rw [h1, Oper.upon_value, hd]
  exact k v _ w' g' h2 (hS.put hN v)

end Go.Proofs.Ytfiodhdldleocaa.Sim
