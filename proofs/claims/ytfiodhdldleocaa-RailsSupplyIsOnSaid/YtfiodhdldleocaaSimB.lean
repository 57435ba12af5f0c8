/-
  Words of the walk for this seat's proofs, second file: what each operation does, for operands that are known.
  No condition: plain lemmas over any program.
-/
import Derived.Test.YtfiodhdldleocaaSimA
namespace Go.Proofs.Ytfiodhdldleocaa.Sim
open Go

section
variable {P : Program} {a : Act} {w : World} {o : Oper} {N : Nat} {S : List (Nat × Value)}

theorem r_move {x : Operand} {v : Value} (hS : Sl N a S) (ho : o.op = .move x) (hx : ev S x = some v) : (execOp a.eval o).run P w = .ok (.value v) w := by
  unfold execOp; simp only [ho, hS.ev hx]; rfl
theorem r_assign {x : Operand} {v : Value} (hS : Sl N a S) (ho : o.op = .assign x) (hx : ev S x = some v) : (execOp a.eval o).run P w = .ok (.value v) w := by
  unfold execOp; simp only [ho, hS.ev hx]; rfl
theorem r_nil {x : Operand} {ad : Addr} (hS : Sl N a S) (ho : o.op = .nilCheck x) (hx : ev S x = some (.pointer (some ad))) :
    (execOp a.eval o).run P w = .ok (.value (.pointer (some ad))) w := by
  unfold execOp; simp only [ho, hS.ev hx]; rfl

theorem r_value {x : Sem Value} {v : Value} {w' : World} (h : x.run P w = .ok v w') : (do let y ← x; pure (Next.value y) : Sem Next).run P w = .ok (.value v) w' := by
  simp [h]

def fieldOff (P : Program) (T f : Nat) : Option Nat :=
  match P.underlying T with
  | some (.struct fs) => match fs[f]? with
    | some fd => match P.info? fd.type with
      | some i => if i.size = 0 then none else some fd.offset
      | none => none
    | none => none
  | _ => none

theorem run_fieldAt {T f off : Nat} {ad : Addr} (h : fieldOff P T f = some off) : (Instr.fieldAt T (.pointer (some ad)) f).run P w = .ok (.pointer (some (ad.add off))) w := by
  unfold fieldOff at h
  split at h
  · rename_i fs hu
    split at h
    · rename_i fd hf
      split at h
      · rename_i i hi
        split at h
        · cases h
        · rename_i hz
          injection h with h
          subst h
          simp [Instr.fieldAt, run_underlying hu, hf, Instr.sureAddr, fieldPlace, sizeOf, typeInfo, hi, hz]
      · cases h
    · cases h
  · cases h

theorem r_field {T f off : Nat} {x : Operand} {ad : Addr} (hS : Sl N a S) (ho : o.op = .fieldAddr T x f) (hx : ev S x = some (.pointer (some ad))) (hf : fieldOff P T f = some off) :
    (execOp a.eval o).run P w = .ok (.value (.pointer (some (ad.add off)))) w := by
  unfold execOp; simp only [ho, hS.ev hx]; exact r_value (run_fieldAt hf)
/-- .. of a block's own variable. -/
theorem r_fieldB {T f off b j : Nat} {x : Operand} (hS : Sl N a S) (ho : o.op = .fieldAddr T x f) (hx : ev S x = some (.pointer (some ⟨b, j, none⟩))) (hf : fieldOff P T f = some off) :
    (execOp a.eval o).run P w = .ok (.value (.pointer (some ⟨b, j + off, none⟩))) w := by
  have := r_field (w := w) hS ho hx hf
  rwa [Addr.add_lit] at this
/-- .. of an element. -/
theorem r_fieldE {T f off j : Nat} {A : Option Addr} {x : Operand} (hS : Sl N a S) (ho : o.op = .fieldAddr T x f) (hx : ev S x = some (.pointer (some (ea A j)))) (hf : fieldOff P T f = some off) :
    (execOp a.eval o).run P w = .ok (.value (.pointer (some (ea A (j + off))))) w := by
  have := r_field (w := w) hS ho hx hf
  rwa [ea_add] at this

/-- Of a slice type: its element type, an element's cells and bytes. -/
def elemInfo (P : Program) (T : Nat) : Option (Nat × Nat × Nat) :=
  match P.underlying T with
  | some (.slice e) => match P.info? e with
    | some i => some (e, i.size, i.bytes)
    | none => none
  | _ => none

theorem elemInfo_spec {T e sz by_ : Nat} (h : elemInfo P T = some (e, sz, by_)) : P.underlying T = some (.slice e) ∧ ∃ i, P.info? e = some i ∧ i.size = sz ∧ i.bytes = by_ := by
  unfold elemInfo at h
  split at h
  · rename_i e' hu
    split at h
    · rename_i i hi
      simp only [Option.some.injEq, Prod.mk.injEq] at h
      obtain ⟨rfl, h2, h3⟩ := h
      exact ⟨hu, i, hi, h2, h3⟩
    · cases h
  · cases h

theorem r_index {T e sz by_ n cap : Nat} {x y : Operand} {A : Option Addr} {ik : IntKind} {i : Int} (hS : Sl N a S) (ho : o.op = .indexAddr T x y) (hx : ev S x = some (.slice A n cap)) (hy : ev S y = some (.int ik i))
    (ht : elemInfo P T = some (e, sz, by_)) (hA : ∃ ad, A = some ad) (h0 : 0 ≤ i) (h1 : i < (n : Int)) :
    (execOp a.eval o).run P w = .ok (.value (.pointer (some (ea A (i.toNat * sz))))) w := by
  obtain ⟨hu, inf, hi, hs, _⟩ := elemInfo_spec ht
  obtain ⟨ad, rfl⟩ := hA
  unfold execOp; simp only [ho, hS.ev hx, hS.ev hy]
  refine r_value ?_
  simp [Instr.indexAt, asIntOf, run_underlying hu, h0, h1, sizeOf, typeInfo, hi, hs, ea]

/-- A type's cells, and whether a variable of it is read as a whole. -/
def tsz (P : Program) (T : Nat) : Option (Nat × Bool) :=
  match P.underlying T, P.info? T with
  | some d, some i => some (i.size, match d with | .struct _ | .array _ _ => true | _ => false)
  | _, _ => none

theorem tsz_spec {T n : Nat} {b : Bool} (h : tsz P T = some (n, b)) : ∃ d i, P.underlying T = some d ∧ P.info? T = some i ∧ i.size = n ∧ (match d with | .struct _ | .array _ _ => true | _ => false) = b := by
  unfold tsz at h
  split at h
  · rename_i d i hd hi
    simp only [Option.some.injEq, Prod.mk.injEq] at h
    exact ⟨d, i, hd, hi, h.1, h.2⟩
  · cases h

theorem run_isAgg {T n : Nat} {b : Bool} (h : tsz P T = some (n, b)) : (isAgg T).run P w = .ok b w := by
  obtain ⟨d, i, hd, hi, hn, hb⟩ := tsz_spec h
  unfold isAgg
  simp only [Sem.run_bind, run_underlying hd, Result.andThen_ok]
  subst hb
  cases d <;> rfl

theorem run_sizeOf {T n : Nat} {b : Bool} (h : tsz P T = some (n, b)) : (sizeOf T).run P w = .ok n w := by
  obtain ⟨d, i, hd, hi, hn, hb⟩ := tsz_spec h
  subst hn
  simp [sizeOf, typeInfo, hi]

theorem r_load1 {T : Nat} {x : Operand} {ad : Addr} {v : Value} {n : Nat} (hS : Sl N a S) (ho : o.op = .load T x) (hx : ev S x = some (.pointer (some ad))) (ht : tsz P T = some (n, false))
    (hc : w.cell? ad = some v) : (execOp a.eval o).run P w = .ok (.value v) w := by
  unfold execOp; simp only [ho, hS.ev hx]
  refine r_value ?_
  simp [Instr.loadAt, Instr.sureAddr, loadVar, run_isAgg ht, load, Sem.run, hc]

theorem r_loadN {T n : Nat} {x : Operand} {ad : Addr} {cs : List Value} (hS : Sl N a S) (ho : o.op = .load T x) (hx : ev S x = some (.pointer (some ad))) (ht : tsz P T = some (n, true))
    (hn : cs.length = n) (hc : ∀ j u, cs[j]? = some u → w.cell? (ad.add j) = some u) : (execOp a.eval o).run P w = .ok (.value (.agg cs.toArray)) w := by
  unfold execOp; simp only [ho, hS.ev hx]
  refine r_value ?_
  have := run_loadCells_list (P := P) w ad cs hc
  rw [hn] at this
  simp [Instr.loadAt, Instr.sureAddr, loadVar, run_isAgg ht, run_sizeOf ht, this]

theorem r_len {T : Nat} {x : Operand} {A : Option Addr} {n cap e sz by_ : Nat} (hS : Sl N a S) (ho : o.op = .call { callee := .builtin .len, args := #[x], argTypes := #[T] }) (hx : ev S x = some (.slice A n cap))
    (ht : elemInfo P T = some (e, sz, by_)) : (execOp a.eval o).run P w = .ok (.value (.int .i64 (n : Int))) w := by
  obtain ⟨hu, _⟩ := elemInfo_spec ht
  unfold execOp
  simp [ho, hS.ev hx, resolve, invoke, builtin, Builtin.len_, run_underlying hu, goInt]

theorem r_max {x y : Operand} {k : IntKind} {p q : Int} {ts : Array TypeId} (hS : Sl N a S) (ho : o.op = .call { callee := .builtin .max, args := #[x, y], argTypes := ts }) (hx : ev S x = some (.int k p)) (hy : ev S y = some (.int k q)) :
    (execOp a.eval o).run P w = .ok (.value (.int k (max p q))) w := by
  have e : (if q > p then q else p) = max p q := by omega
  unfold execOp
  simp [ho, hS.ev hx, hS.ev hy, resolve, invoke, builtin, Builtin.max_, Builtin.max2, ← e]
theorem r_min {x y : Operand} {k : IntKind} {p q : Int} {ts : Array TypeId} (hS : Sl N a S) (ho : o.op = .call { callee := .builtin .min, args := #[x, y], argTypes := ts }) (hx : ev S x = some (.int k p)) (hy : ev S y = some (.int k q)) :
    (execOp a.eval o).run P w = .ok (.value (.int k (min p q))) w := by
  have e : (if q < p then q else p) = min p q := by omega
  unfold execOp
  simp [ho, hS.ev hx, hS.ev hy, resolve, invoke, builtin, Builtin.min_, Builtin.min2, ← e]

/-! ### arithmetic and comparisons of whole numbers -/

theorem r_bin {op : BinOp} {t t' : Nat} {x y : Operand} {k : IntKind} {p q : Int} {r : Value} (hS : Sl N a S) (ho : o.op = .binOp op t x y t') (hx : ev S x = some (.int k p)) (hy : ev S y = some (.int k q))
    (hr : (binOp op t (.int k p) (.int k q)).run P w = .ok r w) : (execOp a.eval o).run P w = .ok (.value r) w := by
  unfold execOp
  simp only [ho, hS.ev hx, hS.ev hy, eqGuard_at_int]
  refine r_value ?_
  simpa using hr

theorem b_add {t : Nat} {k : IntKind} {p q : Int} : (binOp .add t (.int k p) (.int k q)).run P w = .ok (.int k (k.wrap (p + q))) w := by rw [binOp_add]; rfl
theorem b_sub {t : Nat} {k : IntKind} {p q : Int} : (binOp .sub t (.int k p) (.int k q)).run P w = .ok (.int k (k.wrap (p - q))) w := by rw [binOp_sub]; rfl
theorem b_mul {t : Nat} {k : IntKind} {p q : Int} : (binOp .mul t (.int k p) (.int k q)).run P w = .ok (.int k (k.wrap (p * q))) w := by rw [binOp_mul]; rfl
theorem b_quo {t : Nat} {k : IntKind} {p q : Int} (h : q ≠ 0) : (binOp .quo t (.int k p) (.int k q)).run P w = .ok (.int k (k.wrap (p.tdiv q))) w := by
  rw [binOp_quo]; simp [Op.intDiv, h]
theorem b_rem {t : Nat} {k : IntKind} {p q : Int} (h : q ≠ 0) : (binOp .rem t (.int k p) (.int k q)).run P w = .ok (.int k (p.tmod q)) w := by
  rw [binOp_rem]; simp [Op.intDiv, h]
theorem b_eql {t : Nat} {k : IntKind} {p q : Int} : (binOp .eql t (.int k p) (.int k q)).run P w = .ok (.bool (p == q)) w := by rw [binOp_eql]; rfl
theorem b_neq {t : Nat} {k : IntKind} {p q : Int} : (binOp .neq t (.int k p) (.int k q)).run P w = .ok (.bool (p != q)) w := by rw [binOp_neq]; rfl
theorem b_lss {t : Nat} {k : IntKind} {p q : Int} : (binOp .lss t (.int k p) (.int k q)).run P w = .ok (.bool (decide (p < q))) w := by rw [binOp_lss]; rfl
theorem b_leq {t : Nat} {k : IntKind} {p q : Int} : (binOp .leq t (.int k p) (.int k q)).run P w = .ok (.bool (decide (p ≤ q))) w := by rw [binOp_leq]; rfl
theorem b_gtr {t : Nat} {k : IntKind} {p q : Int} : (binOp .gtr t (.int k p) (.int k q)).run P w = .ok (.bool (decide (q < p))) w := by rw [binOp_gtr]; rfl
theorem b_geq {t : Nat} {k : IntKind} {p q : Int} : (binOp .geq t (.int k p) (.int k q)).run P w = .ok (.bool (decide (q ≤ p))) w := by rw [binOp_geq]; rfl

theorem r_binB {op : BinOp} {t t' : Nat} {x y : Operand} {p q : Bool} {r : Value} (hS : Sl N a S) (ho : o.op = .binOp op t x y t') (hx : ev S x = some (.bool p)) (hy : ev S y = some (.bool q))
    (hr : (binOp op t (.bool p) (.bool q)).run P w = .ok r w) : (execOp a.eval o).run P w = .ok (.value r) w := by
  unfold execOp
  simp only [ho, hS.ev hx, hS.ev hy, eqGuard_at_bool]
  refine r_value ?_
  simpa using hr
theorem b_eqlB {t : Nat} {p q : Bool} (hu : P.underlying t = some .bool) : (binOp .eql t (.bool p) (.bool q)).run P w = .ok (.bool (p == q)) w := run_eql_bool (P := P) (w := w) t p q hu
theorem b_neqB {t : Nat} {p q : Bool} (hu : P.underlying t = some .bool) : (binOp .neq t (.bool p) (.bool q)).run P w = .ok (.bool (!(p == q))) w := run_neq_bool (P := P) (w := w) t p q hu

/-- Is a pointer nil? -/
theorem r_ptrEq {t t' : Nat} {x : Operand} {p : Option Addr} (hS : Sl N a S) (ho : o.op = .binOp .eql t x (.const (.pointer none)) t') (hx : ev S x = some (.pointer p)) (hu : P.underlying t = some (.pointer (P.pointee t))) :
    (execOp a.eval o).run P w = .ok (.value (.bool p.isNone)) w := by
  have hc : a.eval (.const (.pointer none)) = .pointer none := rfl
  unfold execOp
  simp only [ho, hS.ev hx, hc, eqGuard_at_pointer]
  refine r_value ?_
  have := run_eql_pointer_nil (P := P) (w := w) t p hu
  simp only [Sem.run_bind, Sem.run_pure, Result.andThen_ok, this]
theorem r_ptrNe {t t' : Nat} {x : Operand} {p : Option Addr} (hS : Sl N a S) (ho : o.op = .binOp .neq t x (.const (.pointer none)) t') (hx : ev S x = some (.pointer p)) (hu : P.underlying t = some (.pointer (P.pointee t))) :
    (execOp a.eval o).run P w = .ok (.value (.bool (!p.isNone))) w := by
  have hc : a.eval (.const (.pointer none)) = .pointer none := rfl
  unfold execOp
  simp only [ho, hS.ev hx, hc, eqGuard_at_pointer]
  refine r_value ?_
  have := run_neq_pointer_nil (P := P) (w := w) t p hu
  simp only [Sem.run_bind, Sem.run_pure, Result.andThen_ok, this]

theorem r_not {t : Nat} {x : Operand} {p : Bool} (hS : Sl N a S) (ho : o.op = .unOp .not t x) (hx : ev S x = some (.bool p)) : (execOp a.eval o).run P w = .ok (.value (.bool (!p))) w := by
  unfold execOp; simp only [ho, hS.ev hx]; rfl

theorem r_pick {x y z : Operand} {p : Bool} {u v : Value} (hS : Sl N a S) (ho : o.op = .pick x y z) (hx : ev S x = some (.bool p)) (hy : ev S y = some u) (hz : ev S z = some v) :
    (execOp a.eval o).run P w = .ok (.value (if p = true then u else v)) w := by
  unfold execOp; simp only [ho, hS.ev hx, hS.ev hy, hS.ev hz]; rfl

theorem r_pickT {x y z : Operand} {p : Bool} {u : Value} (hS : Sl N a S) (ho : o.op = .pick x y z) (hx : ev S x = some (.bool p)) (hy : ev S y = some u) (hp : p = true) : (execOp a.eval o).run P w = .ok (.value u) w := by
  subst hp
  unfold execOp; simp only [ho, hS.ev hx, hS.ev hy]; rfl
theorem r_pickF {x y z : Operand} {p : Bool} {u : Value} (hS : Sl N a S) (ho : o.op = .pick x y z) (hx : ev S x = some (.bool p)) (hz : ev S z = some u) (hp : p = false) : (execOp a.eval o).run P w = .ok (.value u) w := by
  subst hp
  unfold execOp; simp only [ho, hS.ev hx, hS.ev hz]; rfl

theorem r_extract {x : Operand} {vs : Array Value} {i : Nat} {v : Value} (hS : Sl N a S) (ho : o.op = .extract x i) (hx : ev S x = some (.tuple vs)) (hv : vs[i]? = some v) :
    (execOp a.eval o).run P w = .ok (.value v) w := by
  unfold execOp; simp only [ho, hS.ev hx]; refine r_value ?_; simp [Instr.extract, hv]

/-- A conversion between whole numbers. -/
def intTo (P : Program) (src dst : Nat) : Option IntKind :=
  match P.underlying src, P.underlying dst with
  | some _, some (.int k) => some k
  | _, _ => none
theorem r_convert {src dst : Nat} {x : Operand} {k k' : IntKind} {p : Int} (hS : Sl N a S) (ho : o.op = .convert src dst x) (hx : ev S x = some (.int k p)) (h : intTo P src dst = some k') :
    (execOp a.eval o).run P w = .ok (.value (.int k' (k'.wrap p))) w := by
  unfold intTo at h
  split at h
  · rename_i d k2 hs hd
    injection h with h; subst h
    unfold execOp; simp only [ho, hS.ev hx]; refine r_value ?_
    simp [convert, run_underlying hs, run_underlying hd, Conv.intToInt]
  · cases h

/-! ### calls -/

def callOk (P : Program) (f : Nat) : Bool := match P.funcs[f]? with | some fn => !(fn.name == "runtime.NumGoroutine") && fn.body.isSome | none => false

theorem run_callFunc {f : Nat} {args : Array Value} (h : callOk P f = true) : (callFunc f args).run P w = .ok (.enter f args) w := by
  unfold callOk at h
  split at h
  · rename_i fn hf
    simp only [Bool.and_eq_true, Bool.not_eq_true', Option.isSome_iff_exists] at h
    obtain ⟨h1, b, h2⟩ := h
    have h1' : ¬ fn.name = "runtime.NumGoroutine" := by simpa using h1
    simp [callFunc, program, Sem.run, hf, h1', h2]
  · cases h

def evs (S : List (Nat × Value)) : List Operand → Option (List Value)
  | [] => some []
  | x :: t => match ev S x, evs S t with
    | some v, some vs => some (v :: vs)
    | _, _ => none

theorem evs_spec (hS : Sl N a S) : ∀ {xs : List Operand} {vs : List Value}, evs S xs = some vs → xs.map a.eval = vs
  | [], vs, h => by simp [evs] at h; subst h; rfl
  | x :: t, vs, h => by
    simp only [evs] at h
    split at h
    · rename_i v vs' h1 h2
      injection h with h; subst h
      simp [hS.ev h1, evs_spec hS h2]
    · cases h

theorem r_call {f : Nat} {xs : List Operand} {vs : List Value} {ts : Array TypeId} (hS : Sl N a S) (ho : o.op = .call { callee := .value (.func f), args := xs.toArray, argTypes := ts }) (hx : evs S xs = some vs) (hf : callOk P f = true) :
    (execOp a.eval o).run P w = .ok (.enter f vs.toArray) w := by
  have := evs_spec hS hx
  unfold execOp
  simp [ho, resolve, Act.eval, Deferred.ofValue, invoke, this, run_callFunc hf]

end

end Go.Proofs.Ytfiodhdldleocaa.Sim
