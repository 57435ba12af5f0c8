/-
  Words of the walk for this seat's proofs, seventh file: structs compared, sets of structs in maps, interface values, slices of own slices.
  No condition: plain lemmas over any program.
-/
import Derived.Test.YtfiodhdldleocaaSimF
import Derived.Laws.StructEq
import Derived.MapKept
namespace Go.Proofs.Ytfiodhdldleocaa.Sim
open Go
set_option linter.unusedVariables false

section
variable {P : Program} {a : Act} {w : World} {o : Oper} {N : Nat} {S : List (Nat × Value)}

/-! ### '==' of flat structs -/

theorem eqf_last {d : Nat} {xs ys : Array Value} {f : Field} {u v : Value} {r : Bool} (hn : (f.name == "_") = false) (ha : (part f.type xs f.offset).run P w = .ok u w) (hb : (part f.type ys f.offset).run P w = .ok v w) (he : (Op.equalIn d f.type u v).run P w = .ok r w) : (Op.eqFields d xs ys [f]).run P w = .ok r w := by
  have hn' : f.name ≠ "_" := by simpa using hn
  simp only [Op.eqFields, if_pos hn', Sem.run_bind, ha, hb, he, Result.andThen_ok]
  cases r <;> simp
theorem eqf_cons {d : Nat} {xs ys : Array Value} {f : Field} {fs : List Field} {u v : Value} {r s : Bool} (hn : (f.name == "_") = false) (ha : (part f.type xs f.offset).run P w = .ok u w) (hb : (part f.type ys f.offset).run P w = .ok v w) (he : (Op.equalIn d f.type u v).run P w = .ok r w) (hr : (Op.eqFields d xs ys fs).run P w = .ok s w) : (Op.eqFields d xs ys (f :: fs)).run P w = .ok (r && s) w := by
  have hn' : f.name ≠ "_" := by simpa using hn
  rw [Op.eqFields]
  simp only [if_pos hn', Sem.run_bind, ha, hb, he, Result.andThen_ok]
  cases r
  · simp
  · simpa using hr
theorem eqA_of {d : Nat} {xs ys : Array Value} {t : TypeId} {fs : Array Field} {r : Bool} (hu : P.underlying t = some (.struct fs)) (hp : P.stoodInHeld t = false) (h : (Op.eqFields d xs ys fs.toList).run P w = .ok r w) : (Op.equalIn (d + 1) t (.agg xs) (.agg ys)).run P w = .ok r w := by
  have hf : P.fieldsOf t = fs := by simp [Program.fieldsOf, hu]
  rw [run_equalIn_struct (P := P) w d t xs ys (by rw [hf]; exact hu) hp, hf]
  exact h

theorem r_stEq {T t' : Nat} {x y : Operand} {xs ys : Array Value} {b : Bool} (hS : Sl N a S) (ho : o.op = .binOp .eql T x y t') (hx : ev S x = some (.agg xs)) (hy : ev S y = some (.agg ys)) (hg : P.eqGuardType P.depth T = false)
    (hb : (Op.equalIn 10000 T (.agg xs) (.agg ys)).run P w = .ok b w) : (execOp a.eval o).run P w = .ok (.value (.bool b)) w := by
  unfold execOp
  simp only [ho, hS.ev hx, hS.ev hy]
  refine r_value ?_
  simp only [Sem.run_bind, run_eqGuard_agg w .eql T x y xs ys hg, Result.andThen_ok, run_eql_struct, hb]
theorem r_stNe {T t' : Nat} {x y : Operand} {xs ys : Array Value} {b : Bool} (hS : Sl N a S) (ho : o.op = .binOp .neq T x y t') (hx : ev S x = some (.agg xs)) (hy : ev S y = some (.agg ys)) (hg : P.eqGuardType P.depth T = false)
    (hb : (Op.equalIn 10000 T (.agg xs) (.agg ys)).run P w = .ok b w) : (execOp a.eval o).run P w = .ok (.value (.bool (!b))) w := by
  unfold execOp
  simp only [ho, hS.ev hx, hS.ev hy]
  refine r_value ?_
  simp only [Sem.run_bind, run_eqGuard_agg w .neq T x y xs ys hg, Result.andThen_ok, run_neq_struct, hb]

/-! ### maps that are used as sets -/

/-- A map with the keys ks, every value 'true'. -/
def MapS {α : Type} (enc : α → Value) (w : World) (g : Nat → Nat) (c b : Nat) (ks : List α) : Prop :=
  ∃ es clock, w.heap[b]? = some (.map es clock) ∧ g b = c ∧ es.toList.map (fun e => e.key) = ks.map enc ∧ ∀ e ∈ es.toList, e.val = .bool true

theorem MapS.fr {α : Type} {enc : α → Value} {M : Nat → Prop} {w' : World} {g g' : Nat → Nat} {c b : Nat} {ks : List α} (h : MapS enc w g c b ks) (F : Fr M w g w' g') (hc : ¬ M c) : MapS enc w' g' c b ks := by
  obtain ⟨es, clock, hb, hg, hk, hv⟩ := h
  have hlt := (Array.getElem?_eq_some_iff.1 hb).1
  obtain ⟨e1, e2⟩ := F.block b hlt (by rw [hg]; exact hc)
  exact ⟨es, clock, e1.trans hb, e2.trans hg, hk, hv⟩

/-- What is asked of a key type. -/
structure KeyOk {α : Type} [DecidableEq α] (P : Program) (K : TypeId) (enc : α → Value) : Prop where
  st : ∃ fs, P.underlying K = some (.struct fs)
  eq : ∀ (x y : α) (w : World), (Op.equal K (enc x) (enc y)).run P w = .ok (decide (x = y)) w
  ck : ∀ (b : Bool) (x : α) (w : World), (Instr.checkKey b 10000 K (enc x)).run P w = .ok () w

theorem run_findAsking {α : Type} [DecidableEq α] {K : TypeId} {enc : α → Value} (hk : KeyOk P K enc) (x : α) : ∀ (es : List MapEntry) (ks : List α) (i : Nat), es.map (fun e => e.key) = ks.map enc → (∀ e ∈ es, e.val = .bool true) →
    ∃ r, (Instr.findAsking K (enc x) es i).run P w = .ok r w ∧ ((x ∈ ks ∧ ∃ j, r = some (j, .bool true)) ∨ (x ∉ ks ∧ r = none))
  | [], ks, i, h, _ => by
    have : ks = [] := by cases ks with | nil => rfl | cons _ _ => simp at h
    subst this
    exact ⟨none, rfl, .inr ⟨by simp, rfl⟩⟩
  | e :: es, ks, i, h, hv => by
    cases ks with
    | nil => simp at h
    | cons k ks =>
      simp only [List.map_cons, List.cons.injEq] at h
      have hve := hv e (List.mem_cons_self ..)
      unfold Instr.findAsking
      simp only [Sem.run_bind, h.1, hk.eq, Result.andThen_ok]
      by_cases e1 : x = k
      · subst e1
        exact ⟨some (i, .bool true), by simp [hve], .inl ⟨List.mem_cons_self .., i, rfl⟩⟩
      · obtain ⟨r, h1, h2⟩ := run_findAsking hk x es ks (i + 1) h.2 (fun e he => hv e (List.mem_cons_of_mem _ he))
        refine ⟨r, by simp [e1, h1], ?_⟩
        simpa [e1] using h2

theorem run_findKeyS {α : Type} [DecidableEq α] {K : TypeId} {enc : α → Value} (hk : KeyOk P K enc) (x : α) (es : List MapEntry) (ks : List α) (h : es.map (fun e => e.key) = ks.map enc) (hv : ∀ e ∈ es, e.val = .bool true) :
    ∃ r, (Instr.findKey K (enc x) es).run P w = .ok r w ∧ ((x ∈ ks ∧ ∃ j, r = some (j, .bool true)) ∨ (x ∉ ks ∧ r = none)) := by
  obtain ⟨fs, hs⟩ := hk.st
  unfold Instr.findKey
  simp only [Sem.run_bind, run_underlying hs, Result.andThen_ok]
  cases es with
  | nil =>
    have : ks = [] := by cases ks with | nil => rfl | cons _ _ => simp at h
    subst this
    exact ⟨none, by simp [Instr.findNow], .inr ⟨by simp, rfl⟩⟩
  | cons e es =>
    have : Instr.findNow (.struct fs) (enc x) (e :: es) 0 = none := by
      unfold Instr.findNow
      simp [Instr.sameNow]
    rw [this]
    exact run_findAsking hk x (e :: es) ks 0 h hv

def mapInfo (P : Program) (T : Nat) : Option (Nat × Nat) :=
  match P.underlying T with
  | some (.map k e) => match P.underlying e with
    | some .bool => some (k, e)
    | _ => none
  | _ => none
theorem mapInfo_spec {T k e : Nat} (h : mapInfo P T = some (k, e)) : P.underlying T = some (.map k e) ∧ P.underlying e = some .bool := by
  unfold mapInfo at h
  split at h
  · rename_i k' e' hu
    split at h
    · rename_i he
      simp only [Option.some.injEq, Prod.mk.injEq] at h
      obtain ⟨rfl, rfl⟩ := h
      exact ⟨hu, he⟩
    · cases h
  · cases h

theorem r_lookup {α : Type} [DecidableEq α] {enc : α → Value} {T K E b c : Nat} {x y : Operand} {g : Nat → Nat} {k : α} {ks : List α} (hS : Sl N a S) (ho : o.op = .lookup T x y false) (hx : ev S x = some (.map (some b))) (hy : ev S y = some (enc k))
    (ht : mapInfo P T = some (K, E)) (hz : (P.info? E).bind (·.zero) = some (.bool false)) (hk : KeyOk P K enc) (hm : MapS enc w g c b ks) : (execOp a.eval o).run P w = .ok (.value (.bool (decide (k ∈ ks)))) w := by
  obtain ⟨hu, he⟩ := mapInfo_spec ht
  obtain ⟨es, clock, hb, _, hkeys, hv⟩ := hm
  obtain ⟨r, h1, h2⟩ := run_findKeyS (w := w) hk k es.toList ks hkeys hv
  unfold execOp
  simp only [ho, hS.ev hx, hS.ev hy]
  refine r_value ?_
  rcases h2 with ⟨h3, j, rfl⟩ | ⟨h3, rfl⟩
  · simp [Instr.lookup, run_underlying hu, MapKept.run_getObj_map hb, hk.ck, h1, h3]
  · obtain ⟨i, hi, hz2⟩ := Option.bind_eq_some_iff.1 hz
    simp [Instr.lookup, run_underlying hu, MapKept.run_getObj_map hb, hk.ck, h1, h3, zeroValue, typeInfo, hi, hz2]

theorem e_makeMap {α : Type} (enc : α → Value) {T : Nat} (c : Nat) (g : Nat → Nat) (_hS : Sl N a S) (ho : o.op = .makeMap T none) :
    Eff P a o w fun v w' g' => (∃ b, v = .map (some b) ∧ MapS enc w' g' c b ([] : List α)) ∧ Fr (fun _ => False) w g w' g' := by
  refine ⟨.map (some w.heap.size), w.alloc (.map #[] 0), dye g w.heap.size c, ?_, ⟨w.heap.size, rfl, ⟨#[], 0, heap_alloc_new w _, dye_same g _ c, rfl, by simp⟩⟩, Fr.alloc _ w g _ c⟩
  unfold execOp
  simp only [ho]
  refine r_value ?_
  simp only [Option.map_none]
  rfl

theorem Fr.setObj {M : Nat → Prop} (w : World) (g : Nat → Nat) (b : Nat) (ob : Obj) (h : M (g b)) : Fr M w g { w with heap := w.heap.setIfInBounds b ob } g :=
  ⟨rfl, rfl, rfl, by simp, fun b' _ hm => ⟨by
    have : b ≠ b' := fun e => hm (e ▸ h)
    simp [this], rfl⟩⟩

theorem e_mapUpdate {α : Type} [DecidableEq α] {enc : α → Value} {T K E b c : Nat} {x y z : Operand} {k : α} {ks : List α} (g : Nat → Nat) (hS : Sl N a S) (ho : o.op = .mapUpdate T x y z) (hx : ev S x = some (.map (some b))) (hy : ev S y = some (enc k)) (hz : ev S z = some (.bool true))
    (ht : mapInfo P T = some (K, E)) (hk : KeyOk P K enc) (hm : MapS enc w g c b ks) (hn : decide (k ∈ ks) = false) :
    EffS P a o w fun w' g' => MapS enc w' g' c b (ks ++ [k]) ∧ Fr (fun q => q = c) w g w' g' := by
  obtain ⟨hu, he⟩ := mapInfo_spec ht
  obtain ⟨es, clock, hb, hg, hkeys, hv⟩ := hm
  obtain ⟨r, h1, h2⟩ := run_findKeyS (w := w) hk k es.toList ks hkeys hv
  have hlt := (Array.getElem?_eq_some_iff.1 hb).1
  rcases h2 with ⟨h3, _⟩ | ⟨h3, rfl⟩
  · simp [h3] at hn
  refine ⟨{ w with heap := w.heap.setIfInBounds b (.map (es.push { key := enc k, val := .bool true, born := clock }) (clock + 1)) }, g, ?_, ⟨es.push { key := enc k, val := .bool true, born := clock }, clock + 1, ?_, hg, ?_, ?_⟩, Fr.setObj w g b _ hg⟩
  · unfold execOp
    simp only [ho, hS.ev hx, hS.ev hy, hS.ev hz]
    simp [Instr.mapUpdate, run_underlying hu, MapKept.run_getObj_map hb, hk.ck, h1, MapKept.run_setObj_map _ hb]
  · simp [hlt]
  · simp [hkeys]
  · intro e he
    simp only [Array.toList_push, List.mem_append, List.mem_singleton] at he
    rcases he with he | rfl
    · exact hv e he
    · rfl

/-! ### objects that may be nil -/

theorem r_optEq {t t' : Nat} {x : Operand} {p : Option Addr} {b : Bool} (hS : Sl N a S) (ho : o.op = .binOp .eql t x (.const (.pointer none)) t') (hx : ev S x = some (.pointer p)) (hu : P.underlying t = some (.pointer (P.pointee t))) (hb : p.isNone = b) :
    (execOp a.eval o).run P w = .ok (.value (.bool b)) w := hb ▸ r_ptrEq hS ho hx hu
theorem r_optNe {t t' : Nat} {x : Operand} {p : Option Addr} {b : Bool} (hS : Sl N a S) (ho : o.op = .binOp .neq t x (.const (.pointer none)) t') (hx : ev S x = some (.pointer p)) (hu : P.underlying t = some (.pointer (P.pointee t))) (hb : p.isNone = b) :
    (execOp a.eval o).run P w = .ok (.value (.bool (!b))) w := hb ▸ r_ptrNe hS ho hx hu
theorem Bx.recol {g : Nat → Nat} {c b : Nat} {T : TypeId} {cs : List Value} (h : Bx w g c b T cs) (d : Nat) : Bx w (recol g c d) d b T cs :=
  ⟨h.1, by rw [recol_eq, if_pos h.2]⟩

/-! ### slices compared with nil -/

theorem r_slNil {T t' : Nat} {x : Operand} {A : Option Addr} {n cap E : Nat} (hS : Sl N a S) (ho : o.op = .binOp .eql T x (.const (.slice none 0 0)) t') (hx : ev S x = some (.slice A n cap)) (hu : P.underlying T = some (.slice E)) : (execOp a.eval o).run P w = .ok (.value (.bool A.isNone)) w := by
  have hc : a.eval (.const (.slice none 0 0)) = .slice none 0 0 := rfl
  unfold execOp
  simp only [ho, hS.ev hx, hc, eqGuard_at_slice]
  refine r_value ?_
  have : (Op.equal T (.slice A n cap) (.slice none 0 0)).run P w = .ok A.isNone w := by
    show (Op.equalIn (9999 + 1) T (.slice A n cap) (.slice none 0 0)).run P w = .ok A.isNone w
    rw [Op.equalIn]
    simp only [Sem.run_bind, run_underlying hu, Result.andThen_ok]
    cases A <;> rfl
  simp [binOp, this]

theorem RdS.none_ {α : Type} {k : Kd α} {g : Nat → Nat} {C : Nat → Prop} {A : Option Addr} {cap : Nat} {xs : List α} (h : RdS k w g C A cap xs) (hn : A.isNone = true) : xs = [] := by
  cases xs with
  | nil => rfl
  | cons x t =>
    obtain ⟨ad, _, e, _⟩ := h.2 0 x rfl
    subst e
    cases hn

/-! ### interface values -/

def concrete (P : Program) (T : Nat) : Bool := match P.underlying T with | some (.interface _) => false | some _ => true | none => false
theorem r_mkif {T : Nat} {x : Operand} {v : Value} (hS : Sl N a S) (ho : o.op = .makeInterface T x) (hx : ev S x = some v) (hc : concrete P T = true) : (execOp a.eval o).run P w = .ok (.value (.iface T v)) w := by
  unfold concrete at hc
  unfold execOp
  simp only [ho, hS.ev hx]
  refine r_value ?_
  split at hc
  · cases hc
  · rename_i d hd hu
    unfold Instr.makeInterface
    simp only [Sem.run_bind, run_underlying hu, Result.andThen_ok]
    cases d <;> first | rfl | exact absurd rfl (hd _)
  · cases hc
theorem r_assert {T X : Nat} {x : Operand} {v : Value} (hS : Sl N a S) (ho : o.op = .typeAssert x X T true) (hx : ev S x = some (.iface T v)) (hc : concrete P T = true) : (execOp a.eval o).run P w = .ok (.value (.tuple #[v, .bool true])) w := by
  unfold concrete at hc
  unfold execOp
  simp only [ho, hS.ev hx]
  refine r_value ?_
  split at hc
  · cases hc
  · rename_i d hd hu
    unfold Instr.typeAssert
    simp only [Sem.run_bind, run_underlying hu, Result.andThen_ok]
    cases d <;> first | simp | exact absurd rfl (hd _)
  · cases hc

/-- A method of a type without embedding: the function, and whether it takes the pointer. -/
def methOf (P : Program) (T : Nat) (name : String) : Option (Nat × Bool) :=
  match P.info? T with
  | some i => match i.methods.find? (·.name == name) with
    | some m => if m.path.isEmpty then m.func else none
    | none => none
  | none => none
theorem methOf_spec {T f : Nat} {name : String} {b : Bool} (h : methOf P T name = some (f, b)) : ∃ i m, P.info? T = some i ∧ i.methods.find? (·.name == name) = some m ∧ m.path = #[] ∧ m.func = some (f, b) := by
  unfold methOf at h
  split at h
  · rename_i i hi
    split at h
    · rename_i m hm
      split at h
      · rename_i hp
        exact ⟨i, m, hi, hm, by simpa using hp, h⟩
      · cases h
    · cases h
  · cases h

theorem run_method {T E f n : Nat} {name : String} {b : Bool} {ad : Addr} {v : Value} (hm : methOf P T name = some (f, b)) (hu : P.underlying T = some (.pointer E)) (h : b = true ∧ v = .pointer (some ad) ∨ b = false ∧ tsz P E = some (n, false) ∧ w.cell? ad = some v) (k : Nat) :
    (method (k + 1) T (.pointer (some ad)) name).run P w = .ok (f, v) w := by
  obtain ⟨i, m, hi, hf, hp, hfn⟩ := methOf_spec hm
  have hi' : (typeInfo T).run P w = .ok i w := by simp [typeInfo, hi]
  unfold method
  simp only [Sem.run_bind, hi', Result.andThen_ok, hf, hp, List.isEmpty_toArray]
  simp only [follow, Sem.run_pure, Result.andThen_ok, hfn]
  rcases h with ⟨rfl, rfl⟩ | ⟨rfl, ht, hc⟩
  · simp [receiverAt, run_underlying hu, Place.get]
  · have hag := run_isAgg (w := w) ht
    have hn : ∀ s, (Builtin.ssaWrapNilChk_ #[T] T #[.pointer (some ad), strVal "", strVal s]).run P w = .ok (.pointer (some ad)) w := fun _ => rfl
    have hl : (loadVar E ad).run P w = .ok v w := by simp [loadVar, hag, load, Sem.run, hc]
    unfold receiverAt
    simp only [Sem.run_bind, run_underlying hu, Result.andThen_ok, Place.get, Sem.run_pure, List.isEmpty_nil, eq_self, if_true, hn, asAddr, hl]

theorem r_invoke {T E f n : Nat} {name : String} {b : Bool} {ad : Addr} {v : Value} {x : Operand} {xs : List Operand} {vs : List Value} {ts : Array TypeId} (hS : Sl N a S) (ho : o.op = .call { callee := .invoke x name, args := xs.toArray, argTypes := ts }) (hx : ev S x = some (.iface T (.pointer (some ad)))) (hxs : evs S xs = some vs)
    (hm : methOf P T name = some (f, b)) (hu : P.underlying T = some (.pointer E)) (hf : callOk P f = true) (h : b = true ∧ v = .pointer (some ad) ∨ b = false ∧ tsz P E = some (n, false) ∧ w.cell? ad = some v) :
    (execOp a.eval o).run P w = .ok (.enter f (v :: vs).toArray) w := by
  have h1 := evs_spec hS hxs
  obtain ⟨k, hk⟩ : ∃ k, P.types.size + Made.depth = k + 1 := ⟨P.types.size + Made.depth - 1, by simp only [Made.depth]; omega⟩
  have h2 := run_method (w := w) hm hu h k
  have h3 : (invoke (.fn (.method name) #[]) (#[.iface T (.pointer (some ad))] ++ (xs.toArray.map a.eval))).run P w = .ok (.enter f (v :: vs).toArray) w := by
    have h4 : (xs.toArray.map a.eval) = vs.toArray := by simp [h1]
    rw [h4]
    have h5 : (callMethod (.iface T (.pointer (some ad))) name vs.toArray).run P w = .ok (.enter f (v :: vs).toArray) w := by
      simp only [callMethod, Sem.run_bind, run_program, Result.andThen_ok, hk, h2]
      have := run_callFunc (w := w) (args := #[v] ++ vs.toArray) hf
      simpa using this
    unfold invoke
    simp only [show (#[Value.iface T (.pointer (some ad))] ++ vs.toArray)[0]? = some (.iface T (.pointer (some ad))) from by simp, show (#[Value.iface T (.pointer (some ad))] ++ vs.toArray).extract 1 (#[Value.iface T (.pointer (some ad))] ++ vs.toArray).size = vs.toArray from by simp]
    exact h5
  unfold execOp
  simp only [ho, Sem.run_bind, resolve, hS.ev hx, Sem.run_pure, Result.andThen_ok]
  exact h3

end

end Go.Proofs.Ytfiodhdldleocaa.Sim
