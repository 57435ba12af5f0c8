/-
  Words of the walk for this seat's proofs, third file: operations that make or write memory.
  No condition: plain lemmas over any program.
-/
import Derived.Test.YtfiodhdldleocaaSimB
namespace Go.Proofs.Ytfiodhdldleocaa.Sim
open Go

section
variable {P : Program} {ops : Array Oper} {Q : Exit → Act → World → Prop} {a : Act} {w : World} {rest : List Oper} {o : Oper} {N : Nat} {S : List (Nat × Value)} {d : Nat}

/-- What an operation comes to that makes or writes memory. -/
def Eff (P : Program) (a : Act) (o : Oper) (w : World) (R : Value → World → (Nat → Nat) → Prop) : Prop :=
  ∃ v w' g', (execOp a.eval o).run P w = .ok (.value v) w' ∧ R v w' g'
def EffS (P : Program) (a : Act) (o : Oper) (w : World) (R : World → (Nat → Nat) → Prop) : Prop :=
  ∃ w' g', (execOp a.eval o).run P w = .ok .skip w' ∧ R w' g'

theorem st_eff {R : Value → World → (Nat → Nat) → Prop} (hS : Sl N a S) (hg : o.guard = none) (hd : o.dst = some d) (hN : Nat.blt d N = true) (hr : Eff P a o w R)
    (k : ∀ v a' w' g', R v w' g' → Sl N a' ((d, v) :: S) → wpList P ops Q rest a' w') : wpList P ops Q (o :: rest) a w := by
  obtain ⟨v, w', g', h1, h2⟩ := hr
  exact st_val hS hg hd hN h1 fun a' hS' => k v a' w' g' h2 hS'

theorem st_effS {R : World → (Nat → Nat) → Prop} (hS : Sl N a S) (hg : o.guard = none) (hd : o.dst = none) (hr : EffS P a o w R)
    (k : ∀ a' w' g', R w' g' → Sl N a' S → wpList P ops Q rest a' w') : wpList P ops Q (o :: rest) a w := by
  obtain ⟨w', g', h1, h2⟩ := hr
  exact st_skip hS hg hd h1 fun a' hS' => k a' w' g' h2 hS'

theorem Bx.new (w : World) (g : Nat → Nat) (c : Nat) (T : TypeId) (cs : List Value) : Bx (w.alloc (.cells cs.toArray T)) (dye g w.heap.size c) c w.heap.size T cs :=
  ⟨heap_alloc_new w _, dye_same g _ c⟩

/-! ### new variables -/

def zcells (P : Program) (T : Nat) : Option (List Value) := (P.info? T).bind fun i => i.zero.map fun z => z.cells.toList

theorem e_alloc {T : Nat} {cs : List Value} (c : Nat) (g : Nat → Nat) (_hS : Sl N a S) (ho : o.op = .alloc T) (hz : zcells P T = some cs) :
    Eff P a o w fun v w' g' => (∃ b, v = .pointer (some ⟨b, 0, none⟩) ∧ Bx w' g' c b T cs) ∧ Fr (fun _ => False) w g w' g' := by
  unfold zcells at hz
  obtain ⟨i, hi, hz1⟩ := Option.bind_eq_some_iff.1 hz
  obtain ⟨z, hz2, rfl⟩ := Option.map_eq_some_iff.1 hz1
  refine ⟨.pointer (some ⟨w.heap.size, 0, none⟩), w.alloc (.cells z.cells T), dye g w.heap.size c, ?_, ⟨w.heap.size, rfl, ?_⟩, Fr.alloc _ w g (.cells z.cells T) c⟩
  · unfold execOp
    simp only [ho]
    refine r_value ?_
    simp [Instr.alloc, zeroValue, typeInfo, hi, hz2, newVar, newRow]
  · have := Bx.new w g c T z.cells.toList
    simpa using this

theorem e_box {T : Nat} {x : Operand} {u : Value} {cs : List Value} (c : Nat) (g : Nat → Nat) (hS : Sl N a S) (ho : o.op = .box T x) (hx : ev S x = some u) (hu : u.cells.toList = cs) :
    Eff P a o w fun v w' g' => (∃ b, v = .pointer (some ⟨b, 0, none⟩) ∧ Bx w' g' c b T cs) ∧ Fr (fun _ => False) w g w' g' := by
  subst hu
  refine ⟨.pointer (some ⟨w.heap.size, 0, none⟩), w.alloc (.cells u.cells T), dye g w.heap.size c, ?_, ⟨w.heap.size, rfl, ?_⟩, Fr.alloc _ w g (.cells u.cells T) c⟩
  · unfold execOp
    simp only [ho, hS.ev hx]
    refine r_value ?_
    simp [Instr.box, newVar, newRow]
  · have := Bx.new w g c T u.cells.toList
    simpa using this

/-! ### a struct's value out of its parts -/

def evp (S : List (Nat × Value)) : List (Nat × Operand) → Option (List (Nat × Value))
  | [] => some []
  | (i, x) :: t => match ev S x, evp S t with
    | some v, some vs => some ((i, v) :: vs)
    | _, _ => none

theorem evp_spec (hS : Sl N a S) : ∀ {xs : List (Nat × Operand)} {vs : List (Nat × Value)}, evp S xs = some vs → xs.map (fun (i, x) => (i, a.eval x)) = vs
  | [], vs, h => by simp [evp] at h; subst h; rfl
  | (i, x) :: t, vs, h => by
    simp only [evp] at h
    split at h
    · rename_i v vs' h1 h2
      injection h with h; subst h
      simp [hS.ev h1, evp_spec hS h2]
    · cases h

theorem r_build {T : Nat} {ps : List (Nat × Operand)} {parts : List (Nat × Value)} {u : Value} (hS : Sl N a S) (ho : o.op = .build T ps.toArray) (hp : evp S ps = some parts)
    (hb : ∀ w, (Instr.build T parts.toArray).run P w = .ok u w) : (execOp a.eval o).run P w = .ok (.value u) w := by
  have hps := evp_spec hS hp
  unfold execOp
  simp only [ho]
  refine r_value ?_
  have hmap : (ps.toArray.map fun (i, x) => (i, a.eval x)) = parts.toArray := by simp [← hps]
  rw [hmap]
  exact hb w

/-- A slice literal. -/
theorem e_litD {D : Nat → Prop} {T e n : Nat} {ps : List (Nat × Operand)} {parts : List (Nat × Value)} {cs : List Value} {α : Type} (kd : Kd α) (xs : List α) (c : Nat) (g : Nat → Nat) (hS : Sl N a S) (ho : o.op = .buildSlice T n ps.toArray) (hp : evp S ps = some parts)
    (hb : ∀ w, (Instr.buildSlice T n parts.toArray).run P w = .ok (.slice (some ⟨w.heap.size, 0, none⟩) n n) (w.alloc (.cells cs.toArray e)))
    (hn : xs.length = n) (hm : n ≤ maxLen) (hr : Rows kd w g D xs cs) :
    Eff P a o w fun v w' g' => (∃ A, v = .slice A xs.length n ∧ OwD kd e w' g' c D A n xs) ∧ Fr (fun _ => False) w g w' g' := by
  have hps := evp_spec hS hp
  have F := Fr.alloc (fun _ => False) w g (.cells cs.toArray e) c
  refine ⟨.slice (some ⟨w.heap.size, 0, none⟩) n n, w.alloc (.cells cs.toArray e), dye g w.heap.size c, ?_, ⟨some ⟨w.heap.size, 0, none⟩, by rw [hn], ?_⟩, F⟩
  · unfold execOp
    simp only [ho]
    refine r_value ?_
    have hmap : (ps.toArray.map fun (i, x) => (i, a.eval x)) = parts.toArray := by simp [← hps]
    rw [hmap]
    exact hb w
  · refine ⟨by omega, hm, .inr ⟨w.heap.size, cs.toArray, rfl, heap_alloc_new w _, dye_same g _ c, ?_, ?_⟩⟩
    · rw [← hn]; simpa using hr.1
    · have : (cs.toArray.toList.take (xs.length * kd.sz)) = cs := by
        rw [List.take_of_length_le]; simp [hr.1]
      rw [this]
      exact hr.fr F (fun _ _ h => h)

theorem e_lit {T e n : Nat} {ps : List (Nat × Operand)} {parts : List (Nat × Value)} {cs : List Value} {α : Type} (kd : Kd α) (xs : List α) (c : Nat) (g : Nat → Nat) (hS : Sl N a S) (ho : o.op = .buildSlice T n ps.toArray) (hp : evp S ps = some parts)
    (hb : ∀ w, (Instr.buildSlice T n parts.toArray).run P w = .ok (.slice (some ⟨w.heap.size, 0, none⟩) n n) (w.alloc (.cells cs.toArray e)))
    (hn : xs.length = n) (hm : n ≤ maxLen) (hr : Rows kd w g (· = c + 1) xs cs) :
    Eff P a o w fun v w' g' => (∃ A, v = .slice A xs.length n ∧ OwS kd e w' g' c A n xs) ∧ Fr (fun _ => False) w g w' g' := e_litD kd xs c g hS ho hp hb hn hm hr

theorem Rows.one {α : Type} {kd : Kd α} {g : Nat → Nat} {C : Nat → Prop} {x : α} {cs : List Value} (h : kd.R w g C x cs) : Rows kd w g C [x] cs := by
  refine ⟨by simp [kd.len h], fun i y hy => ?_⟩
  match i, hy with
  | 0, hy =>
    simp only [List.getElem?_cons_zero, Option.some.injEq] at hy
    subst hy
    simpa [List.take_of_length_le (Nat.le_of_eq (kd.len h))] using h
  | i + 1, hy => simp at hy

theorem Rows.nil {α : Type} {kd : Kd α} {g : Nat → Nat} {C : Nat → Prop} : Rows kd w g C [] [] := ⟨by simp, fun i x h => by simp at h⟩

theorem Rows.append {α : Type} {kd : Kd α} {g : Nat → Nat} {C : Nat → Prop} {xs ys : List α} {cs ds : List Value} (h : Rows kd w g C xs cs) (h' : Rows kd w g C ys ds) : Rows kd w g C (xs ++ ys) (cs ++ ds) := by
  refine ⟨by simp [h.1, h'.1, Nat.add_mul], fun i x hx => ?_⟩
  rcases Nat.lt_or_ge i xs.length with hi | hi
  · rw [List.getElem?_append_left hi] at hx
    have hR := h.2 i x hx
    have hb : (i + 1) * kd.sz ≤ xs.length * kd.sz := Nat.mul_le_mul_right _ hi
    rw [Nat.add_mul, Nat.one_mul] at hb
    have hl := h.1
    rw [List.drop_append_of_le_length (by omega), List.take_append_of_le_length (by simp; omega)]
    exact hR
  · rw [List.getElem?_append_right hi] at hx
    have hR := h'.2 _ x hx
    have : i * kd.sz = cs.length + (i - xs.length) * kd.sz := by rw [h.1, ← Nat.add_mul]; congr 1; omega
    rw [this, List.drop_append, List.drop_of_length_le (by omega), List.nil_append, Nat.add_sub_cancel_left]
    exact hR

theorem Rows.cons {α : Type} {kd : Kd α} {g : Nat → Nat} {C : Nat → Prop} {x : α} {xs : List α} {cs ds : List Value} (h : kd.R w g C x cs) (h' : Rows kd w g C xs ds) : Rows kd w g C (x :: xs) (cs ++ ds) :=
  (Rows.one h).append h'

/-! ### make -/

theorem Rows.replicate {α : Type} {kd : Kd α} {g : Nat → Nat} {C : Nat → Prop} {x : α} {z : Array Value} (h : kd.R w g C x z.toList) (hz : 0 < kd.sz) (n : Nat) : Rows kd w g C (List.replicate n x) (madeCells z (n * kd.sz)).toList := by
  have hl : z.size = kd.sz := by simpa using kd.len h
  refine ⟨by simp [madeCells], fun i y hy => ?_⟩
  rw [List.getElem?_replicate] at hy
  split at hy
  · rename_i hi
    injection hy with hy; subst hy
    have e : (((madeCells z (n * kd.sz)).toList.drop (i * kd.sz)).take kd.sz) = z.toList := by
      have hb : (i + 1) * kd.sz ≤ n * kd.sz := Nat.mul_le_mul_right _ hi
      rw [Nat.add_mul, Nat.one_mul] at hb
      apply List.ext_getElem
      · simp [madeCells]; omega
      · intro j h1 h2
        have hj : j < kd.sz := by simpa [hl] using h2
        have hj' : j < z.size := by omega
        simp [madeCells, hl, Nat.add_comm (i * kd.sz) j, Nat.add_mul_mod_self_right, Nat.mod_eq_of_lt hj]
        exact getElem!_pos z j hj'
    rw [e]; exact h
  · cases hy

theorem mk_some {α : Type} {n : Int} {x : α} {xs : List α} (h : mk n x = some xs) : 0 ≤ n ∧ n ≤ 4294967296 ∧ xs = List.replicate n.toNat x := by
  unfold mk at h
  split at h
  · rename_i h0; injection h with h; exact ⟨h0.1, h0.2, h.symm⟩
  · cases h

theorem e_makeD {D : Nat → Prop} {T e sz by_ : Nat} {x : Operand} {ik : IntKind} {n : Int} {z : List Value} {α : Type} {kd : Kd α} {x0 : α} {xs : List α} (c : Nat) (g : Nat → Nat) (hS : Sl N a S) (ho : o.op = .makeSlice T x x)
    (hx : ev S x = some (.int ik n)) (ht : elemInfo P T = some (e, sz, by_)) (hz : zcells P e = some z) (hsz : kd.sz = sz) (hp : Nat.blt 0 sz = true) (hby : Nat.ble by_ 32768 = true) (hk : ∀ w g C, kd.R w g C x0 z) (hxs : mk n x0 = some xs) :
    Eff P a o w fun v w' g' => (∃ A cap, v = .slice A xs.length cap ∧ OwD kd e w' g' c D A cap xs) ∧ Fr (fun _ => False) w g w' g' := by
  have hp' : 0 < sz := by simpa [Nat.blt_eq] using hp
  have hby' : by_ ≤ 32768 := by simpa [Nat.ble_eq] using hby
  obtain ⟨h0, h1, rfl⟩ := mk_some hxs
  obtain ⟨hu, i, hi, hi1, hi2⟩ := elemInfo_spec ht
  unfold zcells at hz
  rw [hi] at hz
  simp only [Option.bind_some, Option.map_eq_some_iff] at hz
  obtain ⟨zv, hz2, rfl⟩ := hz
  obtain ⟨m, rfl⟩ := Int.eq_ofNat_of_zero_le h0
  have hm : m ≤ 4294967296 := by omega
  have F := Fr.alloc (fun _ => False) w g (.cells (madeCells zv.cells (m * i.size)) e) c
  have hbb : (i.bytes : Int) * (m : Int) ≤ 281474976710656 := by
    have h : i.bytes * m ≤ 32768 * 4294967296 := Nat.mul_le_mul (by omega) hm
    rw [← Int.natCast_mul]
    omega
  have hrun := run_make (P := P) w T e i zv hu hi hz2 ik ik m m h0 (Int.le_refl _) hbb (by omega)
  simp only [Int.toNat_natCast] at hrun
  refine ⟨_, _, dye g w.heap.size c, ?_, ⟨some ⟨w.heap.size, 0, none⟩, m, rfl, ?_⟩, F⟩
  · unfold execOp
    simp only [ho, hS.ev hx]
    refine r_value ?_
    rw [hrun]
    simp
  · have hR := Rows.replicate (w := w.alloc (.cells (madeCells zv.cells (m * i.size)) e)) (g := dye g w.heap.size c) (C := D) (kd := kd) (x := x0) (z := zv.cells) (hk _ _ _) (by omega) m
    have hsz' : i.size = kd.sz := by omega
    refine ⟨by simp, by simp [maxLen]; omega, .inr ⟨w.heap.size, _, rfl, heap_alloc_new w _, dye_same g _ c, by simp [madeCells, hsz'], ?_⟩⟩
    simp only [Int.toNat_natCast]
    rw [List.take_of_length_le (by simp [madeCells, hsz'])]
    rw [hsz'] at hR ⊢
    exact hR

/-! ### stores -/

theorem wanted_none (h : o.guard = none) (tmps : Array Value) : Region.wanted o (yielded ops tmps) = true := by simp [Region.wanted, h]

def splice (cs : List Value) (j : Nat) (us : List Value) : List Value := cs.take j ++ us ++ cs.drop (j + us.length)

theorem splice_length {cs us : List Value} {j : Nat} (h : j + us.length ≤ cs.length) : (splice cs j us).length = cs.length := by
  simp [splice]; omega

theorem run_store_at {T n : Nat} {b : Bool} {bl j : Nat} {u : Value} {us : List Value} {arr : Array Value} {E : TypeId} (ht : tsz P T = some (n, b)) (hu : u.cells.toList = us) (hn : us.length = n) (h1 : ∀ v ∈ us, v.oneCell' = true)
    (hb : w.heap[bl]? = some (.cells arr E (0, 0))) (hj : j + us.length ≤ arr.size) :
    (Instr.storeAt T (.pointer (some ⟨bl, j, none⟩)) u).run P w = .ok () (w.setRow bl (splice arr.toList j us).toArray) := by
  have hst := run_storeCells_at P bl j E us 0 arr w hb (by simpa using hj) h1
  simp only [Nat.add_zero] at hst
  have hsz : u.cells.size = n := by rw [← hn, ← hu]; simp
  simp only [Instr.storeAt, Instr.sureAddr, storeVar, Sem.run_bind, Sem.run_pure, Result.andThen_ok, run_sizeOf ht, hsz, ne_eq, not_true_eq_false, if_false, hu, hst]
  rfl

theorem e_storeB {T n : Nat} {bb : Bool} {x y : Operand} {b j c : Nat} {E : TypeId} {u : Value} {us cs cs' : List Value} (g : Nat → Nat) (hS : Sl N a S) (ho : o.op = .store T x y) (hx : ev S x = some (.pointer (some ⟨b, j, none⟩)))
    (hy : ev S y = some u) (ht : tsz P T = some (n, bb)) (hu : u.cells.toList = us) (hn : us.length = n) (h1 : us.all (·.oneCell') = true) (hb : Bx w g c b E cs) (hj : Nat.ble (j + us.length) cs.length = true) (hcs : splice cs j us = cs') :
    EffS P a o w fun w' g' => Bx w' g' c b E cs' ∧ Fr (fun q => q = c) w g w' g' := by
  have hr := run_store_at (w := w) ht hu hn (fun v hv => List.all_eq_true.1 h1 v hv) hb.1 (by have := Nat.le_of_ble_eq_true hj; simpa using this)
  simp only [] at hr
  rw [hcs] at hr
  refine ⟨_, g, ?_, ⟨setRow_heap w b _ _ E (0, 0) hb.1, hb.2⟩, Fr.setRow w g b _ hb.2⟩
  unfold execOp
  simp only [ho, hS.ev hx, hS.ev hy]
  simp [hr]

theorem upd_length {α : Type} (xs : List α) (i : Int) (x : α) : (upd xs i x).length = xs.length := by simp [upd]

theorem e_storeD {D : Nat → Prop} {T n : Nat} {bb : Bool} {x y : Operand} {α : Type} {kd : Kd α} {E : TypeId} {c : Nat} {A : Option Addr} {cap : Nat} {xs : List α} {i : Int} {x0 x' : α} {j off : Nat} {u : Value} {us : List Value} (g : Nat → Nat)
    (hS : Sl N a S) (ho : o.op = .store T x y) (hx : ev S x = some (.pointer (some (ea A off)))) (hoff : off = i.toNat * kd.sz + j)
    (hy : ev S y = some u) (ht : tsz P T = some (n, bb)) (hu : u.cells.toList = us) (hn : us.length = n) (h1 : ∀ v ∈ us, v.oneCell' = true) (hw : OwD kd E w g c D A cap xs) (hD : ∀ q, D q → q ≠ c) (hi : idx xs i = some x0) (hj : Nat.ble (j + us.length) kd.sz = true)
    (hR : ∀ cs, kd.R w g D x0 cs → kd.R w g D x' (splice cs j us)) :
    EffS P a o w fun w' g' => OwD kd E w' g' c D A cap (upd xs i x') ∧ Fr (fun q => q = c) w g w' g' := by
  have hj' := Nat.le_of_ble_eq_true hj
  obtain ⟨h0, hlt, hget⟩ := idx_some hi
  have hil : i.toNat < xs.length := by omega
  obtain ⟨hlc, hcm, hcase⟩ := hw
  rcases hcase with ⟨rfl, hc0⟩ | ⟨b, arr, rfl, hb, hg, hs, hr⟩
  · omega
  have hmul : (i.toNat + 1) * kd.sz ≤ xs.length * kd.sz := Nat.mul_le_mul_right _ hil
  have hmul2 : xs.length * kd.sz ≤ cap * kd.sz := Nat.mul_le_mul_right _ hlc
  rw [Nat.add_mul, Nat.one_mul] at hmul
  have hr' := run_store_at (w := w) (j := i.toNat * kd.sz + j) ht hu hn h1 hb (by rw [hs]; omega)
  subst hoff
  rw [ea_some, Nat.zero_add] at hx
  refine ⟨w.setRow b (splice arr.toList (i.toNat * kd.sz + j) us).toArray, g, ?_, ⟨by rw [upd_length]; exact hlc, hcm, .inr ⟨b, (splice arr.toList (i.toNat * kd.sz + j) us).toArray, rfl, setRow_heap w b _ _ E (0, 0) hb, hg, ?_, ?_⟩⟩, Fr.setRow w g b _ hg⟩
  · unfold execOp
    simp only [ho, hS.ev hx, hS.ev hy]
    simp [hr']
  · rw [List.size_toArray, splice_length (by simp; omega)]; simpa using hs
  · have F : Fr (fun q => q = c) w g (w.setRow b (splice arr.toList (i.toNat * kd.sz + j) us).toArray) g := Fr.setRow w g b _ hg
    have hrow := hr.fr F (fun c' e => hD c' e)
    rw [upd_length]
    obtain ⟨hl1, hl2⟩ := hrow
    have hlen1 : (splice arr.toList (i.toNat * kd.sz + j) us).length = arr.size := by rw [splice_length (by simp; omega)]; simp
    refine ⟨?_, fun k y hy => ?_⟩
    · simp only [List.length_take, upd_length, hlen1]
      omega
    · show kd.R _ _ _ _ (((splice arr.toList (i.toNat * kd.sz + j) us).take (xs.length * kd.sz)).drop (k * kd.sz) |>.take kd.sz)
      unfold upd at hy
      rw [List.getElem?_set] at hy
      have hk : k < xs.length := by
        rcases Nat.lt_or_ge k xs.length with h | h
        · exact h
        · exfalso
          by_cases e : i.toNat = k
          · omega
          · rw [if_neg e, List.getElem?_eq_none h] at hy
            cases hy
      have hkm : (k + 1) * kd.sz ≤ xs.length * kd.sz := Nat.mul_le_mul_right _ hk
      rw [Nat.add_mul, Nat.one_mul] at hkm
      by_cases e : i.toNat = k
      · subst e
        rw [if_pos rfl, if_pos hil] at hy
        injection hy with hy; subst hy
        have h3 := kd.fr F (fun c' e => hD c' e) (hR _ (hr.2 _ _ hget))
        have e2 : (((splice arr.toList (i.toNat * kd.sz + j) us).take (xs.length * kd.sz)).drop (i.toNat * kd.sz)).take kd.sz = splice (((arr.toList.take (xs.length * kd.sz)).drop (i.toNat * kd.sz)).take kd.sz) j us := by
          apply List.ext_getElem?
          intro q
          rcases Nat.lt_or_ge q kd.sz with hq | hq
          · rw [getElem?_take_drop _ _ _ _ hq, List.getElem?_take, if_pos (by omega)]
            unfold splice
            rcases Nat.lt_or_ge q j with hqj | hqj
            · rw [List.append_assoc, List.getElem?_append_left (by simp; omega), List.append_assoc, List.getElem?_append_left (by simp; omega), List.getElem?_take, if_pos (by omega), List.getElem?_take, if_pos (by omega), getElem?_take_drop _ _ _ _ hq, List.getElem?_take, if_pos (by omega)]
            · rcases Nat.lt_or_ge q (j + us.length) with hqu | hqu
              · rw [List.getElem?_append_left (by simp; omega), List.getElem?_append_right (by simp; omega), List.getElem?_append_left (by simp; omega), List.getElem?_append_right (by simp; omega)]
                congr 1
                simp
                omega
              · rw [List.getElem?_append_right (by simp; omega), List.getElem?_append_right (by simp; omega), List.getElem?_drop, List.getElem?_drop, getElem?_take_drop _ _ _ _ (by simp; omega), List.getElem?_take, if_pos (by simp; omega)]
                congr 1
                simp
                omega
          · rw [List.getElem?_eq_none (by simp; omega), List.getElem?_eq_none (by rw [splice_length (by simp; omega)]; simp; omega)]
        rw [e2]; exact h3
      · rw [if_neg e] at hy
        have h3 := hl2 _ _ hy
        have e2 : (((splice arr.toList (i.toNat * kd.sz + j) us).take (xs.length * kd.sz)).drop (k * kd.sz)).take kd.sz = ((arr.toList.take (xs.length * kd.sz)).drop (k * kd.sz)).take kd.sz := by
          apply List.ext_getElem?
          intro q
          rcases Nat.lt_or_ge q kd.sz with hq | hq
          · rw [getElem?_take_drop _ _ _ _ hq, List.getElem?_take, if_pos (by omega), getElem?_take_drop _ _ _ _ hq, List.getElem?_take, if_pos (by omega)]
            unfold splice
            rcases Nat.lt_or_ge k i.toNat with hki | hki
            · have : (k + 1) * kd.sz ≤ i.toNat * kd.sz := Nat.mul_le_mul_right _ hki
              rw [Nat.add_mul, Nat.one_mul] at this
              rw [List.append_assoc, List.getElem?_append_left (by simp; omega), List.getElem?_take, if_pos (by omega)]
            · have : (i.toNat + 1) * kd.sz ≤ k * kd.sz := Nat.mul_le_mul_right _ (by omega)
              rw [Nat.add_mul, Nat.one_mul] at this
              rw [List.getElem?_append_right (by simp; omega), List.getElem?_drop]
              congr 1
              simp
              omega
          · rw [List.getElem?_eq_none (by simp; omega), List.getElem?_eq_none (by simp; omega)]
        rw [e2]; exact h3

theorem e_storeE {T n : Nat} {bb : Bool} {x y : Operand} {α : Type} {kd : Kd α} {E : TypeId} {c : Nat} {A : Option Addr} {cap : Nat} {xs : List α} {i : Int} {x0 x' : α} {j off : Nat} {u : Value} {us : List Value} (g : Nat → Nat)
    (hS : Sl N a S) (ho : o.op = .store T x y) (hx : ev S x = some (.pointer (some (ea A off)))) (hoff : off = i.toNat * kd.sz + j)
    (hy : ev S y = some u) (ht : tsz P T = some (n, bb)) (hu : u.cells.toList = us) (hn : us.length = n) (h1 : ∀ v ∈ us, v.oneCell' = true) (hw : OwS kd E w g c A cap xs) (hi : idx xs i = some x0) (hj : Nat.ble (j + us.length) kd.sz = true)
    (hR : ∀ w g cs, kd.R w g (· = c + 1) x0 cs → kd.R w g (· = c + 1) x' (splice cs j us)) :
    EffS P a o w fun w' g' => OwS kd E w' g' c A cap (upd xs i x') ∧ Fr (fun q => q = c) w g w' g' := e_storeD g hS ho hx hoff hy ht hu hn h1 hw (fun q (e : q = c + 1) => by omega) hi hj (hR w g)

/-! ### append -/

theorem app_some {α : Type} {xs ys zs : List α} (h : app xs ys = some zs) : xs.length + ys.length ≤ 4294967296 ∧ zs = xs ++ ys := by
  unfold app at h
  split at h
  · rename_i h0; injection h with h; exact ⟨h0, h.symm⟩
  · cases h

theorem RdX.cells {α : Type} {kd : Kd α} {g : Nat → Nat} {C D : Nat → Prop} {A : Option Addr} {cap : Nat} {ys : List α} (h : RdX kd w g C D A cap ys) (_hsz : 0 < kd.sz) (h0 : 0 < ys.length) :
    ∃ ad news, A = some ad ∧ Rows kd w g D ys news ∧ (∀ j u, news[j]? = some u → w.cell? (ad.add j) = some u) ∧ ∀ u ∈ news, u.oneCell' = true := by
  obtain ⟨ad0, _, rfl, _⟩ := h.2 0 ys[0] (by simp [List.getElem?_eq_getElem h0])
  have key : ∀ n, n ≤ ys.length → ∃ news, Rows kd w g D (ys.take n) news ∧ (∀ j u, news[j]? = some u → w.cell? (ad0.add j) = some u) ∧ ∀ u ∈ news, u.oneCell' = true := by
    intro n
    induction n with
    | zero => intro _; exact ⟨[], by simpa using Rows.nil, by simp, by simp⟩
    | succ n ih =>
      intro hn
      obtain ⟨news, hr, hc, h1⟩ := ih (by omega)
      obtain ⟨ad, cs, e, _, hR, hcell⟩ := h.2 n ys[n] (by simp [List.getElem?_eq_getElem (show n < ys.length by omega)])
      injection e with e; subst e
      have hl : news.length = n * kd.sz := by rw [hr.1, List.length_take, Nat.min_eq_left (by omega)]
      refine ⟨news ++ cs, ?_, ?_, ?_⟩
      · rw [List.take_succ_eq_append_getElem (by omega)]
        exact hr.append (Rows.one hR)
      · intro j u hu
        rcases Nat.lt_or_ge j news.length with hj | hj
        · rw [List.getElem?_append_left hj] at hu; exact hc j u hu
        · rw [List.getElem?_append_right hj] at hu
          have := hcell _ u hu
          rw [← hl] at this
          rwa [show news.length + (j - news.length) = j from by omega] at this
      · intro u hu
        rcases List.mem_append.1 hu with hu | hu
        · exact h1 u hu
        · exact kd.one hR u hu
  obtain ⟨news, hr, hc, h1⟩ := key ys.length (Nat.le_refl _)
  rw [List.take_length] at hr
  exact ⟨ad0, news, rfl, hr, hc, h1⟩

theorem e_appendD {D D2 : Nat → Prop} {T ty e sz by_ : Nat} {x y : Operand} {α : Type} {kd : Kd α} {c : Nat} {A B : Option Addr} {cap capB : Nat} {xs ys zs : List α} {z : List Value} {C : Nat → Prop} (g : Nat → Nat)
    (hS : Sl N a S) (ho : o.op = .call { callee := .builtin .append, args := #[x, y], argTypes := #[T, T] }) (_hty : o.type = ty) (hx : ev S x = some (.slice A xs.length cap)) (hy : ev S y = some (.slice B ys.length capB))
    (ht : elemInfo P T = some (e, sz, by_)) (hz : zcells P e = some z) (hsz : kd.sz = sz) (hzl : z.length = sz) (hp : Nat.blt 0 sz = true) (hby : Nat.ble by_ 32768 = true)
    (hw : OwD kd e w g c D A cap xs) (hD : ∀ q, D q → q ≠ c) (hr : RdX kd w g C D2 B capB ys) (hC : ∀ cs y, y ∈ ys → kd.R w g D2 y cs → kd.R w g D y cs) (hzs : app xs ys = some zs) :
    Eff P a o w fun v w' g' => (∃ A' cap', v = .slice A' zs.length cap' ∧ OwD kd e w' g' c D A' cap' zs) ∧ Fr (fun q => q = c) w g w' g' := by
  obtain ⟨hlim, rfl⟩ := app_some hzs
  have hp' : 0 < sz := by simpa [Nat.blt_eq] using hp
  have hby' : by_ ≤ 32768 := by simpa [Nat.ble_eq] using hby
  obtain ⟨hu, i, hi, hi1, hi2⟩ := elemInfo_spec ht
  unfold zcells at hz
  rw [hi] at hz
  simp only [Option.bind_some, Option.map_eq_some_iff] at hz
  obtain ⟨zv, hz2, rfl⟩ := hz
  have hex : (execOp a.eval o).run P w = ((Builtin.append_ #[T, T] o.type #[.slice A xs.length cap, .slice B ys.length capB]).run P w).andThen fun v w' => .ok (.value v) w' := by
    unfold execOp
    simp only [ho, resolve, invoke, builtin, Sem.run_bind, Sem.run_pure, Result.andThen_ok, List.map_toArray, List.map_cons, List.map_nil, hS.ev hx, hS.ev hy]
  have hfit : (xs.length + ys.length) * i.bytes ≤ 140737488355328 := by
    have : (xs.length + ys.length) * i.bytes ≤ 4294967296 * 32768 := Nat.mul_le_mul hlim (by omega)
    omega
  obtain ⟨hlc, hcm, hcase⟩ := hw
  rcases Nat.eq_zero_or_pos ys.length with h0 | h0
  · have hys : ys = [] := List.eq_nil_of_length_eq_zero h0
    subst hys
    refine ⟨.slice A (xs ++ []).length cap, w, g, ?_, ⟨A, cap, rfl, ?_⟩, Fr.refl _ _ _⟩
    · rw [hex]
      have : (Builtin.append_ #[T, T] o.type #[.slice A xs.length cap, .slice B 0 capB]).run P w = .ok (.slice A xs.length cap) w := by
        cases A <;> cases B <;> simp [Builtin.append_, run_underlying hu, sizeOf, typeInfo, hi, Builtin.lenOf, Builtin.firstCells, loadCells, loadCellsFrom, hlc, storeCells]
      simp only [List.length_nil, List.append_nil, this, Result.andThen_ok]
    · simp only [List.append_nil]; exact ⟨hlc, hcm, hcase⟩
  · obtain ⟨ad, news, rfl, hrows, hnews, hone⟩ := hr.cells (by omega) h0
    have hrows' : Rows kd w g D ys news := ⟨hrows.1, fun k y hy => hC _ _ (List.mem_of_getElem? hy) (hrows.2 k y hy)⟩
    have hnl : news.length = ys.length * i.size := by rw [hrows.1, hsz, hi1]
    have h63 : ((xs.length + ys.length : Nat) : Int) ≤ 9223372036854775807 := by omega
    -- a new array
    have grown : ∀ (old : List Value) (cap0 : Nat), Rows kd w g D xs old → cap0 < xs.length + ys.length →
        (Builtin.append_ #[T, T] o.type #[.slice A xs.length cap, .slice (some ad) ys.length capB]).run P w = .ok (.slice (some ⟨w.heap.size, 0, none⟩) (xs.length + ys.length) (grownCap w (xs.length + ys.length) cap0 e))
          (w.drew.alloc (.cells (old.toArray ++ news.toArray ++ Builtin.zeroCells zv.cells (grownCap w (xs.length + ys.length) cap0 e - (xs.length + ys.length))) e)) →
        Eff P a o w fun v w' g' => (∃ A' cap', v = .slice A' (xs ++ ys).length cap' ∧ OwD kd e w' g' c D A' cap' (xs ++ ys)) ∧ Fr (fun q => q = c) w g w' g' := by
      intro old cap0 hold hlt hrun
      have hge := grownCap_ge w (xs.length + ys.length) cap0 e
      have hle : grownCap w (xs.length + ys.length) cap0 e ≤ maxLen := grownCap_le_maxLen w _ cap0 e (by simp [maxLen]; omega)
      have F1 : Fr (fun q => q = c) w g (w.drew.alloc (.cells (old.toArray ++ news.toArray ++ Builtin.zeroCells zv.cells (grownCap w (xs.length + ys.length) cap0 e - (xs.length + ys.length))) e)) (dye g w.heap.size c) :=
        (Fr.drew _ w g).trans (Fr.alloc (fun q => q = c) w.drew g _ c) (fun _ h => h)
      refine ⟨_, _, dye g w.heap.size c, by rw [hex, hrun]; rfl, ⟨some ⟨w.heap.size, 0, none⟩, grownCap w (xs.length + ys.length) cap0 e, by simp, ?_⟩, F1⟩
      have hall := (hold.append hrows').fr F1 (fun q h e => hD q h e)
      refine ⟨by simpa using hge, hle, .inr ⟨w.heap.size, _, rfl, heap_alloc_new w.drew _, dye_same g _ c, ?_, ?_⟩⟩
      · simp only [Array.size_append, List.size_toArray, size_zeroCells, hold.1, hrows.1]
        have : zv.cells.size = kd.sz := by have := hzl; simp at this; omega
        rw [this, ← Nat.add_mul, ← Nat.add_mul]
        congr 1
        omega
      · have e2 : ((old.toArray ++ news.toArray ++ Builtin.zeroCells zv.cells (grownCap w (xs.length + ys.length) cap0 e - (xs.length + ys.length))).toList.take ((xs ++ ys).length * kd.sz)) = old ++ news := by
          simp only [Array.toList_append]
          rw [List.take_append_of_le_length (by simp [hold.1, hrows.1, Nat.add_mul]), List.take_of_length_le (by simp [hold.1, hrows.1, Nat.add_mul])]
        rw [e2]; exact hall
    rcases hcase with ⟨rfl, rfl⟩ | ⟨b, arr, rfl, hb, hg, hs, hrow⟩
    · have hx0 : xs = [] := List.eq_nil_of_length_eq_zero (by omega)
      subst hx0
      refine grown [] 0 Rows.nil (by simpa using h0) ?_
      have hr2 := run_append_nil (P := P) w T o.type e i zv hu hi hz2 ad ys.length capB news hnl hnews h0 (by omega) (by simp at hfit; omega)
      simpa using hr2
    · by_cases hroom : xs.length + ys.length ≤ cap
      · have hr2 := run_append_room (P := P) w T o.type e i hu hi b xs.length cap arr hb ad ys.length capB news hnl hnews hone hroom (by rw [hnl, hi1, ← hsz, hs, ← Nat.add_mul]; exact Nat.mul_le_mul_right _ hroom)
        have F1 : Fr (fun q => q = c) w g (w.setRow b (arr.toList.take (xs.length * i.size) ++ news ++ arr.toList.drop (xs.length * i.size + news.length)).toArray) g := Fr.setRow w g b _ hg
        refine ⟨_, _, g, by rw [hex, hr2]; rfl, ⟨some ⟨b, 0, none⟩, cap, by simp, ?_⟩, F1⟩
        have hall := (hrow.append hrows').fr F1 (fun q h e => hD q h e)
        have hsz2 : i.size = kd.sz := by omega
        have hmul : (xs.length + ys.length) * kd.sz ≤ cap * kd.sz := Nat.mul_le_mul_right _ hroom
        rw [Nat.add_mul] at hmul
        refine ⟨by simpa using hroom, hcm, .inr ⟨b, _, rfl, setRow_heap w b _ _ e (0, 0) hb, hg, ?_, ?_⟩⟩
        · simp only [List.size_toArray, List.length_append, List.length_take, List.length_drop, Array.length_toList, hsz2, hrows.1]
          omega
        · have e2 : ((arr.toList.take (xs.length * i.size) ++ news ++ arr.toList.drop (xs.length * i.size + news.length)).toArray.toList.take ((xs ++ ys).length * kd.sz)) = arr.toList.take (xs.length * kd.sz) ++ news := by
            rw [hsz2]
            show (arr.toList.take (xs.length * kd.sz) ++ news ++ arr.toList.drop (xs.length * kd.sz + news.length)).take ((xs ++ ys).length * kd.sz) = _
            have hl : (arr.toList.take (xs.length * kd.sz) ++ news).length = (xs ++ ys).length * kd.sz := by
              simp only [List.length_append, List.length_take, Array.length_toList, hrows.1, Nat.add_mul]; omega
            rw [List.take_append_of_le_length (by omega), List.take_of_length_le (by omega)]
          rw [e2]; exact hall
      · refine grown _ cap hrow (by omega) ?_
        have holds : ∀ j v, (arr.toList.take (xs.length * kd.sz))[j]? = some v → w.cell? ((⟨b, 0, none⟩ : Addr).add j) = some v := by
          intro j v hv
          rw [List.getElem?_take] at hv
          split at hv
          · have hadd : (⟨b, 0, none⟩ : Addr).add j = ⟨b, j, none⟩ := by unfold Addr.add; split <;> simp_all
            rw [hadd, cell_of_row w b j arr e (0, 0) hb]; simpa using hv
          · cases hv
        have hr2 := run_append_grow (P := P) w T o.type e i zv hu hi hz2 ⟨b, 0, none⟩ xs.length cap _ (by rw [hrow.1, hsz, hi1]) holds ad ys.length capB news hnl hnews (by omega) h63 (growslice_fits (by omega) hfit)
        exact hr2

theorem e_append {T ty e sz by_ : Nat} {x y : Operand} {α : Type} {kd : Kd α} {c : Nat} {A B : Option Addr} {cap capB : Nat} {xs ys zs : List α} {z : List Value} {C D2 : Nat → Prop} (g : Nat → Nat)
    (hS : Sl N a S) (ho : o.op = .call { callee := .builtin .append, args := #[x, y], argTypes := #[T, T] }) (hty : o.type = ty) (hx : ev S x = some (.slice A xs.length cap)) (hy : ev S y = some (.slice B ys.length capB))
    (ht : elemInfo P T = some (e, sz, by_)) (hz : zcells P e = some z) (hsz : kd.sz = sz) (hzl : z.length = sz) (hp : Nat.blt 0 sz = true) (hby : Nat.ble by_ 32768 = true)
    (hw : OwS kd e w g c A cap xs) (hr : RdX kd w g C D2 B capB ys) (hC : ∀ cs y, y ∈ ys → kd.R w g D2 y cs → kd.R w g (· = c + 1) y cs) (hzs : app xs ys = some zs) :
    Eff P a o w fun v w' g' => (∃ A' cap', v = .slice A' zs.length cap' ∧ OwS kd e w' g' c A' cap' zs) ∧ Fr (fun q => q = c) w g w' g' :=
  e_appendD g hS ho hty hx hy ht hz hsz hzl hp hby hw (fun q (e : q = c + 1) => by omega) hr hC hzs

theorem e_make {T e sz by_ : Nat} {x : Operand} {ik : IntKind} {n : Int} {z : List Value} {α : Type} {kd : Kd α} {x0 : α} {xs : List α} (c : Nat) (g : Nat → Nat) (hS : Sl N a S) (ho : o.op = .makeSlice T x x)
    (hx : ev S x = some (.int ik n)) (ht : elemInfo P T = some (e, sz, by_)) (hz : zcells P e = some z) (hsz : kd.sz = sz) (hp : Nat.blt 0 sz = true) (hby : Nat.ble by_ 32768 = true) (hk : ∀ w g C, kd.R w g C x0 z) (hxs : mk n x0 = some xs) :
    Eff P a o w fun v w' g' => (∃ A cap, v = .slice A xs.length cap ∧ OwS kd e w' g' c A cap xs) ∧ Fr (fun _ => False) w g w' g' := e_makeD c g hS ho hx ht hz hsz hp hby hk hxs

end
end Go.Proofs.Ytfiodhdldleocaa.Sim
