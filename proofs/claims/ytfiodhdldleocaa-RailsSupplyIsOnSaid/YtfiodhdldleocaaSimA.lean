/-
  Words of the walk for this seat's proofs, first file: slots by list, memory by colours, what a call may change.
  No condition: plain definitions and lemmas over any program.
-/
import Derived.Laws.AppendOwn
import Derived.Laws.MakeOwn
import Derived.Laws.OwnMore
import Derived.Deep.LoopGhost
import Derived.Deep.Quiet
import Derived.OrdersHeld
import Derived.WalkKit
import Derived.KernelRfl
namespace Go.Proofs.Ytfiodhdldleocaa.Sim
open Go

/-! ### slots -/

def lk : List (Nat × Value) → Nat → Option Value
  | [], _ => none
  | p :: t, j => match Nat.beq p.1 j with
    | true => some p.2
    | false => lk t j

/-- What is known of the temporaries. -/
structure Sl (N : Nat) (a : Act) (S : List (Nat × Value)) : Prop where
  size : a.tmps.size = N
  defs : a.defers = []
  get : ∀ i v, lk S i = some v → a.tmps[i]? = some v

def ev (S : List (Nat × Value)) : Operand → Option Value
  | .tmp t => lk S t
  | .const v => some v
  | .global g => some (.pointer (some ⟨g, 0, none⟩))
  | .func f => some (.func (.func f) #[] #[])

theorem Sl.ev {N : Nat} {a : Act} {S : List (Nat × Value)} (h : Sl N a S) {x : Operand} {v : Value} (hx : ev S x = some v) : a.eval x = v := by
  cases x with
  | tmp t =>
    have := h.get t v hx
    simp [Act.eval, Array.getD_eq_getD_getElem?, this]
  | const c => exact Option.some.inj hx
  | global g => simpa [Sim.ev, Act.eval] using hx
  | func f => simpa [Sim.ev, Act.eval] using hx

theorem Sl.put {N : Nat} {a : Act} {S : List (Nat × Value)} (h : Sl N a S) {d : Nat} (hd : Nat.blt d N = true) (v : Value) : Sl N (a.put (some d) v) ((d, v) :: S) := by
  have hd' : d < N := by simpa [Nat.blt_eq] using hd
  refine ⟨by simp [Act.put, h.size], h.defs, fun i u hu => ?_⟩
  simp only [Act.put]
  rw [Array.getElem?_setIfInBounds]
  simp only [lk] at hu
  split at hu
  · rename_i hb
    have e : d = i := Nat.eq_of_beq_eq_true hb
    subst e
    simp only [if_true, h.size, hd']
    exact hu
  · rename_i hb
    have e : d ≠ i := Nat.ne_of_beq_eq_false hb
    rw [if_neg e]
    exact h.get i u hu

theorem Sl.put_none {N : Nat} {a : Act} {S : List (Nat × Value)} (h : Sl N a S) (v : Value) : Sl N (a.put none v) S := h

/-- Every pair of S' is in S. -/
def sub (S : List (Nat × Value)) : List (Nat × Value) → Prop
  | [] => True
  | p :: t => lk S p.1 = some p.2 ∧ sub S t

theorem sub_lk {S : List (Nat × Value)} : ∀ {S' : List (Nat × Value)}, sub S S' → ∀ i v, lk S' i = some v → lk S i = some v
  | [], _, i, v, h => by simp [lk] at h
  | p :: t, hs, i, v, h => by
    simp only [lk] at h
    split at h
    · rename_i hb
      have e : p.1 = i := Nat.eq_of_beq_eq_true hb
      subst e
      rw [← h]; exact hs.1
    · exact sub_lk hs.2 i v h

theorem Sl.re {N : Nat} {a : Act} {S S' : List (Nat × Value)} (h : Sl N a S) (hs : sub S S') : Sl N a S' :=
  ⟨h.size, h.defs, fun i v hi => h.get i v (sub_lk hs i v hi)⟩

def number : Nat → List Value → List (Nat × Value)
  | _, [] => []
  | i, v :: t => (i, v) :: number (i + 1) t

theorem lk_number : ∀ (vs : List Value) (k i : Nat) (v : Value), lk (number k vs) i = some v → k ≤ i ∧ vs[i - k]? = some v
  | [], _, _, _, h => by simp [number, lk] at h
  | u :: t, k, i, v, h => by
    simp only [number, lk] at h
    split at h
    · rename_i hb
      have e : k = i := Nat.eq_of_beq_eq_true hb
      subst e
      exact ⟨Nat.le_refl _, by simpa using h⟩
    · obtain ⟨h1, h2⟩ := lk_number t (k + 1) i v h
      refine ⟨by omega, ?_⟩
      rw [show i - k = (i - (k + 1)) + 1 from by omega]
      simpa using h2

theorem Sl.enter (n : Nat) (args : List Value) (h : Nat.ble args.length n = true) :
    Sl n { tmps := args.toArray ++ Array.replicate (n - args.toArray.size) undef, defers := [] } (number 0 args) := by
  have h' : args.length ≤ n := by simpa [Nat.ble_eq] using h
  refine ⟨by simp; omega, rfl, fun i v hi => ?_⟩
  obtain ⟨_, h2⟩ := lk_number args 0 i v hi
  have hlt : i < args.length := by
    rcases Nat.lt_or_ge i args.length with h | h
    · exact h
    · simp [List.getElem?_eq_none h] at h2
  rw [Array.getElem?_append_left (by simpa using hlt)]
  simpa using h2

/-! ### one operation of a region at a time -/

section
variable {P : Program} {ops : Array Oper} {Q : Exit → Act → World → Prop} {a : Act} {w w' : World} {rest : List Oper} {o : Oper} {N : Nat} {S : List (Nat × Value)} {d : Nat} {v : Value}

theorem st_val (hS : Sl N a S) (hg : o.guard = none) (hd : o.dst = some d) (hN : Nat.blt d N = true) (hr : (execOp a.eval o).run P w = .ok (.value v) w')
    (k : ∀ a', Sl N a' ((d, v) :: S) → wpList P ops Q rest a' w') : wpList P ops Q (o :: rest) a w :=
  wpList_plain hg fun K hK => by
    unfold Oper.wp
    rw [hr, Oper.upon_value, hd]
    exact hK _ _ (k _ (hS.put hN v))

theorem st_skip (hS : Sl N a S) (hg : o.guard = none) (hd : o.dst = none) (hr : (execOp a.eval o).run P w = .ok .skip w')
    (k : ∀ a', Sl N a' S → wpList P ops Q rest a' w') : wpList P ops Q (o :: rest) a w :=
  wpList_plain hg fun K hK => by
    unfold Oper.wp
    rw [hr, Oper.upon_skip, hd]
    exact hK _ _ (k _ (hS.put_none _))

theorem st_enter {f : FuncId} {args : Array Value} {R : Value → World → Prop} (hS : Sl N a S) (hg : o.guard = none) (hd : o.dst = some d) (hN : Nat.blt d N = true)
    (hr : (execOp a.eval o).run P w = .ok (.enter f args) w) (hc : Calls P f args w (fun e w' => ∃ v, e = .returned v ∧ R v w'))
    (k : ∀ v a' w', R v w' → Sl N a' ((d, v) :: S) → wpList P ops Q rest a' w') : wpList P ops Q (o :: rest) a w :=
  wpList_plain hg fun K hK => by
    unfold Oper.wp
    rw [hr, Oper.upon_enter]
    refine hc.mono fun e w' h => ?_
    obtain ⟨v, rfl, h⟩ := h
    rw [hd]
    exact hK _ _ (k v _ w' h (hS.put hN v))

theorem st_valW (hS : Sl N a S) (hw : Region.wanted o (yielded ops a.tmps) = true) (hd : o.dst = some d) (hN : Nat.blt d N = true) (hr : (execOp a.eval o).run P w = .ok (.value v) w')
    (k : ∀ a', Sl N a' ((d, v) :: S) → wpList P ops Q rest a' w') : wpList P ops Q (o :: rest) a w := by
  unfold wpList
  rw [if_pos hw]
  refine .inl ?_
  unfold Oper.wp
  rw [hr, Oper.upon_value, hd]
  exact k _ (hS.put hN v)

theorem st_enterW {f : FuncId} {args : Array Value} {R : Value → World → Prop} (hS : Sl N a S) (hw : Region.wanted o (yielded ops a.tmps) = true) (hd : o.dst = some d) (hN : Nat.blt d N = true)
    (hr : (execOp a.eval o).run P w = .ok (.enter f args) w) (hc : Calls P f args w (fun e w' => ∃ v, e = .returned v ∧ R v w'))
    (k : ∀ v a' w', R v w' → Sl N a' ((d, v) :: S) → wpList P ops Q rest a' w') : wpList P ops Q (o :: rest) a w := by
  unfold wpList
  rw [if_pos hw]
  refine .inl ?_
  unfold Oper.wp
  rw [hr, Oper.upon_enter]
  refine hc.mono fun e w' h => ?_
  obtain ⟨v, rfl, h⟩ := h
  rw [hd]
  exact k v _ w' h (hS.put hN v)

theorem want_eq (hS : Sl N a S) {gi : Nat} {gb t : Bool} (hg : o.guard = some (gi, gb)) (hd : (ops[gi]?).bind (·.dst) = some d) (hv : lk S d = some (.bool t)) : Region.wanted o (yielded ops a.tmps) = (t == gb) := by
  have := hS.get d _ hv
  simp only [Region.wanted, hg, yielded, hd, Option.bind_some, this]
  cases t <;> cases gb <;> rfl
theorem want_on (hS : Sl N a S) {gi : Nat} {gb t : Bool} (hg : o.guard = some (gi, gb)) (hd : (ops[gi]?).bind (·.dst) = some d) (hv : lk S d = some (.bool t)) (ht : t = gb) : Region.wanted o (yielded ops a.tmps) = true := by
  rw [want_eq hS hg hd hv, ht]; cases gb <;> rfl
theorem want_off (hS : Sl N a S) {gi : Nat} {gb t : Bool} (hg : o.guard = some (gi, gb)) (hd : (ops[gi]?).bind (·.dst) = some d) (hv : lk S d = some (.bool t)) (ht : t = !gb) : Region.wanted o (yielded ops a.tmps) = false := by
  rw [want_eq hS hg hd hv, ht]; cases gb <;> rfl
theorem want_un (hS : Sl N a S) {gi : Nat} {gb : Bool} (hg : o.guard = some (gi, gb)) (hd : (ops[gi]?).bind (·.dst) = some d) (hv : lk S d = some undef) : Region.wanted o (yielded ops a.tmps) = false := by
  have := hS.get d _ hv
  simp only [Region.wanted, hg, yielded, hd, Option.bind_some, this]
  cases gb <;> rfl

/-- A guarded operation that is not carried out: its temporary is then of no use. -/
theorem st_off (hS : Sl N a S) (hw : Region.wanted o (yielded ops a.tmps) = false) (hd : o.dst = some d) (hN : Nat.blt d N = true)
    (k : ∀ a', Sl N a' ((d, undef) :: S) → wpList P ops Q rest a' w) : wpList P ops Q (o :: rest) a w := by
  unfold wpList
  rw [if_neg (by simp [hw]), hd]
  exact k _ (hS.put hN undef)

end

/-! ### what may have changed -/

/-- From (w, g) to (w', g'): blocks whose colour is not in M are as they were, and so are their colours; streams as they were. -/
structure Fr (M : Nat → Prop) (w : World) (g : Nat → Nat) (w' : World) (g' : Nat → Nat) : Prop where
  os : w'.os = w.os
  tape : w'.tape = w.tape
  output : w'.output = w.output
  size : w.heap.size ≤ w'.heap.size
  block : ∀ b, b < w.heap.size → ¬ M (g b) → w'.heap[b]? = w.heap[b]? ∧ g' b = g b

theorem Fr.refl (M : Nat → Prop) (w : World) (g : Nat → Nat) : Fr M w g w g := ⟨rfl, rfl, rfl, Nat.le_refl _, fun _ _ _ => ⟨rfl, rfl⟩⟩

theorem Fr.trans {M M' : Nat → Prop} {w w1 w2 : World} {g g1 g2 : Nat → Nat} (h : Fr M w g w1 g1) (h' : Fr M' w1 g1 w2 g2) (hM : ∀ c, M' c → M c) : Fr M w g w2 g2 := by
  refine ⟨h'.os.trans h.os, h'.tape.trans h.tape, h'.output.trans h.output, Nat.le_trans h.size h'.size, fun b hb hm => ?_⟩
  obtain ⟨e1, e2⟩ := h.block b hb hm
  obtain ⟨e3, e4⟩ := h'.block b (Nat.lt_of_lt_of_le hb h.size) (by rw [e2]; exact fun hx => hm (hM _ hx))
  exact ⟨e3.trans e1, e4.trans e2⟩

theorem Fr.mono {M M' : Nat → Prop} {w w' : World} {g g' : Nat → Nat} (h : Fr M w g w' g') (hM : ∀ c, M c → M' c) : Fr M' w g w' g' :=
  ⟨h.os, h.tape, h.output, h.size, fun b hb hm => h.block b hb (fun hx => hm (hM _ hx))⟩

theorem Fr.drewN (M : Nat → Prop) (w : World) (g : Nat → Nat) (n : Nat) : Fr M w g (w.drewN n) g := ⟨rfl, rfl, rfl, Nat.le_refl _, fun _ _ _ => ⟨rfl, rfl⟩⟩
theorem Fr.drew (M : Nat → Prop) (w : World) (g : Nat → Nat) : Fr M w g w.drew g := ⟨rfl, rfl, rfl, Nat.le_refl _, fun _ _ _ => ⟨rfl, rfl⟩⟩

def dye (g : Nat → Nat) (b c : Nat) : Nat → Nat := fun b' => if b' = b then c else g b'

theorem dye_same (g : Nat → Nat) (b c : Nat) : dye g b c b = c := by simp [dye]
theorem dye_other {g : Nat → Nat} {b c b' : Nat} (h : b' ≠ b) : dye g b c b' = g b' := by simp [dye, h]

theorem Fr.alloc (M : Nat → Prop) (w : World) (g : Nat → Nat) (o : Obj) (c : Nat) : Fr M w g (w.alloc o) (dye g w.heap.size c) :=
  ⟨rfl, rfl, rfl, by simp, fun b hb _ => ⟨RowKit.Below.heap_alloc w o b hb, dye_other (by omega)⟩⟩

theorem Fr.setCell {M : Nat → Prop} (w : World) (g : Nat → Nat) (ad : Addr) (v : Value) (h : M (g ad.block)) : Fr M w g (w.setCell ad v) g :=
  ⟨rfl, rfl, rfl, by simp, fun b _ hm => ⟨RowKit.Below.heap_setCell w ad v b (fun e => hm (e ▸ h)), rfl⟩⟩

theorem Fr.setRow {M : Nat → Prop} (w : World) (g : Nat → Nat) (b : Nat) (cs : Array Value) (h : M (g b)) : Fr M w g (w.setRow b cs) g :=
  ⟨rfl, rfl, rfl, by simp [World.setRow], fun b' _ hm => ⟨setRow_other w b b' cs (fun e => hm (e ▸ h)), rfl⟩⟩

theorem Fr.cell {M : Nat → Prop} {w w' : World} {g g' : Nat → Nat} (h : Fr M w g w' g') {ad : Addr} {v : Value} (hc : w.cell? ad = some v) (hm : ¬ M (g ad.block)) : w'.cell? ad = some v := by
  rw [World.cell?_of_block (h.block ad.block (World.block_lt_of_cell? w ad hc) hm).1]
  exact hc

/-- All blocks of colour c1 turn to c2. -/
def recol (g : Nat → Nat) (c1 c2 : Nat) : Nat → Nat := fun b => if g b = c1 then c2 else g b

theorem Fr.recol {M : Nat → Prop} (w : World) (g : Nat → Nat) (c1 c2 : Nat) (h : M c1) : Fr M w g w (recol g c1 c2) :=
  ⟨rfl, rfl, rfl, Nat.le_refl _, fun b _ hm => ⟨rfl, by
    unfold Sim.recol
    by_cases e : g b = c1
    · exact absurd (by rw [e]; exact h) hm
    · rw [if_neg e]⟩⟩

/-! ### kinds of elements -/

structure Kd (α : Type) where
  sz : Nat
  R : World → (Nat → Nat) → (Nat → Prop) → α → List Value → Prop
  len : ∀ {w g C x cs}, R w g C x cs → cs.length = sz
  one : ∀ {w g C x cs}, R w g C x cs → ∀ v ∈ cs, v.oneCell' = true
  fr : ∀ {M w g w' g' C x cs}, Fr M w g w' g' → (∀ c, C c → ¬ M c) → R w g C x cs → R w' g' C x cs
  re : ∀ {w g g'} {C C' : Nat → Prop} {x cs}, (∀ b, b < w.heap.size → C (g b) → C' (g' b)) → R w g C x cs → R w g' C' x cs

theorem Kd.weak {α : Type} (k : Kd α) {w : World} {g : Nat → Nat} {C C' : Nat → Prop} {x : α} {cs : List Value} (h : ∀ c, C c → C' c) (hr : k.R w g C x cs) : k.R w g C' x cs := k.re (fun _ _ hc => h _ hc) hr

/-- A kind without addresses. -/
def flat {α : Type} (sz : Nat) (enc : α → List Value) (hl : ∀ x, (enc x).length = sz) (h1 : ∀ x, ∀ v ∈ enc x, v.oneCell' = true) : Kd α where
  sz := sz
  R := fun _ _ _ x cs => cs = enc x
  len := fun h => h ▸ hl _
  one := fun h => h ▸ h1 _
  fr := fun _ _ h => h
  re := fun _ h => h

def kint (k : IntKind) : Kd Int := flat 1 (fun x => [.int k x]) (fun _ => rfl) (fun x v hv => by simp at hv; subst hv; rfl)
def kbool : Kd Bool := flat 1 (fun x => [.bool x]) (fun _ => rfl) (fun x v hv => by simp at hv; subst hv; rfl)

/-! ### slices that are read -/

def idx {α : Type} (xs : List α) (i : Int) : Option α := if 0 ≤ i then xs[i.toNat]? else none

theorem idx_some {α : Type} {xs : List α} {i : Int} {x : α} (h : idx xs i = some x) : 0 ≤ i ∧ i < (xs.length : Int) ∧ xs[i.toNat]? = some x := by
  unfold idx at h
  split at h
  · rename_i h0
    have hlt : i.toNat < xs.length := by
      rcases Nat.lt_or_ge i.toNat xs.length with h1 | h1
      · exact h1
      · simp [List.getElem?_eq_none h1] at h
    exact ⟨h0, by omega, h⟩
  · cases h

/-- The address o cells behind A. -/
def ea (A : Option Addr) (o : Nat) : Addr := (A.getD ⟨0, 0, none⟩).add o

theorem add_block (a : Addr) (n : Nat) : (a.add n).block = a.block := by unfold Addr.add; split <;> rfl
theorem add_add (a : Addr) (i j : Nat) : (a.add i).add j = a.add (i + j) := by
  unfold Addr.add
  by_cases hi : i = 0 <;> by_cases hj : j = 0 <;> simp [hi, hj, Nat.add_assoc]
theorem ea_add (A : Option Addr) (i j : Nat) : (ea A i).add j = ea A (i + j) := add_add _ _ _
theorem ea_some (b o n : Nat) : ea (some ⟨b, o, none⟩) n = ⟨b, o + n, none⟩ := by
  unfold ea Addr.add; simp only [Option.getD_some]; split <;> simp_all

/-- A slice that is read: its cells lie in blocks of a colour in C, what its elements lead to has colours in D. -/
def RdX {α : Type} (k : Kd α) (w : World) (g : Nat → Nat) (C D : Nat → Prop) (A : Option Addr) (cap : Nat) (xs : List α) : Prop :=
  xs.length ≤ cap ∧ ∀ i x, xs[i]? = some x → ∃ ad cs, A = some ad ∧ C (g ad.block) ∧ k.R w g D x cs ∧ ∀ j u, cs[j]? = some u → w.cell? (ad.add (i * k.sz + j)) = some u
abbrev RdS {α : Type} (k : Kd α) (w : World) (g : Nat → Nat) (C : Nat → Prop) (A : Option Addr) (cap : Nat) (xs : List α) : Prop := RdX k w g C C A cap xs

section
variable {α : Type} {k : Kd α} {M : Nat → Prop} {w w' : World} {g g' : Nat → Nat} {C C' D D' : Nat → Prop} {A : Option Addr} {cap : Nat} {xs : List α}

theorem RdX.nil (k : Kd α) (w : World) (g : Nat → Nat) (C D : Nat → Prop) : RdX k w g C D none 0 [] := ⟨Nat.le_refl _, fun i x h => by simp at h⟩
theorem RdS.nil (k : Kd α) (w : World) (g : Nat → Nat) (C : Nat → Prop) : RdS k w g C none 0 [] := RdX.nil k w g C C

theorem RdX.weak (h : RdX k w g C D A cap xs) (hC : ∀ c, C c → C' c) (hD : ∀ c, D c → D' c) : RdX k w g C' D' A cap xs :=
  ⟨h.1, fun i x hx => let ⟨ad, cs, e, h1, h2, h3⟩ := h.2 i x hx; ⟨ad, cs, e, hC _ h1, k.weak hD h2, h3⟩⟩
theorem RdS.weak (h : RdS k w g C A cap xs) (hC : ∀ c, C c → C' c) : RdS k w g C' A cap xs := RdX.weak h hC hC

theorem RdX.at_ (h : RdX k w g C D A cap xs) {i : Int} {x : α} (hi : idx xs i = some x) :
    ∃ cs, k.R w g D x cs ∧ (∀ j u, cs[j]? = some u → w.cell? (ea A (i.toNat * k.sz + j)) = some u) ∧ C (g (ea A 0).block) ∧ ∃ ad, A = some ad := by
  obtain ⟨h0, h1, h2⟩ := idx_some hi
  obtain ⟨ad, cs, rfl, hc, hr, hcell⟩ := h.2 _ _ h2
  refine ⟨cs, hr, fun j u hu => ?_, ?_, ad, rfl⟩
  · unfold ea; exact hcell j u hu
  · simp only [ea, add_block, Option.getD_some]; exact hc
theorem RdS.at_ (h : RdS k w g C A cap xs) {i : Int} {x : α} (hi : idx xs i = some x) :
    ∃ cs, k.R w g C x cs ∧ (∀ j u, cs[j]? = some u → w.cell? (ea A (i.toNat * k.sz + j)) = some u) ∧ C (g (ea A 0).block) ∧ ∃ ad, A = some ad := RdX.at_ h hi

theorem RdX.fr (h : RdX k w g C D A cap xs) (F : Fr M w g w' g') (hsz : 0 < k.sz) (hC : ∀ c, C c → ¬ M c) (hD : ∀ c, D c → ¬ M c) : RdX k w' g' C D A cap xs := by
  refine ⟨h.1, fun i x hx => ?_⟩
  obtain ⟨ad, cs, rfl, hc, hr, hcell⟩ := h.2 i x hx
  have hl := k.len hr
  have h0 : w.cell? (ad.add (i * k.sz + 0)) = some cs[0] := hcell 0 _ (by simp [List.getElem?_eq_getElem (show 0 < cs.length by omega)])
  have hb := World.block_lt_of_cell? w _ h0
  rw [add_block] at hb
  refine ⟨ad, cs, rfl, ?_, k.fr F hD hr, fun j u hu => F.cell (hcell j u hu) (by rw [add_block]; exact hC _ hc)⟩
  rw [(F.block _ hb (hC _ hc)).2]; exact hc
theorem RdS.fr (h : RdS k w g C A cap xs) (F : Fr M w g w' g') (hsz : 0 < k.sz) (hC : ∀ c, C c → ¬ M c) : RdS k w' g' C A cap xs := RdX.fr h F hsz hC hC

theorem RdX.re (h : RdX k w g C D A cap xs) (hsz : 0 < k.sz) (hC : ∀ b, b < w.heap.size → C (g b) → C' (g' b)) (hD : ∀ b, b < w.heap.size → D (g b) → D' (g' b)) : RdX k w g' C' D' A cap xs := by
  refine ⟨h.1, fun i x hx => ?_⟩
  obtain ⟨ad, cs, rfl, hc, hr, hcell⟩ := h.2 i x hx
  have hl := k.len hr
  have h0 : w.cell? (ad.add (i * k.sz + 0)) = some cs[0] := hcell 0 _ (by simp [List.getElem?_eq_getElem (show 0 < cs.length by omega)])
  have hb := World.block_lt_of_cell? w _ h0
  rw [add_block] at hb
  exact ⟨ad, cs, rfl, hC _ hb hc, k.re hD hr, hcell⟩

/-! ### slices of the call's own -/

def Rows (k : Kd α) (w : World) (g : Nat → Nat) (C : Nat → Prop) (xs : List α) (cs : List Value) : Prop :=
  cs.length = xs.length * k.sz ∧ ∀ i x, xs[i]? = some x → k.R w g C x ((cs.drop (i * k.sz)).take k.sz)

/-- A slice that begins its block; nobody else holds the block (its colour is c); what its elements lead to has a colour in D. -/
def OwD (k : Kd α) (T : TypeId) (w : World) (g : Nat → Nat) (c : Nat) (D : Nat → Prop) (A : Option Addr) (cap : Nat) (xs : List α) : Prop :=
  xs.length ≤ cap ∧ cap ≤ maxLen ∧ ((A = none ∧ cap = 0) ∨
    ∃ b arr, A = some ⟨b, 0, none⟩ ∧ w.heap[b]? = some (.cells arr T (0, 0)) ∧ g b = c ∧ arr.size = cap * k.sz ∧ Rows k w g D xs (arr.toList.take (xs.length * k.sz)))
/-- .. what its elements lead to has colour c + 1. -/
abbrev OwS (k : Kd α) (T : TypeId) (w : World) (g : Nat → Nat) (c : Nat) (A : Option Addr) (cap : Nat) (xs : List α) : Prop := OwD k T w g c (· = c + 1) A cap xs

theorem OwD.nil (k : Kd α) (T : TypeId) (w : World) (g : Nat → Nat) (c : Nat) (D : Nat → Prop) : OwD k T w g c D none 0 [] := ⟨Nat.le_refl _, by simp [maxLen], .inl ⟨rfl, rfl⟩⟩
theorem OwS.nil (k : Kd α) (T : TypeId) (w : World) (g : Nat → Nat) (c : Nat) : OwS k T w g c none 0 [] := OwD.nil k T w g c _

theorem Rows.fr {cs : List Value} (h : Rows k w g C xs cs) (F : Fr M w g w' g') (hC : ∀ c, C c → ¬ M c) : Rows k w' g' C xs cs :=
  ⟨h.1, fun i x hx => k.fr F hC (h.2 i x hx)⟩

theorem OwD.fr {c : Nat} {T : TypeId} (h : OwD k T w g c D A cap xs) (F : Fr M w g w' g') (hc : ¬ M c) (hD : ∀ c', D c' → ¬ M c') : OwD k T w' g' c D A cap xs := by
  refine ⟨h.1, h.2.1, ?_⟩
  rcases h.2.2 with hn | ⟨b, arr, rfl, hb, hg, hs, hr⟩
  · exact .inl hn
  · have hlt := (Array.getElem?_eq_some_iff.1 hb).1
    have hm : ¬ M (g b) := by rw [hg]; exact hc
    refine .inr ⟨b, arr, rfl, ?_, ?_, hs, hr.fr F hD⟩
    · rw [(F.block b hlt hm).1]; exact hb
    · rw [(F.block b hlt hm).2]; exact hg
theorem OwS.fr {c : Nat} {T : TypeId} (h : OwS k T w g c A cap xs) (F : Fr M w g w' g') (hC : ∀ c', c' = c ∨ c' = c + 1 → ¬ M c') : OwS k T w' g' c A cap xs := OwD.fr h F (hC c (.inl rfl)) (fun c' e => hC c' (.inr e))

theorem getElem?_take_drop (l : List Value) (i n j : Nat) (hj : j < n) : ((l.drop i).take n)[j]? = l[i + j]? := by
  rw [List.getElem?_take, if_pos hj, List.getElem?_drop]

theorem OwD.rdx {c : Nat} {T : TypeId} (h : OwD k T w g c D A cap xs) : RdX k w g (· = c) D A cap xs := by
  refine ⟨h.1, fun i x hx => ?_⟩
  have hi : i < xs.length := by
    rcases Nat.lt_or_ge i xs.length with h1 | h1
    · exact h1
    · simp [List.getElem?_eq_none h1] at hx
  rcases h.2.2 with ⟨rfl, h0⟩ | ⟨b, arr, rfl, hb, hc, hs, hr⟩
  · have := h.1; omega
  · have hR := hr.2 i x hx
    refine ⟨⟨b, 0, none⟩, _, rfl, hc, hR, fun j u hu => ?_⟩
    have hl := k.len hR
    have hj : j < k.sz := by
      rcases Nat.lt_or_ge j k.sz with h1 | h1
      · exact h1
      · simp [List.getElem?_eq_none (show (((arr.toList.take (xs.length * k.sz)).drop (i * k.sz)).take k.sz).length ≤ j by omega)] at hu
    rw [getElem?_take_drop _ _ _ _ hj, List.getElem?_take] at hu
    split at hu
    · have hadd : (⟨b, 0, none⟩ : Addr).add (i * k.sz + j) = ⟨b, i * k.sz + j, none⟩ := by unfold Addr.add; split <;> simp_all
      rw [hadd, cell_of_row w b _ arr T (0, 0) hb]
      simpa using hu
    · cases hu
theorem OwD.rd {c : Nat} {T : TypeId} (h : OwD k T w g c D A cap xs) : RdS k w g (fun c' => c' = c ∨ D c') A cap xs := h.rdx.weak (fun _ e => .inl e) (fun _ e => .inr e)
theorem OwS.rd {c : Nat} {T : TypeId} (h : OwS k T w g c A cap xs) : RdS k w g (fun c' => c' = c ∨ c' = c + 1) A cap xs := OwD.rd h

theorem OwS.weakC {c : Nat} {T : TypeId} (h : OwS k T w g c A cap xs) (hC : ∀ c', c' = c ∨ c' = c + 1 → C c') : RdS k w g C A cap xs := h.rd.weak hC

end

/-- What is held at colour c (and c + 1) turns to colour d (and d + 1). -/
def recol2 (g : Nat → Nat) (c d : Nat) : Nat → Nat := fun b => if g b = c then d else if g b = c + 1 then d + 1 else g b

theorem Fr.recol2 (w : World) (g : Nat → Nat) (c d : Nat) : Fr (fun q => q = c ∨ q = c + 1) w g w (recol2 g c d) :=
  ⟨rfl, rfl, rfl, Nat.le_refl _, fun b _ hm => ⟨rfl, by
    unfold Sim.recol2
    rw [if_neg (fun e => hm (.inl e)), if_neg (fun e => hm (.inr e))]⟩⟩

theorem OwS.recol2 {α : Type} {k : Kd α} {w : World} {g : Nat → Nat} {A : Option Addr} {cap : Nat} {xs : List α} {c : Nat} {T : TypeId} (h : OwS k T w g c A cap xs) (d : Nat) : OwS k T w (recol2 g c d) d A cap xs := by
  refine ⟨h.1, h.2.1, ?_⟩
  rcases h.2.2 with hn | ⟨b, arr, rfl, hb, hc, hs, hr⟩
  · exact .inl hn
  · refine .inr ⟨b, arr, rfl, hb, by simp [Sim.recol2, hc], hs, hr.1, fun i x hx => k.re (fun b' _ e => ?_) (hr.2 i x hx)⟩
    simp only [Sim.recol2]
    rw [if_neg (by omega), if_pos e]

/-! ### blocks that are known whole -/

def Bx (w : World) (g : Nat → Nat) (c b : Nat) (T : TypeId) (cs : List Value) : Prop := w.heap[b]? = some (.cells cs.toArray T (0, 0)) ∧ g b = c

theorem Bx.cell {w : World} {g : Nat → Nat} {c b : Nat} {T : TypeId} {cs : List Value} (h : Bx w g c b T cs) {j : Nat} {v : Value} (hj : cs[j]? = some v) : w.cell? ⟨b, j, none⟩ = some v := by
  rw [cell_of_row w b j cs.toArray T (0, 0) h.1]; simpa using hj

theorem Bx.fr {M : Nat → Prop} {w w' : World} {g g' : Nat → Nat} {c b : Nat} {T : TypeId} {cs : List Value} (h : Bx w g c b T cs) (F : Fr M w g w' g') (hC : ¬ M c) : Bx w' g' c b T cs := by
  have hlt := (Array.getElem?_eq_some_iff.1 h.1).1
  obtain ⟨e1, e2⟩ := F.block b hlt (by rw [h.2]; exact hC)
  exact ⟨e1.trans h.1, e2.trans h.2⟩

/-! ### plain words of the printed functions -/

def upd {α : Type} (xs : List α) (i : Int) (x : α) : List α := xs.set i.toNat x
/-- An append, as far as the proofs follow it. -/
def app {α : Type} (xs ys : List α) : Option (List α) := if xs.length + ys.length ≤ 4294967296 then some (xs ++ ys) else none
def mk {α : Type} (n : Int) (x : α) : Option (List α) := if 0 ≤ n ∧ n ≤ 4294967296 then some (List.replicate n.toNat x) else none
def wi (x : Int) : Int := IntKind.i64.wrap x
def wu (x : Int) : Int := IntKind.u64.wrap x

theorem bind_el {α β : Type} {o : Option α} {f : α → Option β} {r : β} (h : o.bind f = some r) : ∃ x, o = some x ∧ f x = some r := Option.bind_eq_some_iff.1 h

end Go.Proofs.Ytfiodhdldleocaa.Sim
