/-
  Texts of this session, part 1 of 8: the words of the walk, plain functions with the same answers as the Go functions and the proofs of it, plain lemmas. No condition.
  They are, one behind the other: SimA SimB SimC SimD SimE SimF SimG SimH SimI SimJ SimK Ty Eq QDeviceAscending QDeviceIsState QDeviceValid QDeviceCheck.
-/
import Derived.Laws.AppendOwn
import Derived.Laws.MakeOwn
import Derived.Laws.OwnMore
import Derived.Deep.LoopGhost
import Derived.Deep.Quiet
import Derived.OrdersHeld
import Derived.WalkKit
import Derived.KernelRfl
import Derived.Test.YtfhhklkmbcnhnaaWLast
import Derived.ProofKit
import Derived.OpenShut
import Derived.ChangeArms
import Derived.ChangeOld
import Derived.Below
import Derived.Carry
import Derived.SizedLaws
import Derived.Laws.StructEq
import Derived.MapKept
import Derived.Test.YtfhhklkmbcnhnaaProg

namespace Go.Proofs.Ytfhhklkmbcnhnaa.Sim
open Go

/-! ### slots -/

def lk : List (Nat × Value) → Nat → Option Value
  | [], _ => none
  | p :: t, j => match Nat.beq p.1 j with
    | true => some p.2
    | false => lk t j

/-- What is known of the temporaries. -/
structure Sl (N : Nat) (a : Act) (S : List (Nat × Value)) : Prop where
  size : a.tmps.size = N
  defs : a.defers = []
  get : ∀ i v, lk S i = some v → a.tmps[i]? = some v

def ev (S : List (Nat × Value)) : Operand → Option Value
  | .tmp t => lk S t
  | .const v => some v
  | .global g => some (.pointer (some ⟨g, 0, none⟩))
  | .func f => some (.func (.func f) #[] #[])

theorem Sl.ev {N : Nat} {a : Act} {S : List (Nat × Value)} (h : Sl N a S) {x : Operand} {v : Value} (hx : ev S x = some v) : a.eval x = v := by
  cases x with
  | tmp t =>
    have := h.get t v hx
    simp [Act.eval, Array.getD_eq_getD_getElem?, this]
  | const c => exact Option.some.inj hx
  | global g => simpa [Sim.ev, Act.eval] using hx
  | func f => simpa [Sim.ev, Act.eval] using hx

theorem Sl.put {N : Nat} {a : Act} {S : List (Nat × Value)} (h : Sl N a S) {d : Nat} (hd : Nat.blt d N = true) (v : Value) : Sl N (a.put (some d) v) ((d, v) :: S) := by
  have hd' : d < N := by simpa [Nat.blt_eq] using hd
  refine ⟨by simp [Act.put, h.size], h.defs, fun i u hu => ?_⟩
  simp only [Act.put]
  rw [Array.getElem?_setIfInBounds]
  simp only [lk] at hu
  split at hu
  · rename_i hb
    have e : d = i := Nat.eq_of_beq_eq_true hb
    subst e
    simp only [if_true, h.size, hd']
    exact hu
  · rename_i hb
    have e : d ≠ i := Nat.ne_of_beq_eq_false hb
    rw [if_neg e]
    exact h.get i u hu

theorem Sl.put_none {N : Nat} {a : Act} {S : List (Nat × Value)} (h : Sl N a S) (v : Value) : Sl N (a.put none v) S := h

/-- Every pair of S' is in S. -/
def sub (S : List (Nat × Value)) : List (Nat × Value) → Prop
  | [] => True
  | p :: t => lk S p.1 = some p.2 ∧ sub S t

theorem sub_lk {S : List (Nat × Value)} : ∀ {S' : List (Nat × Value)}, sub S S' → ∀ i v, lk S' i = some v → lk S i = some v
  | [], _, i, v, h => by simp [lk] at h
  | p :: t, hs, i, v, h => by
    simp only [lk] at h
    split at h
    · rename_i hb
      have e : p.1 = i := Nat.eq_of_beq_eq_true hb
      subst e
      rw [← h]; exact hs.1
    · exact sub_lk hs.2 i v h

theorem Sl.re {N : Nat} {a : Act} {S S' : List (Nat × Value)} (h : Sl N a S) (hs : sub S S') : Sl N a S' :=
  ⟨h.size, h.defs, fun i v hi => h.get i v (sub_lk hs i v hi)⟩

def number : Nat → List Value → List (Nat × Value)
  | _, [] => []
  | i, v :: t => (i, v) :: number (i + 1) t

theorem lk_number : ∀ (vs : List Value) (k i : Nat) (v : Value), lk (number k vs) i = some v → k ≤ i ∧ vs[i - k]? = some v
  | [], _, _, _, h => by simp [number, lk] at h
  | u :: t, k, i, v, h => by
    simp only [number, lk] at h
    split at h
    · rename_i hb
      have e : k = i := Nat.eq_of_beq_eq_true hb
      subst e
      exact ⟨Nat.le_refl _, by simpa using h⟩
    · obtain ⟨h1, h2⟩ := lk_number t (k + 1) i v h
      refine ⟨by omega, ?_⟩
      rw [show i - k = (i - (k + 1)) + 1 from by omega]
      simpa using h2

theorem Sl.enter (n : Nat) (args : List Value) (h : Nat.ble args.length n = true) :
    Sl n { tmps := args.toArray ++ Array.replicate (n - args.toArray.size) undef, defers := [] } (number 0 args) := by
  have h' : args.length ≤ n := by simpa [Nat.ble_eq] using h
  refine ⟨by simp; omega, rfl, fun i v hi => ?_⟩
  obtain ⟨_, h2⟩ := lk_number args 0 i v hi
  have hlt : i < args.length := by
    rcases Nat.lt_or_ge i args.length with h | h
    · exact h
    · simp [List.getElem?_eq_none h] at h2
  rw [Array.getElem?_append_left (by simpa using hlt)]
  simpa using h2

/-! ### one operation of a region at a time -/

section
variable {P : Program} {ops : Array Oper} {Q : Exit → Act → World → Prop} {a : Act} {w w' : World} {rest : List Oper} {o : Oper} {N : Nat} {S : List (Nat × Value)} {d : Nat} {v : Value}

theorem st_val (hS : Sl N a S) (hg : o.guard = none) (hd : o.dst = some d) (hN : Nat.blt d N = true) (hr : (execOp a.eval o).run P w = .ok (.value v) w')
    (k : ∀ a', Sl N a' ((d, v) :: S) → wpList P ops Q rest a' w') : wpList P ops Q (o :: rest) a w :=
  wpList_plain hg fun K hK => by
    unfold Oper.wp
    rw [hr, Oper.upon_value, hd]
    exact hK _ _ (k _ (hS.put hN v))

theorem st_skip (hS : Sl N a S) (hg : o.guard = none) (hd : o.dst = none) (hr : (execOp a.eval o).run P w = .ok .skip w')
    (k : ∀ a', Sl N a' S → wpList P ops Q rest a' w') : wpList P ops Q (o :: rest) a w :=
  wpList_plain hg fun K hK => by
    unfold Oper.wp
    rw [hr, Oper.upon_skip, hd]
    exact hK _ _ (k _ (hS.put_none _))

theorem st_enter {f : FuncId} {args : Array Value} {R : Value → World → Prop} (hS : Sl N a S) (hg : o.guard = none) (hd : o.dst = some d) (hN : Nat.blt d N = true)
    (hr : (execOp a.eval o).run P w = .ok (.enter f args) w) (hc : Calls P f args w (fun e w' => ∃ v, e = .returned v ∧ R v w'))
    (k : ∀ v a' w', R v w' → Sl N a' ((d, v) :: S) → wpList P ops Q rest a' w') : wpList P ops Q (o :: rest) a w :=
  wpList_plain hg fun K hK => by
    unfold Oper.wp
    rw [hr, Oper.upon_enter]
    refine hc.mono fun e w' h => ?_
    obtain ⟨v, rfl, h⟩ := h
    rw [hd]
    exact hK _ _ (k v _ w' h (hS.put hN v))

theorem st_valW (hS : Sl N a S) (hw : Region.wanted o (yielded ops a.tmps) = true) (hd : o.dst = some d) (hN : Nat.blt d N = true) (hr : (execOp a.eval o).run P w = .ok (.value v) w')
    (k : ∀ a', Sl N a' ((d, v) :: S) → wpList P ops Q rest a' w') : wpList P ops Q (o :: rest) a w := by
  unfold wpList
  rw [if_pos hw]
  refine .inl ?_
  unfold Oper.wp
  rw [hr, Oper.upon_value, hd]
  exact k _ (hS.put hN v)

theorem st_enterW {f : FuncId} {args : Array Value} {R : Value → World → Prop} (hS : Sl N a S) (hw : Region.wanted o (yielded ops a.tmps) = true) (hd : o.dst = some d) (hN : Nat.blt d N = true)
    (hr : (execOp a.eval o).run P w = .ok (.enter f args) w) (hc : Calls P f args w (fun e w' => ∃ v, e = .returned v ∧ R v w'))
    (k : ∀ v a' w', R v w' → Sl N a' ((d, v) :: S) → wpList P ops Q rest a' w') : wpList P ops Q (o :: rest) a w := by
  unfold wpList
  rw [if_pos hw]
  refine .inl ?_
  unfold Oper.wp
  rw [hr, Oper.upon_enter]
  refine hc.mono fun e w' h => ?_
  obtain ⟨v, rfl, h⟩ := h
  rw [hd]
  exact k v _ w' h (hS.put hN v)

theorem want_eq (hS : Sl N a S) {gi : Nat} {gb t : Bool} (hg : o.guard = some (gi, gb)) (hd : (ops[gi]?).bind (·.dst) = some d) (hv : lk S d = some (.bool t)) : Region.wanted o (yielded ops a.tmps) = (t == gb) := by
  have := hS.get d _ hv
  simp only [Region.wanted, hg, yielded, hd, Option.bind_some, this]
  cases t <;> cases gb <;> rfl
theorem want_on (hS : Sl N a S) {gi : Nat} {gb t : Bool} (hg : o.guard = some (gi, gb)) (hd : (ops[gi]?).bind (·.dst) = some d) (hv : lk S d = some (.bool t)) (ht : t = gb) : Region.wanted o (yielded ops a.tmps) = true := by
  rw [want_eq hS hg hd hv, ht]; cases gb <;> rfl
theorem want_off (hS : Sl N a S) {gi : Nat} {gb t : Bool} (hg : o.guard = some (gi, gb)) (hd : (ops[gi]?).bind (·.dst) = some d) (hv : lk S d = some (.bool t)) (ht : t = !gb) : Region.wanted o (yielded ops a.tmps) = false := by
  rw [want_eq hS hg hd hv, ht]; cases gb <;> rfl
theorem want_un (hS : Sl N a S) {gi : Nat} {gb : Bool} (hg : o.guard = some (gi, gb)) (hd : (ops[gi]?).bind (·.dst) = some d) (hv : lk S d = some undef) : Region.wanted o (yielded ops a.tmps) = false := by
  have := hS.get d _ hv
  simp only [Region.wanted, hg, yielded, hd, Option.bind_some, this]
  cases gb <;> rfl

/-- A guarded operation that is not carried out: its temporary is then of no use. -/
theorem st_off (hS : Sl N a S) (hw : Region.wanted o (yielded ops a.tmps) = false) (hd : o.dst = some d) (hN : Nat.blt d N = true)
    (k : ∀ a', Sl N a' ((d, undef) :: S) → wpList P ops Q rest a' w) : wpList P ops Q (o :: rest) a w := by
  unfold wpList
  rw [if_neg (by simp [hw]), hd]
  exact k _ (hS.put hN undef)

end

/-! ### what may have changed -/

/-- From (w, g) to (w', g'): blocks whose colour is not in M are as they were, and so are their colours; streams as they were. -/
structure Fr (M : Nat → Prop) (w : World) (g : Nat → Nat) (w' : World) (g' : Nat → Nat) : Prop where
  os : w'.os = w.os
  tape : w'.tape = w.tape
  output : w'.output = w.output
  size : w.heap.size ≤ w'.heap.size
  block : ∀ b, b < w.heap.size → ¬ M (g b) → w'.heap[b]? = w.heap[b]? ∧ g' b = g b

theorem Fr.refl (M : Nat → Prop) (w : World) (g : Nat → Nat) : Fr M w g w g := ⟨rfl, rfl, rfl, Nat.le_refl _, fun _ _ _ => ⟨rfl, rfl⟩⟩

theorem Fr.trans {M M' : Nat → Prop} {w w1 w2 : World} {g g1 g2 : Nat → Nat} (h : Fr M w g w1 g1) (h' : Fr M' w1 g1 w2 g2) (hM : ∀ c, M' c → M c) : Fr M w g w2 g2 := by
  refine ⟨h'.os.trans h.os, h'.tape.trans h.tape, h'.output.trans h.output, Nat.le_trans h.size h'.size, fun b hb hm => ?_⟩
  obtain ⟨e1, e2⟩ := h.block b hb hm
  obtain ⟨e3, e4⟩ := h'.block b (Nat.lt_of_lt_of_le hb h.size) (by rw [e2]; exact fun hx => hm (hM _ hx))
  exact ⟨e3.trans e1, e4.trans e2⟩

theorem Fr.mono {M M' : Nat → Prop} {w w' : World} {g g' : Nat → Nat} (h : Fr M w g w' g') (hM : ∀ c, M c → M' c) : Fr M' w g w' g' :=
  ⟨h.os, h.tape, h.output, h.size, fun b hb hm => h.block b hb (fun hx => hm (hM _ hx))⟩

theorem Fr.drew (M : Nat → Prop) (w : World) (g : Nat → Nat) : Fr M w g w.drew g := ⟨rfl, rfl, rfl, Nat.le_refl _, fun _ _ _ => ⟨rfl, rfl⟩⟩

def dye (g : Nat → Nat) (b c : Nat) : Nat → Nat := fun b' => if b' = b then c else g b'

theorem dye_same (g : Nat → Nat) (b c : Nat) : dye g b c b = c := by simp [dye]
theorem dye_other {g : Nat → Nat} {b c b' : Nat} (h : b' ≠ b) : dye g b c b' = g b' := by simp [dye, h]

theorem Fr.alloc (M : Nat → Prop) (w : World) (g : Nat → Nat) (o : Obj) (c : Nat) : Fr M w g (w.alloc o) (dye g w.heap.size c) :=
  ⟨rfl, rfl, rfl, by simp, fun b hb _ => ⟨RowKit.Below.heap_alloc w o b hb, dye_other (by omega)⟩⟩

theorem Fr.setRow {M : Nat → Prop} (w : World) (g : Nat → Nat) (b : Nat) (cs : Array Value) (h : M (g b)) : Fr M w g (w.setRow b cs) g :=
  ⟨rfl, rfl, rfl, by simp [World.setRow], fun b' _ hm => ⟨setRow_other w b b' cs (fun e => hm (e ▸ h)), rfl⟩⟩

theorem Fr.cell {M : Nat → Prop} {w w' : World} {g g' : Nat → Nat} (h : Fr M w g w' g') {ad : Addr} {v : Value} (hc : w.cell? ad = some v) (hm : ¬ M (g ad.block)) : w'.cell? ad = some v := by
  rw [World.cell?_of_block (h.block ad.block (World.block_lt_of_cell? w ad hc) hm).1]
  exact hc

/-- All blocks of colour c1 turn to c2. -/
def recol (g : Nat → Nat) (c1 c2 : Nat) : Nat → Nat := fun b => if g b = c1 then c2 else g b

theorem Fr.recol {M : Nat → Prop} (w : World) (g : Nat → Nat) (c1 c2 : Nat) (h : M c1) : Fr M w g w (recol g c1 c2) :=
  ⟨rfl, rfl, rfl, Nat.le_refl _, fun b _ hm => ⟨rfl, by
    unfold Sim.recol
    by_cases e : g b = c1
    · exact absurd (by rw [e]; exact h) hm
    · rw [if_neg e]⟩⟩

/-! ### kinds of elements -/

structure Kd (α : Type) where
  sz : Nat
  R : World → (Nat → Nat) → (Nat → Prop) → α → List Value → Prop
  len : ∀ {w g C x cs}, R w g C x cs → cs.length = sz
  one : ∀ {w g C x cs}, R w g C x cs → ∀ v ∈ cs, v.oneCell' = true
  fr : ∀ {M w g w' g' C x cs}, Fr M w g w' g' → (∀ c, C c → ¬ M c) → R w g C x cs → R w' g' C x cs
  re : ∀ {w g g'} {C C' : Nat → Prop} {x cs}, (∀ b, b < w.heap.size → C (g b) → C' (g' b)) → R w g C x cs → R w g' C' x cs

theorem Kd.weak {α : Type} (k : Kd α) {w : World} {g : Nat → Nat} {C C' : Nat → Prop} {x : α} {cs : List Value} (h : ∀ c, C c → C' c) (hr : k.R w g C x cs) : k.R w g C' x cs := k.re (fun _ _ hc => h _ hc) hr

/-- A kind without addresses. -/
def flat {α : Type} (sz : Nat) (enc : α → List Value) (hl : ∀ x, (enc x).length = sz) (h1 : ∀ x, ∀ v ∈ enc x, v.oneCell' = true) : Kd α where
  sz := sz
  R := fun _ _ _ x cs => cs = enc x
  len := fun h => h ▸ hl _
  one := fun h => h ▸ h1 _
  fr := fun _ _ h => h
  re := fun _ h => h

def kint (k : IntKind) : Kd Int := flat 1 (fun x => [.int k x]) (fun _ => rfl) (fun x v hv => by simp at hv; subst hv; rfl)
def kbool : Kd Bool := flat 1 (fun x => [.bool x]) (fun _ => rfl) (fun x v hv => by simp at hv; subst hv; rfl)

/-! ### slices that are read -/

def idx {α : Type} (xs : List α) (i : Int) : Option α := if 0 ≤ i then xs[i.toNat]? else none

theorem idx_some {α : Type} {xs : List α} {i : Int} {x : α} (h : idx xs i = some x) : 0 ≤ i ∧ i < (xs.length : Int) ∧ xs[i.toNat]? = some x := by
  unfold idx at h
  split at h
  · rename_i h0
    have hlt : i.toNat < xs.length := by
      rcases Nat.lt_or_ge i.toNat xs.length with h1 | h1
      · exact h1
      · simp [List.getElem?_eq_none h1] at h
    exact ⟨h0, by omega, h⟩
  · cases h

/-- The address o cells behind A. -/
def ea (A : Option Addr) (o : Nat) : Addr := (A.getD ⟨0, 0, none⟩).add o

theorem add_block (a : Addr) (n : Nat) : (a.add n).block = a.block := by unfold Addr.add; split <;> rfl
theorem add_add (a : Addr) (i j : Nat) : (a.add i).add j = a.add (i + j) := by
  unfold Addr.add
  by_cases hi : i = 0 <;> by_cases hj : j = 0 <;> simp [hi, hj, Nat.add_assoc]
theorem ea_add (A : Option Addr) (i j : Nat) : (ea A i).add j = ea A (i + j) := add_add _ _ _
theorem ea_some (b o n : Nat) : ea (some ⟨b, o, none⟩) n = ⟨b, o + n, none⟩ := by
  unfold ea Addr.add; simp only [Option.getD_some]; split <;> simp_all

/-- A slice that is read: its cells lie in blocks of a colour in C, what its elements lead to has colours in D. -/
def RdX {α : Type} (k : Kd α) (w : World) (g : Nat → Nat) (C D : Nat → Prop) (A : Option Addr) (cap : Nat) (xs : List α) : Prop :=
  xs.length ≤ cap ∧ ∀ i x, xs[i]? = some x → ∃ ad cs, A = some ad ∧ C (g ad.block) ∧ k.R w g D x cs ∧ ∀ j u, cs[j]? = some u → w.cell? (ad.add (i * k.sz + j)) = some u
abbrev RdS {α : Type} (k : Kd α) (w : World) (g : Nat → Nat) (C : Nat → Prop) (A : Option Addr) (cap : Nat) (xs : List α) : Prop := RdX k w g C C A cap xs

section
variable {α : Type} {k : Kd α} {M : Nat → Prop} {w w' : World} {g g' : Nat → Nat} {C C' D D' : Nat → Prop} {A : Option Addr} {cap : Nat} {xs : List α}

theorem RdX.nil (k : Kd α) (w : World) (g : Nat → Nat) (C D : Nat → Prop) : RdX k w g C D none 0 [] := ⟨Nat.le_refl _, fun i x h => by simp at h⟩
theorem RdS.nil (k : Kd α) (w : World) (g : Nat → Nat) (C : Nat → Prop) : RdS k w g C none 0 [] := RdX.nil k w g C C

theorem RdX.weak (h : RdX k w g C D A cap xs) (hC : ∀ c, C c → C' c) (hD : ∀ c, D c → D' c) : RdX k w g C' D' A cap xs :=
  ⟨h.1, fun i x hx => let ⟨ad, cs, e, h1, h2, h3⟩ := h.2 i x hx; ⟨ad, cs, e, hC _ h1, k.weak hD h2, h3⟩⟩
theorem RdS.weak (h : RdS k w g C A cap xs) (hC : ∀ c, C c → C' c) : RdS k w g C' A cap xs := RdX.weak h hC hC

theorem RdX.at_ (h : RdX k w g C D A cap xs) {i : Int} {x : α} (hi : idx xs i = some x) :
    ∃ cs, k.R w g D x cs ∧ (∀ j u, cs[j]? = some u → w.cell? (ea A (i.toNat * k.sz + j)) = some u) ∧ C (g (ea A 0).block) ∧ ∃ ad, A = some ad := by
  obtain ⟨h0, h1, h2⟩ := idx_some hi
  obtain ⟨ad, cs, rfl, hc, hr, hcell⟩ := h.2 _ _ h2
  refine ⟨cs, hr, fun j u hu => ?_, ?_, ad, rfl⟩
  · unfold ea; exact hcell j u hu
  · simp only [ea, add_block, Option.getD_some]; exact hc
theorem RdS.at_ (h : RdS k w g C A cap xs) {i : Int} {x : α} (hi : idx xs i = some x) :
    ∃ cs, k.R w g C x cs ∧ (∀ j u, cs[j]? = some u → w.cell? (ea A (i.toNat * k.sz + j)) = some u) ∧ C (g (ea A 0).block) ∧ ∃ ad, A = some ad := RdX.at_ h hi

theorem RdX.fr (h : RdX k w g C D A cap xs) (F : Fr M w g w' g') (hsz : 0 < k.sz) (hC : ∀ c, C c → ¬ M c) (hD : ∀ c, D c → ¬ M c) : RdX k w' g' C D A cap xs := by
  refine ⟨h.1, fun i x hx => ?_⟩
  obtain ⟨ad, cs, rfl, hc, hr, hcell⟩ := h.2 i x hx
  have hl := k.len hr
  have h0 : w.cell? (ad.add (i * k.sz + 0)) = some cs[0] := hcell 0 _ (by simp [List.getElem?_eq_getElem (show 0 < cs.length by omega)])
  have hb := World.block_lt_of_cell? w _ h0
  rw [add_block] at hb
  refine ⟨ad, cs, rfl, ?_, k.fr F hD hr, fun j u hu => F.cell (hcell j u hu) (by rw [add_block]; exact hC _ hc)⟩
  rw [(F.block _ hb (hC _ hc)).2]; exact hc
theorem RdS.fr (h : RdS k w g C A cap xs) (F : Fr M w g w' g') (hsz : 0 < k.sz) (hC : ∀ c, C c → ¬ M c) : RdS k w' g' C A cap xs := RdX.fr h F hsz hC hC

theorem RdX.re (h : RdX k w g C D A cap xs) (hsz : 0 < k.sz) (hC : ∀ b, b < w.heap.size → C (g b) → C' (g' b)) (hD : ∀ b, b < w.heap.size → D (g b) → D' (g' b)) : RdX k w g' C' D' A cap xs := by
  refine ⟨h.1, fun i x hx => ?_⟩
  obtain ⟨ad, cs, rfl, hc, hr, hcell⟩ := h.2 i x hx
  have hl := k.len hr
  have h0 : w.cell? (ad.add (i * k.sz + 0)) = some cs[0] := hcell 0 _ (by simp [List.getElem?_eq_getElem (show 0 < cs.length by omega)])
  have hb := World.block_lt_of_cell? w _ h0
  rw [add_block] at hb
  exact ⟨ad, cs, rfl, hC _ hb hc, k.re hD hr, hcell⟩

/-! ### slices of the call's own -/

def Rows (k : Kd α) (w : World) (g : Nat → Nat) (C : Nat → Prop) (xs : List α) (cs : List Value) : Prop :=
  cs.length = xs.length * k.sz ∧ ∀ i x, xs[i]? = some x → k.R w g C x ((cs.drop (i * k.sz)).take k.sz)

/-- A slice that begins its block; nobody else holds the block (its colour is c); what its elements lead to has a colour in D. -/
def OwD (k : Kd α) (T : TypeId) (w : World) (g : Nat → Nat) (c : Nat) (D : Nat → Prop) (A : Option Addr) (cap : Nat) (xs : List α) : Prop :=
  xs.length ≤ cap ∧ cap ≤ maxLen ∧ ((A = none ∧ cap = 0) ∨
    ∃ b arr, A = some ⟨b, 0, none⟩ ∧ w.heap[b]? = some (.cells arr T (0, 0)) ∧ g b = c ∧ arr.size = cap * k.sz ∧ Rows k w g D xs (arr.toList.take (xs.length * k.sz)))
/-- .. what its elements lead to has colour c + 1. -/
abbrev OwS (k : Kd α) (T : TypeId) (w : World) (g : Nat → Nat) (c : Nat) (A : Option Addr) (cap : Nat) (xs : List α) : Prop := OwD k T w g c (· = c + 1) A cap xs

theorem OwD.nil (k : Kd α) (T : TypeId) (w : World) (g : Nat → Nat) (c : Nat) (D : Nat → Prop) : OwD k T w g c D none 0 [] := ⟨Nat.le_refl _, by simp [maxLen], .inl ⟨rfl, rfl⟩⟩
theorem OwS.nil (k : Kd α) (T : TypeId) (w : World) (g : Nat → Nat) (c : Nat) : OwS k T w g c none 0 [] := OwD.nil k T w g c _

theorem Rows.fr {cs : List Value} (h : Rows k w g C xs cs) (F : Fr M w g w' g') (hC : ∀ c, C c → ¬ M c) : Rows k w' g' C xs cs :=
  ⟨h.1, fun i x hx => k.fr F hC (h.2 i x hx)⟩

theorem OwD.fr {c : Nat} {T : TypeId} (h : OwD k T w g c D A cap xs) (F : Fr M w g w' g') (hc : ¬ M c) (hD : ∀ c', D c' → ¬ M c') : OwD k T w' g' c D A cap xs := by
  refine ⟨h.1, h.2.1, ?_⟩
  rcases h.2.2 with hn | ⟨b, arr, rfl, hb, hg, hs, hr⟩
  · exact .inl hn
  · have hlt := (Array.getElem?_eq_some_iff.1 hb).1
    have hm : ¬ M (g b) := by rw [hg]; exact hc
    refine .inr ⟨b, arr, rfl, ?_, ?_, hs, hr.fr F hD⟩
    · rw [(F.block b hlt hm).1]; exact hb
    · rw [(F.block b hlt hm).2]; exact hg
theorem OwS.fr {c : Nat} {T : TypeId} (h : OwS k T w g c A cap xs) (F : Fr M w g w' g') (hC : ∀ c', c' = c ∨ c' = c + 1 → ¬ M c') : OwS k T w' g' c A cap xs := OwD.fr h F (hC c (.inl rfl)) (fun c' e => hC c' (.inr e))

theorem getElem?_take_drop (l : List Value) (i n j : Nat) (hj : j < n) : ((l.drop i).take n)[j]? = l[i + j]? := by
  rw [List.getElem?_take, if_pos hj, List.getElem?_drop]

theorem OwD.rdx {c : Nat} {T : TypeId} (h : OwD k T w g c D A cap xs) : RdX k w g (· = c) D A cap xs := by
  refine ⟨h.1, fun i x hx => ?_⟩
  have hi : i < xs.length := by
    rcases Nat.lt_or_ge i xs.length with h1 | h1
    · exact h1
    · simp [List.getElem?_eq_none h1] at hx
  rcases h.2.2 with ⟨rfl, h0⟩ | ⟨b, arr, rfl, hb, hc, hs, hr⟩
  · have := h.1; omega
  · have hR := hr.2 i x hx
    refine ⟨⟨b, 0, none⟩, _, rfl, hc, hR, fun j u hu => ?_⟩
    have hl := k.len hR
    have hj : j < k.sz := by
      rcases Nat.lt_or_ge j k.sz with h1 | h1
      · exact h1
      · simp [List.getElem?_eq_none (show (((arr.toList.take (xs.length * k.sz)).drop (i * k.sz)).take k.sz).length ≤ j by omega)] at hu
    rw [getElem?_take_drop _ _ _ _ hj, List.getElem?_take] at hu
    split at hu
    · have hadd : (⟨b, 0, none⟩ : Addr).add (i * k.sz + j) = ⟨b, i * k.sz + j, none⟩ := by unfold Addr.add; split <;> simp_all
      rw [hadd, cell_of_row w b _ arr T (0, 0) hb]
      simpa using hu
    · cases hu
theorem OwD.rd {c : Nat} {T : TypeId} (h : OwD k T w g c D A cap xs) : RdS k w g (fun c' => c' = c ∨ D c') A cap xs := h.rdx.weak (fun _ e => .inl e) (fun _ e => .inr e)
theorem OwS.rd {c : Nat} {T : TypeId} (h : OwS k T w g c A cap xs) : RdS k w g (fun c' => c' = c ∨ c' = c + 1) A cap xs := OwD.rd h

end

/-- What is held at colour c (and c + 1) turns to colour d (and d + 1). -/
def recol2 (g : Nat → Nat) (c d : Nat) : Nat → Nat := fun b => if g b = c then d else if g b = c + 1 then d + 1 else g b

theorem Fr.recol2 (w : World) (g : Nat → Nat) (c d : Nat) : Fr (fun q => q = c ∨ q = c + 1) w g w (recol2 g c d) :=
  ⟨rfl, rfl, rfl, Nat.le_refl _, fun b _ hm => ⟨rfl, by
    unfold Sim.recol2
    rw [if_neg (fun e => hm (.inl e)), if_neg (fun e => hm (.inr e))]⟩⟩

theorem OwS.recol2 {α : Type} {k : Kd α} {w : World} {g : Nat → Nat} {A : Option Addr} {cap : Nat} {xs : List α} {c : Nat} {T : TypeId} (h : OwS k T w g c A cap xs) (d : Nat) : OwS k T w (recol2 g c d) d A cap xs := by
  refine ⟨h.1, h.2.1, ?_⟩
  rcases h.2.2 with hn | ⟨b, arr, rfl, hb, hc, hs, hr⟩
  · exact .inl hn
  · refine .inr ⟨b, arr, rfl, hb, by simp [Sim.recol2, hc], hs, hr.1, fun i x hx => k.re (fun b' _ e => ?_) (hr.2 i x hx)⟩
    simp only [Sim.recol2]
    rw [if_neg (by omega), if_pos e]

/-! ### blocks that are known whole -/

def Bx (w : World) (g : Nat → Nat) (c b : Nat) (T : TypeId) (cs : List Value) : Prop := w.heap[b]? = some (.cells cs.toArray T (0, 0)) ∧ g b = c

theorem Bx.cell {w : World} {g : Nat → Nat} {c b : Nat} {T : TypeId} {cs : List Value} (h : Bx w g c b T cs) {j : Nat} {v : Value} (hj : cs[j]? = some v) : w.cell? ⟨b, j, none⟩ = some v := by
  rw [cell_of_row w b j cs.toArray T (0, 0) h.1]; simpa using hj

theorem Bx.fr {M : Nat → Prop} {w w' : World} {g g' : Nat → Nat} {c b : Nat} {T : TypeId} {cs : List Value} (h : Bx w g c b T cs) (F : Fr M w g w' g') (hC : ¬ M c) : Bx w' g' c b T cs := by
  have hlt := (Array.getElem?_eq_some_iff.1 h.1).1
  obtain ⟨e1, e2⟩ := F.block b hlt (by rw [h.2]; exact hC)
  exact ⟨e1.trans h.1, e2.trans h.2⟩

/-! ### plain words of the printed functions -/

def upd {α : Type} (xs : List α) (i : Int) (x : α) : List α := xs.set i.toNat x
/-- An append, as far as the proofs follow it. -/
def app {α : Type} (xs ys : List α) : Option (List α) := if xs.length + ys.length ≤ 4294967296 then some (xs ++ ys) else none
def mk {α : Type} (n : Int) (x : α) : Option (List α) := if 0 ≤ n ∧ n ≤ 4294967296 then some (List.replicate n.toNat x) else none
def wi (x : Int) : Int := IntKind.i64.wrap x
def wu (x : Int) : Int := IntKind.u64.wrap x

theorem bind_el {α β : Type} {o : Option α} {f : α → Option β} {r : β} (h : o.bind f = some r) : ∃ x, o = some x ∧ f x = some r := Option.bind_eq_some_iff.1 h

end Go.Proofs.Ytfhhklkmbcnhnaa.Sim

namespace Go.Proofs.Ytfhhklkmbcnhnaa.Sim
open Go

section
variable {P : Program} {a : Act} {w : World} {o : Oper} {N : Nat} {S : List (Nat × Value)}

theorem r_move {x : Operand} {v : Value} (hS : Sl N a S) (ho : o.op = .move x) (hx : ev S x = some v) : (execOp a.eval o).run P w = .ok (.value v) w := by
  unfold execOp; simp only [ho, hS.ev hx]; rfl
theorem r_assign {x : Operand} {v : Value} (hS : Sl N a S) (ho : o.op = .assign x) (hx : ev S x = some v) : (execOp a.eval o).run P w = .ok (.value v) w := by
  unfold execOp; simp only [ho, hS.ev hx]; rfl
theorem r_nil {x : Operand} {ad : Addr} (hS : Sl N a S) (ho : o.op = .nilCheck x) (hx : ev S x = some (.pointer (some ad))) :
    (execOp a.eval o).run P w = .ok (.value (.pointer (some ad))) w := by
  unfold execOp; simp only [ho, hS.ev hx]; rfl

theorem r_value {x : Sem Value} {v : Value} {w' : World} (h : x.run P w = .ok v w') : (do let y ← x; pure (Next.value y) : Sem Next).run P w = .ok (.value v) w' := by
  simp [h]

def fieldOff (P : Program) (T f : Nat) : Option Nat :=
  match P.underlying T with
  | some (.struct fs) => match fs[f]? with
    | some fd => match P.info? fd.type with
      | some i => if i.size = 0 then none else some fd.offset
      | none => none
    | none => none
  | _ => none

theorem run_fieldAt {T f off : Nat} {ad : Addr} (h : fieldOff P T f = some off) : (Instr.fieldAt T (.pointer (some ad)) f).run P w = .ok (.pointer (some (ad.add off))) w := by
  unfold fieldOff at h
  split at h
  · rename_i fs hu
    split at h
    · rename_i fd hf
      split at h
      · rename_i i hi
        split at h
        · cases h
        · rename_i hz
          injection h with h
          subst h
          simp [Instr.fieldAt, run_underlying hu, hf, Instr.sureAddr, fieldPlace, sizeOf, typeInfo, hi, hz]
      · cases h
    · cases h
  · cases h

theorem r_field {T f off : Nat} {x : Operand} {ad : Addr} (hS : Sl N a S) (ho : o.op = .fieldAddr T x f) (hx : ev S x = some (.pointer (some ad))) (hf : fieldOff P T f = some off) :
    (execOp a.eval o).run P w = .ok (.value (.pointer (some (ad.add off)))) w := by
  unfold execOp; simp only [ho, hS.ev hx]; exact r_value (run_fieldAt hf)
/-- .. of a block's own variable. -/
theorem r_fieldB {T f off b j : Nat} {x : Operand} (hS : Sl N a S) (ho : o.op = .fieldAddr T x f) (hx : ev S x = some (.pointer (some ⟨b, j, none⟩))) (hf : fieldOff P T f = some off) :
    (execOp a.eval o).run P w = .ok (.value (.pointer (some ⟨b, j + off, none⟩))) w := by
  have := r_field (w := w) hS ho hx hf
  rwa [Addr.add_lit] at this
/-- .. of an element. -/
theorem r_fieldE {T f off j : Nat} {A : Option Addr} {x : Operand} (hS : Sl N a S) (ho : o.op = .fieldAddr T x f) (hx : ev S x = some (.pointer (some (ea A j)))) (hf : fieldOff P T f = some off) :
    (execOp a.eval o).run P w = .ok (.value (.pointer (some (ea A (j + off))))) w := by
  have := r_field (w := w) hS ho hx hf
  rwa [ea_add] at this

/-- Of a slice type: its element type, an element's cells and bytes. -/
def elemInfo (P : Program) (T : Nat) : Option (Nat × Nat × Nat) :=
  match P.underlying T with
  | some (.slice e) => match P.info? e with
    | some i => some (e, i.size, i.bytes)
    | none => none
  | _ => none

theorem elemInfo_spec {T e sz by_ : Nat} (h : elemInfo P T = some (e, sz, by_)) : P.underlying T = some (.slice e) ∧ ∃ i, P.info? e = some i ∧ i.size = sz ∧ i.bytes = by_ := by
  unfold elemInfo at h
  split at h
  · rename_i e' hu
    split at h
    · rename_i i hi
      simp only [Option.some.injEq, Prod.mk.injEq] at h
      obtain ⟨rfl, h2, h3⟩ := h
      exact ⟨hu, i, hi, h2, h3⟩
    · cases h
  · cases h

theorem r_index {T e sz by_ n cap : Nat} {x y : Operand} {A : Option Addr} {ik : IntKind} {i : Int} (hS : Sl N a S) (ho : o.op = .indexAddr T x y) (hx : ev S x = some (.slice A n cap)) (hy : ev S y = some (.int ik i))
    (ht : elemInfo P T = some (e, sz, by_)) (hA : ∃ ad, A = some ad) (h0 : 0 ≤ i) (h1 : i < (n : Int)) :
    (execOp a.eval o).run P w = .ok (.value (.pointer (some (ea A (i.toNat * sz))))) w := by
  obtain ⟨hu, inf, hi, hs, _⟩ := elemInfo_spec ht
  obtain ⟨ad, rfl⟩ := hA
  unfold execOp; simp only [ho, hS.ev hx, hS.ev hy]
  refine r_value ?_
  simp [Instr.indexAt, asIntOf, run_underlying hu, h0, h1, sizeOf, typeInfo, hi, hs, ea]

/-- A type's cells, and whether a variable of it is read as a whole. -/
def tsz (P : Program) (T : Nat) : Option (Nat × Bool) :=
  match P.underlying T, P.info? T with
  | some d, some i => some (i.size, match d with | .struct _ | .array _ _ => true | _ => false)
  | _, _ => none

theorem tsz_spec {T n : Nat} {b : Bool} (h : tsz P T = some (n, b)) : ∃ d i, P.underlying T = some d ∧ P.info? T = some i ∧ i.size = n ∧ (match d with | .struct _ | .array _ _ => true | _ => false) = b := by
  unfold tsz at h
  split at h
  · rename_i d i hd hi
    simp only [Option.some.injEq, Prod.mk.injEq] at h
    exact ⟨d, i, hd, hi, h.1, h.2⟩
  · cases h

theorem run_isAgg {T n : Nat} {b : Bool} (h : tsz P T = some (n, b)) : (isAgg T).run P w = .ok b w := by
  obtain ⟨d, i, hd, hi, hn, hb⟩ := tsz_spec h
  unfold isAgg
  simp only [Sem.run_bind, run_underlying hd, Result.andThen_ok]
  subst hb
  cases d <;> rfl

theorem run_sizeOf {T n : Nat} {b : Bool} (h : tsz P T = some (n, b)) : (sizeOf T).run P w = .ok n w := by
  obtain ⟨d, i, hd, hi, hn, hb⟩ := tsz_spec h
  subst hn
  simp [sizeOf, typeInfo, hi]

theorem r_load1 {T : Nat} {x : Operand} {ad : Addr} {v : Value} {n : Nat} (hS : Sl N a S) (ho : o.op = .load T x) (hx : ev S x = some (.pointer (some ad))) (ht : tsz P T = some (n, false))
    (hc : w.cell? ad = some v) : (execOp a.eval o).run P w = .ok (.value v) w := by
  unfold execOp; simp only [ho, hS.ev hx]
  refine r_value ?_
  simp [Instr.loadAt, Instr.sureAddr, loadVar, run_isAgg ht, load, Sem.run, hc]

theorem r_loadN {T n : Nat} {x : Operand} {ad : Addr} {cs : List Value} (hS : Sl N a S) (ho : o.op = .load T x) (hx : ev S x = some (.pointer (some ad))) (ht : tsz P T = some (n, true))
    (hn : cs.length = n) (hc : ∀ j u, cs[j]? = some u → w.cell? (ad.add j) = some u) : (execOp a.eval o).run P w = .ok (.value (.agg cs.toArray)) w := by
  unfold execOp; simp only [ho, hS.ev hx]
  refine r_value ?_
  have := run_loadCells_list (P := P) w ad cs hc
  rw [hn] at this
  simp [Instr.loadAt, Instr.sureAddr, loadVar, run_isAgg ht, run_sizeOf ht, this]

theorem r_len {T : Nat} {x : Operand} {A : Option Addr} {n cap e sz by_ : Nat} (hS : Sl N a S) (ho : o.op = .call { callee := .builtin .len, args := #[x], argTypes := #[T] }) (hx : ev S x = some (.slice A n cap))
    (ht : elemInfo P T = some (e, sz, by_)) : (execOp a.eval o).run P w = .ok (.value (.int .i64 (n : Int))) w := by
  obtain ⟨hu, _⟩ := elemInfo_spec ht
  unfold execOp
  simp [ho, hS.ev hx, resolve, invoke, builtin, Builtin.len_, run_underlying hu, goInt]

theorem r_max {x y : Operand} {k : IntKind} {p q : Int} {ts : Array TypeId} (hS : Sl N a S) (ho : o.op = .call { callee := .builtin .max, args := #[x, y], argTypes := ts }) (hx : ev S x = some (.int k p)) (hy : ev S y = some (.int k q)) :
    (execOp a.eval o).run P w = .ok (.value (.int k (max p q))) w := by
  have e : (if q > p then q else p) = max p q := by omega
  unfold execOp
  simp [ho, hS.ev hx, hS.ev hy, resolve, invoke, builtin, Builtin.max_, Builtin.max2, ← e]
theorem r_min {x y : Operand} {k : IntKind} {p q : Int} {ts : Array TypeId} (hS : Sl N a S) (ho : o.op = .call { callee := .builtin .min, args := #[x, y], argTypes := ts }) (hx : ev S x = some (.int k p)) (hy : ev S y = some (.int k q)) :
    (execOp a.eval o).run P w = .ok (.value (.int k (min p q))) w := by
  have e : (if q < p then q else p) = min p q := by omega
  unfold execOp
  simp [ho, hS.ev hx, hS.ev hy, resolve, invoke, builtin, Builtin.min_, Builtin.min2, ← e]

/-! ### arithmetic and comparisons of whole numbers -/

theorem r_bin {op : BinOp} {t t' : Nat} {x y : Operand} {k : IntKind} {p q : Int} {r : Value} (hS : Sl N a S) (ho : o.op = .binOp op t x y t') (hx : ev S x = some (.int k p)) (hy : ev S y = some (.int k q))
    (hr : (binOp op t (.int k p) (.int k q)).run P w = .ok r w) : (execOp a.eval o).run P w = .ok (.value r) w := by
  unfold execOp
  simp only [ho, hS.ev hx, hS.ev hy, eqGuard_at_int]
  refine r_value ?_
  simpa using hr

theorem b_add {t : Nat} {k : IntKind} {p q : Int} : (binOp .add t (.int k p) (.int k q)).run P w = .ok (.int k (k.wrap (p + q))) w := by rw [binOp_add]; rfl
theorem b_sub {t : Nat} {k : IntKind} {p q : Int} : (binOp .sub t (.int k p) (.int k q)).run P w = .ok (.int k (k.wrap (p - q))) w := by rw [binOp_sub]; rfl
theorem b_mul {t : Nat} {k : IntKind} {p q : Int} : (binOp .mul t (.int k p) (.int k q)).run P w = .ok (.int k (k.wrap (p * q))) w := by rw [binOp_mul]; rfl
theorem b_quo {t : Nat} {k : IntKind} {p q : Int} (h : q ≠ 0) : (binOp .quo t (.int k p) (.int k q)).run P w = .ok (.int k (k.wrap (p.tdiv q))) w := by
  rw [binOp_quo]; simp [Op.intDiv, h]
theorem b_rem {t : Nat} {k : IntKind} {p q : Int} (h : q ≠ 0) : (binOp .rem t (.int k p) (.int k q)).run P w = .ok (.int k (p.tmod q)) w := by
  rw [binOp_rem]; simp [Op.intDiv, h]
theorem b_eql {t : Nat} {k : IntKind} {p q : Int} : (binOp .eql t (.int k p) (.int k q)).run P w = .ok (.bool (p == q)) w := by rw [binOp_eql]; rfl
theorem b_neq {t : Nat} {k : IntKind} {p q : Int} : (binOp .neq t (.int k p) (.int k q)).run P w = .ok (.bool (p != q)) w := by rw [binOp_neq]; rfl
theorem b_lss {t : Nat} {k : IntKind} {p q : Int} : (binOp .lss t (.int k p) (.int k q)).run P w = .ok (.bool (decide (p < q))) w := by rw [binOp_lss]; rfl
theorem b_leq {t : Nat} {k : IntKind} {p q : Int} : (binOp .leq t (.int k p) (.int k q)).run P w = .ok (.bool (decide (p ≤ q))) w := by rw [binOp_leq]; rfl
theorem b_gtr {t : Nat} {k : IntKind} {p q : Int} : (binOp .gtr t (.int k p) (.int k q)).run P w = .ok (.bool (decide (q < p))) w := by rw [binOp_gtr]; rfl
theorem b_geq {t : Nat} {k : IntKind} {p q : Int} : (binOp .geq t (.int k p) (.int k q)).run P w = .ok (.bool (decide (q ≤ p))) w := by rw [binOp_geq]; rfl

/-- Is a pointer nil? -/
theorem r_ptrEq {t t' : Nat} {x : Operand} {p : Option Addr} (hS : Sl N a S) (ho : o.op = .binOp .eql t x (.const (.pointer none)) t') (hx : ev S x = some (.pointer p)) (hu : P.underlying t = some (.pointer (P.pointee t))) :
    (execOp a.eval o).run P w = .ok (.value (.bool p.isNone)) w := by
  have hc : a.eval (.const (.pointer none)) = .pointer none := rfl
  unfold execOp
  simp only [ho, hS.ev hx, hc, eqGuard_at_pointer]
  refine r_value ?_
  have := run_eql_pointer_nil (P := P) (w := w) t p hu
  simp only [Sem.run_bind, Sem.run_pure, Result.andThen_ok, this]
theorem r_not {t : Nat} {x : Operand} {p : Bool} (hS : Sl N a S) (ho : o.op = .unOp .not t x) (hx : ev S x = some (.bool p)) : (execOp a.eval o).run P w = .ok (.value (.bool (!p))) w := by
  unfold execOp; simp only [ho, hS.ev hx]; rfl

theorem r_pickT {x y z : Operand} {p : Bool} {u : Value} (hS : Sl N a S) (ho : o.op = .pick x y z) (hx : ev S x = some (.bool p)) (hy : ev S y = some u) (hp : p = true) : (execOp a.eval o).run P w = .ok (.value u) w := by
  subst hp
  unfold execOp; simp only [ho, hS.ev hx, hS.ev hy]; rfl
theorem r_pickF {x y z : Operand} {p : Bool} {u : Value} (hS : Sl N a S) (ho : o.op = .pick x y z) (hx : ev S x = some (.bool p)) (hz : ev S z = some u) (hp : p = false) : (execOp a.eval o).run P w = .ok (.value u) w := by
  subst hp
  unfold execOp; simp only [ho, hS.ev hx, hS.ev hz]; rfl

theorem r_extract {x : Operand} {vs : Array Value} {i : Nat} {v : Value} (hS : Sl N a S) (ho : o.op = .extract x i) (hx : ev S x = some (.tuple vs)) (hv : vs[i]? = some v) :
    (execOp a.eval o).run P w = .ok (.value v) w := by
  unfold execOp; simp only [ho, hS.ev hx]; refine r_value ?_; simp [Instr.extract, hv]

/-- A conversion between whole numbers. -/
def intTo (P : Program) (src dst : Nat) : Option IntKind :=
  match P.underlying src, P.underlying dst with
  | some _, some (.int k) => some k
  | _, _ => none
theorem r_convert {src dst : Nat} {x : Operand} {k k' : IntKind} {p : Int} (hS : Sl N a S) (ho : o.op = .convert src dst x) (hx : ev S x = some (.int k p)) (h : intTo P src dst = some k') :
    (execOp a.eval o).run P w = .ok (.value (.int k' (k'.wrap p))) w := by
  unfold intTo at h
  split at h
  · rename_i d k2 hs hd
    injection h with h; subst h
    unfold execOp; simp only [ho, hS.ev hx]; refine r_value ?_
    simp [convert, run_underlying hs, run_underlying hd, Conv.intToInt]
  · cases h

/-! ### calls -/

def callOk (P : Program) (f : Nat) : Bool := match P.funcs[f]? with | some fn => !(fn.name == "runtime.NumGoroutine") && fn.body.isSome | none => false

theorem run_callFunc {f : Nat} {args : Array Value} (h : callOk P f = true) : (callFunc f args).run P w = .ok (.enter f args) w := by
  unfold callOk at h
  split at h
  · rename_i fn hf
    simp only [Bool.and_eq_true, Bool.not_eq_true', Option.isSome_iff_exists] at h
    obtain ⟨h1, b, h2⟩ := h
    have h1' : ¬ fn.name = "runtime.NumGoroutine" := by simpa using h1
    simp [callFunc, program, Sem.run, hf, h1', h2]
  · cases h

def evs (S : List (Nat × Value)) : List Operand → Option (List Value)
  | [] => some []
  | x :: t => match ev S x, evs S t with
    | some v, some vs => some (v :: vs)
    | _, _ => none

theorem evs_spec (hS : Sl N a S) : ∀ {xs : List Operand} {vs : List Value}, evs S xs = some vs → xs.map a.eval = vs
  | [], vs, h => by simp [evs] at h; subst h; rfl
  | x :: t, vs, h => by
    simp only [evs] at h
    split at h
    · rename_i v vs' h1 h2
      injection h with h; subst h
      simp [hS.ev h1, evs_spec hS h2]
    · cases h

theorem r_call {f : Nat} {xs : List Operand} {vs : List Value} {ts : Array TypeId} (hS : Sl N a S) (ho : o.op = .call { callee := .value (.func f), args := xs.toArray, argTypes := ts }) (hx : evs S xs = some vs) (hf : callOk P f = true) :
    (execOp a.eval o).run P w = .ok (.enter f vs.toArray) w := by
  have := evs_spec hS hx
  unfold execOp
  simp [ho, resolve, Act.eval, Deferred.ofValue, invoke, this, run_callFunc hf]

end

end Go.Proofs.Ytfhhklkmbcnhnaa.Sim

namespace Go.Proofs.Ytfhhklkmbcnhnaa.Sim
open Go

section
variable {P : Program} {ops : Array Oper} {Q : Exit → Act → World → Prop} {a : Act} {w : World} {rest : List Oper} {o : Oper} {N : Nat} {S : List (Nat × Value)} {d : Nat}

/-- What an operation comes to that makes or writes memory. -/
def Eff (P : Program) (a : Act) (o : Oper) (w : World) (R : Value → World → (Nat → Nat) → Prop) : Prop :=
  ∃ v w' g', (execOp a.eval o).run P w = .ok (.value v) w' ∧ R v w' g'
def EffS (P : Program) (a : Act) (o : Oper) (w : World) (R : World → (Nat → Nat) → Prop) : Prop :=
  ∃ w' g', (execOp a.eval o).run P w = .ok .skip w' ∧ R w' g'

theorem st_eff {R : Value → World → (Nat → Nat) → Prop} (hS : Sl N a S) (hg : o.guard = none) (hd : o.dst = some d) (hN : Nat.blt d N = true) (hr : Eff P a o w R)
    (k : ∀ v a' w' g', R v w' g' → Sl N a' ((d, v) :: S) → wpList P ops Q rest a' w') : wpList P ops Q (o :: rest) a w := by
  obtain ⟨v, w', g', h1, h2⟩ := hr
  exact st_val hS hg hd hN h1 fun a' hS' => k v a' w' g' h2 hS'

theorem st_effS {R : World → (Nat → Nat) → Prop} (hS : Sl N a S) (hg : o.guard = none) (hd : o.dst = none) (hr : EffS P a o w R)
    (k : ∀ a' w' g', R w' g' → Sl N a' S → wpList P ops Q rest a' w') : wpList P ops Q (o :: rest) a w := by
  obtain ⟨w', g', h1, h2⟩ := hr
  exact st_skip hS hg hd h1 fun a' hS' => k a' w' g' h2 hS'

theorem Bx.new (w : World) (g : Nat → Nat) (c : Nat) (T : TypeId) (cs : List Value) : Bx (w.alloc (.cells cs.toArray T)) (dye g w.heap.size c) c w.heap.size T cs :=
  ⟨heap_alloc_new w _, dye_same g _ c⟩

/-! ### new variables -/

def zcells (P : Program) (T : Nat) : Option (List Value) := (P.info? T).bind fun i => i.zero.map fun z => z.cells.toList

theorem e_alloc {T : Nat} {cs : List Value} (c : Nat) (g : Nat → Nat) (_hS : Sl N a S) (ho : o.op = .alloc T) (hz : zcells P T = some cs) :
    Eff P a o w fun v w' g' => (∃ b, v = .pointer (some ⟨b, 0, none⟩) ∧ Bx w' g' c b T cs) ∧ Fr (fun _ => False) w g w' g' := by
  unfold zcells at hz
  obtain ⟨i, hi, hz1⟩ := Option.bind_eq_some_iff.1 hz
  obtain ⟨z, hz2, rfl⟩ := Option.map_eq_some_iff.1 hz1
  refine ⟨.pointer (some ⟨w.heap.size, 0, none⟩), w.alloc (.cells z.cells T), dye g w.heap.size c, ?_, ⟨w.heap.size, rfl, ?_⟩, Fr.alloc _ w g (.cells z.cells T) c⟩
  · unfold execOp
    simp only [ho]
    refine r_value ?_
    simp [Instr.alloc, zeroValue, typeInfo, hi, hz2, newVar, newRow]
  · have := Bx.new w g c T z.cells.toList
    simpa using this

theorem e_box {T : Nat} {x : Operand} {u : Value} {cs : List Value} (c : Nat) (g : Nat → Nat) (hS : Sl N a S) (ho : o.op = .box T x) (hx : ev S x = some u) (hu : u.cells.toList = cs) :
    Eff P a o w fun v w' g' => (∃ b, v = .pointer (some ⟨b, 0, none⟩) ∧ Bx w' g' c b T cs) ∧ Fr (fun _ => False) w g w' g' := by
  subst hu
  refine ⟨.pointer (some ⟨w.heap.size, 0, none⟩), w.alloc (.cells u.cells T), dye g w.heap.size c, ?_, ⟨w.heap.size, rfl, ?_⟩, Fr.alloc _ w g (.cells u.cells T) c⟩
  · unfold execOp
    simp only [ho, hS.ev hx]
    refine r_value ?_
    simp [Instr.box, newVar, newRow]
  · have := Bx.new w g c T u.cells.toList
    simpa using this

/-! ### a struct's value out of its parts -/

def evp (S : List (Nat × Value)) : List (Nat × Operand) → Option (List (Nat × Value))
  | [] => some []
  | (i, x) :: t => match ev S x, evp S t with
    | some v, some vs => some ((i, v) :: vs)
    | _, _ => none

theorem evp_spec (hS : Sl N a S) : ∀ {xs : List (Nat × Operand)} {vs : List (Nat × Value)}, evp S xs = some vs → xs.map (fun (i, x) => (i, a.eval x)) = vs
  | [], vs, h => by simp [evp] at h; subst h; rfl
  | (i, x) :: t, vs, h => by
    simp only [evp] at h
    split at h
    · rename_i v vs' h1 h2
      injection h with h; subst h
      simp [hS.ev h1, evp_spec hS h2]
    · cases h

theorem r_build {T : Nat} {ps : List (Nat × Operand)} {parts : List (Nat × Value)} {u : Value} (hS : Sl N a S) (ho : o.op = .build T ps.toArray) (hp : evp S ps = some parts)
    (hb : ∀ w, (Instr.build T parts.toArray).run P w = .ok u w) : (execOp a.eval o).run P w = .ok (.value u) w := by
  have hps := evp_spec hS hp
  unfold execOp
  simp only [ho]
  refine r_value ?_
  have hmap : (ps.toArray.map fun (i, x) => (i, a.eval x)) = parts.toArray := by simp [← hps]
  rw [hmap]
  exact hb w

/-- A slice literal. -/
theorem e_litD {D : Nat → Prop} {T e n : Nat} {ps : List (Nat × Operand)} {parts : List (Nat × Value)} {cs : List Value} {α : Type} (kd : Kd α) (xs : List α) (c : Nat) (g : Nat → Nat) (hS : Sl N a S) (ho : o.op = .buildSlice T n ps.toArray) (hp : evp S ps = some parts)
    (hb : ∀ w, (Instr.buildSlice T n parts.toArray).run P w = .ok (.slice (some ⟨w.heap.size, 0, none⟩) n n) (w.alloc (.cells cs.toArray e)))
    (hn : xs.length = n) (hm : n ≤ maxLen) (hr : Rows kd w g D xs cs) :
    Eff P a o w fun v w' g' => (∃ A, v = .slice A xs.length n ∧ OwD kd e w' g' c D A n xs) ∧ Fr (fun _ => False) w g w' g' := by
  have hps := evp_spec hS hp
  have F := Fr.alloc (fun _ => False) w g (.cells cs.toArray e) c
  refine ⟨.slice (some ⟨w.heap.size, 0, none⟩) n n, w.alloc (.cells cs.toArray e), dye g w.heap.size c, ?_, ⟨some ⟨w.heap.size, 0, none⟩, by rw [hn], ?_⟩, F⟩
  · unfold execOp
    simp only [ho]
    refine r_value ?_
    have hmap : (ps.toArray.map fun (i, x) => (i, a.eval x)) = parts.toArray := by simp [← hps]
    rw [hmap]
    exact hb w
  · refine ⟨by omega, hm, .inr ⟨w.heap.size, cs.toArray, rfl, heap_alloc_new w _, dye_same g _ c, ?_, ?_⟩⟩
    · rw [← hn]; simpa using hr.1
    · have : (cs.toArray.toList.take (xs.length * kd.sz)) = cs := by
        rw [List.take_of_length_le]; simp [hr.1]
      rw [this]
      exact hr.fr F (fun _ _ h => h)

theorem e_lit {T e n : Nat} {ps : List (Nat × Operand)} {parts : List (Nat × Value)} {cs : List Value} {α : Type} (kd : Kd α) (xs : List α) (c : Nat) (g : Nat → Nat) (hS : Sl N a S) (ho : o.op = .buildSlice T n ps.toArray) (hp : evp S ps = some parts)
    (hb : ∀ w, (Instr.buildSlice T n parts.toArray).run P w = .ok (.slice (some ⟨w.heap.size, 0, none⟩) n n) (w.alloc (.cells cs.toArray e)))
    (hn : xs.length = n) (hm : n ≤ maxLen) (hr : Rows kd w g (· = c + 1) xs cs) :
    Eff P a o w fun v w' g' => (∃ A, v = .slice A xs.length n ∧ OwS kd e w' g' c A n xs) ∧ Fr (fun _ => False) w g w' g' := e_litD kd xs c g hS ho hp hb hn hm hr

theorem Rows.one {α : Type} {kd : Kd α} {g : Nat → Nat} {C : Nat → Prop} {x : α} {cs : List Value} (h : kd.R w g C x cs) : Rows kd w g C [x] cs := by
  refine ⟨by simp [kd.len h], fun i y hy => ?_⟩
  match i, hy with
  | 0, hy =>
    simp only [List.getElem?_cons_zero, Option.some.injEq] at hy
    subst hy
    simpa [List.take_of_length_le (Nat.le_of_eq (kd.len h))] using h
  | i + 1, hy => simp at hy

theorem Rows.nil {α : Type} {kd : Kd α} {g : Nat → Nat} {C : Nat → Prop} : Rows kd w g C [] [] := ⟨by simp, fun i x h => by simp at h⟩

theorem Rows.append {α : Type} {kd : Kd α} {g : Nat → Nat} {C : Nat → Prop} {xs ys : List α} {cs ds : List Value} (h : Rows kd w g C xs cs) (h' : Rows kd w g C ys ds) : Rows kd w g C (xs ++ ys) (cs ++ ds) := by
  refine ⟨by simp [h.1, h'.1, Nat.add_mul], fun i x hx => ?_⟩
  rcases Nat.lt_or_ge i xs.length with hi | hi
  · rw [List.getElem?_append_left hi] at hx
    have hR := h.2 i x hx
    have hb : (i + 1) * kd.sz ≤ xs.length * kd.sz := Nat.mul_le_mul_right _ hi
    rw [Nat.add_mul, Nat.one_mul] at hb
    have hl := h.1
    rw [List.drop_append_of_le_length (by omega), List.take_append_of_le_length (by simp; omega)]
    exact hR
  · rw [List.getElem?_append_right hi] at hx
    have hR := h'.2 _ x hx
    have : i * kd.sz = cs.length + (i - xs.length) * kd.sz := by rw [h.1, ← Nat.add_mul]; congr 1; omega
    rw [this, List.drop_append, List.drop_of_length_le (by omega), List.nil_append, Nat.add_sub_cancel_left]
    exact hR

theorem Rows.cons {α : Type} {kd : Kd α} {g : Nat → Nat} {C : Nat → Prop} {x : α} {xs : List α} {cs ds : List Value} (h : kd.R w g C x cs) (h' : Rows kd w g C xs ds) : Rows kd w g C (x :: xs) (cs ++ ds) :=
  (Rows.one h).append h'

/-! ### make -/

theorem Rows.replicate {α : Type} {kd : Kd α} {g : Nat → Nat} {C : Nat → Prop} {x : α} {z : Array Value} (h : kd.R w g C x z.toList) (hz : 0 < kd.sz) (n : Nat) : Rows kd w g C (List.replicate n x) (madeCells z (n * kd.sz)).toList := by
  have hl : z.size = kd.sz := by simpa using kd.len h
  refine ⟨by simp [madeCells], fun i y hy => ?_⟩
  rw [List.getElem?_replicate] at hy
  split at hy
  · rename_i hi
    injection hy with hy; subst hy
    have e : (((madeCells z (n * kd.sz)).toList.drop (i * kd.sz)).take kd.sz) = z.toList := by
      have hb : (i + 1) * kd.sz ≤ n * kd.sz := Nat.mul_le_mul_right _ hi
      rw [Nat.add_mul, Nat.one_mul] at hb
      apply List.ext_getElem
      · simp [madeCells]; omega
      · intro j h1 h2
        have hj : j < kd.sz := by simpa [hl] using h2
        have hj' : j < z.size := by omega
        simp [madeCells, hl, Nat.add_comm (i * kd.sz) j, Nat.add_mul_mod_self_right, Nat.mod_eq_of_lt hj]
        exact getElem!_pos z j hj'
    rw [e]; exact h
  · cases hy

theorem mk_some {α : Type} {n : Int} {x : α} {xs : List α} (h : mk n x = some xs) : 0 ≤ n ∧ n ≤ 4294967296 ∧ xs = List.replicate n.toNat x := by
  unfold mk at h
  split at h
  · rename_i h0; injection h with h; exact ⟨h0.1, h0.2, h.symm⟩
  · cases h

theorem e_makeD {D : Nat → Prop} {T e sz by_ : Nat} {x : Operand} {ik : IntKind} {n : Int} {z : List Value} {α : Type} {kd : Kd α} {x0 : α} {xs : List α} (c : Nat) (g : Nat → Nat) (hS : Sl N a S) (ho : o.op = .makeSlice T x x)
    (hx : ev S x = some (.int ik n)) (ht : elemInfo P T = some (e, sz, by_)) (hz : zcells P e = some z) (hsz : kd.sz = sz) (hp : Nat.blt 0 sz = true) (hby : Nat.ble by_ 32768 = true) (hk : ∀ w g C, kd.R w g C x0 z) (hxs : mk n x0 = some xs) :
    Eff P a o w fun v w' g' => (∃ A cap, v = .slice A xs.length cap ∧ OwD kd e w' g' c D A cap xs) ∧ Fr (fun _ => False) w g w' g' := by
  have hp' : 0 < sz := by simpa [Nat.blt_eq] using hp
  have hby' : by_ ≤ 32768 := by simpa [Nat.ble_eq] using hby
  obtain ⟨h0, h1, rfl⟩ := mk_some hxs
  obtain ⟨hu, i, hi, hi1, hi2⟩ := elemInfo_spec ht
  unfold zcells at hz
  rw [hi] at hz
  simp only [Option.bind_some, Option.map_eq_some_iff] at hz
  obtain ⟨zv, hz2, rfl⟩ := hz
  obtain ⟨m, rfl⟩ := Int.eq_ofNat_of_zero_le h0
  have hm : m ≤ 4294967296 := by omega
  have F := Fr.alloc (fun _ => False) w g (.cells (madeCells zv.cells (m * i.size)) e) c
  have hbb : (i.bytes : Int) * (m : Int) ≤ 281474976710656 := by
    have h : i.bytes * m ≤ 32768 * 4294967296 := Nat.mul_le_mul (by omega) hm
    rw [← Int.natCast_mul]
    omega
  have hrun := run_make (P := P) w T e i zv hu hi hz2 ik ik m m h0 (Int.le_refl _) hbb (by omega)
  simp only [Int.toNat_natCast] at hrun
  refine ⟨_, _, dye g w.heap.size c, ?_, ⟨some ⟨w.heap.size, 0, none⟩, m, rfl, ?_⟩, F⟩
  · unfold execOp
    simp only [ho, hS.ev hx]
    refine r_value ?_
    rw [hrun]
    simp
  · have hR := Rows.replicate (w := w.alloc (.cells (madeCells zv.cells (m * i.size)) e)) (g := dye g w.heap.size c) (C := D) (kd := kd) (x := x0) (z := zv.cells) (hk _ _ _) (by omega) m
    have hsz' : i.size = kd.sz := by omega
    refine ⟨by simp, by simp [maxLen]; omega, .inr ⟨w.heap.size, _, rfl, heap_alloc_new w _, dye_same g _ c, by simp [madeCells, hsz'], ?_⟩⟩
    simp only [Int.toNat_natCast]
    rw [List.take_of_length_le (by simp [madeCells, hsz'])]
    rw [hsz'] at hR ⊢
    exact hR

/-! ### stores -/

theorem wanted_none (h : o.guard = none) (tmps : Array Value) : Region.wanted o (yielded ops tmps) = true := by simp [Region.wanted, h]

def splice (cs : List Value) (j : Nat) (us : List Value) : List Value := cs.take j ++ us ++ cs.drop (j + us.length)

theorem splice_length {cs us : List Value} {j : Nat} (h : j + us.length ≤ cs.length) : (splice cs j us).length = cs.length := by
  simp [splice]; omega

theorem run_store_at {T n : Nat} {b : Bool} {bl j : Nat} {u : Value} {us : List Value} {arr : Array Value} {E : TypeId} (ht : tsz P T = some (n, b)) (hu : u.cells.toList = us) (hn : us.length = n) (h1 : ∀ v ∈ us, v.oneCell' = true)
    (hb : w.heap[bl]? = some (.cells arr E (0, 0))) (hj : j + us.length ≤ arr.size) :
    (Instr.storeAt T (.pointer (some ⟨bl, j, none⟩)) u).run P w = .ok () (w.setRow bl (splice arr.toList j us).toArray) := by
  have hst := run_storeCells_at P bl j E us 0 arr w hb (by simpa using hj) h1
  simp only [Nat.add_zero] at hst
  have hsz : u.cells.size = n := by rw [← hn, ← hu]; simp
  simp only [Instr.storeAt, Instr.sureAddr, storeVar, Sem.run_bind, Sem.run_pure, Result.andThen_ok, run_sizeOf ht, hsz, ne_eq, not_true_eq_false, if_false, hu, hst]
  rfl

theorem e_storeB {T n : Nat} {bb : Bool} {x y : Operand} {b j c : Nat} {E : TypeId} {u : Value} {us cs cs' : List Value} (g : Nat → Nat) (hS : Sl N a S) (ho : o.op = .store T x y) (hx : ev S x = some (.pointer (some ⟨b, j, none⟩)))
    (hy : ev S y = some u) (ht : tsz P T = some (n, bb)) (hu : u.cells.toList = us) (hn : us.length = n) (h1 : us.all (·.oneCell') = true) (hb : Bx w g c b E cs) (hj : Nat.ble (j + us.length) cs.length = true) (hcs : splice cs j us = cs') :
    EffS P a o w fun w' g' => Bx w' g' c b E cs' ∧ Fr (fun q => q = c) w g w' g' := by
  have hr := run_store_at (w := w) ht hu hn (fun v hv => List.all_eq_true.1 h1 v hv) hb.1 (by have := Nat.le_of_ble_eq_true hj; simpa using this)
  simp only [] at hr
  rw [hcs] at hr
  refine ⟨_, g, ?_, ⟨setRow_heap w b _ _ E (0, 0) hb.1, hb.2⟩, Fr.setRow w g b _ hb.2⟩
  unfold execOp
  simp only [ho, hS.ev hx, hS.ev hy]
  simp [hr]

theorem upd_length {α : Type} (xs : List α) (i : Int) (x : α) : (upd xs i x).length = xs.length := by simp [upd]

theorem e_storeD {D : Nat → Prop} {T n : Nat} {bb : Bool} {x y : Operand} {α : Type} {kd : Kd α} {E : TypeId} {c : Nat} {A : Option Addr} {cap : Nat} {xs : List α} {i : Int} {x0 x' : α} {j off : Nat} {u : Value} {us : List Value} (g : Nat → Nat)
    (hS : Sl N a S) (ho : o.op = .store T x y) (hx : ev S x = some (.pointer (some (ea A off)))) (hoff : off = i.toNat * kd.sz + j)
    (hy : ev S y = some u) (ht : tsz P T = some (n, bb)) (hu : u.cells.toList = us) (hn : us.length = n) (h1 : ∀ v ∈ us, v.oneCell' = true) (hw : OwD kd E w g c D A cap xs) (hD : ∀ q, D q → q ≠ c) (hi : idx xs i = some x0) (hj : Nat.ble (j + us.length) kd.sz = true)
    (hR : ∀ cs, kd.R w g D x0 cs → kd.R w g D x' (splice cs j us)) :
    EffS P a o w fun w' g' => OwD kd E w' g' c D A cap (upd xs i x') ∧ Fr (fun q => q = c) w g w' g' := by
  have hj' := Nat.le_of_ble_eq_true hj
  obtain ⟨h0, hlt, hget⟩ := idx_some hi
  have hil : i.toNat < xs.length := by omega
  obtain ⟨hlc, hcm, hcase⟩ := hw
  rcases hcase with ⟨rfl, hc0⟩ | ⟨b, arr, rfl, hb, hg, hs, hr⟩
  · omega
  have hmul : (i.toNat + 1) * kd.sz ≤ xs.length * kd.sz := Nat.mul_le_mul_right _ hil
  have hmul2 : xs.length * kd.sz ≤ cap * kd.sz := Nat.mul_le_mul_right _ hlc
  rw [Nat.add_mul, Nat.one_mul] at hmul
  have hr' := run_store_at (w := w) (j := i.toNat * kd.sz + j) ht hu hn h1 hb (by rw [hs]; omega)
  subst hoff
  rw [ea_some, Nat.zero_add] at hx
  refine ⟨w.setRow b (splice arr.toList (i.toNat * kd.sz + j) us).toArray, g, ?_, ⟨by rw [upd_length]; exact hlc, hcm, .inr ⟨b, (splice arr.toList (i.toNat * kd.sz + j) us).toArray, rfl, setRow_heap w b _ _ E (0, 0) hb, hg, ?_, ?_⟩⟩, Fr.setRow w g b _ hg⟩
  · unfold execOp
    simp only [ho, hS.ev hx, hS.ev hy]
    simp [hr']
  · rw [List.size_toArray, splice_length (by simp; omega)]; simpa using hs
  · have F : Fr (fun q => q = c) w g (w.setRow b (splice arr.toList (i.toNat * kd.sz + j) us).toArray) g := Fr.setRow w g b _ hg
    have hrow := hr.fr F (fun c' e => hD c' e)
    rw [upd_length]
    obtain ⟨hl1, hl2⟩ := hrow
    have hlen1 : (splice arr.toList (i.toNat * kd.sz + j) us).length = arr.size := by rw [splice_length (by simp; omega)]; simp
    refine ⟨?_, fun k y hy => ?_⟩
    · simp only [List.length_take, upd_length, hlen1]
      omega
    · show kd.R _ _ _ _ (((splice arr.toList (i.toNat * kd.sz + j) us).take (xs.length * kd.sz)).drop (k * kd.sz) |>.take kd.sz)
      unfold upd at hy
      rw [List.getElem?_set] at hy
      have hk : k < xs.length := by
        rcases Nat.lt_or_ge k xs.length with h | h
        · exact h
        · exfalso
          by_cases e : i.toNat = k
          · omega
          · rw [if_neg e, List.getElem?_eq_none h] at hy
            cases hy
      have hkm : (k + 1) * kd.sz ≤ xs.length * kd.sz := Nat.mul_le_mul_right _ hk
      rw [Nat.add_mul, Nat.one_mul] at hkm
      by_cases e : i.toNat = k
      · subst e
        rw [if_pos rfl, if_pos hil] at hy
        injection hy with hy; subst hy
        have h3 := kd.fr F (fun c' e => hD c' e) (hR _ (hr.2 _ _ hget))
        have e2 : (((splice arr.toList (i.toNat * kd.sz + j) us).take (xs.length * kd.sz)).drop (i.toNat * kd.sz)).take kd.sz = splice (((arr.toList.take (xs.length * kd.sz)).drop (i.toNat * kd.sz)).take kd.sz) j us := by
          apply List.ext_getElem?
          intro q
          rcases Nat.lt_or_ge q kd.sz with hq | hq
          · rw [getElem?_take_drop _ _ _ _ hq, List.getElem?_take, if_pos (by omega)]
            unfold splice
            rcases Nat.lt_or_ge q j with hqj | hqj
            · rw [List.append_assoc, List.getElem?_append_left (by simp; omega), List.append_assoc, List.getElem?_append_left (by simp; omega), List.getElem?_take, if_pos (by omega), List.getElem?_take, if_pos (by omega), getElem?_take_drop _ _ _ _ hq, List.getElem?_take, if_pos (by omega)]
            · rcases Nat.lt_or_ge q (j + us.length) with hqu | hqu
              · rw [List.getElem?_append_left (by simp; omega), List.getElem?_append_right (by simp; omega), List.getElem?_append_left (by simp; omega), List.getElem?_append_right (by simp; omega)]
                congr 1
                simp
                omega
              · rw [List.getElem?_append_right (by simp; omega), List.getElem?_append_right (by simp; omega), List.getElem?_drop, List.getElem?_drop, getElem?_take_drop _ _ _ _ (by simp; omega), List.getElem?_take, if_pos (by simp; omega)]
                congr 1
                simp
                omega
          · rw [List.getElem?_eq_none (by simp; omega), List.getElem?_eq_none (by rw [splice_length (by simp; omega)]; simp; omega)]
        rw [e2]; exact h3
      · rw [if_neg e] at hy
        have h3 := hl2 _ _ hy
        have e2 : (((splice arr.toList (i.toNat * kd.sz + j) us).take (xs.length * kd.sz)).drop (k * kd.sz)).take kd.sz = ((arr.toList.take (xs.length * kd.sz)).drop (k * kd.sz)).take kd.sz := by
          apply List.ext_getElem?
          intro q
          rcases Nat.lt_or_ge q kd.sz with hq | hq
          · rw [getElem?_take_drop _ _ _ _ hq, List.getElem?_take, if_pos (by omega), getElem?_take_drop _ _ _ _ hq, List.getElem?_take, if_pos (by omega)]
            unfold splice
            rcases Nat.lt_or_ge k i.toNat with hki | hki
            · have : (k + 1) * kd.sz ≤ i.toNat * kd.sz := Nat.mul_le_mul_right _ hki
              rw [Nat.add_mul, Nat.one_mul] at this
              rw [List.append_assoc, List.getElem?_append_left (by simp; omega), List.getElem?_take, if_pos (by omega)]
            · have : (i.toNat + 1) * kd.sz ≤ k * kd.sz := Nat.mul_le_mul_right _ (by omega)
              rw [Nat.add_mul, Nat.one_mul] at this
              rw [List.getElem?_append_right (by simp; omega), List.getElem?_drop]
              congr 1
              simp
              omega
          · rw [List.getElem?_eq_none (by simp; omega), List.getElem?_eq_none (by simp; omega)]
        rw [e2]; exact h3

theorem e_storeE {T n : Nat} {bb : Bool} {x y : Operand} {α : Type} {kd : Kd α} {E : TypeId} {c : Nat} {A : Option Addr} {cap : Nat} {xs : List α} {i : Int} {x0 x' : α} {j off : Nat} {u : Value} {us : List Value} (g : Nat → Nat)
    (hS : Sl N a S) (ho : o.op = .store T x y) (hx : ev S x = some (.pointer (some (ea A off)))) (hoff : off = i.toNat * kd.sz + j)
    (hy : ev S y = some u) (ht : tsz P T = some (n, bb)) (hu : u.cells.toList = us) (hn : us.length = n) (h1 : ∀ v ∈ us, v.oneCell' = true) (hw : OwS kd E w g c A cap xs) (hi : idx xs i = some x0) (hj : Nat.ble (j + us.length) kd.sz = true)
    (hR : ∀ w g cs, kd.R w g (· = c + 1) x0 cs → kd.R w g (· = c + 1) x' (splice cs j us)) :
    EffS P a o w fun w' g' => OwS kd E w' g' c A cap (upd xs i x') ∧ Fr (fun q => q = c) w g w' g' := e_storeD g hS ho hx hoff hy ht hu hn h1 hw (fun q (e : q = c + 1) => by omega) hi hj (hR w g)

/-! ### append -/

theorem app_some {α : Type} {xs ys zs : List α} (h : app xs ys = some zs) : xs.length + ys.length ≤ 4294967296 ∧ zs = xs ++ ys := by
  unfold app at h
  split at h
  · rename_i h0; injection h with h; exact ⟨h0, h.symm⟩
  · cases h

theorem RdX.cells {α : Type} {kd : Kd α} {g : Nat → Nat} {C D : Nat → Prop} {A : Option Addr} {cap : Nat} {ys : List α} (h : RdX kd w g C D A cap ys) (_hsz : 0 < kd.sz) (h0 : 0 < ys.length) :
    ∃ ad news, A = some ad ∧ Rows kd w g D ys news ∧ (∀ j u, news[j]? = some u → w.cell? (ad.add j) = some u) ∧ ∀ u ∈ news, u.oneCell' = true := by
  obtain ⟨ad0, _, rfl, _⟩ := h.2 0 ys[0] (by simp [List.getElem?_eq_getElem h0])
  have key : ∀ n, n ≤ ys.length → ∃ news, Rows kd w g D (ys.take n) news ∧ (∀ j u, news[j]? = some u → w.cell? (ad0.add j) = some u) ∧ ∀ u ∈ news, u.oneCell' = true := by
    intro n
    induction n with
    | zero => intro _; exact ⟨[], by simpa using Rows.nil, by simp, by simp⟩
    | succ n ih =>
      intro hn
      obtain ⟨news, hr, hc, h1⟩ := ih (by omega)
      obtain ⟨ad, cs, e, _, hR, hcell⟩ := h.2 n ys[n] (by simp [List.getElem?_eq_getElem (show n < ys.length by omega)])
      injection e with e; subst e
      have hl : news.length = n * kd.sz := by rw [hr.1, List.length_take, Nat.min_eq_left (by omega)]
      refine ⟨news ++ cs, ?_, ?_, ?_⟩
      · rw [List.take_succ_eq_append_getElem (by omega)]
        exact hr.append (Rows.one hR)
      · intro j u hu
        rcases Nat.lt_or_ge j news.length with hj | hj
        · rw [List.getElem?_append_left hj] at hu; exact hc j u hu
        · rw [List.getElem?_append_right hj] at hu
          have := hcell _ u hu
          rw [← hl] at this
          rwa [show news.length + (j - news.length) = j from by omega] at this
      · intro u hu
        rcases List.mem_append.1 hu with hu | hu
        · exact h1 u hu
        · exact kd.one hR u hu
  obtain ⟨news, hr, hc, h1⟩ := key ys.length (Nat.le_refl _)
  rw [List.take_length] at hr
  exact ⟨ad0, news, rfl, hr, hc, h1⟩

theorem e_appendD {D D2 : Nat → Prop} {T ty e sz by_ : Nat} {x y : Operand} {α : Type} {kd : Kd α} {c : Nat} {A B : Option Addr} {cap capB : Nat} {xs ys zs : List α} {z : List Value} {C : Nat → Prop} (g : Nat → Nat)
    (hS : Sl N a S) (ho : o.op = .call { callee := .builtin .append, args := #[x, y], argTypes := #[T, T] }) (_hty : o.type = ty) (hx : ev S x = some (.slice A xs.length cap)) (hy : ev S y = some (.slice B ys.length capB))
    (ht : elemInfo P T = some (e, sz, by_)) (hz : zcells P e = some z) (hsz : kd.sz = sz) (hzl : z.length = sz) (hp : Nat.blt 0 sz = true) (hby : Nat.ble by_ 32768 = true)
    (hw : OwD kd e w g c D A cap xs) (hD : ∀ q, D q → q ≠ c) (hr : RdX kd w g C D2 B capB ys) (hC : ∀ cs y, y ∈ ys → kd.R w g D2 y cs → kd.R w g D y cs) (hzs : app xs ys = some zs) :
    Eff P a o w fun v w' g' => (∃ A' cap', v = .slice A' zs.length cap' ∧ OwD kd e w' g' c D A' cap' zs) ∧ Fr (fun q => q = c) w g w' g' := by
  obtain ⟨hlim, rfl⟩ := app_some hzs
  have hp' : 0 < sz := by simpa [Nat.blt_eq] using hp
  have hby' : by_ ≤ 32768 := by simpa [Nat.ble_eq] using hby
  obtain ⟨hu, i, hi, hi1, hi2⟩ := elemInfo_spec ht
  unfold zcells at hz
  rw [hi] at hz
  simp only [Option.bind_some, Option.map_eq_some_iff] at hz
  obtain ⟨zv, hz2, rfl⟩ := hz
  have hex : (execOp a.eval o).run P w = ((Builtin.append_ #[T, T] o.type #[.slice A xs.length cap, .slice B ys.length capB]).run P w).andThen fun v w' => .ok (.value v) w' := by
    unfold execOp
    simp only [ho, resolve, invoke, builtin, Sem.run_bind, Sem.run_pure, Result.andThen_ok, List.map_toArray, List.map_cons, List.map_nil, hS.ev hx, hS.ev hy]
  have hfit : (xs.length + ys.length) * i.bytes ≤ 140737488355328 := by
    have : (xs.length + ys.length) * i.bytes ≤ 4294967296 * 32768 := Nat.mul_le_mul hlim (by omega)
    omega
  obtain ⟨hlc, hcm, hcase⟩ := hw
  rcases Nat.eq_zero_or_pos ys.length with h0 | h0
  · have hys : ys = [] := List.eq_nil_of_length_eq_zero h0
    subst hys
    refine ⟨.slice A (xs ++ []).length cap, w, g, ?_, ⟨A, cap, rfl, ?_⟩, Fr.refl _ _ _⟩
    · rw [hex]
      have : (Builtin.append_ #[T, T] o.type #[.slice A xs.length cap, .slice B 0 capB]).run P w = .ok (.slice A xs.length cap) w := by
        cases A <;> cases B <;> simp [Builtin.append_, run_underlying hu, sizeOf, typeInfo, hi, Builtin.lenOf, Builtin.firstCells, loadCells, loadCellsFrom, hlc, storeCells]
      simp only [List.length_nil, List.append_nil, this, Result.andThen_ok]
    · simp only [List.append_nil]; exact ⟨hlc, hcm, hcase⟩
  · obtain ⟨ad, news, rfl, hrows, hnews, hone⟩ := hr.cells (by omega) h0
    have hrows' : Rows kd w g D ys news := ⟨hrows.1, fun k y hy => hC _ _ (List.mem_of_getElem? hy) (hrows.2 k y hy)⟩
    have hnl : news.length = ys.length * i.size := by rw [hrows.1, hsz, hi1]
    have h63 : ((xs.length + ys.length : Nat) : Int) ≤ 9223372036854775807 := by omega
    -- a new array
    have grown : ∀ (old : List Value) (cap0 : Nat), Rows kd w g D xs old → cap0 < xs.length + ys.length →
        (Builtin.append_ #[T, T] o.type #[.slice A xs.length cap, .slice (some ad) ys.length capB]).run P w = .ok (.slice (some ⟨w.heap.size, 0, none⟩) (xs.length + ys.length) (grownCap w (xs.length + ys.length) cap0 e))
          (w.drew.alloc (.cells (old.toArray ++ news.toArray ++ Builtin.zeroCells zv.cells (grownCap w (xs.length + ys.length) cap0 e - (xs.length + ys.length))) e)) →
        Eff P a o w fun v w' g' => (∃ A' cap', v = .slice A' (xs ++ ys).length cap' ∧ OwD kd e w' g' c D A' cap' (xs ++ ys)) ∧ Fr (fun q => q = c) w g w' g' := by
      intro old cap0 hold hlt hrun
      have hge := grownCap_ge w (xs.length + ys.length) cap0 e
      have hle : grownCap w (xs.length + ys.length) cap0 e ≤ maxLen := grownCap_le_maxLen w _ cap0 e (by simp [maxLen]; omega)
      have F1 : Fr (fun q => q = c) w g (w.drew.alloc (.cells (old.toArray ++ news.toArray ++ Builtin.zeroCells zv.cells (grownCap w (xs.length + ys.length) cap0 e - (xs.length + ys.length))) e)) (dye g w.heap.size c) :=
        (Fr.drew _ w g).trans (Fr.alloc (fun q => q = c) w.drew g _ c) (fun _ h => h)
      refine ⟨_, _, dye g w.heap.size c, by rw [hex, hrun]; rfl, ⟨some ⟨w.heap.size, 0, none⟩, grownCap w (xs.length + ys.length) cap0 e, by simp, ?_⟩, F1⟩
      have hall := (hold.append hrows').fr F1 (fun q h e => hD q h e)
      refine ⟨by simpa using hge, hle, .inr ⟨w.heap.size, _, rfl, heap_alloc_new w.drew _, dye_same g _ c, ?_, ?_⟩⟩
      · simp only [Array.size_append, List.size_toArray, size_zeroCells, hold.1, hrows.1]
        have : zv.cells.size = kd.sz := by have := hzl; simp at this; omega
        rw [this, ← Nat.add_mul, ← Nat.add_mul]
        congr 1
        omega
      · have e2 : ((old.toArray ++ news.toArray ++ Builtin.zeroCells zv.cells (grownCap w (xs.length + ys.length) cap0 e - (xs.length + ys.length))).toList.take ((xs ++ ys).length * kd.sz)) = old ++ news := by
          simp only [Array.toList_append]
          rw [List.take_append_of_le_length (by simp [hold.1, hrows.1, Nat.add_mul]), List.take_of_length_le (by simp [hold.1, hrows.1, Nat.add_mul])]
        rw [e2]; exact hall
    rcases hcase with ⟨rfl, rfl⟩ | ⟨b, arr, rfl, hb, hg, hs, hrow⟩
    · have hx0 : xs = [] := List.eq_nil_of_length_eq_zero (by omega)
      subst hx0
      refine grown [] 0 Rows.nil (by simpa using h0) ?_
      have hr2 := run_append_nil (P := P) w T o.type e i zv hu hi hz2 ad ys.length capB news hnl hnews h0 (by omega) (by simp at hfit; omega)
      simpa using hr2
    · by_cases hroom : xs.length + ys.length ≤ cap
      · have hr2 := run_append_room (P := P) w T o.type e i hu hi b xs.length cap arr hb ad ys.length capB news hnl hnews hone hroom (by rw [hnl, hi1, ← hsz, hs, ← Nat.add_mul]; exact Nat.mul_le_mul_right _ hroom)
        have F1 : Fr (fun q => q = c) w g (w.setRow b (arr.toList.take (xs.length * i.size) ++ news ++ arr.toList.drop (xs.length * i.size + news.length)).toArray) g := Fr.setRow w g b _ hg
        refine ⟨_, _, g, by rw [hex, hr2]; rfl, ⟨some ⟨b, 0, none⟩, cap, by simp, ?_⟩, F1⟩
        have hall := (hrow.append hrows').fr F1 (fun q h e => hD q h e)
        have hsz2 : i.size = kd.sz := by omega
        have hmul : (xs.length + ys.length) * kd.sz ≤ cap * kd.sz := Nat.mul_le_mul_right _ hroom
        rw [Nat.add_mul] at hmul
        refine ⟨by simpa using hroom, hcm, .inr ⟨b, _, rfl, setRow_heap w b _ _ e (0, 0) hb, hg, ?_, ?_⟩⟩
        · simp only [List.size_toArray, List.length_append, List.length_take, List.length_drop, Array.length_toList, hsz2, hrows.1]
          omega
        · have e2 : ((arr.toList.take (xs.length * i.size) ++ news ++ arr.toList.drop (xs.length * i.size + news.length)).toArray.toList.take ((xs ++ ys).length * kd.sz)) = arr.toList.take (xs.length * kd.sz) ++ news := by
            rw [hsz2]
            show (arr.toList.take (xs.length * kd.sz) ++ news ++ arr.toList.drop (xs.length * kd.sz + news.length)).take ((xs ++ ys).length * kd.sz) = _
            have hl : (arr.toList.take (xs.length * kd.sz) ++ news).length = (xs ++ ys).length * kd.sz := by
              simp only [List.length_append, List.length_take, Array.length_toList, hrows.1, Nat.add_mul]; omega
            rw [List.take_append_of_le_length (by omega), List.take_of_length_le (by omega)]
          rw [e2]; exact hall
      · refine grown _ cap hrow (by omega) ?_
        have holds : ∀ j v, (arr.toList.take (xs.length * kd.sz))[j]? = some v → w.cell? ((⟨b, 0, none⟩ : Addr).add j) = some v := by
          intro j v hv
          rw [List.getElem?_take] at hv
          split at hv
          · have hadd : (⟨b, 0, none⟩ : Addr).add j = ⟨b, j, none⟩ := by unfold Addr.add; split <;> simp_all
            rw [hadd, cell_of_row w b j arr e (0, 0) hb]; simpa using hv
          · cases hv
        have hr2 := run_append_grow (P := P) w T o.type e i zv hu hi hz2 ⟨b, 0, none⟩ xs.length cap _ (by rw [hrow.1, hsz, hi1]) holds ad ys.length capB news hnl hnews (by omega) h63 (growslice_fits (by omega) hfit)
        exact hr2

theorem e_append {T ty e sz by_ : Nat} {x y : Operand} {α : Type} {kd : Kd α} {c : Nat} {A B : Option Addr} {cap capB : Nat} {xs ys zs : List α} {z : List Value} {C D2 : Nat → Prop} (g : Nat → Nat)
    (hS : Sl N a S) (ho : o.op = .call { callee := .builtin .append, args := #[x, y], argTypes := #[T, T] }) (hty : o.type = ty) (hx : ev S x = some (.slice A xs.length cap)) (hy : ev S y = some (.slice B ys.length capB))
    (ht : elemInfo P T = some (e, sz, by_)) (hz : zcells P e = some z) (hsz : kd.sz = sz) (hzl : z.length = sz) (hp : Nat.blt 0 sz = true) (hby : Nat.ble by_ 32768 = true)
    (hw : OwS kd e w g c A cap xs) (hr : RdX kd w g C D2 B capB ys) (hC : ∀ cs y, y ∈ ys → kd.R w g D2 y cs → kd.R w g (· = c + 1) y cs) (hzs : app xs ys = some zs) :
    Eff P a o w fun v w' g' => (∃ A' cap', v = .slice A' zs.length cap' ∧ OwS kd e w' g' c A' cap' zs) ∧ Fr (fun q => q = c) w g w' g' :=
  e_appendD g hS ho hty hx hy ht hz hsz hzl hp hby hw (fun q (e : q = c + 1) => by omega) hr hC hzs

theorem e_make {T e sz by_ : Nat} {x : Operand} {ik : IntKind} {n : Int} {z : List Value} {α : Type} {kd : Kd α} {x0 : α} {xs : List α} (c : Nat) (g : Nat → Nat) (hS : Sl N a S) (ho : o.op = .makeSlice T x x)
    (hx : ev S x = some (.int ik n)) (ht : elemInfo P T = some (e, sz, by_)) (hz : zcells P e = some z) (hsz : kd.sz = sz) (hp : Nat.blt 0 sz = true) (hby : Nat.ble by_ 32768 = true) (hk : ∀ w g C, kd.R w g C x0 z) (hxs : mk n x0 = some xs) :
    Eff P a o w fun v w' g' => (∃ A cap, v = .slice A xs.length cap ∧ OwS kd e w' g' c A cap xs) ∧ Fr (fun _ => False) w g w' g' := e_makeD c g hS ho hx ht hz hsz hp hby hk hxs

end
end Go.Proofs.Ytfhhklkmbcnhnaa.Sim

namespace Go.Proofs.Ytfhhklkmbcnhnaa.Sim
open Go Go.Proofs.YtfhhklkmbcnhnaaW.PrintLast

section
variable {P : Program} {ops : Array Oper} {Q : Exit → Act → World → Prop} {a : Act} {w w1 : World} {o : Oper} {N : Nat} {S : List (Nat × Value)} {d : Nat} {v : Value} {M : Nat → Prop} {g g1 : Nat → Nat} {ds : List Nat} {fuel i j k n : Nat} {l l' li lj lk : Array Bool}

/-- The worlds that may be met inside a region. -/
def Cls (M : Nat → Prop) (w1 : World) (g1 : Nat → Nat) (w : World) : Prop := ∃ g, Fr M w1 g1 w g

abbrev AnyD (P : Program) (ops : Array Oper) (Q : Exit → Act → World → Prop) (M : Nat → Prop) (w1 : World) (g1 : Nat → Nat) (ds : List Nat) (fuel : Nat) (l : Array Bool) (a : Act) (w : World) : Prop :=
  wpAnyLast P .any ops Q (Cls M w1 g1) ds fuel l a w

theorem d_start {id : Nat} (M : Nat → Prop) (g : Nat → Nat) (ds : List Nat) (n : Nat) (l : Array Bool) (hm : P.follows .mixedOrders = true) (hn : ops.size = n) (hl : Array.replicate n false = l)
    (h : ∀ w1, w1 = w.drew → AnyD P ops Q M w1 g ds n l a w1) : (Code.region id ops true).wp P Q a w :=
  start_ l hm hn hl ⟨g, Fr.refl _ _ _⟩ fun _ => h _ rfl

/-- An operation that yields in every world. -/
theorem d_pure (hS : Sl N a S) (i : Nat) (l' : Array Bool) (hi : ops[i]? = some o) (hg : o.guard = none) (hd : o.dst = some d) (hN : Nat.blt d N = true) (hc : anyB .any ops l l' i = true)
    (hQ : ∀ c a w, Q (.panic c) (a.put (some d) v) w → Q (.panic c) a w) (hr : ∀ w, (execOp a.eval o).run P w = .ok (.value v) w)
    (k : ∀ a', Sl N a' ((d, v) :: S) → AnyD P ops Q M w1 g1 ds fuel l' a' w) : AnyD P ops Q M w1 g1 ds (fuel + 1) l a w :=
  pure_ l' hi hd hc (fun c a w h => hQ c a w (hd ▸ h)) (.inl ⟨wanted_none hg _, hr⟩) rfl (k _ (hS.put hN v))

/-- An operation that reads. -/
theorem d_take (hS : Sl N a S) (i : Nat) (l' : Array Bool) (hi : ops[i]? = some o) (hg : o.guard = none) (hd : o.dst = some d) (hN : Nat.blt d N = true) (hc : takeB .any ops ds l l' i = true)
    (hQ : ∀ c a w, Q (.panic c) (a.put (some d) v) w → Q (.panic c) a w) (hw : Cls M w1 g1 w) (hr : ∀ w' g', Fr M w1 g1 w' g' → (execOp a.eval o).run P w' = .ok (.value v) w')
    (k : ∀ a', Sl N a' ((d, v) :: S) → AnyD P ops Q M w1 g1 ds fuel l' a' w) : AnyD P ops Q M w1 g1 ds (fuel + 1) l a w :=
  take_ l' hi hd hc (fun c a w h => hQ c a w (hd ▸ h)) (.inl ⟨wanted_none hg _, fun w' ⟨g', F⟩ => hr w' g' F⟩) hw rfl (k _ (hS.put hN v))

theorem d_pureW (hS : Sl N a S) (i : Nat) (l' : Array Bool) (hi : ops[i]? = some o) (hg : Region.wanted o (yielded ops a.tmps) = true) (hd : o.dst = some d) (hN : Nat.blt d N = true) (hc : anyB .any ops l l' i = true)
    (hQ : ∀ c a w, Q (.panic c) (a.put (some d) v) w → Q (.panic c) a w) (hr : ∀ w, (execOp a.eval o).run P w = .ok (.value v) w)
    (k : ∀ a', Sl N a' ((d, v) :: S) → AnyD P ops Q M w1 g1 ds fuel l' a' w) : AnyD P ops Q M w1 g1 ds (fuel + 1) l a w :=
  pure_ l' hi hd hc (fun c a w h => hQ c a w (hd ▸ h)) (.inl ⟨hg, hr⟩) rfl (k _ (hS.put hN v))
theorem d_takeW (hS : Sl N a S) (i : Nat) (l' : Array Bool) (hi : ops[i]? = some o) (hg : Region.wanted o (yielded ops a.tmps) = true) (hd : o.dst = some d) (hN : Nat.blt d N = true) (hc : takeB .any ops ds l l' i = true)
    (hQ : ∀ c a w, Q (.panic c) (a.put (some d) v) w → Q (.panic c) a w) (hw : Cls M w1 g1 w) (hr : ∀ w' g', Fr M w1 g1 w' g' → (execOp a.eval o).run P w' = .ok (.value v) w')
    (k : ∀ a', Sl N a' ((d, v) :: S) → AnyD P ops Q M w1 g1 ds fuel l' a' w) : AnyD P ops Q M w1 g1 ds (fuel + 1) l a w :=
  take_ l' hi hd hc (fun c a w h => hQ c a w (hd ▸ h)) (.inl ⟨hg, fun w' ⟨g', F⟩ => hr w' g' F⟩) hw rfl (k _ (hS.put hN v))
theorem d_off (hS : Sl N a S) (i : Nat) (l' : Array Bool) (hi : ops[i]? = some o) (hg : Region.wanted o (yielded ops a.tmps) = false) (hd : o.dst = some d) (hN : Nat.blt d N = true) (hc : anyB .any ops l l' i = true)
    (hQ : ∀ c a w, Q (.panic c) (a.put (some d) undef) w → Q (.panic c) a w)
    (k : ∀ a', Sl N a' ((d, undef) :: S) → AnyD P ops Q M w1 g1 ds fuel l' a' w) : AnyD P ops Q M w1 g1 ds (fuel + 1) l a w :=
  pure_ l' hi hd hc (fun c a w h => hQ c a w (hd ▸ h)) (.inr ⟨hg, rfl⟩) rfl (k _ (hS.put hN undef))
theorem d_join (fuel' : Nat) (l' : Array Bool) (S' : List (Nat × Value)) (k : ∀ a', Sl N a' S' → AnyD P ops Q M w1 g1 ds fuel' l' a' w) (h : (∀ a', Sl N a' S' → AnyD P ops Q M w1 g1 ds fuel' l' a' w) → AnyD P ops Q M w1 g1 ds fuel l a w) : AnyD P ops Q M w1 g1 ds fuel l a w := h k

/-- What is to be shown of an operation that may come up next and does more than read. -/
def Arm (P : Program) (ops : Array Oper) (Q : Exit → Act → World → Prop) (M : Nat → Prop) (w1 : World) (g1 : Nat → Nat) (ds : List Nat) (fuel : Nat) (l' : Array Bool) (oi : Oper) (i : Nat) (a : Act) (w : World) : Prop :=
  ∀ K : Act → World → Prop, (∀ a' w', (i ∉ ds → Cls M w1 g1 w → Cls M w1 g1 w') → AnyD P ops Q M w1 g1 ds fuel l' a' w' → K a' w') → if Region.wanted oi (yielded ops a.tmps) = true then Oper.wp P oi a w K Q else K (a.put oi.dst undef) w

theorem Arm.wpOp {oi : Oper} (hi : ops[i]? = some oi) (h : Arm P ops Q M w1 g1 ds fuel (l.setIfInBounds i true) oi i a w) :
    wpOp P ops Q i (fun a' w' => (i ∉ ds → Cls M w1 g1 w → Cls M w1 g1 w') ∧ wpAnyLast P .any ops Q (Cls M w1 g1) ds fuel (l.setIfInBounds i true) a' w') a w := by
  unfold Go.wpOp
  simp only [hi]
  have := h (fun a' w' => (i ∉ ds → Cls M w1 g1 w → Cls M w1 g1 w') ∧ wpAnyLast P .any ops Q (Cls M w1 g1) ds fuel (l.setIfInBounds i true) a' w') (fun _ _ h1 h2 => ⟨h1, h2⟩)
  split
  · rename_i hw; rw [if_pos hw] at this; exact .inl this
  · rename_i hw; rw [if_neg hw] at this; exact this

theorem d_one {oi : Oper} (i : Nat) (l' : Array Bool) (hi : ops[i]? = some oi) (hc : readyB .any ops l l' i = true) (h : Arm P ops Q M w1 g1 ds fuel l' oi i a w) : AnyD P ops Q M w1 g1 ds (fuel + 1) l a w := by
  simp only [readyB, Bool.and_eq_true, beq_iff_eq] at hc
  obtain ⟨h1, h2⟩ := hc
  subst h2
  exact wpAnyLast_all h1 (by simp) fun k hk => by
    have : k = i := by simpa using hk
    subst this
    exact Arm.wpOp hi h

theorem d_two {oi oj : Oper} (i j : Nat) (li lj : Array Bool) (hi : ops[i]? = some oi) (hj : ops[j]? = some oj) (hc : (Region.ready .any ops l == [i, j] && l.setIfInBounds i true == li && l.setIfInBounds j true == lj) = true)
    (h1 : Arm P ops Q M w1 g1 ds fuel li oi i a w) (h2 : Arm P ops Q M w1 g1 ds fuel lj oj j a w) : AnyD P ops Q M w1 g1 ds (fuel + 1) l a w := by
  simp only [Bool.and_eq_true, beq_iff_eq] at hc
  obtain ⟨⟨h3, h4⟩, h5⟩ := hc
  subst h4
  subst h5
  exact wpAnyLast_all h3 (by simp) fun k hk => by
    rcases List.mem_cons.1 hk with rfl | hk
    · exact Arm.wpOp hi h1
    · have : k = j := by simpa using hk
      subst this
      exact Arm.wpOp hj h2

theorem d_done (hr : (Region.ready .any ops l == []) = true) (h : Q .normal a w) : AnyD P ops Q M w1 g1 ds n l a w := done_ hr h

theorem arm_eff {R : Value → World → (Nat → Nat) → Prop} (hS : Sl N a S) (hg : o.guard = none) (hd : o.dst = some d) (hN : Nat.blt d N = true) (hr : Eff P a o w R) (hM : ∀ v w' g', R v w' g' → Cls M w1 g1 w → Cls M w1 g1 w')
    (k : ∀ v a' w' g', R v w' g' → Sl N a' ((d, v) :: S) → AnyD P ops Q M w1 g1 ds fuel l' a' w') : Arm P ops Q M w1 g1 ds fuel l' o i a w := by
  intro K hK
  obtain ⟨v, w', g', h1, h2⟩ := hr
  rw [if_pos (wanted_none hg _)]
  unfold Oper.wp
  rw [h1, Oper.upon_value, hd]
  exact hK _ _ (fun _ => hM v w' g' h2) (k v _ w' g' h2 (hS.put hN v))

theorem arm_effS {R : World → (Nat → Nat) → Prop} (hS : Sl N a S) (hg : o.guard = none) (hd : o.dst = none) (hr : EffS P a o w R) (hM : i ∈ ds ∨ ∀ w' g', R w' g' → Cls M w1 g1 w → Cls M w1 g1 w')
    (k : ∀ a' w' g', R w' g' → Sl N a' S → AnyD P ops Q M w1 g1 ds fuel l' a' w') : Arm P ops Q M w1 g1 ds fuel l' o i a w := by
  intro K hK
  obtain ⟨w', g', h1, h2⟩ := hr
  rw [if_pos (wanted_none hg _)]
  unfold Oper.wp
  rw [h1, Oper.upon_skip, hd]
  refine hK _ _ (fun hn hw => ?_) (k _ w' g' h2 (hS.put_none _))
  rcases hM with h | h
  · exact absurd h hn
  · exact h w' g' h2 hw

theorem arm_call {f : FuncId} {args : Array Value} {R : Value → World → Prop} (hS : Sl N a S) (hg : o.guard = none) (hd : o.dst = some d) (hN : Nat.blt d N = true)
    (hr : (execOp a.eval o).run P w = .ok (.enter f args) w) (hc : Calls P f args w (fun e w' => ∃ v, e = .returned v ∧ R v w')) (hM : ∀ v w', R v w' → Cls M w1 g1 w → Cls M w1 g1 w')
    (k : ∀ v a' w', R v w' → Sl N a' ((d, v) :: S) → AnyD P ops Q M w1 g1 ds fuel l' a' w') : Arm P ops Q M w1 g1 ds fuel l' o i a w := by
  intro K hK
  rw [if_pos (wanted_none hg _)]
  unfold Oper.wp
  rw [hr, Oper.upon_enter]
  refine hc.mono fun e w' h => ?_
  obtain ⟨v, rfl, h⟩ := h
  rw [hd]
  exact hK _ _ (fun _ => hM v w' h) (k v _ w' h (hS.put hN v))

end

/-! ### cells of flat elements and of boxes -/

section
variable {w : World} {g : Nat → Nat} {C : Nat → Prop} {A : Option Addr} {cap : Nat}

theorem RdS.cell {α : Type} {sz : Nat} {enc : α → List Value} {hl : ∀ x, (enc x).length = sz} {h1 : ∀ x, ∀ v ∈ enc x, v.oneCell' = true} {xs : List α} {i : Int} {x : α} {j : Nat} {u : Value}
    (h : RdS (flat sz enc hl h1) w g C A cap xs) (hi : idx xs i = some x) (hj : (enc x)[j]? = some u) : w.cell? (ea A (i.toNat * sz + j)) = some u := by
  obtain ⟨cs, hR, hc, _⟩ := h.at_ hi
  have hR' : cs = enc x := hR
  subst hR'
  exact hc j u hj

theorem RdS.cells_off {α : Type} {sz : Nat} {enc : α → List Value} {hl : ∀ x, (enc x).length = sz} {h1 : ∀ x, ∀ v ∈ enc x, v.oneCell' = true} {xs : List α} {i : Int} {x : α}
    (h : RdS (flat sz enc hl h1) w g C A cap xs) (hi : idx xs i = some x) (o n : Nat) : ∀ j u, (((enc x).drop o).take n)[j]? = some u → w.cell? ((ea A (i.toNat * sz + o)).add j) = some u := by
  intro j u hu
  rw [List.getElem?_take] at hu
  split at hu
  · rw [List.getElem?_drop] at hu
    have := h.cell hi hu
    rwa [ea_add, Nat.add_assoc]
  · cases hu

theorem RdS.some_ {α : Type} {k : Kd α} {xs : List α} {i : Int} {x : α} (h : RdS k w g C A cap xs) (hi : idx xs i = some x) : ∃ ad, A = some ad := by
  obtain ⟨_, _, _, _, h⟩ := h.at_ hi
  exact h

theorem idx_lo {α : Type} {xs : List α} {i : Int} {x : α} (h : idx xs i = some x) : 0 ≤ i := (idx_some h).1
theorem idx_hi {α : Type} {xs : List α} {i : Int} {x : α} (h : idx xs i = some x) : i < (xs.length : Int) := (idx_some h).2.1

theorem Bx.cells_off {c b : Nat} {T : TypeId} {cs : List Value} (h : Bx w g c b T cs) (o n : Nat) : ∀ j u, ((cs.drop o).take n)[j]? = some u → w.cell? ((⟨b, o, none⟩ : Addr).add j) = some u := by
  intro j u hu
  rw [List.getElem?_take] at hu
  split at hu
  · rw [List.getElem?_drop] at hu
    have := h.cell hu
    rwa [Addr.add_lit]
  · cases hu

end

/-! ### joins, loops, ends -/

section
variable {P : Program} {Q : Exit → Act → World → Prop} {a : Act} {w : World} {N : Nat} {S : List (Nat × Value)}

theorem c_region {id : Nat} {l : List Oper} {y : Code} (h : ∀ K : Act → World → Prop, (∀ a w, y.wp P Q a w → K a w) → wpList P l.toArray (Exit.then K Q) l a w) : (Code.seq (.region id l.toArray false) y).wp P Q a w :=
  wp_seq_k fun K hK => wp_region_lit (h K hK)

theorem c_pure {id : Nat} {l : List Oper} {y : Code} (S' : List (Nat × Value)) (h : ∀ R : Act → World → Prop, (∀ a', Sl N a' S' → R a' w) → wpList P l.toArray (Exit.then R Q) l a w) (k : ∀ a', Sl N a' S' → y.wp P Q a' w) :
    (Code.seq (.region id l.toArray false) y).wp P Q a w :=
  c_region fun K hK => h K (fun a' hS => hK _ _ (k a' hS))

theorem c_draw {id : Nat} {ops : Array Oper} {y : Code} (h : ∀ K : Act → World → Prop, (∀ a w, y.wp P Q a w → K a w) → (Code.region id ops true).wp P (Exit.then K Q) a w) : (Code.seq (.region id ops true) y).wp P Q a w :=
  wp_seq_k h

theorem c_if {c : Operand} {x y z : Code} {t : Bool} (hS : Sl N a S) (hc : ev S c = some (.bool t)) (h1 : t = true → x.wp P (Exit.then (z.wp P Q) Q) a w) (h2 : t = false → y.wp P (Exit.then (z.wp P Q) Q) a w) :
    (Code.seq (.cond c x y) z).wp P Q a w :=
  wp_seq (wp_cond_split (hS.ev hc) h1 h2)

theorem c_region1 {id : Nat} {l : List Oper} (h : ∀ K : Act → World → Prop, (∀ a w, Q .normal a w → K a w) → wpList P l.toArray (Exit.then K Q) l a w) : (Code.region id l.toArray false).wp P Q a w :=
  wp_mono (wp_region_lit (h _ (fun _ _ h => h))) fun e a w q => by
    cases e with
    | normal => exact q
    | _ => exact q

theorem c_pure1 {id : Nat} {l : List Oper} (S' : List (Nat × Value)) (h : ∀ R : Act → World → Prop, (∀ a', Sl N a' S' → R a' w) → wpList P l.toArray (Exit.then R Q) l a w) (k : ∀ a', Sl N a' S' → Q .normal a' w) :
    (Code.region id l.toArray false).wp P Q a w :=
  c_region1 fun K hK => h K (fun a' hS => hK _ _ (k a' hS))

theorem c_draw1 {id : Nat} {ops : Array Oper} (h : ∀ K : Act → World → Prop, (∀ a w, Q .normal a w → K a w) → (Code.region id ops true).wp P (Exit.then K Q) a w) : (Code.region id ops true).wp P Q a w :=
  wp_mono (h _ (fun _ _ h => h)) fun e a w q => by
    cases e with
    | normal => exact q
    | _ => exact q

/-- Ways that meet: what follows is shown once. -/
theorem g_join {ops : Array Oper} {l : List Oper} (n : Nat) (S' : List (Nat × Value)) (k : ∀ a', Sl N a' S' → wpList P ops Q (l.drop n) a' w) (h : (∀ a', Sl N a' S' → wpList P ops Q (l.drop n) a' w) → wpList P ops Q l a w) : wpList P ops Q l a w := h k

theorem g_joinR {ops : Array Oper} {l : List Oper} (n : Nat) (R : Act → World → Prop) (k : ∀ a' w', R a' w' → wpList P ops Q (l.drop n) a' w') (h : (∀ a' w', R a' w' → wpList P ops Q (l.drop n) a' w') → wpList P ops Q l a w) : wpList P ops Q l a w := h k

theorem c_cut {x y : Code} (R : Act → World → Prop) (h : x.wp P (Exit.then R Q) a w) (k : ∀ a w, R a w → y.wp P Q a w) : (Code.seq x y).wp P Q a w :=
  wp_seq (wp_mono h (fun e a w q => by
    cases e with
    | normal => exact k a w q
    | _ => exact q))

theorem c_cond {c : Operand} {x y : Code} {t : Bool} (hS : Sl N a S) (hc : ev S c = some (.bool t)) (h1 : t = true → x.wp P Q a w) (h2 : t = false → y.wp P Q a w) : (Code.cond c x y).wp P Q a w :=
  wp_cond_split (hS.ev hc) h1 h2

theorem c_cut1 {x : Code} (R : Act → World → Prop) (h : x.wp P (Exit.then R Q) a w) (k : ∀ a w, R a w → Q .normal a w) : x.wp P Q a w :=
  wp_mono h (fun e a w q => by
    cases e with
    | normal => exact k a w q
    | _ => exact q)

theorem c_ret1 {fn : Func} {R : Ending → World → Prop} {t : Tmp} {v : Value} (hS : Sl N a S) (hr : fn.results = #[.tmp t]) (hv : lk S t = some v) (h : R (.returned v) w) : bodyPost P fn R .ret a w := by
  refine bodyPost_ret (v := v) ?_ hS.defs h
  rw [results_tmp hr]
  have := hS.get t v hv
  simp [Array.getD_eq_getD_getElem?, this]

theorem c_ret2 {fn : Func} {R : Ending → World → Prop} {t u : Tmp} {v z : Value} (hS : Sl N a S) (hr : fn.results = #[.tmp t, .tmp u]) (hv : lk S t = some v) (hz : lk S u = some z) (h : R (.returned (.tuple #[v, z])) w) : bodyPost P fn R .ret a w := by
  refine bodyPost_ret (v := .tuple #[v, z]) ?_ hS.defs h
  rw [results_tmp2 hr]
  have h1 := hS.get t v hv
  have h2 := hS.get u z hz
  simp [Array.getD_eq_getD_getElem?, h1, h2]

theorem c_ret3 {fn : Func} {R : Ending → World → Prop} {t u s : Tmp} {v z y : Value} (hS : Sl N a S) (hr : fn.results = #[.tmp t, .tmp u, .tmp s]) (hv : lk S t = some v) (hz : lk S u = some z) (hy : lk S s = some y) (h : R (.returned (.tuple #[v, z, y])) w) : bodyPost P fn R .ret a w := by
  refine bodyPost_ret (v := .tuple #[v, z, y]) ?_ hS.defs h
  have h1 := hS.get t v hv
  have h2 := hS.get u z hz
  have h3 := hS.get s y hy
  simp [results, hr, Array.getD_eq_getD_getElem?, h1, h2, h3]

end

theorem ite_t {α : Type} {b : Bool} {x y z : α} (h : b = true) (H : (if b = true then x else y) = z) : x = z := by rwa [if_pos h] at H
theorem ite_f {α : Type} {b : Bool} {x y z : α} (h : b = false) (H : (if b = true then x else y) = z) : y = z := by rwa [if_neg (by rw [h]; exact Bool.false_ne_true)] at H

/-- What a piece of a printed function comes to that may leave its surroundings. -/
inductive Fl (ρ σ : Type) where
  | out (x : ρ)
  | nxt (y : σ)

def Fl.go {ρ σ : Type} (o : Fl ρ σ) (f : σ → Option ρ) : Option ρ :=
  match o with
  | .out x => some x
  | .nxt y => f y

theorem Fl.go_nxt {ρ σ : Type} {y : σ} {f : σ → Option ρ} {z : Option ρ} (h : (Fl.nxt y).go f = z) : f y = z := h
theorem Fl.go_out {ρ σ : Type} {x : ρ} {f : σ → Option ρ} {z : Option ρ} (h : (Fl.out x : Fl ρ σ).go f = z) : some x = z := h
theorem nz_el {α : Type} {y : Int} {o : Option α} {r : α} (h : (if y = 0 then none else o) = some r) : y ≠ 0 ∧ o = some r := by
  by_cases e : y = 0
  · rw [if_pos e] at h; cases h
  · rw [if_neg e] at h; exact ⟨e, h⟩

theorem calls_enter {P : Program} {f : FuncId} {fn : Func} {c : Code} {args : List Value} {n : Nat} {w : World} {R : Ending → World → Prop} (hf : P.funcs[f]? = some fn) (hb : fn.body = some c) (hn : fn.ntmps = n) (hle : Nat.ble args.length n = true)
    (h : ∀ a, Sl n a (number 0 args) → c.wp P (bodyPost P fn R) a w) : Calls P f args.toArray w R := by
  subst hn
  exact calls_of_wp hf hb (h _ (Sl.enter fn.ntmps args hle))

theorem then_ret {K : Act → World → Prop} {Q : Exit → Act → World → Prop} {a : Act} {w : World} (h : Q .ret a w) : Exit.then K Q .ret a w := h
theorem inBlock_ret {i : Nat} {Q : Exit → Act → World → Prop} {a : Act} {w : World} (h : Q .ret a w) : Exit.inBlock i Q .ret a w := h

def FUEL : Nat := 18446744073709551616

end Go.Proofs.Ytfhhklkmbcnhnaa.Sim

namespace Go.Proofs.Ytfhhklkmbcnhnaa.Sim
open Go
set_option linter.unusedVariables false

/-! ### arrays of a fixed length -/

structure Ar2 (α : Type) where
  a0 : α
  a1 : α
deriving DecidableEq
def Ar2.l {α : Type} (x : Ar2 α) : List α := [x.a0, x.a1]
theorem Ar2.cases {α : Type} {x : Ar2 α} {i : Int} {v : α} (h : idx x.l i = some v) : (i = 0 ∧ v = x.a0) ∨ (i = 1 ∧ v = x.a1) := by
  obtain ⟨h0, h1, h2⟩ := idx_some h
  have h1' : i < (2 : Int) := h1
  have hi : i = 0 ∨ i = 1 := by omega
  rcases hi with e | e
  all_goals subst e
  · exact .inl ⟨rfl, (Option.some.inj h2).symm⟩
  · exact .inr (⟨rfl, (Option.some.inj h2).symm⟩)

structure Ar3 (α : Type) where
  a0 : α
  a1 : α
  a2 : α
deriving DecidableEq
def Ar3.l {α : Type} (x : Ar3 α) : List α := [x.a0, x.a1, x.a2]
theorem Ar3.cases {α : Type} {x : Ar3 α} {i : Int} {v : α} (h : idx x.l i = some v) : (i = 0 ∧ v = x.a0) ∨ (i = 1 ∧ v = x.a1) ∨ (i = 2 ∧ v = x.a2) := by
  obtain ⟨h0, h1, h2⟩ := idx_some h
  have h1' : i < (3 : Int) := h1
  have hi : i = 0 ∨ i = 1 ∨ i = 2 := by omega
  rcases hi with e | e | e
  all_goals subst e
  · exact .inl ⟨rfl, (Option.some.inj h2).symm⟩
  · exact .inr (.inl ⟨rfl, (Option.some.inj h2).symm⟩)
  · exact .inr (.inr (⟨rfl, (Option.some.inj h2).symm⟩))

structure Ar4 (α : Type) where
  a0 : α
  a1 : α
  a2 : α
  a3 : α
deriving DecidableEq
def Ar4.l {α : Type} (x : Ar4 α) : List α := [x.a0, x.a1, x.a2, x.a3]
def Ar4.put {α : Type} (x : Ar4 α) (i : Int) (v : α) : Option (Ar4 α) := if i = 0 then some { x with a0 := v } else if i = 1 then some { x with a1 := v } else if i = 2 then some { x with a2 := v } else if i = 3 then some { x with a3 := v } else none
theorem Ar4.put_cases {α : Type} {x y : Ar4 α} {i : Int} {v : α} (h : x.put i v = some y) : (i = 0 ∧ y = { x with a0 := v }) ∨ (i = 1 ∧ y = { x with a1 := v }) ∨ (i = 2 ∧ y = { x with a2 := v }) ∨ (i = 3 ∧ y = { x with a3 := v }) := by
  unfold Ar4.put at h
  repeat' split at h
  all_goals first | (cases h; done) | (injection h with h; subst h; simp_all)
theorem Ar4.lt {α : Type} {x : Ar4 α} {i : Int} {v : α} (h : idx x.l i = some v) : i < (4 : Int) := (idx_some h).2.1
theorem Ar4.cases {α : Type} {x : Ar4 α} {i : Int} {v : α} (h : idx x.l i = some v) : (i = 0 ∧ v = x.a0) ∨ (i = 1 ∧ v = x.a1) ∨ (i = 2 ∧ v = x.a2) ∨ (i = 3 ∧ v = x.a3) := by
  obtain ⟨h0, h1, h2⟩ := idx_some h
  have h1' : i < (4 : Int) := h1
  have hi : i = 0 ∨ i = 1 ∨ i = 2 ∨ i = 3 := by omega
  rcases hi with e | e | e | e
  all_goals subst e
  · exact .inl ⟨rfl, (Option.some.inj h2).symm⟩
  · exact .inr (.inl ⟨rfl, (Option.some.inj h2).symm⟩)
  · exact .inr (.inr (.inl ⟨rfl, (Option.some.inj h2).symm⟩))
  · exact .inr (.inr (.inr (⟨rfl, (Option.some.inj h2).symm⟩)))

structure Ar6 (α : Type) where
  a0 : α
  a1 : α
  a2 : α
  a3 : α
  a4 : α
  a5 : α
deriving DecidableEq
def Ar6.l {α : Type} (x : Ar6 α) : List α := [x.a0, x.a1, x.a2, x.a3, x.a4, x.a5]
def Ar6.put {α : Type} (x : Ar6 α) (i : Int) (v : α) : Option (Ar6 α) := if i = 0 then some { x with a0 := v } else if i = 1 then some { x with a1 := v } else if i = 2 then some { x with a2 := v } else if i = 3 then some { x with a3 := v } else if i = 4 then some { x with a4 := v } else if i = 5 then some { x with a5 := v } else none
theorem Ar6.put_cases {α : Type} {x y : Ar6 α} {i : Int} {v : α} (h : x.put i v = some y) : (i = 0 ∧ y = { x with a0 := v }) ∨ (i = 1 ∧ y = { x with a1 := v }) ∨ (i = 2 ∧ y = { x with a2 := v }) ∨ (i = 3 ∧ y = { x with a3 := v }) ∨ (i = 4 ∧ y = { x with a4 := v }) ∨ (i = 5 ∧ y = { x with a5 := v }) := by
  unfold Ar6.put at h
  repeat' split at h
  all_goals first | (cases h; done) | (injection h with h; subst h; simp_all)
theorem Ar6.lt {α : Type} {x : Ar6 α} {i : Int} {v : α} (h : idx x.l i = some v) : i < (6 : Int) := (idx_some h).2.1
theorem Ar6.cases {α : Type} {x : Ar6 α} {i : Int} {v : α} (h : idx x.l i = some v) : (i = 0 ∧ v = x.a0) ∨ (i = 1 ∧ v = x.a1) ∨ (i = 2 ∧ v = x.a2) ∨ (i = 3 ∧ v = x.a3) ∨ (i = 4 ∧ v = x.a4) ∨ (i = 5 ∧ v = x.a5) := by
  obtain ⟨h0, h1, h2⟩ := idx_some h
  have h1' : i < (6 : Int) := h1
  have hi : i = 0 ∨ i = 1 ∨ i = 2 ∨ i = 3 ∨ i = 4 ∨ i = 5 := by omega
  rcases hi with e | e | e | e | e | e
  all_goals subst e
  · exact .inl ⟨rfl, (Option.some.inj h2).symm⟩
  · exact .inr (.inl ⟨rfl, (Option.some.inj h2).symm⟩)
  · exact .inr (.inr (.inl ⟨rfl, (Option.some.inj h2).symm⟩))
  · exact .inr (.inr (.inr (.inl ⟨rfl, (Option.some.inj h2).symm⟩)))
  · exact .inr (.inr (.inr (.inr (.inl ⟨rfl, (Option.some.inj h2).symm⟩))))
  · exact .inr (.inr (.inr (.inr (.inr (⟨rfl, (Option.some.inj h2).symm⟩)))))


/-! ### an array's places -/

section
variable {P : Program} {a : Act} {w : World} {o : Oper} {N : Nat} {S : List (Nat × Value)}

/-- Of an array type: its length, its element type, an element's cells, whether an element is read as a whole. -/
def arrInfo (P : Program) (T : Nat) : Option (Nat × Nat × Nat × Bool) :=
  match P.underlying T with
  | some (.array n e) => match tsz P e with
    | some (sz, b) => some (n, e, sz, b)
    | none => none
  | _ => none

theorem arrInfo_spec {T n e sz : Nat} {b : Bool} (h : arrInfo P T = some (n, e, sz, b)) : P.underlying T = some (.array n e) ∧ tsz P e = some (sz, b) := by
  unfold arrInfo at h
  split at h
  · rename_i n' e' hu
    split at h
    · rename_i s' b' hi
      simp only [Option.some.injEq, Prod.mk.injEq] at h
      obtain ⟨rfl, rfl, rfl, rfl⟩ := h
      exact ⟨hu, hi⟩
    · cases h
  · cases h

theorem r_ix {T n e sz : Nat} {bb : Bool} {x y : Operand} {ad : Addr} {ik : IntKind} {i : Int} (hS : Sl N a S) (ho : o.op = .indexAddr T x y) (hx : ev S x = some (.pointer (some ad))) (hy : ev S y = some (.int ik i))
    (ht : arrInfo P T = some (n, e, sz, bb)) (h0 : 0 ≤ i) (h1 : i < (n : Int)) :
    (execOp a.eval o).run P w = .ok (.value (.pointer (some (ad.add (i.toNat * sz))))) w := by
  obtain ⟨hu, hts⟩ := arrInfo_spec ht
  have hsz := run_sizeOf (w := w) hts
  unfold execOp; simp only [ho, hS.ev hx, hS.ev hy]
  refine r_value ?_
  simp [Instr.indexAt, asIntOf, run_underlying hu, Instr.sureAddr, h0, h1, hsz]

theorem r_ixB {T n e sz b j : Nat} {bb : Bool} {x y : Operand} {ik : IntKind} {i : Int} (hS : Sl N a S) (ho : o.op = .indexAddr T x y) (hx : ev S x = some (.pointer (some ⟨b, j, none⟩))) (hy : ev S y = some (.int ik i))
    (ht : arrInfo P T = some (n, e, sz, bb)) (h0 : 0 ≤ i) (h1 : i < (n : Int)) :
    (execOp a.eval o).run P w = .ok (.value (.pointer (some ⟨b, j + i.toNat * sz, none⟩))) w := by
  have := r_ix (w := w) hS ho hx hy ht h0 h1
  rwa [Addr.add_lit] at this

theorem r_ixE {T n e sz j : Nat} {bb : Bool} {x y : Operand} {A : Option Addr} {ik : IntKind} {i : Int} (hS : Sl N a S) (ho : o.op = .indexAddr T x y) (hx : ev S x = some (.pointer (some (ea A j)))) (hy : ev S y = some (.int ik i))
    (ht : arrInfo P T = some (n, e, sz, bb)) (h0 : 0 ≤ i) (h1 : i < (n : Int)) :
    (execOp a.eval o).run P w = .ok (.value (.pointer (some (ea A (j + i.toNat * sz))))) w := by
  have := r_ix (w := w) hS ho hx hy ht h0 h1
  rwa [ea_add] at this

theorem r_at1 {T n e sz : Nat} {x y : Operand} {cs : List Value} {ik : IntKind} {i : Int} {v : Value} (hS : Sl N a S) (ho : o.op = .index T x y) (hx : ev S x = some (.agg cs.toArray)) (hy : ev S y = some (.int ik i))
    (ht : arrInfo P T = some (n, e, sz, false)) (h0 : 0 ≤ i) (h1 : i < (n : Int)) (hv : (cs.drop (i.toNat * sz)).take sz = [v]) :
    (execOp a.eval o).run P w = .ok (.value v) w := by
  obtain ⟨hu, hts⟩ := arrInfo_spec ht
  have hsz := run_sizeOf (w := w) hts
  have hag := run_isAgg (w := w) hts
  have hc : cs[i.toNat * sz]? = some v := by
    have h2 : ((cs.drop (i.toNat * sz)).take sz)[0]? = some v := by rw [hv]; rfl
    rw [List.getElem?_take] at h2
    split at h2
    · rw [List.getElem?_drop] at h2; simpa using h2
    · cases h2
  unfold execOp; simp only [ho, hS.ev hx, hS.ev hy]
  refine r_value ?_
  simp [Instr.index, asIntOf, run_underlying hu, h0, h1, hsz, part, hag, hc]

/-! ### parts of slices -/

def slc {α : Type} (xs : List α) (l h : Int) : Option (List α) := if 0 ≤ l ∧ l ≤ h ∧ h ≤ (xs.length : Int) then some ((xs.take h.toNat).drop l.toNat) else none

theorem slc_some {α : Type} {xs ys : List α} {l h : Int} (hh : slc xs l h = some ys) : 0 ≤ l ∧ l ≤ h ∧ h ≤ (xs.length : Int) ∧ ys = (xs.take h.toNat).drop l.toNat ∧ (ys.length : Int) = h - l := by
  unfold slc at hh
  split at hh
  · rename_i h0
    injection hh with hh; subst hh
    refine ⟨h0.1, h0.2.1, h0.2.2, rfl, ?_⟩
    simp only [List.length_drop, List.length_take]; omega
  · cases hh

def slA (A : Option Addr) (cap l sz : Nat) : Option Addr := if cap = l then A else A.map (·.add (l * sz))

theorem slA_zero (A : Option Addr) (cap sz : Nat) : slA A cap 0 sz = A := by
  unfold slA
  split
  · rfl
  · cases A <;> simp [Addr.add]

/-- The front of an own slice. -/
theorem OwD.slc0 {α : Type} {k : Kd α} {T : TypeId} {g : Nat → Nat} {c : Nat} {D : Nat → Prop} {A : Option Addr} {cap : Nat} {xs ys : List α} {h : Int} (hr : OwD k T w g c D A cap xs) (hs : slc xs 0 h = some ys) : OwD k T w g c D (slA A cap (0 : Int).toNat k.sz) (cap - (0 : Int).toNat) ys := by
  obtain ⟨h0, h1, h2, rfl, h3⟩ := slc_some hs
  show OwD k T w g c D (slA A cap 0 k.sz) (cap - 0) _
  rw [slA_zero, Nat.sub_zero]
  simp only [Int.toNat_zero, List.drop_zero] at h3 ⊢
  have hl : (xs.take h.toNat).length = h.toNat := by omega
  have hle : h.toNat ≤ xs.length := by omega
  refine ⟨by have := hr.1; omega, hr.2.1, ?_⟩
  rcases hr.2.2 with hn | ⟨b, arr, rfl, hb, hg, hs, hrow⟩
  · exact .inl hn
  · refine .inr ⟨b, arr, rfl, hb, hg, hs, ?_⟩
    have hmul : h.toNat * k.sz ≤ xs.length * k.sz := Nat.mul_le_mul_right _ hle
    have hlen := hrow.1
    simp only [List.length_take] at hlen
    refine ⟨by simp only [List.length_take, hl]; omega, fun i x hx => ?_⟩
    rw [List.getElem?_take] at hx
    split at hx
    · rename_i hi
      have h4 := hrow.2 i x hx
      have hb2 : (i + 1) * k.sz ≤ h.toNat * k.sz := Nat.mul_le_mul_right _ hi
      rw [Nat.add_mul, Nat.one_mul] at hb2
      have e2 : ((arr.toList.take ((xs.take h.toNat).length * k.sz)).drop (i * k.sz)).take k.sz = ((arr.toList.take (xs.length * k.sz)).drop (i * k.sz)).take k.sz := by
        apply List.ext_getElem?
        intro q
        rw [List.getElem?_take, List.getElem?_take]
        split
        · rw [List.getElem?_drop, List.getElem?_drop, List.getElem?_take, List.getElem?_take, hl, if_pos (by omega), if_pos (by omega)]
        · rfl
      rw [e2]; exact h4
    · cases hx
theorem OwS.slc0 {α : Type} {k : Kd α} {T : TypeId} {g : Nat → Nat} {c : Nat} {A : Option Addr} {cap : Nat} {xs ys : List α} {h : Int} (hr : OwS k T w g c A cap xs) (hs : slc xs 0 h = some ys) : OwS k T w g c (slA A cap (0 : Int).toNat k.sz) (cap - (0 : Int).toNat) ys := OwD.slc0 hr hs

/-- The operands of a slice expression. -/
def ebd (S : List (Nat × Value)) (d : Int) : Option Operand → Option Int
  | none => some d
  | some x => match ev S x with
    | some (.int _ i) => some i
    | _ => none

theorem r_slice {T e sz by_ cap : Nat} {x : Operand} {lo hi : Option Operand} {A : Option Addr} {l h : Int} {α : Type} {xs ys : List α} (hS : Sl N a S) (ho : o.op = .slice T x lo hi none) (hx : ev S x = some (.slice A xs.length cap))
    (ht : elemInfo P T = some (e, sz, by_)) (hl : ebd S 0 lo = some l) (hh : ebd S (xs.length : Int) hi = some h) (hs : slc xs l h = some ys) (hc : xs.length ≤ cap) :
    (execOp a.eval o).run P w = .ok (.value (.slice (slA A cap l.toNat sz) ys.length (cap - l.toNat))) w := by
  obtain ⟨hu, inf, hi2, hs2, _⟩ := elemInfo_spec ht
  obtain ⟨h0, h1, h2, _, h3⟩ := slc_some hs
  unfold execOp; simp only [ho, hS.ev hx]
  refine r_value ?_
  have e1 : ys.length = h.toNat - l.toNat := by omega
  have hlo : ∀ (m : Nat), (l : Int) ≤ m → (match lo.map a.eval with | some v => Instr.sliceBound v m .sliceB | none => pure 0).run P w = .ok l.toNat w := by
    intro m hm
    cases lo with
    | none => simp only [ebd, Option.some.injEq] at hl; subst hl; rfl
    | some y =>
      simp only [ebd] at hl
      split at hl
      · rename_i k i hy
        injection hl with hl; subst hl
        simp [hS.ev hy, Instr.sliceBound, asIntOf, h0, hm]
      · cases hl
  have hhi : (match hi.map a.eval with | some v => Instr.sliceBound v cap .sliceAcap | none => pure xs.length).run P w = .ok h.toNat w := by
    cases hi with
    | none => simp only [ebd, Option.some.injEq] at hh; subst hh; rfl
    | some y =>
      simp only [ebd] at hh
      split at hh
      · rename_i k i hy
        injection hh with hh; subst hh
        have q0 : 0 ≤ i := by omega
        have q1 : i ≤ (cap : Int) := by omega
        simp [hS.ev hy, Instr.sliceBound, asIntOf, q0, q1]
      · cases hh
  have hlo' := hlo h.toNat (by omega)
  have hb : (Instr.sliceBounds true xs.length cap (lo.map a.eval) (hi.map a.eval) none).run P w = .ok (l.toNat, h.toNat, cap) w := by
    unfold Instr.sliceBounds
    cases hlo2 : lo.map a.eval <;> cases hhi2 : hi.map a.eval <;> rw [hlo2] at hlo' <;> rw [hhi2] at hhi <;> simp at hlo' hhi ⊢ <;> simp [hlo', hhi]
  simp [Instr.sliceAt, Instr.slice, run_underlying hu, hb, sizeOf, typeInfo, hi2, hs2, slA, e1]

end

/-! ### elements that lead further -/

/-- A slice's kind as an element. -/
def kslice {α : Type} (k : Kd α) (hk : 0 < k.sz) : Kd (List α) where
  sz := 1
  R := fun w g C xs cs => ∃ A cap, cs = [.slice A xs.length cap] ∧ RdS k w g C A cap xs
  len := by rintro w g C x cs ⟨A, cap, rfl, _⟩; rfl
  one := by rintro w g C x cs ⟨A, cap, rfl, _⟩ v hv; simp at hv; subst hv; rfl
  fr := by rintro M w g w' g' C x cs F hC ⟨A, cap, rfl, h⟩; exact ⟨A, cap, rfl, RdS.fr h F hk hC⟩
  re := by rintro w g g' C C' x cs h ⟨A, cap, rfl, h'⟩; exact ⟨A, cap, rfl, RdX.re h' hk h h⟩

/-- An element's cells, at the place o behind A. -/
def El (w : World) (g : Nat → Nat) (C : Nat → Prop) (A : Option Addr) (o : Nat) (cs : List Value) : Prop := (∀ j u, cs[j]? = some u → w.cell? (ea A (o + j)) = some u) ∧ C (g (ea A 0).block) ∧ 0 < cs.length

theorem El.cell {w : World} {g : Nat → Nat} {C : Nat → Prop} {A : Option Addr} {o : Nat} {cs : List Value} (h : El w g C A o cs) {j : Nat} {u : Value} (hj : cs[j]? = some u) : w.cell? (ea A (o + j)) = some u := h.1 j u hj

theorem El.fr {M C : Nat → Prop} {w w' : World} {g g' : Nat → Nat} {A : Option Addr} {o : Nat} {cs : List Value} (h : El w g C A o cs) (F : Fr M w g w' g') (hC : ∀ c, C c → ¬ M c) : El w' g' C A o cs := by
  obtain ⟨h1, h2, h3⟩ := h
  have h0 := h1 0 _ (List.getElem?_eq_getElem h3)
  have hb := World.block_lt_of_cell? w _ h0
  have hbl : ∀ n, (ea A n).block = (ea A 0).block := fun n => by simp [ea, add_block]
  rw [hbl] at hb
  refine ⟨fun j u hu => F.cell (h1 j u hu) (by rw [hbl]; exact hC _ h2), ?_, h3⟩
  rw [(F.block _ hb (hC _ h2)).2]; exact h2

theorem El.of {α : Type} {k : Kd α} {w : World} {g : Nat → Nat} {C D : Nat → Prop} {A : Option Addr} {cap : Nat} {xs : List α} {i : Int} {x : α} (hr : RdX k w g C D A cap xs) (hi : idx xs i = some x) (hsz : 0 < k.sz) : ∃ cs, k.R w g D x cs ∧ El w g C A (i.toNat * k.sz) cs := by
  obtain ⟨cs, hR, hc, hC, _⟩ := hr.at_ hi
  exact ⟨cs, hR, hc, hC, by rw [k.len hR]; exact hsz⟩

theorem El.cells_off {w : World} {g : Nat → Nat} {C : Nat → Prop} {A : Option Addr} {p : Nat} {cs : List Value} (h : El w g C A p cs) (o n : Nat) : ∀ j u, ((cs.drop o).take n)[j]? = some u → w.cell? ((ea A (p + o)).add j) = some u := by
  intro j u hu
  rw [List.getElem?_take] at hu
  split at hu
  · rw [List.getElem?_drop] at hu
    have := h.cell hu
    rwa [ea_add, Nat.add_assoc]
  · cases hu

/-- A part of a block or of an element at a place that is known only at run time. -/
theorem Bx.at_ {w : World} {g : Nat → Nat} {c b : Nat} {T : TypeId} {cs es : List Value} {p n : Nat} (h : Bx w g c b T cs) (he : (cs.drop p).take n = es) {j : Nat} {u : Value} (hj : es[j]? = some u) : w.cell? ⟨b, p + j, none⟩ = some u := by
  subst he
  rw [List.getElem?_take] at hj
  split at hj
  · rw [List.getElem?_drop] at hj; exact h.cell hj
  · cases hj
theorem El.at_ {w : World} {g : Nat → Nat} {C : Nat → Prop} {A : Option Addr} {f o q n : Nat} {cs es : List Value} (h : El w g C A f cs) (he : (cs.drop (o + q)).take n = es) {j : Nat} {u : Value} (hj : es[j]? = some u) : w.cell? (ea A (f + o + q + j)) = some u := by
  subst he
  rw [List.getElem?_take] at hj
  split at hj
  · rw [List.getElem?_drop] at hj
    have := h.cell hj
    rwa [show f + o + q + j = f + (o + q + j) from by omega]
  · cases hj
/-- Of a kind whose fact speaks of no memory. -/
theorem OwD.rdf {α : Type} {k : Kd α} {T : TypeId} {w : World} {g : Nat → Nat} {c : Nat} {D : Nat → Prop} {A : Option Addr} {cap : Nat} {xs : List α} (hk : ∀ (w : World) (g : Nat → Nat) (C C' : Nat → Prop) x cs, k.R w g C x cs → k.R w g C' x cs) (h : OwD k T w g c D A cap xs) : RdS k w g (· = c) A cap xs := by
  refine ⟨h.1, fun i x hx => ?_⟩
  obtain ⟨ad, cs, e, h1, h2, h3⟩ := h.rdx.2 i x hx
  exact ⟨ad, cs, e, h1, hk _ _ _ _ _ _ h2, h3⟩

theorem recol_eq (g : Nat → Nat) (c1 c2 b : Nat) : recol g c1 c2 b = if g b = c1 then c2 else g b := rfl

theorem RdS.recolC {α : Type} {k : Kd α} {w : World} {g : Nat → Nat} {C C' : Nat → Prop} {A : Option Addr} {cap : Nat} {xs : List α} (h : RdS k w g C A cap xs) (hsz : 0 < k.sz) (c1 c2 : Nat) (hC : ∀ q, C q → C' (if q = c1 then c2 else q)) : RdS k w (recol g c1 c2) C' A cap xs :=
  RdX.re h hsz (fun b _ hb => hC _ hb) (fun b _ hb => hC _ hb)
theorem c_ret0 {P : Program} {a : Act} {w : World} {N : Nat} {S : List (Nat × Value)} {fn : Func} {R : Ending → World → Prop} (hS : Sl N a S) (hr : fn.results = #[]) (h : R (.returned (.tuple #[])) w) : bodyPost P fn R .ret a w := by
  refine bodyPost_ret (v := .tuple #[]) ?_ hS.defs h
  simp [results, hr]

/-- The body's end, of a function without results. -/
theorem c_end0 {P : Program} {a : Act} {w : World} {N : Nat} {S : List (Nat × Value)} {fn : Func} {R : Ending → World → Prop} (hS : Sl N a S) (hr : fn.results = #[]) (h : R (.returned (.tuple #[])) w) : bodyPost P fn R .normal a w := by
  exact c_ret0 hS hr h

theorem inBlock_exit {i : Nat} {Q : Exit → Act → World → Prop} {a : Act} {w : World} (h : Q .normal a w) : Exit.inBlock i Q (.exit i) a w := by
  simp only [Exit.inBlock, if_true]; exact h
theorem inBlock_out {i j : Nat} {Q : Exit → Act → World → Prop} {a : Act} {w : World} (hn : ¬ j = i) (h : Q (.exit j) a w) : Exit.inBlock i Q (.exit j) a w := by
  simp only [Exit.inBlock, if_neg hn]; exact h
theorem then_exit {i : Nat} {K : Act → World → Prop} {Q : Exit → Act → World → Prop} {a : Act} {w : World} (h : Q (.exit i) a w) : Exit.then K Q (.exit i) a w := h
theorem inBlock_normal {i : Nat} {Q : Exit → Act → World → Prop} {a : Act} {w : World} (h : Q .normal a w) : Exit.inBlock i Q .normal a w := h

theorem st_effW {P : Program} {ops : Array Oper} {Q : Exit → Act → World → Prop} {a : Act} {w : World} {rest : List Oper} {o : Oper} {N : Nat} {S : List (Nat × Value)} {d : Nat} {R : Value → World → (Nat → Nat) → Prop} (hS : Sl N a S) (hw : Region.wanted o (yielded ops a.tmps) = true) (hd : o.dst = some d) (hN : Nat.blt d N = true) (hr : Eff P a o w R)
    (k : ∀ v a' w' g', R v w' g' → Sl N a' ((d, v) :: S) → wpList P ops Q rest a' w') : wpList P ops Q (o :: rest) a w := by
  obtain ⟨v, w', g', h1, h2⟩ := hr
  unfold wpList
  rw [if_pos hw]
  refine .inl ?_
  unfold Oper.wp
  rw [h1, Oper.upon_value, hd]
  exact k v _ w' g' h2 (hS.put hN v)

end Go.Proofs.Ytfhhklkmbcnhnaa.Sim

namespace Go.Proofs.Ytfhhklkmbcnhnaa.Sim
open Go
set_option linter.unusedVariables false

/-- What type t reads as is a value of kind k. -/
def Opens {α : Type} (P : Program) (t : TypeId) (k : Kd α) (wf : α → Prop) : Prop :=
  ∀ {H : Type} (enc : TypeId × Value → H) (w : World) (held : Bool) (fuel : Nat) (cs : List Value) (x : DataW H × List MemPlace),
    DataW.trod enc P w 0 (fun _ => true) held fuel t cs = some x → ∃ a : α, k.R w (fun _ => 0) (· = 0) a cs ∧ wf a

theorem Opens.int {P : Program} {t : TypeId} {k : IntKind} (ht : P.underlying t = some (.int k)) : Opens P t (kint k) (fun n => (Lit.int k n).wf = true) := by
  intro H enc w held fuel cs x h
  obtain ⟨n, rfl, _, hw⟩ := DataW.trod_int ht h
  exact ⟨n, rfl, hw⟩

theorem Opens.bool {P : Program} {t : TypeId} (ht : P.underlying t = some .bool) : Opens P t kbool (fun _ => True) := by
  intro H enc w held fuel cs x h
  obtain ⟨n, rfl, _⟩ := DataW.trod_bool ht h
  exact ⟨n, rfl, trivial⟩

theorem Opens.slice {α : Type} {P : Program} {t e : TypeId} {k : Kd α} {wf : α → Prop} (ht : P.underlying t = some (.slice e)) (hk : 0 < k.sz) (hc : P.cellsOf e = k.sz) (he : Opens P e k wf) :
    Opens P t (kslice k hk) (fun xs => xs.length ≤ maxLen ∧ ∀ x ∈ xs, wf x) := by
  intro H enc w held fuel cs x h
  rcases DataW.trod_slice ht h with ⟨rfl, _⟩ | ⟨a, len, cap, elems, rest, n, _, rfl, _, _, hl, hm, hlen, hel, _, _⟩
  · exact ⟨[], ⟨none, 0, rfl, RdS.nil _ _ _ _⟩, by simp, by simp⟩
  · have each : ∀ i : Fin len, ∃ y cs', w.cells? 0 (a.add (i.val * k.sz)) k.sz = some cs' ∧ k.R w (fun _ => 0) (· = 0) y cs' ∧ wf y := by
      intro i
      have h1 := hel i.val i.isLt
      rw [hc, List.getElem?_eq_getElem (by rw [hlen]; exact i.isLt), Option.bind_eq_some_iff] at h1
      obtain ⟨cs', h2, h3⟩ := h1
      obtain ⟨y, h4, h5⟩ := he enc w held n cs' _ h3
      exact ⟨y, cs', h2, h4, h5⟩
    refine ⟨List.ofFn (fun i => (each i).choose), ⟨some a, cap, by simp, by simpa using hl, fun i y hy => ?_⟩, by simp; omega, fun y hy => ?_⟩
    · rw [List.getElem?_ofFn] at hy
      split at hy
      · rename_i hi
        injection hy with hy
        obtain ⟨cs', h1, h2, h3⟩ := (each ⟨i, hi⟩).choose_spec
        rw [hy] at h2
        refine ⟨a, cs', rfl, rfl, h2, fun j u hu => ?_⟩
        obtain ⟨_, hlen', hcell⟩ := World.cells?_some h1
        have hj : j < k.sz := by
          rcases Nat.lt_or_ge j k.sz with q | q
          · exact q
          · rw [List.getElem?_eq_none (by rw [k.len h2]; exact q)] at hu; cases hu
        have h4 := hcell j hj
        rw [add_add] at h4
        exact h4.trans hu
      · cases hy
    · obtain ⟨i, hi⟩ := List.mem_ofFn.1 hy
      obtain ⟨cs', h1, h2, h3⟩ := (each i).choose_spec
      rw [hi] at h3
      exact h3

theorem trod_field {H : Type} {enc : TypeId × Value → H} {P : Program} {w : World} {held : Bool} {m : Nat} {fs : Array Field} {cs : List Value} {xs : List (DataW H × List MemPlace)}
    (hf : ∀ (i : Nat) (f : Field), fs[i]? = some f → DataW.trod enc P w 0 (fun _ => true) held m f.type ((cs.drop f.offset).take (P.cellsOf f.type)) = xs[i]?) (hlen : xs.length = fs.size) (i : Nat) {f : Field} (hi : fs[i]? = some f) {n : Nat} (hn : P.cellsOf f.type = n) :
    ∃ y, DataW.trod enc P w 0 (fun _ => true) held m f.type ((cs.drop f.offset).take n) = some y := by
  have h := hf i f hi
  rw [hn] at h
  have hlt : i < xs.length := by
    rw [hlen]; exact (Array.getElem?_eq_some_iff.1 hi).1
  rw [List.getElem?_eq_getElem hlt] at h
  exact ⟨_, h⟩

theorem trod_elem {H : Type} {enc : TypeId × Value → H} {P : Program} {w : World} {held : Bool} {m e n sz : Nat} {cs : List Value} {xs : List (DataW H × List MemPlace)}
    (hf : ∀ (i : Nat), i < n → DataW.trod enc P w 0 (fun _ => true) held m e ((cs.drop (i * P.cellsOf e)).take (P.cellsOf e)) = xs[i]?) (hlen : xs.length = n) (i : Nat) (hi : i < n) (hn : P.cellsOf e = sz) :
    ∃ y, DataW.trod enc P w 0 (fun _ => true) held m e ((cs.drop (i * sz)).take sz) = some y := by
  have h := hf i hi
  rw [hn] at h
  rw [List.getElem?_eq_getElem (by rw [hlen]; exact hi)] at h
  exact ⟨_, h⟩

theorem Fr.below {w w' : World} {g' : Nat → Nat} (h : Fr (fun q => 1 ≤ q) w (fun _ => 0) w' g') : RowKit.Below w.heap.size w w' :=
  ⟨h.os, h.tape, h.output, h.size, fun b hb => (h.block b hb (by simp)).1⟩

end Go.Proofs.Ytfhhklkmbcnhnaa.Sim

namespace Go.Proofs.Ytfhhklkmbcnhnaa.Sim
open Go
set_option linter.unusedVariables false

section
variable {P : Program} {a : Act} {w : World} {o : Oper} {N : Nat} {S : List (Nat × Value)}

/-! ### '==' of flat structs -/

theorem eqf_last {d : Nat} {xs ys : Array Value} {f : Field} {u v : Value} {r : Bool} (hn : (f.name == "_") = false) (ha : (part f.type xs f.offset).run P w = .ok u w) (hb : (part f.type ys f.offset).run P w = .ok v w) (he : (Op.equalIn d f.type u v).run P w = .ok r w) : (Op.eqFields d xs ys [f]).run P w = .ok r w := by
  have hn' : f.name ≠ "_" := by simpa using hn
  simp only [Op.eqFields, if_pos hn', Sem.run_bind, ha, hb, he, Result.andThen_ok]
  cases r <;> simp
theorem eqf_cons {d : Nat} {xs ys : Array Value} {f : Field} {fs : List Field} {u v : Value} {r s : Bool} (hn : (f.name == "_") = false) (ha : (part f.type xs f.offset).run P w = .ok u w) (hb : (part f.type ys f.offset).run P w = .ok v w) (he : (Op.equalIn d f.type u v).run P w = .ok r w) (hr : (Op.eqFields d xs ys fs).run P w = .ok s w) : (Op.eqFields d xs ys (f :: fs)).run P w = .ok (r && s) w := by
  have hn' : f.name ≠ "_" := by simpa using hn
  rw [Op.eqFields]
  simp only [if_pos hn', Sem.run_bind, ha, hb, he, Result.andThen_ok]
  cases r
  · simp
  · simpa using hr
theorem eqA_of {d : Nat} {xs ys : Array Value} {t : TypeId} {fs : Array Field} {r : Bool} (hu : P.underlying t = some (.struct fs)) (hp : P.stoodInHeld t = false) (h : (Op.eqFields d xs ys fs.toList).run P w = .ok r w) : (Op.equalIn (d + 1) t (.agg xs) (.agg ys)).run P w = .ok r w := by
  have hf : P.fieldsOf t = fs := by simp [Program.fieldsOf, hu]
  rw [run_equalIn_struct (P := P) w d t xs ys (by rw [hf]; exact hu) hp, hf]
  exact h

/-! ### maps that are used as sets -/

/-- A map with the keys ks, every value 'true'. -/
def MapS {α : Type} (enc : α → Value) (w : World) (g : Nat → Nat) (c b : Nat) (ks : List α) : Prop :=
  ∃ es clock, w.heap[b]? = some (.map es clock) ∧ g b = c ∧ es.toList.map (fun e => e.key) = ks.map enc ∧ ∀ e ∈ es.toList, e.val = .bool true

theorem MapS.fr {α : Type} {enc : α → Value} {M : Nat → Prop} {w' : World} {g g' : Nat → Nat} {c b : Nat} {ks : List α} (h : MapS enc w g c b ks) (F : Fr M w g w' g') (hc : ¬ M c) : MapS enc w' g' c b ks := by
  obtain ⟨es, clock, hb, hg, hk, hv⟩ := h
  have hlt := (Array.getElem?_eq_some_iff.1 hb).1
  obtain ⟨e1, e2⟩ := F.block b hlt (by rw [hg]; exact hc)
  exact ⟨es, clock, e1.trans hb, e2.trans hg, hk, hv⟩

/-- What is asked of a key type. -/
structure KeyOk {α : Type} [DecidableEq α] (P : Program) (K : TypeId) (enc : α → Value) : Prop where
  st : ∃ fs, P.underlying K = some (.struct fs)
  eq : ∀ (x y : α) (w : World), (Op.equal K (enc x) (enc y)).run P w = .ok (decide (x = y)) w
  ck : ∀ (b : Bool) (x : α) (w : World), (Instr.checkKey b 10000 K (enc x)).run P w = .ok () w

theorem run_findAsking {α : Type} [DecidableEq α] {K : TypeId} {enc : α → Value} (hk : KeyOk P K enc) (x : α) : ∀ (es : List MapEntry) (ks : List α) (i : Nat), es.map (fun e => e.key) = ks.map enc → (∀ e ∈ es, e.val = .bool true) →
    ∃ r, (Instr.findAsking K (enc x) es i).run P w = .ok r w ∧ ((x ∈ ks ∧ ∃ j, r = some (j, .bool true)) ∨ (x ∉ ks ∧ r = none))
  | [], ks, i, h, _ => by
    have : ks = [] := by cases ks with | nil => rfl | cons _ _ => simp at h
    subst this
    exact ⟨none, rfl, .inr ⟨by simp, rfl⟩⟩
  | e :: es, ks, i, h, hv => by
    cases ks with
    | nil => simp at h
    | cons k ks =>
      simp only [List.map_cons, List.cons.injEq] at h
      have hve := hv e (List.mem_cons_self ..)
      unfold Instr.findAsking
      simp only [Sem.run_bind, h.1, hk.eq, Result.andThen_ok]
      by_cases e1 : x = k
      · subst e1
        exact ⟨some (i, .bool true), by simp [hve], .inl ⟨List.mem_cons_self .., i, rfl⟩⟩
      · obtain ⟨r, h1, h2⟩ := run_findAsking hk x es ks (i + 1) h.2 (fun e he => hv e (List.mem_cons_of_mem _ he))
        refine ⟨r, by simp [e1, h1], ?_⟩
        simpa [e1] using h2

theorem run_findKeyS {α : Type} [DecidableEq α] {K : TypeId} {enc : α → Value} (hk : KeyOk P K enc) (x : α) (es : List MapEntry) (ks : List α) (h : es.map (fun e => e.key) = ks.map enc) (hv : ∀ e ∈ es, e.val = .bool true) :
    ∃ r, (Instr.findKey K (enc x) es).run P w = .ok r w ∧ ((x ∈ ks ∧ ∃ j, r = some (j, .bool true)) ∨ (x ∉ ks ∧ r = none)) := by
  obtain ⟨fs, hs⟩ := hk.st
  unfold Instr.findKey
  simp only [Sem.run_bind, run_underlying hs, Result.andThen_ok]
  cases es with
  | nil =>
    have : ks = [] := by cases ks with | nil => rfl | cons _ _ => simp at h
    subst this
    exact ⟨none, by simp [Instr.findNow], .inr ⟨by simp, rfl⟩⟩
  | cons e es =>
    have : Instr.findNow (.struct fs) (enc x) (e :: es) 0 = none := by
      unfold Instr.findNow
      simp [Instr.sameNow]
    rw [this]
    exact run_findAsking hk x (e :: es) ks 0 h hv

def mapInfo (P : Program) (T : Nat) : Option (Nat × Nat) :=
  match P.underlying T with
  | some (.map k e) => match P.underlying e with
    | some .bool => some (k, e)
    | _ => none
  | _ => none
theorem mapInfo_spec {T k e : Nat} (h : mapInfo P T = some (k, e)) : P.underlying T = some (.map k e) ∧ P.underlying e = some .bool := by
  unfold mapInfo at h
  split at h
  · rename_i k' e' hu
    split at h
    · rename_i he
      simp only [Option.some.injEq, Prod.mk.injEq] at h
      obtain ⟨rfl, rfl⟩ := h
      exact ⟨hu, he⟩
    · cases h
  · cases h

theorem r_lookup {α : Type} [DecidableEq α] {enc : α → Value} {T K E b c : Nat} {x y : Operand} {g : Nat → Nat} {k : α} {ks : List α} (hS : Sl N a S) (ho : o.op = .lookup T x y false) (hx : ev S x = some (.map (some b))) (hy : ev S y = some (enc k))
    (ht : mapInfo P T = some (K, E)) (hz : (P.info? E).bind (·.zero) = some (.bool false)) (hk : KeyOk P K enc) (hm : MapS enc w g c b ks) : (execOp a.eval o).run P w = .ok (.value (.bool (decide (k ∈ ks)))) w := by
  obtain ⟨hu, he⟩ := mapInfo_spec ht
  obtain ⟨es, clock, hb, _, hkeys, hv⟩ := hm
  obtain ⟨r, h1, h2⟩ := run_findKeyS (w := w) hk k es.toList ks hkeys hv
  unfold execOp
  simp only [ho, hS.ev hx, hS.ev hy]
  refine r_value ?_
  rcases h2 with ⟨h3, j, rfl⟩ | ⟨h3, rfl⟩
  · simp [Instr.lookup, run_underlying hu, MapKept.run_getObj_map hb, hk.ck, h1, h3]
  · obtain ⟨i, hi, hz2⟩ := Option.bind_eq_some_iff.1 hz
    simp [Instr.lookup, run_underlying hu, MapKept.run_getObj_map hb, hk.ck, h1, h3, zeroValue, typeInfo, hi, hz2]

theorem e_makeMap {α : Type} (enc : α → Value) {T : Nat} (c : Nat) (g : Nat → Nat) (_hS : Sl N a S) (ho : o.op = .makeMap T none) :
    Eff P a o w fun v w' g' => (∃ b, v = .map (some b) ∧ MapS enc w' g' c b ([] : List α)) ∧ Fr (fun _ => False) w g w' g' := by
  refine ⟨.map (some w.heap.size), w.alloc (.map #[] 0), dye g w.heap.size c, ?_, ⟨w.heap.size, rfl, ⟨#[], 0, heap_alloc_new w _, dye_same g _ c, rfl, by simp⟩⟩, Fr.alloc _ w g _ c⟩
  unfold execOp
  simp only [ho]
  refine r_value ?_
  simp only [Option.map_none]
  rfl

theorem Fr.setObj {M : Nat → Prop} (w : World) (g : Nat → Nat) (b : Nat) (ob : Obj) (h : M (g b)) : Fr M w g { w with heap := w.heap.setIfInBounds b ob } g :=
  ⟨rfl, rfl, rfl, by simp, fun b' _ hm => ⟨by
    have : b ≠ b' := fun e => hm (e ▸ h)
    simp [this], rfl⟩⟩

theorem e_mapUpdate {α : Type} [DecidableEq α] {enc : α → Value} {T K E b c : Nat} {x y z : Operand} {k : α} {ks : List α} (g : Nat → Nat) (hS : Sl N a S) (ho : o.op = .mapUpdate T x y z) (hx : ev S x = some (.map (some b))) (hy : ev S y = some (enc k)) (hz : ev S z = some (.bool true))
    (ht : mapInfo P T = some (K, E)) (hk : KeyOk P K enc) (hm : MapS enc w g c b ks) (hn : decide (k ∈ ks) = false) :
    EffS P a o w fun w' g' => MapS enc w' g' c b (ks ++ [k]) ∧ Fr (fun q => q = c) w g w' g' := by
  obtain ⟨hu, he⟩ := mapInfo_spec ht
  obtain ⟨es, clock, hb, hg, hkeys, hv⟩ := hm
  obtain ⟨r, h1, h2⟩ := run_findKeyS (w := w) hk k es.toList ks hkeys hv
  have hlt := (Array.getElem?_eq_some_iff.1 hb).1
  rcases h2 with ⟨h3, _⟩ | ⟨h3, rfl⟩
  · simp [h3] at hn
  refine ⟨{ w with heap := w.heap.setIfInBounds b (.map (es.push { key := enc k, val := .bool true, born := clock }) (clock + 1)) }, g, ?_, ⟨es.push { key := enc k, val := .bool true, born := clock }, clock + 1, ?_, hg, ?_, ?_⟩, Fr.setObj w g b _ hg⟩
  · unfold execOp
    simp only [ho, hS.ev hx, hS.ev hy, hS.ev hz]
    simp [Instr.mapUpdate, run_underlying hu, MapKept.run_getObj_map hb, hk.ck, h1, MapKept.run_setObj_map _ hb]
  · simp [hlt]
  · simp [hkeys]
  · intro e he
    simp only [Array.toList_push, List.mem_append, List.mem_singleton] at he
    rcases he with he | rfl
    · exact hv e he
    · rfl

/-! ### objects that may be nil -/

theorem r_optEq {t t' : Nat} {x : Operand} {p : Option Addr} {b : Bool} (hS : Sl N a S) (ho : o.op = .binOp .eql t x (.const (.pointer none)) t') (hx : ev S x = some (.pointer p)) (hu : P.underlying t = some (.pointer (P.pointee t))) (hb : p.isNone = b) :
    (execOp a.eval o).run P w = .ok (.value (.bool b)) w := hb ▸ r_ptrEq hS ho hx hu
theorem Bx.recol {g : Nat → Nat} {c b : Nat} {T : TypeId} {cs : List Value} (h : Bx w g c b T cs) (d : Nat) : Bx w (recol g c d) d b T cs :=
  ⟨h.1, by rw [recol_eq, if_pos h.2]⟩

/-! ### slices compared with nil -/

theorem r_slNil {T t' : Nat} {x : Operand} {A : Option Addr} {n cap E : Nat} (hS : Sl N a S) (ho : o.op = .binOp .eql T x (.const (.slice none 0 0)) t') (hx : ev S x = some (.slice A n cap)) (hu : P.underlying T = some (.slice E)) : (execOp a.eval o).run P w = .ok (.value (.bool A.isNone)) w := by
  have hc : a.eval (.const (.slice none 0 0)) = .slice none 0 0 := rfl
  unfold execOp
  simp only [ho, hS.ev hx, hc, eqGuard_at_slice]
  refine r_value ?_
  have : (Op.equal T (.slice A n cap) (.slice none 0 0)).run P w = .ok A.isNone w := by
    show (Op.equalIn (9999 + 1) T (.slice A n cap) (.slice none 0 0)).run P w = .ok A.isNone w
    rw [Op.equalIn]
    simp only [Sem.run_bind, run_underlying hu, Result.andThen_ok]
    cases A <;> rfl
  simp [binOp, this]

theorem RdS.none_ {α : Type} {k : Kd α} {g : Nat → Nat} {C : Nat → Prop} {A : Option Addr} {cap : Nat} {xs : List α} (h : RdS k w g C A cap xs) (hn : A.isNone = true) : xs = [] := by
  cases xs with
  | nil => rfl
  | cons x t =>
    obtain ⟨ad, _, e, _⟩ := h.2 0 x rfl
    subst e
    cases hn

/-! ### interface values -/

def concrete (P : Program) (T : Nat) : Bool := match P.underlying T with | some (.interface _) => false | some _ => true | none => false
theorem r_mkif {T : Nat} {x : Operand} {v : Value} (hS : Sl N a S) (ho : o.op = .makeInterface T x) (hx : ev S x = some v) (hc : concrete P T = true) : (execOp a.eval o).run P w = .ok (.value (.iface T v)) w := by
  unfold concrete at hc
  unfold execOp
  simp only [ho, hS.ev hx]
  refine r_value ?_
  split at hc
  · cases hc
  · rename_i d hd hu
    unfold Instr.makeInterface
    simp only [Sem.run_bind, run_underlying hu, Result.andThen_ok]
    cases d <;> first | rfl | exact absurd rfl (hd _)
  · cases hc
theorem r_assert {T X : Nat} {x : Operand} {v : Value} (hS : Sl N a S) (ho : o.op = .typeAssert x X T true) (hx : ev S x = some (.iface T v)) (hc : concrete P T = true) : (execOp a.eval o).run P w = .ok (.value (.tuple #[v, .bool true])) w := by
  unfold concrete at hc
  unfold execOp
  simp only [ho, hS.ev hx]
  refine r_value ?_
  split at hc
  · cases hc
  · rename_i d hd hu
    unfold Instr.typeAssert
    simp only [Sem.run_bind, run_underlying hu, Result.andThen_ok]
    cases d <;> first | simp | exact absurd rfl (hd _)
  · cases hc

/-- A method of a type without embedding: the function, and whether it takes the pointer. -/
def methOf (P : Program) (T : Nat) (name : String) : Option (Nat × Bool) :=
  match P.info? T with
  | some i => match i.methods.find? (·.name == name) with
    | some m => if m.path.isEmpty then m.func else none
    | none => none
  | none => none
theorem methOf_spec {T f : Nat} {name : String} {b : Bool} (h : methOf P T name = some (f, b)) : ∃ i m, P.info? T = some i ∧ i.methods.find? (·.name == name) = some m ∧ m.path = #[] ∧ m.func = some (f, b) := by
  unfold methOf at h
  split at h
  · rename_i i hi
    split at h
    · rename_i m hm
      split at h
      · rename_i hp
        exact ⟨i, m, hi, hm, by simpa using hp, h⟩
      · cases h
    · cases h
  · cases h

theorem run_method {T E f n : Nat} {name : String} {b : Bool} {ad : Addr} {v : Value} (hm : methOf P T name = some (f, b)) (hu : P.underlying T = some (.pointer E)) (h : b = true ∧ v = .pointer (some ad) ∨ b = false ∧ tsz P E = some (n, false) ∧ w.cell? ad = some v) (k : Nat) :
    (method (k + 1) T (.pointer (some ad)) name).run P w = .ok (f, v) w := by
  obtain ⟨i, m, hi, hf, hp, hfn⟩ := methOf_spec hm
  have hi' : (typeInfo T).run P w = .ok i w := by simp [typeInfo, hi]
  unfold method
  simp only [Sem.run_bind, hi', Result.andThen_ok, hf, hp, List.isEmpty_toArray]
  simp only [follow, Sem.run_pure, Result.andThen_ok, hfn]
  rcases h with ⟨rfl, rfl⟩ | ⟨rfl, ht, hc⟩
  · simp [receiverAt, run_underlying hu, Place.get]
  · have hag := run_isAgg (w := w) ht
    have hn : ∀ s, (Builtin.ssaWrapNilChk_ #[T] T #[.pointer (some ad), strVal "", strVal s]).run P w = .ok (.pointer (some ad)) w := fun _ => rfl
    have hl : (loadVar E ad).run P w = .ok v w := by simp [loadVar, hag, load, Sem.run, hc]
    unfold receiverAt
    simp only [Sem.run_bind, run_underlying hu, Result.andThen_ok, Place.get, Sem.run_pure, List.isEmpty_nil, eq_self, if_true, hn, asAddr, hl]

theorem r_invoke {T E f n : Nat} {name : String} {b : Bool} {ad : Addr} {v : Value} {x : Operand} {xs : List Operand} {vs : List Value} {ts : Array TypeId} (hS : Sl N a S) (ho : o.op = .call { callee := .invoke x name, args := xs.toArray, argTypes := ts }) (hx : ev S x = some (.iface T (.pointer (some ad)))) (hxs : evs S xs = some vs)
    (hm : methOf P T name = some (f, b)) (hu : P.underlying T = some (.pointer E)) (hf : callOk P f = true) (h : b = true ∧ v = .pointer (some ad) ∨ b = false ∧ tsz P E = some (n, false) ∧ w.cell? ad = some v) :
    (execOp a.eval o).run P w = .ok (.enter f (v :: vs).toArray) w := by
  have h1 := evs_spec hS hxs
  obtain ⟨k, hk⟩ : ∃ k, P.types.size + Made.depth = k + 1 := ⟨P.types.size + Made.depth - 1, by simp only [Made.depth]; omega⟩
  have h2 := run_method (w := w) hm hu h k
  have h3 : (invoke (.fn (.method name) #[]) (#[.iface T (.pointer (some ad))] ++ (xs.toArray.map a.eval))).run P w = .ok (.enter f (v :: vs).toArray) w := by
    have h4 : (xs.toArray.map a.eval) = vs.toArray := by simp [h1]
    rw [h4]
    have h5 : (callMethod (.iface T (.pointer (some ad))) name vs.toArray).run P w = .ok (.enter f (v :: vs).toArray) w := by
      simp only [callMethod, Sem.run_bind, run_program, Result.andThen_ok, hk, h2]
      have := run_callFunc (w := w) (args := #[v] ++ vs.toArray) hf
      simpa using this
    unfold invoke
    simp only [show (#[Value.iface T (.pointer (some ad))] ++ vs.toArray)[0]? = some (.iface T (.pointer (some ad))) from by simp, show (#[Value.iface T (.pointer (some ad))] ++ vs.toArray).extract 1 (#[Value.iface T (.pointer (some ad))] ++ vs.toArray).size = vs.toArray from by simp]
    exact h5
  unfold execOp
  simp only [ho, Sem.run_bind, resolve, hS.ev hx, Sem.run_pure, Result.andThen_ok]
  exact h3

end

end Go.Proofs.Ytfhhklkmbcnhnaa.Sim

namespace Go.Proofs.Ytfhhklkmbcnhnaa.Sim
open Go
set_option linter.unusedVariables false

/-- The fact of the kind speaks of no memory. -/
def Pl {α : Type} (k : Kd α) : Prop := ∀ (w w' : World) (g g' : Nat → Nat) (C C' : Nat → Prop) x cs, k.R w g C x cs → k.R w' g' C' x cs

/-- A slice of own slices: the headers hs, the contents xss; at the places in H the inner slice is held elsewhere. -/
structure OwM {α : Type} (k : Kd α) (T E : TypeId) (w : World) (g : Nat → Nat) (c : Nat) (A : Option Addr) (cap : Nat) (hs : List (Option Addr × Nat)) (xss : List (List α)) (H : Nat → Prop) : Prop where
  le : xss.length ≤ cap
  cm : cap ≤ maxLen
  hl : hs.length = xss.length
  outer : (A = none ∧ cap = 0) ∨ ∃ (b : Nat) (arr : Array Value), A = some ⟨b, 0, none⟩ ∧ w.heap[b]? = some (.cells arr T (0, 0)) ∧ g b = c ∧ arr.size = cap ∧ ∀ (i : Nat) (h : Option Addr × Nat) (xs : List α), hs[i]? = some h → xss[i]? = some xs → arr[i]? = some (Value.slice h.1 xs.length h.2)
  inner : ∀ (i : Nat) (h : Option Addr × Nat) (xs : List α), ¬ H i → hs[i]? = some h → xss[i]? = some xs → OwS k E w g (c + 1) h.1 h.2 xs
  apart : ∀ (i j : Nat) (hi hj : Option Addr × Nat) (bi bj : Addr), ¬ H i → ¬ H j → i ≠ j → hs[i]? = some hi → hs[j]? = some hj → hi.1 = some bi → hj.1 = some bj → bi.block ≠ bj.block

section
variable {P : Program} {a : Act} {w : World} {o : Oper} {N : Nat} {S : List (Nat × Value)} {α : Type} {k : Kd α} {T E : TypeId} {g : Nat → Nat} {c d : Nat} {A : Option Addr} {cap : Nat} {hs : List (Option Addr × Nat)} {xss : List (List α)} {H : Nat → Prop}

theorem OwM.fr {M : Nat → Prop} {w' : World} {g' : Nat → Nat} (m : OwM k T E w g c A cap hs xss H) (F : Fr M w g w' g') (h0 : ¬ M c) (h1 : ¬ M (c + 1)) (h2 : ¬ M (c + 2)) : OwM k T E w' g' c A cap hs xss H := by
  refine ⟨m.le, m.cm, m.hl, ?_, fun i h xs hn hi hx => OwD.fr (m.inner i h xs hn hi hx) F h1 (fun q e => by subst e; exact h2), m.apart⟩
  rcases m.outer with h | ⟨b, arr, rfl, hb, hg, hs', hc⟩
  · exact .inl h
  · have hlt := (Array.getElem?_eq_some_iff.1 hb).1
    obtain ⟨e1, e2⟩ := F.block b hlt (by rw [hg]; exact h0)
    exact .inr ⟨b, arr, rfl, e1.trans hb, e2.trans hg, hs', hc⟩

theorem OwM.hd (m : OwM k T E w g c A cap hs xss H) {i : Int} {x : List α} (hx : idx xss i = some x) : ∃ h, idx hs i = some h := by
  obtain ⟨h0, h1, h2⟩ := idx_some hx
  have hlt : i.toNat < hs.length := by rw [m.hl]; omega
  exact ⟨hs[i.toNat], by unfold idx; rw [if_pos h0, List.getElem?_eq_getElem hlt]⟩

theorem OwM.some_ (m : OwM k T E w g c A cap hs xss H) {i : Int} {x : List α} (hx : idx xss i = some x) : ∃ ad, A = some ad := by
  obtain ⟨h0, h1, h2⟩ := idx_some hx
  rcases m.outer with ⟨rfl, h⟩ | ⟨b, arr, rfl, _⟩
  · have := m.le; omega
  · exact ⟨_, rfl⟩

theorem OwM.cell (m : OwM k T E w g c A cap hs xss H) {i : Int} {x : List α} {h : Option Addr × Nat} (hx : idx xss i = some x) (hh : idx hs i = some h) : w.cell? (ea A (i.toNat * 1)) = some (.slice h.1 x.length h.2) := by
  obtain ⟨h0, h1, h2⟩ := idx_some hx
  obtain ⟨_, _, h3⟩ := idx_some hh
  rcases m.outer with ⟨rfl, h⟩ | ⟨b, arr, rfl, hb, _, _, hc⟩
  · have := m.le; omega
  · rw [ea_some, cell_of_row w b _ arr T (0, 0) hb, Nat.zero_add, Nat.mul_one]
    exact hc _ _ _ h3 h2

theorem OwM.row (m : OwM k T E w g c A cap hs xss (fun _ => False)) {i : Int} {x : List α} {h : Option Addr × Nat} (hx : idx xss i = some x) (hh : idx hs i = some h) : OwS k E w g (c + 1) h.1 h.2 x :=
  m.inner _ _ _ (fun h => h) (idx_some hh).2.2 (idx_some hx).2.2

def dyeA (g : Nat → Nat) (A : Option Addr) (d : Nat) : Nat → Nat := match A with | none => g | some ad => dye g ad.block d

/-- The inner slice at i is taken out: it gets the colour d. -/
theorem OwM.take (hk : Pl k) (m : OwM k T E w g c A cap hs xss (fun _ => False)) {i : Int} {x : List α} {h : Option Addr × Nat} (hx : idx xss i = some x) (hh : idx hs i = some h) (d : Nat) (hd : d ≠ c ∧ d ≠ c + 1) :
    OwS k E w (dyeA g h.1 d) d h.1 h.2 x ∧ OwM k T E w (dyeA g h.1 d) c A cap hs xss (fun j => j = i.toNat) ∧ Fr (fun q => q = c + 1) w g w (dyeA g h.1 d) := by
  obtain ⟨_, _, hx'⟩ := idx_some hx
  obtain ⟨_, _, hh'⟩ := idx_some hh
  have hrow := m.row hx hh
  have keep : ∀ b, (∀ ad, h.1 = some ad → b ≠ ad.block) → dyeA g h.1 d b = g b := by
    intro b hb
    cases e : h.1 with
    | none => rfl
    | some ad => exact dye_other (hb ad e)
  have hgc : ∀ ad, h.1 = some ad → g ad.block = c + 1 := by
    intro ad e
    rcases hrow.2.2 with ⟨e2, _⟩ | ⟨b, arr, e2, _, hg, _⟩
    · rw [e2] at e; cases e
    · rw [e2] at e; injection e with e; subst e; exact hg
  refine ⟨⟨hrow.1, hrow.2.1, ?_⟩, ⟨m.le, m.cm, m.hl, ?_, ?_, ?_⟩, ⟨rfl, rfl, rfl, Nat.le_refl _, fun b hb hm => ⟨rfl, keep b (fun ad e e2 => hm (by subst e2; exact hgc ad e))⟩⟩⟩
  · rcases hrow.2.2 with hn | ⟨b, arr, e, hb, hg, hs', hr⟩
    · exact .inl hn
    · refine .inr ⟨b, arr, e, hb, by rw [e]; exact dye_same g b d, hs', hr.1, fun j y hy => hk _ _ _ _ _ _ _ _ (hr.2 j y hy)⟩
  · rcases m.outer with hn | ⟨b, arr, e, hb, hg, hs', hc⟩
    · exact .inl hn
    · refine .inr ⟨b, arr, e, hb, ?_, hs', hc⟩
      rw [keep b (fun ad e2 e3 => by have := hgc ad e2; rw [← e3, hg] at this; omega)]; exact hg
  · intro j h' xs hj hhj hxj
    have hin := m.inner j h' xs (fun h => h) hhj hxj
    refine ⟨hin.1, hin.2.1, ?_⟩
    rcases hin.2.2 with hn | ⟨b, arr, e, hb, hg, hs', hr⟩
    · exact .inl hn
    · refine .inr ⟨b, arr, e, hb, ?_, hs', hr.1, fun j y hy => hk _ _ _ _ _ _ _ _ (hr.2 j y hy)⟩
      rw [keep b (fun ad e2 e3 => m.apart j i.toNat h' h _ _ (fun h => h) (fun h => h) hj hhj hh' e e2 e3)]; exact hg
  · intro p q hp hq bp bq h1 h2
    exact m.apart p q hp hq bp bq (fun h => h) (fun h => h)

theorem getElem?_set_ne' {β : Type} {l : List β} {i j : Nat} {y : β} (h : i ≠ j) : (l.set i y)[j]? = l[j]? := by
  rw [List.getElem?_set]; simp [h]
theorem getElem?_set_self' {β : Type} {l : List β} {i : Nat} {y z : β} (h : l[i]? = some z) : (l.set i y)[i]? = some y := by
  have := (List.getElem?_eq_some_iff.1 h).1
  rw [List.getElem?_set]; simp [this]

/-- What was taken out is put back. -/
theorem OwM.put (hk : Pl k) {i : Int} {x ys : List α} {h : Option Addr × Nat} {A' : Option Addr} {cap' : Nat} {w' : World} (m : OwM k T E w g c A cap hs xss (fun j => j = i.toNat)) (hx : idx xss i = some x) (hh : idx hs i = some h) (hd : d ≠ c ∧ d ≠ c + 1)
    (hn : OwS k E w g d A' cap' ys) (hw : ∀ b, g b ≠ c → w'.heap[b]? = w.heap[b]?) (ho : ∀ b arr, A = some ⟨b, 0, none⟩ → w.heap[b]? = some (.cells arr T (0, 0)) → w'.heap[b]? = some (.cells (arr.setIfInBounds i.toNat (.slice A' ys.length cap')) T (0, 0))) :
    OwM k T E w' (recol g d (c + 1)) c A cap (upd hs i (A', cap')) (upd xss i ys) (fun _ => False) := by
  obtain ⟨h0, h1, hx'⟩ := idx_some hx
  obtain ⟨_, _, hh'⟩ := idx_some hh
  have hre : ∀ b, g b ≠ d → recol g d (c + 1) b = g b := fun b hb => by rw [recol_eq, if_neg hb]
  have hin : ∀ j h' xs', j ≠ i.toNat → hs[j]? = some h' → xss[j]? = some xs' → OwS k E w' (recol g d (c + 1)) (c + 1) h'.1 h'.2 xs' := by
    intro j h' xs' hj hhj hxj
    have q := m.inner j h' xs' hj hhj hxj
    refine ⟨q.1, q.2.1, ?_⟩
    rcases q.2.2 with hn | ⟨b, arr, e, hb, hg, hs', hr⟩
    · exact .inl hn
    · refine .inr ⟨b, arr, e, ?_, ?_, hs', hr.1, fun j y hy => hk _ _ _ _ _ _ _ _ (hr.2 j y hy)⟩
      · rw [hw b (by omega)]; exact hb
      · rw [hre b (by omega)]; exact hg
  refine ⟨by rw [upd_length]; exact m.le, m.cm, by rw [upd_length, upd_length]; exact m.hl, ?_, ?_, ?_⟩
  · rcases m.outer with q | ⟨b, arr, rfl, hb, hg, hs', hc⟩
    · exact .inl q
    · refine .inr ⟨b, _, rfl, ho b arr rfl hb, ?_, by simpa using hs', ?_⟩
      · rw [hre b (by omega)]; exact hg
      · intro j h' xs' hhj hxj
        unfold upd at hhj hxj
        by_cases e : j = i.toNat
        · subst e
          rw [getElem?_set_self' hh'] at hhj
          rw [getElem?_set_self' hx'] at hxj
          injection hhj with e1; injection hxj with e2; subst e1; subst e2
          rw [Array.getElem?_setIfInBounds, if_pos rfl]
          have : i.toNat < arr.size := by have := m.le; omega
          simp [this]
        · rw [getElem?_set_ne' (Ne.symm e)] at hhj hxj
          rw [Array.getElem?_setIfInBounds, if_neg (Ne.symm e)]
          exact hc j h' xs' hhj hxj
  · intro j h' xs' _ hhj hxj
    unfold upd at hhj hxj
    by_cases e : j = i.toNat
    · subst e
      rw [getElem?_set_self' hh'] at hhj
      rw [getElem?_set_self' hx'] at hxj
      injection hhj with e1; injection hxj with e2; subst e1; subst e2
      refine ⟨hn.1, hn.2.1, ?_⟩
      rcases hn.2.2 with q | ⟨b, arr, e, hb, hg, hs', hr⟩
      · exact .inl q
      · refine .inr ⟨b, arr, e, ?_, ?_, hs', hr.1, fun j y hy => hk _ _ _ _ _ _ _ _ (hr.2 j y hy)⟩
        · rw [hw b (by omega)]; exact hb
        · rw [recol_eq, if_pos hg]
    · rw [getElem?_set_ne' (Ne.symm e)] at hhj hxj
      exact hin j h' xs' e hhj hxj
  · have col : ∀ j h' bj, j ≠ i.toNat → hs[j]? = some h' → h'.1 = some bj → g bj.block = c + 1 := by
      intro j h' bj hj hhj e
      have hlt : j < xss.length := by rw [← m.hl]; exact (List.getElem?_eq_some_iff.1 hhj).1
      have q := m.inner j h' _ hj hhj (List.getElem?_eq_getElem hlt)
      rcases q.2.2 with ⟨e2, _⟩ | ⟨b, arr, e2, _, hg, _⟩
      · rw [e2] at e; cases e
      · rw [e2] at e; injection e with e; subst e; exact hg
    have colN : ∀ bj, A' = some bj → g bj.block = d := by
      intro bj e
      rcases hn.2.2 with ⟨e2, _⟩ | ⟨b, arr, e2, _, hg, _⟩
      · rw [e2] at e; cases e
      · rw [e2] at e; injection e with e; subst e; exact hg
    intro p q hp hq bp bq _ _ hpq hhp hhq e1 e2
    unfold upd at hhp hhq
    by_cases ep : p = i.toNat
    · subst ep
      rw [getElem?_set_self' hh'] at hhp
      rw [getElem?_set_ne' hpq] at hhq
      injection hhp with e3; subst e3
      have c1 := colN bp e1
      have c2 := col q hq bq (Ne.symm hpq) hhq e2
      intro e; rw [e] at c1; omega
    · rw [getElem?_set_ne' (Ne.symm ep)] at hhp
      by_cases eq : q = i.toNat
      · subst eq
        rw [getElem?_set_self' hh'] at hhq
        injection hhq with e3; subst e3
        have c1 := colN bq e2
        have c2 := col p hp bp hpq hhp e1
        intro e; rw [e] at c2; omega
      · rw [getElem?_set_ne' (Ne.symm eq)] at hhq
        exact m.apart p q hp hq bp bq ep eq hpq hhp hhq e1 e2

/-- A header is stored: what was held at the colour d is now the inner slice at i. -/
theorem e_storeM (hk : Pl k) {U n : Nat} {x y : Operand} {off : Nat} {i : Int} {x0 ys : List α} {h : Option Addr × Nat} {A' : Option Addr} {cap' : Nat} (g : Nat → Nat) (hS : Sl N a S) (ho : o.op = .store U x y) (hx : ev S x = some (.pointer (some (ea A off)))) (hoff : off = i.toNat * 1) (hy : ev S y = some (.slice A' ys.length cap')) (ht : tsz P U = some (n, false)) (hn : n = 1)
    (m : OwM k T E w g c A cap hs xss (fun j => j = i.toNat)) (hi : idx xss i = some x0) (hh : idx hs i = some h) (hnew : OwS k E w g d A' cap' ys) (hd : d ≠ c ∧ d ≠ c + 1) :
    EffS P a o w fun w' g' => OwM k T E w' g' c A cap (upd hs i (A', cap')) (upd xss i ys) (fun _ => False) ∧ Fr (fun q => q = c ∨ q = d) w g w' g' := by
  obtain ⟨h0, h1, hx'⟩ := idx_some hi
  subst hn; subst hoff
  rcases m.outer with ⟨_, hz⟩ | ⟨b, arr, rfl, hb, hg, hs', hc⟩
  · have := m.le; omega
  have hlt : i.toNat < arr.size := by have := m.le; omega
  have hr := run_store_at (w := w) (u := .slice A' ys.length cap') (us := [.slice A' ys.length cap']) (bl := b) (j := i.toNat * 1) ht rfl rfl (by simp [Value.oneCell']) hb (by simp; omega)
  have hspl : (splice arr.toList (i.toNat * 1) [.slice A' ys.length cap']).toArray = arr.setIfInBounds i.toNat (.slice A' ys.length cap') := by
    apply Array.toList_inj.1
    simp only [Array.toList_setIfInBounds, splice, List.length_singleton, Nat.mul_one]
    rw [List.set_eq_take_append_cons_drop, if_pos (by simpa using hlt)]
    simp
  rw [hspl] at hr
  have F : Fr (fun q => q = c) w g (w.setRow b (arr.setIfInBounds i.toNat (.slice A' ys.length cap'))) g := Fr.setRow w g b _ hg
  refine ⟨w.setRow b (arr.setIfInBounds i.toNat (.slice A' ys.length cap')), recol g d (c + 1), ?_, OwM.put hk m hi hh hd hnew (fun b' hb' => setRow_other w b b' _ (fun e => hb' (e ▸ hg))) (fun b' arr' e hb' => ?_), ?_⟩
  · unfold execOp
    simp only [Nat.mul_one] at hr
    simp only [ho, hS.ev hx, hS.ev hy, ea_some, Nat.zero_add, Nat.mul_one]
    simp [hr]
  · injection e with e; injection e with e; subst e
    rw [hb] at hb'; injection hb' with e; injection e with e; subst e
    exact setRow_heap w b _ _ T (0, 0) hb
  · exact (F.mono (fun _ h => .inl h)).trans (Fr.recol (M := fun q => q = c ∨ q = d) _ g d (c + 1) (.inr rfl)) (fun _ h => h)

/-- A new slice of nil slices. -/
theorem e_makeM (k : Kd α) {T e sz by_ E : Nat} {x : Operand} {ik : IntKind} {n : Int} {xss : List (List α)} (c : Nat) (g : Nat → Nat) (hS : Sl N a S) (ho : o.op = .makeSlice T x x)
    (hx : ev S x = some (.int ik n)) (ht : elemInfo P T = some (e, sz, by_)) (hz : zcells P e = some [.slice none 0 0]) (hsz : sz = 1) (hby : Nat.ble by_ 32768 = true) (hxs : mk n ([] : List α) = some xss) :
    Eff P a o w fun v w' g' => (∃ A cap hs, v = .slice A xss.length cap ∧ OwM k e E w' g' c A cap hs xss (fun _ => False)) ∧ Fr (fun _ => False) w g w' g' := by
  have hby' : by_ ≤ 32768 := by simpa [Nat.ble_eq] using hby
  obtain ⟨h0, h1, rfl⟩ := mk_some hxs
  obtain ⟨hu, i, hi, hi1, hi2⟩ := elemInfo_spec ht
  unfold zcells at hz
  rw [hi] at hz
  simp only [Option.bind_some, Option.map_eq_some_iff] at hz
  obtain ⟨zv, hz2, hz3⟩ := hz
  obtain ⟨m, rfl⟩ := Int.eq_ofNat_of_zero_le h0
  have hm : m ≤ 4294967296 := by omega
  have hbb : (i.bytes : Int) * (m : Int) ≤ 281474976710656 := by
    have h : i.bytes * m ≤ 32768 * 4294967296 := Nat.mul_le_mul (by omega) hm
    rw [← Int.natCast_mul]
    omega
  have hrun := run_make (P := P) w T e i zv hu hi hz2 ik ik m m h0 (Int.le_refl _) hbb (by omega)
  simp only [Int.toNat_natCast] at hrun
  refine ⟨_, w.alloc (.cells (madeCells zv.cells (m * i.size)) e), dye g w.heap.size c, ?_, ⟨some ⟨w.heap.size, 0, none⟩, m, List.replicate m (none, 0), rfl, ?_⟩, Fr.alloc _ w g _ c⟩
  · unfold execOp
    simp only [ho, hS.ev hx]
    refine r_value ?_
    rw [hrun]
    simp
  · have hsz' : i.size = 1 := by omega
    have hzv : zv.cells = #[.slice none 0 0] := Array.toList_inj.1 hz3
    refine ⟨by simp, by simp [maxLen]; omega, by simp, .inr ⟨w.heap.size, _, rfl, heap_alloc_new w _, dye_same g _ c, by simp [madeCells, hsz'], ?_⟩, ?_, ?_⟩
    · intro j h' xs hh hx'
      simp only [Int.toNat_natCast] at hh hx'
      rw [List.getElem?_replicate] at hh hx'
      split at hh
      · rename_i hj
        rw [if_pos hj] at hx'
        injection hh with hh; injection hx' with hx'; subst hh; subst hx'
        simp [madeCells, hzv, hsz', hj, Nat.mod_one]
      · cases hh
    · intro j h' xs _ hh hx'
      rw [List.getElem?_replicate] at hh hx'
      split at hh
      · injection hh with hh; subst hh
        split at hx'
        · injection hx' with hx'; subst hx'; exact OwS.nil _ _ _ _ _
        · cases hx'
      · cases hh
    · intro p q hp hq bp bq _ _ _ hhp _ e1 _
      rw [List.getElem?_replicate] at hhp
      split at hhp
      · injection hhp with hhp; subst hhp; cases e1
      · cases hhp

/-- From now on it is only read. -/
theorem OwM.toS (hk : Pl k) (hsz : 0 < k.sz) (m : OwM k T E w g c A cap hs xss (fun _ => False)) : OwS (kslice k hsz) T w g c A cap xss := by
  refine ⟨m.le, m.cm, ?_⟩
  rcases m.outer with q | ⟨b, arr, rfl, hb, hg, hs', hc⟩
  · exact .inl q
  · refine .inr ⟨b, arr, rfl, hb, hg, by simpa [kslice] using hs', ?_⟩
    have hle := m.le
    refine ⟨by simp [kslice]; omega, fun i x hx => ?_⟩
    have hlt := (List.getElem?_eq_some_iff.1 hx).1
    have hh : hs[i]? = some (hs[i]'(by rw [m.hl]; exact hlt)) := List.getElem?_eq_getElem _
    have hin := m.inner i _ x (fun h => h) hh hx
    refine ⟨_, _, ?_, OwD.rdf (fun w g C C' x cs h => hk _ _ _ _ _ _ _ _ h) hin⟩
    have h1 := hc i _ x hh hx
    apply List.ext_getElem?
    intro q
    rw [List.getElem?_take]
    split
    · rename_i hq
      have : q = 0 := by simp [kslice] at hq; omega
      subst this
      rw [List.getElem?_drop, List.getElem?_take, if_pos (by simp [kslice]; omega)]
      simpa [kslice] using h1
    · rename_i hq
      rw [List.getElem?_eq_none (by simp [kslice] at hq ⊢; omega)]

end
end Go.Proofs.Ytfhhklkmbcnhnaa.Sim

namespace Go.Proofs.Ytfhhklkmbcnhnaa.Sim
open Go

section
variable {P : Program} {a : Act} {w : World} {o : Oper} {N : Nat} {S : List (Nat × Value)}

/-! ### clear -/

end
end Go.Proofs.Ytfhhklkmbcnhnaa.Sim

namespace Go.Proofs.Ytfhhklkmbcnhnaa.Sim
open Go Go.Proofs.YtfhhklkmbcnhnaaW.PrintLast

section
variable {P : Program} {ops : Array Oper} {Q : Exit → Act → World → Prop} {a : Act} {w : World} {md : Region.Mode}

theorem wpAnyLast_rebase {S1 S2 : World → Prop} (h12 : ∀ w, S2 w → S1 w) : ∀ (fuel : Nat) (listed : Array Bool) (a : Act) (w : World), S2 w → wpAnyLast P md ops Q S2 [] fuel listed a w → wpAnyLast P md ops Q S1 [] fuel listed a w
  | 0, _, _, _, _, h => h
  | fuel + 1, _, _, _, hw, h => ⟨h.1, fun i hi => wpOp_mono (fun _ _ h' => ⟨fun _ _ => h12 _ (h'.1 (by simp) hw), wpAnyLast_rebase h12 fuel _ _ _ (h'.1 (by simp) hw) h'.2⟩) (h.2 i hi)⟩

/-- From a changed world on, what may be met is told from there. -/
theorem d_rebase {M M2 : Nat → Prop} {w1 w2 : World} {g1 g2 : Nat → Nat} {fuel : Nat} {l : Array Bool} (h12 : ∀ w, Cls M2 w2 g2 w → Cls M w1 g1 w) (hw : Cls M2 w2 g2 w) (h : AnyD P ops Q M2 w2 g2 [] fuel l a w) : AnyD P ops Q M w1 g1 [] fuel l a w :=
  wpAnyLast_rebase h12 fuel l a w hw h
end
end Go.Proofs.Ytfhhklkmbcnhnaa.Sim

namespace Go.Proofs.Ytfhhklkmbcnhnaa.Sim
open Go
set_option linter.unusedVariables false

abbrev Hd := Option Addr × Nat

section
variable {P : Program} {a : Act} {w : World} {o : Oper} {N : Nat} {S : List (Nat × Value)} {α β : Type} {kz : Kd (Hd × β)} {k : Kd α} {col : β → List α} {T E : TypeId} {g : Nat → Nat} {c d : Nat} {A : Option Addr} {cap : Nat} {hs : List Hd} {xs : List β} {H : Nat → Prop}

end
end Go.Proofs.Ytfhhklkmbcnhnaa.Sim

namespace Go.Proofs.Ytfhhklkmbcnhnaa.Sim
open Go
set_option linter.unusedVariables false
set_option linter.unusedSimpArgs false

structure api_PowerDevice where
  Parent : Int
  Rails : Ar4 (List Int)
  Deepest : Ar6 Int
  WakeDevice : Int
  WakeSystem : Int
def kd_api_PowerDevice : Kd api_PowerDevice where
  sz := 13
  R := fun w g C x cs => ∃ (A0 : Option Addr) (cap0 : Nat) (A1 : Option Addr) (cap1 : Nat) (A2 : Option Addr) (cap2 : Nat) (A3 : Option Addr) (cap3 : Nat), cs = [.int .i64 x.Parent, .slice A0 x.Rails.a0.length cap0, .slice A1 x.Rails.a1.length cap1, .slice A2 x.Rails.a2.length cap2, .slice A3 x.Rails.a3.length cap3, .int .i64 x.Deepest.a0, .int .i64 x.Deepest.a1, .int .i64 x.Deepest.a2, .int .i64 x.Deepest.a3, .int .i64 x.Deepest.a4, .int .i64 x.Deepest.a5, .int .i64 x.WakeDevice, .int .i64 x.WakeSystem] ∧ RdS (kint .i64) w g C A0 cap0 x.Rails.a0 ∧ RdS (kint .i64) w g C A1 cap1 x.Rails.a1 ∧ RdS (kint .i64) w g C A2 cap2 x.Rails.a2 ∧ RdS (kint .i64) w g C A3 cap3 x.Rails.a3
  len := by rintro w g C x cs ⟨A0, cap0, A1, cap1, A2, cap2, A3, cap3, rfl, h0, h1, h2, h3⟩; rfl
  one := by
    rintro w g C x cs ⟨A0, cap0, A1, cap1, A2, cap2, A3, cap3, rfl, h0, h1, h2, h3⟩ v hv
    simp only [List.mem_cons, List.not_mem_nil, or_false] at hv
    rcases hv with rfl | rfl | rfl | rfl | rfl | rfl | rfl | rfl | rfl | rfl | rfl | rfl | rfl <;> rfl
  fr := by rintro M w g w' g' C x cs F hC ⟨A0, cap0, A1, cap1, A2, cap2, A3, cap3, rfl, h0, h1, h2, h3⟩; exact ⟨A0, cap0, A1, cap1, A2, cap2, A3, cap3, rfl, RdS.fr h0 F (by decide) hC, RdS.fr h1 F (by decide) hC, RdS.fr h2 F (by decide) hC, RdS.fr h3 F (by decide) hC⟩
  re := by rintro w g g' C C' x cs h ⟨A0, cap0, A1, cap1, A2, cap2, A3, cap3, rfl, h0, h1, h2, h3⟩; exact ⟨A0, cap0, A1, cap1, A2, cap2, A3, cap3, rfl, RdX.re h0 (by decide) h h, RdX.re h1 (by decide) h h, RdX.re h2 (by decide) h h, RdX.re h3 (by decide) h h⟩

structure depgraph_queue where
  q : List Int
def depgraph_queue_At (w : World) (g : Nat → Nat) (c : Nat) (b : Nat) (A_q : Option Addr) (cap_q : Nat) (st : depgraph_queue) : Prop :=
  Bx w g c b 119 [.slice A_q st.q.length cap_q] ∧ OwS (kint .i64) 3 w g (c + 1) A_q cap_q st.q
def depgraph_queue_Opt (w : World) (g : Nat → Nat) (c : Nat) (p : Option Addr) : Option depgraph_queue → Prop
  | none => p = none
  | some st => ∃ (b : Nat) (A_q : Option Addr) (cap_q : Nat), p = some ⟨b, 0, none⟩ ∧ depgraph_queue_At w g c b A_q cap_q st
theorem depgraph_queue_Opt.fr {M : Nat → Prop} {w w' : World} {g g' : Nat → Nat} {c : Nat} {p : Option Addr} {st : Option depgraph_queue} (h : depgraph_queue_Opt w g c p st) (F : Fr M w g w' g') (hc : ∀ q, c ≤ q → q < c + 3 → ¬ M q) : depgraph_queue_Opt w' g' c p st := by
  cases st with
  | none => exact h
  | some st =>
    obtain ⟨b, A_q, cap_q, e, h0, h1⟩ := h
    exact ⟨b, A_q, cap_q, e, Bx.fr h0 F (hc _ (Nat.le_refl _) (by omega)), OwS.fr h1 F (fun c' hc' => hc c' (by omega) (by omega))⟩
structure api_Link where
  Consumer : Int
  Supplier : Int
deriving DecidableEq
def kd_api_Link : Kd api_Link := flat 2 (fun x => [.int .i64 x.Consumer, .int .i64 x.Supplier]) (fun _ => rfl) (fun x v hv => by
  simp only [List.mem_cons, List.not_mem_nil, or_false] at hv
  rcases hv with rfl | rfl <;> rfl)

structure api_Rail where
  Supply : Int
  RampUp : Int
  RampDown : Int
deriving DecidableEq
def kd_api_Rail : Kd api_Rail := flat 3 (fun x => [.int .i64 x.Supply, .int .u64 x.RampUp, .int .u64 x.RampDown]) (fun _ => rfl) (fun x v hv => by
  simp only [List.mem_cons, List.not_mem_nil, or_false] at hv
  rcases hv with rfl | rfl | rfl <;> rfl)

structure api_RailOp where
  Rail : Int
  On : Bool
  Start : Int
  Done : Int
deriving DecidableEq
def kd_api_RailOp : Kd api_RailOp := flat 4 (fun x => [.int .i64 x.Rail, .bool x.On, .int .u64 x.Start, .int .u64 x.Done]) (fun _ => rfl) (fun x v hv => by
  simp only [List.mem_cons, List.not_mem_nil, or_false] at hv
  rcases hv with rfl | rfl | rfl | rfl <;> rfl)

structure rails_rail where
  Rail : api_Rail
  count : Int
  done : Int
deriving DecidableEq
def kd_rails_rail : Kd rails_rail := flat 5 (fun x => [.int .i64 x.Rail.Supply, .int .u64 x.Rail.RampUp, .int .u64 x.Rail.RampDown, .int .i64 x.count, .int .u64 x.done]) (fun _ => rfl) (fun x v hv => by
  simp only [List.mem_cons, List.not_mem_nil, or_false] at hv
  rcases hv with rfl | rfl | rfl | rfl | rfl <;> rfl)

structure rails_Rails where
  list : List rails_rail
  now : Int
def rails_Rails_At (w : World) (g : Nat → Nat) (c : Nat) (b : Nat) (A_list : Option Addr) (cap_list : Nat) (st : rails_Rails) : Prop :=
  Bx w g c b 100 [.slice A_list st.list.length cap_list, .int .u64 st.now] ∧ OwS kd_rails_rail 105 w g (c + 1) A_list cap_list st.list
def rails_Rails_Opt (w : World) (g : Nat → Nat) (c : Nat) (p : Option Addr) : Option rails_Rails → Prop
  | none => p = none
  | some st => ∃ (b : Nat) (A_list : Option Addr) (cap_list : Nat), p = some ⟨b, 0, none⟩ ∧ rails_Rails_At w g c b A_list cap_list st
structure device_Tree where
  devices : List api_PowerDevice
  state : List Int
  rails : rails_Rails
  now : Int
def device_Tree_At (w : World) (g : Nat → Nat) (c : Nat) (C_devices : Nat → Prop) (b : Nat) (A_devices : Option Addr) (cap_devices : Nat) (A_state : Option Addr) (cap_state : Nat) (b_rails : Nat) (A_rails_list : Option Addr) (cap_rails_list : Nat) (st : device_Tree) : Prop :=
  Bx w g c b 90 [.slice A_devices st.devices.length cap_devices, .slice A_state st.state.length cap_state, .pointer (some ⟨b_rails, 0, none⟩), .int .u64 st.now] ∧ RdS kd_api_PowerDevice w g C_devices A_devices cap_devices st.devices ∧ OwS (kint .i64) 3 w g (c + 1) A_state cap_state st.state ∧ rails_Rails_At w g (c + 3) b_rails A_rails_list cap_rails_list st.rails
def device_Tree_Opt (w : World) (g : Nat → Nat) (c : Nat) (C_devices : Nat → Prop) (p : Option Addr) : Option device_Tree → Prop
  | none => p = none
  | some st => ∃ (b : Nat) (A_devices : Option Addr) (cap_devices : Nat) (A_state : Option Addr) (cap_state : Nat) (b_rails : Nat) (A_rails_list : Option Addr) (cap_rails_list : Nat), p = some ⟨b, 0, none⟩ ∧ device_Tree_At w g c C_devices b A_devices cap_devices A_state cap_state b_rails A_rails_list cap_rails_list st
theorem device_Tree_Opt.fr {M : Nat → Prop} {w w' : World} {g g' : Nat → Nat} {c : Nat} {C_devices : Nat → Prop} {p : Option Addr} {st : Option device_Tree} (h : device_Tree_Opt w g c C_devices p st) (F : Fr M w g w' g') (hc : ∀ q, c ≤ q → q < c + 6 → ¬ M q) (hC_devices : ∀ q, C_devices q → ¬ M q) : device_Tree_Opt w' g' c C_devices p st := by
  cases st with
  | none => exact h
  | some st =>
    obtain ⟨b, A_devices, cap_devices, A_state, cap_state, b_rails, A_rails_list, cap_rails_list, e, ⟨h0, h1, h2, ⟨h3, h4⟩⟩⟩ := h
    exact ⟨b, A_devices, cap_devices, A_state, cap_state, b_rails, A_rails_list, cap_rails_list, e, ⟨Bx.fr h0 F (hc _ (by omega) (by omega)), RdS.fr h1 F (by decide) hC_devices, OwS.fr h2 F (fun c' hc' => hc c' (by omega) (by omega)), ⟨Bx.fr h3 F (hc _ (by omega) (by omega)), OwS.fr h4 F (fun c' hc' => hc c' (by omega) (by omega))⟩⟩⟩
theorem device_Tree_Opt.isNone {w : World} {g : Nat → Nat} {c : Nat} {C_devices : Nat → Prop} {p : Option Addr} {st : Option device_Tree} (h : device_Tree_Opt w g c C_devices p st) : p.isNone = st.isNone := by
  cases st with
  | none => have e : p = none := h; rw [e]; rfl
  | some st => obtain ⟨b, A_devices, cap_devices, A_state, cap_state, b_rails, A_rails_list, cap_rails_list, e, _⟩ := h; rw [e]; rfl

structure law27_Call where
  Device : Int
  State : Int
  Wait : Int
  Raw : Bool
deriving DecidableEq
def kd_law27_Call : Kd law27_Call := flat 4 (fun x => [.int .i64 x.Device, .int .i64 x.State, .int .u64 x.Wait, .bool x.Raw]) (fun _ => rfl) (fun x v hv => by
  simp only [List.mem_cons, List.not_mem_nil, or_false] at hv
  rcases hv with rfl | rfl | rfl | rfl <;> rfl)


end Go.Proofs.Ytfhhklkmbcnhnaa.Sim

namespace Go.Proofs.Ytfhhklkmbcnhnaa.Sim
open Go
set_option linter.unusedVariables false
set_option linter.unusedSimpArgs false

theorem eqP_api_Link (X Y : api_Link) : ((X.Consumer == Y.Consumer) && (X.Supplier == Y.Supplier)) = decide (X = Y) := by
  cases X; cases Y
  apply Bool.eq_iff_iff.2
  simp
theorem eqF_api_Link (X Y : api_Link) (w : World) : (Op.equalIn 10000 103 (.agg #[.int .i64 X.Consumer, .int .i64 X.Supplier]) (.agg #[.int .i64 Y.Consumer, .int .i64 Y.Supplier])).run Try.prog w = .ok (decide (X = Y)) w := by
  rw [← eqP_api_Link]
  exact eqA_of Try.underlying103 (by kernel_rfl) (eqf_cons rfl (by kernel_rfl) (by kernel_rfl) (run_equalIn_int _ 9998 _ .i64 .i64 _ _ (by kernel_rfl)) (eqf_last rfl (by kernel_rfl) (by kernel_rfl) (run_equalIn_int _ 9998 _ .i64 .i64 _ _ (by kernel_rfl))))
def enc_api_Link (x : api_Link) : Value := .agg #[.int .i64 x.Consumer, .int .i64 x.Supplier]
theorem key_api_Link : KeyOk Try.prog 103 enc_api_Link where
  st := ⟨_, Try.underlying103⟩
  eq := fun x y w => eqF_api_Link x y w
  ck := fun b x w => by kernel_rfl

end Go.Proofs.Ytfhhklkmbcnhnaa.Sim

namespace Go.Proofs.Ytfhhklkmbcnhnaa.Sim
open Go
set_option linter.unusedVariables false
set_option linter.unusedSimpArgs false

/-! ### device_ascending: function 42 -/
def device_ascending.l0 (p0 : List Int) : Nat → Int → Option (Fl (Bool) (Unit))
  | 0, _ => none
  | k8 + 1, m0_0 => if decide (m0_0 < (p0.length : Int)) = true then ((idx p0 m0_0).bind fun x17 => (idx p0 (wi (m0_0 - 1))).bind fun x24 => if decide (x17 ≤ x24) = true then (some (.out false)) else (device_ascending.l0 p0 k8 (wi (m0_0 + 1)))) else (some (.nxt ()))
def device_ascending.f (p0 : List Int) : Option (Bool) := (device_ascending.l0 p0 FUEL 1 : Option (Fl (Bool) (Unit))).bind fun o4 => o4.go fun _ => some true
set_option maxRecDepth 100000 in
set_option maxHeartbeats 4000000 in
theorem device_ascending.calls {p0 : List Int} {A0 : Option Addr} {cap0 : Nat} {C0 : Nat → Prop} {w : World} {g : Nat → Nat} {out : Bool} (N : Nat) (hp0 : RdS (kint .i64) w g C0 A0 cap0 p0) (hC0 : ∀ c, C0 c → c < N) (H : device_ascending.f p0 = some out) :
    Calls Try.prog 42 #[.slice A0 p0.length cap0] w (fun e w' => ∃ v, e = .returned v ∧ ∃ (g' : Nat → Nat), v = .bool out ∧ Fr (fun q => N ≤ q) w g w' g') := by
  unfold device_ascending.f at H
  refine calls_enter Try.func42 rfl Try.ntmps42 rfl (fun a hS => ?_)
  replace hS : Sl 20 a [(0, .slice A0 p0.length cap0)] := hS
  have hF : Fr (fun q => N ≤ q) w g w g := Fr.refl _ _ _
  refine c_pure [(0, .slice A0 p0.length cap0)] (fun R hR => st_val hS rfl rfl rfl (r_assign hS rfl rfl) fun a1 hS1 => wpList_nil (hR _ (hS1.re ⟨rfl, trivial⟩))) ?_
  clear hS
  clear a
  intro a hS
  obtain ⟨o4, H, Hl5⟩ := bind_el H
  refine c_cut (fun a w2 => ∃ (g2 : Nat → Nat), o4 = .nxt () ∧ Sl 20 a [] ∧ Fr (fun q => N ≤ q) w g w2 g2) ?_ ?_
  · refine c_pure [(0, .slice A0 p0.length cap0), (3, .int .i64 1)] (fun R hR => st_val hS rfl rfl rfl (r_assign hS rfl rfl) fun a6 hS6 => wpList_nil (hR _ (hS6.re ⟨rfl, rfl, trivial⟩))) ?_
    clear hS
    clear a
    intro a hS
    refine wp_block ?_
    refine wp_loop_ghost (fun kq => fun a w7 => ∃ (m0_0 : Int), ∃ (g7 : Nat → Nat), device_ascending.l0 p0 kq m0_0 = some o4 ∧ Sl 20 a [(0, .slice A0 p0.length cap0), (3, .int .i64 m0_0)] ∧ RdS (kint .i64) w7 g7 C0 A0 cap0 p0 ∧ Fr (fun q => N ≤ q) w g w7 g7) FUEL ?_ ?_
    · exact ⟨1, g, H, hS.re ⟨rfl, rfl, trivial⟩, hp0, hF⟩
    · clear H
      clear hp0 hF
      clear hS
      rintro k8 a w7 ⟨m0_0, g7, hpre0, hS, hp0, hF⟩
      have H := hpre0
      clear hpre0
      cases k8 with
      | zero => exact absurd H (by simp [device_ascending.l0])
      | succ k8 =>
        rw [device_ascending.l0] at H
        refine wp_seq ?_
        refine c_pure [(0, .slice A0 p0.length cap0), (3, .int .i64 m0_0), (7, .bool (decide (m0_0 < (p0.length : Int))))] (fun R hR => st_val hS rfl rfl rfl (r_move hS rfl rfl) fun a9 hS9 => st_val hS9 rfl rfl rfl (r_move hS9 rfl rfl) fun a10 hS10 => st_val hS10 rfl rfl rfl (r_len (e := 3) (sz := 1) (by_ := 8) hS10 rfl rfl (by kernel_rfl)) fun a11 hS11 => st_val hS11 rfl rfl rfl (r_bin hS11 rfl rfl rfl b_lss) fun a12 hS12 => wpList_nil (hR _ (hS12.re ⟨rfl, rfl, rfl, trivial⟩))) ?_
        clear hS
        clear a
        intro a hS
        refine c_cond hS rfl (fun hb13 => ?_) (fun hb13 => ?_)
        · replace H := ite_t hb13 H
          refine wp_skip ?_
          change Code.wp _ _ _ _ _
          refine wp_seq ?_
          refine wp_block ?_
          obtain ⟨x17, hx18, H⟩ := bind_el H
          obtain ⟨x24, hx25, H⟩ := bind_el H
          refine c_draw (fun K hK => d_start (fun q => False) g7 [] 10 #[false, false, false, false, false, false, false, false, false, false] (by kernel_rfl) rfl rfl (fun w14 hw14 => ?_))
          have F14 : Fr (fun _ => False) w7 g7 w14 g7 := by rw [hw14]; exact Fr.drew _ _ _
          replace hp0 := RdS.fr hp0 F14 (by decide) (fun _ _ h => h)
          replace hF := hF.trans F14 (fun _ h => h.elim)
          have hC : Fr (fun q => False) w14 g7 w14 g7 := Fr.refl _ _ _
          refine d_pure hS 0 #[true, false, false, false, false, false, false, false, false, false] rfl rfl rfl rfl (by kernel_rfl) (fun _ _ _ h => h) (fun _ => (r_move hS rfl rfl)) fun a15 hS15 => d_pure hS15 1 #[true, true, false, false, false, false, false, false, false, false] rfl rfl rfl rfl (by kernel_rfl) (fun _ _ _ h => h) (fun _ => (r_move hS15 rfl rfl)) fun a16 hS16 => d_pure hS16 2 #[true, true, true, false, false, false, false, false, false, false] rfl rfl rfl rfl (by kernel_rfl) (fun _ _ _ h => h) (fun _ => (r_index (e := 3) (sz := 1) (by_ := 8) hS16 rfl rfl rfl (by kernel_rfl) (RdS.some_ hp0 hx18) (idx_lo hx18) (idx_hi hx18))) fun a19 hS19 => d_take hS19 3 #[true, true, true, true, false, false, false, false, false, false] rfl rfl rfl rfl (by kernel_rfl) (fun _ _ _ h => h) ⟨_, hC⟩ (fun w' g' Fz => (r_load1 (n := 1) hS19 rfl rfl (by kernel_rfl) (RdS.cell (i := m0_0) (sz := 1) (j := 0) (RdS.fr hp0 Fz (by decide) (fun _ _ h => h)) hx18 rfl))) fun a20 hS20 => d_pure hS20 4 #[true, true, true, true, true, false, false, false, false, false] rfl rfl rfl rfl (by kernel_rfl) (fun _ _ _ h => h) (fun _ => (r_move hS20 rfl rfl)) fun a21 hS21 => d_pure hS21 5 #[true, true, true, true, true, true, false, false, false, false] rfl rfl rfl rfl (by kernel_rfl) (fun _ _ _ h => h) (fun _ => (r_move hS21 rfl rfl)) fun a22 hS22 => d_pure hS22 6 #[true, true, true, true, true, true, true, false, false, false] rfl rfl rfl rfl (by kernel_rfl) (fun _ _ _ h => h) (fun _ => (r_bin hS22 rfl rfl rfl b_sub)) fun a23 hS23 => d_pure hS23 7 #[true, true, true, true, true, true, true, true, false, false] rfl rfl rfl rfl (by kernel_rfl) (fun _ _ _ h => h) (fun _ => (r_index (e := 3) (sz := 1) (by_ := 8) hS23 rfl rfl rfl (by kernel_rfl) (RdS.some_ hp0 hx25) (idx_lo hx25) (idx_hi hx25))) fun a26 hS26 => d_take hS26 8 #[true, true, true, true, true, true, true, true, true, false] rfl rfl rfl rfl (by kernel_rfl) (fun _ _ _ h => h) ⟨_, hC⟩ (fun w' g' Fz => (r_load1 (n := 1) hS26 rfl rfl (by kernel_rfl) (RdS.cell (i := wi (m0_0 - 1)) (sz := 1) (j := 0) (RdS.fr hp0 Fz (by decide) (fun _ _ h => h)) hx25 rfl))) fun a27 hS27 => d_pure hS27 9 #[true, true, true, true, true, true, true, true, true, true] rfl rfl rfl rfl (by kernel_rfl) (fun _ _ _ h => h) (fun _ => (r_bin hS27 rfl rfl rfl b_leq)) fun a28 hS28 => d_done (by kernel_rfl) (hK _ _ ?_)
          replace hS : Sl 20 _ [(0, .slice A0 p0.length cap0), (3, .int .i64 m0_0), (19, .bool (decide (x17 ≤ x24)))] := hS28.re ⟨rfl, rfl, rfl, trivial⟩
          clear hK K hC
          try clear hS15 hS16 hS19 hS20 hS21 hS22 hS23 hS26 hS27 hS28
          obtain ⟨a, ha⟩ : ∃ a', a' = a28 := ⟨_, rfl⟩
          rw [← ha] at hS ⊢; clear ha
          refine c_cond hS rfl (fun hb29 => ?_) (fun hb29 => ?_)
          · replace H := ite_t hb29 H
            refine c_pure [(2, .bool false)] (fun R hR => st_val hS rfl rfl rfl (r_assign hS rfl rfl) fun a30 hS30 => wpList_nil (hR _ (hS30.re ⟨rfl, trivial⟩))) ?_
            clear hS
            clear a
            intro a hS
            refine wp_ret ?_
            have e := Option.some.inj H
            subst e
            replace H := Fl.go_out Hl5
            have e := Option.some.inj H
            subst e
            repeat (with_reducible first | refine then_ret ?_ | refine inBlock_ret ?_)
            exact c_ret1 hS Try.results42 rfl ⟨_, rfl, g7, rfl, hF⟩
          · replace H := ite_f hb29 H
            refine wp_skip ?_
            change Code.wp _ _ _ _ _
            refine c_pure1 [(0, .slice A0 p0.length cap0), (3, .int .i64 (wi (m0_0 + 1)))] (fun R hR => st_val hS rfl rfl rfl (r_move hS rfl rfl) fun a31 hS31 => st_val hS31 rfl rfl rfl (r_bin hS31 rfl rfl rfl b_add) fun a32 hS32 => st_val hS32 rfl rfl rfl (r_assign hS32 rfl rfl) fun a33 hS33 => wpList_nil (hR _ (hS33.re ⟨rfl, rfl, trivial⟩))) ?_
            clear hS
            clear a
            intro a hS
            refine ⟨k8, Nat.lt_succ_self _, ?_⟩
            exact ⟨wi (m0_0 + 1), g7, H, hS.re ⟨rfl, rfl, trivial⟩, hp0, hF⟩
        · replace H := ite_f hb13 H
          refine wp_exit ?_
          have e := Option.some.inj H
          exact ⟨g7, e.symm, hS.re trivial, hF⟩
  · clear H
    clear hp0 hF
    clear hS
    rintro a w2 ⟨g2, hpre0, hS, hF⟩
    subst hpre0
    have H := Fl.go_nxt Hl5
    clear Hl5
    refine c_pure [(2, .bool true)] (fun R hR => st_val hS rfl rfl rfl (r_assign hS rfl rfl) fun a34 hS34 => wpList_nil (hR _ (hS34.re ⟨rfl, trivial⟩))) ?_
    clear hS
    clear a
    intro a hS
    refine wp_ret ?_
    have e := Option.some.inj H
    subst e
    repeat (with_reducible first | refine then_ret ?_ | refine inBlock_ret ?_)
    exact c_ret1 hS Try.results42 rfl ⟨_, rfl, g2, rfl, hF⟩


end Go.Proofs.Ytfhhklkmbcnhnaa.Sim

namespace Go.Proofs.Ytfhhklkmbcnhnaa.Sim
open Go
set_option linter.unusedVariables false
set_option linter.unusedSimpArgs false

/-! ### device_isState: function 41 -/
def device_isState.f (p0 : Int) : Option (Bool) := some ((decide (0 ≤ p0)) && (decide (p0 ≤ 4)))
set_option maxRecDepth 100000 in
set_option maxHeartbeats 4000000 in
theorem device_isState.calls {p0 : Int} {w : World} {g : Nat → Nat} {out : Bool} (N : Nat)  (H : device_isState.f p0 = some out) :
    Calls Try.prog 41 #[.int .i64 p0] w (fun e w' => ∃ v, e = .returned v ∧ ∃ (g' : Nat → Nat), v = .bool out ∧ Fr (fun q => N ≤ q) w g w' g') := by
  unfold device_isState.f at H
  refine calls_enter Try.func41 rfl Try.ntmps41 rfl (fun a hS => ?_)
  replace hS : Sl 9 a [(0, .int .i64 p0)] := hS
  have hF : Fr (fun q => N ≤ q) w g w g := Fr.refl _ _ _
  refine c_pure [(0, .int .i64 p0)] (fun R hR => st_val hS rfl rfl rfl (r_assign hS rfl rfl) fun a1 hS1 => wpList_nil (hR _ (hS1.re ⟨rfl, trivial⟩))) ?_
  clear hS
  clear a
  intro a hS
  refine c_region (fun K hK => ?_)
  refine st_val hS rfl rfl rfl (r_move hS rfl rfl) fun a2 hS2 => st_val hS2 rfl rfl rfl (r_bin hS2 rfl rfl rfl b_geq) fun a3 hS3 => st_val hS3 rfl rfl rfl (r_move hS3 rfl rfl) fun a4 hS4 => ?_
  refine g_join (N := 9) 3 [(8, .bool ((decide (0 ≤ p0)) && (decide (p0 ≤ 4))))] ?_ (fun hk => ?_)
  rotate_left
  · rcases Bool.eq_false_or_eq_true (decide (0 ≤ p0)) with hb5 | hb5
    · refine st_valW hS4 (want_on hS4 rfl rfl rfl hb5) rfl rfl (r_move hS4 rfl rfl) fun a8 hS8 => st_valW hS8 (want_on hS8 rfl rfl rfl hb5) rfl rfl (r_bin hS8 rfl rfl rfl b_leq) fun a9 hS9 => st_val hS9 rfl rfl rfl (r_pickT hS9 rfl rfl rfl hb5) fun a10 hS10 => hk _ (hS10.re ⟨(by rw [hb5]; rfl), trivial⟩)
    · refine st_off hS4 (want_off hS4 rfl rfl rfl hb5) rfl rfl fun a11 hS11 => st_off hS11 (want_off hS11 rfl rfl rfl hb5) rfl rfl fun a12 hS12 => st_val hS12 rfl rfl rfl (r_pickF hS12 rfl rfl rfl hb5) fun a13 hS13 => hk _ (hS13.re ⟨(by rw [hb5]; rfl), trivial⟩)
  intro a14 hS14
  refine st_val hS14 rfl rfl rfl (r_assign hS14 rfl rfl) fun a15 hS15 => wpList_nil (hK _ _ ?_)
  replace hS : Sl 9 _ [(2, .bool ((decide (0 ≤ p0)) && (decide (p0 ≤ 4))))] := hS15.re ⟨rfl, trivial⟩
  clear hK K
  try clear hS2 hS3 hS4 hS14 hS15
  obtain ⟨a, ha⟩ : ∃ a', a' = a15 := ⟨_, rfl⟩
  rw [← ha] at hS ⊢; clear ha
  refine wp_ret ?_
  have e := Option.some.inj H
  subst e
  repeat (with_reducible first | refine then_ret ?_ | refine inBlock_ret ?_)
  exact c_ret1 hS Try.results41 rfl ⟨_, rfl, g, rfl, hF⟩


end Go.Proofs.Ytfhhklkmbcnhnaa.Sim

namespace Go.Proofs.Ytfhhklkmbcnhnaa.Sim
open Go
set_option linter.unusedVariables false
set_option linter.unusedSimpArgs false

/-! ### device_valid: function 39 -/
def device_valid.l0 (p0 : api_PowerDevice) (p2 : Int) : Nat → Int → Option (Fl (Bool) (Unit))
  | 0, _ => none
  | k15 + 1, m0_0 => if decide (m0_0 < 4) = true then ((idx (Ar4.l p0.Rails) m0_0).bind fun x18 => (device_ascending.f x18).bind fun r29 => (if (!r29) = true then some true else (if decide (0 < (x18.length : Int)) = true then (idx x18 0).bind fun x42 => (if decide (x42 < 0) = true then some true else (idx x18 (wi ((x18.length : Int) - 1))).bind fun x53 => some (decide (p2 ≤ x53))).bind fun t59 => some t59 else some false).bind fun t84 => some t84).bind fun t148 => if t148 = true then (some (.out false)) else (device_valid.l0 p0 p2 k15 (wi (m0_0 + 1)))) else (some (.nxt ()))
def device_valid.l1 (p0 : api_PowerDevice) : Nat → Int → Option (Fl (Bool) (Unit))
  | 0, _ => none
  | k298 + 1, m1_0 => if decide (m1_0 < 6) = true then ((idx (Ar6.l p0.Deepest) m1_0).bind fun x302 => (device_isState.f x302).bind fun r310 => (if (!r310) = true then some true else (if decide (0 < m1_0) = true then (idx (Ar6.l p0.Deepest) (wi (m1_0 - 1))).bind fun x325 => some (decide (x302 < x325)) else some false).bind fun t332 => some t332).bind fun t357 => if t357 = true then (some (.out false)) else (device_valid.l1 p0 k298 (wi (m1_0 + 1)))) else (some (.nxt ()))
def device_valid.f (p0 : api_PowerDevice) (p1 : Int) (p2 : Int) : Option (Bool) := (device_valid.l0 p0 p2 FUEL 0 : Option (Fl (Bool) (Unit))).bind fun o9 => o9.go fun _ => (device_valid.l1 p0 FUEL 0 : Option (Fl (Bool) (Unit))).bind fun o292 => o292.go fun _ => some (((((((decide ((-1) ≤ p0.Parent)) && (decide (p0.Parent < p1))) && (p0.Deepest.a0 == 0)) && (decide (0 ≤ p0.WakeSystem))) && (decide (p0.WakeSystem ≤ 4))) && (decide (0 ≤ p0.WakeDevice))) && (decide (p0.WakeDevice ≤ 3)))
set_option maxRecDepth 100000 in
set_option maxHeartbeats 4000000 in
theorem device_valid.calls {p0 : api_PowerDevice} {C0 : Nat → Prop} {A0_0 : Option Addr} {cap0_0 : Nat} {A0_1 : Option Addr} {cap0_1 : Nat} {A0_2 : Option Addr} {cap0_2 : Nat} {A0_3 : Option Addr} {cap0_3 : Nat} {p1 : Int} {p2 : Int} {w : World} {g : Nat → Nat} {out : Bool} (N : Nat) (hp0_0 : RdS (kint .i64) w g C0 A0_0 cap0_0 p0.Rails.a0) (hp0_1 : RdS (kint .i64) w g C0 A0_1 cap0_1 p0.Rails.a1) (hp0_2 : RdS (kint .i64) w g C0 A0_2 cap0_2 p0.Rails.a2) (hp0_3 : RdS (kint .i64) w g C0 A0_3 cap0_3 p0.Rails.a3) (hC0 : ∀ c, C0 c → c < N) (H : device_valid.f p0 p1 p2 = some out) :
    Calls Try.prog 39 #[.agg #[.int .i64 p0.Parent, .slice A0_0 p0.Rails.a0.length cap0_0, .slice A0_1 p0.Rails.a1.length cap0_1, .slice A0_2 p0.Rails.a2.length cap0_2, .slice A0_3 p0.Rails.a3.length cap0_3, .int .i64 p0.Deepest.a0, .int .i64 p0.Deepest.a1, .int .i64 p0.Deepest.a2, .int .i64 p0.Deepest.a3, .int .i64 p0.Deepest.a4, .int .i64 p0.Deepest.a5, .int .i64 p0.WakeDevice, .int .i64 p0.WakeSystem], .int .i64 p1, .int .i64 p2] w (fun e w' => ∃ v, e = .returned v ∧ ∃ (g' : Nat → Nat), v = .bool out ∧ Fr (fun q => N ≤ q) w g w' g') := by
  unfold device_valid.f at H
  refine calls_enter Try.func39 rfl Try.ntmps39 rfl (fun a hS => ?_)
  replace hS : Sl 99 a [(0, .agg #[.int .i64 p0.Parent, .slice A0_0 p0.Rails.a0.length cap0_0, .slice A0_1 p0.Rails.a1.length cap0_1, .slice A0_2 p0.Rails.a2.length cap0_2, .slice A0_3 p0.Rails.a3.length cap0_3, .int .i64 p0.Deepest.a0, .int .i64 p0.Deepest.a1, .int .i64 p0.Deepest.a2, .int .i64 p0.Deepest.a3, .int .i64 p0.Deepest.a4, .int .i64 p0.Deepest.a5, .int .i64 p0.WakeDevice, .int .i64 p0.WakeSystem]), (1, .int .i64 p1), (2, .int .i64 p2)] := hS
  have hF : Fr (fun q => N ≤ q) w g w g := Fr.refl _ _ _
  refine c_region (fun K hK => ?_)
  refine st_eff hS rfl rfl rfl (e_box (cs := [.int .i64 p0.Parent, .slice A0_0 p0.Rails.a0.length cap0_0, .slice A0_1 p0.Rails.a1.length cap0_1, .slice A0_2 p0.Rails.a2.length cap0_2, .slice A0_3 p0.Rails.a3.length cap0_3, .int .i64 p0.Deepest.a0, .int .i64 p0.Deepest.a1, .int .i64 p0.Deepest.a2, .int .i64 p0.Deepest.a3, .int .i64 p0.Deepest.a4, .int .i64 p0.Deepest.a5, .int .i64 p0.WakeDevice, .int .i64 p0.WakeSystem]) (N + 0) g hS rfl rfl rfl) ?_
  rintro _ a4 w5 g5 ⟨⟨b1, rfl, h2⟩, F5⟩ hS4
  replace hp0_0 := RdS.fr hp0_0 F5 (by decide) (fun _ _ h => h)
  replace hp0_1 := RdS.fr hp0_1 F5 (by decide) (fun _ _ h => h)
  replace hp0_2 := RdS.fr hp0_2 F5 (by decide) (fun _ _ h => h)
  replace hp0_3 := RdS.fr hp0_3 F5 (by decide) (fun _ _ h => h)
  replace hF := hF.trans F5 (fun _ h => h.elim)
  refine st_val hS4 rfl rfl rfl (r_assign hS4 rfl rfl) fun a6 hS6 => wpList_nil (hK _ _ ?_)
  replace hS : Sl 99 _ [(1, .int .i64 p1), (2, .int .i64 p2), (3, .pointer (some ⟨b1, 0, none⟩))] := hS6.re ⟨rfl, rfl, rfl, trivial⟩
  clear hK K
  try clear hS4 hS6
  obtain ⟨a, ha⟩ : ∃ a', a' = a6 := ⟨_, rfl⟩
  rw [← ha] at hS ⊢; clear ha
  obtain ⟨o9, H, Hl10⟩ := bind_el H
  refine c_cut (fun a w7 => ∃ (g7 : Nat → Nat), o9 = .nxt () ∧ Sl 99 a [(1, .int .i64 p1), (3, .pointer (some ⟨b1, 0, none⟩))] ∧ Bx w7 g7 (N + 0) b1 33 [.int .i64 p0.Parent, .slice A0_0 p0.Rails.a0.length cap0_0, .slice A0_1 p0.Rails.a1.length cap0_1, .slice A0_2 p0.Rails.a2.length cap0_2, .slice A0_3 p0.Rails.a3.length cap0_3, .int .i64 p0.Deepest.a0, .int .i64 p0.Deepest.a1, .int .i64 p0.Deepest.a2, .int .i64 p0.Deepest.a3, .int .i64 p0.Deepest.a4, .int .i64 p0.Deepest.a5, .int .i64 p0.WakeDevice, .int .i64 p0.WakeSystem] ∧ RdS (kint .i64) w7 g7 C0 A0_0 cap0_0 p0.Rails.a0 ∧ RdS (kint .i64) w7 g7 C0 A0_1 cap0_1 p0.Rails.a1 ∧ RdS (kint .i64) w7 g7 C0 A0_2 cap0_2 p0.Rails.a2 ∧ RdS (kint .i64) w7 g7 C0 A0_3 cap0_3 p0.Rails.a3 ∧ Fr (fun q => N ≤ q) w g w7 g7) ?_ ?_
  · refine c_pure [(1, .int .i64 p1), (2, .int .i64 p2), (3, .pointer (some ⟨b1, 0, none⟩)), (12, .agg #[.slice A0_0 p0.Rails.a0.length cap0_0, .slice A0_1 p0.Rails.a1.length cap0_1, .slice A0_2 p0.Rails.a2.length cap0_2, .slice A0_3 p0.Rails.a3.length cap0_3]), (13, .int .i64 0)] (fun R hR => st_val hS rfl rfl rfl (r_fieldB (off := 1) hS rfl rfl (by kernel_rfl)) fun a11 hS11 => st_val hS11 rfl rfl rfl (r_loadN (n := 4) (cs := [.slice A0_0 p0.Rails.a0.length cap0_0, .slice A0_1 p0.Rails.a1.length cap0_1, .slice A0_2 p0.Rails.a2.length cap0_2, .slice A0_3 p0.Rails.a3.length cap0_3]) hS11 rfl rfl (by kernel_rfl) rfl (Bx.cells_off h2 1 4)) fun a12 hS12 => st_val hS12 rfl rfl rfl (r_move hS12 rfl rfl) fun a13 hS13 => wpList_nil (hR _ (hS13.re ⟨rfl, rfl, rfl, rfl, rfl, trivial⟩))) ?_
    clear hS
    clear a
    intro a hS
    refine wp_block ?_
    refine wp_loop_ghost (fun kq => fun a w14 => ∃ (m0_0 : Int), ∃ (g14 : Nat → Nat), device_valid.l0 p0 p2 kq m0_0 = some o9 ∧ Sl 99 a [(1, .int .i64 p1), (2, .int .i64 p2), (3, .pointer (some ⟨b1, 0, none⟩)), (12, .agg #[.slice A0_0 p0.Rails.a0.length cap0_0, .slice A0_1 p0.Rails.a1.length cap0_1, .slice A0_2 p0.Rails.a2.length cap0_2, .slice A0_3 p0.Rails.a3.length cap0_3]), (13, .int .i64 m0_0)] ∧ Bx w14 g14 (N + 0) b1 33 [.int .i64 p0.Parent, .slice A0_0 p0.Rails.a0.length cap0_0, .slice A0_1 p0.Rails.a1.length cap0_1, .slice A0_2 p0.Rails.a2.length cap0_2, .slice A0_3 p0.Rails.a3.length cap0_3, .int .i64 p0.Deepest.a0, .int .i64 p0.Deepest.a1, .int .i64 p0.Deepest.a2, .int .i64 p0.Deepest.a3, .int .i64 p0.Deepest.a4, .int .i64 p0.Deepest.a5, .int .i64 p0.WakeDevice, .int .i64 p0.WakeSystem] ∧ RdS (kint .i64) w14 g14 C0 A0_0 cap0_0 p0.Rails.a0 ∧ RdS (kint .i64) w14 g14 C0 A0_1 cap0_1 p0.Rails.a1 ∧ RdS (kint .i64) w14 g14 C0 A0_2 cap0_2 p0.Rails.a2 ∧ RdS (kint .i64) w14 g14 C0 A0_3 cap0_3 p0.Rails.a3 ∧ Fr (fun q => N ≤ q) w g w14 g14) FUEL ?_ ?_
    · exact ⟨0, g5, H, hS.re ⟨rfl, rfl, rfl, rfl, rfl, trivial⟩, h2, hp0_0, hp0_1, hp0_2, hp0_3, hF⟩
    · clear H
      clear hp0_0 hp0_1 hp0_2 hp0_3 h2 hF
      clear hS
      rintro k15 a w14 ⟨m0_0, g14, hpre0, hS, h2, hp0_0, hp0_1, hp0_2, hp0_3, hF⟩
      have H := hpre0
      clear hpre0
      cases k15 with
      | zero => exact absurd H (by simp [device_valid.l0])
      | succ k15 =>
        rw [device_valid.l0] at H
        refine c_pure [(1, .int .i64 p1), (2, .int .i64 p2), (3, .pointer (some ⟨b1, 0, none⟩)), (12, .agg #[.slice A0_0 p0.Rails.a0.length cap0_0, .slice A0_1 p0.Rails.a1.length cap0_1, .slice A0_2 p0.Rails.a2.length cap0_2, .slice A0_3 p0.Rails.a3.length cap0_3]), (13, .int .i64 m0_0), (14, .bool (decide (m0_0 < 4)))] (fun R hR => st_val hS rfl rfl rfl (r_bin hS rfl rfl rfl b_lss) fun a16 hS16 => wpList_nil (hR _ (hS16.re ⟨rfl, rfl, rfl, rfl, rfl, rfl, trivial⟩))) ?_
        clear hS
        clear a
        intro a hS
        refine c_if hS rfl (fun hb17 => ?_) (fun hb17 => ?_)
        · replace H := ite_t hb17 H
          refine wp_skip ?_
          change Code.wp _ _ _ _ _
          refine wp_seq ?_
          refine wp_block ?_
          obtain ⟨x18, hx19, H⟩ := bind_el H
          refine c_region (fun K hK => ?_)
          obtain ⟨A21, cap22, he20, h23⟩ : ∃ (A21 : Option Addr) (cap22 : Nat), (([.slice A0_0 p0.Rails.a0.length cap0_0, .slice A0_1 p0.Rails.a1.length cap0_1, .slice A0_2 p0.Rails.a2.length cap0_2, .slice A0_3 p0.Rails.a3.length cap0_3] : List Value).drop (m0_0.toNat * 1)).take 1 = [.slice A21 x18.length cap22] ∧ RdS (kint .i64) w14 g14 C0 A21 cap22 x18 := by
            rcases Ar4.cases hx19 with ⟨e, e2⟩ | ⟨e, e2⟩ | ⟨e, e2⟩ | ⟨e, e2⟩
            · subst e2; exact ⟨A0_0, cap0_0, (by rw [e] <;> rfl), hp0_0⟩
            · subst e2; exact ⟨A0_1, cap0_1, (by rw [e] <;> rfl), hp0_1⟩
            · subst e2; exact ⟨A0_2, cap0_2, (by rw [e] <;> rfl), hp0_2⟩
            · subst e2; exact ⟨A0_3, cap0_3, (by rw [e] <;> rfl), hp0_3⟩
          refine st_val hS rfl rfl rfl (r_at1 (cs := [.slice A0_0 p0.Rails.a0.length cap0_0, .slice A0_1 p0.Rails.a1.length cap0_1, .slice A0_2 p0.Rails.a2.length cap0_2, .slice A0_3 p0.Rails.a3.length cap0_3]) (v := .slice A21 x18.length cap22) (n := 4) (e := 29) (sz := 1) hS rfl rfl rfl (by kernel_rfl) (idx_lo hx19) (Ar4.lt hx19) he20) fun a26 hS26 => st_val hS26 rfl rfl rfl (r_assign hS26 rfl rfl) fun a27 hS27 => wpList_nil (hK _ _ ?_)
          replace hS : Sl 99 _ [(1, .int .i64 p1), (2, .int .i64 p2), (3, .pointer (some ⟨b1, 0, none⟩)), (8, .slice A21 x18.length cap22), (12, .agg #[.slice A0_0 p0.Rails.a0.length cap0_0, .slice A0_1 p0.Rails.a1.length cap0_1, .slice A0_2 p0.Rails.a2.length cap0_2, .slice A0_3 p0.Rails.a3.length cap0_3]), (13, .int .i64 m0_0)] := hS27.re ⟨rfl, rfl, rfl, rfl, rfl, rfl, trivial⟩
          clear hK K
          try clear hS26 hS27
          obtain ⟨a, ha⟩ : ∃ a', a' = a27 := ⟨_, rfl⟩
          rw [← ha] at hS ⊢; clear ha
          obtain ⟨r29, hr30, H⟩ := bind_el H
          obtain ⟨t148, ht149, H⟩ := bind_el H
          refine c_region (fun K hK => ?_)
          refine st_val hS rfl rfl rfl (r_move hS rfl rfl) fun a28 hS28 => ?_
          refine st_enter hS28 rfl rfl rfl (r_call hS28 rfl rfl (by kernel_rfl)) (device_ascending.calls (C0 := C0) (p0 := x18) (g := g14) (N + 2)  h23 (fun q (hq : C0 q) => by have := hC0 q hq; omega) hr30) ?_
          rintro _ a31 w32 ⟨g32, rfl, F32⟩ hS31
          replace h23 := RdS.fr h23 F32 (by decide) (fun q (hq : C0 q) (hm : N + 2 ≤ q) => by have := hC0 q hq; omega)
          replace h2 := h2.fr F32 (fun (hm : N + 2 ≤ N + 0) => by omega)
          replace hp0_0 := RdS.fr hp0_0 F32 (by decide) (fun q (hq : C0 q) (hm : N + 2 ≤ q) => by have := hC0 q hq; omega)
          replace hp0_1 := RdS.fr hp0_1 F32 (by decide) (fun q (hq : C0 q) (hm : N + 2 ≤ q) => by have := hC0 q hq; omega)
          replace hp0_2 := RdS.fr hp0_2 F32 (by decide) (fun q (hq : C0 q) (hm : N + 2 ≤ q) => by have := hC0 q hq; omega)
          replace hp0_3 := RdS.fr hp0_3 F32 (by decide) (fun q (hq : C0 q) (hm : N + 2 ≤ q) => by have := hC0 q hq; omega)
          replace hF := hF.trans F32 (fun c' (hm : N + 2 ≤ c') => by show N ≤ c'; omega)
          refine st_val hS31 rfl rfl rfl (r_not hS31 rfl rfl) fun a33 hS33 => st_val hS33 rfl rfl rfl (r_move hS33 rfl rfl) fun a34 hS34 => ?_
          refine g_join (N := 99) 20 [(1, .int .i64 p1), (2, .int .i64 p2), (3, .pointer (some ⟨b1, 0, none⟩)), (12, .agg #[.slice A0_0 p0.Rails.a0.length cap0_0, .slice A0_1 p0.Rails.a1.length cap0_1, .slice A0_2 p0.Rails.a2.length cap0_2, .slice A0_3 p0.Rails.a3.length cap0_3]), (13, .int .i64 m0_0), (39, .bool t148)] ?_ (fun hk => ?_)
          rotate_left
          · rcases Bool.eq_false_or_eq_true ((!r29)) with hb35 | hb35
            · have H := ite_t hb35 ht149
              have e150 := Option.some.inj H
              refine st_off hS34 (want_off hS34 rfl rfl rfl hb35) rfl rfl fun a151 hS151 => st_off hS151 (want_off hS151 rfl rfl rfl hb35) rfl rfl fun a152 hS152 => st_off hS152 (want_off hS152 rfl rfl rfl hb35) rfl rfl fun a153 hS153 => st_off hS153 (want_off hS153 rfl rfl rfl hb35) rfl rfl fun a154 hS154 => st_off hS154 (want_un hS154 rfl rfl rfl) rfl rfl fun a155 hS155 => st_off hS155 (want_un hS155 rfl rfl rfl) rfl rfl fun a156 hS156 => st_off hS156 (want_un hS156 rfl rfl rfl) rfl rfl fun a157 hS157 => st_off hS157 (want_un hS157 rfl rfl rfl) rfl rfl fun a158 hS158 => st_off hS158 (want_un hS158 rfl rfl rfl) rfl rfl fun a159 hS159 => st_off hS159 (want_un hS159 rfl rfl rfl) rfl rfl fun a160 hS160 => st_off hS160 (want_un hS160 rfl rfl rfl) rfl rfl fun a161 hS161 => st_off hS161 (want_un hS161 rfl rfl rfl) rfl rfl fun a162 hS162 => st_off hS162 (want_un hS162 rfl rfl rfl) rfl rfl fun a163 hS163 => st_off hS163 (want_un hS163 rfl rfl rfl) rfl rfl fun a164 hS164 => st_off hS164 (want_un hS164 rfl rfl rfl) rfl rfl fun a165 hS165 => st_off hS165 (want_un hS165 rfl rfl rfl) rfl rfl fun a166 hS166 => st_off hS166 (want_un hS166 rfl rfl rfl) rfl rfl fun a167 hS167 => st_off hS167 (want_un hS167 rfl rfl rfl) rfl rfl fun a168 hS168 => st_off hS168 (want_off hS168 rfl rfl rfl hb35) rfl rfl fun a169 hS169 => st_val hS169 rfl rfl rfl (r_pickT hS169 rfl rfl rfl hb35) fun a170 hS170 => hk _ (hS170.re ⟨rfl, rfl, rfl, rfl, rfl, (by rw [← e150]; rfl), trivial⟩)
            · have H := ite_f hb35 ht149
              obtain ⟨t219, ht220, H⟩ := bind_el H
              have e283 := Option.some.inj H
              refine st_valW hS34 (want_on hS34 rfl rfl rfl hb35) rfl rfl (r_move hS34 rfl rfl) fun a171 hS171 => st_valW hS171 (want_on hS171 rfl rfl rfl hb35) rfl rfl (r_len (e := 3) (sz := 1) (by_ := 8) hS171 rfl rfl (by kernel_rfl)) fun a172 hS172 => st_valW hS172 (want_on hS172 rfl rfl rfl hb35) rfl rfl (r_bin hS172 rfl rfl rfl b_gtr) fun a173 hS173 => st_valW hS173 (want_on hS173 rfl rfl rfl hb35) rfl rfl (r_move hS173 rfl rfl) fun a174 hS174 => ?_
              refine g_join (N := 99) 15 [(1, .int .i64 p1), (2, .int .i64 p2), (3, .pointer (some ⟨b1, 0, none⟩)), (12, .agg #[.slice A0_0 p0.Rails.a0.length cap0_0, .slice A0_1 p0.Rails.a1.length cap0_1, .slice A0_2 p0.Rails.a2.length cap0_2, .slice A0_3 p0.Rails.a3.length cap0_3]), (13, .int .i64 m0_0), (19, .bool (!r29)), (20, .slice A21 x18.length cap22), (21, .int .i64 (x18.length : Int)), (22, .bool (decide (0 < (x18.length : Int)))), (23, .bool (decide (0 < (x18.length : Int)))), (38, .bool t219)] ?_ (fun hk => ?_)
              rotate_left
              · rcases Bool.eq_false_or_eq_true (decide (0 < (x18.length : Int))) with hb175 | hb175
                · have H := ite_t hb175 ht220
                  obtain ⟨x222, hx223, H⟩ := bind_el H
                  obtain ⟨t239, ht240, H⟩ := bind_el H
                  have e264 := Option.some.inj H
                  refine st_valW hS174 (want_on hS174 rfl rfl rfl hb175) rfl rfl (r_move hS174 rfl rfl) fun a221 hS221 => st_valW hS221 (want_on hS221 rfl rfl rfl hb175) rfl rfl (r_index (e := 3) (sz := 1) (by_ := 8) hS221 rfl rfl rfl (by kernel_rfl) (RdS.some_ h23 hx223) (idx_lo hx223) (idx_hi hx223)) fun a224 hS224 => st_valW hS224 (want_on hS224 rfl rfl rfl hb175) rfl rfl (r_load1 (n := 1) hS224 rfl rfl (by kernel_rfl) (RdS.cell (i := 0) (sz := 1) (j := 0) h23 hx223 rfl)) fun a225 hS225 => st_valW hS225 (want_on hS225 rfl rfl rfl hb175) rfl rfl (r_bin hS225 rfl rfl rfl b_lss) fun a226 hS226 => st_valW hS226 (want_on hS226 rfl rfl rfl hb175) rfl rfl (r_move hS226 rfl rfl) fun a227 hS227 => ?_
                  refine g_join (N := 99) 9 [(1, .int .i64 p1), (2, .int .i64 p2), (3, .pointer (some ⟨b1, 0, none⟩)), (12, .agg #[.slice A0_0 p0.Rails.a0.length cap0_0, .slice A0_1 p0.Rails.a1.length cap0_1, .slice A0_2 p0.Rails.a2.length cap0_2, .slice A0_3 p0.Rails.a3.length cap0_3]), (13, .int .i64 m0_0), (19, .bool (!r29)), (20, .slice A21 x18.length cap22), (21, .int .i64 (x18.length : Int)), (22, .bool (decide (0 < (x18.length : Int)))), (23, .bool (decide (0 < (x18.length : Int)))), (24, .slice A21 x18.length cap22), (25, .pointer (some (ea A21 ((0 : Int).toNat * 1)))), (26, .int .i64 x222), (27, .bool (decide (x222 < 0))), (28, .bool (decide (x222 < 0))), (37, .bool t239)] ?_ (fun hk => ?_)
                  rotate_left
                  · rcases Bool.eq_false_or_eq_true (decide (x222 < 0)) with hb228 | hb228
                    · have H := ite_t hb228 ht240
                      have e241 := Option.some.inj H
                      refine st_off hS227 (want_off hS227 rfl rfl rfl hb228) rfl rfl fun a242 hS242 => st_off hS242 (want_off hS242 rfl rfl rfl hb228) rfl rfl fun a243 hS243 => st_off hS243 (want_off hS243 rfl rfl rfl hb228) rfl rfl fun a244 hS244 => st_off hS244 (want_off hS244 rfl rfl rfl hb228) rfl rfl fun a245 hS245 => st_off hS245 (want_off hS245 rfl rfl rfl hb228) rfl rfl fun a246 hS246 => st_off hS246 (want_off hS246 rfl rfl rfl hb228) rfl rfl fun a247 hS247 => st_off hS247 (want_off hS247 rfl rfl rfl hb228) rfl rfl fun a248 hS248 => st_off hS248 (want_off hS248 rfl rfl rfl hb228) rfl rfl fun a249 hS249 => st_valW hS249 (want_on hS249 rfl rfl rfl hb175) rfl rfl (r_pickT hS249 rfl rfl rfl hb228) fun a250 hS250 => hk _ (hS250.re ⟨rfl, rfl, rfl, rfl, rfl, rfl, rfl, rfl, rfl, rfl, rfl, rfl, rfl, rfl, rfl, (by rw [← e241]; rfl), trivial⟩)
                    · have H := ite_f hb228 ht240
                      obtain ⟨x255, hx256, H⟩ := bind_el H
                      have e261 := Option.some.inj H
                      refine st_valW hS227 (want_on hS227 rfl rfl rfl hb228) rfl rfl (r_move hS227 rfl rfl) fun a251 hS251 => st_valW hS251 (want_on hS251 rfl rfl rfl hb228) rfl rfl (r_move hS251 rfl rfl) fun a252 hS252 => st_valW hS252 (want_on hS252 rfl rfl rfl hb228) rfl rfl (r_len (e := 3) (sz := 1) (by_ := 8) hS252 rfl rfl (by kernel_rfl)) fun a253 hS253 => st_valW hS253 (want_on hS253 rfl rfl rfl hb228) rfl rfl (r_bin hS253 rfl rfl rfl b_sub) fun a254 hS254 => st_valW hS254 (want_on hS254 rfl rfl rfl hb228) rfl rfl (r_index (e := 3) (sz := 1) (by_ := 8) hS254 rfl rfl rfl (by kernel_rfl) (RdS.some_ h23 hx256) (idx_lo hx256) (idx_hi hx256)) fun a257 hS257 => st_valW hS257 (want_on hS257 rfl rfl rfl hb228) rfl rfl (r_load1 (n := 1) hS257 rfl rfl (by kernel_rfl) (RdS.cell (i := wi ((x18.length : Int) - 1)) (sz := 1) (j := 0) h23 hx256 rfl)) fun a258 hS258 => st_valW hS258 (want_on hS258 rfl rfl rfl hb228) rfl rfl (r_move hS258 rfl rfl) fun a259 hS259 => st_valW hS259 (want_on hS259 rfl rfl rfl hb228) rfl rfl (r_bin hS259 rfl rfl rfl b_geq) fun a260 hS260 => st_valW hS260 (want_on hS260 rfl rfl rfl hb175) rfl rfl (r_pickF hS260 rfl rfl rfl hb228) fun a262 hS262 => hk _ (hS262.re ⟨rfl, rfl, rfl, rfl, rfl, rfl, rfl, rfl, rfl, rfl, rfl, rfl, rfl, rfl, rfl, (by rw [← e261]; rfl), trivial⟩)
                  intro a263 hS263
                  refine st_valW hS263 (want_on hS263 rfl rfl rfl hb35) rfl rfl (r_pickT hS263 rfl rfl rfl hb175) fun a265 hS265 => hk _ (hS265.re ⟨rfl, rfl, rfl, rfl, rfl, rfl, rfl, rfl, rfl, rfl, (by rw [← e264]; rfl), trivial⟩)
                · have H := ite_f hb175 ht220
                  have e266 := Option.some.inj H
                  refine st_off hS174 (want_off hS174 rfl rfl rfl hb175) rfl rfl fun a267 hS267 => st_off hS267 (want_off hS267 rfl rfl rfl hb175) rfl rfl fun a268 hS268 => st_off hS268 (want_off hS268 rfl rfl rfl hb175) rfl rfl fun a269 hS269 => st_off hS269 (want_off hS269 rfl rfl rfl hb175) rfl rfl fun a270 hS270 => st_off hS270 (want_off hS270 rfl rfl rfl hb175) rfl rfl fun a271 hS271 => st_off hS271 (want_un hS271 rfl rfl rfl) rfl rfl fun a272 hS272 => st_off hS272 (want_un hS272 rfl rfl rfl) rfl rfl fun a273 hS273 => st_off hS273 (want_un hS273 rfl rfl rfl) rfl rfl fun a274 hS274 => st_off hS274 (want_un hS274 rfl rfl rfl) rfl rfl fun a275 hS275 => st_off hS275 (want_un hS275 rfl rfl rfl) rfl rfl fun a276 hS276 => st_off hS276 (want_un hS276 rfl rfl rfl) rfl rfl fun a277 hS277 => st_off hS277 (want_un hS277 rfl rfl rfl) rfl rfl fun a278 hS278 => st_off hS278 (want_un hS278 rfl rfl rfl) rfl rfl fun a279 hS279 => st_off hS279 (want_off hS279 rfl rfl rfl hb175) rfl rfl fun a280 hS280 => st_valW hS280 (want_on hS280 rfl rfl rfl hb35) rfl rfl (r_pickF hS280 rfl rfl rfl hb175) fun a281 hS281 => hk _ (hS281.re ⟨rfl, rfl, rfl, rfl, rfl, rfl, rfl, rfl, rfl, rfl, (by rw [← e266]; rfl), trivial⟩)
              intro a282 hS282
              refine st_val hS282 rfl rfl rfl (r_pickF hS282 rfl rfl rfl hb35) fun a284 hS284 => hk _ (hS284.re ⟨rfl, rfl, rfl, rfl, rfl, (by rw [← e283]; rfl), trivial⟩)
          intro a285 hS285
          refine wpList_nil (hK _ _ ?_)
          replace hS : Sl 99 _ [(1, .int .i64 p1), (2, .int .i64 p2), (3, .pointer (some ⟨b1, 0, none⟩)), (12, .agg #[.slice A0_0 p0.Rails.a0.length cap0_0, .slice A0_1 p0.Rails.a1.length cap0_1, .slice A0_2 p0.Rails.a2.length cap0_2, .slice A0_3 p0.Rails.a3.length cap0_3]), (13, .int .i64 m0_0), (39, .bool t148)] := hS285.re ⟨rfl, rfl, rfl, rfl, rfl, rfl, trivial⟩
          clear hK K
          try clear hS28 hS31 hS33 hS34 hS285
          obtain ⟨a, ha⟩ : ∃ a', a' = a285 := ⟨_, rfl⟩
          rw [← ha] at hS ⊢; clear ha
          refine c_cond hS rfl (fun hb286 => ?_) (fun hb286 => ?_)
          · replace H := ite_t hb286 H
            refine c_pure [(6, .bool false)] (fun R hR => st_val hS rfl rfl rfl (r_assign hS rfl rfl) fun a287 hS287 => wpList_nil (hR _ (hS287.re ⟨rfl, trivial⟩))) ?_
            clear hS
            clear a
            intro a hS
            refine wp_ret ?_
            have e := Option.some.inj H
            subst e
            replace H := Fl.go_out Hl10
            have e := Option.some.inj H
            subst e
            repeat (with_reducible first | refine then_ret ?_ | refine inBlock_ret ?_)
            exact c_ret1 hS Try.results39 rfl ⟨_, rfl, g32, rfl, hF⟩
          · replace H := ite_f hb286 H
            refine wp_skip ?_
            change Code.wp _ _ _ _ _
            refine c_pure1 [(1, .int .i64 p1), (2, .int .i64 p2), (3, .pointer (some ⟨b1, 0, none⟩)), (12, .agg #[.slice A0_0 p0.Rails.a0.length cap0_0, .slice A0_1 p0.Rails.a1.length cap0_1, .slice A0_2 p0.Rails.a2.length cap0_2, .slice A0_3 p0.Rails.a3.length cap0_3]), (13, .int .i64 (wi (m0_0 + 1)))] (fun R hR => st_val hS rfl rfl rfl (r_bin hS rfl rfl rfl b_add) fun a288 hS288 => st_val hS288 rfl rfl rfl (r_move hS288 rfl rfl) fun a289 hS289 => wpList_nil (hR _ (hS289.re ⟨rfl, rfl, rfl, rfl, rfl, trivial⟩))) ?_
            clear hS
            clear a
            intro a hS
            refine ⟨k15, Nat.lt_succ_self _, ?_⟩
            exact ⟨wi (m0_0 + 1), g32, H, hS.re ⟨rfl, rfl, rfl, rfl, rfl, trivial⟩, h2, hp0_0, hp0_1, hp0_2, hp0_3, hF⟩
        · replace H := ite_f hb17 H
          refine wp_exit ?_
          have e := Option.some.inj H
          exact ⟨g14, e.symm, hS.re ⟨rfl, rfl, trivial⟩, h2, hp0_0, hp0_1, hp0_2, hp0_3, hF⟩
  · clear H
    clear hp0_0 hp0_1 hp0_2 hp0_3 h2 hF
    clear hS
    rintro a w7 ⟨g7, hpre0, hS, h2, hp0_0, hp0_1, hp0_2, hp0_3, hF⟩
    subst hpre0
    have H := Fl.go_nxt Hl10
    clear Hl10
    obtain ⟨o292, H, Hl293⟩ := bind_el H
    refine c_cut (fun a w290 => ∃ (g290 : Nat → Nat), o292 = .nxt () ∧ Sl 99 a [(1, .int .i64 p1), (3, .pointer (some ⟨b1, 0, none⟩))] ∧ Bx w290 g290 (N + 0) b1 33 [.int .i64 p0.Parent, .slice A0_0 p0.Rails.a0.length cap0_0, .slice A0_1 p0.Rails.a1.length cap0_1, .slice A0_2 p0.Rails.a2.length cap0_2, .slice A0_3 p0.Rails.a3.length cap0_3, .int .i64 p0.Deepest.a0, .int .i64 p0.Deepest.a1, .int .i64 p0.Deepest.a2, .int .i64 p0.Deepest.a3, .int .i64 p0.Deepest.a4, .int .i64 p0.Deepest.a5, .int .i64 p0.WakeDevice, .int .i64 p0.WakeSystem] ∧ RdS (kint .i64) w290 g290 C0 A0_0 cap0_0 p0.Rails.a0 ∧ RdS (kint .i64) w290 g290 C0 A0_1 cap0_1 p0.Rails.a1 ∧ RdS (kint .i64) w290 g290 C0 A0_2 cap0_2 p0.Rails.a2 ∧ RdS (kint .i64) w290 g290 C0 A0_3 cap0_3 p0.Rails.a3 ∧ Fr (fun q => N ≤ q) w g w290 g290) ?_ ?_
    · refine c_pure [(1, .int .i64 p1), (3, .pointer (some ⟨b1, 0, none⟩)), (42, .agg #[.int .i64 p0.Deepest.a0, .int .i64 p0.Deepest.a1, .int .i64 p0.Deepest.a2, .int .i64 p0.Deepest.a3, .int .i64 p0.Deepest.a4, .int .i64 p0.Deepest.a5]), (43, .int .i64 0)] (fun R hR => st_val hS rfl rfl rfl (r_fieldB (off := 5) hS rfl rfl (by kernel_rfl)) fun a294 hS294 => st_val hS294 rfl rfl rfl (r_loadN (n := 6) (cs := [.int .i64 p0.Deepest.a0, .int .i64 p0.Deepest.a1, .int .i64 p0.Deepest.a2, .int .i64 p0.Deepest.a3, .int .i64 p0.Deepest.a4, .int .i64 p0.Deepest.a5]) hS294 rfl rfl (by kernel_rfl) rfl (Bx.cells_off h2 5 6)) fun a295 hS295 => st_val hS295 rfl rfl rfl (r_move hS295 rfl rfl) fun a296 hS296 => wpList_nil (hR _ (hS296.re ⟨rfl, rfl, rfl, rfl, trivial⟩))) ?_
      clear hS
      clear a
      intro a hS
      refine wp_block ?_
      refine wp_loop_ghost (fun kq => fun a w297 => ∃ (m1_0 : Int), ∃ (g297 : Nat → Nat), device_valid.l1 p0 kq m1_0 = some o292 ∧ Sl 99 a [(1, .int .i64 p1), (3, .pointer (some ⟨b1, 0, none⟩)), (42, .agg #[.int .i64 p0.Deepest.a0, .int .i64 p0.Deepest.a1, .int .i64 p0.Deepest.a2, .int .i64 p0.Deepest.a3, .int .i64 p0.Deepest.a4, .int .i64 p0.Deepest.a5]), (43, .int .i64 m1_0)] ∧ Bx w297 g297 (N + 0) b1 33 [.int .i64 p0.Parent, .slice A0_0 p0.Rails.a0.length cap0_0, .slice A0_1 p0.Rails.a1.length cap0_1, .slice A0_2 p0.Rails.a2.length cap0_2, .slice A0_3 p0.Rails.a3.length cap0_3, .int .i64 p0.Deepest.a0, .int .i64 p0.Deepest.a1, .int .i64 p0.Deepest.a2, .int .i64 p0.Deepest.a3, .int .i64 p0.Deepest.a4, .int .i64 p0.Deepest.a5, .int .i64 p0.WakeDevice, .int .i64 p0.WakeSystem] ∧ RdS (kint .i64) w297 g297 C0 A0_0 cap0_0 p0.Rails.a0 ∧ RdS (kint .i64) w297 g297 C0 A0_1 cap0_1 p0.Rails.a1 ∧ RdS (kint .i64) w297 g297 C0 A0_2 cap0_2 p0.Rails.a2 ∧ RdS (kint .i64) w297 g297 C0 A0_3 cap0_3 p0.Rails.a3 ∧ Fr (fun q => N ≤ q) w g w297 g297) FUEL ?_ ?_
      · exact ⟨0, g7, H, hS.re ⟨rfl, rfl, rfl, rfl, trivial⟩, h2, hp0_0, hp0_1, hp0_2, hp0_3, hF⟩
      · clear H
        clear hp0_0 hp0_1 hp0_2 hp0_3 h2 hF
        clear hS
        rintro k298 a w297 ⟨m1_0, g297, hpre0, hS, h2, hp0_0, hp0_1, hp0_2, hp0_3, hF⟩
        have H := hpre0
        clear hpre0
        cases k298 with
        | zero => exact absurd H (by simp [device_valid.l1])
        | succ k298 =>
          rw [device_valid.l1] at H
          refine c_pure [(1, .int .i64 p1), (3, .pointer (some ⟨b1, 0, none⟩)), (42, .agg #[.int .i64 p0.Deepest.a0, .int .i64 p0.Deepest.a1, .int .i64 p0.Deepest.a2, .int .i64 p0.Deepest.a3, .int .i64 p0.Deepest.a4, .int .i64 p0.Deepest.a5]), (43, .int .i64 m1_0), (44, .bool (decide (m1_0 < 6)))] (fun R hR => st_val hS rfl rfl rfl (r_bin hS rfl rfl rfl b_lss) fun a299 hS299 => wpList_nil (hR _ (hS299.re ⟨rfl, rfl, rfl, rfl, rfl, trivial⟩))) ?_
          clear hS
          clear a
          intro a hS
          refine c_if hS rfl (fun hb300 => ?_) (fun hb300 => ?_)
          · replace H := ite_t hb300 H
            refine wp_skip ?_
            change Code.wp _ _ _ _ _
            refine wp_seq ?_
            refine wp_block ?_
            obtain ⟨x302, hx303, H⟩ := bind_el H
            refine c_region (fun K hK => ?_)
            refine st_val hS rfl rfl rfl (r_move hS rfl rfl) fun a301 hS301 => ?_
            have he304 : (([.int .i64 p0.Deepest.a0, .int .i64 p0.Deepest.a1, .int .i64 p0.Deepest.a2, .int .i64 p0.Deepest.a3, .int .i64 p0.Deepest.a4, .int .i64 p0.Deepest.a5] : List Value).drop (m1_0.toNat * 1)).take 1 = [.int .i64 x302] := by rcases Ar6.cases hx303 with ⟨e, e2⟩ | ⟨e, e2⟩ | ⟨e, e2⟩ | ⟨e, e2⟩ | ⟨e, e2⟩ | ⟨e, e2⟩ <;> (rw [e, e2] <;> rfl)
            refine st_val hS301 rfl rfl rfl (r_at1 (cs := [.int .i64 p0.Deepest.a0, .int .i64 p0.Deepest.a1, .int .i64 p0.Deepest.a2, .int .i64 p0.Deepest.a3, .int .i64 p0.Deepest.a4, .int .i64 p0.Deepest.a5]) (v := .int .i64 x302) (n := 6) (e := 3) (sz := 1) hS301 rfl rfl rfl (by kernel_rfl) (idx_lo hx303) (Ar6.lt hx303) he304) fun a306 hS306 => st_val hS306 rfl rfl rfl (r_assign hS306 rfl rfl) fun a307 hS307 => st_val hS307 rfl rfl rfl (r_assign hS307 rfl rfl) fun a308 hS308 => wpList_nil (hK _ _ ?_)
            replace hS : Sl 99 _ [(1, .int .i64 p1), (3, .pointer (some ⟨b1, 0, none⟩)), (9, .int .i64 m1_0), (10, .int .i64 x302), (42, .agg #[.int .i64 p0.Deepest.a0, .int .i64 p0.Deepest.a1, .int .i64 p0.Deepest.a2, .int .i64 p0.Deepest.a3, .int .i64 p0.Deepest.a4, .int .i64 p0.Deepest.a5]), (43, .int .i64 m1_0)] := hS308.re ⟨rfl, rfl, rfl, rfl, rfl, rfl, trivial⟩
            clear hK K
            try clear hS301 hS306 hS307 hS308
            obtain ⟨a, ha⟩ : ∃ a', a' = a308 := ⟨_, rfl⟩
            rw [← ha] at hS ⊢; clear ha
            obtain ⟨r310, hr311, H⟩ := bind_el H
            obtain ⟨t357, ht358, H⟩ := bind_el H
            refine c_region (fun K hK => ?_)
            refine st_val hS rfl rfl rfl (r_move hS rfl rfl) fun a309 hS309 => ?_
            refine st_enter hS309 rfl rfl rfl (r_call hS309 rfl rfl (by kernel_rfl)) (device_isState.calls (p0 := x302) (g := g297) (N + 2)   hr311) ?_
            rintro _ a312 w313 ⟨g313, rfl, F313⟩ hS312
            replace h2 := h2.fr F313 (fun (hm : N + 2 ≤ N + 0) => by omega)
            replace hp0_0 := RdS.fr hp0_0 F313 (by decide) (fun q (hq : C0 q) (hm : N + 2 ≤ q) => by have := hC0 q hq; omega)
            replace hp0_1 := RdS.fr hp0_1 F313 (by decide) (fun q (hq : C0 q) (hm : N + 2 ≤ q) => by have := hC0 q hq; omega)
            replace hp0_2 := RdS.fr hp0_2 F313 (by decide) (fun q (hq : C0 q) (hm : N + 2 ≤ q) => by have := hC0 q hq; omega)
            replace hp0_3 := RdS.fr hp0_3 F313 (by decide) (fun q (hq : C0 q) (hm : N + 2 ≤ q) => by have := hC0 q hq; omega)
            replace hF := hF.trans F313 (fun c' (hm : N + 2 ≤ c') => by show N ≤ c'; omega)
            refine st_val hS312 rfl rfl rfl (r_not hS312 rfl rfl) fun a314 hS314 => st_val hS314 rfl rfl rfl (r_move hS314 rfl rfl) fun a315 hS315 => ?_
            refine g_join (N := 99) 12 [(1, .int .i64 p1), (3, .pointer (some ⟨b1, 0, none⟩)), (42, .agg #[.int .i64 p0.Deepest.a0, .int .i64 p0.Deepest.a1, .int .i64 p0.Deepest.a2, .int .i64 p0.Deepest.a3, .int .i64 p0.Deepest.a4, .int .i64 p0.Deepest.a5]), (43, .int .i64 m1_0), (62, .bool t357)] ?_ (fun hk => ?_)
            rotate_left
            · rcases Bool.eq_false_or_eq_true ((!r310)) with hb316 | hb316
              · have H := ite_t hb316 ht358
                have e359 := Option.some.inj H
                refine st_off hS315 (want_off hS315 rfl rfl rfl hb316) rfl rfl fun a360 hS360 => st_off hS360 (want_off hS360 rfl rfl rfl hb316) rfl rfl fun a361 hS361 => st_off hS361 (want_off hS361 rfl rfl rfl hb316) rfl rfl fun a362 hS362 => st_off hS362 (want_un hS362 rfl rfl rfl) rfl rfl fun a363 hS363 => st_off hS363 (want_un hS363 rfl rfl rfl) rfl rfl fun a364 hS364 => st_off hS364 (want_un hS364 rfl rfl rfl) rfl rfl fun a365 hS365 => st_off hS365 (want_un hS365 rfl rfl rfl) rfl rfl fun a366 hS366 => st_off hS366 (want_un hS366 rfl rfl rfl) rfl rfl fun a367 hS367 => st_off hS367 (want_un hS367 rfl rfl rfl) rfl rfl fun a368 hS368 => st_off hS368 (want_un hS368 rfl rfl rfl) rfl rfl fun a369 hS369 => st_off hS369 (want_off hS369 rfl rfl rfl hb316) rfl rfl fun a370 hS370 => st_val hS370 rfl rfl rfl (r_pickT hS370 rfl rfl rfl hb316) fun a371 hS371 => hk _ (hS371.re ⟨rfl, rfl, rfl, rfl, (by rw [← e359]; rfl), trivial⟩)
              · have H := ite_f hb316 ht358
                obtain ⟨t387, ht388, H⟩ := bind_el H
                have e412 := Option.some.inj H
                refine st_valW hS315 (want_on hS315 rfl rfl rfl hb316) rfl rfl (r_move hS315 rfl rfl) fun a372 hS372 => st_valW hS372 (want_on hS372 rfl rfl rfl hb316) rfl rfl (r_bin hS372 rfl rfl rfl b_gtr) fun a373 hS373 => st_valW hS373 (want_on hS373 rfl rfl rfl hb316) rfl rfl (r_move hS373 rfl rfl) fun a374 hS374 => ?_
                refine g_join (N := 99) 8 [(1, .int .i64 p1), (3, .pointer (some ⟨b1, 0, none⟩)), (42, .agg #[.int .i64 p0.Deepest.a0, .int .i64 p0.Deepest.a1, .int .i64 p0.Deepest.a2, .int .i64 p0.Deepest.a3, .int .i64 p0.Deepest.a4, .int .i64 p0.Deepest.a5]), (43, .int .i64 m1_0), (50, .bool (!r310)), (51, .int .i64 m1_0), (52, .bool (decide (0 < m1_0))), (53, .bool (decide (0 < m1_0))), (61, .bool t387)] ?_ (fun hk => ?_)
                rotate_left
                · rcases Bool.eq_false_or_eq_true (decide (0 < m1_0)) with hb375 | hb375
                  · have H := ite_t hb375 ht388
                    obtain ⟨x393, hx394, H⟩ := bind_el H
                    have e400 := Option.some.inj H
                    refine st_valW hS374 (want_on hS374 rfl rfl rfl hb375) rfl rfl (r_move hS374 rfl rfl) fun a389 hS389 => st_valW hS389 (want_on hS389 rfl rfl rfl hb375) rfl rfl (r_move hS389 rfl rfl) fun a390 hS390 => st_valW hS390 (want_on hS390 rfl rfl rfl hb375) rfl rfl (r_bin hS390 rfl rfl rfl b_sub) fun a391 hS391 => st_valW hS391 (want_on hS391 rfl rfl rfl hb375) rfl rfl (r_fieldB (off := 5) hS391 rfl rfl (by kernel_rfl)) fun a392 hS392 => ?_
                    have he395 : (([.int .i64 p0.Parent, .slice A0_0 p0.Rails.a0.length cap0_0, .slice A0_1 p0.Rails.a1.length cap0_1, .slice A0_2 p0.Rails.a2.length cap0_2, .slice A0_3 p0.Rails.a3.length cap0_3, .int .i64 p0.Deepest.a0, .int .i64 p0.Deepest.a1, .int .i64 p0.Deepest.a2, .int .i64 p0.Deepest.a3, .int .i64 p0.Deepest.a4, .int .i64 p0.Deepest.a5, .int .i64 p0.WakeDevice, .int .i64 p0.WakeSystem] : List Value).drop (5 + (wi (m1_0 - 1)).toNat * 1)).take 1 = [.int .i64 x393] := by rcases Ar6.cases hx394 with ⟨e, e2⟩ | ⟨e, e2⟩ | ⟨e, e2⟩ | ⟨e, e2⟩ | ⟨e, e2⟩ | ⟨e, e2⟩ <;> (rw [e, e2] <;> rfl)
                    refine st_valW hS392 (want_on hS392 rfl rfl rfl hb375) rfl rfl (r_ixB (n := 6) (e := 3) (sz := 1) (bb := false) hS392 rfl rfl rfl (by kernel_rfl) (idx_lo hx394) (Ar6.lt hx394)) fun a397 hS397 => st_valW hS397 (want_on hS397 rfl rfl rfl hb375) rfl rfl (r_load1 (n := 1) hS397 rfl rfl (by kernel_rfl) (Bx.at_ (j := 0) h2 he395 rfl)) fun a398 hS398 => st_valW hS398 (want_on hS398 rfl rfl rfl hb375) rfl rfl (r_bin hS398 rfl rfl rfl b_lss) fun a399 hS399 => st_valW hS399 (want_on hS399 rfl rfl rfl hb316) rfl rfl (r_pickT hS399 rfl rfl rfl hb375) fun a401 hS401 => hk _ (hS401.re ⟨rfl, rfl, rfl, rfl, rfl, rfl, rfl, rfl, (by rw [← e400]; rfl), trivial⟩)
                  · have H := ite_f hb375 ht388
                    have e402 := Option.some.inj H
                    refine st_off hS374 (want_off hS374 rfl rfl rfl hb375) rfl rfl fun a403 hS403 => st_off hS403 (want_off hS403 rfl rfl rfl hb375) rfl rfl fun a404 hS404 => st_off hS404 (want_off hS404 rfl rfl rfl hb375) rfl rfl fun a405 hS405 => st_off hS405 (want_off hS405 rfl rfl rfl hb375) rfl rfl fun a406 hS406 => st_off hS406 (want_off hS406 rfl rfl rfl hb375) rfl rfl fun a407 hS407 => st_off hS407 (want_off hS407 rfl rfl rfl hb375) rfl rfl fun a408 hS408 => st_off hS408 (want_off hS408 rfl rfl rfl hb375) rfl rfl fun a409 hS409 => st_valW hS409 (want_on hS409 rfl rfl rfl hb316) rfl rfl (r_pickF hS409 rfl rfl rfl hb375) fun a410 hS410 => hk _ (hS410.re ⟨rfl, rfl, rfl, rfl, rfl, rfl, rfl, rfl, (by rw [← e402]; rfl), trivial⟩)
                intro a411 hS411
                refine st_val hS411 rfl rfl rfl (r_pickF hS411 rfl rfl rfl hb316) fun a413 hS413 => hk _ (hS413.re ⟨rfl, rfl, rfl, rfl, (by rw [← e412]; rfl), trivial⟩)
            intro a414 hS414
            refine wpList_nil (hK _ _ ?_)
            replace hS : Sl 99 _ [(1, .int .i64 p1), (3, .pointer (some ⟨b1, 0, none⟩)), (42, .agg #[.int .i64 p0.Deepest.a0, .int .i64 p0.Deepest.a1, .int .i64 p0.Deepest.a2, .int .i64 p0.Deepest.a3, .int .i64 p0.Deepest.a4, .int .i64 p0.Deepest.a5]), (43, .int .i64 m1_0), (62, .bool t357)] := hS414.re ⟨rfl, rfl, rfl, rfl, rfl, trivial⟩
            clear hK K
            try clear hS309 hS312 hS314 hS315 hS414
            obtain ⟨a, ha⟩ : ∃ a', a' = a414 := ⟨_, rfl⟩
            rw [← ha] at hS ⊢; clear ha
            refine c_cond hS rfl (fun hb415 => ?_) (fun hb415 => ?_)
            · replace H := ite_t hb415 H
              refine c_pure [(6, .bool false)] (fun R hR => st_val hS rfl rfl rfl (r_assign hS rfl rfl) fun a416 hS416 => wpList_nil (hR _ (hS416.re ⟨rfl, trivial⟩))) ?_
              clear hS
              clear a
              intro a hS
              refine wp_ret ?_
              have e := Option.some.inj H
              subst e
              replace H := Fl.go_out Hl293
              have e := Option.some.inj H
              subst e
              repeat (with_reducible first | refine then_ret ?_ | refine inBlock_ret ?_)
              exact c_ret1 hS Try.results39 rfl ⟨_, rfl, g313, rfl, hF⟩
            · replace H := ite_f hb415 H
              refine wp_skip ?_
              change Code.wp _ _ _ _ _
              refine c_pure1 [(1, .int .i64 p1), (3, .pointer (some ⟨b1, 0, none⟩)), (42, .agg #[.int .i64 p0.Deepest.a0, .int .i64 p0.Deepest.a1, .int .i64 p0.Deepest.a2, .int .i64 p0.Deepest.a3, .int .i64 p0.Deepest.a4, .int .i64 p0.Deepest.a5]), (43, .int .i64 (wi (m1_0 + 1)))] (fun R hR => st_val hS rfl rfl rfl (r_bin hS rfl rfl rfl b_add) fun a417 hS417 => st_val hS417 rfl rfl rfl (r_move hS417 rfl rfl) fun a418 hS418 => wpList_nil (hR _ (hS418.re ⟨rfl, rfl, rfl, rfl, trivial⟩))) ?_
              clear hS
              clear a
              intro a hS
              refine ⟨k298, Nat.lt_succ_self _, ?_⟩
              exact ⟨wi (m1_0 + 1), g313, H, hS.re ⟨rfl, rfl, rfl, rfl, trivial⟩, h2, hp0_0, hp0_1, hp0_2, hp0_3, hF⟩
          · replace H := ite_f hb300 H
            refine wp_exit ?_
            have e := Option.some.inj H
            exact ⟨g297, e.symm, hS.re ⟨rfl, rfl, trivial⟩, h2, hp0_0, hp0_1, hp0_2, hp0_3, hF⟩
    · clear H
      clear hp0_0 hp0_1 hp0_2 hp0_3 h2 hF
      clear hS
      rintro a w290 ⟨g290, hpre0, hS, h2, hp0_0, hp0_1, hp0_2, hp0_3, hF⟩
      subst hpre0
      have H := Fl.go_nxt Hl293
      clear Hl293
      refine c_region (fun K hK => ?_)
      refine st_val hS rfl rfl rfl (r_fieldB (off := 0) hS rfl rfl (by kernel_rfl)) fun a419 hS419 => st_val hS419 rfl rfl rfl (r_load1 (n := 1) hS419 rfl rfl (by kernel_rfl) (Bx.cell h2 rfl)) fun a420 hS420 => st_val hS420 rfl rfl rfl (r_bin hS420 rfl rfl rfl b_geq) fun a421 hS421 => st_val hS421 rfl rfl rfl (r_move hS421 rfl rfl) fun a422 hS422 => ?_
      refine g_join (N := 99) 5 [(3, .pointer (some ⟨b1, 0, none⟩)), (72, .bool ((decide ((-1) ≤ p0.Parent)) && (decide (p0.Parent < p1))))] ?_ (fun hk => ?_)
      rotate_left
      · rcases Bool.eq_false_or_eq_true (decide ((-1) ≤ p0.Parent)) with hb423 | hb423
        · refine st_valW hS422 (want_on hS422 rfl rfl rfl hb423) rfl rfl (r_fieldB (off := 0) hS422 rfl rfl (by kernel_rfl)) fun a428 hS428 => st_valW hS428 (want_on hS428 rfl rfl rfl hb423) rfl rfl (r_load1 (n := 1) hS428 rfl rfl (by kernel_rfl) (Bx.cell h2 rfl)) fun a429 hS429 => st_valW hS429 (want_on hS429 rfl rfl rfl hb423) rfl rfl (r_move hS429 rfl rfl) fun a430 hS430 => st_valW hS430 (want_on hS430 rfl rfl rfl hb423) rfl rfl (r_bin hS430 rfl rfl rfl b_lss) fun a431 hS431 => st_val hS431 rfl rfl rfl (r_pickT hS431 rfl rfl rfl hb423) fun a432 hS432 => hk _ (hS432.re ⟨rfl, (by rw [hb423]; rfl), trivial⟩)
        · refine st_off hS422 (want_off hS422 rfl rfl rfl hb423) rfl rfl fun a433 hS433 => st_off hS433 (want_off hS433 rfl rfl rfl hb423) rfl rfl fun a434 hS434 => st_off hS434 (want_off hS434 rfl rfl rfl hb423) rfl rfl fun a435 hS435 => st_off hS435 (want_off hS435 rfl rfl rfl hb423) rfl rfl fun a436 hS436 => st_val hS436 rfl rfl rfl (r_pickF hS436 rfl rfl rfl hb423) fun a437 hS437 => hk _ (hS437.re ⟨rfl, (by rw [hb423]; rfl), trivial⟩)
      intro a438 hS438
      refine st_val hS438 rfl rfl rfl (r_move hS438 rfl rfl) fun a439 hS439 => ?_
      refine g_join (N := 99) 5 [(3, .pointer (some ⟨b1, 0, none⟩)), (78, .bool (((decide ((-1) ≤ p0.Parent)) && (decide (p0.Parent < p1))) && (p0.Deepest.a0 == 0)))] ?_ (fun hk => ?_)
      rotate_left
      · rcases Bool.eq_false_or_eq_true (((decide ((-1) ≤ p0.Parent)) && (decide (p0.Parent < p1)))) with hb440 | hb440
        · refine st_valW hS439 (want_on hS439 rfl rfl rfl hb440) rfl rfl (r_fieldB (off := 5) hS439 rfl rfl (by kernel_rfl)) fun a445 hS445 => st_valW hS445 (want_on hS445 rfl rfl rfl hb440) rfl rfl (r_ixB (n := 6) (e := 3) (sz := 1) (bb := false) hS445 rfl rfl rfl (by kernel_rfl) (by decide) (by decide)) fun a446 hS446 => st_valW hS446 (want_on hS446 rfl rfl rfl hb440) rfl rfl (r_load1 (n := 1) hS446 rfl rfl (by kernel_rfl) (Bx.cell h2 rfl)) fun a447 hS447 => st_valW hS447 (want_on hS447 rfl rfl rfl hb440) rfl rfl (r_bin hS447 rfl rfl rfl b_eql) fun a448 hS448 => st_val hS448 rfl rfl rfl (r_pickT hS448 rfl rfl rfl hb440) fun a449 hS449 => hk _ (hS449.re ⟨rfl, (by rw [hb440]; rfl), trivial⟩)
        · refine st_off hS439 (want_off hS439 rfl rfl rfl hb440) rfl rfl fun a450 hS450 => st_off hS450 (want_off hS450 rfl rfl rfl hb440) rfl rfl fun a451 hS451 => st_off hS451 (want_off hS451 rfl rfl rfl hb440) rfl rfl fun a452 hS452 => st_off hS452 (want_off hS452 rfl rfl rfl hb440) rfl rfl fun a453 hS453 => st_val hS453 rfl rfl rfl (r_pickF hS453 rfl rfl rfl hb440) fun a454 hS454 => hk _ (hS454.re ⟨rfl, (by rw [hb440]; rfl), trivial⟩)
      intro a455 hS455
      refine st_val hS455 rfl rfl rfl (r_move hS455 rfl rfl) fun a456 hS456 => ?_
      refine g_join (N := 99) 4 [(3, .pointer (some ⟨b1, 0, none⟩)), (83, .bool ((((decide ((-1) ≤ p0.Parent)) && (decide (p0.Parent < p1))) && (p0.Deepest.a0 == 0)) && (decide (0 ≤ p0.WakeSystem))))] ?_ (fun hk => ?_)
      rotate_left
      · rcases Bool.eq_false_or_eq_true ((((decide ((-1) ≤ p0.Parent)) && (decide (p0.Parent < p1))) && (p0.Deepest.a0 == 0))) with hb457 | hb457
        · refine st_valW hS456 (want_on hS456 rfl rfl rfl hb457) rfl rfl (r_fieldB (off := 12) hS456 rfl rfl (by kernel_rfl)) fun a461 hS461 => st_valW hS461 (want_on hS461 rfl rfl rfl hb457) rfl rfl (r_load1 (n := 1) hS461 rfl rfl (by kernel_rfl) (Bx.cell h2 rfl)) fun a462 hS462 => st_valW hS462 (want_on hS462 rfl rfl rfl hb457) rfl rfl (r_bin hS462 rfl rfl rfl b_geq) fun a463 hS463 => st_val hS463 rfl rfl rfl (r_pickT hS463 rfl rfl rfl hb457) fun a464 hS464 => hk _ (hS464.re ⟨rfl, (by rw [hb457]; rfl), trivial⟩)
        · refine st_off hS456 (want_off hS456 rfl rfl rfl hb457) rfl rfl fun a465 hS465 => st_off hS465 (want_off hS465 rfl rfl rfl hb457) rfl rfl fun a466 hS466 => st_off hS466 (want_off hS466 rfl rfl rfl hb457) rfl rfl fun a467 hS467 => st_val hS467 rfl rfl rfl (r_pickF hS467 rfl rfl rfl hb457) fun a468 hS468 => hk _ (hS468.re ⟨rfl, (by rw [hb457]; rfl), trivial⟩)
      intro a469 hS469
      refine st_val hS469 rfl rfl rfl (r_move hS469 rfl rfl) fun a470 hS470 => ?_
      refine g_join (N := 99) 4 [(3, .pointer (some ⟨b1, 0, none⟩)), (88, .bool (((((decide ((-1) ≤ p0.Parent)) && (decide (p0.Parent < p1))) && (p0.Deepest.a0 == 0)) && (decide (0 ≤ p0.WakeSystem))) && (decide (p0.WakeSystem ≤ 4))))] ?_ (fun hk => ?_)
      rotate_left
      · rcases Bool.eq_false_or_eq_true (((((decide ((-1) ≤ p0.Parent)) && (decide (p0.Parent < p1))) && (p0.Deepest.a0 == 0)) && (decide (0 ≤ p0.WakeSystem)))) with hb471 | hb471
        · refine st_valW hS470 (want_on hS470 rfl rfl rfl hb471) rfl rfl (r_fieldB (off := 12) hS470 rfl rfl (by kernel_rfl)) fun a475 hS475 => st_valW hS475 (want_on hS475 rfl rfl rfl hb471) rfl rfl (r_load1 (n := 1) hS475 rfl rfl (by kernel_rfl) (Bx.cell h2 rfl)) fun a476 hS476 => st_valW hS476 (want_on hS476 rfl rfl rfl hb471) rfl rfl (r_bin hS476 rfl rfl rfl b_leq) fun a477 hS477 => st_val hS477 rfl rfl rfl (r_pickT hS477 rfl rfl rfl hb471) fun a478 hS478 => hk _ (hS478.re ⟨rfl, (by rw [hb471]; rfl), trivial⟩)
        · refine st_off hS470 (want_off hS470 rfl rfl rfl hb471) rfl rfl fun a479 hS479 => st_off hS479 (want_off hS479 rfl rfl rfl hb471) rfl rfl fun a480 hS480 => st_off hS480 (want_off hS480 rfl rfl rfl hb471) rfl rfl fun a481 hS481 => st_val hS481 rfl rfl rfl (r_pickF hS481 rfl rfl rfl hb471) fun a482 hS482 => hk _ (hS482.re ⟨rfl, (by rw [hb471]; rfl), trivial⟩)
      intro a483 hS483
      refine st_val hS483 rfl rfl rfl (r_move hS483 rfl rfl) fun a484 hS484 => ?_
      refine g_join (N := 99) 4 [(3, .pointer (some ⟨b1, 0, none⟩)), (93, .bool ((((((decide ((-1) ≤ p0.Parent)) && (decide (p0.Parent < p1))) && (p0.Deepest.a0 == 0)) && (decide (0 ≤ p0.WakeSystem))) && (decide (p0.WakeSystem ≤ 4))) && (decide (0 ≤ p0.WakeDevice))))] ?_ (fun hk => ?_)
      rotate_left
      · rcases Bool.eq_false_or_eq_true ((((((decide ((-1) ≤ p0.Parent)) && (decide (p0.Parent < p1))) && (p0.Deepest.a0 == 0)) && (decide (0 ≤ p0.WakeSystem))) && (decide (p0.WakeSystem ≤ 4)))) with hb485 | hb485
        · refine st_valW hS484 (want_on hS484 rfl rfl rfl hb485) rfl rfl (r_fieldB (off := 11) hS484 rfl rfl (by kernel_rfl)) fun a489 hS489 => st_valW hS489 (want_on hS489 rfl rfl rfl hb485) rfl rfl (r_load1 (n := 1) hS489 rfl rfl (by kernel_rfl) (Bx.cell h2 rfl)) fun a490 hS490 => st_valW hS490 (want_on hS490 rfl rfl rfl hb485) rfl rfl (r_bin hS490 rfl rfl rfl b_geq) fun a491 hS491 => st_val hS491 rfl rfl rfl (r_pickT hS491 rfl rfl rfl hb485) fun a492 hS492 => hk _ (hS492.re ⟨rfl, (by rw [hb485]; rfl), trivial⟩)
        · refine st_off hS484 (want_off hS484 rfl rfl rfl hb485) rfl rfl fun a493 hS493 => st_off hS493 (want_off hS493 rfl rfl rfl hb485) rfl rfl fun a494 hS494 => st_off hS494 (want_off hS494 rfl rfl rfl hb485) rfl rfl fun a495 hS495 => st_val hS495 rfl rfl rfl (r_pickF hS495 rfl rfl rfl hb485) fun a496 hS496 => hk _ (hS496.re ⟨rfl, (by rw [hb485]; rfl), trivial⟩)
      intro a497 hS497
      refine st_val hS497 rfl rfl rfl (r_move hS497 rfl rfl) fun a498 hS498 => ?_
      refine g_join (N := 99) 4 [(98, .bool (((((((decide ((-1) ≤ p0.Parent)) && (decide (p0.Parent < p1))) && (p0.Deepest.a0 == 0)) && (decide (0 ≤ p0.WakeSystem))) && (decide (p0.WakeSystem ≤ 4))) && (decide (0 ≤ p0.WakeDevice))) && (decide (p0.WakeDevice ≤ 3))))] ?_ (fun hk => ?_)
      rotate_left
      · rcases Bool.eq_false_or_eq_true (((((((decide ((-1) ≤ p0.Parent)) && (decide (p0.Parent < p1))) && (p0.Deepest.a0 == 0)) && (decide (0 ≤ p0.WakeSystem))) && (decide (p0.WakeSystem ≤ 4))) && (decide (0 ≤ p0.WakeDevice)))) with hb499 | hb499
        · refine st_valW hS498 (want_on hS498 rfl rfl rfl hb499) rfl rfl (r_fieldB (off := 11) hS498 rfl rfl (by kernel_rfl)) fun a503 hS503 => st_valW hS503 (want_on hS503 rfl rfl rfl hb499) rfl rfl (r_load1 (n := 1) hS503 rfl rfl (by kernel_rfl) (Bx.cell h2 rfl)) fun a504 hS504 => st_valW hS504 (want_on hS504 rfl rfl rfl hb499) rfl rfl (r_bin hS504 rfl rfl rfl b_leq) fun a505 hS505 => st_val hS505 rfl rfl rfl (r_pickT hS505 rfl rfl rfl hb499) fun a506 hS506 => hk _ (hS506.re ⟨(by rw [hb499]; rfl), trivial⟩)
        · refine st_off hS498 (want_off hS498 rfl rfl rfl hb499) rfl rfl fun a507 hS507 => st_off hS507 (want_off hS507 rfl rfl rfl hb499) rfl rfl fun a508 hS508 => st_off hS508 (want_off hS508 rfl rfl rfl hb499) rfl rfl fun a509 hS509 => st_val hS509 rfl rfl rfl (r_pickF hS509 rfl rfl rfl hb499) fun a510 hS510 => hk _ (hS510.re ⟨(by rw [hb499]; rfl), trivial⟩)
      intro a511 hS511
      refine st_val hS511 rfl rfl rfl (r_assign hS511 rfl rfl) fun a512 hS512 => wpList_nil (hK _ _ ?_)
      replace hS : Sl 99 _ [(6, .bool (((((((decide ((-1) ≤ p0.Parent)) && (decide (p0.Parent < p1))) && (p0.Deepest.a0 == 0)) && (decide (0 ≤ p0.WakeSystem))) && (decide (p0.WakeSystem ≤ 4))) && (decide (0 ≤ p0.WakeDevice))) && (decide (p0.WakeDevice ≤ 3))))] := hS512.re ⟨rfl, trivial⟩
      clear hK K
      try clear hS419 hS420 hS421 hS422 hS438 hS439 hS455 hS456 hS469 hS470 hS483 hS484 hS497 hS498 hS511 hS512
      obtain ⟨a, ha⟩ : ∃ a', a' = a512 := ⟨_, rfl⟩
      rw [← ha] at hS ⊢; clear ha
      refine wp_ret ?_
      have e := Option.some.inj H
      subst e
      repeat (with_reducible first | refine then_ret ?_ | refine inBlock_ret ?_)
      exact c_ret1 hS Try.results39 rfl ⟨_, rfl, g290, rfl, hF⟩


end Go.Proofs.Ytfhhklkmbcnhnaa.Sim

namespace Go.Proofs.Ytfhhklkmbcnhnaa.Sim
open Go
set_option linter.unusedVariables false
set_option linter.unusedSimpArgs false

/-! ### device_Check: function 17 -/
def device_Check.l0 (p0 : List api_PowerDevice) (p1 : Int) : Nat → Int → Option (Fl (Int) (Unit))
  | 0, _ => none
  | k37 + 1, m0_0 => if decide (m0_0 < (p0.length : Int)) = true then ((idx p0 m0_0).bind fun x41 => (device_valid.f x41 m0_0 p1).bind fun r74 => if (!r74) = true then (some (.out 1)) else (device_Check.l0 p0 p1 k37 (wi (m0_0 + 1)))) else (some (.nxt ()))
def device_Check.f (p0 : List api_PowerDevice) (p1 : Int) : Option (Int) := if (((decide (64 < (p0.length : Int))) || (decide (p1 < 0))) || (decide (64 < p1))) = true then (some 1) else ((device_Check.l0 p0 p1 FUEL 0 : Option (Fl (Int) (Unit))).bind fun o31 => o31.go fun _ => some 0)
set_option maxRecDepth 100000 in
set_option maxHeartbeats 4000000 in
theorem device_Check.calls {p0 : List api_PowerDevice} {A0 : Option Addr} {cap0 : Nat} {C0 : Nat → Prop} {p1 : Int} {w : World} {g : Nat → Nat} {out : Int} (N : Nat) (hp0 : RdS kd_api_PowerDevice w g C0 A0 cap0 p0) (hC0 : ∀ c, C0 c → c < N) (H : device_Check.f p0 p1 = some out) :
    Calls Try.prog 17 #[.slice A0 p0.length cap0, .int .i64 p1] w (fun e w' => ∃ v, e = .returned v ∧ ∃ (g' : Nat → Nat), v = .int .i64 out ∧ Fr (fun q => N ≤ q) w g w' g') := by
  unfold device_Check.f at H
  refine calls_enter Try.func17 rfl Try.ntmps17 rfl (fun a hS => ?_)
  replace hS : Sl 31 a [(0, .slice A0 p0.length cap0), (1, .int .i64 p1)] := hS
  have hF : Fr (fun q => N ≤ q) w g w g := Fr.refl _ _ _
  refine c_pure [(0, .slice A0 p0.length cap0), (1, .int .i64 p1)] (fun R hR => st_val hS rfl rfl rfl (r_assign hS rfl rfl) fun a1 hS1 => wpList_nil (hR _ (hS1.re ⟨rfl, rfl, trivial⟩))) ?_
  clear hS
  clear a
  intro a hS
  refine wp_seq ?_
  refine c_region (fun K hK => ?_)
  refine st_val hS rfl rfl rfl (r_move hS rfl rfl) fun a2 hS2 => st_val hS2 rfl rfl rfl (r_len (e := 33) (sz := 13) (by_ := 168) hS2 rfl rfl (by kernel_rfl)) fun a3 hS3 => st_val hS3 rfl rfl rfl (r_bin hS3 rfl rfl rfl b_gtr) fun a4 hS4 => st_val hS4 rfl rfl rfl (r_move hS4 rfl rfl) fun a5 hS5 => ?_
  refine g_join (N := 31) 3 [(0, .slice A0 p0.length cap0), (1, .int .i64 p1), (13, .bool ((decide (64 < (p0.length : Int))) || (decide (p1 < 0))))] ?_ (fun hk => ?_)
  rotate_left
  · rcases Bool.eq_false_or_eq_true (decide (64 < (p0.length : Int))) with hb6 | hb6
    · refine st_off hS5 (want_off hS5 rfl rfl rfl hb6) rfl rfl fun a9 hS9 => st_off hS9 (want_off hS9 rfl rfl rfl hb6) rfl rfl fun a10 hS10 => st_val hS10 rfl rfl rfl (r_pickT hS10 rfl rfl rfl hb6) fun a11 hS11 => hk _ (hS11.re ⟨rfl, rfl, (by rw [hb6]; rfl), trivial⟩)
    · refine st_valW hS5 (want_on hS5 rfl rfl rfl hb6) rfl rfl (r_move hS5 rfl rfl) fun a12 hS12 => st_valW hS12 (want_on hS12 rfl rfl rfl hb6) rfl rfl (r_bin hS12 rfl rfl rfl b_lss) fun a13 hS13 => st_val hS13 rfl rfl rfl (r_pickF hS13 rfl rfl rfl hb6) fun a14 hS14 => hk _ (hS14.re ⟨rfl, rfl, (by rw [hb6]; rfl), trivial⟩)
  intro a15 hS15
  refine st_val hS15 rfl rfl rfl (r_move hS15 rfl rfl) fun a16 hS16 => ?_
  refine g_join (N := 31) 3 [(0, .slice A0 p0.length cap0), (1, .int .i64 p1), (17, .bool (((decide (64 < (p0.length : Int))) || (decide (p1 < 0))) || (decide (64 < p1))))] ?_ (fun hk => ?_)
  rotate_left
  · rcases Bool.eq_false_or_eq_true (((decide (64 < (p0.length : Int))) || (decide (p1 < 0)))) with hb17 | hb17
    · refine st_off hS16 (want_off hS16 rfl rfl rfl hb17) rfl rfl fun a20 hS20 => st_off hS20 (want_off hS20 rfl rfl rfl hb17) rfl rfl fun a21 hS21 => st_val hS21 rfl rfl rfl (r_pickT hS21 rfl rfl rfl hb17) fun a22 hS22 => hk _ (hS22.re ⟨rfl, rfl, (by rw [hb17]; rfl), trivial⟩)
    · refine st_valW hS16 (want_on hS16 rfl rfl rfl hb17) rfl rfl (r_move hS16 rfl rfl) fun a23 hS23 => st_valW hS23 (want_on hS23 rfl rfl rfl hb17) rfl rfl (r_bin hS23 rfl rfl rfl b_gtr) fun a24 hS24 => st_val hS24 rfl rfl rfl (r_pickF hS24 rfl rfl rfl hb17) fun a25 hS25 => hk _ (hS25.re ⟨rfl, rfl, (by rw [hb17]; rfl), trivial⟩)
  intro a26 hS26
  refine wpList_nil (hK _ _ ?_)
  replace hS : Sl 31 _ [(0, .slice A0 p0.length cap0), (1, .int .i64 p1), (17, .bool (((decide (64 < (p0.length : Int))) || (decide (p1 < 0))) || (decide (64 < p1))))] := hS26.re ⟨rfl, rfl, rfl, trivial⟩
  clear hK K
  try clear hS2 hS3 hS4 hS5 hS15 hS16 hS26
  obtain ⟨a, ha⟩ : ∃ a', a' = a26 := ⟨_, rfl⟩
  rw [← ha] at hS ⊢; clear ha
  refine c_cond hS rfl (fun hb27 => ?_) (fun hb27 => ?_)
  · replace H := ite_t hb27 H
    refine c_pure [(4, .int .i64 1)] (fun R hR => st_val hS rfl rfl rfl (r_assign hS rfl rfl) fun a28 hS28 => wpList_nil (hR _ (hS28.re ⟨rfl, trivial⟩))) ?_
    clear hS
    clear a
    intro a hS
    refine wp_ret ?_
    have e := Option.some.inj H
    subst e
    repeat (with_reducible first | refine then_ret ?_ | refine inBlock_ret ?_)
    exact c_ret1 hS Try.results17 rfl ⟨_, rfl, g, rfl, hF⟩
  · replace H := ite_f hb27 H
    refine wp_skip ?_
    change Code.wp _ _ _ _ _
    obtain ⟨o31, H, Hl32⟩ := bind_el H
    refine c_cut (fun a w29 => ∃ (g29 : Nat → Nat), o31 = .nxt () ∧ Sl 31 a [] ∧ Fr (fun q => N ≤ q) w g w29 g29) ?_ ?_
    · refine c_pure [(1, .int .i64 p1), (18, .slice A0 p0.length cap0), (19, .int .i64 (p0.length : Int)), (20, .int .i64 0)] (fun R hR => st_val hS rfl rfl rfl (r_move hS rfl rfl) fun a33 hS33 => st_val hS33 rfl rfl rfl (r_len (e := 33) (sz := 13) (by_ := 168) hS33 rfl rfl (by kernel_rfl)) fun a34 hS34 => st_val hS34 rfl rfl rfl (r_move hS34 rfl rfl) fun a35 hS35 => wpList_nil (hR _ (hS35.re ⟨rfl, rfl, rfl, rfl, trivial⟩))) ?_
      clear hS
      clear a
      intro a hS
      refine wp_block ?_
      refine wp_loop_ghost (fun kq => fun a w36 => ∃ (m0_0 : Int), ∃ (g36 : Nat → Nat), device_Check.l0 p0 p1 kq m0_0 = some o31 ∧ Sl 31 a [(1, .int .i64 p1), (18, .slice A0 p0.length cap0), (19, .int .i64 (p0.length : Int)), (20, .int .i64 m0_0)] ∧ RdS kd_api_PowerDevice w36 g36 C0 A0 cap0 p0 ∧ Fr (fun q => N ≤ q) w g w36 g36) FUEL ?_ ?_
      · exact ⟨0, g, H, hS.re ⟨rfl, rfl, rfl, rfl, trivial⟩, hp0, hF⟩
      · clear H
        clear hp0 hF
        clear hS
        rintro k37 a w36 ⟨m0_0, g36, hpre0, hS, hp0, hF⟩
        have H := hpre0
        clear hpre0
        cases k37 with
        | zero => exact absurd H (by simp [device_Check.l0])
        | succ k37 =>
          rw [device_Check.l0] at H
          refine c_pure [(1, .int .i64 p1), (18, .slice A0 p0.length cap0), (19, .int .i64 (p0.length : Int)), (20, .int .i64 m0_0), (21, .bool (decide (m0_0 < (p0.length : Int))))] (fun R hR => st_val hS rfl rfl rfl (r_bin hS rfl rfl rfl b_lss) fun a38 hS38 => wpList_nil (hR _ (hS38.re ⟨rfl, rfl, rfl, rfl, rfl, trivial⟩))) ?_
          clear hS
          clear a
          intro a hS
          refine c_if hS rfl (fun hb39 => ?_) (fun hb39 => ?_)
          · replace H := ite_t hb39 H
            refine wp_skip ?_
            change Code.wp _ _ _ _ _
            refine wp_seq ?_
            refine wp_block ?_
            obtain ⟨x41, hx42, H⟩ := bind_el H
            refine c_region (fun K hK => ?_)
            refine st_val hS rfl rfl rfl (r_move hS rfl rfl) fun a40 hS40 => ?_
            obtain ⟨_, ⟨A44, cap45, A48, cap49, A52, cap53, A56, cap57, rfl, h46, h50, h54, h58⟩, hel43⟩ := El.of hp0 hx42 (by decide)
            replace hel43 : El w36 g36 C0 A0 (m0_0.toNat * 13) [.int .i64 x41.Parent, .slice A44 x41.Rails.a0.length cap45, .slice A48 x41.Rails.a1.length cap49, .slice A52 x41.Rails.a2.length cap53, .slice A56 x41.Rails.a3.length cap57, .int .i64 x41.Deepest.a0, .int .i64 x41.Deepest.a1, .int .i64 x41.Deepest.a2, .int .i64 x41.Deepest.a3, .int .i64 x41.Deepest.a4, .int .i64 x41.Deepest.a5, .int .i64 x41.WakeDevice, .int .i64 x41.WakeSystem] := hel43
            refine st_val hS40 rfl rfl rfl (r_index (e := 33) (sz := 13) (by_ := 168) hS40 rfl rfl rfl (by kernel_rfl) (RdS.some_ hp0 hx42) (idx_lo hx42) (idx_hi hx42)) fun a61 hS61 => st_val hS61 rfl rfl rfl (r_loadN (n := 13) (cs := [.int .i64 x41.Parent, .slice A44 x41.Rails.a0.length cap45, .slice A48 x41.Rails.a1.length cap49, .slice A52 x41.Rails.a2.length cap53, .slice A56 x41.Rails.a3.length cap57, .int .i64 x41.Deepest.a0, .int .i64 x41.Deepest.a1, .int .i64 x41.Deepest.a2, .int .i64 x41.Deepest.a3, .int .i64 x41.Deepest.a4, .int .i64 x41.Deepest.a5, .int .i64 x41.WakeDevice, .int .i64 x41.WakeSystem]) hS61 rfl rfl (by kernel_rfl) rfl (El.cells_off hel43 0 13)) fun a62 hS62 => ?_
            refine st_eff hS62 rfl rfl rfl (e_alloc (cs := [.int .i64 0, .slice none 0 0, .slice none 0 0, .slice none 0 0, .slice none 0 0, .int .i64 0, .int .i64 0, .int .i64 0, .int .i64 0, .int .i64 0, .int .i64 0, .int .i64 0, .int .i64 0]) (N + 0) g36 hS62 rfl (by kernel_rfl)) ?_
            rintro _ a66 w67 g67 ⟨⟨b63, rfl, h64⟩, F67⟩ hS66
            replace h46 := RdS.fr h46 F67 (by decide) (fun _ _ h => h)
            replace h50 := RdS.fr h50 F67 (by decide) (fun _ _ h => h)
            replace h54 := RdS.fr h54 F67 (by decide) (fun _ _ h => h)
            replace h58 := RdS.fr h58 F67 (by decide) (fun _ _ h => h)
            replace hel43 := hel43.fr F67 (fun _ _ h => h)
            replace hp0 := RdS.fr hp0 F67 (by decide) (fun _ _ h => h)
            replace hF := hF.trans F67 (fun _ h => h.elim)
            refine st_val hS66 rfl rfl rfl (r_assign hS66 rfl rfl) fun a68 hS68 => ?_
            refine st_effS hS68 rfl rfl (e_storeB (n := 13) (bb := true) (cs' := [.int .i64 x41.Parent, .slice A44 x41.Rails.a0.length cap45, .slice A48 x41.Rails.a1.length cap49, .slice A52 x41.Rails.a2.length cap53, .slice A56 x41.Rails.a3.length cap57, .int .i64 x41.Deepest.a0, .int .i64 x41.Deepest.a1, .int .i64 x41.Deepest.a2, .int .i64 x41.Deepest.a3, .int .i64 x41.Deepest.a4, .int .i64 x41.Deepest.a5, .int .i64 x41.WakeDevice, .int .i64 x41.WakeSystem]) g67 hS68 rfl rfl rfl (by kernel_rfl) rfl rfl rfl h64 rfl rfl) ?_
            rintro a69 w70 g70 ⟨h64, F70⟩ hS69
            replace h46 := RdS.fr h46 F70 (by decide) (fun q (hq : C0 q) (hm : q = N + 0) => by have := hC0 q hq; omega)
            replace h50 := RdS.fr h50 F70 (by decide) (fun q (hq : C0 q) (hm : q = N + 0) => by have := hC0 q hq; omega)
            replace h54 := RdS.fr h54 F70 (by decide) (fun q (hq : C0 q) (hm : q = N + 0) => by have := hC0 q hq; omega)
            replace h58 := RdS.fr h58 F70 (by decide) (fun q (hq : C0 q) (hm : q = N + 0) => by have := hC0 q hq; omega)
            replace hel43 := hel43.fr F70 (fun q (hq : C0 q) (hm : q = N + 0) => by have := hC0 q hq; omega)
            replace hp0 := RdS.fr hp0 F70 (by decide) (fun q (hq : C0 q) (hm : q = N + 0) => by have := hC0 q hq; omega)
            replace hF := hF.trans F70 (fun c' (hm : c' = N + 0) => by show N ≤ c'; omega)
            refine wpList_nil (hK _ _ ?_)
            replace hS : Sl 31 _ [(1, .int .i64 p1), (5, .int .i64 m0_0), (6, .pointer (some ⟨b63, 0, none⟩)), (18, .slice A0 p0.length cap0), (19, .int .i64 (p0.length : Int)), (20, .int .i64 m0_0)] := hS69.re ⟨rfl, rfl, rfl, rfl, rfl, rfl, trivial⟩
            clear hK K
            try clear hS40 hS61 hS62 hS66 hS68 hS69
            obtain ⟨a, ha⟩ : ∃ a', a' = a69 := ⟨_, rfl⟩
            rw [← ha] at hS ⊢; clear ha
            obtain ⟨r74, hr75, H⟩ := bind_el H
            refine c_region (fun K hK => ?_)
            refine st_val hS rfl rfl rfl (r_loadN (n := 13) (cs := [.int .i64 x41.Parent, .slice A44 x41.Rails.a0.length cap45, .slice A48 x41.Rails.a1.length cap49, .slice A52 x41.Rails.a2.length cap53, .slice A56 x41.Rails.a3.length cap57, .int .i64 x41.Deepest.a0, .int .i64 x41.Deepest.a1, .int .i64 x41.Deepest.a2, .int .i64 x41.Deepest.a3, .int .i64 x41.Deepest.a4, .int .i64 x41.Deepest.a5, .int .i64 x41.WakeDevice, .int .i64 x41.WakeSystem]) hS rfl rfl (by kernel_rfl) rfl (Bx.cells_off h64 0 13)) fun a71 hS71 => st_val hS71 rfl rfl rfl (r_move hS71 rfl rfl) fun a72 hS72 => st_val hS72 rfl rfl rfl (r_move hS72 rfl rfl) fun a73 hS73 => ?_
            refine st_enter hS73 rfl rfl rfl (r_call hS73 rfl rfl (by kernel_rfl)) (device_valid.calls (C0 := C0) (p0 := x41) (p1 := m0_0) (p2 := p1) (g := g70) (N + 2)  h46 h50 h54 h58 (fun q (hq : C0 q) => by have := hC0 q hq; omega) hr75) ?_
            rintro _ a76 w77 ⟨g77, rfl, F77⟩ hS76
            replace h46 := RdS.fr h46 F77 (by decide) (fun q (hq : C0 q) (hm : N + 2 ≤ q) => by have := hC0 q hq; omega)
            replace h50 := RdS.fr h50 F77 (by decide) (fun q (hq : C0 q) (hm : N + 2 ≤ q) => by have := hC0 q hq; omega)
            replace h54 := RdS.fr h54 F77 (by decide) (fun q (hq : C0 q) (hm : N + 2 ≤ q) => by have := hC0 q hq; omega)
            replace h58 := RdS.fr h58 F77 (by decide) (fun q (hq : C0 q) (hm : N + 2 ≤ q) => by have := hC0 q hq; omega)
            replace h64 := h64.fr F77 (fun (hm : N + 2 ≤ N + 0) => by omega)
            replace hp0 := RdS.fr hp0 F77 (by decide) (fun q (hq : C0 q) (hm : N + 2 ≤ q) => by have := hC0 q hq; omega)
            replace hF := hF.trans F77 (fun c' (hm : N + 2 ≤ c') => by show N ≤ c'; omega)
            refine st_val hS76 rfl rfl rfl (r_not hS76 rfl rfl) fun a78 hS78 => wpList_nil (hK _ _ ?_)
            replace hS : Sl 31 _ [(1, .int .i64 p1), (18, .slice A0 p0.length cap0), (19, .int .i64 (p0.length : Int)), (20, .int .i64 m0_0), (29, .bool (!r74))] := hS78.re ⟨rfl, rfl, rfl, rfl, rfl, trivial⟩
            clear hK K
            try clear hS71 hS72 hS73 hS76 hS78
            obtain ⟨a, ha⟩ : ∃ a', a' = a78 := ⟨_, rfl⟩
            rw [← ha] at hS ⊢; clear ha
            refine c_cond hS rfl (fun hb79 => ?_) (fun hb79 => ?_)
            · replace H := ite_t hb79 H
              refine c_pure [(4, .int .i64 1)] (fun R hR => st_val hS rfl rfl rfl (r_assign hS rfl rfl) fun a80 hS80 => wpList_nil (hR _ (hS80.re ⟨rfl, trivial⟩))) ?_
              clear hS
              clear a
              intro a hS
              refine wp_ret ?_
              have e := Option.some.inj H
              subst e
              replace H := Fl.go_out Hl32
              have e := Option.some.inj H
              subst e
              repeat (with_reducible first | refine then_ret ?_ | refine inBlock_ret ?_)
              exact c_ret1 hS Try.results17 rfl ⟨_, rfl, g77, rfl, hF⟩
            · replace H := ite_f hb79 H
              refine wp_skip ?_
              change Code.wp _ _ _ _ _
              refine c_pure1 [(1, .int .i64 p1), (18, .slice A0 p0.length cap0), (19, .int .i64 (p0.length : Int)), (20, .int .i64 (wi (m0_0 + 1)))] (fun R hR => st_val hS rfl rfl rfl (r_bin hS rfl rfl rfl b_add) fun a81 hS81 => st_val hS81 rfl rfl rfl (r_move hS81 rfl rfl) fun a82 hS82 => wpList_nil (hR _ (hS82.re ⟨rfl, rfl, rfl, rfl, trivial⟩))) ?_
              clear hS
              clear a
              intro a hS
              refine ⟨k37, Nat.lt_succ_self _, ?_⟩
              exact ⟨wi (m0_0 + 1), g77, H, hS.re ⟨rfl, rfl, rfl, rfl, trivial⟩, hp0, hF⟩
          · replace H := ite_f hb39 H
            refine wp_exit ?_
            have e := Option.some.inj H
            exact ⟨g36, e.symm, hS.re trivial, hF⟩
    · clear H
      clear hp0 hF
      clear hS
      rintro a w29 ⟨g29, hpre0, hS, hF⟩
      subst hpre0
      have H := Fl.go_nxt Hl32
      clear Hl32
      refine c_pure [(4, .int .i64 0)] (fun R hR => st_val hS rfl rfl rfl (r_assign hS rfl rfl) fun a83 hS83 => wpList_nil (hR _ (hS83.re ⟨rfl, trivial⟩))) ?_
      clear hS
      clear a
      intro a hS
      refine wp_ret ?_
      have e := Option.some.inj H
      subst e
      repeat (with_reducible first | refine then_ret ?_ | refine inBlock_ret ?_)
      exact c_ret1 hS Try.results17 rfl ⟨_, rfl, g29, rfl, hF⟩


end Go.Proofs.Ytfhhklkmbcnhnaa.Sim
