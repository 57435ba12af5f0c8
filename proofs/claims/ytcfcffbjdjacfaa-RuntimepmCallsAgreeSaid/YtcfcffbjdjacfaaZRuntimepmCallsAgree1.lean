/-
  Texts of this session, part 1 of 7: the words of the walk, plain functions with the same answers as the Go functions and the proofs of it, plain lemmas. No condition.
  They are, one behind the other: SimA SimB SimC SimD SimE SimF SimG SimH SimI SimJ SimK Ty Eq QHelpEqualApiPowerOp QRuntimepmManagerIsIdle1 QSlicesIndexFuncIntIntIsIdle1 QSlicesContainsFuncIntIntIsIdle1 QRuntimepmManagerIsIdle QRuntimepmManagerNext QRuntimepmManagerExpire.
-/
import Derived.Laws.AppendOwn
import Derived.Laws.MakeOwn
import Derived.Laws.OwnMore
import Derived.Deep.LoopGhost
import Derived.Deep.Quiet
import Derived.OrdersHeld
import Derived.WalkKit
import Derived.KernelRfl
import Derived.Test.YtcfcffbjdjacfaaWLast
import Derived.ProofKit
import Derived.OpenShut
import Derived.ChangeArms
import Derived.ChangeOld
import Derived.Below
import Derived.Carry
import Derived.SizedLaws
import Derived.Laws.StructEq
import Derived.MapKept
import Derived.Test.YtcfcffbjdjacfaaProg

namespace Go.Proofs.Ytcfcffbjdjacfaa.Sim
/-- true, and then false -/
abbrev ba (i j : Nat) : Array Bool := (List.replicate i true ++ List.replicate j false).toArray
abbrev tt_ : Bool := true
abbrev ff_ : Bool := false
theorem Z {α : Sort _} {a : α} : a = a := rfl
abbrev i6 (x : Int) : Value := .int .i64 x
abbrev so (b : Nat) : Option Addr := some ⟨b, 0, none⟩
end Go.Proofs.Ytcfcffbjdjacfaa.Sim
namespace Go.Proofs.Ytcfcffbjdjacfaa.Sim
open Go


def lk : List (Nat × Value) → Nat → Option Value
 | [], _ => none
 | p :: t, j => match Nat.beq p.1 j with
  | true => some p.2
  | false => lk t j

structure Sl (N : Nat) (a : Act) (S : List (Nat × Value)) : Prop where
 size : a.tmps.size = N
 defs : a.defers = []
 get : ∀ i v, lk S i = some v → a.tmps[i]? = some v

def ev (S : List (Nat × Value)) : Operand → Option Value
 | .tmp t => lk S t
 | .const v => some v
 | .global g => some (.pointer (some ⟨g, 0, none⟩))
 | .func f => some (.func (.func f) #[] #[])

theorem Sl.ev {N : Nat} {a : Act} {S : List (Nat × Value)} (h : Sl N a S) {x : Operand} {v : Value} (hx : ev S x = some v) : a.eval x = v := by
 cases x with
 | tmp t =>
  have := h.get t v hx
  simp [Act.eval, Array.getD_eq_getD_getElem?, this]
 | const c => exact Option.some.inj hx
 | global g => simpa [Sim.ev, Act.eval] using hx
 | func f => simpa [Sim.ev, Act.eval] using hx

theorem Sl.put {N : Nat} {a : Act} {S : List (Nat × Value)} (h : Sl N a S) {d : Nat} (hd : Nat.blt d N = true) (v : Value) : Sl N (a.put (some d) v) ((d, v) :: S) := by
 have hd' : d < N := by simpa [Nat.blt_eq] using hd
 refine ⟨by simp [Act.put, h.size], h.defs, fun i u hu => ?_⟩
 simp only [Act.put]
 rw [Array.getElem?_setIfInBounds]
 simp only [lk] at hu
 split at hu
 ·rename_i hb
  have e : d = i := Nat.eq_of_beq_eq_true hb
  subst e
  simp only [if_true, h.size, hd']
  exact hu
 ·rename_i hb
  have e : d ≠ i := Nat.ne_of_beq_eq_false hb
  rw [if_neg e]
  exact h.get i u hu

theorem Sl.put_none {N : Nat} {a : Act} {S : List (Nat × Value)} (h : Sl N a S) (v : Value) : Sl N (a.put none v) S := h

def sub (S : List (Nat × Value)) : List (Nat × Value) → Prop
 | [] => True
 | p :: t => lk S p.1 = some p.2 ∧ sub S t

theorem sub_lk {S : List (Nat × Value)} : ∀ {S' : List (Nat × Value)}, sub S S' → ∀ i v, lk S' i = some v → lk S i = some v
 | [], _, i, v, h => by simp [lk] at h
 | p :: t, hs, i, v, h => by
  simp only [lk] at h
  split at h
  ·rename_i hb
   have e : p.1 = i := Nat.eq_of_beq_eq_true hb
   subst e
   rw [← h]; exact hs.1
  ·exact sub_lk hs.2 i v h

theorem Sl.re {N : Nat} {a : Act} {S S' : List (Nat × Value)} (h : Sl N a S) (hs : sub S S') : Sl N a S' :=
 ⟨h.size, h.defs, fun i v hi => h.get i v (sub_lk hs i v hi)⟩

def number : Nat → List Value → List (Nat × Value)
 | _, [] => []
 | i, v :: t => (i, v) :: number (i + 1) t

theorem lk_number : ∀ (vs : List Value) (k i : Nat) (v : Value), lk (number k vs) i = some v → k ≤ i ∧ vs[i - k]? = some v
 | [], _, _, _, h => by simp [number, lk] at h
 | u :: t, k, i, v, h => by
  simp only [number, lk] at h
  split at h
  ·rename_i hb
   have e : k = i := Nat.eq_of_beq_eq_true hb
   subst e
   exact ⟨Nat.le_refl _, by simpa using h⟩
  ·obtain ⟨h1, h2⟩ := lk_number t (k + 1) i v h
   refine ⟨by omega, ?_⟩
   rw [show i - k = (i - (k + 1)) + 1 from by omega]
   simpa using h2

theorem Sl.enter (n : Nat) (args : List Value) (h : Nat.ble args.length n = true) :
  Sl n { tmps := args.toArray ++ Array.replicate (n - args.toArray.size) undef, defers := [] } (number 0 args) := by
 have h' : args.length ≤ n := by simpa [Nat.ble_eq] using h
 refine ⟨by simp; omega, rfl, fun i v hi => ?_⟩
 obtain ⟨_, h2⟩ := lk_number args 0 i v hi
 have hlt : i < args.length := by
  rcases Nat.lt_or_ge i args.length with h | h
  ·exact h
  ·simp [List.getElem?_eq_none h] at h2
 rw [Array.getElem?_append_left (by simpa using hlt)]
 simpa using h2


section
variable {P : Program} {ops : Array Oper} {Q : Exit → Act → World → Prop} {a : Act} {w w' : World} {rest : List Oper} {o : Oper} {N : Nat} {S : List (Nat × Value)} {d : Nat} {v : Value}

theorem y00 (hS : Sl N a S) (hg : o.guard = none) (hd : o.dst = some d) (hN : Nat.blt d N = true) (hr : (execOp a.eval o).run P w = .ok (.value v) w')
  (k : ∀ a', Sl N a' ((d, v) :: S) → wpList P ops Q rest a' w') : wpList P ops Q (o :: rest) a w :=
 wpList_plain hg fun K hK => by
  unfold Oper.wp
  rw [hr, Oper.upon_value, hd]
  exact hK _ _ (k _ (hS.put hN v))

theorem st_skip (hS : Sl N a S) (hg : o.guard = none) (hd : o.dst = none) (hr : (execOp a.eval o).run P w = .ok .skip w')
  (k : ∀ a', Sl N a' S → wpList P ops Q rest a' w') : wpList P ops Q (o :: rest) a w :=
 wpList_plain hg fun K hK => by
  unfold Oper.wp
  rw [hr, Oper.upon_skip, hd]
  exact hK _ _ (k _ (hS.put_none _))

theorem y1y {f : FuncId} {args : Array Value} {R : Value → World → Prop} (hS : Sl N a S) (hg : o.guard = none) (hd : o.dst = some d) (hN : Nat.blt d N = true)
  (hr : (execOp a.eval o).run P w = .ok (.enter f args) w) (hc : Calls P f args w (fun e w' => ∃ v, e = .returned v ∧ R v w'))
  (k : ∀ v a' w', R v w' → Sl N a' ((d, v) :: S) → wpList P ops Q rest a' w') : wpList P ops Q (o :: rest) a w :=
 wpList_plain hg fun K hK => by
  unfold Oper.wp
  rw [hr, Oper.upon_enter]
  refine hc.mono fun e w' h => ?_
  obtain ⟨v, rfl, h⟩ := h
  rw [hd]
  exact hK _ _ (k v _ w' h (hS.put hN v))

theorem y0p (hS : Sl N a S) (hw : Region.wanted o (yielded ops a.tmps) = true) (hd : o.dst = some d) (hN : Nat.blt d N = true) (hr : (execOp a.eval o).run P w = .ok (.value v) w')
  (k : ∀ a', Sl N a' ((d, v) :: S) → wpList P ops Q rest a' w') : wpList P ops Q (o :: rest) a w := by
 unfold wpList
 rw [if_pos hw]
 refine .inl ?_
 unfold Oper.wp
 rw [hr, Oper.upon_value, hd]
 exact k _ (hS.put hN v)

theorem st_enterW {f : FuncId} {args : Array Value} {R : Value → World → Prop} (hS : Sl N a S) (hw : Region.wanted o (yielded ops a.tmps) = true) (hd : o.dst = some d) (hN : Nat.blt d N = true)
  (hr : (execOp a.eval o).run P w = .ok (.enter f args) w) (hc : Calls P f args w (fun e w' => ∃ v, e = .returned v ∧ R v w'))
  (k : ∀ v a' w', R v w' → Sl N a' ((d, v) :: S) → wpList P ops Q rest a' w') : wpList P ops Q (o :: rest) a w := by
 unfold wpList
 rw [if_pos hw]
 refine .inl ?_
 unfold Oper.wp
 rw [hr, Oper.upon_enter]
 refine hc.mono fun e w' h => ?_
 obtain ⟨v, rfl, h⟩ := h
 rw [hd]
 exact k v _ w' h (hS.put hN v)

theorem want_eq (hS : Sl N a S) {gi : Nat} {gb t : Bool} (hg : o.guard = some (gi, gb)) (hd : (ops[gi]?).bind (·.dst) = some d) (hv : lk S d = some (.bool t)) : Region.wanted o (yielded ops a.tmps) = (t == gb) := by
 have := hS.get d _ hv
 simp only [Region.wanted, hg, yielded, hd, Option.bind_some, this]
 cases t <;> cases gb <;> rfl
theorem y0a (hS : Sl N a S) {gi : Nat} {gb t : Bool} (hg : o.guard = some (gi, gb)) (hd : (ops[gi]?).bind (·.dst) = some d) (hv : lk S d = some (.bool t)) (ht : t = gb) : Region.wanted o (yielded ops a.tmps) = true := by
 rw [want_eq hS hg hd hv, ht]; cases gb <;> rfl
theorem y05 (hS : Sl N a S) {gi : Nat} {gb t : Bool} (hg : o.guard = some (gi, gb)) (hd : (ops[gi]?).bind (·.dst) = some d) (hv : lk S d = some (.bool t)) (ht : t = !gb) : Region.wanted o (yielded ops a.tmps) = false := by
 rw [want_eq hS hg hd hv, ht]; cases gb <;> rfl
theorem y40 (hS : Sl N a S) {gi : Nat} {gb : Bool} (hg : o.guard = some (gi, gb)) (hd : (ops[gi]?).bind (·.dst) = some d) (hv : lk S d = some undef) : Region.wanted o (yielded ops a.tmps) = false := by
 have := hS.get d _ hv
 simp only [Region.wanted, hg, yielded, hd, Option.bind_some, this]
 cases gb <;> rfl

theorem y1c (hS : Sl N a S) (hw : Region.wanted o (yielded ops a.tmps) = false) (hd : o.dst = some d) (hN : Nat.blt d N = true)
  (k : ∀ a', Sl N a' ((d, undef) :: S) → wpList P ops Q rest a' w) : wpList P ops Q (o :: rest) a w := by
 unfold wpList
 rw [if_neg (by simp [hw]), hd]
 exact k _ (hS.put hN undef)

end


structure Fr (M : Nat → Prop) (w : World) (g : Nat → Nat) (w' : World) (g' : Nat → Nat) : Prop where
 os : w'.os = w.os
 tape : w'.tape = w.tape
 output : w'.output = w.output
 size : w.heap.size ≤ w'.heap.size
 block : ∀ b, b < w.heap.size → ¬ M (g b) → w'.heap[b]? = w.heap[b]? ∧ g' b = g b

theorem Fr.refl (M : Nat → Prop) (w : World) (g : Nat → Nat) : Fr M w g w g := ⟨rfl, rfl, rfl, Nat.le_refl _, fun _ _ _ => ⟨rfl, rfl⟩⟩

theorem Fr.trans {M M' : Nat → Prop} {w w1 w2 : World} {g g1 g2 : Nat → Nat} (h : Fr M w g w1 g1) (h' : Fr M' w1 g1 w2 g2) (hM : ∀ c, M' c → M c) : Fr M w g w2 g2 := by
 refine ⟨h'.os.trans h.os, h'.tape.trans h.tape, h'.output.trans h.output, Nat.le_trans h.size h'.size, fun b hb hm => ?_⟩
 obtain ⟨e1, e2⟩ := h.block b hb hm
 obtain ⟨e3, e4⟩ := h'.block b (Nat.lt_of_lt_of_le hb h.size) (by rw [e2]; exact fun hx => hm (hM _ hx))
 exact ⟨e3.trans e1, e4.trans e2⟩

theorem Fr.mono {M M' : Nat → Prop} {w w' : World} {g g' : Nat → Nat} (h : Fr M w g w' g') (hM : ∀ c, M c → M' c) : Fr M' w g w' g' :=
 ⟨h.os, h.tape, h.output, h.size, fun b hb hm => h.block b hb (fun hx => hm (hM _ hx))⟩

theorem Fr.drew (M : Nat → Prop) (w : World) (g : Nat → Nat) : Fr M w g w.drew g := ⟨rfl, rfl, rfl, Nat.le_refl _, fun _ _ _ => ⟨rfl, rfl⟩⟩

def dye (g : Nat → Nat) (b c : Nat) : Nat → Nat := fun b' => if b' = b then c else g b'

theorem dye_same (g : Nat → Nat) (b c : Nat) : dye g b c b = c := by simp [dye]
theorem dye_other {g : Nat → Nat} {b c b' : Nat} (h : b' ≠ b) : dye g b c b' = g b' := by simp [dye, h]

theorem Fr.alloc (M : Nat → Prop) (w : World) (g : Nat → Nat) (o : Obj) (c : Nat) : Fr M w g (w.alloc o) (dye g w.heap.size c) :=
 ⟨rfl, rfl, rfl, by simp, fun b hb _ => ⟨RowKit.Below.heap_alloc w o b hb, dye_other (by omega)⟩⟩

theorem Fr.setRow {M : Nat → Prop} (w : World) (g : Nat → Nat) (b : Nat) (cs : Array Value) (h : M (g b)) : Fr M w g (w.setRow b cs) g :=
 ⟨rfl, rfl, rfl, by simp [World.setRow], fun b' _ hm => ⟨setRow_other w b b' cs (fun e => hm (e ▸ h)), rfl⟩⟩

theorem Fr.cell {M : Nat → Prop} {w w' : World} {g g' : Nat → Nat} (h : Fr M w g w' g') {ad : Addr} {v : Value} (hc : w.cell? ad = some v) (hm : ¬ M (g ad.block)) : w'.cell? ad = some v := by
 rw [World.cell?_of_block (h.block ad.block (World.block_lt_of_cell? w ad hc) hm).1]
 exact hc

def y4y (g : Nat → Nat) (c1 c2 : Nat) : Nat → Nat := fun b => if g b = c1 then c2 else g b

theorem Fr.y4y {M : Nat → Prop} (w : World) (g : Nat → Nat) (c1 c2 : Nat) (h : M c1) : Fr M w g w (y4y g c1 c2) :=
 ⟨rfl, rfl, rfl, Nat.le_refl _, fun b _ hm => ⟨rfl, by
  unfold Sim.y4y
  by_cases e : g b = c1
  ·exact absurd (by rw [e]; exact h) hm
  ·rw [if_neg e]⟩⟩


structure Kd (α : Type) where
 sz : Nat
 R : World → (Nat → Nat) → (Nat → Prop) → α → List Value → Prop
 len : ∀ {w g C x cs}, R w g C x cs → cs.length = sz
 one : ∀ {w g C x cs}, R w g C x cs → ∀ v ∈ cs, v.oneCell' = true
 fr : ∀ {M w g w' g' C x cs}, Fr M w g w' g' → (∀ c, C c → ¬ M c) → R w g C x cs → R w' g' C x cs
 re : ∀ {w g g'} {C C' : Nat → Prop} {x cs}, (∀ b, b < w.heap.size → C (g b) → C' (g' b)) → R w g C x cs → R w g' C' x cs

theorem Kd.weak {α : Type} (k : Kd α) {w : World} {g : Nat → Nat} {C C' : Nat → Prop} {x : α} {cs : List Value} (h : ∀ c, C c → C' c) (hr : k.R w g C x cs) : k.R w g C' x cs := k.re (fun _ _ hc => h _ hc) hr

def flat {α : Type} (sz : Nat) (enc : α → List Value) (hl : ∀ x, (enc x).length = sz) (h1 : ∀ x, ∀ v ∈ enc x, v.oneCell' = true) : Kd α where
 sz := sz
 R := fun _ _ _ x cs => cs = enc x
 len := fun h => h ▸ hl _
 one := fun h => h ▸ h1 _
 fr := fun _ _ h => h
 re := fun _ h => h

def kint (k : IntKind) : Kd Int := flat 1 (fun x => [.int k x]) (fun _ => rfl) (fun x v hv => by simp at hv; subst hv; rfl)
def y4p : Kd Bool := flat 1 (fun x => [.bool x]) (fun _ => rfl) (fun x v hv => by simp at hv; subst hv; rfl)


def idx {α : Type} (xs : List α) (i : Int) : Option α := if 0 ≤ i then xs[i.toNat]? else none

theorem y3r {α : Type} {xs : List α} {i : Int} {x : α} (h : idx xs i = some x) : 0 ≤ i ∧ i < (xs.length : Int) ∧ xs[i.toNat]? = some x := by
 unfold idx at h
 split at h
 ·rename_i h0
  have hlt : i.toNat < xs.length := by
   rcases Nat.lt_or_ge i.toNat xs.length with h1 | h1
   ·exact h1
   ·simp [List.getElem?_eq_none h1] at h
  exact ⟨h0, by omega, h⟩
 ·cases h

def ea (A : Option Addr) (o : Nat) : Addr := (A.getD ⟨0, 0, none⟩).add o

theorem add_block (a : Addr) (n : Nat) : (a.add n).block = a.block := by unfold Addr.add; split <;> rfl
theorem add_add (a : Addr) (i j : Nat) : (a.add i).add j = a.add (i + j) := by
 unfold Addr.add
 by_cases hi : i = 0 <;> by_cases hj : j = 0 <;> simp [hi, hj, Nat.add_assoc]
theorem ea_add (A : Option Addr) (i j : Nat) : (ea A i).add j = ea A (i + j) := add_add _ _ _
theorem ea_some (b o n : Nat) : ea (some ⟨b, o, none⟩) n = ⟨b, o + n, none⟩ := by
 unfold ea Addr.add; simp only [Option.getD_some]; split <;> simp_all

def RdX {α : Type} (k : Kd α) (w : World) (g : Nat → Nat) (C D : Nat → Prop) (A : Option Addr) (cap : Nat) (xs : List α) : Prop :=
 xs.length ≤ cap ∧ ∀ i x, xs[i]? = some x → ∃ ad cs, A = some ad ∧ C (g ad.block) ∧ k.R w g D x cs ∧ ∀ j u, cs[j]? = some u → w.cell? (ad.add (i * k.sz + j)) = some u
abbrev RdS {α : Type} (k : Kd α) (w : World) (g : Nat → Nat) (C : Nat → Prop) (A : Option Addr) (cap : Nat) (xs : List α) : Prop := RdX k w g C C A cap xs

section
variable {α : Type} {k : Kd α} {M : Nat → Prop} {w w' : World} {g g' : Nat → Nat} {C C' D D' : Nat → Prop} {A : Option Addr} {cap : Nat} {xs : List α}

theorem RdX.nil (k : Kd α) (w : World) (g : Nat → Nat) (C D : Nat → Prop) : RdX k w g C D none 0 [] := ⟨Nat.le_refl _, fun i x h => by simp at h⟩
theorem RdS.nil (k : Kd α) (w : World) (g : Nat → Nat) (C : Nat → Prop) : RdS k w g C none 0 [] := RdX.nil k w g C C

theorem RdX.weak (h : RdX k w g C D A cap xs) (hC : ∀ c, C c → C' c) (hD : ∀ c, D c → D' c) : RdX k w g C' D' A cap xs :=
 ⟨h.1, fun i x hx => let ⟨ad, cs, e, h1, h2, h3⟩ := h.2 i x hx; ⟨ad, cs, e, hC _ h1, k.weak hD h2, h3⟩⟩
theorem RdS.weak (h : RdS k w g C A cap xs) (hC : ∀ c, C c → C' c) : RdS k w g C' A cap xs := RdX.weak h hC hC

theorem RdX.at_ (h : RdX k w g C D A cap xs) {i : Int} {x : α} (hi : idx xs i = some x) :
  ∃ cs, k.R w g D x cs ∧ (∀ j u, cs[j]? = some u → w.cell? (ea A (i.toNat * k.sz + j)) = some u) ∧ C (g (ea A 0).block) ∧ ∃ ad, A = some ad := by
 obtain ⟨h0, h1, h2⟩ := y3r hi
 obtain ⟨ad, cs, rfl, hc, hr, hcell⟩ := h.2 _ _ h2
 refine ⟨cs, hr, fun j u hu => ?_, ?_, ad, rfl⟩
 ·unfold ea; exact hcell j u hu
 ·simp only [ea, add_block, Option.getD_some]; exact hc
theorem RdS.at_ (h : RdS k w g C A cap xs) {i : Int} {x : α} (hi : idx xs i = some x) :
  ∃ cs, k.R w g C x cs ∧ (∀ j u, cs[j]? = some u → w.cell? (ea A (i.toNat * k.sz + j)) = some u) ∧ C (g (ea A 0).block) ∧ ∃ ad, A = some ad := RdX.at_ h hi

theorem RdX.fr (h : RdX k w g C D A cap xs) (F : Fr M w g w' g') (hsz : 0 < k.sz) (hC : ∀ c, C c → ¬ M c) (hD : ∀ c, D c → ¬ M c) : RdX k w' g' C D A cap xs := by
 refine ⟨h.1, fun i x hx => ?_⟩
 obtain ⟨ad, cs, rfl, hc, hr, hcell⟩ := h.2 i x hx
 have hl := k.len hr
 have h0 : w.cell? (ad.add (i * k.sz + 0)) = some cs[0] := hcell 0 _ (by simp [List.getElem?_eq_getElem (show 0 < cs.length by omega)])
 have hb := World.block_lt_of_cell? w _ h0
 rw [add_block] at hb
 refine ⟨ad, cs, rfl, ?_, k.fr F hD hr, fun j u hu => F.cell (hcell j u hu) (by rw [add_block]; exact hC _ hc)⟩
 rw [(F.block _ hb (hC _ hc)).2]; exact hc
theorem RdS.fr (h : RdS k w g C A cap xs) (F : Fr M w g w' g') (hsz : 0 < k.sz) (hC : ∀ c, C c → ¬ M c) : RdS k w' g' C A cap xs := RdX.fr h F hsz hC hC

theorem RdX.re (h : RdX k w g C D A cap xs) (hsz : 0 < k.sz) (hC : ∀ b, b < w.heap.size → C (g b) → C' (g' b)) (hD : ∀ b, b < w.heap.size → D (g b) → D' (g' b)) : RdX k w g' C' D' A cap xs := by
 refine ⟨h.1, fun i x hx => ?_⟩
 obtain ⟨ad, cs, rfl, hc, hr, hcell⟩ := h.2 i x hx
 have hl := k.len hr
 have h0 : w.cell? (ad.add (i * k.sz + 0)) = some cs[0] := hcell 0 _ (by simp [List.getElem?_eq_getElem (show 0 < cs.length by omega)])
 have hb := World.block_lt_of_cell? w _ h0
 rw [add_block] at hb
 exact ⟨ad, cs, rfl, hC _ hb hc, k.re hD hr, hcell⟩


def Rows (k : Kd α) (w : World) (g : Nat → Nat) (C : Nat → Prop) (xs : List α) (cs : List Value) : Prop :=
 cs.length = xs.length * k.sz ∧ ∀ i x, xs[i]? = some x → k.R w g C x ((cs.drop (i * k.sz)).take k.sz)

def OwD (k : Kd α) (T : TypeId) (w : World) (g : Nat → Nat) (c : Nat) (D : Nat → Prop) (A : Option Addr) (cap : Nat) (xs : List α) : Prop :=
 xs.length ≤ cap ∧ cap ≤ maxLen ∧ ((A = none ∧ cap = 0) ∨
  ∃ b arr, A = some ⟨b, 0, none⟩ ∧ w.heap[b]? = some (.cells arr T (0, 0)) ∧ g b = c ∧ arr.size = cap * k.sz ∧ Rows k w g D xs (arr.toList.take (xs.length * k.sz)))
abbrev OwS (k : Kd α) (T : TypeId) (w : World) (g : Nat → Nat) (c : Nat) (A : Option Addr) (cap : Nat) (xs : List α) : Prop := OwD k T w g c (· = c + 1) A cap xs

theorem OwD.nil (k : Kd α) (T : TypeId) (w : World) (g : Nat → Nat) (c : Nat) (D : Nat → Prop) : OwD k T w g c D none 0 [] := ⟨Nat.le_refl _, by simp [maxLen], .inl ⟨rfl, rfl⟩⟩
theorem OwS.nil (k : Kd α) (T : TypeId) (w : World) (g : Nat → Nat) (c : Nat) : OwS k T w g c none 0 [] := OwD.nil k T w g c _

theorem Rows.fr {cs : List Value} (h : Rows k w g C xs cs) (F : Fr M w g w' g') (hC : ∀ c, C c → ¬ M c) : Rows k w' g' C xs cs :=
 ⟨h.1, fun i x hx => k.fr F hC (h.2 i x hx)⟩

theorem OwD.fr {c : Nat} {T : TypeId} (h : OwD k T w g c D A cap xs) (F : Fr M w g w' g') (hc : ¬ M c) (hD : ∀ c', D c' → ¬ M c') : OwD k T w' g' c D A cap xs := by
 refine ⟨h.1, h.2.1, ?_⟩
 rcases h.2.2 with hn | ⟨b, arr, rfl, hb, hg, hs, hr⟩
 ·exact .inl hn
 ·have hlt := (Array.getElem?_eq_some_iff.1 hb).1
  have hm : ¬ M (g b) := by rw [hg]; exact hc
  refine .inr ⟨b, arr, rfl, ?_, ?_, hs, hr.fr F hD⟩
  ·rw [(F.block b hlt hm).1]; exact hb
  ·rw [(F.block b hlt hm).2]; exact hg
theorem OwS.fr {c : Nat} {T : TypeId} (h : OwS k T w g c A cap xs) (F : Fr M w g w' g') (hC : ∀ c', c' = c ∨ c' = c + 1 → ¬ M c') : OwS k T w' g' c A cap xs := OwD.fr h F (hC c (.inl rfl)) (fun c' e => hC c' (.inr e))

theorem getElem?_take_drop (l : List Value) (i n j : Nat) (hj : j < n) : ((l.drop i).take n)[j]? = l[i + j]? := by
 rw [List.getElem?_take, if_pos hj, List.getElem?_drop]

theorem OwD.rdx {c : Nat} {T : TypeId} (h : OwD k T w g c D A cap xs) : RdX k w g (· = c) D A cap xs := by
 refine ⟨h.1, fun i x hx => ?_⟩
 have hi : i < xs.length := by
  rcases Nat.lt_or_ge i xs.length with h1 | h1
  ·exact h1
  ·simp [List.getElem?_eq_none h1] at hx
 rcases h.2.2 with ⟨rfl, h0⟩ | ⟨b, arr, rfl, hb, hc, hs, hr⟩
 ·have := h.1; omega
 ·have hR := hr.2 i x hx
  refine ⟨⟨b, 0, none⟩, _, rfl, hc, hR, fun j u hu => ?_⟩
  have hl := k.len hR
  have hj : j < k.sz := by
   rcases Nat.lt_or_ge j k.sz with h1 | h1
   ·exact h1
   ·simp [List.getElem?_eq_none (show (((arr.toList.take (xs.length * k.sz)).drop (i * k.sz)).take k.sz).length ≤ j by omega)] at hu
  rw [getElem?_take_drop _ _ _ _ hj, List.getElem?_take] at hu
  split at hu
  ·have hadd : (⟨b, 0, none⟩ : Addr).add (i * k.sz + j) = ⟨b, i * k.sz + j, none⟩ := by unfold Addr.add; split <;> simp_all
   rw [hadd, cell_of_row w b _ arr T (0, 0) hb]
   simpa using hu
  ·cases hu
theorem OwD.rd {c : Nat} {T : TypeId} (h : OwD k T w g c D A cap xs) : RdS k w g (fun c' => c' = c ∨ D c') A cap xs := h.rdx.weak (fun _ e => .inl e) (fun _ e => .inr e)
theorem OwS.rd {c : Nat} {T : TypeId} (h : OwS k T w g c A cap xs) : RdS k w g (fun c' => c' = c ∨ c' = c + 1) A cap xs := OwD.rd h

end

def y2f (g : Nat → Nat) (c d : Nat) : Nat → Nat := fun b => if g b = c then d else if g b = c + 1 then d + 1 else g b

theorem Fr.y2f (w : World) (g : Nat → Nat) (c d : Nat) : Fr (fun q => q = c ∨ q = c + 1) w g w (y2f g c d) :=
 ⟨rfl, rfl, rfl, Nat.le_refl _, fun b _ hm => ⟨rfl, by
  unfold Sim.y2f
  rw [if_neg (fun e => hm (.inl e)), if_neg (fun e => hm (.inr e))]⟩⟩

theorem OwS.y2f {α : Type} {k : Kd α} {w : World} {g : Nat → Nat} {A : Option Addr} {cap : Nat} {xs : List α} {c : Nat} {T : TypeId} (h : OwS k T w g c A cap xs) (d : Nat) : OwS k T w (y2f g c d) d A cap xs := by
 refine ⟨h.1, h.2.1, ?_⟩
 rcases h.2.2 with hn | ⟨b, arr, rfl, hb, hc, hs, hr⟩
 ·exact .inl hn
 ·refine .inr ⟨b, arr, rfl, hb, by simp [Sim.y2f, hc], hs, hr.1, fun i x hx => k.re (fun b' _ e => ?_) (hr.2 i x hx)⟩
  simp only [Sim.y2f]
  rw [if_neg (by omega), if_pos e]


def Bx (w : World) (g : Nat → Nat) (c b : Nat) (T : TypeId) (cs : List Value) : Prop := w.heap[b]? = some (.cells cs.toArray T (0, 0)) ∧ g b = c

theorem Bx.cell {w : World} {g : Nat → Nat} {c b : Nat} {T : TypeId} {cs : List Value} (h : Bx w g c b T cs) {j : Nat} {v : Value} (hj : cs[j]? = some v) : w.cell? ⟨b, j, none⟩ = some v := by
 rw [cell_of_row w b j cs.toArray T (0, 0) h.1]; simpa using hj

theorem Bx.fr {M : Nat → Prop} {w w' : World} {g g' : Nat → Nat} {c b : Nat} {T : TypeId} {cs : List Value} (h : Bx w g c b T cs) (F : Fr M w g w' g') (hC : ¬ M c) : Bx w' g' c b T cs := by
 have hlt := (Array.getElem?_eq_some_iff.1 h.1).1
 obtain ⟨e1, e2⟩ := F.block b hlt (by rw [h.2]; exact hC)
 exact ⟨e1.trans h.1, e2.trans h.2⟩


def upd {α : Type} (xs : List α) (i : Int) (x : α) : List α := xs.set i.toNat x
def app {α : Type} (xs ys : List α) : Option (List α) := if xs.length + ys.length ≤ 4294967296 then some (xs ++ ys) else none
def mk {α : Type} (n : Int) (x : α) : Option (List α) := if 0 ≤ n ∧ n ≤ 4294967296 then some (List.replicate n.toNat x) else none
def wi (x : Int) : Int := IntKind.i64.wrap x
def wu (x : Int) : Int := IntKind.u64.wrap x

theorem y0b {α β : Type} {o : Option α} {f : α → Option β} {r : β} (h : o.bind f = some r) : ∃ x, o = some x ∧ f x = some r := Option.bind_eq_some_iff.1 h

end Go.Proofs.Ytcfcffbjdjacfaa.Sim

namespace Go.Proofs.Ytcfcffbjdjacfaa.Sim
open Go

section
variable {P : Program} {a : Act} {w : World} {o : Oper} {N : Nat} {S : List (Nat × Value)}

theorem y03 {x : Operand} {v : Value} (hS : Sl N a S) (ho : o.op = .move x) (hx : ev S x = some v) : (execOp a.eval o).run P w = .ok (.value v) w := by
 unfold execOp; simp only [ho, hS.ev hx]; rfl
theorem y02 {x : Operand} {v : Value} (hS : Sl N a S) (ho : o.op = .assign x) (hx : ev S x = some v) : (execOp a.eval o).run P w = .ok (.value v) w := by
 unfold execOp; simp only [ho, hS.ev hx]; rfl
theorem y4s {x : Operand} {ad : Addr} (hS : Sl N a S) (ho : o.op = .nilCheck x) (hx : ev S x = some (.pointer (some ad))) :
  (execOp a.eval o).run P w = .ok (.value (.pointer (some ad))) w := by
 unfold execOp; simp only [ho, hS.ev hx]; rfl

theorem r_value {x : Sem Value} {v : Value} {w' : World} (h : x.run P w = .ok v w') : (do let y ← x; pure (Next.value y) : Sem Next).run P w = .ok (.value v) w' := by
 simp [h]

def fieldOff (P : Program) (T f : Nat) : Option Nat :=
 match P.underlying T with
 | some (.struct fs) => match fs[f]? with
  | some fd => match P.info? fd.type with
   | some i => if i.size = 0 then none else some fd.offset
   | none => none
  | none => none
 | _ => none

theorem run_fieldAt {T f off : Nat} {ad : Addr} (h : fieldOff P T f = some off) : (Instr.fieldAt T (.pointer (some ad)) f).run P w = .ok (.pointer (some (ad.add off))) w := by
 unfold fieldOff at h
 split at h
 ·rename_i fs hu
  split at h
  ·rename_i fd hf
   split at h
   ·rename_i i hi
    split at h
    ·cases h
    ·rename_i hz
     injection h with h
     subst h
     simp [Instr.fieldAt, run_underlying hu, hf, Instr.sureAddr, fieldPlace, sizeOf, typeInfo, hi, hz]
   ·cases h
  ·cases h
 ·cases h

theorem r_field {T f off : Nat} {x : Operand} {ad : Addr} (hS : Sl N a S) (ho : o.op = .fieldAddr T x f) (hx : ev S x = some (.pointer (some ad))) (hf : fieldOff P T f = some off) :
  (execOp a.eval o).run P w = .ok (.value (.pointer (some (ad.add off)))) w := by
 unfold execOp; simp only [ho, hS.ev hx]; exact r_value (run_fieldAt hf)
theorem y1e {T f off b j : Nat} {x : Operand} (hS : Sl N a S) (ho : o.op = .fieldAddr T x f) (hx : ev S x = some (.pointer (some ⟨b, j, none⟩))) (hf : fieldOff P T f = some off) :
  (execOp a.eval o).run P w = .ok (.value (.pointer (some ⟨b, j + off, none⟩))) w := by
 have := r_field (w := w) hS ho hx hf
 rwa [Addr.add_lit] at this
theorem y2w {T f off j : Nat} {A : Option Addr} {x : Operand} (hS : Sl N a S) (ho : o.op = .fieldAddr T x f) (hx : ev S x = some (.pointer (some (ea A j)))) (hf : fieldOff P T f = some off) :
  (execOp a.eval o).run P w = .ok (.value (.pointer (some (ea A (j + off))))) w := by
 have := r_field (w := w) hS ho hx hf
 rwa [ea_add] at this

def elemInfo (P : Program) (T : Nat) : Option (Nat × Nat × Nat) :=
 match P.underlying T with
 | some (.slice e) => match P.info? e with
  | some i => some (e, i.size, i.bytes)
  | none => none
 | _ => none

theorem elemInfo_spec {T e sz by_ : Nat} (h : elemInfo P T = some (e, sz, by_)) : P.underlying T = some (.slice e) ∧ ∃ i, P.info? e = some i ∧ i.size = sz ∧ i.bytes = by_ := by
 unfold elemInfo at h
 split at h
 ·rename_i e' hu
  split at h
  ·rename_i i hi
   simp only [Option.some.injEq, Prod.mk.injEq] at h
   obtain ⟨rfl, h2, h3⟩ := h
   exact ⟨hu, i, hi, h2, h3⟩
  ·cases h
 ·cases h

theorem y1j {T e sz by_ n cap : Nat} {x y : Operand} {A : Option Addr} {ik : IntKind} {i : Int} (hS : Sl N a S) (ho : o.op = .indexAddr T x y) (hx : ev S x = some (.slice A n cap)) (hy : ev S y = some (.int ik i))
  (ht : elemInfo P T = some (e, sz, by_)) (hA : ∃ ad, A = some ad) (h0 : 0 ≤ i) (h1 : i < (n : Int)) :
  (execOp a.eval o).run P w = .ok (.value (.pointer (some (ea A (i.toNat * sz))))) w := by
 obtain ⟨hu, inf, hi, hs, _⟩ := elemInfo_spec ht
 obtain ⟨ad, rfl⟩ := hA
 unfold execOp; simp only [ho, hS.ev hx, hS.ev hy]
 refine r_value ?_
 simp [Instr.indexAt, asIntOf, run_underlying hu, h0, h1, sizeOf, typeInfo, hi, hs, ea]

def tsz (P : Program) (T : Nat) : Option (Nat × Bool) :=
 match P.underlying T, P.info? T with
 | some d, some i => some (i.size, match d with | .struct _ | .array _ _ => true | _ => false)
 | _, _ => none

theorem tsz_spec {T n : Nat} {b : Bool} (h : tsz P T = some (n, b)) : ∃ d i, P.underlying T = some d ∧ P.info? T = some i ∧ i.size = n ∧ (match d with | .struct _ | .array _ _ => true | _ => false) = b := by
 unfold tsz at h
 split at h
 ·rename_i d i hd hi
  simp only [Option.some.injEq, Prod.mk.injEq] at h
  exact ⟨d, i, hd, hi, h.1, h.2⟩
 ·cases h

theorem run_isAgg {T n : Nat} {b : Bool} (h : tsz P T = some (n, b)) : (isAgg T).run P w = .ok b w := by
 obtain ⟨d, i, hd, hi, hn, hb⟩ := tsz_spec h
 unfold isAgg
 simp only [Sem.run_bind, run_underlying hd, Result.andThen_ok]
 subst hb
 cases d <;> rfl

theorem run_sizeOf {T n : Nat} {b : Bool} (h : tsz P T = some (n, b)) : (sizeOf T).run P w = .ok n w := by
 obtain ⟨d, i, hd, hi, hn, hb⟩ := tsz_spec h
 subst hn
 simp [sizeOf, typeInfo, hi]

theorem y0u {T : Nat} {x : Operand} {ad : Addr} {v : Value} {n : Nat} (hS : Sl N a S) (ho : o.op = .load T x) (hx : ev S x = some (.pointer (some ad))) (ht : tsz P T = some (n, false))
  (hc : w.cell? ad = some v) : (execOp a.eval o).run P w = .ok (.value v) w := by
 unfold execOp; simp only [ho, hS.ev hx]
 refine r_value ?_
 simp [Instr.loadAt, Instr.sureAddr, loadVar, run_isAgg ht, load, Sem.run, hc]

theorem r_loadN {T n : Nat} {x : Operand} {ad : Addr} {cs : List Value} (hS : Sl N a S) (ho : o.op = .load T x) (hx : ev S x = some (.pointer (some ad))) (ht : tsz P T = some (n, true))
  (hn : cs.length = n) (hc : ∀ j u, cs[j]? = some u → w.cell? (ad.add j) = some u) : (execOp a.eval o).run P w = .ok (.value (.agg cs.toArray)) w := by
 unfold execOp; simp only [ho, hS.ev hx]
 refine r_value ?_
 have := run_loadCells_list (P := P) w ad cs hc
 rw [hn] at this
 simp [Instr.loadAt, Instr.sureAddr, loadVar, run_isAgg ht, run_sizeOf ht, this]

theorem y4x {T : Nat} {x : Operand} {A : Option Addr} {n cap e sz by_ : Nat} (hS : Sl N a S) (ho : o.op = .call { callee := .builtin .len, args := #[x], argTypes := #[T] }) (hx : ev S x = some (.slice A n cap))
  (ht : elemInfo P T = some (e, sz, by_)) : (execOp a.eval o).run P w = .ok (.value (.int .i64 (n : Int))) w := by
 obtain ⟨hu, _⟩ := elemInfo_spec ht
 unfold execOp
 simp [ho, hS.ev hx, resolve, invoke, builtin, Builtin.len_, run_underlying hu, goInt]

theorem r_min {x y : Operand} {k : IntKind} {p q : Int} {ts : Array TypeId} (hS : Sl N a S) (ho : o.op = .call { callee := .builtin .min, args := #[x, y], argTypes := ts }) (hx : ev S x = some (.int k p)) (hy : ev S y = some (.int k q)) :
  (execOp a.eval o).run P w = .ok (.value (.int k (min p q))) w := by
 have e : (if q < p then q else p) = min p q := by omega
 unfold execOp
 simp [ho, hS.ev hx, hS.ev hy, resolve, invoke, builtin, Builtin.min_, Builtin.min2, ← e]


theorem y2l {op : BinOp} {t t' : Nat} {x y : Operand} {k : IntKind} {p q : Int} {r : Value} (hS : Sl N a S) (ho : o.op = .binOp op t x y t') (hx : ev S x = some (.int k p)) (hy : ev S y = some (.int k q))
  (hr : (binOp op t (.int k p) (.int k q)).run P w = .ok r w) : (execOp a.eval o).run P w = .ok (.value r) w := by
 unfold execOp
 simp only [ho, hS.ev hx, hS.ev hy, eqGuard_at_int]
 refine r_value ?_
 simpa using hr

theorem y4z {t : Nat} {k : IntKind} {p q : Int} : (binOp .add t (.int k p) (.int k q)).run P w = .ok (.int k (k.wrap (p + q))) w := by rw [binOp_add]; rfl
theorem b_sub {t : Nat} {k : IntKind} {p q : Int} : (binOp .sub t (.int k p) (.int k q)).run P w = .ok (.int k (k.wrap (p - q))) w := by rw [binOp_sub]; rfl
theorem b_mul {t : Nat} {k : IntKind} {p q : Int} : (binOp .mul t (.int k p) (.int k q)).run P w = .ok (.int k (k.wrap (p * q))) w := by rw [binOp_mul]; rfl
theorem b_quo {t : Nat} {k : IntKind} {p q : Int} (h : q ≠ 0) : (binOp .quo t (.int k p) (.int k q)).run P w = .ok (.int k (k.wrap (p.tdiv q))) w := by
 rw [binOp_quo]; simp [Op.intDiv, h]
theorem b_rem {t : Nat} {k : IntKind} {p q : Int} (h : q ≠ 0) : (binOp .rem t (.int k p) (.int k q)).run P w = .ok (.int k (p.tmod q)) w := by
 rw [binOp_rem]; simp [Op.intDiv, h]
theorem b_eql {t : Nat} {k : IntKind} {p q : Int} : (binOp .eql t (.int k p) (.int k q)).run P w = .ok (.bool (p == q)) w := by rw [binOp_eql]; rfl
theorem b_neq {t : Nat} {k : IntKind} {p q : Int} : (binOp .neq t (.int k p) (.int k q)).run P w = .ok (.bool (p != q)) w := by rw [binOp_neq]; rfl
theorem y4t {t : Nat} {k : IntKind} {p q : Int} : (binOp .lss t (.int k p) (.int k q)).run P w = .ok (.bool (decide (p < q))) w := by rw [binOp_lss]; rfl
theorem b_leq {t : Nat} {k : IntKind} {p q : Int} : (binOp .leq t (.int k p) (.int k q)).run P w = .ok (.bool (decide (p ≤ q))) w := by rw [binOp_leq]; rfl
theorem b_gtr {t : Nat} {k : IntKind} {p q : Int} : (binOp .gtr t (.int k p) (.int k q)).run P w = .ok (.bool (decide (q < p))) w := by rw [binOp_gtr]; rfl
theorem b_geq {t : Nat} {k : IntKind} {p q : Int} : (binOp .geq t (.int k p) (.int k q)).run P w = .ok (.bool (decide (q ≤ p))) w := by rw [binOp_geq]; rfl

theorem r_binB {op : BinOp} {t t' : Nat} {x y : Operand} {p q : Bool} {r : Value} (hS : Sl N a S) (ho : o.op = .binOp op t x y t') (hx : ev S x = some (.bool p)) (hy : ev S y = some (.bool q))
  (hr : (binOp op t (.bool p) (.bool q)).run P w = .ok r w) : (execOp a.eval o).run P w = .ok (.value r) w := by
 unfold execOp
 simp only [ho, hS.ev hx, hS.ev hy, eqGuard_at_bool]
 refine r_value ?_
 simpa using hr
theorem b_neqB {t : Nat} {p q : Bool} (hu : P.underlying t = some .bool) : (binOp .neq t (.bool p) (.bool q)).run P w = .ok (.bool (!(p == q))) w := run_neq_bool (P := P) (w := w) t p q hu

theorem r_ptrEq {t t' : Nat} {x : Operand} {p : Option Addr} (hS : Sl N a S) (ho : o.op = .binOp .eql t x (.const (.pointer none)) t') (hx : ev S x = some (.pointer p)) (hu : P.underlying t = some (.pointer (P.pointee t))) :
  (execOp a.eval o).run P w = .ok (.value (.bool p.isNone)) w := by
 have hc : a.eval (.const (.pointer none)) = .pointer none := rfl
 unfold execOp
 simp only [ho, hS.ev hx, hc, eqGuard_at_pointer]
 refine r_value ?_
 have := run_eql_pointer_nil (P := P) (w := w) t p hu
 simp only [Sem.run_bind, Sem.run_pure, Result.andThen_ok, this]
theorem r_not {t : Nat} {x : Operand} {p : Bool} (hS : Sl N a S) (ho : o.op = .unOp .not t x) (hx : ev S x = some (.bool p)) : (execOp a.eval o).run P w = .ok (.value (.bool (!p))) w := by
 unfold execOp; simp only [ho, hS.ev hx]; rfl

theorem y2s {x y z : Operand} {p : Bool} {u : Value} (hS : Sl N a S) (ho : o.op = .pick x y z) (hx : ev S x = some (.bool p)) (hy : ev S y = some u) (hp : p = true) : (execOp a.eval o).run P w = .ok (.value u) w := by
 subst hp
 unfold execOp; simp only [ho, hS.ev hx, hS.ev hy]; rfl
theorem y2t {x y z : Operand} {p : Bool} {u : Value} (hS : Sl N a S) (ho : o.op = .pick x y z) (hx : ev S x = some (.bool p)) (hz : ev S z = some u) (hp : p = false) : (execOp a.eval o).run P w = .ok (.value u) w := by
 subst hp
 unfold execOp; simp only [ho, hS.ev hx, hS.ev hz]; rfl

theorem y1z {x : Operand} {vs : Array Value} {i : Nat} {v : Value} (hS : Sl N a S) (ho : o.op = .extract x i) (hx : ev S x = some (.tuple vs)) (hv : vs[i]? = some v) :
  (execOp a.eval o).run P w = .ok (.value v) w := by
 unfold execOp; simp only [ho, hS.ev hx]; refine r_value ?_; simp [Instr.extract, hv]

def intTo (P : Program) (src dst : Nat) : Option IntKind :=
 match P.underlying src, P.underlying dst with
 | some _, some (.int k) => some k
 | _, _ => none
theorem r_convert {src dst : Nat} {x : Operand} {k k' : IntKind} {p : Int} (hS : Sl N a S) (ho : o.op = .convert src dst x) (hx : ev S x = some (.int k p)) (h : intTo P src dst = some k') :
  (execOp a.eval o).run P w = .ok (.value (.int k' (k'.wrap p))) w := by
 unfold intTo at h
 split at h
 ·rename_i d k2 hs hd
  injection h with h; subst h
  unfold execOp; simp only [ho, hS.ev hx]; refine r_value ?_
  simp [convert, run_underlying hs, run_underlying hd, Conv.intToInt]
 ·cases h


def callOk (P : Program) (f : Nat) : Bool := match P.funcs[f]? with | some fn => !(fn.name == "runtime.NumGoroutine") && fn.body.isSome | none => false

theorem run_callFunc {f : Nat} {args : Array Value} (h : callOk P f = true) : (callFunc f args).run P w = .ok (.enter f args) w := by
 unfold callOk at h
 split at h
 ·rename_i fn hf
  simp only [Bool.and_eq_true, Bool.not_eq_true', Option.isSome_iff_exists] at h
  obtain ⟨h1, b, h2⟩ := h
  have h1' : ¬ fn.name = "runtime.NumGoroutine" := by simpa using h1
  simp [callFunc, program, Sem.run, hf, h1', h2]
 ·cases h

def evs (S : List (Nat × Value)) : List Operand → Option (List Value)
 | [] => some []
 | x :: t => match ev S x, evs S t with
  | some v, some vs => some (v :: vs)
  | _, _ => none

theorem evs_spec (hS : Sl N a S) : ∀ {xs : List Operand} {vs : List Value}, evs S xs = some vs → xs.map a.eval = vs
 | [], vs, h => by simp [evs] at h; subst h; rfl
 | x :: t, vs, h => by
  simp only [evs] at h
  split at h
  ·rename_i v vs' h1 h2
   injection h with h; subst h
   simp [hS.ev h1, evs_spec hS h2]
  ·cases h

theorem y2z {f : Nat} {xs : List Operand} {vs : List Value} {ts : Array TypeId} (hS : Sl N a S) (ho : o.op = .call { callee := .value (.func f), args := xs.toArray, argTypes := ts }) (hx : evs S xs = some vs) (hf : callOk P f = true) :
  (execOp a.eval o).run P w = .ok (.enter f vs.toArray) w := by
 have := evs_spec hS hx
 unfold execOp
 simp [ho, resolve, Act.eval, Deferred.ofValue, invoke, this, run_callFunc hf]

end

end Go.Proofs.Ytcfcffbjdjacfaa.Sim

namespace Go.Proofs.Ytcfcffbjdjacfaa.Sim
open Go

section
variable {P : Program} {ops : Array Oper} {Q : Exit → Act → World → Prop} {a : Act} {w : World} {rest : List Oper} {o : Oper} {N : Nat} {S : List (Nat × Value)} {d : Nat}

def Eff (P : Program) (a : Act) (o : Oper) (w : World) (R : Value → World → (Nat → Nat) → Prop) : Prop :=
 ∃ v w' g', (execOp a.eval o).run P w = .ok (.value v) w' ∧ R v w' g'
def EffS (P : Program) (a : Act) (o : Oper) (w : World) (R : World → (Nat → Nat) → Prop) : Prop :=
 ∃ w' g', (execOp a.eval o).run P w = .ok .skip w' ∧ R w' g'

theorem y41 {R : Value → World → (Nat → Nat) → Prop} (hS : Sl N a S) (hg : o.guard = none) (hd : o.dst = some d) (hN : Nat.blt d N = true) (hr : Eff P a o w R)
  (k : ∀ v a' w' g', R v w' g' → Sl N a' ((d, v) :: S) → wpList P ops Q rest a' w') : wpList P ops Q (o :: rest) a w := by
 obtain ⟨v, w', g', h1, h2⟩ := hr
 exact y00 hS hg hd hN h1 fun a' hS' => k v a' w' g' h2 hS'

theorem y3s {R : World → (Nat → Nat) → Prop} (hS : Sl N a S) (hg : o.guard = none) (hd : o.dst = none) (hr : EffS P a o w R)
  (k : ∀ a' w' g', R w' g' → Sl N a' S → wpList P ops Q rest a' w') : wpList P ops Q (o :: rest) a w := by
 obtain ⟨w', g', h1, h2⟩ := hr
 exact st_skip hS hg hd h1 fun a' hS' => k a' w' g' h2 hS'

theorem Bx.new (w : World) (g : Nat → Nat) (c : Nat) (T : TypeId) (cs : List Value) : Bx (w.alloc (.cells cs.toArray T)) (dye g w.heap.size c) c w.heap.size T cs :=
 ⟨heap_alloc_new w _, dye_same g _ c⟩


def zcells (P : Program) (T : Nat) : Option (List Value) := (P.info? T).bind fun i => i.zero.map fun z => z.cells.toList

theorem e_alloc {T : Nat} {cs : List Value} (c : Nat) (g : Nat → Nat) (_hS : Sl N a S) (ho : o.op = .alloc T) (hz : zcells P T = some cs) :
  Eff P a o w fun v w' g' => (∃ b, v = .pointer (some ⟨b, 0, none⟩) ∧ Bx w' g' c b T cs) ∧ Fr (fun _ => False) w g w' g' := by
 unfold zcells at hz
 obtain ⟨i, hi, hz1⟩ := Option.bind_eq_some_iff.1 hz
 obtain ⟨z, hz2, rfl⟩ := Option.map_eq_some_iff.1 hz1
 refine ⟨.pointer (some ⟨w.heap.size, 0, none⟩), w.alloc (.cells z.cells T), dye g w.heap.size c, ?_, ⟨w.heap.size, rfl, ?_⟩, Fr.alloc _ w g (.cells z.cells T) c⟩
 ·unfold execOp
  simp only [ho]
  refine r_value ?_
  simp [Instr.alloc, zeroValue, typeInfo, hi, hz2, newVar, newRow]
 ·have := Bx.new w g c T z.cells.toList
  simpa using this

theorem e_box {T : Nat} {x : Operand} {u : Value} {cs : List Value} (c : Nat) (g : Nat → Nat) (hS : Sl N a S) (ho : o.op = .box T x) (hx : ev S x = some u) (hu : u.cells.toList = cs) :
  Eff P a o w fun v w' g' => (∃ b, v = .pointer (some ⟨b, 0, none⟩) ∧ Bx w' g' c b T cs) ∧ Fr (fun _ => False) w g w' g' := by
 subst hu
 refine ⟨.pointer (some ⟨w.heap.size, 0, none⟩), w.alloc (.cells u.cells T), dye g w.heap.size c, ?_, ⟨w.heap.size, rfl, ?_⟩, Fr.alloc _ w g (.cells u.cells T) c⟩
 ·unfold execOp
  simp only [ho, hS.ev hx]
  refine r_value ?_
  simp [Instr.box, newVar, newRow]
 ·have := Bx.new w g c T u.cells.toList
  simpa using this


def evp (S : List (Nat × Value)) : List (Nat × Operand) → Option (List (Nat × Value))
 | [] => some []
 | (i, x) :: t => match ev S x, evp S t with
  | some v, some vs => some ((i, v) :: vs)
  | _, _ => none

theorem evp_spec (hS : Sl N a S) : ∀ {xs : List (Nat × Operand)} {vs : List (Nat × Value)}, evp S xs = some vs → xs.map (fun (i, x) => (i, a.eval x)) = vs
 | [], vs, h => by simp [evp] at h; subst h; rfl
 | (i, x) :: t, vs, h => by
  simp only [evp] at h
  split at h
  ·rename_i v vs' h1 h2
   injection h with h; subst h
   simp [hS.ev h1, evp_spec hS h2]
  ·cases h

theorem r_build {T : Nat} {ps : List (Nat × Operand)} {parts : List (Nat × Value)} {u : Value} (hS : Sl N a S) (ho : o.op = .build T ps.toArray) (hp : evp S ps = some parts)
  (hb : ∀ w, (Instr.build T parts.toArray).run P w = .ok u w) : (execOp a.eval o).run P w = .ok (.value u) w := by
 have hps := evp_spec hS hp
 unfold execOp
 simp only [ho]
 refine r_value ?_
 have hmap : (ps.toArray.map fun (i, x) => (i, a.eval x)) = parts.toArray := by simp [← hps]
 rw [hmap]
 exact hb w

theorem e_litD {D : Nat → Prop} {T e n : Nat} {ps : List (Nat × Operand)} {parts : List (Nat × Value)} {cs : List Value} {α : Type} (kd : Kd α) (xs : List α) (c : Nat) (g : Nat → Nat) (hS : Sl N a S) (ho : o.op = .buildSlice T n ps.toArray) (hp : evp S ps = some parts)
  (hb : ∀ w, (Instr.buildSlice T n parts.toArray).run P w = .ok (.slice (some ⟨w.heap.size, 0, none⟩) n n) (w.alloc (.cells cs.toArray e)))
  (hn : xs.length = n) (hm : n ≤ maxLen) (hr : Rows kd w g D xs cs) :
  Eff P a o w fun v w' g' => (∃ A, v = .slice A xs.length n ∧ OwD kd e w' g' c D A n xs) ∧ Fr (fun _ => False) w g w' g' := by
 have hps := evp_spec hS hp
 have F := Fr.alloc (fun _ => False) w g (.cells cs.toArray e) c
 refine ⟨.slice (some ⟨w.heap.size, 0, none⟩) n n, w.alloc (.cells cs.toArray e), dye g w.heap.size c, ?_, ⟨some ⟨w.heap.size, 0, none⟩, by rw [hn], ?_⟩, F⟩
 ·unfold execOp
  simp only [ho]
  refine r_value ?_
  have hmap : (ps.toArray.map fun (i, x) => (i, a.eval x)) = parts.toArray := by simp [← hps]
  rw [hmap]
  exact hb w
 ·refine ⟨by omega, hm, .inr ⟨w.heap.size, cs.toArray, rfl, heap_alloc_new w _, dye_same g _ c, ?_, ?_⟩⟩
  ·rw [← hn]; simpa using hr.1
  ·have : (cs.toArray.toList.take (xs.length * kd.sz)) = cs := by
    rw [List.take_of_length_le]; simp [hr.1]
   rw [this]
   exact hr.fr F (fun _ _ h => h)

theorem e_lit {T e n : Nat} {ps : List (Nat × Operand)} {parts : List (Nat × Value)} {cs : List Value} {α : Type} (kd : Kd α) (xs : List α) (c : Nat) (g : Nat → Nat) (hS : Sl N a S) (ho : o.op = .buildSlice T n ps.toArray) (hp : evp S ps = some parts)
  (hb : ∀ w, (Instr.buildSlice T n parts.toArray).run P w = .ok (.slice (some ⟨w.heap.size, 0, none⟩) n n) (w.alloc (.cells cs.toArray e)))
  (hn : xs.length = n) (hm : n ≤ maxLen) (hr : Rows kd w g (· = c + 1) xs cs) :
  Eff P a o w fun v w' g' => (∃ A, v = .slice A xs.length n ∧ OwS kd e w' g' c A n xs) ∧ Fr (fun _ => False) w g w' g' := e_litD kd xs c g hS ho hp hb hn hm hr

theorem Rows.one {α : Type} {kd : Kd α} {g : Nat → Nat} {C : Nat → Prop} {x : α} {cs : List Value} (h : kd.R w g C x cs) : Rows kd w g C [x] cs := by
 refine ⟨by simp [kd.len h], fun i y hy => ?_⟩
 match i, hy with
 | 0, hy =>
  simp only [List.getElem?_cons_zero, Option.some.injEq] at hy
  subst hy
  simpa [List.take_of_length_le (Nat.le_of_eq (kd.len h))] using h
 | i + 1, hy => simp at hy

theorem Rows.nil {α : Type} {kd : Kd α} {g : Nat → Nat} {C : Nat → Prop} : Rows kd w g C [] [] := ⟨by simp, fun i x h => by simp at h⟩

theorem Rows.append {α : Type} {kd : Kd α} {g : Nat → Nat} {C : Nat → Prop} {xs ys : List α} {cs ds : List Value} (h : Rows kd w g C xs cs) (h' : Rows kd w g C ys ds) : Rows kd w g C (xs ++ ys) (cs ++ ds) := by
 refine ⟨by simp [h.1, h'.1, Nat.add_mul], fun i x hx => ?_⟩
 rcases Nat.lt_or_ge i xs.length with hi | hi
 ·rw [List.getElem?_append_left hi] at hx
  have hR := h.2 i x hx
  have hb : (i + 1) * kd.sz ≤ xs.length * kd.sz := Nat.mul_le_mul_right _ hi
  rw [Nat.add_mul, Nat.one_mul] at hb
  have hl := h.1
  rw [List.drop_append_of_le_length (by omega), List.take_append_of_le_length (by simp; omega)]
  exact hR
 ·rw [List.getElem?_append_right hi] at hx
  have hR := h'.2 _ x hx
  have : i * kd.sz = cs.length + (i - xs.length) * kd.sz := by rw [h.1, ← Nat.add_mul]; congr 1; omega
  rw [this, List.drop_append, List.drop_of_length_le (by omega), List.nil_append, Nat.add_sub_cancel_left]
  exact hR

theorem Rows.cons {α : Type} {kd : Kd α} {g : Nat → Nat} {C : Nat → Prop} {x : α} {xs : List α} {cs ds : List Value} (h : kd.R w g C x cs) (h' : Rows kd w g C xs ds) : Rows kd w g C (x :: xs) (cs ++ ds) :=
 (Rows.one h).append h'


theorem Rows.replicate {α : Type} {kd : Kd α} {g : Nat → Nat} {C : Nat → Prop} {x : α} {z : Array Value} (h : kd.R w g C x z.toList) (hz : 0 < kd.sz) (n : Nat) : Rows kd w g C (List.replicate n x) (madeCells z (n * kd.sz)).toList := by
 have hl : z.size = kd.sz := by simpa using kd.len h
 refine ⟨by simp [madeCells], fun i y hy => ?_⟩
 rw [List.getElem?_replicate] at hy
 split at hy
 ·rename_i hi
  injection hy with hy; subst hy
  have e : (((madeCells z (n * kd.sz)).toList.drop (i * kd.sz)).take kd.sz) = z.toList := by
   have hb : (i + 1) * kd.sz ≤ n * kd.sz := Nat.mul_le_mul_right _ hi
   rw [Nat.add_mul, Nat.one_mul] at hb
   apply List.ext_getElem
   ·simp [madeCells]; omega
   ·intro j h1 h2
    have hj : j < kd.sz := by simpa [hl] using h2
    have hj' : j < z.size := by omega
    simp [madeCells, hl, Nat.add_comm (i * kd.sz) j, Nat.add_mul_mod_self_right, Nat.mod_eq_of_lt hj]
    exact getElem!_pos z j hj'
  rw [e]; exact h
 ·cases hy

theorem mk_some {α : Type} {n : Int} {x : α} {xs : List α} (h : mk n x = some xs) : 0 ≤ n ∧ n ≤ 4294967296 ∧ xs = List.replicate n.toNat x := by
 unfold mk at h
 split at h
 ·rename_i h0; injection h with h; exact ⟨h0.1, h0.2, h.symm⟩
 ·cases h

theorem e_makeD {D : Nat → Prop} {T e sz by_ : Nat} {x : Operand} {ik : IntKind} {n : Int} {z : List Value} {α : Type} {kd : Kd α} {x0 : α} {xs : List α} (c : Nat) (g : Nat → Nat) (hS : Sl N a S) (ho : o.op = .makeSlice T x x)
  (hx : ev S x = some (.int ik n)) (ht : elemInfo P T = some (e, sz, by_)) (hz : zcells P e = some z) (hsz : kd.sz = sz) (hp : Nat.blt 0 sz = true) (hby : Nat.ble by_ 32768 = true) (hk : ∀ w g C, kd.R w g C x0 z) (hxs : mk n x0 = some xs) :
  Eff P a o w fun v w' g' => (∃ A cap, v = .slice A xs.length cap ∧ OwD kd e w' g' c D A cap xs) ∧ Fr (fun _ => False) w g w' g' := by
 have hp' : 0 < sz := by simpa [Nat.blt_eq] using hp
 have hby' : by_ ≤ 32768 := by simpa [Nat.ble_eq] using hby
 obtain ⟨h0, h1, rfl⟩ := mk_some hxs
 obtain ⟨hu, i, hi, hi1, hi2⟩ := elemInfo_spec ht
 unfold zcells at hz
 rw [hi] at hz
 simp only [Option.bind_some, Option.map_eq_some_iff] at hz
 obtain ⟨zv, hz2, rfl⟩ := hz
 obtain ⟨m, rfl⟩ := Int.eq_ofNat_of_zero_le h0
 have hm : m ≤ 4294967296 := by omega
 have F := Fr.alloc (fun _ => False) w g (.cells (madeCells zv.cells (m * i.size)) e) c
 have hbb : (i.bytes : Int) * (m : Int) ≤ 281474976710656 := by
  have h : i.bytes * m ≤ 32768 * 4294967296 := Nat.mul_le_mul (by omega) hm
  rw [← Int.natCast_mul]
  omega
 have hrun := run_make (P := P) w T e i zv hu hi hz2 ik ik m m h0 (Int.le_refl _) hbb (by omega)
 simp only [Int.toNat_natCast] at hrun
 refine ⟨_, _, dye g w.heap.size c, ?_, ⟨some ⟨w.heap.size, 0, none⟩, m, rfl, ?_⟩, F⟩
 ·unfold execOp
  simp only [ho, hS.ev hx]
  refine r_value ?_
  rw [hrun]
  simp
 ·have hR := Rows.replicate (w := w.alloc (.cells (madeCells zv.cells (m * i.size)) e)) (g := dye g w.heap.size c) (C := D) (kd := kd) (x := x0) (z := zv.cells) (hk _ _ _) (by omega) m
  have hsz' : i.size = kd.sz := by omega
  refine ⟨by simp, by simp [maxLen]; omega, .inr ⟨w.heap.size, _, rfl, heap_alloc_new w _, dye_same g _ c, by simp [madeCells, hsz'], ?_⟩⟩
  simp only [Int.toNat_natCast]
  rw [List.take_of_length_le (by simp [madeCells, hsz'])]
  rw [hsz'] at hR ⊢
  exact hR


theorem wanted_none (h : o.guard = none) (tmps : Array Value) : Region.wanted o (yielded ops tmps) = true := by simp [Region.wanted, h]

def splice (cs : List Value) (j : Nat) (us : List Value) : List Value := cs.take j ++ us ++ cs.drop (j + us.length)

theorem splice_length {cs us : List Value} {j : Nat} (h : j + us.length ≤ cs.length) : (splice cs j us).length = cs.length := by
 simp [splice]; omega

theorem run_store_at {T n : Nat} {b : Bool} {bl j : Nat} {u : Value} {us : List Value} {arr : Array Value} {E : TypeId} (ht : tsz P T = some (n, b)) (hu : u.cells.toList = us) (hn : us.length = n) (h1 : ∀ v ∈ us, v.oneCell' = true)
  (hb : w.heap[bl]? = some (.cells arr E (0, 0))) (hj : j + us.length ≤ arr.size) :
  (Instr.storeAt T (.pointer (some ⟨bl, j, none⟩)) u).run P w = .ok () (w.setRow bl (splice arr.toList j us).toArray) := by
 have hst := run_storeCells_at P bl j E us 0 arr w hb (by simpa using hj) h1
 simp only [Nat.add_zero] at hst
 have hsz : u.cells.size = n := by rw [← hn, ← hu]; simp
 simp only [Instr.storeAt, Instr.sureAddr, storeVar, Sem.run_bind, Sem.run_pure, Result.andThen_ok, run_sizeOf ht, hsz, ne_eq, not_true_eq_false, if_false, hu, hst]
 rfl

theorem y4a {T n : Nat} {bb : Bool} {x y : Operand} {b j c : Nat} {E : TypeId} {u : Value} {us cs cs' : List Value} (g : Nat → Nat) (hS : Sl N a S) (ho : o.op = .store T x y) (hx : ev S x = some (.pointer (some ⟨b, j, none⟩)))
  (hy : ev S y = some u) (ht : tsz P T = some (n, bb)) (hu : u.cells.toList = us) (hn : us.length = n) (h1 : us.all (·.oneCell') = true) (hb : Bx w g c b E cs) (hj : Nat.ble (j + us.length) cs.length = true) (hcs : splice cs j us = cs') :
  EffS P a o w fun w' g' => Bx w' g' c b E cs' ∧ Fr (fun q => q = c) w g w' g' := by
 have hr := run_store_at (w := w) ht hu hn (fun v hv => List.all_eq_true.1 h1 v hv) hb.1 (by have := Nat.le_of_ble_eq_true hj; simpa using this)
 simp only [] at hr
 rw [hcs] at hr
 refine ⟨_, g, ?_, ⟨setRow_heap w b _ _ E (0, 0) hb.1, hb.2⟩, Fr.setRow w g b _ hb.2⟩
 unfold execOp
 simp only [ho, hS.ev hx, hS.ev hy]
 simp [hr]

theorem y1w {α : Type} (xs : List α) (i : Int) (x : α) : (upd xs i x).length = xs.length := by simp [upd]

theorem e_storeD {D : Nat → Prop} {T n : Nat} {bb : Bool} {x y : Operand} {α : Type} {kd : Kd α} {E : TypeId} {c : Nat} {A : Option Addr} {cap : Nat} {xs : List α} {i : Int} {x0 x' : α} {j off : Nat} {u : Value} {us : List Value} (g : Nat → Nat)
  (hS : Sl N a S) (ho : o.op = .store T x y) (hx : ev S x = some (.pointer (some (ea A off)))) (hoff : off = i.toNat * kd.sz + j)
  (hy : ev S y = some u) (ht : tsz P T = some (n, bb)) (hu : u.cells.toList = us) (hn : us.length = n) (h1 : ∀ v ∈ us, v.oneCell' = true) (hw : OwD kd E w g c D A cap xs) (hD : ∀ q, D q → q ≠ c) (hi : idx xs i = some x0) (hj : Nat.ble (j + us.length) kd.sz = true)
  (hR : ∀ cs, kd.R w g D x0 cs → kd.R w g D x' (splice cs j us)) :
  EffS P a o w fun w' g' => OwD kd E w' g' c D A cap (upd xs i x') ∧ Fr (fun q => q = c) w g w' g' := by
 have hj' := Nat.le_of_ble_eq_true hj
 obtain ⟨h0, hlt, hget⟩ := y3r hi
 have hil : i.toNat < xs.length := by omega
 obtain ⟨hlc, hcm, hcase⟩ := hw
 rcases hcase with ⟨rfl, hc0⟩ | ⟨b, arr, rfl, hb, hg, hs, hr⟩
 ·omega
 have hmul : (i.toNat + 1) * kd.sz ≤ xs.length * kd.sz := Nat.mul_le_mul_right _ hil
 have hmul2 : xs.length * kd.sz ≤ cap * kd.sz := Nat.mul_le_mul_right _ hlc
 rw [Nat.add_mul, Nat.one_mul] at hmul
 have hr' := run_store_at (w := w) (j := i.toNat * kd.sz + j) ht hu hn h1 hb (by rw [hs]; omega)
 subst hoff
 rw [ea_some, Nat.zero_add] at hx
 refine ⟨w.setRow b (splice arr.toList (i.toNat * kd.sz + j) us).toArray, g, ?_, ⟨by rw [y1w]; exact hlc, hcm, .inr ⟨b, (splice arr.toList (i.toNat * kd.sz + j) us).toArray, rfl, setRow_heap w b _ _ E (0, 0) hb, hg, ?_, ?_⟩⟩, Fr.setRow w g b _ hg⟩
 ·unfold execOp
  simp only [ho, hS.ev hx, hS.ev hy]
  simp [hr']
 ·rw [List.size_toArray, splice_length (by simp; omega)]; simpa using hs
 ·have F : Fr (fun q => q = c) w g (w.setRow b (splice arr.toList (i.toNat * kd.sz + j) us).toArray) g := Fr.setRow w g b _ hg
  have hrow := hr.fr F (fun c' e => hD c' e)
  rw [y1w]
  obtain ⟨hl1, hl2⟩ := hrow
  have hlen1 : (splice arr.toList (i.toNat * kd.sz + j) us).length = arr.size := by rw [splice_length (by simp; omega)]; simp
  refine ⟨?_, fun k y hy => ?_⟩
  ·simp only [List.length_take, y1w, hlen1]
   omega
  ·show kd.R _ _ _ _ (((splice arr.toList (i.toNat * kd.sz + j) us).take (xs.length * kd.sz)).drop (k * kd.sz) |>.take kd.sz)
   unfold upd at hy
   rw [List.getElem?_set] at hy
   have hk : k < xs.length := by
    rcases Nat.lt_or_ge k xs.length with h | h
    ·exact h
    ·exfalso
     by_cases e : i.toNat = k
     ·omega
     ·rw [if_neg e, List.getElem?_eq_none h] at hy
      cases hy
   have hkm : (k + 1) * kd.sz ≤ xs.length * kd.sz := Nat.mul_le_mul_right _ hk
   rw [Nat.add_mul, Nat.one_mul] at hkm
   by_cases e : i.toNat = k
   ·subst e
    rw [if_pos rfl, if_pos hil] at hy
    injection hy with hy; subst hy
    have h3 := kd.fr F (fun c' e => hD c' e) (hR _ (hr.2 _ _ hget))
    have e2 : (((splice arr.toList (i.toNat * kd.sz + j) us).take (xs.length * kd.sz)).drop (i.toNat * kd.sz)).take kd.sz = splice (((arr.toList.take (xs.length * kd.sz)).drop (i.toNat * kd.sz)).take kd.sz) j us := by
     apply List.ext_getElem?
     intro q
     rcases Nat.lt_or_ge q kd.sz with hq | hq
     ·rw [getElem?_take_drop _ _ _ _ hq, List.getElem?_take, if_pos (by omega)]
      unfold splice
      rcases Nat.lt_or_ge q j with hqj | hqj
      ·rw [List.append_assoc, List.getElem?_append_left (by simp; omega), List.append_assoc, List.getElem?_append_left (by simp; omega), List.getElem?_take, if_pos (by omega), List.getElem?_take, if_pos (by omega), getElem?_take_drop _ _ _ _ hq, List.getElem?_take, if_pos (by omega)]
      ·rcases Nat.lt_or_ge q (j + us.length) with hqu | hqu
       ·rw [List.getElem?_append_left (by simp; omega), List.getElem?_append_right (by simp; omega), List.getElem?_append_left (by simp; omega), List.getElem?_append_right (by simp; omega)]
        congr 1
        simp
        omega
       ·rw [List.getElem?_append_right (by simp; omega), List.getElem?_append_right (by simp; omega), List.getElem?_drop, List.getElem?_drop, getElem?_take_drop _ _ _ _ (by simp; omega), List.getElem?_take, if_pos (by simp; omega)]
        congr 1
        simp
        omega
     ·rw [List.getElem?_eq_none (by simp; omega), List.getElem?_eq_none (by rw [splice_length (by simp; omega)]; simp; omega)]
    rw [e2]; exact h3
   ·rw [if_neg e] at hy
    have h3 := hl2 _ _ hy
    have e2 : (((splice arr.toList (i.toNat * kd.sz + j) us).take (xs.length * kd.sz)).drop (k * kd.sz)).take kd.sz = ((arr.toList.take (xs.length * kd.sz)).drop (k * kd.sz)).take kd.sz := by
     apply List.ext_getElem?
     intro q
     rcases Nat.lt_or_ge q kd.sz with hq | hq
     ·rw [getElem?_take_drop _ _ _ _ hq, List.getElem?_take, if_pos (by omega), getElem?_take_drop _ _ _ _ hq, List.getElem?_take, if_pos (by omega)]
      unfold splice
      rcases Nat.lt_or_ge k i.toNat with hki | hki
      ·have : (k + 1) * kd.sz ≤ i.toNat * kd.sz := Nat.mul_le_mul_right _ hki
       rw [Nat.add_mul, Nat.one_mul] at this
       rw [List.append_assoc, List.getElem?_append_left (by simp; omega), List.getElem?_take, if_pos (by omega)]
      ·have : (i.toNat + 1) * kd.sz ≤ k * kd.sz := Nat.mul_le_mul_right _ (by omega)
       rw [Nat.add_mul, Nat.one_mul] at this
       rw [List.getElem?_append_right (by simp; omega), List.getElem?_drop]
       congr 1
       simp
       omega
     ·rw [List.getElem?_eq_none (by simp; omega), List.getElem?_eq_none (by simp; omega)]
    rw [e2]; exact h3

theorem y4l {T n : Nat} {bb : Bool} {x y : Operand} {α : Type} {kd : Kd α} {E : TypeId} {c : Nat} {A : Option Addr} {cap : Nat} {xs : List α} {i : Int} {x0 x' : α} {j off : Nat} {u : Value} {us : List Value} (g : Nat → Nat)
  (hS : Sl N a S) (ho : o.op = .store T x y) (hx : ev S x = some (.pointer (some (ea A off)))) (hoff : off = i.toNat * kd.sz + j)
  (hy : ev S y = some u) (ht : tsz P T = some (n, bb)) (hu : u.cells.toList = us) (hn : us.length = n) (h1 : ∀ v ∈ us, v.oneCell' = true) (hw : OwS kd E w g c A cap xs) (hi : idx xs i = some x0) (hj : Nat.ble (j + us.length) kd.sz = true)
  (hR : ∀ w g cs, kd.R w g (· = c + 1) x0 cs → kd.R w g (· = c + 1) x' (splice cs j us)) :
  EffS P a o w fun w' g' => OwS kd E w' g' c A cap (upd xs i x') ∧ Fr (fun q => q = c) w g w' g' := e_storeD g hS ho hx hoff hy ht hu hn h1 hw (fun q (e : q = c + 1) => by omega) hi hj (hR w g)


theorem app_some {α : Type} {xs ys zs : List α} (h : app xs ys = some zs) : xs.length + ys.length ≤ 4294967296 ∧ zs = xs ++ ys := by
 unfold app at h
 split at h
 ·rename_i h0; injection h with h; exact ⟨h0, h.symm⟩
 ·cases h

theorem RdX.cells {α : Type} {kd : Kd α} {g : Nat → Nat} {C D : Nat → Prop} {A : Option Addr} {cap : Nat} {ys : List α} (h : RdX kd w g C D A cap ys) (_hsz : 0 < kd.sz) (h0 : 0 < ys.length) :
  ∃ ad news, A = some ad ∧ Rows kd w g D ys news ∧ (∀ j u, news[j]? = some u → w.cell? (ad.add j) = some u) ∧ ∀ u ∈ news, u.oneCell' = true := by
 obtain ⟨ad0, _, rfl, _⟩ := h.2 0 ys[0] (by simp [List.getElem?_eq_getElem h0])
 have key : ∀ n, n ≤ ys.length → ∃ news, Rows kd w g D (ys.take n) news ∧ (∀ j u, news[j]? = some u → w.cell? (ad0.add j) = some u) ∧ ∀ u ∈ news, u.oneCell' = true := by
  intro n
  induction n with
  | zero => intro _; exact ⟨[], by simpa using Rows.nil, by simp, by simp⟩
  | succ n ih =>
   intro hn
   obtain ⟨news, hr, hc, h1⟩ := ih (by omega)
   obtain ⟨ad, cs, e, _, hR, hcell⟩ := h.2 n ys[n] (by simp [List.getElem?_eq_getElem (show n < ys.length by omega)])
   injection e with e; subst e
   have hl : news.length = n * kd.sz := by rw [hr.1, List.length_take, Nat.min_eq_left (by omega)]
   refine ⟨news ++ cs, ?_, ?_, ?_⟩
   ·rw [List.take_succ_eq_append_getElem (by omega)]
    exact hr.append (Rows.one hR)
   ·intro j u hu
    rcases Nat.lt_or_ge j news.length with hj | hj
    ·rw [List.getElem?_append_left hj] at hu; exact hc j u hu
    ·rw [List.getElem?_append_right hj] at hu
     have := hcell _ u hu
     rw [← hl] at this
     rwa [show news.length + (j - news.length) = j from by omega] at this
   ·intro u hu
    rcases List.mem_append.1 hu with hu | hu
    ·exact h1 u hu
    ·exact kd.one hR u hu
 obtain ⟨news, hr, hc, h1⟩ := key ys.length (Nat.le_refl _)
 rw [List.take_length] at hr
 exact ⟨ad0, news, rfl, hr, hc, h1⟩

theorem e_appendD {D D2 : Nat → Prop} {T ty e sz by_ : Nat} {x y : Operand} {α : Type} {kd : Kd α} {c : Nat} {A B : Option Addr} {cap capB : Nat} {xs ys zs : List α} {z : List Value} {C : Nat → Prop} (g : Nat → Nat)
  (hS : Sl N a S) (ho : o.op = .call { callee := .builtin .append, args := #[x, y], argTypes := #[T, T] }) (_hty : o.type = ty) (hx : ev S x = some (.slice A xs.length cap)) (hy : ev S y = some (.slice B ys.length capB))
  (ht : elemInfo P T = some (e, sz, by_)) (hz : zcells P e = some z) (hsz : kd.sz = sz) (hzl : z.length = sz) (hp : Nat.blt 0 sz = true) (hby : Nat.ble by_ 32768 = true)
  (hw : OwD kd e w g c D A cap xs) (hD : ∀ q, D q → q ≠ c) (hr : RdX kd w g C D2 B capB ys) (hC : ∀ cs y, y ∈ ys → kd.R w g D2 y cs → kd.R w g D y cs) (hzs : app xs ys = some zs) :
  Eff P a o w fun v w' g' => (∃ A' cap', v = .slice A' zs.length cap' ∧ OwD kd e w' g' c D A' cap' zs) ∧ Fr (fun q => q = c) w g w' g' := by
 obtain ⟨hlim, rfl⟩ := app_some hzs
 have hp' : 0 < sz := by simpa [Nat.blt_eq] using hp
 have hby' : by_ ≤ 32768 := by simpa [Nat.ble_eq] using hby
 obtain ⟨hu, i, hi, hi1, hi2⟩ := elemInfo_spec ht
 unfold zcells at hz
 rw [hi] at hz
 simp only [Option.bind_some, Option.map_eq_some_iff] at hz
 obtain ⟨zv, hz2, rfl⟩ := hz
 have hex : (execOp a.eval o).run P w = ((Builtin.append_ #[T, T] o.type #[.slice A xs.length cap, .slice B ys.length capB]).run P w).andThen fun v w' => .ok (.value v) w' := by
  unfold execOp
  simp only [ho, resolve, invoke, builtin, Sem.run_bind, Sem.run_pure, Result.andThen_ok, List.map_toArray, List.map_cons, List.map_nil, hS.ev hx, hS.ev hy]
 have hfit : (xs.length + ys.length) * i.bytes ≤ 140737488355328 := by
  have : (xs.length + ys.length) * i.bytes ≤ 4294967296 * 32768 := Nat.mul_le_mul hlim (by omega)
  omega
 obtain ⟨hlc, hcm, hcase⟩ := hw
 rcases Nat.eq_zero_or_pos ys.length with h0 | h0
 ·have hys : ys = [] := List.eq_nil_of_length_eq_zero h0
  subst hys
  refine ⟨.slice A (xs ++ []).length cap, w, g, ?_, ⟨A, cap, rfl, ?_⟩, Fr.refl _ _ _⟩
  ·rw [hex]
   have : (Builtin.append_ #[T, T] o.type #[.slice A xs.length cap, .slice B 0 capB]).run P w = .ok (.slice A xs.length cap) w := by
    cases A <;> cases B <;> simp [Builtin.append_, run_underlying hu, sizeOf, typeInfo, hi, Builtin.lenOf, Builtin.firstCells, loadCells, loadCellsFrom, hlc, storeCells]
   simp only [List.length_nil, List.append_nil, this, Result.andThen_ok]
  ·simp only [List.append_nil]; exact ⟨hlc, hcm, hcase⟩
 ·obtain ⟨ad, news, rfl, hrows, hnews, hone⟩ := hr.cells (by omega) h0
  have hrows' : Rows kd w g D ys news := ⟨hrows.1, fun k y hy => hC _ _ (List.mem_of_getElem? hy) (hrows.2 k y hy)⟩
  have hnl : news.length = ys.length * i.size := by rw [hrows.1, hsz, hi1]
  have h63 : ((xs.length + ys.length : Nat) : Int) ≤ 9223372036854775807 := by omega
  -- a new array
  have grown : ∀ (old : List Value) (cap0 : Nat), Rows kd w g D xs old → cap0 < xs.length + ys.length →
    (Builtin.append_ #[T, T] o.type #[.slice A xs.length cap, .slice (some ad) ys.length capB]).run P w = .ok (.slice (some ⟨w.heap.size, 0, none⟩) (xs.length + ys.length) (grownCap w (xs.length + ys.length) cap0 e))
     (w.drew.alloc (.cells (old.toArray ++ news.toArray ++ Builtin.zeroCells zv.cells (grownCap w (xs.length + ys.length) cap0 e - (xs.length + ys.length))) e)) →
    Eff P a o w fun v w' g' => (∃ A' cap', v = .slice A' (xs ++ ys).length cap' ∧ OwD kd e w' g' c D A' cap' (xs ++ ys)) ∧ Fr (fun q => q = c) w g w' g' := by
   intro old cap0 hold hlt hrun
   have hge := grownCap_ge w (xs.length + ys.length) cap0 e
   have hle : grownCap w (xs.length + ys.length) cap0 e ≤ maxLen := grownCap_le_maxLen w _ cap0 e (by simp [maxLen]; omega)
   have F1 : Fr (fun q => q = c) w g (w.drew.alloc (.cells (old.toArray ++ news.toArray ++ Builtin.zeroCells zv.cells (grownCap w (xs.length + ys.length) cap0 e - (xs.length + ys.length))) e)) (dye g w.heap.size c) :=
    (Fr.drew _ w g).trans (Fr.alloc (fun q => q = c) w.drew g _ c) (fun _ h => h)
   refine ⟨_, _, dye g w.heap.size c, by rw [hex, hrun]; rfl, ⟨some ⟨w.heap.size, 0, none⟩, grownCap w (xs.length + ys.length) cap0 e, by simp, ?_⟩, F1⟩
   have hall := (hold.append hrows').fr F1 (fun q h e => hD q h e)
   refine ⟨by simpa using hge, hle, .inr ⟨w.heap.size, _, rfl, heap_alloc_new w.drew _, dye_same g _ c, ?_, ?_⟩⟩
   ·simp only [Array.size_append, List.size_toArray, size_zeroCells, hold.1, hrows.1]
    have : zv.cells.size = kd.sz := by have := hzl; simp at this; omega
    rw [this, ← Nat.add_mul, ← Nat.add_mul]
    congr 1
    omega
   ·have e2 : ((old.toArray ++ news.toArray ++ Builtin.zeroCells zv.cells (grownCap w (xs.length + ys.length) cap0 e - (xs.length + ys.length))).toList.take ((xs ++ ys).length * kd.sz)) = old ++ news := by
     simp only [Array.toList_append]
     rw [List.take_append_of_le_length (by simp [hold.1, hrows.1, Nat.add_mul]), List.take_of_length_le (by simp [hold.1, hrows.1, Nat.add_mul])]
    rw [e2]; exact hall
  rcases hcase with ⟨rfl, rfl⟩ | ⟨b, arr, rfl, hb, hg, hs, hrow⟩
  ·have hx0 : xs = [] := List.eq_nil_of_length_eq_zero (by omega)
   subst hx0
   refine grown [] 0 Rows.nil (by simpa using h0) ?_
   have hr2 := run_append_nil (P := P) w T o.type e i zv hu hi hz2 ad ys.length capB news hnl hnews h0 (by omega) (by simp at hfit; omega)
   simpa using hr2
  ·by_cases hroom : xs.length + ys.length ≤ cap
   ·have hr2 := run_append_room (P := P) w T o.type e i hu hi b xs.length cap arr hb ad ys.length capB news hnl hnews hone hroom (by rw [hnl, hi1, ← hsz, hs, ← Nat.add_mul]; exact Nat.mul_le_mul_right _ hroom)
    have F1 : Fr (fun q => q = c) w g (w.setRow b (arr.toList.take (xs.length * i.size) ++ news ++ arr.toList.drop (xs.length * i.size + news.length)).toArray) g := Fr.setRow w g b _ hg
    refine ⟨_, _, g, by rw [hex, hr2]; rfl, ⟨some ⟨b, 0, none⟩, cap, by simp, ?_⟩, F1⟩
    have hall := (hrow.append hrows').fr F1 (fun q h e => hD q h e)
    have hsz2 : i.size = kd.sz := by omega
    have hmul : (xs.length + ys.length) * kd.sz ≤ cap * kd.sz := Nat.mul_le_mul_right _ hroom
    rw [Nat.add_mul] at hmul
    refine ⟨by simpa using hroom, hcm, .inr ⟨b, _, rfl, setRow_heap w b _ _ e (0, 0) hb, hg, ?_, ?_⟩⟩
    ·simp only [List.size_toArray, List.length_append, List.length_take, List.length_drop, Array.length_toList, hsz2, hrows.1]
     omega
    ·have e2 : ((arr.toList.take (xs.length * i.size) ++ news ++ arr.toList.drop (xs.length * i.size + news.length)).toArray.toList.take ((xs ++ ys).length * kd.sz)) = arr.toList.take (xs.length * kd.sz) ++ news := by
      rw [hsz2]
      show (arr.toList.take (xs.length * kd.sz) ++ news ++ arr.toList.drop (xs.length * kd.sz + news.length)).take ((xs ++ ys).length * kd.sz) = _
      have hl : (arr.toList.take (xs.length * kd.sz) ++ news).length = (xs ++ ys).length * kd.sz := by
       simp only [List.length_append, List.length_take, Array.length_toList, hrows.1, Nat.add_mul]; omega
      rw [List.take_append_of_le_length (by omega), List.take_of_length_le (by omega)]
     rw [e2]; exact hall
   ·refine grown _ cap hrow (by omega) ?_
    have holds : ∀ j v, (arr.toList.take (xs.length * kd.sz))[j]? = some v → w.cell? ((⟨b, 0, none⟩ : Addr).add j) = some v := by
     intro j v hv
     rw [List.getElem?_take] at hv
     split at hv
     ·have hadd : (⟨b, 0, none⟩ : Addr).add j = ⟨b, j, none⟩ := by unfold Addr.add; split <;> simp_all
      rw [hadd, cell_of_row w b j arr e (0, 0) hb]; simpa using hv
     ·cases hv
    have hr2 := run_append_grow (P := P) w T o.type e i zv hu hi hz2 ⟨b, 0, none⟩ xs.length cap _ (by rw [hrow.1, hsz, hi1]) holds ad ys.length capB news hnl hnews (by omega) h63 (growslice_fits (by omega) hfit)
    exact hr2

theorem y4g {T ty e sz by_ : Nat} {x y : Operand} {α : Type} {kd : Kd α} {c : Nat} {A B : Option Addr} {cap capB : Nat} {xs ys zs : List α} {z : List Value} {C D2 : Nat → Prop} (g : Nat → Nat)
  (hS : Sl N a S) (ho : o.op = .call { callee := .builtin .append, args := #[x, y], argTypes := #[T, T] }) (hty : o.type = ty) (hx : ev S x = some (.slice A xs.length cap)) (hy : ev S y = some (.slice B ys.length capB))
  (ht : elemInfo P T = some (e, sz, by_)) (hz : zcells P e = some z) (hsz : kd.sz = sz) (hzl : z.length = sz) (hp : Nat.blt 0 sz = true) (hby : Nat.ble by_ 32768 = true)
  (hw : OwS kd e w g c A cap xs) (hr : RdX kd w g C D2 B capB ys) (hC : ∀ cs y, y ∈ ys → kd.R w g D2 y cs → kd.R w g (· = c + 1) y cs) (hzs : app xs ys = some zs) :
  Eff P a o w fun v w' g' => (∃ A' cap', v = .slice A' zs.length cap' ∧ OwS kd e w' g' c A' cap' zs) ∧ Fr (fun q => q = c) w g w' g' :=
 e_appendD g hS ho hty hx hy ht hz hsz hzl hp hby hw (fun q (e : q = c + 1) => by omega) hr hC hzs

theorem e_make {T e sz by_ : Nat} {x : Operand} {ik : IntKind} {n : Int} {z : List Value} {α : Type} {kd : Kd α} {x0 : α} {xs : List α} (c : Nat) (g : Nat → Nat) (hS : Sl N a S) (ho : o.op = .makeSlice T x x)
  (hx : ev S x = some (.int ik n)) (ht : elemInfo P T = some (e, sz, by_)) (hz : zcells P e = some z) (hsz : kd.sz = sz) (hp : Nat.blt 0 sz = true) (hby : Nat.ble by_ 32768 = true) (hk : ∀ w g C, kd.R w g C x0 z) (hxs : mk n x0 = some xs) :
  Eff P a o w fun v w' g' => (∃ A cap, v = .slice A xs.length cap ∧ OwS kd e w' g' c A cap xs) ∧ Fr (fun _ => False) w g w' g' := e_makeD c g hS ho hx ht hz hsz hp hby hk hxs

end
end Go.Proofs.Ytcfcffbjdjacfaa.Sim

namespace Go.Proofs.Ytcfcffbjdjacfaa.Sim
open Go Go.Proofs.YtcfcffbjdjacfaaW.PrintLast

section
variable {P : Program} {ops : Array Oper} {Q : Exit → Act → World → Prop} {a : Act} {w w1 : World} {o : Oper} {N : Nat} {S : List (Nat × Value)} {d : Nat} {v : Value} {M : Nat → Prop} {g g1 : Nat → Nat} {ds : List Nat} {fuel i j k n : Nat} {l l' li lj lk : Array Bool}

def Cls (M : Nat → Prop) (w1 : World) (g1 : Nat → Nat) (w : World) : Prop := ∃ g, Fr M w1 g1 w g

abbrev AnyD (P : Program) (ops : Array Oper) (Q : Exit → Act → World → Prop) (M : Nat → Prop) (w1 : World) (g1 : Nat → Nat) (ds : List Nat) (fuel : Nat) (l : Array Bool) (a : Act) (w : World) : Prop :=
 wpAnyLast P .any ops Q (Cls M w1 g1) ds fuel l a w

theorem y4m {id : Nat} (M : Nat → Prop) (g : Nat → Nat) (ds : List Nat) (n : Nat) (l : Array Bool) (hm : P.follows .mixedOrders = true) (hn : ops.size = n) (hl : Array.replicate n false = l)
  (h : ∀ w1, w1 = w.drew → AnyD P ops Q M w1 g ds n l a w1) : (Code.region id ops true).wp P Q a w :=
 start_ l hm hn hl ⟨g, Fr.refl _ _ _⟩ fun _ => h _ rfl

theorem y1b (hS : Sl N a S) (i : Nat) (l' : Array Bool) (hi : ops[i]? = some o) (hg : o.guard = none) (hd : o.dst = some d) (hN : Nat.blt d N = true) (hc : anyB .any ops l l' i = true)
  (hQ : ∀ c a w, Q (.panic c) (a.put (some d) v) w → Q (.panic c) a w) (hr : ∀ w, (execOp a.eval o).run P w = .ok (.value v) w)
  (k : ∀ a', Sl N a' ((d, v) :: S) → AnyD P ops Q M w1 g1 ds fuel l' a' w) : AnyD P ops Q M w1 g1 ds (fuel + 1) l a w :=
 pure_ l' hi hd hc (fun c a w h => hQ c a w (hd ▸ h)) (.inl ⟨wanted_none hg _, hr⟩) rfl (k _ (hS.put hN v))

theorem y3w (hS : Sl N a S) (i : Nat) (l' : Array Bool) (hi : ops[i]? = some o) (hg : o.guard = none) (hd : o.dst = some d) (hN : Nat.blt d N = true) (hc : takeB .any ops ds l l' i = true)
  (hQ : ∀ c a w, Q (.panic c) (a.put (some d) v) w → Q (.panic c) a w) (hw : Cls M w1 g1 w) (hr : ∀ w' g', Fr M w1 g1 w' g' → (execOp a.eval o).run P w' = .ok (.value v) w')
  (k : ∀ a', Sl N a' ((d, v) :: S) → AnyD P ops Q M w1 g1 ds fuel l' a' w) : AnyD P ops Q M w1 g1 ds (fuel + 1) l a w :=
 take_ l' hi hd hc (fun c a w h => hQ c a w (hd ▸ h)) (.inl ⟨wanted_none hg _, fun w' ⟨g', F⟩ => hr w' g' F⟩) hw rfl (k _ (hS.put hN v))

theorem y30 (hS : Sl N a S) (i : Nat) (l' : Array Bool) (hi : ops[i]? = some o) (hg : Region.wanted o (yielded ops a.tmps) = true) (hd : o.dst = some d) (hN : Nat.blt d N = true) (hc : anyB .any ops l l' i = true)
  (hQ : ∀ c a w, Q (.panic c) (a.put (some d) v) w → Q (.panic c) a w) (hr : ∀ w, (execOp a.eval o).run P w = .ok (.value v) w)
  (k : ∀ a', Sl N a' ((d, v) :: S) → AnyD P ops Q M w1 g1 ds fuel l' a' w) : AnyD P ops Q M w1 g1 ds (fuel + 1) l a w :=
 pure_ l' hi hd hc (fun c a w h => hQ c a w (hd ▸ h)) (.inl ⟨hg, hr⟩) rfl (k _ (hS.put hN v))
theorem d_takeW (hS : Sl N a S) (i : Nat) (l' : Array Bool) (hi : ops[i]? = some o) (hg : Region.wanted o (yielded ops a.tmps) = true) (hd : o.dst = some d) (hN : Nat.blt d N = true) (hc : takeB .any ops ds l l' i = true)
  (hQ : ∀ c a w, Q (.panic c) (a.put (some d) v) w → Q (.panic c) a w) (hw : Cls M w1 g1 w) (hr : ∀ w' g', Fr M w1 g1 w' g' → (execOp a.eval o).run P w' = .ok (.value v) w')
  (k : ∀ a', Sl N a' ((d, v) :: S) → AnyD P ops Q M w1 g1 ds fuel l' a' w) : AnyD P ops Q M w1 g1 ds (fuel + 1) l a w :=
 take_ l' hi hd hc (fun c a w h => hQ c a w (hd ▸ h)) (.inl ⟨hg, fun w' ⟨g', F⟩ => hr w' g' F⟩) hw rfl (k _ (hS.put hN v))
theorem y48 (hS : Sl N a S) (i : Nat) (l' : Array Bool) (hi : ops[i]? = some o) (hg : Region.wanted o (yielded ops a.tmps) = false) (hd : o.dst = some d) (hN : Nat.blt d N = true) (hc : anyB .any ops l l' i = true)
  (hQ : ∀ c a w, Q (.panic c) (a.put (some d) undef) w → Q (.panic c) a w)
  (k : ∀ a', Sl N a' ((d, undef) :: S) → AnyD P ops Q M w1 g1 ds fuel l' a' w) : AnyD P ops Q M w1 g1 ds (fuel + 1) l a w :=
 pure_ l' hi hd hc (fun c a w h => hQ c a w (hd ▸ h)) (.inr ⟨hg, rfl⟩) rfl (k _ (hS.put hN undef))
theorem d_join (fuel' : Nat) (l' : Array Bool) (S' : List (Nat × Value)) (k : ∀ a', Sl N a' S' → AnyD P ops Q M w1 g1 ds fuel' l' a' w) (h : (∀ a', Sl N a' S' → AnyD P ops Q M w1 g1 ds fuel' l' a' w) → AnyD P ops Q M w1 g1 ds fuel l a w) : AnyD P ops Q M w1 g1 ds fuel l a w := h k

def Arm (P : Program) (ops : Array Oper) (Q : Exit → Act → World → Prop) (M : Nat → Prop) (w1 : World) (g1 : Nat → Nat) (ds : List Nat) (fuel : Nat) (l' : Array Bool) (oi : Oper) (i : Nat) (a : Act) (w : World) : Prop :=
 ∀ K : Act → World → Prop, (∀ a' w', (i ∉ ds → Cls M w1 g1 w → Cls M w1 g1 w') → AnyD P ops Q M w1 g1 ds fuel l' a' w' → K a' w') → if Region.wanted oi (yielded ops a.tmps) = true then Oper.wp P oi a w K Q else K (a.put oi.dst undef) w

theorem Arm.wpOp {oi : Oper} (hi : ops[i]? = some oi) (h : Arm P ops Q M w1 g1 ds fuel (l.setIfInBounds i true) oi i a w) :
  wpOp P ops Q i (fun a' w' => (i ∉ ds → Cls M w1 g1 w → Cls M w1 g1 w') ∧ wpAnyLast P .any ops Q (Cls M w1 g1) ds fuel (l.setIfInBounds i true) a' w') a w := by
 unfold Go.wpOp
 simp only [hi]
 have := h (fun a' w' => (i ∉ ds → Cls M w1 g1 w → Cls M w1 g1 w') ∧ wpAnyLast P .any ops Q (Cls M w1 g1) ds fuel (l.setIfInBounds i true) a' w') (fun _ _ h1 h2 => ⟨h1, h2⟩)
 split
 ·rename_i hw; rw [if_pos hw] at this; exact .inl this
 ·rename_i hw; rw [if_neg hw] at this; exact this

theorem d_one {oi : Oper} (i : Nat) (l' : Array Bool) (hi : ops[i]? = some oi) (hc : readyB .any ops l l' i = true) (h : Arm P ops Q M w1 g1 ds fuel l' oi i a w) : AnyD P ops Q M w1 g1 ds (fuel + 1) l a w := by
 simp only [readyB, Bool.and_eq_true, beq_iff_eq] at hc
 obtain ⟨h1, h2⟩ := hc
 subst h2
 exact wpAnyLast_all h1 (by simp) fun k hk => by
  have : k = i := by simpa using hk
  subst this
  exact Arm.wpOp hi h

theorem d_two {oi oj : Oper} (i j : Nat) (li lj : Array Bool) (hi : ops[i]? = some oi) (hj : ops[j]? = some oj) (hc : (Region.ready .any ops l == [i, j] && l.setIfInBounds i true == li && l.setIfInBounds j true == lj) = true)
  (h1 : Arm P ops Q M w1 g1 ds fuel li oi i a w) (h2 : Arm P ops Q M w1 g1 ds fuel lj oj j a w) : AnyD P ops Q M w1 g1 ds (fuel + 1) l a w := by
 simp only [Bool.and_eq_true, beq_iff_eq] at hc
 obtain ⟨⟨h3, h4⟩, h5⟩ := hc
 subst h4
 subst h5
 exact wpAnyLast_all h3 (by simp) fun k hk => by
  rcases List.mem_cons.1 hk with rfl | hk
  ·exact Arm.wpOp hi h1
  ·have : k = j := by simpa using hk
   subst this
   exact Arm.wpOp hj h2

theorem d_three {oi oj ok : Oper} (i j k : Nat) (li lj lk : Array Bool) (hi : ops[i]? = some oi) (hj : ops[j]? = some oj) (hk : ops[k]? = some ok)
  (hc : (Region.ready .any ops l == [i, j, k] && l.setIfInBounds i true == li && l.setIfInBounds j true == lj && l.setIfInBounds k true == lk) = true)
  (h1 : Arm P ops Q M w1 g1 ds fuel li oi i a w) (h2 : Arm P ops Q M w1 g1 ds fuel lj oj j a w) (h3 : Arm P ops Q M w1 g1 ds fuel lk ok k a w) : AnyD P ops Q M w1 g1 ds (fuel + 1) l a w := by
 simp only [Bool.and_eq_true, beq_iff_eq] at hc
 obtain ⟨⟨⟨h4, h5⟩, h6⟩, h7⟩ := hc
 subst h5
 subst h6
 subst h7
 exact wpAnyLast_all h4 (by simp) fun m hm => by
  rcases List.mem_cons.1 hm with rfl | hm
  ·exact Arm.wpOp hi h1
  ·rcases List.mem_cons.1 hm with rfl | hm
   ·exact Arm.wpOp hj h2
   ·have : m = k := by simpa using hm
    subst this
    exact Arm.wpOp hk h3

theorem y4v (hr : (Region.ready .any ops l == []) = true) (h : Q .normal a w) : AnyD P ops Q M w1 g1 ds n l a w := done_ hr h

theorem y43 {R : Value → World → (Nat → Nat) → Prop} (hS : Sl N a S) (hg : o.guard = none) (hd : o.dst = some d) (hN : Nat.blt d N = true) (hr : Eff P a o w R) (hM : ∀ v w' g', R v w' g' → Cls M w1 g1 w → Cls M w1 g1 w')
  (k : ∀ v a' w' g', R v w' g' → Sl N a' ((d, v) :: S) → AnyD P ops Q M w1 g1 ds fuel l' a' w') : Arm P ops Q M w1 g1 ds fuel l' o i a w := by
 intro K hK
 obtain ⟨v, w', g', h1, h2⟩ := hr
 rw [if_pos (wanted_none hg _)]
 unfold Oper.wp
 rw [h1, Oper.upon_value, hd]
 exact hK _ _ (fun _ => hM v w' g' h2) (k v _ w' g' h2 (hS.put hN v))

theorem arm_effS {R : World → (Nat → Nat) → Prop} (hS : Sl N a S) (hg : o.guard = none) (hd : o.dst = none) (hr : EffS P a o w R) (hM : i ∈ ds ∨ ∀ w' g', R w' g' → Cls M w1 g1 w → Cls M w1 g1 w')
  (k : ∀ a' w' g', R w' g' → Sl N a' S → AnyD P ops Q M w1 g1 ds fuel l' a' w') : Arm P ops Q M w1 g1 ds fuel l' o i a w := by
 intro K hK
 obtain ⟨w', g', h1, h2⟩ := hr
 rw [if_pos (wanted_none hg _)]
 unfold Oper.wp
 rw [h1, Oper.upon_skip, hd]
 refine hK _ _ (fun hn hw => ?_) (k _ w' g' h2 (hS.put_none _))
 rcases hM with h | h
 ·exact absurd h hn
 ·exact h w' g' h2 hw

theorem arm_call {f : FuncId} {args : Array Value} {R : Value → World → Prop} (hS : Sl N a S) (hg : o.guard = none) (hd : o.dst = some d) (hN : Nat.blt d N = true)
  (hr : (execOp a.eval o).run P w = .ok (.enter f args) w) (hc : Calls P f args w (fun e w' => ∃ v, e = .returned v ∧ R v w')) (hM : ∀ v w', R v w' → Cls M w1 g1 w → Cls M w1 g1 w')
  (k : ∀ v a' w', R v w' → Sl N a' ((d, v) :: S) → AnyD P ops Q M w1 g1 ds fuel l' a' w') : Arm P ops Q M w1 g1 ds fuel l' o i a w := by
 intro K hK
 rw [if_pos (wanted_none hg _)]
 unfold Oper.wp
 rw [hr, Oper.upon_enter]
 refine hc.mono fun e w' h => ?_
 obtain ⟨v, rfl, h⟩ := h
 rw [hd]
 exact hK _ _ (fun _ => hM v w' h) (k v _ w' h (hS.put hN v))

end


section
variable {w : World} {g : Nat → Nat} {C : Nat → Prop} {A : Option Addr} {cap : Nat}

theorem RdS.cell {α : Type} {sz : Nat} {enc : α → List Value} {hl : ∀ x, (enc x).length = sz} {h1 : ∀ x, ∀ v ∈ enc x, v.oneCell' = true} {xs : List α} {i : Int} {x : α} {j : Nat} {u : Value}
  (h : RdS (flat sz enc hl h1) w g C A cap xs) (hi : idx xs i = some x) (hj : (enc x)[j]? = some u) : w.cell? (ea A (i.toNat * sz + j)) = some u := by
 obtain ⟨cs, hR, hc, _⟩ := h.at_ hi
 have hR' : cs = enc x := hR
 subst hR'
 exact hc j u hj

theorem RdS.cells_off {α : Type} {sz : Nat} {enc : α → List Value} {hl : ∀ x, (enc x).length = sz} {h1 : ∀ x, ∀ v ∈ enc x, v.oneCell' = true} {xs : List α} {i : Int} {x : α}
  (h : RdS (flat sz enc hl h1) w g C A cap xs) (hi : idx xs i = some x) (o n : Nat) : ∀ j u, (((enc x).drop o).take n)[j]? = some u → w.cell? ((ea A (i.toNat * sz + o)).add j) = some u := by
 intro j u hu
 rw [List.getElem?_take] at hu
 split at hu
 ·rw [List.getElem?_drop] at hu
  have := h.cell hi hu
  rwa [ea_add, Nat.add_assoc]
 ·cases hu

theorem RdS.some_ {α : Type} {k : Kd α} {xs : List α} {i : Int} {x : α} (h : RdS k w g C A cap xs) (hi : idx xs i = some x) : ∃ ad, A = some ad := by
 obtain ⟨_, _, _, _, h⟩ := h.at_ hi
 exact h

theorem y26 {α : Type} {xs : List α} {i : Int} {x : α} (h : idx xs i = some x) : 0 ≤ i := (y3r h).1
theorem y27 {α : Type} {xs : List α} {i : Int} {x : α} (h : idx xs i = some x) : i < (xs.length : Int) := (y3r h).2.1

theorem Bx.cells_off {c b : Nat} {T : TypeId} {cs : List Value} (h : Bx w g c b T cs) (o n : Nat) : ∀ j u, ((cs.drop o).take n)[j]? = some u → w.cell? ((⟨b, o, none⟩ : Addr).add j) = some u := by
 intro j u hu
 rw [List.getElem?_take] at hu
 split at hu
 ·rw [List.getElem?_drop] at hu
  have := h.cell hu
  rwa [Addr.add_lit]
 ·cases hu

end


section
variable {P : Program} {Q : Exit → Act → World → Prop} {a : Act} {w : World} {N : Nat} {S : List (Nat × Value)}

theorem y0t {id : Nat} {l : List Oper} {y : Code} (h : ∀ K : Act → World → Prop, (∀ a w, y.wp P Q a w → K a w) → wpList P l.toArray (Exit.then K Q) l a w) : (Code.seq (.region id l.toArray false) y).wp P Q a w :=
 wp_seq_k fun K hK => wp_region_lit (h K hK)

theorem y16 {id : Nat} {l : List Oper} {y : Code} (S' : List (Nat × Value)) (h : ∀ R : Act → World → Prop, (∀ a', Sl N a' S' → R a' w) → wpList P l.toArray (Exit.then R Q) l a w) (k : ∀ a', Sl N a' S' → y.wp P Q a' w) :
  (Code.seq (.region id l.toArray false) y).wp P Q a w :=
 y0t fun K hK => h K (fun a' hS => hK _ _ (k a' hS))

theorem c_draw {id : Nat} {ops : Array Oper} {y : Code} (h : ∀ K : Act → World → Prop, (∀ a w, y.wp P Q a w → K a w) → (Code.region id ops true).wp P (Exit.then K Q) a w) : (Code.seq (.region id ops true) y).wp P Q a w :=
 wp_seq_k h

theorem c_if {c : Operand} {x y z : Code} {t : Bool} (hS : Sl N a S) (hc : ev S c = some (.bool t)) (h1 : t = true → x.wp P (Exit.then (z.wp P Q) Q) a w) (h2 : t = false → y.wp P (Exit.then (z.wp P Q) Q) a w) :
  (Code.seq (.cond c x y) z).wp P Q a w :=
 wp_seq (wp_cond_split (hS.ev hc) h1 h2)

theorem y3l {id : Nat} {l : List Oper} (h : ∀ K : Act → World → Prop, (∀ a w, Q .normal a w → K a w) → wpList P l.toArray (Exit.then K Q) l a w) : (Code.region id l.toArray false).wp P Q a w :=
 wp_mono (wp_region_lit (h _ (fun _ _ h => h))) fun e a w q => by
  cases e with
  | normal => exact q
  | _ => exact q

theorem y3e {id : Nat} {l : List Oper} (S' : List (Nat × Value)) (h : ∀ R : Act → World → Prop, (∀ a', Sl N a' S' → R a' w) → wpList P l.toArray (Exit.then R Q) l a w) (k : ∀ a', Sl N a' S' → Q .normal a' w) :
  (Code.region id l.toArray false).wp P Q a w :=
 y3l fun K hK => h K (fun a' hS => hK _ _ (k a' hS))

theorem c_draw1 {id : Nat} {ops : Array Oper} (h : ∀ K : Act → World → Prop, (∀ a w, Q .normal a w → K a w) → (Code.region id ops true).wp P (Exit.then K Q) a w) : (Code.region id ops true).wp P Q a w :=
 wp_mono (h _ (fun _ _ h => h)) fun e a w q => by
  cases e with
  | normal => exact q
  | _ => exact q

theorem y4b {ops : Array Oper} {l : List Oper} (n : Nat) (S' : List (Nat × Value)) (k : ∀ a', Sl N a' S' → wpList P ops Q (l.drop n) a' w) (h : (∀ a', Sl N a' S' → wpList P ops Q (l.drop n) a' w) → wpList P ops Q l a w) : wpList P ops Q l a w := h k

theorem g_joinR {ops : Array Oper} {l : List Oper} (n : Nat) (R : Act → World → Prop) (k : ∀ a' w', R a' w' → wpList P ops Q (l.drop n) a' w') (h : (∀ a' w', R a' w' → wpList P ops Q (l.drop n) a' w') → wpList P ops Q l a w) : wpList P ops Q l a w := h k

theorem y4u {x y : Code} (R : Act → World → Prop) (h : x.wp P (Exit.then R Q) a w) (k : ∀ a w, R a w → y.wp P Q a w) : (Code.seq x y).wp P Q a w :=
 wp_seq (wp_mono h (fun e a w q => by
  cases e with
  | normal => exact k a w q
  | _ => exact q))

theorem y2m {c : Operand} {x y : Code} {t : Bool} (hS : Sl N a S) (hc : ev S c = some (.bool t)) (h1 : t = true → x.wp P Q a w) (h2 : t = false → y.wp P Q a w) : (Code.cond c x y).wp P Q a w :=
 wp_cond_split (hS.ev hc) h1 h2

theorem c_cut1 {x : Code} (R : Act → World → Prop) (h : x.wp P (Exit.then R Q) a w) (k : ∀ a w, R a w → Q .normal a w) : x.wp P Q a w :=
 wp_mono h (fun e a w q => by
  cases e with
  | normal => exact k a w q
  | _ => exact q)

theorem y3v {fn : Func} {R : Ending → World → Prop} {t : Tmp} {v : Value} (hS : Sl N a S) (hr : fn.results = #[.tmp t]) (hv : lk S t = some v) (h : R (.returned v) w) : bodyPost P fn R .ret a w := by
 refine bodyPost_ret (v := v) ?_ hS.defs h
 rw [results_tmp hr]
 have := hS.get t v hv
 simp [Array.getD_eq_getD_getElem?, this]

theorem y4d {fn : Func} {R : Ending → World → Prop} {t u : Tmp} {v z : Value} (hS : Sl N a S) (hr : fn.results = #[.tmp t, .tmp u]) (hv : lk S t = some v) (hz : lk S u = some z) (h : R (.returned (.tuple #[v, z])) w) : bodyPost P fn R .ret a w := by
 refine bodyPost_ret (v := .tuple #[v, z]) ?_ hS.defs h
 rw [results_tmp2 hr]
 have h1 := hS.get t v hv
 have h2 := hS.get u z hz
 simp [Array.getD_eq_getD_getElem?, h1, h2]

end

theorem y3f {α : Type} {b : Bool} {x y z : α} (h : b = true) (H : (if b = true then x else y) = z) : x = z := by rwa [if_pos h] at H
theorem y3g {α : Type} {b : Bool} {x y z : α} (h : b = false) (H : (if b = true then x else y) = z) : y = z := by rwa [if_neg (by rw [h]; exact Bool.false_ne_true)] at H

inductive Fl (ρ σ : Type) where
 | out (x : ρ)
 | nxt (y : σ)

def Fl.go {ρ σ : Type} (o : Fl ρ σ) (f : σ → Option ρ) : Option ρ :=
 match o with
 | .out x => some x
 | .nxt y => f y

theorem Fl.go_nxt {ρ σ : Type} {y : σ} {f : σ → Option ρ} {z : Option ρ} (h : (Fl.nxt y).go f = z) : f y = z := h
theorem Fl.go_out {ρ σ : Type} {x : ρ} {f : σ → Option ρ} {z : Option ρ} (h : (Fl.out x : Fl ρ σ).go f = z) : some x = z := h
theorem nz_el {α : Type} {y : Int} {o : Option α} {r : α} (h : (if y = 0 then none else o) = some r) : y ≠ 0 ∧ o = some r := by
 by_cases e : y = 0
 ·rw [if_pos e] at h; cases h
 ·rw [if_neg e] at h; exact ⟨e, h⟩

theorem y1k {P : Program} {f : FuncId} {fn : Func} {c : Code} {args : List Value} {n : Nat} {w : World} {R : Ending → World → Prop} (hf : P.funcs[f]? = some fn) (hb : fn.body = some c) (hn : fn.ntmps = n) (hle : Nat.ble args.length n = true)
  (h : ∀ a, Sl n a (number 0 args) → c.wp P (bodyPost P fn R) a w) : Calls P f args.toArray w R := by
 subst hn
 exact calls_of_wp hf hb (h _ (Sl.enter fn.ntmps args hle))

theorem y1i {K : Act → World → Prop} {Q : Exit → Act → World → Prop} {a : Act} {w : World} (h : Q .ret a w) : Exit.then K Q .ret a w := h
theorem y0o {i : Nat} {Q : Exit → Act → World → Prop} {a : Act} {w : World} (h : Q .ret a w) : Exit.inBlock i Q .ret a w := h

def FUEL : Nat := 18446744073709551616

end Go.Proofs.Ytcfcffbjdjacfaa.Sim

namespace Go.Proofs.Ytcfcffbjdjacfaa.Sim
open Go
set_option linter.unusedVariables false


structure Ar2 (α : Type) where
 a0 : α
 a1 : α
deriving DecidableEq
def Ar2.l {α : Type} (x : Ar2 α) : List α := [x.a0, x.a1]
theorem Ar2.cases {α : Type} {x : Ar2 α} {i : Int} {v : α} (h : idx x.l i = some v) : (i = 0 ∧ v = x.a0) ∨ (i = 1 ∧ v = x.a1) := by
 obtain ⟨h0, h1, h2⟩ := y3r h
 have h1' : i < (2 : Int) := h1
 have hi : i = 0 ∨ i = 1 := by omega
 rcases hi with e | e
 all_goals subst e
 ·exact .inl ⟨rfl, (Option.some.inj h2).symm⟩
 ·exact .inr (⟨rfl, (Option.some.inj h2).symm⟩)

structure Ar3 (α : Type) where
 a0 : α
 a1 : α
 a2 : α
deriving DecidableEq
def Ar3.l {α : Type} (x : Ar3 α) : List α := [x.a0, x.a1, x.a2]
theorem Ar3.cases {α : Type} {x : Ar3 α} {i : Int} {v : α} (h : idx x.l i = some v) : (i = 0 ∧ v = x.a0) ∨ (i = 1 ∧ v = x.a1) ∨ (i = 2 ∧ v = x.a2) := by
 obtain ⟨h0, h1, h2⟩ := y3r h
 have h1' : i < (3 : Int) := h1
 have hi : i = 0 ∨ i = 1 ∨ i = 2 := by omega
 rcases hi with e | e | e
 all_goals subst e
 ·exact .inl ⟨rfl, (Option.some.inj h2).symm⟩
 ·exact .inr (.inl ⟨rfl, (Option.some.inj h2).symm⟩)
 ·exact .inr (.inr (⟨rfl, (Option.some.inj h2).symm⟩))

structure Ar4 (α : Type) where
 a0 : α
 a1 : α
 a2 : α
 a3 : α
deriving DecidableEq
def Ar4.l {α : Type} (x : Ar4 α) : List α := [x.a0, x.a1, x.a2, x.a3]
theorem Ar4.cases {α : Type} {x : Ar4 α} {i : Int} {v : α} (h : idx x.l i = some v) : (i = 0 ∧ v = x.a0) ∨ (i = 1 ∧ v = x.a1) ∨ (i = 2 ∧ v = x.a2) ∨ (i = 3 ∧ v = x.a3) := by
 obtain ⟨h0, h1, h2⟩ := y3r h
 have h1' : i < (4 : Int) := h1
 have hi : i = 0 ∨ i = 1 ∨ i = 2 ∨ i = 3 := by omega
 rcases hi with e | e | e | e
 all_goals subst e
 ·exact .inl ⟨rfl, (Option.some.inj h2).symm⟩
 ·exact .inr (.inl ⟨rfl, (Option.some.inj h2).symm⟩)
 ·exact .inr (.inr (.inl ⟨rfl, (Option.some.inj h2).symm⟩))
 ·exact .inr (.inr (.inr (⟨rfl, (Option.some.inj h2).symm⟩)))

structure Ar6 (α : Type) where
 a0 : α
 a1 : α
 a2 : α
 a3 : α
 a4 : α
 a5 : α
deriving DecidableEq
def Ar6.l {α : Type} (x : Ar6 α) : List α := [x.a0, x.a1, x.a2, x.a3, x.a4, x.a5]
theorem Ar6.cases {α : Type} {x : Ar6 α} {i : Int} {v : α} (h : idx x.l i = some v) : (i = 0 ∧ v = x.a0) ∨ (i = 1 ∧ v = x.a1) ∨ (i = 2 ∧ v = x.a2) ∨ (i = 3 ∧ v = x.a3) ∨ (i = 4 ∧ v = x.a4) ∨ (i = 5 ∧ v = x.a5) := by
 obtain ⟨h0, h1, h2⟩ := y3r h
 have h1' : i < (6 : Int) := h1
 have hi : i = 0 ∨ i = 1 ∨ i = 2 ∨ i = 3 ∨ i = 4 ∨ i = 5 := by omega
 rcases hi with e | e | e | e | e | e
 all_goals subst e
 ·exact .inl ⟨rfl, (Option.some.inj h2).symm⟩
 ·exact .inr (.inl ⟨rfl, (Option.some.inj h2).symm⟩)
 ·exact .inr (.inr (.inl ⟨rfl, (Option.some.inj h2).symm⟩))
 ·exact .inr (.inr (.inr (.inl ⟨rfl, (Option.some.inj h2).symm⟩)))
 ·exact .inr (.inr (.inr (.inr (.inl ⟨rfl, (Option.some.inj h2).symm⟩))))
 ·exact .inr (.inr (.inr (.inr (.inr (⟨rfl, (Option.some.inj h2).symm⟩)))))



section
variable {P : Program} {a : Act} {w : World} {o : Oper} {N : Nat} {S : List (Nat × Value)}

def arrInfo (P : Program) (T : Nat) : Option (Nat × Nat × Nat × Bool) :=
 match P.underlying T with
 | some (.array n e) => match tsz P e with
  | some (sz, b) => some (n, e, sz, b)
  | none => none
 | _ => none


def slc {α : Type} (xs : List α) (l h : Int) : Option (List α) := if 0 ≤ l ∧ l ≤ h ∧ h ≤ (xs.length : Int) then some ((xs.take h.toNat).drop l.toNat) else none

theorem slc_some {α : Type} {xs ys : List α} {l h : Int} (hh : slc xs l h = some ys) : 0 ≤ l ∧ l ≤ h ∧ h ≤ (xs.length : Int) ∧ ys = (xs.take h.toNat).drop l.toNat ∧ (ys.length : Int) = h - l := by
 unfold slc at hh
 split at hh
 ·rename_i h0
  injection hh with hh; subst hh
  refine ⟨h0.1, h0.2.1, h0.2.2, rfl, ?_⟩
  simp only [List.length_drop, List.length_take]; omega
 ·cases hh

def slA (A : Option Addr) (cap l sz : Nat) : Option Addr := if cap = l then A else A.map (·.add (l * sz))

theorem slA_zero (A : Option Addr) (cap sz : Nat) : slA A cap 0 sz = A := by
 unfold slA
 split
 ·rfl
 ·cases A <;> simp [Addr.add]

theorem OwD.slc0 {α : Type} {k : Kd α} {T : TypeId} {g : Nat → Nat} {c : Nat} {D : Nat → Prop} {A : Option Addr} {cap : Nat} {xs ys : List α} {h : Int} (hr : OwD k T w g c D A cap xs) (hs : slc xs 0 h = some ys) : OwD k T w g c D (slA A cap (0 : Int).toNat k.sz) (cap - (0 : Int).toNat) ys := by
 obtain ⟨h0, h1, h2, rfl, h3⟩ := slc_some hs
 show OwD k T w g c D (slA A cap 0 k.sz) (cap - 0) _
 rw [slA_zero, Nat.sub_zero]
 simp only [Int.toNat_zero, List.drop_zero] at h3 ⊢
 have hl : (xs.take h.toNat).length = h.toNat := by omega
 have hle : h.toNat ≤ xs.length := by omega
 refine ⟨by have := hr.1; omega, hr.2.1, ?_⟩
 rcases hr.2.2 with hn | ⟨b, arr, rfl, hb, hg, hs, hrow⟩
 ·exact .inl hn
 ·refine .inr ⟨b, arr, rfl, hb, hg, hs, ?_⟩
  have hmul : h.toNat * k.sz ≤ xs.length * k.sz := Nat.mul_le_mul_right _ hle
  have hlen := hrow.1
  simp only [List.length_take] at hlen
  refine ⟨by simp only [List.length_take, hl]; omega, fun i x hx => ?_⟩
  rw [List.getElem?_take] at hx
  split at hx
  ·rename_i hi
   have h4 := hrow.2 i x hx
   have hb2 : (i + 1) * k.sz ≤ h.toNat * k.sz := Nat.mul_le_mul_right _ hi
   rw [Nat.add_mul, Nat.one_mul] at hb2
   have e2 : ((arr.toList.take ((xs.take h.toNat).length * k.sz)).drop (i * k.sz)).take k.sz = ((arr.toList.take (xs.length * k.sz)).drop (i * k.sz)).take k.sz := by
    apply List.ext_getElem?
    intro q
    rw [List.getElem?_take, List.getElem?_take]
    split
    ·rw [List.getElem?_drop, List.getElem?_drop, List.getElem?_take, List.getElem?_take, hl, if_pos (by omega), if_pos (by omega)]
    ·rfl
   rw [e2]; exact h4
  ·cases hx
theorem OwS.slc0 {α : Type} {k : Kd α} {T : TypeId} {g : Nat → Nat} {c : Nat} {A : Option Addr} {cap : Nat} {xs ys : List α} {h : Int} (hr : OwS k T w g c A cap xs) (hs : slc xs 0 h = some ys) : OwS k T w g c (slA A cap (0 : Int).toNat k.sz) (cap - (0 : Int).toNat) ys := OwD.slc0 hr hs

def ebd (S : List (Nat × Value)) (d : Int) : Option Operand → Option Int
 | none => some d
 | some x => match ev S x with
  | some (.int _ i) => some i
  | _ => none

theorem r_slice {T e sz by_ cap : Nat} {x : Operand} {lo hi : Option Operand} {A : Option Addr} {l h : Int} {α : Type} {xs ys : List α} (hS : Sl N a S) (ho : o.op = .slice T x lo hi none) (hx : ev S x = some (.slice A xs.length cap))
  (ht : elemInfo P T = some (e, sz, by_)) (hl : ebd S 0 lo = some l) (hh : ebd S (xs.length : Int) hi = some h) (hs : slc xs l h = some ys) (hc : xs.length ≤ cap) :
  (execOp a.eval o).run P w = .ok (.value (.slice (slA A cap l.toNat sz) ys.length (cap - l.toNat))) w := by
 obtain ⟨hu, inf, hi2, hs2, _⟩ := elemInfo_spec ht
 obtain ⟨h0, h1, h2, _, h3⟩ := slc_some hs
 unfold execOp; simp only [ho, hS.ev hx]
 refine r_value ?_
 have e1 : ys.length = h.toNat - l.toNat := by omega
 have hlo : ∀ (m : Nat), (l : Int) ≤ m → (match lo.map a.eval with | some v => Instr.sliceBound v m .sliceB | none => pure 0).run P w = .ok l.toNat w := by
  intro m hm
  cases lo with
  | none => simp only [ebd, Option.some.injEq] at hl; subst hl; rfl
  | some y =>
   simp only [ebd] at hl
   split at hl
   ·rename_i k i hy
    injection hl with hl; subst hl
    simp [hS.ev hy, Instr.sliceBound, asIntOf, h0, hm]
   ·cases hl
 have hhi : (match hi.map a.eval with | some v => Instr.sliceBound v cap .sliceAcap | none => pure xs.length).run P w = .ok h.toNat w := by
  cases hi with
  | none => simp only [ebd, Option.some.injEq] at hh; subst hh; rfl
  | some y =>
   simp only [ebd] at hh
   split at hh
   ·rename_i k i hy
    injection hh with hh; subst hh
    have q0 : 0 ≤ i := by omega
    have q1 : i ≤ (cap : Int) := by omega
    simp [hS.ev hy, Instr.sliceBound, asIntOf, q0, q1]
   ·cases hh
 have hlo' := hlo h.toNat (by omega)
 have hb : (Instr.sliceBounds true xs.length cap (lo.map a.eval) (hi.map a.eval) none).run P w = .ok (l.toNat, h.toNat, cap) w := by
  unfold Instr.sliceBounds
  cases hlo2 : lo.map a.eval <;> cases hhi2 : hi.map a.eval <;> rw [hlo2] at hlo' <;> rw [hhi2] at hhi <;> simp at hlo' hhi ⊢ <;> simp [hlo', hhi]
 simp [Instr.sliceAt, Instr.slice, run_underlying hu, hb, sizeOf, typeInfo, hi2, hs2, slA, e1]

end


def kslice {α : Type} (k : Kd α) (hk : 0 < k.sz) : Kd (List α) where
 sz := 1
 R := fun w g C xs cs => ∃ A cap, cs = [.slice A xs.length cap] ∧ RdS k w g C A cap xs
 len := by rintro w g C x cs ⟨A, cap, rfl, _⟩; rfl
 one := by rintro w g C x cs ⟨A, cap, rfl, _⟩ v hv; simp at hv; subst hv; rfl
 fr := by rintro M w g w' g' C x cs F hC ⟨A, cap, rfl, h⟩; exact ⟨A, cap, rfl, RdS.fr h F hk hC⟩
 re := by rintro w g g' C C' x cs h ⟨A, cap, rfl, h'⟩; exact ⟨A, cap, rfl, RdX.re h' hk h h⟩

def El (w : World) (g : Nat → Nat) (C : Nat → Prop) (A : Option Addr) (o : Nat) (cs : List Value) : Prop := (∀ j u, cs[j]? = some u → w.cell? (ea A (o + j)) = some u) ∧ C (g (ea A 0).block) ∧ 0 < cs.length

theorem El.cell {w : World} {g : Nat → Nat} {C : Nat → Prop} {A : Option Addr} {o : Nat} {cs : List Value} (h : El w g C A o cs) {j : Nat} {u : Value} (hj : cs[j]? = some u) : w.cell? (ea A (o + j)) = some u := h.1 j u hj

theorem El.fr {M C : Nat → Prop} {w w' : World} {g g' : Nat → Nat} {A : Option Addr} {o : Nat} {cs : List Value} (h : El w g C A o cs) (F : Fr M w g w' g') (hC : ∀ c, C c → ¬ M c) : El w' g' C A o cs := by
 obtain ⟨h1, h2, h3⟩ := h
 have h0 := h1 0 _ (List.getElem?_eq_getElem h3)
 have hb := World.block_lt_of_cell? w _ h0
 have hbl : ∀ n, (ea A n).block = (ea A 0).block := fun n => by simp [ea, add_block]
 rw [hbl] at hb
 refine ⟨fun j u hu => F.cell (h1 j u hu) (by rw [hbl]; exact hC _ h2), ?_, h3⟩
 rw [(F.block _ hb (hC _ h2)).2]; exact h2

theorem El.of {α : Type} {k : Kd α} {w : World} {g : Nat → Nat} {C D : Nat → Prop} {A : Option Addr} {cap : Nat} {xs : List α} {i : Int} {x : α} (hr : RdX k w g C D A cap xs) (hi : idx xs i = some x) (hsz : 0 < k.sz) : ∃ cs, k.R w g D x cs ∧ El w g C A (i.toNat * k.sz) cs := by
 obtain ⟨cs, hR, hc, hC, _⟩ := hr.at_ hi
 exact ⟨cs, hR, hc, hC, by rw [k.len hR]; exact hsz⟩

theorem El.cells_off {w : World} {g : Nat → Nat} {C : Nat → Prop} {A : Option Addr} {p : Nat} {cs : List Value} (h : El w g C A p cs) (o n : Nat) : ∀ j u, ((cs.drop o).take n)[j]? = some u → w.cell? ((ea A (p + o)).add j) = some u := by
 intro j u hu
 rw [List.getElem?_take] at hu
 split at hu
 ·rw [List.getElem?_drop] at hu
  have := h.cell hu
  rwa [ea_add, Nat.add_assoc]
 ·cases hu

theorem OwD.rdf {α : Type} {k : Kd α} {T : TypeId} {w : World} {g : Nat → Nat} {c : Nat} {D : Nat → Prop} {A : Option Addr} {cap : Nat} {xs : List α} (hk : ∀ (w : World) (g : Nat → Nat) (C C' : Nat → Prop) x cs, k.R w g C x cs → k.R w g C' x cs) (h : OwD k T w g c D A cap xs) : RdS k w g (· = c) A cap xs := by
 refine ⟨h.1, fun i x hx => ?_⟩
 obtain ⟨ad, cs, e, h1, h2, h3⟩ := h.rdx.2 i x hx
 exact ⟨ad, cs, e, h1, hk _ _ _ _ _ _ h2, h3⟩

theorem recol_eq (g : Nat → Nat) (c1 c2 b : Nat) : y4y g c1 c2 b = if g b = c1 then c2 else g b := rfl

theorem RdS.recolC {α : Type} {k : Kd α} {w : World} {g : Nat → Nat} {C C' : Nat → Prop} {A : Option Addr} {cap : Nat} {xs : List α} (h : RdS k w g C A cap xs) (hsz : 0 < k.sz) (c1 c2 : Nat) (hC : ∀ q, C q → C' (if q = c1 then c2 else q)) : RdS k w (y4y g c1 c2) C' A cap xs :=
 RdX.re h hsz (fun b _ hb => hC _ hb) (fun b _ hb => hC _ hb)
theorem OwD.recolC {α : Type} {k : Kd α} {T : TypeId} {w : World} {g : Nat → Nat} {c : Nat} {D D' : Nat → Prop} {A : Option Addr} {cap : Nat} {xs : List α} (h : OwD k T w g c D A cap xs) (c1 c2 : Nat) (hc : c ≠ c1) (hD : ∀ q, D q → D' (if q = c1 then c2 else q)) : OwD k T w (y4y g c1 c2) c D' A cap xs := by
 refine ⟨h.1, h.2.1, ?_⟩
 rcases h.2.2 with hn | ⟨b, arr, rfl, hb, hg, hs, hr⟩
 ·exact .inl hn
 ·exact .inr ⟨b, arr, rfl, hb, by rw [recol_eq, hg, if_neg hc], hs, hr.1, fun i x hx => k.re (fun b' _ e => hD _ e) (hr.2 i x hx)⟩

theorem e_storeW {P : Program} {a : Act} {w : World} {o : Oper} {N : Nat} {S : List (Nat × Value)} {D : Nat → Prop} {T n : Nat} {bb : Bool} {x y : Operand} {α : Type} {kd : Kd α} {E : TypeId} {c : Nat} {A : Option Addr} {cap : Nat} {xs : List α} {i : Int} {x0 x' : α} {u : Value} {us : List Value} {off : Nat} (g : Nat → Nat)
  (hS : Sl N a S) (ho : o.op = .store T x y) (hx : ev S x = some (.pointer (some (ea A off)))) (hoff : off = i.toNat * kd.sz)
  (hy : ev S y = some u) (ht : tsz P T = some (n, bb)) (hu : u.cells.toList = us) (hn : us.length = n) (hw : OwD kd E w g c D A cap xs) (hD : ∀ q, D q → q ≠ c) (hi : idx xs i = some x0)
  (hR : kd.R w g D x' us) :
  EffS P a o w fun w' g' => OwD kd E w' g' c D A cap (upd xs i x') ∧ Fr (fun q => q = c) w g w' g' := by
 have hl := kd.len hR
 refine e_storeD (j := 0) g hS ho hx (by omega) hy ht hu hn (kd.one hR) hw hD hi (by rw [Nat.zero_add, hl]; exact Nat.ble_self_eq_true _) (fun cs h0 => ?_)
 have hl0 := kd.len h0
 have : splice cs 0 us = us := by
  unfold splice
  rw [Nat.zero_add, List.take_zero, List.nil_append, List.drop_of_length_le (by omega), List.append_nil]
 rw [this]; exact hR

theorem c_ret0 {P : Program} {a : Act} {w : World} {N : Nat} {S : List (Nat × Value)} {fn : Func} {R : Ending → World → Prop} (hS : Sl N a S) (hr : fn.results = #[]) (h : R (.returned (.tuple #[])) w) : bodyPost P fn R .ret a w := by
 refine bodyPost_ret (v := .tuple #[]) ?_ hS.defs h
 simp [results, hr]

theorem c_end0 {P : Program} {a : Act} {w : World} {N : Nat} {S : List (Nat × Value)} {fn : Func} {R : Ending → World → Prop} (hS : Sl N a S) (hr : fn.results = #[]) (h : R (.returned (.tuple #[])) w) : bodyPost P fn R .normal a w := by
 exact c_ret0 hS hr h

theorem inBlock_exit {i : Nat} {Q : Exit → Act → World → Prop} {a : Act} {w : World} (h : Q .normal a w) : Exit.inBlock i Q (.exit i) a w := by
 simp only [Exit.inBlock, if_true]; exact h
theorem inBlock_out {i j : Nat} {Q : Exit → Act → World → Prop} {a : Act} {w : World} (hn : ¬ j = i) (h : Q (.exit j) a w) : Exit.inBlock i Q (.exit j) a w := by
 simp only [Exit.inBlock, if_neg hn]; exact h
theorem then_exit {i : Nat} {K : Act → World → Prop} {Q : Exit → Act → World → Prop} {a : Act} {w : World} (h : Q (.exit i) a w) : Exit.then K Q (.exit i) a w := h
theorem inBlock_normal {i : Nat} {Q : Exit → Act → World → Prop} {a : Act} {w : World} (h : Q .normal a w) : Exit.inBlock i Q .normal a w := h

theorem st_effW {P : Program} {ops : Array Oper} {Q : Exit → Act → World → Prop} {a : Act} {w : World} {rest : List Oper} {o : Oper} {N : Nat} {S : List (Nat × Value)} {d : Nat} {R : Value → World → (Nat → Nat) → Prop} (hS : Sl N a S) (hw : Region.wanted o (yielded ops a.tmps) = true) (hd : o.dst = some d) (hN : Nat.blt d N = true) (hr : Eff P a o w R)
  (k : ∀ v a' w' g', R v w' g' → Sl N a' ((d, v) :: S) → wpList P ops Q rest a' w') : wpList P ops Q (o :: rest) a w := by
 obtain ⟨v, w', g', h1, h2⟩ := hr
 unfold wpList
 rw [if_pos hw]
 refine .inl ?_
 unfold Oper.wp
 rw [h1, Oper.upon_value, hd]
 exact k v _ w' g' h2 (hS.put hN v)

end Go.Proofs.Ytcfcffbjdjacfaa.Sim

namespace Go.Proofs.Ytcfcffbjdjacfaa.Sim
open Go
set_option linter.unusedVariables false

def Opens {α : Type} (P : Program) (t : TypeId) (k : Kd α) (wf : α → Prop) : Prop :=
 ∀ {H : Type} (enc : TypeId × Value → H) (w : World) (held : Bool) (fuel : Nat) (cs : List Value) (x : DataW H × List MemPlace),
  DataW.trod enc P w 0 (fun _ => true) held fuel t cs = some x → ∃ a : α, k.R w (fun _ => 0) (· = 0) a cs ∧ wf a

theorem Opens.int {P : Program} {t : TypeId} {k : IntKind} (ht : P.underlying t = some (.int k)) : Opens P t (kint k) (fun n => (Lit.int k n).wf = true) := by
 intro H enc w held fuel cs x h
 obtain ⟨n, rfl, _, hw⟩ := DataW.trod_int ht h
 exact ⟨n, rfl, hw⟩

theorem Opens.bool {P : Program} {t : TypeId} (ht : P.underlying t = some .bool) : Opens P t y4p (fun _ => True) := by
 intro H enc w held fuel cs x h
 obtain ⟨n, rfl, _⟩ := DataW.trod_bool ht h
 exact ⟨n, rfl, trivial⟩

theorem Opens.slice {α : Type} {P : Program} {t e : TypeId} {k : Kd α} {wf : α → Prop} (ht : P.underlying t = some (.slice e)) (hk : 0 < k.sz) (hc : P.cellsOf e = k.sz) (he : Opens P e k wf) :
  Opens P t (kslice k hk) (fun xs => xs.length ≤ maxLen ∧ ∀ x ∈ xs, wf x) := by
 intro H enc w held fuel cs x h
 rcases DataW.trod_slice ht h with ⟨rfl, _⟩ | ⟨a, len, cap, elems, rest, n, _, rfl, _, _, hl, hm, hlen, hel, _, _⟩
 ·exact ⟨[], ⟨none, 0, rfl, RdS.nil _ _ _ _⟩, by simp, by simp⟩
 ·have each : ∀ i : Fin len, ∃ y cs', w.cells? 0 (a.add (i.val * k.sz)) k.sz = some cs' ∧ k.R w (fun _ => 0) (· = 0) y cs' ∧ wf y := by
   intro i
   have h1 := hel i.val i.isLt
   rw [hc, List.getElem?_eq_getElem (by rw [hlen]; exact i.isLt), Option.bind_eq_some_iff] at h1
   obtain ⟨cs', h2, h3⟩ := h1
   obtain ⟨y, h4, h5⟩ := he enc w held n cs' _ h3
   exact ⟨y, cs', h2, h4, h5⟩
  refine ⟨List.ofFn (fun i => (each i).choose), ⟨some a, cap, by simp, by simpa using hl, fun i y hy => ?_⟩, by simp; omega, fun y hy => ?_⟩
  ·rw [List.getElem?_ofFn] at hy
   split at hy
   ·rename_i hi
    injection hy with hy
    obtain ⟨cs', h1, h2, h3⟩ := (each ⟨i, hi⟩).choose_spec
    rw [hy] at h2
    refine ⟨a, cs', rfl, rfl, h2, fun j u hu => ?_⟩
    obtain ⟨_, hlen', hcell⟩ := World.cells?_some h1
    have hj : j < k.sz := by
     rcases Nat.lt_or_ge j k.sz with q | q
     ·exact q
     ·rw [List.getElem?_eq_none (by rw [k.len h2]; exact q)] at hu; cases hu
    have h4 := hcell j hj
    rw [add_add] at h4
    exact h4.trans hu
   ·cases hy
  ·obtain ⟨i, hi⟩ := List.mem_ofFn.1 hy
   obtain ⟨cs', h1, h2, h3⟩ := (each i).choose_spec
   rw [hi] at h3
   exact h3

theorem trod_field {H : Type} {enc : TypeId × Value → H} {P : Program} {w : World} {held : Bool} {m : Nat} {fs : Array Field} {cs : List Value} {xs : List (DataW H × List MemPlace)}
  (hf : ∀ (i : Nat) (f : Field), fs[i]? = some f → DataW.trod enc P w 0 (fun _ => true) held m f.type ((cs.drop f.offset).take (P.cellsOf f.type)) = xs[i]?) (hlen : xs.length = fs.size) (i : Nat) {f : Field} (hi : fs[i]? = some f) {n : Nat} (hn : P.cellsOf f.type = n) :
  ∃ y, DataW.trod enc P w 0 (fun _ => true) held m f.type ((cs.drop f.offset).take n) = some y := by
 have h := hf i f hi
 rw [hn] at h
 have hlt : i < xs.length := by
  rw [hlen]; exact (Array.getElem?_eq_some_iff.1 hi).1
 rw [List.getElem?_eq_getElem hlt] at h
 exact ⟨_, h⟩

theorem Fr.below {w w' : World} {g' : Nat → Nat} (h : Fr (fun q => 1 ≤ q) w (fun _ => 0) w' g') : RowKit.Below w.heap.size w w' :=
 ⟨h.os, h.tape, h.output, h.size, fun b hb => (h.block b hb (by simp)).1⟩

end Go.Proofs.Ytcfcffbjdjacfaa.Sim

namespace Go.Proofs.Ytcfcffbjdjacfaa.Sim
open Go
set_option linter.unusedVariables false

section
variable {P : Program} {a : Act} {w : World} {o : Oper} {N : Nat} {S : List (Nat × Value)}


theorem eqf_last {d : Nat} {xs ys : Array Value} {f : Field} {u v : Value} {r : Bool} (hn : (f.name == "_") = false) (ha : (part f.type xs f.offset).run P w = .ok u w) (hb : (part f.type ys f.offset).run P w = .ok v w) (he : (Op.equalIn d f.type u v).run P w = .ok r w) : (Op.eqFields d xs ys [f]).run P w = .ok r w := by
 have hn' : f.name ≠ "_" := by simpa using hn
 simp only [Op.eqFields, if_pos hn', Sem.run_bind, ha, hb, he, Result.andThen_ok]
 cases r <;> simp
theorem eqf_cons {d : Nat} {xs ys : Array Value} {f : Field} {fs : List Field} {u v : Value} {r s : Bool} (hn : (f.name == "_") = false) (ha : (part f.type xs f.offset).run P w = .ok u w) (hb : (part f.type ys f.offset).run P w = .ok v w) (he : (Op.equalIn d f.type u v).run P w = .ok r w) (hr : (Op.eqFields d xs ys fs).run P w = .ok s w) : (Op.eqFields d xs ys (f :: fs)).run P w = .ok (r && s) w := by
 have hn' : f.name ≠ "_" := by simpa using hn
 rw [Op.eqFields]
 simp only [if_pos hn', Sem.run_bind, ha, hb, he, Result.andThen_ok]
 cases r
 ·simp
 ·simpa using hr
theorem eqA_of {d : Nat} {xs ys : Array Value} {t : TypeId} {fs : Array Field} {r : Bool} (hu : P.underlying t = some (.struct fs)) (hp : P.stoodInHeld t = false) (h : (Op.eqFields d xs ys fs.toList).run P w = .ok r w) : (Op.equalIn (d + 1) t (.agg xs) (.agg ys)).run P w = .ok r w := by
 have hf : P.fieldsOf t = fs := by simp [Program.fieldsOf, hu]
 rw [run_equalIn_struct (P := P) w d t xs ys (by rw [hf]; exact hu) hp, hf]
 exact h

theorem r_stEq {T t' : Nat} {x y : Operand} {xs ys : Array Value} {b : Bool} (hS : Sl N a S) (ho : o.op = .binOp .eql T x y t') (hx : ev S x = some (.agg xs)) (hy : ev S y = some (.agg ys)) (hg : P.eqGuardType P.depth T = false)
  (hb : (Op.equalIn 10000 T (.agg xs) (.agg ys)).run P w = .ok b w) : (execOp a.eval o).run P w = .ok (.value (.bool b)) w := by
 unfold execOp
 simp only [ho, hS.ev hx, hS.ev hy]
 refine r_value ?_
 simp only [Sem.run_bind, run_eqGuard_agg w .eql T x y xs ys hg, Result.andThen_ok, run_eql_struct, hb]
theorem r_stNe {T t' : Nat} {x y : Operand} {xs ys : Array Value} {b : Bool} (hS : Sl N a S) (ho : o.op = .binOp .neq T x y t') (hx : ev S x = some (.agg xs)) (hy : ev S y = some (.agg ys)) (hg : P.eqGuardType P.depth T = false)
  (hb : (Op.equalIn 10000 T (.agg xs) (.agg ys)).run P w = .ok b w) : (execOp a.eval o).run P w = .ok (.value (.bool (!b))) w := by
 unfold execOp
 simp only [ho, hS.ev hx, hS.ev hy]
 refine r_value ?_
 simp only [Sem.run_bind, run_eqGuard_agg w .neq T x y xs ys hg, Result.andThen_ok, run_neq_struct, hb]


def MapS {α : Type} (enc : α → Value) (w : World) (g : Nat → Nat) (c b : Nat) (ks : List α) : Prop :=
 ∃ es clock, w.heap[b]? = some (.map es clock) ∧ g b = c ∧ es.toList.map (fun e => e.key) = ks.map enc ∧ ∀ e ∈ es.toList, e.val = .bool true

theorem MapS.fr {α : Type} {enc : α → Value} {M : Nat → Prop} {w' : World} {g g' : Nat → Nat} {c b : Nat} {ks : List α} (h : MapS enc w g c b ks) (F : Fr M w g w' g') (hc : ¬ M c) : MapS enc w' g' c b ks := by
 obtain ⟨es, clock, hb, hg, hk, hv⟩ := h
 have hlt := (Array.getElem?_eq_some_iff.1 hb).1
 obtain ⟨e1, e2⟩ := F.block b hlt (by rw [hg]; exact hc)
 exact ⟨es, clock, e1.trans hb, e2.trans hg, hk, hv⟩

structure KeyOk {α : Type} [DecidableEq α] (P : Program) (K : TypeId) (enc : α → Value) : Prop where
 st : ∃ fs, P.underlying K = some (.struct fs)
 eq : ∀ (x y : α) (w : World), (Op.equal K (enc x) (enc y)).run P w = .ok (decide (x = y)) w
 ck : ∀ (b : Bool) (x : α) (w : World), (Instr.checkKey b 10000 K (enc x)).run P w = .ok () w

theorem run_findAsking {α : Type} [DecidableEq α] {K : TypeId} {enc : α → Value} (hk : KeyOk P K enc) (x : α) : ∀ (es : List MapEntry) (ks : List α) (i : Nat), es.map (fun e => e.key) = ks.map enc → (∀ e ∈ es, e.val = .bool true) →
  ∃ r, (Instr.findAsking K (enc x) es i).run P w = .ok r w ∧ ((x ∈ ks ∧ ∃ j, r = some (j, .bool true)) ∨ (x ∉ ks ∧ r = none))
 | [], ks, i, h, _ => by
  have : ks = [] := by cases ks with | nil => rfl | cons _ _ => simp at h
  subst this
  exact ⟨none, rfl, .inr ⟨by simp, rfl⟩⟩
 | e :: es, ks, i, h, hv => by
  cases ks with
  | nil => simp at h
  | cons k ks =>
   simp only [List.map_cons, List.cons.injEq] at h
   have hve := hv e (List.mem_cons_self ..)
   unfold Instr.findAsking
   simp only [Sem.run_bind, h.1, hk.eq, Result.andThen_ok]
   by_cases e1 : x = k
   ·subst e1
    exact ⟨some (i, .bool true), by simp [hve], .inl ⟨List.mem_cons_self .., i, rfl⟩⟩
   ·obtain ⟨r, h1, h2⟩ := run_findAsking hk x es ks (i + 1) h.2 (fun e he => hv e (List.mem_cons_of_mem _ he))
    refine ⟨r, by simp [e1, h1], ?_⟩
    simpa [e1] using h2

theorem run_findKeyS {α : Type} [DecidableEq α] {K : TypeId} {enc : α → Value} (hk : KeyOk P K enc) (x : α) (es : List MapEntry) (ks : List α) (h : es.map (fun e => e.key) = ks.map enc) (hv : ∀ e ∈ es, e.val = .bool true) :
  ∃ r, (Instr.findKey K (enc x) es).run P w = .ok r w ∧ ((x ∈ ks ∧ ∃ j, r = some (j, .bool true)) ∨ (x ∉ ks ∧ r = none)) := by
 obtain ⟨fs, hs⟩ := hk.st
 unfold Instr.findKey
 simp only [Sem.run_bind, run_underlying hs, Result.andThen_ok]
 cases es with
 | nil =>
  have : ks = [] := by cases ks with | nil => rfl | cons _ _ => simp at h
  subst this
  exact ⟨none, by simp [Instr.findNow], .inr ⟨by simp, rfl⟩⟩
 | cons e es =>
  have : Instr.findNow (.struct fs) (enc x) (e :: es) 0 = none := by
   unfold Instr.findNow
   simp [Instr.sameNow]
  rw [this]
  exact run_findAsking hk x (e :: es) ks 0 h hv

def mapInfo (P : Program) (T : Nat) : Option (Nat × Nat) :=
 match P.underlying T with
 | some (.map k e) => match P.underlying e with
  | some .bool => some (k, e)
  | _ => none
 | _ => none
theorem mapInfo_spec {T k e : Nat} (h : mapInfo P T = some (k, e)) : P.underlying T = some (.map k e) ∧ P.underlying e = some .bool := by
 unfold mapInfo at h
 split at h
 ·rename_i k' e' hu
  split at h
  ·rename_i he
   simp only [Option.some.injEq, Prod.mk.injEq] at h
   obtain ⟨rfl, rfl⟩ := h
   exact ⟨hu, he⟩
  ·cases h
 ·cases h

theorem r_lookup {α : Type} [DecidableEq α] {enc : α → Value} {T K E b c : Nat} {x y : Operand} {g : Nat → Nat} {k : α} {ks : List α} (hS : Sl N a S) (ho : o.op = .lookup T x y false) (hx : ev S x = some (.map (some b))) (hy : ev S y = some (enc k))
  (ht : mapInfo P T = some (K, E)) (hz : (P.info? E).bind (·.zero) = some (.bool false)) (hk : KeyOk P K enc) (hm : MapS enc w g c b ks) : (execOp a.eval o).run P w = .ok (.value (.bool (decide (k ∈ ks)))) w := by
 obtain ⟨hu, he⟩ := mapInfo_spec ht
 obtain ⟨es, clock, hb, _, hkeys, hv⟩ := hm
 obtain ⟨r, h1, h2⟩ := run_findKeyS (w := w) hk k es.toList ks hkeys hv
 unfold execOp
 simp only [ho, hS.ev hx, hS.ev hy]
 refine r_value ?_
 rcases h2 with ⟨h3, j, rfl⟩ | ⟨h3, rfl⟩
 ·simp [Instr.lookup, run_underlying hu, MapKept.run_getObj_map hb, hk.ck, h1, h3]
 ·obtain ⟨i, hi, hz2⟩ := Option.bind_eq_some_iff.1 hz
  simp [Instr.lookup, run_underlying hu, MapKept.run_getObj_map hb, hk.ck, h1, h3, zeroValue, typeInfo, hi, hz2]

theorem e_makeMap {α : Type} (enc : α → Value) {T : Nat} (c : Nat) (g : Nat → Nat) (_hS : Sl N a S) (ho : o.op = .makeMap T none) :
  Eff P a o w fun v w' g' => (∃ b, v = .map (some b) ∧ MapS enc w' g' c b ([] : List α)) ∧ Fr (fun _ => False) w g w' g' := by
 refine ⟨.map (some w.heap.size), w.alloc (.map #[] 0), dye g w.heap.size c, ?_, ⟨w.heap.size, rfl, ⟨#[], 0, heap_alloc_new w _, dye_same g _ c, rfl, by simp⟩⟩, Fr.alloc _ w g _ c⟩
 unfold execOp
 simp only [ho]
 refine r_value ?_
 simp only [Option.map_none]
 rfl

theorem Fr.setObj {M : Nat → Prop} (w : World) (g : Nat → Nat) (b : Nat) (ob : Obj) (h : M (g b)) : Fr M w g { w with heap := w.heap.setIfInBounds b ob } g :=
 ⟨rfl, rfl, rfl, by simp, fun b' _ hm => ⟨by
  have : b ≠ b' := fun e => hm (e ▸ h)
  simp [this], rfl⟩⟩

theorem e_mapUpdate {α : Type} [DecidableEq α] {enc : α → Value} {T K E b c : Nat} {x y z : Operand} {k : α} {ks : List α} (g : Nat → Nat) (hS : Sl N a S) (ho : o.op = .mapUpdate T x y z) (hx : ev S x = some (.map (some b))) (hy : ev S y = some (enc k)) (hz : ev S z = some (.bool true))
  (ht : mapInfo P T = some (K, E)) (hk : KeyOk P K enc) (hm : MapS enc w g c b ks) (hn : decide (k ∈ ks) = false) :
  EffS P a o w fun w' g' => MapS enc w' g' c b (ks ++ [k]) ∧ Fr (fun q => q = c) w g w' g' := by
 obtain ⟨hu, he⟩ := mapInfo_spec ht
 obtain ⟨es, clock, hb, hg, hkeys, hv⟩ := hm
 obtain ⟨r, h1, h2⟩ := run_findKeyS (w := w) hk k es.toList ks hkeys hv
 have hlt := (Array.getElem?_eq_some_iff.1 hb).1
 rcases h2 with ⟨h3, _⟩ | ⟨h3, rfl⟩
 ·simp [h3] at hn
 refine ⟨{ w with heap := w.heap.setIfInBounds b (.map (es.push { key := enc k, val := .bool true, born := clock }) (clock + 1)) }, g, ?_, ⟨es.push { key := enc k, val := .bool true, born := clock }, clock + 1, ?_, hg, ?_, ?_⟩, Fr.setObj w g b _ hg⟩
 ·unfold execOp
  simp only [ho, hS.ev hx, hS.ev hy, hS.ev hz]
  simp [Instr.mapUpdate, run_underlying hu, MapKept.run_getObj_map hb, hk.ck, h1, MapKept.run_setObj_map _ hb]
 ·simp [hlt]
 ·simp [hkeys]
 ·intro e he
  simp only [Array.toList_push, List.mem_append, List.mem_singleton] at he
  rcases he with he | rfl
  ·exact hv e he
  ·rfl


theorem r_optEq {t t' : Nat} {x : Operand} {p : Option Addr} {b : Bool} (hS : Sl N a S) (ho : o.op = .binOp .eql t x (.const (.pointer none)) t') (hx : ev S x = some (.pointer p)) (hu : P.underlying t = some (.pointer (P.pointee t))) (hb : p.isNone = b) :
  (execOp a.eval o).run P w = .ok (.value (.bool b)) w := hb ▸ r_ptrEq hS ho hx hu
theorem Bx.y4y {g : Nat → Nat} {c b : Nat} {T : TypeId} {cs : List Value} (h : Bx w g c b T cs) (d : Nat) : Bx w (y4y g c d) d b T cs :=
 ⟨h.1, by rw [recol_eq, if_pos h.2]⟩


theorem r_slNil {T t' : Nat} {x : Operand} {A : Option Addr} {n cap E : Nat} (hS : Sl N a S) (ho : o.op = .binOp .eql T x (.const (.slice none 0 0)) t') (hx : ev S x = some (.slice A n cap)) (hu : P.underlying T = some (.slice E)) : (execOp a.eval o).run P w = .ok (.value (.bool A.isNone)) w := by
 have hc : a.eval (.const (.slice none 0 0)) = .slice none 0 0 := rfl
 unfold execOp
 simp only [ho, hS.ev hx, hc, eqGuard_at_slice]
 refine r_value ?_
 have : (Op.equal T (.slice A n cap) (.slice none 0 0)).run P w = .ok A.isNone w := by
  show (Op.equalIn (9999 + 1) T (.slice A n cap) (.slice none 0 0)).run P w = .ok A.isNone w
  rw [Op.equalIn]
  simp only [Sem.run_bind, run_underlying hu, Result.andThen_ok]
  cases A <;> rfl
 simp [binOp, this]

theorem RdS.none_ {α : Type} {k : Kd α} {g : Nat → Nat} {C : Nat → Prop} {A : Option Addr} {cap : Nat} {xs : List α} (h : RdS k w g C A cap xs) (hn : A.isNone = true) : xs = [] := by
 cases xs with
 | nil => rfl
 | cons x t =>
  obtain ⟨ad, _, e, _⟩ := h.2 0 x rfl
  subst e
  cases hn


def concrete (P : Program) (T : Nat) : Bool := match P.underlying T with | some (.interface _) => false | some _ => true | none => false
theorem r_mkif {T : Nat} {x : Operand} {v : Value} (hS : Sl N a S) (ho : o.op = .makeInterface T x) (hx : ev S x = some v) (hc : concrete P T = true) : (execOp a.eval o).run P w = .ok (.value (.iface T v)) w := by
 unfold concrete at hc
 unfold execOp
 simp only [ho, hS.ev hx]
 refine r_value ?_
 split at hc
 ·cases hc
 ·rename_i d hd hu
  unfold Instr.makeInterface
  simp only [Sem.run_bind, run_underlying hu, Result.andThen_ok]
  cases d <;> first | rfl | exact absurd rfl (hd _)
 ·cases hc
theorem r_assert {T X : Nat} {x : Operand} {v : Value} (hS : Sl N a S) (ho : o.op = .typeAssert x X T true) (hx : ev S x = some (.iface T v)) (hc : concrete P T = true) : (execOp a.eval o).run P w = .ok (.value (.tuple #[v, .bool true])) w := by
 unfold concrete at hc
 unfold execOp
 simp only [ho, hS.ev hx]
 refine r_value ?_
 split at hc
 ·cases hc
 ·rename_i d hd hu
  unfold Instr.typeAssert
  simp only [Sem.run_bind, run_underlying hu, Result.andThen_ok]
  cases d <;> first | simp | exact absurd rfl (hd _)
 ·cases hc

def methOf (P : Program) (T : Nat) (name : String) : Option (Nat × Bool) :=
 match P.info? T with
 | some i => match i.methods.find? (·.name == name) with
  | some m => if m.path.isEmpty then m.func else none
  | none => none
 | none => none
theorem methOf_spec {T f : Nat} {name : String} {b : Bool} (h : methOf P T name = some (f, b)) : ∃ i m, P.info? T = some i ∧ i.methods.find? (·.name == name) = some m ∧ m.path = #[] ∧ m.func = some (f, b) := by
 unfold methOf at h
 split at h
 ·rename_i i hi
  split at h
  ·rename_i m hm
   split at h
   ·rename_i hp
    exact ⟨i, m, hi, hm, by simpa using hp, h⟩
   ·cases h
  ·cases h
 ·cases h

theorem run_method {T E f n : Nat} {name : String} {b : Bool} {ad : Addr} {v : Value} (hm : methOf P T name = some (f, b)) (hu : P.underlying T = some (.pointer E)) (h : b = true ∧ v = .pointer (some ad) ∨ b = false ∧ tsz P E = some (n, false) ∧ w.cell? ad = some v) (k : Nat) :
  (method (k + 1) T (.pointer (some ad)) name).run P w = .ok (f, v) w := by
 obtain ⟨i, m, hi, hf, hp, hfn⟩ := methOf_spec hm
 have hi' : (typeInfo T).run P w = .ok i w := by simp [typeInfo, hi]
 unfold method
 simp only [Sem.run_bind, hi', Result.andThen_ok, hf, hp, List.isEmpty_toArray]
 simp only [follow, Sem.run_pure, Result.andThen_ok, hfn]
 rcases h with ⟨rfl, rfl⟩ | ⟨rfl, ht, hc⟩
 ·simp [receiverAt, run_underlying hu, Place.get]
 ·have hag := run_isAgg (w := w) ht
  have hn : ∀ s, (Builtin.ssaWrapNilChk_ #[T] T #[.pointer (some ad), strVal "", strVal s]).run P w = .ok (.pointer (some ad)) w := fun _ => rfl
  have hl : (loadVar E ad).run P w = .ok v w := by simp [loadVar, hag, load, Sem.run, hc]
  unfold receiverAt
  simp only [Sem.run_bind, run_underlying hu, Result.andThen_ok, Place.get, Sem.run_pure, List.isEmpty_nil, eq_self, if_true, hn, asAddr, hl]

theorem r_invoke {T E f n : Nat} {name : String} {b : Bool} {ad : Addr} {v : Value} {x : Operand} {xs : List Operand} {vs : List Value} {ts : Array TypeId} (hS : Sl N a S) (ho : o.op = .call { callee := .invoke x name, args := xs.toArray, argTypes := ts }) (hx : ev S x = some (.iface T (.pointer (some ad)))) (hxs : evs S xs = some vs)
  (hm : methOf P T name = some (f, b)) (hu : P.underlying T = some (.pointer E)) (hf : callOk P f = true) (h : b = true ∧ v = .pointer (some ad) ∨ b = false ∧ tsz P E = some (n, false) ∧ w.cell? ad = some v) :
  (execOp a.eval o).run P w = .ok (.enter f (v :: vs).toArray) w := by
 have h1 := evs_spec hS hxs
 obtain ⟨k, hk⟩ : ∃ k, P.types.size + Made.depth = k + 1 := ⟨P.types.size + Made.depth - 1, by simp only [Made.depth]; omega⟩
 have h2 := run_method (w := w) hm hu h k
 have h3 : (invoke (.fn (.method name) #[]) (#[.iface T (.pointer (some ad))] ++ (xs.toArray.map a.eval))).run P w = .ok (.enter f (v :: vs).toArray) w := by
  have h4 : (xs.toArray.map a.eval) = vs.toArray := by simp [h1]
  rw [h4]
  have h5 : (callMethod (.iface T (.pointer (some ad))) name vs.toArray).run P w = .ok (.enter f (v :: vs).toArray) w := by
   simp only [callMethod, Sem.run_bind, run_program, Result.andThen_ok, hk, h2]
   have := run_callFunc (w := w) (args := #[v] ++ vs.toArray) hf
   simpa using this
  unfold invoke
  simp only [show (#[Value.iface T (.pointer (some ad))] ++ vs.toArray)[0]? = some (.iface T (.pointer (some ad))) from by simp, show (#[Value.iface T (.pointer (some ad))] ++ vs.toArray).extract 1 (#[Value.iface T (.pointer (some ad))] ++ vs.toArray).size = vs.toArray from by simp]
  exact h5
 unfold execOp
 simp only [ho, Sem.run_bind, resolve, hS.ev hx, Sem.run_pure, Result.andThen_ok]
 exact h3

end

end Go.Proofs.Ytcfcffbjdjacfaa.Sim

namespace Go.Proofs.Ytcfcffbjdjacfaa.Sim
open Go
set_option linter.unusedVariables false

def Pl {α : Type} (k : Kd α) : Prop := ∀ (w w' : World) (g g' : Nat → Nat) (C C' : Nat → Prop) x cs, k.R w g C x cs → k.R w' g' C' x cs

structure OwM {α : Type} (k : Kd α) (T E : TypeId) (w : World) (g : Nat → Nat) (c : Nat) (A : Option Addr) (cap : Nat) (hs : List (Option Addr × Nat)) (xss : List (List α)) (H : Nat → Prop) : Prop where
 le : xss.length ≤ cap
 cm : cap ≤ maxLen
 hl : hs.length = xss.length
 outer : (A = none ∧ cap = 0) ∨ ∃ (b : Nat) (arr : Array Value), A = some ⟨b, 0, none⟩ ∧ w.heap[b]? = some (.cells arr T (0, 0)) ∧ g b = c ∧ arr.size = cap ∧ ∀ (i : Nat) (h : Option Addr × Nat) (xs : List α), hs[i]? = some h → xss[i]? = some xs → arr[i]? = some (Value.slice h.1 xs.length h.2)
 inner : ∀ (i : Nat) (h : Option Addr × Nat) (xs : List α), ¬ H i → hs[i]? = some h → xss[i]? = some xs → OwS k E w g (c + 1) h.1 h.2 xs
 apart : ∀ (i j : Nat) (hi hj : Option Addr × Nat) (bi bj : Addr), ¬ H i → ¬ H j → i ≠ j → hs[i]? = some hi → hs[j]? = some hj → hi.1 = some bi → hj.1 = some bj → bi.block ≠ bj.block

section
variable {P : Program} {a : Act} {w : World} {o : Oper} {N : Nat} {S : List (Nat × Value)} {α : Type} {k : Kd α} {T E : TypeId} {g : Nat → Nat} {c d : Nat} {A : Option Addr} {cap : Nat} {hs : List (Option Addr × Nat)} {xss : List (List α)} {H : Nat → Prop}

theorem OwM.fr {M : Nat → Prop} {w' : World} {g' : Nat → Nat} (m : OwM k T E w g c A cap hs xss H) (F : Fr M w g w' g') (h0 : ¬ M c) (h1 : ¬ M (c + 1)) (h2 : ¬ M (c + 2)) : OwM k T E w' g' c A cap hs xss H := by
 refine ⟨m.le, m.cm, m.hl, ?_, fun i h xs hn hi hx => OwD.fr (m.inner i h xs hn hi hx) F h1 (fun q e => by subst e; exact h2), m.apart⟩
 rcases m.outer with h | ⟨b, arr, rfl, hb, hg, hs', hc⟩
 ·exact .inl h
 ·have hlt := (Array.getElem?_eq_some_iff.1 hb).1
  obtain ⟨e1, e2⟩ := F.block b hlt (by rw [hg]; exact h0)
  exact .inr ⟨b, arr, rfl, e1.trans hb, e2.trans hg, hs', hc⟩

theorem OwM.hd (m : OwM k T E w g c A cap hs xss H) {i : Int} {x : List α} (hx : idx xss i = some x) : ∃ h, idx hs i = some h := by
 obtain ⟨h0, h1, h2⟩ := y3r hx
 have hlt : i.toNat < hs.length := by rw [m.hl]; omega
 exact ⟨hs[i.toNat], by unfold idx; rw [if_pos h0, List.getElem?_eq_getElem hlt]⟩

theorem OwM.some_ (m : OwM k T E w g c A cap hs xss H) {i : Int} {x : List α} (hx : idx xss i = some x) : ∃ ad, A = some ad := by
 obtain ⟨h0, h1, h2⟩ := y3r hx
 rcases m.outer with ⟨rfl, h⟩ | ⟨b, arr, rfl, _⟩
 ·have := m.le; omega
 ·exact ⟨_, rfl⟩

theorem OwM.cell (m : OwM k T E w g c A cap hs xss H) {i : Int} {x : List α} {h : Option Addr × Nat} (hx : idx xss i = some x) (hh : idx hs i = some h) : w.cell? (ea A (i.toNat * 1)) = some (.slice h.1 x.length h.2) := by
 obtain ⟨h0, h1, h2⟩ := y3r hx
 obtain ⟨_, _, h3⟩ := y3r hh
 rcases m.outer with ⟨rfl, h⟩ | ⟨b, arr, rfl, hb, _, _, hc⟩
 ·have := m.le; omega
 ·rw [ea_some, cell_of_row w b _ arr T (0, 0) hb, Nat.zero_add, Nat.mul_one]
  exact hc _ _ _ h3 h2

theorem OwM.row (m : OwM k T E w g c A cap hs xss (fun _ => False)) {i : Int} {x : List α} {h : Option Addr × Nat} (hx : idx xss i = some x) (hh : idx hs i = some h) : OwS k E w g (c + 1) h.1 h.2 x :=
 m.inner _ _ _ (fun h => h) (y3r hh).2.2 (y3r hx).2.2

def dyeA (g : Nat → Nat) (A : Option Addr) (d : Nat) : Nat → Nat := match A with | none => g | some ad => dye g ad.block d

theorem OwM.take (hk : Pl k) (m : OwM k T E w g c A cap hs xss (fun _ => False)) {i : Int} {x : List α} {h : Option Addr × Nat} (hx : idx xss i = some x) (hh : idx hs i = some h) (d : Nat) (hd : d ≠ c ∧ d ≠ c + 1) :
  OwS k E w (dyeA g h.1 d) d h.1 h.2 x ∧ OwM k T E w (dyeA g h.1 d) c A cap hs xss (fun j => j = i.toNat) ∧ Fr (fun q => q = c + 1) w g w (dyeA g h.1 d) := by
 obtain ⟨_, _, hx'⟩ := y3r hx
 obtain ⟨_, _, hh'⟩ := y3r hh
 have hrow := m.row hx hh
 have keep : ∀ b, (∀ ad, h.1 = some ad → b ≠ ad.block) → dyeA g h.1 d b = g b := by
  intro b hb
  cases e : h.1 with
  | none => rfl
  | some ad => exact dye_other (hb ad e)
 have hgc : ∀ ad, h.1 = some ad → g ad.block = c + 1 := by
  intro ad e
  rcases hrow.2.2 with ⟨e2, _⟩ | ⟨b, arr, e2, _, hg, _⟩
  ·rw [e2] at e; cases e
  ·rw [e2] at e; injection e with e; subst e; exact hg
 refine ⟨⟨hrow.1, hrow.2.1, ?_⟩, ⟨m.le, m.cm, m.hl, ?_, ?_, ?_⟩, ⟨rfl, rfl, rfl, Nat.le_refl _, fun b hb hm => ⟨rfl, keep b (fun ad e e2 => hm (by subst e2; exact hgc ad e))⟩⟩⟩
 ·rcases hrow.2.2 with hn | ⟨b, arr, e, hb, hg, hs', hr⟩
  ·exact .inl hn
  ·refine .inr ⟨b, arr, e, hb, by rw [e]; exact dye_same g b d, hs', hr.1, fun j y hy => hk _ _ _ _ _ _ _ _ (hr.2 j y hy)⟩
 ·rcases m.outer with hn | ⟨b, arr, e, hb, hg, hs', hc⟩
  ·exact .inl hn
  ·refine .inr ⟨b, arr, e, hb, ?_, hs', hc⟩
   rw [keep b (fun ad e2 e3 => by have := hgc ad e2; rw [← e3, hg] at this; omega)]; exact hg
 ·intro j h' xs hj hhj hxj
  have hin := m.inner j h' xs (fun h => h) hhj hxj
  refine ⟨hin.1, hin.2.1, ?_⟩
  rcases hin.2.2 with hn | ⟨b, arr, e, hb, hg, hs', hr⟩
  ·exact .inl hn
  ·refine .inr ⟨b, arr, e, hb, ?_, hs', hr.1, fun j y hy => hk _ _ _ _ _ _ _ _ (hr.2 j y hy)⟩
   rw [keep b (fun ad e2 e3 => m.apart j i.toNat h' h _ _ (fun h => h) (fun h => h) hj hhj hh' e e2 e3)]; exact hg
 ·intro p q hp hq bp bq h1 h2
  exact m.apart p q hp hq bp bq (fun h => h) (fun h => h)

theorem getElem?_set_ne' {β : Type} {l : List β} {i j : Nat} {y : β} (h : i ≠ j) : (l.set i y)[j]? = l[j]? := by
 rw [List.getElem?_set]; simp [h]
theorem getElem?_set_self' {β : Type} {l : List β} {i : Nat} {y z : β} (h : l[i]? = some z) : (l.set i y)[i]? = some y := by
 have := (List.getElem?_eq_some_iff.1 h).1
 rw [List.getElem?_set]; simp [this]

theorem OwM.put (hk : Pl k) {i : Int} {x ys : List α} {h : Option Addr × Nat} {A' : Option Addr} {cap' : Nat} {w' : World} (m : OwM k T E w g c A cap hs xss (fun j => j = i.toNat)) (hx : idx xss i = some x) (hh : idx hs i = some h) (hd : d ≠ c ∧ d ≠ c + 1)
  (hn : OwS k E w g d A' cap' ys) (hw : ∀ b, g b ≠ c → w'.heap[b]? = w.heap[b]?) (ho : ∀ b arr, A = some ⟨b, 0, none⟩ → w.heap[b]? = some (.cells arr T (0, 0)) → w'.heap[b]? = some (.cells (arr.setIfInBounds i.toNat (.slice A' ys.length cap')) T (0, 0))) :
  OwM k T E w' (y4y g d (c + 1)) c A cap (upd hs i (A', cap')) (upd xss i ys) (fun _ => False) := by
 obtain ⟨h0, h1, hx'⟩ := y3r hx
 obtain ⟨_, _, hh'⟩ := y3r hh
 have hre : ∀ b, g b ≠ d → y4y g d (c + 1) b = g b := fun b hb => by rw [recol_eq, if_neg hb]
 have hin : ∀ j h' xs', j ≠ i.toNat → hs[j]? = some h' → xss[j]? = some xs' → OwS k E w' (y4y g d (c + 1)) (c + 1) h'.1 h'.2 xs' := by
  intro j h' xs' hj hhj hxj
  have q := m.inner j h' xs' hj hhj hxj
  refine ⟨q.1, q.2.1, ?_⟩
  rcases q.2.2 with hn | ⟨b, arr, e, hb, hg, hs', hr⟩
  ·exact .inl hn
  ·refine .inr ⟨b, arr, e, ?_, ?_, hs', hr.1, fun j y hy => hk _ _ _ _ _ _ _ _ (hr.2 j y hy)⟩
   ·rw [hw b (by omega)]; exact hb
   ·rw [hre b (by omega)]; exact hg
 refine ⟨by rw [y1w]; exact m.le, m.cm, by rw [y1w, y1w]; exact m.hl, ?_, ?_, ?_⟩
 ·rcases m.outer with q | ⟨b, arr, rfl, hb, hg, hs', hc⟩
  ·exact .inl q
  ·refine .inr ⟨b, _, rfl, ho b arr rfl hb, ?_, by simpa using hs', ?_⟩
   ·rw [hre b (by omega)]; exact hg
   ·intro j h' xs' hhj hxj
    unfold upd at hhj hxj
    by_cases e : j = i.toNat
    ·subst e
     rw [getElem?_set_self' hh'] at hhj
     rw [getElem?_set_self' hx'] at hxj
     injection hhj with e1; injection hxj with e2; subst e1; subst e2
     rw [Array.getElem?_setIfInBounds, if_pos rfl]
     have : i.toNat < arr.size := by have := m.le; omega
     simp [this]
    ·rw [getElem?_set_ne' (Ne.symm e)] at hhj hxj
     rw [Array.getElem?_setIfInBounds, if_neg (Ne.symm e)]
     exact hc j h' xs' hhj hxj
 ·intro j h' xs' _ hhj hxj
  unfold upd at hhj hxj
  by_cases e : j = i.toNat
  ·subst e
   rw [getElem?_set_self' hh'] at hhj
   rw [getElem?_set_self' hx'] at hxj
   injection hhj with e1; injection hxj with e2; subst e1; subst e2
   refine ⟨hn.1, hn.2.1, ?_⟩
   rcases hn.2.2 with q | ⟨b, arr, e, hb, hg, hs', hr⟩
   ·exact .inl q
   ·refine .inr ⟨b, arr, e, ?_, ?_, hs', hr.1, fun j y hy => hk _ _ _ _ _ _ _ _ (hr.2 j y hy)⟩
    ·rw [hw b (by omega)]; exact hb
    ·rw [recol_eq, if_pos hg]
  ·rw [getElem?_set_ne' (Ne.symm e)] at hhj hxj
   exact hin j h' xs' e hhj hxj
 ·have col : ∀ j h' bj, j ≠ i.toNat → hs[j]? = some h' → h'.1 = some bj → g bj.block = c + 1 := by
   intro j h' bj hj hhj e
   have hlt : j < xss.length := by rw [← m.hl]; exact (List.getElem?_eq_some_iff.1 hhj).1
   have q := m.inner j h' _ hj hhj (List.getElem?_eq_getElem hlt)
   rcases q.2.2 with ⟨e2, _⟩ | ⟨b, arr, e2, _, hg, _⟩
   ·rw [e2] at e; cases e
   ·rw [e2] at e; injection e with e; subst e; exact hg
  have colN : ∀ bj, A' = some bj → g bj.block = d := by
   intro bj e
   rcases hn.2.2 with ⟨e2, _⟩ | ⟨b, arr, e2, _, hg, _⟩
   ·rw [e2] at e; cases e
   ·rw [e2] at e; injection e with e; subst e; exact hg
  intro p q hp hq bp bq _ _ hpq hhp hhq e1 e2
  unfold upd at hhp hhq
  by_cases ep : p = i.toNat
  ·subst ep
   rw [getElem?_set_self' hh'] at hhp
   rw [getElem?_set_ne' hpq] at hhq
   injection hhp with e3; subst e3
   have c1 := colN bp e1
   have c2 := col q hq bq (Ne.symm hpq) hhq e2
   intro e; rw [e] at c1; omega
  ·rw [getElem?_set_ne' (Ne.symm ep)] at hhp
   by_cases eq : q = i.toNat
   ·subst eq
    rw [getElem?_set_self' hh'] at hhq
    injection hhq with e3; subst e3
    have c1 := colN bq e2
    have c2 := col p hp bp hpq hhp e1
    intro e; rw [e] at c2; omega
   ·rw [getElem?_set_ne' (Ne.symm eq)] at hhq
    exact m.apart p q hp hq bp bq ep eq hpq hhp hhq e1 e2

theorem e_storeM (hk : Pl k) {U n : Nat} {x y : Operand} {off : Nat} {i : Int} {x0 ys : List α} {h : Option Addr × Nat} {A' : Option Addr} {cap' : Nat} (g : Nat → Nat) (hS : Sl N a S) (ho : o.op = .store U x y) (hx : ev S x = some (.pointer (some (ea A off)))) (hoff : off = i.toNat * 1) (hy : ev S y = some (.slice A' ys.length cap')) (ht : tsz P U = some (n, false)) (hn : n = 1)
  (m : OwM k T E w g c A cap hs xss (fun j => j = i.toNat)) (hi : idx xss i = some x0) (hh : idx hs i = some h) (hnew : OwS k E w g d A' cap' ys) (hd : d ≠ c ∧ d ≠ c + 1) :
  EffS P a o w fun w' g' => OwM k T E w' g' c A cap (upd hs i (A', cap')) (upd xss i ys) (fun _ => False) ∧ Fr (fun q => q = c ∨ q = d) w g w' g' := by
 obtain ⟨h0, h1, hx'⟩ := y3r hi
 subst hn; subst hoff
 rcases m.outer with ⟨_, hz⟩ | ⟨b, arr, rfl, hb, hg, hs', hc⟩
 ·have := m.le; omega
 have hlt : i.toNat < arr.size := by have := m.le; omega
 have hr := run_store_at (w := w) (u := .slice A' ys.length cap') (us := [.slice A' ys.length cap']) (bl := b) (j := i.toNat * 1) ht rfl rfl (by simp [Value.oneCell']) hb (by simp; omega)
 have hspl : (splice arr.toList (i.toNat * 1) [.slice A' ys.length cap']).toArray = arr.setIfInBounds i.toNat (.slice A' ys.length cap') := by
  apply Array.toList_inj.1
  simp only [Array.toList_setIfInBounds, splice, List.length_singleton, Nat.mul_one]
  rw [List.set_eq_take_append_cons_drop, if_pos (by simpa using hlt)]
  simp
 rw [hspl] at hr
 have F : Fr (fun q => q = c) w g (w.setRow b (arr.setIfInBounds i.toNat (.slice A' ys.length cap'))) g := Fr.setRow w g b _ hg
 refine ⟨w.setRow b (arr.setIfInBounds i.toNat (.slice A' ys.length cap')), y4y g d (c + 1), ?_, OwM.put hk m hi hh hd hnew (fun b' hb' => setRow_other w b b' _ (fun e => hb' (e ▸ hg))) (fun b' arr' e hb' => ?_), ?_⟩
 ·unfold execOp
  simp only [Nat.mul_one] at hr
  simp only [ho, hS.ev hx, hS.ev hy, ea_some, Nat.zero_add, Nat.mul_one]
  simp [hr]
 ·injection e with e; injection e with e; subst e
  rw [hb] at hb'; injection hb' with e; injection e with e; subst e
  exact setRow_heap w b _ _ T (0, 0) hb
 ·exact (F.mono (fun _ h => .inl h)).trans (Fr.y4y (M := fun q => q = c ∨ q = d) _ g d (c + 1) (.inr rfl)) (fun _ h => h)

theorem fresh_col (w : World) (g : Nat → Nat) (c : Nat) : ∃ d, c < d ∧ ∀ b, b < w.heap.size → g b ≠ d := by
 have key : ∀ n, ∃ d, c < d ∧ ∀ b, b < n → g b < d := by
  intro n
  induction n with
  | zero => exact ⟨c + 1, Nat.lt_succ_self _, by simp⟩
  | succ n ih =>
   obtain ⟨d, h1, h2⟩ := ih
   refine ⟨max d (g n + 1), by omega, fun b hb => ?_⟩
   by_cases e : b = n
   ·subst e; omega
   ·have := h2 b (by omega); omega
 obtain ⟨d, h1, h2⟩ := key w.heap.size
 exact ⟨d, h1, fun b hb => by have := h2 b hb; omega⟩

theorem e_storeMM (hk : Pl k) {U n : Nat} {bb : Bool} {x y : Operand} {i j : Int} {x0 : List α} {y0 y' : α} {h : Option Addr × Nat} {off : Nat} {u : Value} {us : List Value} (g : Nat → Nat) (hS : Sl N a S) (ho : o.op = .store U x y) (hx : ev S x = some (.pointer (some (ea h.1 off)))) (hoff : off = j.toNat * k.sz)
  (hy : ev S y = some u) (ht : tsz P U = some (n, bb)) (hu : u.cells.toList = us) (hn : us.length = n) (m : OwM k T E w g c A cap hs xss (fun _ => False)) (hi : idx xss i = some x0) (hh : idx hs i = some h) (hj : idx x0 j = some y0) (hR : ∀ w g D, k.R w g D y' us) :
  EffS P a o w fun w' g' => OwM k T E w' g' c A cap hs (upd xss i (upd x0 j y')) (fun _ => False) ∧ Fr (fun q => q = c + 1) w g w' g' := by
 obtain ⟨d, hd1, hd2⟩ := fresh_col w g (c + 2)
 obtain ⟨h1, h2, h3⟩ := m.take hk hi hh d ⟨by omega, by omega⟩
 obtain ⟨w', g2, e1, e2, e3⟩ := e_storeW (P := P) (dyeA g h.1 d) hS ho hx hoff hy ht hu hn h1 (fun q (e : q = d + 1) => by omega) hj (hR w _ _)
 have h4 := h2.fr e3 (by omega) (by omega) (by omega)
 obtain ⟨_, _, hh'⟩ := y3r hh
 have hset : upd hs i (h.1, h.2) = hs := by
  unfold upd
  apply List.ext_getElem?
  intro q
  by_cases e : q = i.toNat
  ·subst e; rw [getElem?_set_self' hh']; exact hh'.symm
  ·rw [getElem?_set_ne' (Ne.symm e)]
 have h5 := OwM.put (w' := w') hk h4 hi hh ⟨by omega, by omega⟩ e2 (fun _ _ => rfl) (fun b arr e hb => by
  rw [hb]
  congr 2
  apply Array.ext_getElem?
  intro q
  rw [Array.getElem?_setIfInBounds]
  by_cases e4 : i.toNat = q
  ·subst e4
   rw [if_pos rfl]
   rcases h4.outer with ⟨q1, _⟩ | ⟨b', arr', q1, q2, _, q3, q4⟩
   ·rw [q1] at e; cases e
   ·rw [q1] at e; injection e with e; injection e with e; subst e
    rw [q2] at hb; injection hb with hb; injection hb with hb; subst hb
    have := q4 _ _ _ hh' (y3r hi).2.2
    rw [this, y1w]
    have hlt := (Array.getElem?_eq_some_iff.1 this).1
    simp [hlt]
  ·rw [if_neg e4])
 rw [hset] at h5
 refine ⟨w', y4y g2 d (c + 1), e1, h5, ?_⟩
 refine ⟨e3.os, e3.tape, e3.output, e3.size, fun b hb hm => ?_⟩
 obtain ⟨q1, q2⟩ := h3.block b hb hm
 obtain ⟨q3, q4⟩ := e3.block b hb (by rw [q2]; exact hd2 b hb)
 refine ⟨q3, ?_⟩
 rw [recol_eq, q4, q2, if_neg (hd2 b hb)]

theorem e_makeM (k : Kd α) {T e sz by_ E : Nat} {x : Operand} {ik : IntKind} {n : Int} {xss : List (List α)} (c : Nat) (g : Nat → Nat) (hS : Sl N a S) (ho : o.op = .makeSlice T x x)
  (hx : ev S x = some (.int ik n)) (ht : elemInfo P T = some (e, sz, by_)) (hz : zcells P e = some [.slice none 0 0]) (hsz : sz = 1) (hby : Nat.ble by_ 32768 = true) (hxs : mk n ([] : List α) = some xss) :
  Eff P a o w fun v w' g' => (∃ A cap hs, v = .slice A xss.length cap ∧ OwM k e E w' g' c A cap hs xss (fun _ => False)) ∧ Fr (fun _ => False) w g w' g' := by
 have hby' : by_ ≤ 32768 := by simpa [Nat.ble_eq] using hby
 obtain ⟨h0, h1, rfl⟩ := mk_some hxs
 obtain ⟨hu, i, hi, hi1, hi2⟩ := elemInfo_spec ht
 unfold zcells at hz
 rw [hi] at hz
 simp only [Option.bind_some, Option.map_eq_some_iff] at hz
 obtain ⟨zv, hz2, hz3⟩ := hz
 obtain ⟨m, rfl⟩ := Int.eq_ofNat_of_zero_le h0
 have hm : m ≤ 4294967296 := by omega
 have hbb : (i.bytes : Int) * (m : Int) ≤ 281474976710656 := by
  have h : i.bytes * m ≤ 32768 * 4294967296 := Nat.mul_le_mul (by omega) hm
  rw [← Int.natCast_mul]
  omega
 have hrun := run_make (P := P) w T e i zv hu hi hz2 ik ik m m h0 (Int.le_refl _) hbb (by omega)
 simp only [Int.toNat_natCast] at hrun
 refine ⟨_, w.alloc (.cells (madeCells zv.cells (m * i.size)) e), dye g w.heap.size c, ?_, ⟨some ⟨w.heap.size, 0, none⟩, m, List.replicate m (none, 0), rfl, ?_⟩, Fr.alloc _ w g _ c⟩
 ·unfold execOp
  simp only [ho, hS.ev hx]
  refine r_value ?_
  rw [hrun]
  simp
 ·have hsz' : i.size = 1 := by omega
  have hzv : zv.cells = #[.slice none 0 0] := Array.toList_inj.1 hz3
  refine ⟨by simp, by simp [maxLen]; omega, by simp, .inr ⟨w.heap.size, _, rfl, heap_alloc_new w _, dye_same g _ c, by simp [madeCells, hsz'], ?_⟩, ?_, ?_⟩
  ·intro j h' xs hh hx'
   simp only [Int.toNat_natCast] at hh hx'
   rw [List.getElem?_replicate] at hh hx'
   split at hh
   ·rename_i hj
    rw [if_pos hj] at hx'
    injection hh with hh; injection hx' with hx'; subst hh; subst hx'
    simp [madeCells, hzv, hsz', hj, Nat.mod_one]
   ·cases hh
  ·intro j h' xs _ hh hx'
   rw [List.getElem?_replicate] at hh hx'
   split at hh
   ·injection hh with hh; subst hh
    split at hx'
    ·injection hx' with hx'; subst hx'; exact OwS.nil _ _ _ _ _
    ·cases hx'
   ·cases hh
  ·intro p q hp hq bp bq _ _ _ hhp _ e1 _
   rw [List.getElem?_replicate] at hhp
   split at hhp
   ·injection hhp with hhp; subst hhp; cases e1
   ·cases hhp

theorem OwM.toS (hk : Pl k) (hsz : 0 < k.sz) (m : OwM k T E w g c A cap hs xss (fun _ => False)) : OwS (kslice k hsz) T w g c A cap xss := by
 refine ⟨m.le, m.cm, ?_⟩
 rcases m.outer with q | ⟨b, arr, rfl, hb, hg, hs', hc⟩
 ·exact .inl q
 ·refine .inr ⟨b, arr, rfl, hb, hg, by simpa [kslice] using hs', ?_⟩
  have hle := m.le
  refine ⟨by simp [kslice]; omega, fun i x hx => ?_⟩
  have hlt := (List.getElem?_eq_some_iff.1 hx).1
  have hh : hs[i]? = some (hs[i]'(by rw [m.hl]; exact hlt)) := List.getElem?_eq_getElem _
  have hin := m.inner i _ x (fun h => h) hh hx
  refine ⟨_, _, ?_, OwD.rdf (fun w g C C' x cs h => hk _ _ _ _ _ _ _ _ h) hin⟩
  have h1 := hc i _ x hh hx
  apply List.ext_getElem?
  intro q
  rw [List.getElem?_take]
  split
  ·rename_i hq
   have : q = 0 := by simp [kslice] at hq; omega
   subst this
   rw [List.getElem?_drop, List.getElem?_take, if_pos (by simp [kslice]; omega)]
   simpa [kslice] using h1
  ·rename_i hq
   rw [List.getElem?_eq_none (by simp [kslice] at hq ⊢; omega)]

end
end Go.Proofs.Ytcfcffbjdjacfaa.Sim

namespace Go.Proofs.Ytcfcffbjdjacfaa.Sim
open Go

section
variable {P : Program} {a : Act} {w : World} {o : Oper} {N : Nat} {S : List (Nat × Value)}

theorem r_mkfn {k : Nat} {xs : List Operand} {vs : List Value} (hS : Sl N a S) (ho : o.op = .makeFunc (.func k) #[] xs.toArray) (hx : evs S xs = some vs) :
  (execOp a.eval o).run P w = .ok (.value (.func (.func k) #[] vs.toArray)) w := by
 have := evs_spec hS hx
 unfold execOp
 simp [ho, Instr.makeFunc, this]

theorem r_callv {f : Nat} {x : Operand} {cs : Array Value} {xs : List Operand} {vs us : List Value} {ts : Array TypeId} (hS : Sl N a S) (ho : o.op = .call { callee := .value x, args := xs.toArray, argTypes := ts }) (hx : ev S x = some (.func (.func f) #[] cs)) (hxs : evs S xs = some vs)
  (hu : vs ++ cs.toList = us) (hf : callOk P f = true) :
  (execOp a.eval o).run P w = .ok (.enter f us.toArray) w := by
 have h1 := evs_spec hS hxs
 have h2 := hS.ev hx
 have h3 : (xs.toArray.map a.eval) = vs.toArray := by simp [h1]
 subst hu
 have h4 := run_callFunc (w := w) (args := (#[] ++ vs.toArray) ++ cs) hf
 have h5 : (#[] ++ vs.toArray) ++ cs = (vs ++ cs.toList).toArray := by simp
 unfold execOp
 simp only [ho, Sem.run_bind, resolve, h2, h3, Deferred.ofValue, Sem.run_pure, Result.andThen_ok, invoke]
 rw [h5] at h4 ⊢
 exact h4


end
end Go.Proofs.Ytcfcffbjdjacfaa.Sim

namespace Go.Proofs.Ytcfcffbjdjacfaa.Sim
open Go Go.Proofs.YtcfcffbjdjacfaaW.PrintLast

section
variable {P : Program} {ops : Array Oper} {Q : Exit → Act → World → Prop} {a : Act} {w : World} {md : Region.Mode}

theorem wpAnyLast_rebase {S1 S2 : World → Prop} (h12 : ∀ w, S2 w → S1 w) : ∀ (fuel : Nat) (listed : Array Bool) (a : Act) (w : World), S2 w → wpAnyLast P md ops Q S2 [] fuel listed a w → wpAnyLast P md ops Q S1 [] fuel listed a w
 | 0, _, _, _, _, h => h
 | fuel + 1, _, _, _, hw, h => ⟨h.1, fun i hi => wpOp_mono (fun _ _ h' => ⟨fun _ _ => h12 _ (h'.1 (by simp) hw), wpAnyLast_rebase h12 fuel _ _ _ (h'.1 (by simp) hw) h'.2⟩) (h.2 i hi)⟩

theorem d_rebase {M M2 : Nat → Prop} {w1 w2 : World} {g1 g2 : Nat → Nat} {fuel : Nat} {l : Array Bool} (h12 : ∀ w, Cls M2 w2 g2 w → Cls M w1 g1 w) (hw : Cls M2 w2 g2 w) (h : AnyD P ops Q M2 w2 g2 [] fuel l a w) : AnyD P ops Q M w1 g1 [] fuel l a w :=
 wpAnyLast_rebase h12 fuel l a w hw h
end
end Go.Proofs.Ytcfcffbjdjacfaa.Sim

namespace Go.Proofs.Ytcfcffbjdjacfaa.Sim
open Go
set_option linter.unusedVariables false

abbrev Hd := Option Addr × Nat

theorem zip_get {α β : Type} {hs : List α} {xs : List β} {i : Nat} {h : α} {x : β} (e1 : hs[i]? = some h) (e2 : xs[i]? = some x) : (hs.zip xs)[i]? = some (h, x) := by
 simp [List.getElem?_zip_eq_some, e1, e2]
theorem zip_idx {α β : Type} {hs : List α} {xs : List β} {i : Int} {h : α} {x : β} (e1 : idx hs i = some h) (e2 : idx xs i = some x) : idx (hs.zip xs) i = some (h, x) := by
 obtain ⟨a, _, b⟩ := y3r e1
 obtain ⟨_, _, c⟩ := y3r e2
 unfold idx
 rw [if_pos a]
 exact zip_get b c
theorem zip_len {α β : Type} {hs : List α} {xs : List β} (h : hs.length = xs.length) : (hs.zip xs).length = xs.length := by simp [List.length_zip, h]
theorem zip_upd {α β : Type} {hs : List α} {xs : List β} {i : Int} (h : α) (x : β) : upd (hs.zip xs) i (h, x) = (upd hs i h).zip (upd xs i x) := by
 unfold upd
 apply List.ext_getElem?
 intro q
 by_cases e : i.toNat = q
 ·subst e
  by_cases hl : i.toNat < (hs.zip xs).length
  ·have hl' := hl
   rw [List.length_zip] at hl'
   rw [List.getElem?_set_self hl]
   exact (zip_get (List.getElem?_set_self (by omega)) (List.getElem?_set_self (by omega))).symm
  ·rw [List.getElem?_eq_none (by simpa using hl), List.getElem?_eq_none (by simp only [List.length_zip, List.length_set] at hl ⊢; omega)]
 ·rw [List.getElem?_set_ne e]
  by_cases hl : q < (hs.zip xs).length
  ·have hl' := hl
   rw [List.length_zip] at hl'
   have e1 : (hs.zip xs)[q]? = some (hs[q]'(by omega), xs[q]'(by omega)) := zip_get (List.getElem?_eq_getElem _) (List.getElem?_eq_getElem _)
   rw [e1]
   exact (zip_get (by rw [List.getElem?_set_ne e]; exact List.getElem?_eq_getElem _) (by rw [List.getElem?_set_ne e]; exact List.getElem?_eq_getElem _)).symm
  ·rw [List.getElem?_eq_none (by omega), List.getElem?_eq_none (by simp only [List.length_zip, List.length_set] at hl ⊢; omega)]
theorem upd_self {α : Type} {hs : List α} {i : Int} {h : α} (e : idx hs i = some h) : upd hs i h = hs := by
 obtain ⟨_, _, e'⟩ := y3r e
 unfold upd
 apply List.ext_getElem?
 intro q
 by_cases c : i.toNat = q
 ·subst c; rw [List.getElem?_set_self ((List.getElem?_eq_some_iff.1 e').1), e']
 ·rw [List.getElem?_set_ne c]

structure OwN {α β : Type} (kz : Kd (Hd × β)) (k : Kd α) (col : β → List α) (T E : TypeId) (w : World) (g : Nat → Nat) (c : Nat) (A : Option Addr) (cap : Nat) (hs : List Hd) (xs : List β) (H : Nat → Prop) : Prop where
 hl : hs.length = xs.length
 outer : OwS kz T w g c A cap (hs.zip xs)
 inner : ∀ (i : Nat) (h : Hd) (x : β), ¬ H i → hs[i]? = some h → xs[i]? = some x → OwS k E w g (c + 2) h.1 h.2 (col x)
 apart : ∀ (i j : Nat) (hi hj : Hd) (bi bj : Addr), ¬ H i → ¬ H j → i ≠ j → hs[i]? = some hi → hs[j]? = some hj → hi.1 = some bi → hj.1 = some bj → bi.block ≠ bj.block

section
variable {P : Program} {a : Act} {w : World} {o : Oper} {N : Nat} {S : List (Nat × Value)} {α β : Type} {kz : Kd (Hd × β)} {k : Kd α} {col : β → List α} {T E : TypeId} {g : Nat → Nat} {c d : Nat} {A : Option Addr} {cap : Nat} {hs : List Hd} {xs : List β} {H : Nat → Prop}

theorem OwN.fr {M : Nat → Prop} {w' : World} {g' : Nat → Nat} (m : OwN kz k col T E w g c A cap hs xs H) (F : Fr M w g w' g') (h0 : ¬ M c) (h1 : ¬ M (c + 1)) (h2 : ¬ M (c + 2)) (h3 : ¬ M (c + 3)) : OwN kz k col T E w' g' c A cap hs xs H :=
 ⟨m.hl, OwD.fr m.outer F h0 (fun q e => by subst e; exact h1), fun i h x hn hi hx => OwD.fr (m.inner i h x hn hi hx) F h2 (fun q e => by subst e; exact h3), m.apart⟩

theorem OwN.hd (m : OwN kz k col T E w g c A cap hs xs H) {i : Int} {x : β} (hx : idx xs i = some x) : ∃ h, idx hs i = some h := by
 obtain ⟨h0, h1, h2⟩ := y3r hx
 have hlt : i.toNat < hs.length := by rw [m.hl]; omega
 exact ⟨hs[i.toNat], by unfold idx; rw [if_pos h0, List.getElem?_eq_getElem hlt]⟩
theorem OwN.len (m : OwN kz k col T E w g c A cap hs xs H) : (hs.zip xs).length = xs.length := zip_len m.hl
theorem OwN.some_ (m : OwN kz k col T E w g c A cap hs xs H) {i : Int} {x : β} (hx : idx xs i = some x) : ∃ ad, A = some ad := by
 obtain ⟨h, hh⟩ := m.hd hx
 exact RdS.some_ (OwS.rd m.outer) (zip_idx hh hx)
theorem OwN.el (m : OwN kz k col T E w g c A cap hs xs H) {i : Int} {x : β} {h : Hd} (hx : idx xs i = some x) (hh : idx hs i = some h) (hsz : 0 < kz.sz) : ∃ cs, kz.R w g (· = c + 1) (h, x) cs ∧ El w g (· = c) A (i.toNat * kz.sz) cs :=
 El.of (OwD.rdx m.outer) (zip_idx hh hx) hsz
theorem OwN.row (m : OwN kz k col T E w g c A cap hs xs (fun _ => False)) {i : Int} {x : β} {h : Hd} (hx : idx xs i = some x) (hh : idx hs i = some h) : OwS k E w g (c + 2) h.1 h.2 (col x) :=
 m.inner _ _ _ (fun h => h) (y3r hh).2.2 (y3r hx).2.2

theorem OwN.take (hk : Pl k) (m : OwN kz k col T E w g c A cap hs xs (fun _ => False)) {i : Int} {x : β} {h : Hd} (hx : idx xs i = some x) (hh : idx hs i = some h) (d : Nat) (hd : d ≠ c ∧ d ≠ c + 1 ∧ d ≠ c + 2) :
  OwS k E w (dyeA g h.1 d) d h.1 h.2 (col x) ∧ OwN kz k col T E w (dyeA g h.1 d) c A cap hs xs (fun j => j = i.toNat) ∧ Fr (fun q => q = c + 2) w g w (dyeA g h.1 d) := by
 obtain ⟨_, _, hx'⟩ := y3r hx
 obtain ⟨_, _, hh'⟩ := y3r hh
 have hrow := m.row hx hh
 have keep : ∀ b, (∀ ad, h.1 = some ad → b ≠ ad.block) → dyeA g h.1 d b = g b := by
  intro b hb
  cases e : h.1 with
  | none => rfl
  | some ad => exact dye_other (hb ad e)
 have hgc : ∀ ad, h.1 = some ad → g ad.block = c + 2 := by
  intro ad e
  rcases hrow.2.2 with ⟨e2, _⟩ | ⟨b, arr, e2, _, hg, _⟩
  ·rw [e2] at e; cases e
  ·rw [e2] at e; injection e with e; subst e; exact hg
 have F : Fr (fun q => q = c + 2) w g w (dyeA g h.1 d) := ⟨rfl, rfl, rfl, Nat.le_refl _, fun b hb hm => ⟨rfl, keep b (fun ad e e2 => hm (by subst e2; exact hgc ad e))⟩⟩
 refine ⟨⟨hrow.1, hrow.2.1, ?_⟩, ⟨m.hl, OwD.fr m.outer F (by omega) (fun q e => by omega), ?_, ?_⟩, F⟩
 ·rcases hrow.2.2 with hn | ⟨b, arr, e, hb, hg, hs', hr⟩
  ·exact .inl hn
  ·refine .inr ⟨b, arr, e, hb, by rw [e]; exact dye_same g b d, hs', hr.1, fun j y hy => hk _ _ _ _ _ _ _ _ (hr.2 j y hy)⟩
 ·intro j h' x' hj hhj hxj
  have hin := m.inner j h' x' (fun h => h) hhj hxj
  refine ⟨hin.1, hin.2.1, ?_⟩
  rcases hin.2.2 with hn | ⟨b, arr, e, hb, hg, hs', hr⟩
  ·exact .inl hn
  ·refine .inr ⟨b, arr, e, hb, ?_, hs', hr.1, fun j y hy => hk _ _ _ _ _ _ _ _ (hr.2 j y hy)⟩
   rw [keep b (fun ad e2 e3 => m.apart j i.toNat h' h _ _ (fun h => h) (fun h => h) hj hhj hh' e e2 e3)]; exact hg
 ·intro p q hp hq bp bq h1 h2
  exact m.apart p q hp hq bp bq (fun h => h) (fun h => h)

theorem e_storeN {U n : Nat} {bb : Bool} {x y : Operand} {i : Int} {x0 x' : β} {h : Hd} {j off : Nat} {u : Value} {us : List Value} (g : Nat → Nat)
  (hS : Sl N a S) (ho : o.op = .store U x y) (hx : ev S x = some (.pointer (some (ea A off)))) (hoff : off = i.toNat * kz.sz + j)
  (hy : ev S y = some u) (ht : tsz P U = some (n, bb)) (hu : u.cells.toList = us) (hn : us.length = n) (h1 : ∀ v ∈ us, v.oneCell' = true) (m : OwN kz k col T E w g c A cap hs xs H) (hi : idx xs i = some x0) (hh : idx hs i = some h) (hj : Nat.ble (j + us.length) kz.sz = true)
  (hcol : col x' = col x0) (hR : ∀ cs, kz.R w g (· = c + 1) (h, x0) cs → kz.R w g (· = c + 1) (h, x') (splice cs j us)) :
  EffS P a o w fun w' g' => OwN kz k col T E w' g' c A cap hs (upd xs i x') H ∧ Fr (fun q => q = c) w g w' g' := by
 obtain ⟨w', g', e1, e2, F⟩ := e_storeD (P := P) g hS ho hx hoff hy ht hu hn h1 m.outer (fun q (e : q = c + 1) => by omega) (zip_idx hh hi) hj hR
 rw [zip_upd, upd_self hh] at e2
 refine ⟨w', g', e1, ⟨by rw [y1w]; exact m.hl, e2, fun q h' z hq hhq hzq => ?_, m.apart⟩, F⟩
 have key : ∃ z0, xs[q]? = some z0 ∧ col z = col z0 := by
  obtain ⟨_, _, hi'⟩ := y3r hi
  unfold upd at hzq
  by_cases e : i.toNat = q
  ·subst e
   rw [getElem?_set_self' hi'] at hzq
   injection hzq with hzq; subst hzq
   exact ⟨x0, hi', hcol⟩
  ·rw [getElem?_set_ne' e] at hzq
   exact ⟨z, hzq, rfl⟩
 obtain ⟨z0, k1, k2⟩ := key
 rw [k2]
 exact OwD.fr (m.inner q h' z0 hq hhq k1) F (by omega) (fun q e => by omega)

theorem e_storeNH (hk : Pl k) {U n : Nat} {x y : Operand} {off j : Nat} {i : Int} {x0 x' : β} {ys : List α} {h : Hd} {A' : Option Addr} {cap' : Nat} (g : Nat → Nat) (hS : Sl N a S) (ho : o.op = .store U x y) (hx : ev S x = some (.pointer (some (ea A off)))) (hoff : off = i.toNat * kz.sz + j)
  (hy : ev S y = some (.slice A' ys.length cap')) (ht : tsz P U = some (n, false)) (hn : 1 = n) (m : OwN kz k col T E w g c A cap hs xs (fun j => j = i.toNat)) (hi : idx xs i = some x0) (hh : idx hs i = some h) (hj : Nat.ble (j + 1) kz.sz = true) (hnew : OwS k E w g d A' cap' ys) (hd : d ≠ c ∧ d ≠ c + 1 ∧ d ≠ c + 2)
  (hcol : col x' = ys) (hR : ∀ cs, kz.R w g (· = c + 1) (h, x0) cs → kz.R w g (· = c + 1) ((A', cap'), x') (splice cs j [.slice A' ys.length cap'])) :
  EffS P a o w fun w' g' => OwN kz k col T E w' g' c A cap (upd hs i (A', cap')) (upd xs i x') (fun _ => False) ∧ Fr (fun q => q = c ∨ q = d) w g w' g' := by
 obtain ⟨_, _, hi'⟩ := y3r hi
 obtain ⟨_, _, hh'⟩ := y3r hh
 obtain ⟨w', g1, e1, e2, F⟩ := e_storeD (P := P) (us := [.slice A' ys.length cap']) g hS ho hx hoff hy ht (by rfl) hn (by simp [Value.oneCell']) m.outer (fun q (e : q = c + 1) => by omega) (zip_idx hh hi) hj hR
 rw [zip_upd] at e2
 have FR : Fr (fun q => q = d) w' g1 w' (y4y g1 d (c + 2)) := Fr.y4y _ g1 d (c + 2) rfl
 have hre : ∀ b, g1 b ≠ d → y4y g1 d (c + 2) b = g1 b := fun b hb => by rw [recol_eq, if_neg hb]
 have hout : OwS kz T w' (y4y g1 d (c + 2)) c A cap ((upd hs i (A', cap')).zip (upd xs i x')) := OwD.fr e2 FR (by omega) (fun q e => by omega)
 have hkeep : ∀ (q : Nat) (h' : Hd) (z : β), q ≠ i.toNat → hs[q]? = some h' → xs[q]? = some z → OwS k E w' (y4y g1 d (c + 2)) (c + 2) h'.1 h'.2 (col z) := by
  intro q h' z hq hhq hzq
  have h1 := OwD.fr (m.inner q h' z hq hhq hzq) F (by omega) (fun q e => by omega)
  refine ⟨h1.1, h1.2.1, ?_⟩
  rcases h1.2.2 with hn | ⟨b, arr, e, hb, hg, hs', hr⟩
  ·exact .inl hn
  ·exact .inr ⟨b, arr, e, hb, by rw [hre b (by omega)]; exact hg, hs', hr.1, fun j y hy => hk _ _ _ _ _ _ _ _ (hr.2 j y hy)⟩
 have hself : OwS k E w' (y4y g1 d (c + 2)) (c + 2) A' cap' ys := by
  refine ⟨hnew.1, hnew.2.1, ?_⟩
  rcases hnew.2.2 with hn | ⟨b, arr, e, hb, hg, hs', hr⟩
  ·exact .inl hn
  ·have hlt := (Array.getElem?_eq_some_iff.1 hb).1
   obtain ⟨f1, f2⟩ := F.block b hlt (by rw [hg]; omega)
   exact .inr ⟨b, arr, e, f1.trans hb, by rw [recol_eq, if_pos (f2.trans hg)], hs', hr.1, fun j y hy => hk _ _ _ _ _ _ _ _ (hr.2 j y hy)⟩
 refine ⟨w', y4y g1 d (c + 2), e1, ⟨by rw [y1w, y1w]; exact m.hl, hout, fun q h' z _ hhq hzq => ?_, ?_⟩, F.mono (fun _ h => .inl h) |>.trans FR (fun q h => .inr h)⟩
 ·unfold upd at hhq hzq
  by_cases e : i.toNat = q
  ·subst e
   rw [getElem?_set_self' hh'] at hhq
   rw [getElem?_set_self' hi'] at hzq
   injection hhq with hhq; injection hzq with hzq; subst hhq; subst hzq
   rw [hcol]; exact hself
  ·rw [getElem?_set_ne' e] at hhq hzq
   exact hkeep q h' z (Ne.symm e) hhq hzq
 ·have colr : ∀ q h' bq, q ≠ i.toNat → hs[q]? = some h' → h'.1 = some bq → g bq.block = c + 2 := by
   intro q h' bq hq hhq e
   have hlt : q < xs.length := by rw [← m.hl]; exact (List.getElem?_eq_some_iff.1 hhq).1
   have h1 := m.inner q h' _ hq hhq (List.getElem?_eq_getElem hlt)
   rcases h1.2.2 with ⟨e2, _⟩ | ⟨b, arr, e2, _, hg, _⟩
   ·rw [e2] at e; cases e
   ·rw [e2] at e; injection e with e; subst e; exact hg
  have colN : ∀ bq, A' = some bq → g bq.block = d := by
   intro bq e
   rcases hnew.2.2 with ⟨e2, _⟩ | ⟨b, arr, e2, _, hg, _⟩
   ·rw [e2] at e; cases e
   ·rw [e2] at e; injection e with e; subst e; exact hg
  intro p q hp hq bp bq _ _ hpq hhp hhq e1 e2
  unfold upd at hhp hhq
  by_cases ep : i.toNat = p
  ·subst ep
   rw [getElem?_set_self' hh'] at hhp
   rw [getElem?_set_ne' hpq] at hhq
   injection hhp with e3; subst e3
   have c1 := colN bp e1
   have c2 := colr q hq bq (Ne.symm hpq) hhq e2
   intro e; rw [e] at c1; omega
  ·rw [getElem?_set_ne' ep] at hhp
   by_cases eq : i.toNat = q
   ·subst eq
    rw [getElem?_set_self' hh'] at hhq
    injection hhq with e3; subst e3
    have c1 := colN bq e2
    have c2 := colr p hp bp (Ne.symm ep) hhp e1
    intro e; rw [e] at c2; omega
   ·rw [getElem?_set_ne' eq] at hhq
    exact m.apart p q hp hq bp bq (Ne.symm ep) (Ne.symm eq) hpq hhp hhq e1 e2

theorem e_storeNS (hk : Pl k) {α' : Type} {k' : Kd α'} {E' : TypeId} (hk' : Pl k') (hk0 : 0 < k'.sz) {U n : Nat} {x y : Operand} {off j : Nat} {i : Int} {x0 x' : β} {ys : List α'} {h : Hd} {A' : Option Addr} {cap' : Nat} (g : Nat → Nat) (hS : Sl N a S) (ho : o.op = .store U x y) (hx : ev S x = some (.pointer (some (ea A off)))) (hoff : off = i.toNat * kz.sz + j)
  (hy : ev S y = some (.slice A' ys.length cap')) (ht : tsz P U = some (n, false)) (hn : 1 = n) (m : OwN kz k col T E w g c A cap hs xs H) (hi : idx xs i = some x0) (hh : idx hs i = some h) (hj : Nat.ble (j + 1) kz.sz = true) (hnew : OwS k' E' w g d A' cap' ys) (hd : d < c ∨ c + 3 < d)
  (hcol : col x' = col x0) (hR : ∀ g cs, RdS k' w g (· = c + 1) A' cap' ys → kz.R w g (· = c + 1) (h, x0) cs → kz.R w g (· = c + 1) (h, x') (splice cs j [.slice A' ys.length cap'])) :
  EffS P a o w fun w' g' => OwN kz k col T E w' g' c A cap hs (upd xs i x') H ∧ Fr (fun q => q = c ∨ q = d) w g w' g' := by
 have FR : Fr (fun q => q = d) w g w (y4y g d (c + 1)) := Fr.y4y w g d (c + 1) rfl
 have m2 := m.fr FR (by omega) (by omega) (by omega) (by omega)
 have hr : RdS k' w (y4y g d (c + 1)) (· = c + 1) A' cap' ys := RdS.recolC (OwD.rdf (fun w g C C' x cs h => hk' _ _ _ _ _ _ _ _ h) hnew) hk0 d (c + 1) (fun q (e : q = d) => by rw [if_pos e])
 obtain ⟨w', g', e1, e2, F⟩ := e_storeN (P := P) (x' := x') (us := [.slice A' ys.length cap']) (y4y g d (c + 1)) hS ho hx hoff hy ht rfl hn (by simp [Value.oneCell']) m2 hi hh hj hcol (hR _ · hr)
 exact ⟨w', g', e1, e2, (FR.mono (fun _ h => .inr h)).trans F (fun q h => .inl h)⟩

theorem e_makeN (kz : Kd (Hd × β)) (k : Kd α) (col : β → List α) {T e sz by_ E : Nat} {x : Operand} {ik : IntKind} {n : Int} {z : List Value} {x0 : β} {xs : List β} (c : Nat) (g : Nat → Nat) (hS : Sl N a S) (ho : o.op = .makeSlice T x x)
  (hx : ev S x = some (.int ik n)) (ht : elemInfo P T = some (e, sz, by_)) (hz : zcells P e = some z) (hsz : kz.sz = sz) (hp : Nat.blt 0 sz = true) (hby : Nat.ble by_ 32768 = true) (hk : ∀ w g C, kz.R w g C ((none, 0), x0) z) (h0 : col x0 = []) (hxs : mk n x0 = some xs) :
  Eff P a o w fun v w' g' => (∃ A cap hs, v = .slice A xs.length cap ∧ OwN kz k col e E w' g' c A cap hs xs (fun _ => False)) ∧ Fr (fun _ => False) w g w' g' := by
 obtain ⟨q0, q1, rfl⟩ := mk_some hxs
 obtain ⟨v, w', g', e1, ⟨A, cap, rfl, e2⟩, F⟩ := e_makeD (P := P) (D := (· = c + 1)) (kd := kz) (x0 := (((none, 0) : Hd), x0)) (xs := List.replicate n.toNat (((none, 0) : Hd), x0)) c g hS ho hx ht hz hsz hp hby hk (by unfold mk; rw [if_pos ⟨q0, q1⟩])
 refine ⟨_, w', g', e1, ⟨A, cap, List.replicate n.toNat (none, 0), by simp, ⟨by simp, ?_, fun i h y _ hh hy => ?_, fun p q hp hq bp bq _ _ _ hhp _ e1 _ => ?_⟩⟩, F⟩
 ·have : (List.replicate n.toNat ((none, 0) : Hd)).zip (List.replicate n.toNat x0) = List.replicate n.toNat (((none, 0) : Hd), x0) := by simp [List.zip_replicate]
  rw [this]; exact e2
 ·have e1 := List.eq_of_mem_replicate (List.mem_of_getElem? hh)
  have e2 := List.eq_of_mem_replicate (List.mem_of_getElem? hy)
  subst e1; subst e2; rw [h0]; exact OwS.nil _ _ _ _ _
 ·have e2 := List.eq_of_mem_replicate (List.mem_of_getElem? hhp)
  subst e2; cases e1

theorem OwN.toS (hk : Pl k) {kd : Kd β} (hsz : kd.sz = kz.sz) (hkz : 0 < k.sz) (hc : ∀ (w : World) (g : Nat → Nat) (C : Nat → Prop) (h : Hd) (x : β) (cs : List Value), kz.R w g C (h, x) cs → RdS k w g C h.1 h.2 (col x) → kd.R w g C x cs) (m : OwN kz k col T E w g c A cap hs xs (fun _ => False)) :
  OwS kd T w (y4y g (c + 2) (c + 1)) c A cap xs := by
 have FR : Fr (fun q => q = c + 2) w g w (y4y g (c + 2) (c + 1)) := Fr.y4y w g (c + 2) (c + 1) rfl
 have h1 := OwD.fr m.outer FR (by omega) (fun q e => by omega)
 have hl := m.len
 refine ⟨by rw [← hl]; exact h1.1, h1.2.1, ?_⟩
 rcases h1.2.2 with hn | ⟨b, arr, e, hb, hg, hs', hr⟩
 ·exact .inl hn
 ·refine .inr ⟨b, arr, e, hb, hg, by rw [hsz]; exact hs', by rw [hsz, ← hl]; exact hr.1, fun i x hx => ?_⟩
  have hlt : i < hs.length := by rw [m.hl]; exact (List.getElem?_eq_some_iff.1 hx).1
  have hh : hs[i]? = some hs[i] := List.getElem?_eq_getElem hlt
  have hin := m.inner i _ x (fun h => h) hh hx
  have h2 := hr.2 i (hs[i], x) (zip_get hh hx)
  rw [hl] at h2
  rw [hsz]
  exact hc _ _ _ _ _ _ h2 (RdS.recolC (OwD.rdf (fun w g C C' x cs h => hk _ _ _ _ _ _ _ _ h) hin) hkz (c + 2) (c + 1) (fun q (e : q = c + 2) => by rw [if_pos e]))
end
end Go.Proofs.Ytcfcffbjdjacfaa.Sim

namespace Go.Proofs.Ytcfcffbjdjacfaa.Sim
open Go
set_option linter.unusedVariables false
set_option linter.unusedSimpArgs false

structure y0g where
 Consumer : Int
 Supplier : Int
deriving DecidableEq
def y0r : Kd y0g := flat 2 (fun x => [.int .i64 x.Consumer, .int .i64 x.Supplier]) (fun _ => rfl) (fun x v hv => by
 simp only [List.mem_cons, List.not_mem_nil, or_false] at hv
 rcases hv with rfl | rfl <;> rfl)

structure y1p where
 q : List Int
def y35 (w : World) (g : Nat → Nat) (c : Nat) (b : Nat) (A_q : Option Addr) (cap_q : Nat) (st : y1p) : Prop :=
 Bx w g c b 138 [.slice A_q st.q.length cap_q] ∧ OwS (kint .i64) 3 w g (c + 1) A_q cap_q st.q
def depgraph_queue_Opt (w : World) (g : Nat → Nat) (c : Nat) (p : Option Addr) : Option y1p → Prop
 | none => p = none
 | some st => ∃ (b : Nat) (A_q : Option Addr) (cap_q : Nat), p = some ⟨b, 0, none⟩ ∧ y35 w g c b A_q cap_q st
theorem depgraph_queue_Opt.fr {M : Nat → Prop} {w w' : World} {g g' : Nat → Nat} {c : Nat} {p : Option Addr} {st : Option y1p} (h : depgraph_queue_Opt w g c p st) (F : Fr M w g w' g') (hc : ∀ q, c ≤ q → q < c + 3 → ¬ M q) : depgraph_queue_Opt w' g' c p st := by
 cases st with
 | none => exact h
 | some st =>
  obtain ⟨b, A_q, cap_q, e, h0, h1⟩ := h
  exact ⟨b, A_q, cap_q, e, Bx.fr h0 F (hc _ (Nat.le_refl _) (by omega)), OwS.fr h1 F (fun c' hc' => hc c' (by omega) (by omega))⟩
structure y0e where
 Device : Int
 Resume : Bool
 At : Int
deriving DecidableEq
def y18 : Kd y0e := flat 3 (fun x => [.int .i64 x.Device, .bool x.Resume, .int .u64 x.At]) (fun _ => rfl) (fun x v hv => by
 simp only [List.mem_cons, List.not_mem_nil, or_false] at hv
 rcases hv with rfl | rfl | rfl <;> rfl)

structure y0k where
 delay : Int
 suppliers : List Int
 consumers : List Int
 active : Bool
 count : Int
 idle : Int
def y1h : Kd y0k where
 sz := 6
 R := fun w g C x cs => ∃ (A0 : Option Addr) (cap0 : Nat) (A1 : Option Addr) (cap1 : Nat), cs = [.int .u64 x.delay, .slice A0 x.suppliers.length cap0, .slice A1 x.consumers.length cap1, .bool x.active, .int .i64 x.count, .int .u64 x.idle] ∧ RdS (kint .i64) w g C A0 cap0 x.suppliers ∧ RdS (kint .i64) w g C A1 cap1 x.consumers
 len := by rintro w g C x cs ⟨A0, cap0, A1, cap1, rfl, h0, h1⟩; rfl
 one := by
  rintro w g C x cs ⟨A0, cap0, A1, cap1, rfl, h0, h1⟩ v hv
  simp only [List.mem_cons, List.not_mem_nil, or_false] at hv
  rcases hv with rfl | rfl | rfl | rfl | rfl | rfl <;> rfl
 fr := by rintro M w g w' g' C x cs F hC ⟨A0, cap0, A1, cap1, rfl, h0, h1⟩; exact ⟨A0, cap0, A1, cap1, rfl, RdS.fr h0 F (by decide) hC, RdS.fr h1 F (by decide) hC⟩
 re := by rintro w g g' C C' x cs h ⟨A0, cap0, A1, cap1, rfl, h0, h1⟩; exact ⟨A0, cap0, A1, cap1, rfl, RdX.re h0 (by decide) h h, RdX.re h1 (by decide) h h⟩

def y44 : Kd (Hd × y0k) where
 sz := 6
 R := fun w g C z cs => ∃ (A0 : Option Addr) (cap0 : Nat), cs = [.int .u64 z.2.delay, .slice A0 z.2.suppliers.length cap0, .slice z.1.1 z.2.consumers.length z.1.2, .bool z.2.active, .int .i64 z.2.count, .int .u64 z.2.idle] ∧ RdS (kint .i64) w g C A0 cap0 z.2.suppliers
 len := by rintro w g C x cs ⟨A0, cap0, rfl, h0⟩; rfl
 one := by
  rintro w g C x cs ⟨A0, cap0, rfl, h0⟩ v hv
  simp only [List.mem_cons, List.not_mem_nil, or_false] at hv
  rcases hv with rfl | rfl | rfl | rfl | rfl | rfl <;> rfl
 fr := by rintro M w g w' g' C x cs F hC ⟨A0, cap0, rfl, h0⟩; exact ⟨A0, cap0, rfl, RdS.fr h0 F (by decide) hC⟩
 re := by rintro w g g' C C' x cs h ⟨A0, cap0, rfl, h0⟩; exact ⟨A0, cap0, rfl, RdX.re h0 (by decide) h h⟩
theorem kz_runtimepm_device_to (w : World) (g : Nat → Nat) (C : Nat → Prop) (h : Hd) (x : y0k) (cs : List Value) (hz : y44.R w g C (h, x) cs) (hr : RdS (kint .i64) w g C h.1 h.2 x.consumers) : y1h.R w g C x cs := by
 obtain ⟨A0, cap0, rfl, h0⟩ := hz
 exact ⟨A0, cap0, h.1, h.2, rfl, h0, hr⟩

structure y01 where
 devices : List y0k
 links : List y0g
 order : List Int
 now : Int
def y1v (w : World) (g : Nat → Nat) (c : Nat) (b : Nat) (A_devices : Option Addr) (cap_devices : Nat) (A_links : Option Addr) (cap_links : Nat) (A_order : Option Addr) (cap_order : Nat) (st : y01) : Prop :=
 Bx w g c b 85 [.slice A_devices st.devices.length cap_devices, .slice A_links st.links.length cap_links, .slice A_order st.order.length cap_order, .int .u64 st.now] ∧ OwS y1h 88 w g (c + 1) A_devices cap_devices st.devices ∧ OwS y0r 67 w g (c + 3) A_links cap_links st.links ∧ OwS (kint .i64) 3 w g (c + 5) A_order cap_order st.order
def y3c (w : World) (g : Nat → Nat) (c : Nat) (p : Option Addr) : Option y01 → Prop
 | none => p = none
 | some st => ∃ (b : Nat) (A_devices : Option Addr) (cap_devices : Nat) (A_links : Option Addr) (cap_links : Nat) (A_order : Option Addr) (cap_order : Nat), p = some ⟨b, 0, none⟩ ∧ y1v w g c b A_devices cap_devices A_links cap_links A_order cap_order st
theorem y3c.fr {M : Nat → Prop} {w w' : World} {g g' : Nat → Nat} {c : Nat} {p : Option Addr} {st : Option y01} (h : y3c w g c p st) (F : Fr M w g w' g') (hc : ∀ q, c ≤ q → q < c + 7 → ¬ M q) : y3c w' g' c p st := by
 cases st with
 | none => exact h
 | some st =>
  obtain ⟨b, A_devices, cap_devices, A_links, cap_links, A_order, cap_order, e, h0, h1, h2, h3⟩ := h
  exact ⟨b, A_devices, cap_devices, A_links, cap_links, A_order, cap_order, e, Bx.fr h0 F (hc _ (Nat.le_refl _) (by omega)), OwS.fr h1 F (fun c' hc' => hc c' (by omega) (by omega)), OwS.fr h2 F (fun c' hc' => hc c' (by omega) (by omega)), OwS.fr h3 F (fun c' hc' => hc c' (by omega) (by omega))⟩
theorem y3c.isNone {w : World} {g : Nat → Nat} {c : Nat} {p : Option Addr} {st : Option y01} (h : y3c w g c p st) : p.isNone = st.isNone := by
 cases st with
 | none => have e : p = none := h; rw [e]; rfl
 | some st => obtain ⟨b, A_devices, cap_devices, A_links, cap_links, A_order, cap_order, e, _⟩ := h; rw [e]; rfl

structure y08 where
 Parent : Int
 Suppliers : List Int
 Delay : Int
def y0f : Kd y08 where
 sz := 3
 R := fun w g C x cs => ∃ (A0 : Option Addr) (cap0 : Nat), cs = [.int .i64 x.Parent, .slice A0 x.Suppliers.length cap0, .int .u64 x.Delay] ∧ RdS (kint .i64) w g C A0 cap0 x.Suppliers
 len := by rintro w g C x cs ⟨A0, cap0, rfl, h0⟩; rfl
 one := by
  rintro w g C x cs ⟨A0, cap0, rfl, h0⟩ v hv
  simp only [List.mem_cons, List.not_mem_nil, or_false] at hv
  rcases hv with rfl | rfl | rfl <;> rfl
 fr := by rintro M w g w' g' C x cs F hC ⟨A0, cap0, rfl, h0⟩; exact ⟨A0, cap0, rfl, RdS.fr h0 F (by decide) hC⟩
 re := by rintro w g g' C C' x cs h ⟨A0, cap0, rfl, h0⟩; exact ⟨A0, cap0, rfl, RdX.re h0 (by decide) h h⟩

structure y06 where
 D : List y08
 Links : List y0g
 On : List Bool
 Use : List Int
 Since : List Int
 Clock : Int
def y2q (w : World) (g : Nat → Nat) (c : Nat) (C_D : Nat → Prop) (b : Nat) (A_D : Option Addr) (cap_D : Nat) (A_Links : Option Addr) (cap_Links : Nat) (A_On : Option Addr) (cap_On : Nat) (A_Use : Option Addr) (cap_Use : Nat) (A_Since : Option Addr) (cap_Since : Nat) (st : y06) : Prop :=
 Bx w g c b 63 [.slice A_D st.D.length cap_D, .slice A_Links st.Links.length cap_Links, .slice A_On st.On.length cap_On, .slice A_Use st.Use.length cap_Use, .slice A_Since st.Since.length cap_Since, .int .u64 st.Clock] ∧ RdS y0f w g C_D A_D cap_D st.D ∧ OwS y0r 67 w g (c + 1) A_Links cap_Links st.Links ∧ OwS y4p 4 w g (c + 3) A_On cap_On st.On ∧ OwS (kint .i64) 3 w g (c + 5) A_Use cap_Use st.Use ∧ OwS (kint .u64) 28 w g (c + 7) A_Since cap_Since st.Since
def ref28_Manager_Opt (w : World) (g : Nat → Nat) (c : Nat) (C_D : Nat → Prop) (p : Option Addr) : Option y06 → Prop
 | none => p = none
 | some st => ∃ (b : Nat) (A_D : Option Addr) (cap_D : Nat) (A_Links : Option Addr) (cap_Links : Nat) (A_On : Option Addr) (cap_On : Nat) (A_Use : Option Addr) (cap_Use : Nat) (A_Since : Option Addr) (cap_Since : Nat), p = some ⟨b, 0, none⟩ ∧ y2q w g c C_D b A_D cap_D A_Links cap_Links A_On cap_On A_Use cap_Use A_Since cap_Since st
structure y3t where
 Kind : Int
 Device : Int
 Wait : Int
 Raw : Bool
deriving DecidableEq
def kd_law28_Call : Kd y3t := flat 4 (fun x => [.int .i64 x.Kind, .int .i64 x.Device, .int .u64 x.Wait, .bool x.Raw]) (fun _ => rfl) (fun x v hv => by
 simp only [List.mem_cons, List.not_mem_nil, or_false] at hv
 rcases hv with rfl | rfl | rfl | rfl <;> rfl)


end Go.Proofs.Ytcfcffbjdjacfaa.Sim

namespace Go.Proofs.Ytcfcffbjdjacfaa.Sim
open Go
set_option linter.unusedVariables false
set_option linter.unusedSimpArgs false

theorem eqP_api_Link (X Y : y0g) : ((X.Consumer == Y.Consumer) && (X.Supplier == Y.Supplier)) = decide (X = Y) := by
 cases X; cases Y
 apply Bool.eq_iff_iff.2
 simp
theorem eqF_api_Link (X Y : y0g) (w : World) : (Op.equalIn 10000 67 (.agg #[.int .i64 X.Consumer, .int .i64 X.Supplier]) (.agg #[.int .i64 Y.Consumer, .int .i64 Y.Supplier])).run Try.prog w = .ok (decide (X = Y)) w := by
 rw [← eqP_api_Link]
 exact eqA_of Try.underlying67 (by kernel_rfl) (eqf_cons rfl (by kernel_rfl) (by kernel_rfl) (run_equalIn_int _ 9998 _ .i64 .i64 _ _ (by kernel_rfl)) (eqf_last rfl (by kernel_rfl) (by kernel_rfl) (run_equalIn_int _ 9998 _ .i64 .i64 _ _ (by kernel_rfl))))
def enc_api_Link (x : y0g) : Value := .agg #[.int .i64 x.Consumer, .int .i64 x.Supplier]
theorem key_api_Link : KeyOk Try.prog 67 enc_api_Link where
 st := ⟨_, Try.underlying67⟩
 eq := fun x y w => eqF_api_Link x y w
 ck := fun b x w => by kernel_rfl

theorem eqP_api_PowerOp (X Y : y0e) : ((X.Device == Y.Device) && ((X.Resume == Y.Resume) && (X.At == Y.At))) = decide (X = Y) := by
 cases X; cases Y
 apply Bool.eq_iff_iff.2
 simp
theorem eqF_api_PowerOp (X Y : y0e) (w : World) : (Op.equalIn 10000 47 (.agg #[.int .i64 X.Device, .bool X.Resume, .int .u64 X.At]) (.agg #[.int .i64 Y.Device, .bool Y.Resume, .int .u64 Y.At])).run Try.prog w = .ok (decide (X = Y)) w := by
 rw [← eqP_api_PowerOp]
 exact eqA_of Try.underlying47 (by kernel_rfl) (eqf_cons rfl (by kernel_rfl) (by kernel_rfl) (run_equalIn_int _ 9998 _ .i64 .i64 _ _ (by kernel_rfl)) (eqf_cons rfl (by kernel_rfl) (by kernel_rfl) (run_equalIn_bool' _ 9998 _ _ _ (by kernel_rfl)) (eqf_last rfl (by kernel_rfl) (by kernel_rfl) (run_equalIn_int _ 9998 _ .u64 .u64 _ _ (by kernel_rfl)))))
end Go.Proofs.Ytcfcffbjdjacfaa.Sim

namespace Go.Proofs.Ytcfcffbjdjacfaa.Sim
open Go
set_option linter.unusedVariables false
set_option linter.unusedSimpArgs false

/-! ### y1n: function 23 -/
def y1n.l0 (p0 : List y0e) (p1 : List y0e) : Nat → Int → Option (Fl (Bool) (Unit))
 | 0, _ => none
 | k15 + 1, m0_0 => if decide (m0_0 < (p0.length : Int)) = true then ((idx p0 m0_0).bind fun x24 => (idx p1 m0_0).bind fun x30 => if (!decide (x24 = x30)) = true then (some (.out false)) else (y1n.l0 p0 p1 k15 (wi (m0_0 + 1)))) else (some (.nxt ()))
def y1n.f (p0 : List y0e) (p1 : List y0e) : Option (Bool) := if ((p0.length : Int) != (p1.length : Int)) = true then (some false) else ((y1n.l0 p0 p1 FUEL 0 : Option (Fl (Bool) (Unit))).bind fun o11 => o11.go fun _ => some true)
set_option maxRecDepth 100000 in
set_option maxHeartbeats 4000000 in
theorem y1n.calls {p0 : List y0e} {A0 : Option Addr} {cap0 : Nat} {C0 : Nat → Prop} {p1 : List y0e} {A1 : Option Addr} {cap1 : Nat} {C1 : Nat → Prop} {w : World} {g : Nat → Nat} {out : Bool} (N : Nat) (hp0 : RdS y18 w g C0 A0 cap0 p0) (hC0 : ∀ c, C0 c → c < N) (hp1 : RdS y18 w g C1 A1 cap1 p1) (hC1 : ∀ c, C1 c → c < N) (H : y1n.f p0 p1 = some out) :
  Calls Try.prog 23 #[.slice A0 p0.length cap0, .slice A1 p1.length cap1] w (fun e w' => ∃ v, e = .returned v ∧ ∃ (g' : Nat → Nat), v = .bool out ∧ Fr (fun q => N ≤ q) w g w' g') := by
 unfold y1n.f at H
 refine y1k Try.func23 rfl Try.ntmps23 Z (fun a hS => ?_)
 replace hS : Sl 26 a [(0, .slice A0 p0.length cap0), (1, .slice A1 p1.length cap1)] := hS
 have hF : Fr (fun q => N ≤ q) w g w g := Fr.refl _ _ _
 refine y16 [(0, .slice A0 p0.length cap0), (1, .slice A1 p1.length cap1)] (fun R hR => y00 hS Z Z Z (y02 hS Z Z) fun a1 S1 => wpList_nil (hR _ (S1.re ⟨Z, Z, trivial⟩))) ?_
 clear hS a; intro a hS
 refine wp_seq ?_
 refine y16 [(0, .slice A0 p0.length cap0), (1, .slice A1 p1.length cap1), (10, .bool ((p0.length : Int) != (p1.length : Int)))] (fun R hR => y00 hS Z Z Z (y03 hS Z Z) fun a2 S2 => y00 S2 Z Z Z (y4x (e := 47) (sz := 3) (by_ := 24) S2 Z Z (by kernel_rfl)) fun a3 S3 => y00 S3 Z Z Z (y03 S3 Z Z) fun a4 S4 => y00 S4 Z Z Z (y4x (e := 47) (sz := 3) (by_ := 24) S4 Z Z (by kernel_rfl)) fun a5 S5 => y00 S5 Z Z Z (y2l S5 Z Z rfl b_neq) fun a6 S6 => wpList_nil (hR _ (S6.re ⟨Z, Z, Z, trivial⟩))) ?_
 clear hS a; intro a hS
 refine y2m hS Z (fun hb7 => ?_) (fun hb7 => ?_)
 ·replace H := y3f hb7 H
  refine y16 [(4, .bool false)] (fun R hR => y00 hS Z Z Z (y02 hS Z Z) fun a8 S8 => wpList_nil (hR _ (S8.re ⟨Z, trivial⟩))) ?_
  clear hS a; intro a hS
  refine wp_ret ?_
  have e := Option.some.inj H
  subst e
  repeat (with_reducible first | refine y1i ?_ | refine y0o ?_)
  exact y3v hS Try.results23 rfl ⟨_, rfl, g, rfl, hF⟩
 ·replace H := y3g hb7 H
  refine wp_skip ?_
  change Code.wp _ _ _ _ _
  obtain ⟨o11, H, Hl12⟩ := y0b H
  refine y4u (fun a w9 => ∃ (g9 : Nat → Nat), o11 = .nxt () ∧ Sl 26 a [] ∧ Fr (fun q => N ≤ q) w g w9 g9) ?_ ?_
  ·refine y16 [(0, .slice A0 p0.length cap0), (1, .slice A1 p1.length cap1), (5, i6 0)] (fun R hR => y00 hS Z Z Z (y02 hS Z Z) fun a13 S13 => wpList_nil (hR _ (S13.re ⟨Z, Z, Z, trivial⟩))) ?_
   clear hS a; intro a hS
   refine wp_block ?_
   refine wp_loop_ghost (fun kq => fun a w14 => ∃ (m0_0 : Int), ∃ (g14 : Nat → Nat), y1n.l0 p0 p1 kq m0_0 = some o11 ∧ Sl 26 a [(0, .slice A0 p0.length cap0), (1, .slice A1 p1.length cap1), (5, i6 m0_0)] ∧ RdS y18 w14 g14 C0 A0 cap0 p0 ∧ RdS y18 w14 g14 C1 A1 cap1 p1 ∧ Fr (fun q => N ≤ q) w g w14 g14) FUEL ?_ ?_
   ·exact ⟨0, g, H, hS.re ⟨Z, Z, Z, trivial⟩, hp0, hp1, hF⟩
   ·clear H
    clear hp0 hp1 hF
    clear hS
    rintro k15 a w14 ⟨m0_0, g14, hpre0, hS, hp0, hp1, hF⟩
    have H := hpre0
    clear hpre0
    cases k15 with
    | zero => exact absurd H (by simp [y1n.l0])
    | succ k15 =>
     rw [y1n.l0] at H
     refine wp_seq ?_
     refine y16 [(0, .slice A0 p0.length cap0), (1, .slice A1 p1.length cap1), (5, i6 m0_0), (14, .bool (decide (m0_0 < (p0.length : Int))))] (fun R hR => y00 hS Z Z Z (y03 hS Z Z) fun a16 S16 => y00 S16 Z Z Z (y03 S16 Z Z) fun a17 S17 => y00 S17 Z Z Z (y4x (e := 47) (sz := 3) (by_ := 24) S17 Z Z (by kernel_rfl)) fun a18 S18 => y00 S18 Z Z Z (y2l S18 Z Z rfl y4t) fun a19 S19 => wpList_nil (hR _ (S19.re ⟨Z, Z, Z, Z, trivial⟩))) ?_
     clear hS a; intro a hS
     refine y2m hS Z (fun hb20 => ?_) (fun hb20 => ?_)
     ·replace H := y3f hb20 H
      refine wp_skip ?_
      change Code.wp _ _ _ _ _
      refine wp_seq ?_
      refine wp_block ?_
      obtain ⟨x24, hx25, H⟩ := y0b H
      obtain ⟨x30, hx31, H⟩ := y0b H
      refine c_draw (fun K hK => y4m (fun q => False) g14 [] 9 (ba 0 9) (by kernel_rfl) Z Z (fun w21 hw21 => ?_))
      have F21 : Fr (fun _ => False) w14 g14 w21 g14 := by rw [hw21]; exact Fr.drew _ _ _
      replace hp0 := RdS.fr hp0 F21 (by decide) (fun _ _ h => h)
      replace hp1 := RdS.fr hp1 F21 (by decide) (fun _ _ h => h)
      replace hF := hF.trans F21 (fun _ h => h.elim)
      have hC : Fr (fun q => False) w21 g14 w21 g14 := Fr.refl _ _ _
      refine y1b hS 0 (ba 1 8) Z Z Z Z (by kernel_rfl) (fun _ _ _ h => h) (fun _ => (y03 hS Z Z)) fun a22 S22 => y1b S22 1 (ba 2 7) Z Z Z Z (by kernel_rfl) (fun _ _ _ h => h) (fun _ => (y03 S22 Z Z)) fun a23 S23 => y1b S23 2 (ba 3 6) Z Z Z Z (by kernel_rfl) (fun _ _ _ h => h) (fun _ => (y1j (e := 47) (sz := 3) (by_ := 24) S23 Z Z Z (by kernel_rfl) (RdS.some_ hp0 hx25) (y26 hx25) (y27 hx25))) fun a26 S26 => y3w S26 3 (ba 4 5) Z Z Z Z (by kernel_rfl) (fun _ _ _ h => h) ⟨_, hC⟩ (fun w' g' Fz => (r_loadN (n := 3) (cs := [i6 x24.Device, .bool x24.Resume, .int .u64 x24.At]) S26 Z Z (by kernel_rfl) Z (RdS.cells_off (RdS.fr hp0 Fz (by decide) (fun _ _ h => h)) hx25 0 3))) fun a27 S27 => y1b S27 4 (ba 5 4) Z Z Z Z (by kernel_rfl) (fun _ _ _ h => h) (fun _ => (y03 S27 Z Z)) fun a28 S28 => y1b S28 5 (ba 6 3) Z Z Z Z (by kernel_rfl) (fun _ _ _ h => h) (fun _ => (y03 S28 Z Z)) fun a29 S29 => y1b S29 6 (ba 7 2) Z Z Z Z (by kernel_rfl) (fun _ _ _ h => h) (fun _ => (y1j (e := 47) (sz := 3) (by_ := 24) S29 Z Z Z (by kernel_rfl) (RdS.some_ hp1 hx31) (y26 hx31) (y27 hx31))) fun a32 S32 => y3w S32 7 (ba 8 1) Z Z Z Z (by kernel_rfl) (fun _ _ _ h => h) ⟨_, hC⟩ (fun w' g' Fz => (r_loadN (n := 3) (cs := [i6 x30.Device, .bool x30.Resume, .int .u64 x30.At]) S32 Z Z (by kernel_rfl) Z (RdS.cells_off (RdS.fr hp1 Fz (by decide) (fun _ _ h => h)) hx31 0 3))) fun a33 S33 => y1b S33 8 (ba 9 0) Z Z Z Z (by kernel_rfl) (fun _ _ _ h => h) (fun _ => (r_stNe S33 Z Z Z (by kernel_rfl) (eqF_api_PowerOp x24 x30 _))) fun a34 S34 => y4v (by kernel_rfl) (hK _ _ ?_)
      replace hS : Sl 26 _ [(0, .slice A0 p0.length cap0), (1, .slice A1 p1.length cap1), (5, i6 m0_0), (25, .bool (!decide (x24 = x30)))] := S34.re ⟨Z, Z, Z, Z, trivial⟩
      clear hK K hC
      try clear S22 S23 S26 S27 S28 S29 S32 S33 S34
      generalize a34 = a at hS ⊢
      refine y2m hS Z (fun hb35 => ?_) (fun hb35 => ?_)
      ·replace H := y3f hb35 H
       refine y16 [(4, .bool false)] (fun R hR => y00 hS Z Z Z (y02 hS Z Z) fun a36 S36 => wpList_nil (hR _ (S36.re ⟨Z, trivial⟩))) ?_
       clear hS a; intro a hS
       refine wp_ret ?_
       have e := Option.some.inj H
       subst e
       replace H := Fl.go_out Hl12
       have e := Option.some.inj H
       subst e
       repeat (with_reducible first | refine y1i ?_ | refine y0o ?_)
       exact y3v hS Try.results23 rfl ⟨_, rfl, g14, rfl, hF⟩
      ·replace H := y3g hb35 H
       refine wp_skip ?_
       change Code.wp _ _ _ _ _
       refine y3e [(0, .slice A0 p0.length cap0), (1, .slice A1 p1.length cap1), (5, i6 (wi (m0_0 + 1)))] (fun R hR => y00 hS Z Z Z (y03 hS Z Z) fun a37 S37 => y00 S37 Z Z Z (y2l S37 Z Z rfl y4z) fun a38 S38 => y00 S38 Z Z Z (y02 S38 Z Z) fun a39 S39 => wpList_nil (hR _ (S39.re ⟨Z, Z, Z, trivial⟩))) ?_
       clear hS a; intro a hS
       refine ⟨k15, Nat.lt_succ_self _, ?_⟩
       exact ⟨wi (m0_0 + 1), g14, H, hS.re ⟨Z, Z, Z, trivial⟩, hp0, hp1, hF⟩
     ·replace H := y3g hb20 H
      refine wp_exit ?_
      have e := Option.some.inj H
      exact ⟨g14, e.symm, hS.re trivial, hF⟩
  ·clear H
   clear hp0 hp1 hF
   clear hS
   rintro a w9 ⟨g9, hpre0, hS, hF⟩
   subst hpre0
   have H := Fl.go_nxt Hl12
   clear Hl12
   refine y16 [(4, .bool true)] (fun R hR => y00 hS Z Z Z (y02 hS Z Z) fun a40 S40 => wpList_nil (hR _ (S40.re ⟨Z, trivial⟩))) ?_
   clear hS a; intro a hS
   refine wp_ret ?_
   have e := Option.some.inj H
   subst e
   repeat (with_reducible first | refine y1i ?_ | refine y0o ?_)
   exact y3v hS Try.results23 rfl ⟨_, rfl, g9, rfl, hF⟩


end Go.Proofs.Ytcfcffbjdjacfaa.Sim

namespace Go.Proofs.Ytcfcffbjdjacfaa.Sim
open Go
set_option linter.unusedVariables false
set_option linter.unusedSimpArgs false

/-! ### y39: function 79 -/
def y39.f (p0 : Int) (p2 : y01) : Option (Bool) := (idx p2.devices p0).bind fun x7 => some x7.active
set_option maxRecDepth 100000 in
set_option maxHeartbeats 4000000 in
theorem y39.calls {p0 : Int} {cb1 : Nat} {bb1 : Nat} {p2 : y01} {c2 : Nat}  {b_p2 : Nat} {A_devices_p2 : Option Addr} {cap_devices_p2 : Nat} {A_links_p2 : Option Addr} {cap_links_p2 : Nat} {A_order_p2 : Option Addr} {cap_order_p2 : Nat} {w : World} {g : Nat → Nat} {out : Bool} (N : Nat) (hp1 : Bx w g cb1 bb1 31 [.pointer (so b_p2)]) (hc1 : cb1 + 1 ≤ N) (hp2 : y1v w g c2 b_p2 A_devices_p2 cap_devices_p2 A_links_p2 cap_links_p2 A_order_p2 cap_order_p2 p2) (hc2 : c2 + 7 ≤ N) (H : y39.f p0 p2 = some out) :
  Calls Try.prog 79 #[i6 p0, .pointer (so bb1)] w (fun e w' => ∃ v, e = .returned v ∧ ∃ (g' : Nat → Nat), v = .bool out ∧ Fr (fun q => N ≤ q) w g w' g') := by
 unfold y39.f at H
 refine y1k Try.func79 rfl Try.ntmps79 Z (fun a hS => ?_)
 replace hS : Sl 12 a [(0, i6 p0), (1, .pointer (so bb1))] := hS
 have hF : Fr (fun q => N ≤ q) w g w g := Fr.refl _ _ _
 obtain ⟨hb2, hf2_devices, hf2_links, hf2_order⟩ := hp2
 refine y16 [(0, i6 p0), (1, .pointer (so bb1))] (fun R hR => y00 hS Z Z Z (y02 hS Z Z) fun a1 S1 => wpList_nil (hR _ (S1.re ⟨Z, Z, trivial⟩))) ?_
 clear hS a; intro a hS
 obtain ⟨x7, hx8, H⟩ := y0b H
 refine y0t (fun K hK => ?_)
 refine y00 hS Z Z Z (y0u (n := 1) hS Z Z (by kernel_rfl) (Bx.cell hp1 Z)) fun a2 S2 => y00 S2 Z Z Z (y4s S2 Z Z) fun a3 S3 => y00 S3 Z Z Z (y1e (off := 0) S3 Z Z (by kernel_rfl)) fun a4 S4 => y00 S4 Z Z Z (y0u (n := 1) S4 Z Z (by kernel_rfl) (Bx.cell hb2 Z)) fun a5 S5 => y00 S5 Z Z Z (y03 S5 Z Z) fun a6 S6 => ?_
 obtain ⟨_, ⟨A10, cap11, A14, cap15, rfl, h12, h16⟩, hel9⟩ := El.of (OwD.rdx hf2_devices) hx8 (by decide)
 replace hel9 : El w g (fun q => q = c2 + 1) A_devices_p2 (p0.toNat * 6) [.int .u64 x7.delay, .slice A10 x7.suppliers.length cap11, .slice A14 x7.consumers.length cap15, .bool x7.active, i6 x7.count, .int .u64 x7.idle] := hel9
 refine y00 S6 Z Z Z (y1j (e := 88) (sz := 6) (by_ := 80) S6 Z Z Z (by kernel_rfl) (RdS.some_ (OwS.rd hf2_devices) hx8) (y26 hx8) (y27 hx8)) fun a19 S19 => y00 S19 Z Z Z (y2w (off := 3) S19 Z Z (by kernel_rfl)) fun a20 S20 => y00 S20 Z Z Z (y0u (n := 1) S20 Z Z (by kernel_rfl) (El.cell (j := 3) hel9 Z)) fun a21 S21 => y00 S21 Z Z Z (y02 S21 Z Z) fun a22 S22 => wpList_nil (hK _ _ ?_)
 replace hS : Sl 12 _ [(3, .bool x7.active)] := S22.re ⟨Z, trivial⟩
 clear hK K
 try clear S2 S3 S4 S5 S6 S19 S20 S21 S22
 generalize a22 = a at hS ⊢
 refine wp_ret ?_
 have e := Option.some.inj H
 subst e
 repeat (with_reducible first | refine y1i ?_ | refine y0o ?_)
 exact y3v hS Try.results79 rfl ⟨_, rfl, g, rfl, hF⟩


end Go.Proofs.Ytcfcffbjdjacfaa.Sim

namespace Go.Proofs.Ytcfcffbjdjacfaa.Sim
open Go
set_option linter.unusedVariables false
set_option linter.unusedSimpArgs false

/-! ### y1a: function 96 -/
def y1a.l0 (p0 : List Int) (p3 : y01) : Nat → Int → Option (Fl (Int) (Unit))
 | 0, _ => none
 | k10 + 1, m0_0 => if decide (m0_0 < (p0.length : Int)) = true then ((idx p0 m0_0).bind fun x18 => (y39.f x18 p3).bind fun r22 => if r22 = true then (some (.out m0_0)) else (y1a.l0 p0 p3 k10 (wi (m0_0 + 1)))) else (some (.nxt ()))
def y1a.f (p0 : List Int) (p3 : y01) : Option (Int) := (y1a.l0 p0 p3 FUEL 0 : Option (Fl (Int) (Unit))).bind fun o4 => o4.go fun _ => some (-1)
set_option maxRecDepth 100000 in
set_option maxHeartbeats 4000000 in
theorem y1a.calls {p0 : List Int} {A0 : Option Addr} {cap0 : Nat} {C0 : Nat → Prop} {cb2 : Nat} {bb2 : Nat} {p3 : y01} {c3 : Nat}  {b_p3 : Nat} {y4h : Option Addr} {y45 : Nat} {A_links_p3 : Option Addr} {y4i : Nat} {A_order_p3 : Option Addr} {y4j : Nat} {w : World} {g : Nat → Nat} {out : Int} (N : Nat) (hp0 : RdS (kint .i64) w g C0 A0 cap0 p0) (hC0 : ∀ c, C0 c → c < N) (hp2 : Bx w g cb2 bb2 31 [.pointer (so b_p3)]) (hc2 : cb2 + 1 ≤ N) (hp3 : y1v w g c3 b_p3 y4h y45 A_links_p3 y4i A_order_p3 y4j p3) (hc3 : c3 + 7 ≤ N) (H : y1a.f p0 p3 = some out) :
  Calls Try.prog 96 #[.slice A0 p0.length cap0, .func (.func 79) #[] #[.pointer (so bb2)]] w (fun e w' => ∃ v, e = .returned v ∧ ∃ (g' : Nat → Nat), v = i6 out ∧ Fr (fun q => N ≤ q) w g w' g') := by
 unfold y1a.f at H
 refine y1k Try.func96 rfl Try.ntmps96 Z (fun a hS => ?_)
 replace hS : Sl 19 a [(0, .slice A0 p0.length cap0), (1, .func (.func 79) #[] #[.pointer (so bb2)])] := hS
 have hF : Fr (fun q => N ≤ q) w g w g := Fr.refl _ _ _
 obtain ⟨hb3, y4c, hf3_links, hf3_order⟩ := hp3
 refine y16 [(0, .slice A0 p0.length cap0), (1, .func (.func 79) #[] #[.pointer (so bb2)])] (fun R hR => y00 hS Z Z Z (y02 hS Z Z) fun a1 S1 => wpList_nil (hR _ (S1.re ⟨Z, Z, trivial⟩))) ?_
 clear hS a; intro a hS
 obtain ⟨o4, H, Hl5⟩ := y0b H
 refine y4u (fun a w2 => ∃ (g2 : Nat → Nat), o4 = .nxt () ∧ Sl 19 a [] ∧ Bx w2 g2 (c3) b_p3 85 [.slice y4h p3.devices.length y45, .slice A_links_p3 p3.links.length y4i, .slice A_order_p3 p3.order.length y4j, .int .u64 p3.now] ∧ OwS y1h 88 w2 g2 (c3 + 1) y4h y45 p3.devices ∧ OwS y0r 67 w2 g2 (c3 + 3) A_links_p3 y4i p3.links ∧ OwS (kint .i64) 3 w2 g2 (c3 + 5) A_order_p3 y4j p3.order ∧ Fr (fun q => N ≤ q) w g w2 g2) ?_ ?_
 ·refine y16 [(0, .slice A0 p0.length cap0), (1, .func (.func 79) #[] #[.pointer (so bb2)]), (7, i6 (p0.length : Int)), (8, i6 0)] (fun R hR => y00 hS Z Z Z (y03 hS Z Z) fun a6 S6 => y00 S6 Z Z Z (y4x (e := 3) (sz := 1) (by_ := 8) S6 Z Z (by kernel_rfl)) fun a7 S7 => y00 S7 Z Z Z (y03 S7 Z Z) fun a8 S8 => wpList_nil (hR _ (S8.re ⟨Z, Z, Z, Z, trivial⟩))) ?_
  clear hS a; intro a hS
  refine wp_block ?_
  refine wp_loop_ghost (fun kq => fun a w9 => ∃ (m0_0 : Int), ∃ (g9 : Nat → Nat), y1a.l0 p0 p3 kq m0_0 = some o4 ∧ Sl 19 a [(0, .slice A0 p0.length cap0), (1, .func (.func 79) #[] #[.pointer (so bb2)]), (7, i6 (p0.length : Int)), (8, i6 m0_0)] ∧ RdS (kint .i64) w9 g9 C0 A0 cap0 p0 ∧ Bx w9 g9 (cb2) bb2 31 [.pointer (so b_p3)] ∧ Bx w9 g9 (c3) b_p3 85 [.slice y4h p3.devices.length y45, .slice A_links_p3 p3.links.length y4i, .slice A_order_p3 p3.order.length y4j, .int .u64 p3.now] ∧ OwS y1h 88 w9 g9 (c3 + 1) y4h y45 p3.devices ∧ OwS y0r 67 w9 g9 (c3 + 3) A_links_p3 y4i p3.links ∧ OwS (kint .i64) 3 w9 g9 (c3 + 5) A_order_p3 y4j p3.order ∧ Fr (fun q => N ≤ q) w g w9 g9) FUEL ?_ ?_
  ·exact ⟨0, g, H, hS.re ⟨Z, Z, Z, Z, trivial⟩, hp0, hp2, hb3, y4c, hf3_links, hf3_order, hF⟩
  ·clear H
   clear hp0 hp2 y4c hf3_links hf3_order hb3 hF
   clear hS
   rintro k10 a w9 ⟨m0_0, g9, hpre0, hS, hp0, hp2, hb3, y4c, hf3_links, hf3_order, hF⟩
   have H := hpre0
   clear hpre0
   cases k10 with
   | zero => exact absurd H (by simp [y1a.l0])
   | succ k10 =>
    rw [y1a.l0] at H
    refine y16 [(0, .slice A0 p0.length cap0), (1, .func (.func 79) #[] #[.pointer (so bb2)]), (7, i6 (p0.length : Int)), (8, i6 m0_0), (9, .bool (decide (m0_0 < (p0.length : Int))))] (fun R hR => y00 hS Z Z Z (y2l hS Z Z rfl y4t) fun a11 S11 => wpList_nil (hR _ (S11.re ⟨Z, Z, Z, Z, Z, trivial⟩))) ?_
    clear hS a; intro a hS
    refine c_if hS Z (fun hb12 => ?_) (fun hb12 => ?_)
    ·replace H := y3f hb12 H
     refine wp_skip ?_
     change Code.wp _ _ _ _ _
     refine wp_seq ?_
     refine wp_block ?_
     refine y16 [(0, .slice A0 p0.length cap0), (1, .func (.func 79) #[] #[.pointer (so bb2)]), (5, i6 m0_0), (7, i6 (p0.length : Int)), (8, i6 m0_0)] (fun R hR => y00 hS Z Z Z (y03 hS Z Z) fun a13 S13 => y00 S13 Z Z Z (y02 S13 Z Z) fun a14 S14 => wpList_nil (hR _ (S14.re ⟨Z, Z, Z, Z, Z, trivial⟩))) ?_
     clear hS a; intro a hS
     obtain ⟨x18, hx19, H⟩ := y0b H
     obtain ⟨r22, hr23, H⟩ := y0b H
     refine y0t (fun K hK => ?_)
     refine y00 hS Z Z Z (y03 hS Z Z) fun a15 S15 => y00 S15 Z Z Z (y03 S15 Z Z) fun a16 S16 => y00 S16 Z Z Z (y03 S16 Z Z) fun a17 S17 => y00 S17 Z Z Z (y1j (e := 3) (sz := 1) (by_ := 8) S17 Z Z Z (by kernel_rfl) (RdS.some_ hp0 hx19) (y26 hx19) (y27 hx19)) fun a20 S20 => y00 S20 Z Z Z (y0u (n := 1) S20 Z Z (by kernel_rfl) (RdS.cell (i := m0_0) (sz := 1) (j := 0) hp0 hx19 Z)) fun a21 S21 => ?_
     refine y1y S21 Z Z Z (r_callv S21 Z Z Z Z (by kernel_rfl)) (y39.calls (cb1 := cb2) (bb1 := bb2) (c2 := c3) (b_p2 := b_p3) (A_devices_p2 := y4h) (cap_devices_p2 := y45) (A_links_p2 := A_links_p3) (cap_links_p2 := y4i) (A_order_p2 := A_order_p3) (cap_order_p2 := y4j) (p0 := x18) (p2 := p3) (g := g9) (N + 0)  hp2 (by omega) ⟨hb3, y4c, hf3_links, hf3_order⟩ (by omega) hr23) ?_
     rintro _ a24 w25 ⟨g25, rfl, F25⟩ S24
     replace hp0 := RdS.fr hp0 F25 (by decide) (fun q (hq : C0 q) (hm : N + 0 ≤ q) => by have := hC0 q hq; omega)
     replace hp2 := hp2.fr F25 (fun (hm : N + 0 ≤ cb2) => by omega)
     replace hb3 := hb3.fr F25 (fun (hm : N + 0 ≤ c3) => by omega)
     replace y4c := OwS.fr y4c F25 (fun c' hc (hm : N + 0 ≤ c') => by omega)
     replace hf3_links := OwS.fr hf3_links F25 (fun c' hc (hm : N + 0 ≤ c') => by omega)
     replace hf3_order := OwS.fr hf3_order F25 (fun c' hc (hm : N + 0 ≤ c') => by omega)
     replace hF := hF.trans F25 (fun c' (hm : N + 0 ≤ c') => by (try dsimp only); omega)
     refine wpList_nil (hK _ _ ?_)
     replace hS : Sl 19 _ [(0, .slice A0 p0.length cap0), (1, .func (.func 79) #[] #[.pointer (so bb2)]), (5, i6 m0_0), (7, i6 (p0.length : Int)), (8, i6 m0_0), (16, .bool r22)] := S24.re ⟨Z, Z, Z, Z, Z, Z, trivial⟩
     clear hK K
     try clear S15 S16 S17 S20 S21 S24
     generalize a24 = a at hS ⊢
     refine y2m hS Z (fun hb26 => ?_) (fun hb26 => ?_)
     ·replace H := y3f hb26 H
      refine y16 [(4, i6 m0_0)] (fun R hR => y00 hS Z Z Z (y03 hS Z Z) fun a27 S27 => y00 S27 Z Z Z (y02 S27 Z Z) fun a28 S28 => wpList_nil (hR _ (S28.re ⟨Z, trivial⟩))) ?_
      clear hS a; intro a hS
      refine wp_ret ?_
      have e := Option.some.inj H
      subst e
      replace H := Fl.go_out Hl5
      have e := Option.some.inj H
      subst e
      repeat (with_reducible first | refine y1i ?_ | refine y0o ?_)
      exact y3v hS Try.results96 rfl ⟨_, rfl, g25, rfl, hF⟩
     ·replace H := y3g hb26 H
      refine wp_skip ?_
      change Code.wp _ _ _ _ _
      refine y3e [(0, .slice A0 p0.length cap0), (1, .func (.func 79) #[] #[.pointer (so bb2)]), (7, i6 (p0.length : Int)), (8, i6 (wi (m0_0 + 1)))] (fun R hR => y00 hS Z Z Z (y2l hS Z Z rfl y4z) fun a29 S29 => y00 S29 Z Z Z (y03 S29 Z Z) fun a30 S30 => wpList_nil (hR _ (S30.re ⟨Z, Z, Z, Z, trivial⟩))) ?_
      clear hS a; intro a hS
      refine ⟨k10, Nat.lt_succ_self _, ?_⟩
      exact ⟨wi (m0_0 + 1), g25, H, hS.re ⟨Z, Z, Z, Z, trivial⟩, hp0, hp2, hb3, y4c, hf3_links, hf3_order, hF⟩
    ·replace H := y3g hb12 H
     refine wp_exit ?_
     have e := Option.some.inj H
     exact ⟨g9, e.symm, hS.re trivial, hb3, y4c, hf3_links, hf3_order, hF⟩
 ·clear H
  clear hp0 hp2 y4c hf3_links hf3_order hb3 hF
  clear hS
  rintro a w2 ⟨g2, hpre0, hS, hb3, y4c, hf3_links, hf3_order, hF⟩
  subst hpre0
  have H := Fl.go_nxt Hl5
  clear Hl5
  refine y16 [(4, i6 (-1))] (fun R hR => y00 hS Z Z Z (y02 hS Z Z) fun a31 S31 => wpList_nil (hR _ (S31.re ⟨Z, trivial⟩))) ?_
  clear hS a; intro a hS
  refine wp_ret ?_
  have e := Option.some.inj H
  subst e
  repeat (with_reducible first | refine y1i ?_ | refine y0o ?_)
  exact y3v hS Try.results96 rfl ⟨_, rfl, g2, rfl, hF⟩


end Go.Proofs.Ytcfcffbjdjacfaa.Sim

namespace Go.Proofs.Ytcfcffbjdjacfaa.Sim
open Go
set_option linter.unusedVariables false
set_option linter.unusedSimpArgs false

/-! ### y2i: function 78 -/
def y2i.f (p0 : List Int) (p3 : y01) : Option (Bool) := (y1a.f p0 p3).bind fun r4 => some (decide (0 ≤ r4))
set_option maxRecDepth 100000 in
set_option maxHeartbeats 4000000 in
theorem y2i.calls {p0 : List Int} {A0 : Option Addr} {cap0 : Nat} {C0 : Nat → Prop} {cb2 : Nat} {bb2 : Nat} {p3 : y01} {c3 : Nat}  {b_p3 : Nat} {y4h : Option Addr} {y45 : Nat} {A_links_p3 : Option Addr} {y4i : Nat} {A_order_p3 : Option Addr} {y4j : Nat} {w : World} {g : Nat → Nat} {out : Bool} (N : Nat) (hp0 : RdS (kint .i64) w g C0 A0 cap0 p0) (hC0 : ∀ c, C0 c → c < N) (hp2 : Bx w g cb2 bb2 31 [.pointer (so b_p3)]) (hc2 : cb2 + 1 ≤ N) (hp3 : y1v w g c3 b_p3 y4h y45 A_links_p3 y4i A_order_p3 y4j p3) (hc3 : c3 + 7 ≤ N) (H : y2i.f p0 p3 = some out) :
  Calls Try.prog 78 #[.slice A0 p0.length cap0, .func (.func 79) #[] #[.pointer (so bb2)]] w (fun e w' => ∃ v, e = .returned v ∧ ∃ (g' : Nat → Nat), v = .bool out ∧ Fr (fun q => N ≤ q) w g w' g') := by
 unfold y2i.f at H
 refine y1k Try.func78 rfl Try.ntmps78 Z (fun a hS => ?_)
 replace hS : Sl 9 a [(0, .slice A0 p0.length cap0), (1, .func (.func 79) #[] #[.pointer (so bb2)])] := hS
 have hF : Fr (fun q => N ≤ q) w g w g := Fr.refl _ _ _
 obtain ⟨hb3, y4c, hf3_links, hf3_order⟩ := hp3
 refine y16 [(0, .slice A0 p0.length cap0), (1, .func (.func 79) #[] #[.pointer (so bb2)])] (fun R hR => y00 hS Z Z Z (y02 hS Z Z) fun a1 S1 => wpList_nil (hR _ (S1.re ⟨Z, Z, trivial⟩))) ?_
 clear hS a; intro a hS
 obtain ⟨r4, hr5, H⟩ := y0b H
 refine y0t (fun K hK => ?_)
 refine y00 hS Z Z Z (y03 hS Z Z) fun a2 S2 => y00 S2 Z Z Z (y03 S2 Z Z) fun a3 S3 => ?_
 refine y1y S3 Z Z Z (y2z S3 Z Z (by kernel_rfl)) (y1a.calls (C0 := C0) (cb2 := cb2) (bb2 := bb2) (c3 := c3) (b_p3 := b_p3) (y4h := y4h) (y45 := y45) (A_links_p3 := A_links_p3) (y4i := y4i) (A_order_p3 := A_order_p3) (y4j := y4j) (p0 := p0) (p3 := p3) (g := g) (N + 0)  hp0 (fun q (hq : C0 q) => by have := hC0 q hq; omega) hp2 (by omega) ⟨hb3, y4c, hf3_links, hf3_order⟩ (by omega) hr5) ?_
 rintro _ a6 w7 ⟨g7, rfl, F7⟩ S6
 replace hp0 := RdS.fr hp0 F7 (by decide) (fun q (hq : C0 q) (hm : N + 0 ≤ q) => by have := hC0 q hq; omega)
 replace hp2 := hp2.fr F7 (fun (hm : N + 0 ≤ cb2) => by omega)
 replace hb3 := hb3.fr F7 (fun (hm : N + 0 ≤ c3) => by omega)
 replace y4c := OwS.fr y4c F7 (fun c' hc (hm : N + 0 ≤ c') => by omega)
 replace hf3_links := OwS.fr hf3_links F7 (fun c' hc (hm : N + 0 ≤ c') => by omega)
 replace hf3_order := OwS.fr hf3_order F7 (fun c' hc (hm : N + 0 ≤ c') => by omega)
 replace hF := hF.trans F7 (fun c' (hm : N + 0 ≤ c') => by (try dsimp only); omega)
 refine y00 S6 Z Z Z (y2l S6 Z Z rfl b_geq) fun a8 S8 => y00 S8 Z Z Z (y02 S8 Z Z) fun a9 S9 => wpList_nil (hK _ _ ?_)
 replace hS : Sl 9 _ [(4, .bool (decide (0 ≤ r4)))] := S9.re ⟨Z, trivial⟩
 clear hK K
 try clear S2 S3 S6 S8 S9
 generalize a9 = a at hS ⊢
 refine wp_ret ?_
 have e := Option.some.inj H
 subst e
 repeat (with_reducible first | refine y1i ?_ | refine y0o ?_)
 exact y3v hS Try.results78 rfl ⟨_, rfl, g7, rfl, hF⟩


end Go.Proofs.Ytcfcffbjdjacfaa.Sim

namespace Go.Proofs.Ytcfcffbjdjacfaa.Sim
open Go
set_option linter.unusedVariables false
set_option linter.unusedSimpArgs false

/-! ### y2h: function 55 -/
def y2h.f (p0 : y01) (p1 : Int) : Option (Bool) := (idx p0.devices p1).bind fun x12 => (if (x12.active && (x12.count == 0)) = true then (y2i.f x12.consumers p0).bind fun r54 => some (!r54) else some false).bind fun t59 => some t59
set_option maxRecDepth 100000 in
set_option maxHeartbeats 4000000 in
theorem y2h.calls {p0 : y01} {c0 : Nat}  {b_p0 : Nat} {y09 : Option Addr} {y07 : Nat} {y0v : Option Addr} {y0l : Nat} {y0q : Option Addr} {y0h : Nat} {p1 : Int} {w : World} {g : Nat → Nat} {out : Bool} (N : Nat) (hp0 : y1v w g c0 b_p0 y09 y07 y0v y0l y0q y0h p0) (hc0 : c0 + 7 ≤ N) (H : y2h.f p0 p1 = some out) :
  Calls Try.prog 55 #[.pointer (so b_p0), i6 p1] w (fun e w' => ∃ v, e = .returned v ∧ ∃ (g' : Nat → Nat), v = .bool out ∧ Fr (fun q => N ≤ q) w g w' g') := by
 unfold y2h.f at H
 refine y1k Try.func55 rfl Try.ntmps55 Z (fun a hS => ?_)
 replace hS : Sl 27 a [(0, .pointer (so b_p0)), (1, i6 p1)] := hS
 have hF : Fr (fun q => N ≤ q) w g w g := Fr.refl _ _ _
 obtain ⟨hb0, y04, y0j, y0i⟩ := hp0
 refine y0t (fun K hK => ?_)
 refine y41 hS Z Z Z (e_box (cs := [.pointer (so b_p0)]) (N + 0) g hS Z Z Z) ?_
 rintro _ a4 w5 g5 ⟨⟨b1, rfl, h2⟩, F5⟩ S4
 replace hb0 := hb0.fr F5 (fun h => h)
 replace y04 := OwS.fr y04 F5 (fun _ _ h => h)
 replace y0j := OwS.fr y0j F5 (fun _ _ h => h)
 replace y0i := OwS.fr y0i F5 (fun _ _ h => h)
 replace hF := hF.trans F5 (fun _ h => h.elim)
 refine y00 S4 Z Z Z (y02 S4 Z Z) fun a6 S6 => wpList_nil (hK _ _ ?_)
 replace hS : Sl 27 _ [(1, i6 p1), (2, .pointer (so b1))] := S6.re ⟨Z, Z, trivial⟩
 clear hK K
 try clear S4 S6
 generalize a6 = a at hS ⊢
 obtain ⟨x12, hx13, H⟩ := y0b H
 refine y0t (fun K hK => ?_)
 refine y00 hS Z Z Z (y0u (n := 1) hS Z Z (by kernel_rfl) (Bx.cell h2 Z)) fun a7 S7 => y00 S7 Z Z Z (y4s S7 Z Z) fun a8 S8 => y00 S8 Z Z Z (y1e (off := 0) S8 Z Z (by kernel_rfl)) fun a9 S9 => y00 S9 Z Z Z (y0u (n := 1) S9 Z Z (by kernel_rfl) (Bx.cell hb0 Z)) fun a10 S10 => y00 S10 Z Z Z (y03 S10 Z Z) fun a11 S11 => ?_
 obtain ⟨_, ⟨A15, cap16, A19, cap20, rfl, h17, h21⟩, hel14⟩ := El.of (OwD.rdx y04) hx13 (by decide)
 replace hel14 : El w5 g5 (fun q => q = c0 + 1) y09 (p1.toNat * 6) [.int .u64 x12.delay, .slice A15 x12.suppliers.length cap16, .slice A19 x12.consumers.length cap20, .bool x12.active, i6 x12.count, .int .u64 x12.idle] := hel14
 refine y00 S11 Z Z Z (y1j (e := 88) (sz := 6) (by_ := 80) S11 Z Z Z (by kernel_rfl) (RdS.some_ (OwS.rd y04) hx13) (y26 hx13) (y27 hx13)) fun a24 S24 => y00 S24 Z Z Z (r_loadN (n := 6) (cs := [.int .u64 x12.delay, .slice A15 x12.suppliers.length cap16, .slice A19 x12.consumers.length cap20, .bool x12.active, i6 x12.count, .int .u64 x12.idle]) S24 Z Z (by kernel_rfl) Z (El.cells_off hel14 0 6)) fun a25 S25 => ?_
 refine y41 S25 Z Z Z (e_alloc (cs := [.int .u64 0, .slice none 0 0, .slice none 0 0, .bool false, i6 0, .int .u64 0]) (N + 2) g5 S25 Z (by kernel_rfl)) ?_
 rintro _ a29 w30 g30 ⟨⟨b26, rfl, h27⟩, F30⟩ S29
 replace h17 := RdS.fr h17 F30 (by decide) (fun _ _ h => h)
 replace h21 := RdS.fr h21 F30 (by decide) (fun _ _ h => h)
 replace hel14 := hel14.fr F30 (fun _ _ h => h)
 replace h2 := h2.fr F30 (fun h => h)
 replace hb0 := hb0.fr F30 (fun h => h)
 replace y04 := OwS.fr y04 F30 (fun _ _ h => h)
 replace y0j := OwS.fr y0j F30 (fun _ _ h => h)
 replace y0i := OwS.fr y0i F30 (fun _ _ h => h)
 replace hF := hF.trans F30 (fun _ h => h.elim)
 refine y3s S29 Z Z (y4a (n := 6) (bb := true) (cs' := [.int .u64 x12.delay, .slice A15 x12.suppliers.length cap16, .slice A19 x12.consumers.length cap20, .bool x12.active, i6 x12.count, .int .u64 x12.idle]) g30 S29 Z Z Z (by kernel_rfl) Z Z Z h27 Z Z) ?_
 rintro a31 w32 g32 ⟨h27, F32⟩ S31
 replace h17 := RdS.fr h17 F32 (by decide) (fun q (hq : q = c0 + 1 + 1) (hm : q = N + 2) => by omega)
 replace h21 := RdS.fr h21 F32 (by decide) (fun q (hq : q = c0 + 1 + 1) (hm : q = N + 2) => by omega)
 replace hel14 := hel14.fr F32 (fun q (hq : q = c0 + 1) (hm : q = N + 2) => by omega)
 replace h2 := h2.fr F32 (fun (hm : N + 0 = N + 2) => by omega)
 replace hb0 := hb0.fr F32 (fun (hm : c0 = N + 2) => by omega)
 replace y04 := OwS.fr y04 F32 (fun c' hc (hm : c' = N + 2) => by omega)
 replace y0j := OwS.fr y0j F32 (fun c' hc (hm : c' = N + 2) => by omega)
 replace y0i := OwS.fr y0i F32 (fun c' hc (hm : c' = N + 2) => by omega)
 replace hF := hF.trans F32 (fun c' (hm : c' = N + 2) => by (try dsimp only); omega)
 refine wpList_nil (hK _ _ ?_)
 replace hS : Sl 27 _ [(2, .pointer (so b1)), (5, .pointer (so b26))] := S31.re ⟨Z, Z, trivial⟩
 clear hK K
 try clear S7 S8 S9 S10 S11 S24 S25 S29 S31
 generalize a31 = a at hS ⊢
 obtain ⟨t59, ht60, H⟩ := y0b H
 refine y0t (fun K hK => ?_)
 refine y00 hS Z Z Z (y1e (off := 3) hS Z Z (by kernel_rfl)) fun a33 S33 => y00 S33 Z Z Z (y0u (n := 1) S33 Z Z (by kernel_rfl) (Bx.cell h27 Z)) fun a34 S34 => y00 S34 Z Z Z (y03 S34 Z Z) fun a35 S35 => ?_
 refine y4b (N := 27) 4 [(2, .pointer (so b1)), (5, .pointer (so b26)), (19, .bool (x12.active && (x12.count == 0)))] ?_ (fun hk => ?_)
 rotate_left
 ·rcases Bool.eq_false_or_eq_true (x12.active) with hb36 | hb36
  ·refine y0p S35 (y0a S35 Z Z rfl hb36) Z Z (y1e (off := 4) S35 Z Z (by kernel_rfl)) fun a40 S40 => y0p S40 (y0a S40 Z Z rfl hb36) Z Z (y0u (n := 1) S40 Z Z (by kernel_rfl) (Bx.cell h27 Z)) fun a41 S41 => y0p S41 (y0a S41 Z Z rfl hb36) Z Z (y2l S41 Z Z rfl b_eql) fun a42 S42 => y00 S42 Z Z Z (y2s S42 Z Z rfl hb36) fun a43 S43 => hk _ (S43.re ⟨rfl, rfl, (by rw [hb36]; rfl), trivial⟩)
  ·refine y1c S35 (y05 S35 Z Z rfl hb36) Z Z fun a44 S44 => y1c S44 (y05 S44 Z Z rfl hb36) Z Z fun a45 S45 => y1c S45 (y05 S45 Z Z rfl hb36) Z Z fun a46 S46 => y00 S46 Z Z Z (y2t S46 Z Z rfl hb36) fun a47 S47 => hk _ (S47.re ⟨rfl, rfl, (by rw [hb36]; rfl), trivial⟩)
 intro a48 S48
 refine y00 S48 Z Z Z (y03 S48 Z Z) fun a49 S49 => ?_
 refine g_joinR 6 (fun a w61 => ∃ (g61 : Nat → Nat), Sl 27 a [(26, .bool t59)] ∧ Bx w61 g61 (c0) b_p0 85 [.slice y09 p0.devices.length y07, .slice y0v p0.links.length y0l, .slice y0q p0.order.length y0h, .int .u64 p0.now] ∧ OwS y1h 88 w61 g61 (c0 + 1) y09 y07 p0.devices ∧ OwS y0r 67 w61 g61 (c0 + 3) y0v y0l p0.links ∧ OwS (kint .i64) 3 w61 g61 (c0 + 5) y0q y0h p0.order ∧ Fr (fun q => N ≤ q) w g w61 g61) ?_ (fun hk => ?_)
 rotate_left
 ·rcases Bool.eq_false_or_eq_true ((x12.active && (x12.count == 0))) with hb50 | hb50
  ·have H := y3f hb50 ht60
   obtain ⟨r65, hr66, H⟩ := y0b H
   have e70 := Option.some.inj H
   refine y0p S49 (y0a S49 Z Z rfl hb50) Z Z (y1e (off := 2) S49 Z Z (by kernel_rfl)) fun a62 S62 => y0p S62 (y0a S62 Z Z rfl hb50) Z Z (y0u (n := 1) S62 Z Z (by kernel_rfl) (Bx.cell h27 Z)) fun a63 S63 => y0p S63 (y0a S63 Z Z rfl hb50) Z Z (r_mkfn S63 Z Z) fun a64 S64 => ?_
   refine st_enterW S64 (y0a S64 Z Z rfl hb50) Z Z (y2z S64 Z Z (by kernel_rfl)) (y2i.calls (C0 := (fun q => q = c0 + 1 + 1)) (cb2 := N + 0) (bb2 := b1) (c3 := c0) (b_p3 := b_p0) (y4h := y09) (y45 := y07) (A_links_p3 := y0v) (y4i := y0l) (A_order_p3 := y0q) (y4j := y0h) (p0 := x12.consumers) (p3 := p0) (g := g32) (N + 4)  h21 (fun q (hq : q = c0 + 1 + 1) => by omega) h2 (by omega) ⟨hb0, y04, y0j, y0i⟩ (by omega) hr66) ?_
   rintro _ a67 w68 ⟨g68, rfl, F68⟩ S67
   replace h17 := RdS.fr h17 F68 (by decide) (fun q (hq : q = c0 + 1 + 1) (hm : N + 4 ≤ q) => by omega)
   replace h21 := RdS.fr h21 F68 (by decide) (fun q (hq : q = c0 + 1 + 1) (hm : N + 4 ≤ q) => by omega)
   replace h27 := h27.fr F68 (fun (hm : N + 4 ≤ N + 2) => by omega)
   replace h2 := h2.fr F68 (fun (hm : N + 4 ≤ N + 0) => by omega)
   replace hb0 := hb0.fr F68 (fun (hm : N + 4 ≤ c0) => by omega)
   replace y04 := OwS.fr y04 F68 (fun c' hc (hm : N + 4 ≤ c') => by omega)
   replace y0j := OwS.fr y0j F68 (fun c' hc (hm : N + 4 ≤ c') => by omega)
   replace y0i := OwS.fr y0i F68 (fun c' hc (hm : N + 4 ≤ c') => by omega)
   replace hF := hF.trans F68 (fun c' (hm : N + 4 ≤ c') => by (try dsimp only); omega)
   refine y0p S67 (y0a S67 Z Z rfl hb50) Z Z (r_not S67 Z Z) fun a69 S69 => ?_
   refine y00 S69 Z Z Z (y2s S69 Z Z rfl hb50) fun a71 S71 => hk _ _ ?_
   exact ⟨g68, S71.re ⟨(by rw [← e70]; rfl), trivial⟩, hb0, y04, y0j, y0i, hF⟩
  ·have H := y3g hb50 ht60
   have e72 := Option.some.inj H
   refine y1c S49 (y05 S49 Z Z rfl hb50) Z Z fun a73 S73 => y1c S73 (y05 S73 Z Z rfl hb50) Z Z fun a74 S74 => y1c S74 (y05 S74 Z Z rfl hb50) Z Z fun a75 S75 => y1c S75 (y05 S75 Z Z rfl hb50) Z Z fun a76 S76 => y1c S76 (y05 S76 Z Z rfl hb50) Z Z fun a77 S77 => y00 S77 Z Z Z (y2t S77 Z Z rfl hb50) fun a78 S78 => hk _ _ ?_
   exact ⟨g32, S78.re ⟨(by rw [← e72]; rfl), trivial⟩, hb0, y04, y0j, y0i, hF⟩
 rintro a79 w61 ⟨g61, S79, hb0, y04, y0j, y0i, hF⟩
 refine y00 S79 Z Z Z (y02 S79 Z Z) fun a80 S80 => wpList_nil (hK _ _ ?_)
 replace hS : Sl 27 _ [(4, .bool t59)] := S80.re ⟨Z, trivial⟩
 clear hK K
 try clear S33 S34 S35 S48 S49 S79 S80
 generalize a80 = a at hS ⊢
 refine wp_ret ?_
 have e := Option.some.inj H
 subst e
 repeat (with_reducible first | refine y1i ?_ | refine y0o ?_)
 exact y3v hS Try.results55 rfl ⟨_, rfl, g61, rfl, hF⟩


end Go.Proofs.Ytcfcffbjdjacfaa.Sim

namespace Go.Proofs.Ytcfcffbjdjacfaa.Sim
open Go
set_option linter.unusedVariables false
set_option linter.unusedSimpArgs false

/-! ### y1q: function 49 -/
def y1q.l0 (p0 : y01) : Nat → Int → Int → Int → Option (Int × Int)
 | 0, _, _, _ => none
 | k16 + 1, m0_0, m0_1, m0_2 => if decide (m0_2 < (p0.devices.length : Int)) = true then (((idx p0.devices m0_2).bind fun x24 => (y2h.f p0 m0_2).bind fun r48 => if (r48 && ((decide (m0_0 < 0)) || (decide ((wu (x24.idle + x24.delay)) < m0_1)))) = true then (some (m0_2, wu (x24.idle + x24.delay))) else (some (m0_0, m0_1)) : Option (Int × Int)).bind fun v20 => y1q.l0 p0 k16 v20.1 v20.2 (wi (m0_2 + 1))) else (some (m0_0, m0_1))
def y1q.f (p0 : y01) : Option (Int × Int) := (y1q.l0 p0 FUEL (-1) 0 0 : Option (Int × Int)).bind fun v6 => some (v6.1, v6.2)
set_option maxRecDepth 100000 in
set_option maxHeartbeats 4000000 in
theorem y1q.calls {p0 : y01} {c0 : Nat}  {b_p0 : Nat} {y09 : Option Addr} {y07 : Nat} {y0v : Option Addr} {y0l : Nat} {y0q : Option Addr} {y0h : Nat} {w : World} {g : Nat → Nat} {out : Int × Int} (N : Nat) (hp0 : y1v w g c0 b_p0 y09 y07 y0v y0l y0q y0h p0) (hc0 : c0 + 7 ≤ N) (H : y1q.f p0 = some out) :
  Calls Try.prog 49 #[.pointer (so b_p0)] w (fun e w' => ∃ v, e = .returned v ∧ ∃ (g' : Nat → Nat), v = .tuple #[i6 out.1, .int .u64 out.2] ∧ Fr (fun q => N ≤ q) w g w' g') := by
 unfold y1q.f at H
 refine y1k Try.func49 rfl Try.ntmps49 Z (fun a hS => ?_)
 replace hS : Sl 43 a [(0, .pointer (so b_p0))] := hS
 have hF : Fr (fun q => N ≤ q) w g w g := Fr.refl _ _ _
 obtain ⟨hb0, y04, y0j, y0i⟩ := hp0
 refine y16 [(0, .pointer (so b_p0))] (fun R hR => y00 hS Z Z Z (y02 hS Z Z) fun a1 S1 => y00 S1 Z Z Z (y02 S1 Z Z) fun a2 S2 => wpList_nil (hR _ (S2.re ⟨Z, trivial⟩))) ?_
 clear hS a; intro a hS
 refine y16 [(0, .pointer (so b_p0)), (4, i6 (-1)), (5, .int .u64 0)] (fun R hR => y00 hS Z Z Z (y02 hS Z Z) fun a3 S3 => y00 S3 Z Z Z (y02 S3 Z Z) fun a4 S4 => wpList_nil (hR _ (S4.re ⟨Z, Z, Z, trivial⟩))) ?_
 clear hS a; intro a hS
 obtain ⟨v6, H, Hl8⟩ := y0b H
 refine y4u (fun a w5 => ∃ (g5 : Nat → Nat), Sl 43 a [(4, i6 v6.1), (5, .int .u64 v6.2)] ∧ Bx w5 g5 (c0) b_p0 85 [.slice y09 p0.devices.length y07, .slice y0v p0.links.length y0l, .slice y0q p0.order.length y0h, .int .u64 p0.now] ∧ OwS y1h 88 w5 g5 (c0 + 1) y09 y07 p0.devices ∧ OwS y0r 67 w5 g5 (c0 + 3) y0v y0l p0.links ∧ OwS (kint .i64) 3 w5 g5 (c0 + 5) y0q y0h p0.order ∧ Fr (fun q => N ≤ q) w g w5 g5) ?_ ?_
 ·refine y16 [(0, .pointer (so b_p0)), (4, i6 (-1)), (5, .int .u64 0), (11, .slice y09 p0.devices.length y07), (12, i6 (p0.devices.length : Int)), (13, i6 0)] (fun R hR => y00 hS Z Z Z (y03 hS Z Z) fun a9 S9 => y00 S9 Z Z Z (y4s S9 Z Z) fun a10 S10 => y00 S10 Z Z Z (y1e (off := 0) S10 Z Z (by kernel_rfl)) fun a11 S11 => y00 S11 Z Z Z (y0u (n := 1) S11 Z Z (by kernel_rfl) (Bx.cell hb0 Z)) fun a12 S12 => y00 S12 Z Z Z (y4x (e := 88) (sz := 6) (by_ := 80) S12 Z Z (by kernel_rfl)) fun a13 S13 => y00 S13 Z Z Z (y03 S13 Z Z) fun a14 S14 => wpList_nil (hR _ (S14.re ⟨Z, Z, Z, Z, Z, Z, trivial⟩))) ?_
  clear hS a; intro a hS
  refine wp_block ?_
  refine wp_loop_ghost (fun kq => fun a w15 => ∃ (m0_0 : Int), ∃ (m0_1 : Int), ∃ (m0_2 : Int), ∃ (g15 : Nat → Nat), y1q.l0 p0 kq m0_0 m0_1 m0_2 = some v6 ∧ Sl 43 a [(0, .pointer (so b_p0)), (4, i6 m0_0), (5, .int .u64 m0_1), (11, .slice y09 p0.devices.length y07), (12, i6 (p0.devices.length : Int)), (13, i6 m0_2)] ∧ Bx w15 g15 (c0) b_p0 85 [.slice y09 p0.devices.length y07, .slice y0v p0.links.length y0l, .slice y0q p0.order.length y0h, .int .u64 p0.now] ∧ OwS y1h 88 w15 g15 (c0 + 1) y09 y07 p0.devices ∧ OwS y0r 67 w15 g15 (c0 + 3) y0v y0l p0.links ∧ OwS (kint .i64) 3 w15 g15 (c0 + 5) y0q y0h p0.order ∧ Fr (fun q => N ≤ q) w g w15 g15) FUEL ?_ ?_
  ·exact ⟨(-1), 0, 0, g, H, hS.re ⟨Z, Z, Z, Z, Z, Z, trivial⟩, hb0, y04, y0j, y0i, hF⟩
  ·clear H
   clear y04 y0j y0i hb0 hF
   clear hS
   rintro k16 a w15 ⟨m0_0, m0_1, m0_2, g15, hpre0, hS, hb0, y04, y0j, y0i, hF⟩
   have H := hpre0
   clear hpre0
   cases k16 with
   | zero => exact absurd H (by simp [y1q.l0])
   | succ k16 =>
    rw [y1q.l0] at H
    refine y16 [(0, .pointer (so b_p0)), (4, i6 m0_0), (5, .int .u64 m0_1), (11, .slice y09 p0.devices.length y07), (12, i6 (p0.devices.length : Int)), (13, i6 m0_2), (14, .bool (decide (m0_2 < (p0.devices.length : Int))))] (fun R hR => y00 hS Z Z Z (y2l hS Z Z rfl y4t) fun a17 S17 => wpList_nil (hR _ (S17.re ⟨Z, Z, Z, Z, Z, Z, Z, trivial⟩))) ?_
    clear hS a; intro a hS
    refine c_if hS Z (fun hb18 => ?_) (fun hb18 => ?_)
    ·replace H := y3f hb18 H
     refine wp_skip ?_
     change Code.wp _ _ _ _ _
     obtain ⟨v20, H, Hl22⟩ := y0b H
     refine y4u (fun a w19 => ∃ (g19 : Nat → Nat), Sl 43 a [(0, .pointer (so b_p0)), (4, i6 v20.1), (5, .int .u64 v20.2), (11, .slice y09 p0.devices.length y07), (12, i6 (p0.devices.length : Int)), (13, i6 m0_2)] ∧ Bx w19 g19 (c0) b_p0 85 [.slice y09 p0.devices.length y07, .slice y0v p0.links.length y0l, .slice y0q p0.order.length y0h, .int .u64 p0.now] ∧ OwS y1h 88 w19 g19 (c0 + 1) y09 y07 p0.devices ∧ OwS y0r 67 w19 g19 (c0 + 3) y0v y0l p0.links ∧ OwS (kint .i64) 3 w19 g19 (c0 + 5) y0q y0h p0.order ∧ Fr (fun q => N ≤ q) w g w19 g19) ?_ ?_
     ·refine wp_block ?_
      obtain ⟨x24, hx25, H⟩ := y0b H
      refine y0t (fun K hK => ?_)
      refine y00 hS Z Z Z (y03 hS Z Z) fun a23 S23 => ?_
      obtain ⟨_, ⟨A27, cap28, A31, cap32, rfl, h29, h33⟩, hel26⟩ := El.of (OwD.rdx y04) hx25 (by decide)
      replace hel26 : El w15 g15 (fun q => q = c0 + 1) y09 (m0_2.toNat * 6) [.int .u64 x24.delay, .slice A27 x24.suppliers.length cap28, .slice A31 x24.consumers.length cap32, .bool x24.active, i6 x24.count, .int .u64 x24.idle] := hel26
      refine y00 S23 Z Z Z (y1j (e := 88) (sz := 6) (by_ := 80) S23 Z Z Z (by kernel_rfl) (RdS.some_ (OwS.rd y04) hx25) (y26 hx25) (y27 hx25)) fun a36 S36 => y00 S36 Z Z Z (r_loadN (n := 6) (cs := [.int .u64 x24.delay, .slice A27 x24.suppliers.length cap28, .slice A31 x24.consumers.length cap32, .bool x24.active, i6 x24.count, .int .u64 x24.idle]) S36 Z Z (by kernel_rfl) Z (El.cells_off hel26 0 6)) fun a37 S37 => ?_
      refine y41 S37 Z Z Z (e_alloc (cs := [.int .u64 0, .slice none 0 0, .slice none 0 0, .bool false, i6 0, .int .u64 0]) (N + 0) g15 S37 Z (by kernel_rfl)) ?_
      rintro _ a41 w42 g42 ⟨⟨b38, rfl, h39⟩, F42⟩ S41
      replace h29 := RdS.fr h29 F42 (by decide) (fun _ _ h => h)
      replace h33 := RdS.fr h33 F42 (by decide) (fun _ _ h => h)
      replace hel26 := hel26.fr F42 (fun _ _ h => h)
      replace hb0 := hb0.fr F42 (fun h => h)
      replace y04 := OwS.fr y04 F42 (fun _ _ h => h)
      replace y0j := OwS.fr y0j F42 (fun _ _ h => h)
      replace y0i := OwS.fr y0i F42 (fun _ _ h => h)
      replace hF := hF.trans F42 (fun _ h => h.elim)
      refine y00 S41 Z Z Z (y02 S41 Z Z) fun a43 S43 => ?_
      refine y3s S43 Z Z (y4a (n := 6) (bb := true) (cs' := [.int .u64 x24.delay, .slice A27 x24.suppliers.length cap28, .slice A31 x24.consumers.length cap32, .bool x24.active, i6 x24.count, .int .u64 x24.idle]) g42 S43 Z Z Z (by kernel_rfl) Z Z Z h39 Z Z) ?_
      rintro a44 w45 g45 ⟨h39, F45⟩ S44
      replace h29 := RdS.fr h29 F45 (by decide) (fun q (hq : q = c0 + 1 + 1) (hm : q = N + 0) => by omega)
      replace h33 := RdS.fr h33 F45 (by decide) (fun q (hq : q = c0 + 1 + 1) (hm : q = N + 0) => by omega)
      replace hel26 := hel26.fr F45 (fun q (hq : q = c0 + 1) (hm : q = N + 0) => by omega)
      replace hb0 := hb0.fr F45 (fun (hm : c0 = N + 0) => by omega)
      replace y04 := OwS.fr y04 F45 (fun c' hc (hm : c' = N + 0) => by omega)
      replace y0j := OwS.fr y0j F45 (fun c' hc (hm : c' = N + 0) => by omega)
      replace y0i := OwS.fr y0i F45 (fun c' hc (hm : c' = N + 0) => by omega)
      replace hF := hF.trans F45 (fun c' (hm : c' = N + 0) => by (try dsimp only); omega)
      refine wpList_nil (hK _ _ ?_)
      replace hS : Sl 43 _ [(0, .pointer (so b_p0)), (4, i6 m0_0), (5, .int .u64 m0_1), (6, i6 m0_2), (7, .pointer (so b38)), (11, .slice y09 p0.devices.length y07), (12, i6 (p0.devices.length : Int)), (13, i6 m0_2)] := S44.re ⟨Z, Z, Z, Z, Z, Z, Z, Z, trivial⟩
      clear hK K
      try clear S23 S36 S37 S41 S43 S44
      generalize a44 = a at hS ⊢
      obtain ⟨r48, hr49, H⟩ := y0b H
      refine y0t (fun K hK => ?_)
      refine y00 hS Z Z Z (y03 hS Z Z) fun a46 S46 => y00 S46 Z Z Z (y03 S46 Z Z) fun a47 S47 => ?_
      refine y1y S47 Z Z Z (y2z S47 Z Z (by kernel_rfl)) (y2h.calls (c0 := c0) (b_p0 := b_p0) (y09 := y09) (y07 := y07) (y0v := y0v) (y0l := y0l) (y0q := y0q) (y0h := y0h) (p0 := p0) (p1 := m0_2) (g := g45) (N + 2)  ⟨hb0, y04, y0j, y0i⟩ (by omega) hr49) ?_
      rintro _ a50 w51 ⟨g51, rfl, F51⟩ S50
      replace h29 := RdS.fr h29 F51 (by decide) (fun q (hq : q = c0 + 1 + 1) (hm : N + 2 ≤ q) => by omega)
      replace h33 := RdS.fr h33 F51 (by decide) (fun q (hq : q = c0 + 1 + 1) (hm : N + 2 ≤ q) => by omega)
      replace h39 := h39.fr F51 (fun (hm : N + 2 ≤ N + 0) => by omega)
      replace hb0 := hb0.fr F51 (fun (hm : N + 2 ≤ c0) => by omega)
      replace y04 := OwS.fr y04 F51 (fun c' hc (hm : N + 2 ≤ c') => by omega)
      replace y0j := OwS.fr y0j F51 (fun c' hc (hm : N + 2 ≤ c') => by omega)
      replace y0i := OwS.fr y0i F51 (fun c' hc (hm : N + 2 ≤ c') => by omega)
      replace hF := hF.trans F51 (fun c' (hm : N + 2 ≤ c') => by (try dsimp only); omega)
      refine y00 S50 Z Z Z (y03 S50 Z Z) fun a52 S52 => ?_
      refine y4b (N := 43) 12 [(0, .pointer (so b_p0)), (4, i6 m0_0), (5, .int .u64 m0_1), (6, i6 m0_2), (7, .pointer (so b38)), (11, .slice y09 p0.devices.length y07), (12, i6 (p0.devices.length : Int)), (13, i6 m0_2), (33, .bool (r48 && ((decide (m0_0 < 0)) || (decide ((wu (x24.idle + x24.delay)) < m0_1)))))] ?_ (fun hk => ?_)
      rotate_left
      ·rcases Bool.eq_false_or_eq_true (r48) with hb53 | hb53
       ·refine y0p S52 (y0a S52 Z Z rfl hb53) Z Z (y03 S52 Z Z) fun a82 S82 => y0p S82 (y0a S82 Z Z rfl hb53) Z Z (y2l S82 Z Z rfl y4t) fun a83 S83 => y0p S83 (y0a S83 Z Z rfl hb53) Z Z (y03 S83 Z Z) fun a84 S84 => ?_
        refine y4b (N := 43) 8 [(0, .pointer (so b_p0)), (4, i6 m0_0), (5, .int .u64 m0_1), (6, i6 m0_2), (7, .pointer (so b38)), (11, .slice y09 p0.devices.length y07), (12, i6 (p0.devices.length : Int)), (13, i6 m0_2), (21, .bool r48), (22, i6 m0_0), (23, .bool (decide (m0_0 < 0))), (24, .bool (decide (m0_0 < 0))), (32, .bool ((decide (m0_0 < 0)) || (decide ((wu (x24.idle + x24.delay)) < m0_1))))] ?_ (fun hk => ?_)
        rotate_left
        ·rcases Bool.eq_false_or_eq_true (decide (m0_0 < 0)) with hb85 | hb85
         ·refine y1c S84 (y05 S84 Z Z rfl hb85) Z Z fun a93 S93 => y1c S93 (y05 S93 Z Z rfl hb85) Z Z fun a94 S94 => y1c S94 (y05 S94 Z Z rfl hb85) Z Z fun a95 S95 => y1c S95 (y05 S95 Z Z rfl hb85) Z Z fun a96 S96 => y1c S96 (y05 S96 Z Z rfl hb85) Z Z fun a97 S97 => y1c S97 (y05 S97 Z Z rfl hb85) Z Z fun a98 S98 => y1c S98 (y05 S98 Z Z rfl hb85) Z Z fun a99 S99 => y0p S99 (y0a S99 Z Z rfl hb53) Z Z (y2s S99 Z Z rfl hb85) fun a100 S100 => hk _ (S100.re ⟨rfl, rfl, rfl, rfl, rfl, rfl, rfl, rfl, rfl, rfl, rfl, rfl, (by rw [hb85]; rfl), trivial⟩)
         ·refine y0p S84 (y0a S84 Z Z rfl hb85) Z Z (y1e (off := 5) S84 Z Z (by kernel_rfl)) fun a101 S101 => y0p S101 (y0a S101 Z Z rfl hb85) Z Z (y0u (n := 1) S101 Z Z (by kernel_rfl) (Bx.cell h39 Z)) fun a102 S102 => y0p S102 (y0a S102 Z Z rfl hb85) Z Z (y1e (off := 0) S102 Z Z (by kernel_rfl)) fun a103 S103 => y0p S103 (y0a S103 Z Z rfl hb85) Z Z (y0u (n := 1) S103 Z Z (by kernel_rfl) (Bx.cell h39 Z)) fun a104 S104 => y0p S104 (y0a S104 Z Z rfl hb85) Z Z (y2l S104 Z Z rfl y4z) fun a105 S105 => y0p S105 (y0a S105 Z Z rfl hb85) Z Z (y03 S105 Z Z) fun a106 S106 => y0p S106 (y0a S106 Z Z rfl hb85) Z Z (y2l S106 Z Z rfl y4t) fun a107 S107 => y0p S107 (y0a S107 Z Z rfl hb53) Z Z (y2t S107 Z Z rfl hb85) fun a108 S108 => hk _ (S108.re ⟨rfl, rfl, rfl, rfl, rfl, rfl, rfl, rfl, rfl, rfl, rfl, rfl, (by rw [hb85]; rfl), trivial⟩)
        intro a109 S109
        refine y00 S109 Z Z Z (y2s S109 Z Z rfl hb53) fun a110 S110 => hk _ (S110.re ⟨rfl, rfl, rfl, rfl, rfl, rfl, rfl, rfl, (by rw [hb53]; rfl), trivial⟩)
       ·refine y1c S52 (y05 S52 Z Z rfl hb53) Z Z fun a111 S111 => y1c S111 (y05 S111 Z Z rfl hb53) Z Z fun a112 S112 => y1c S112 (y05 S112 Z Z rfl hb53) Z Z fun a113 S113 => y1c S113 (y40 S113 Z Z Z) Z Z fun a114 S114 => y1c S114 (y40 S114 Z Z Z) Z Z fun a115 S115 => y1c S115 (y40 S115 Z Z Z) Z Z fun a116 S116 => y1c S116 (y40 S116 Z Z Z) Z Z fun a117 S117 => y1c S117 (y40 S117 Z Z Z) Z Z fun a118 S118 => y1c S118 (y40 S118 Z Z Z) Z Z fun a119 S119 => y1c S119 (y40 S119 Z Z Z) Z Z fun a120 S120 => y1c S120 (y05 S120 Z Z rfl hb53) Z Z fun a121 S121 => y00 S121 Z Z Z (y2t S121 Z Z rfl hb53) fun a122 S122 => hk _ (S122.re ⟨rfl, rfl, rfl, rfl, rfl, rfl, rfl, rfl, (by rw [hb53]; rfl), trivial⟩)
      intro a123 S123
      refine wpList_nil (hK _ _ ?_)
      replace hS : Sl 43 _ [(0, .pointer (so b_p0)), (4, i6 m0_0), (5, .int .u64 m0_1), (6, i6 m0_2), (7, .pointer (so b38)), (11, .slice y09 p0.devices.length y07), (12, i6 (p0.devices.length : Int)), (13, i6 m0_2), (33, .bool (r48 && ((decide (m0_0 < 0)) || (decide ((wu (x24.idle + x24.delay)) < m0_1)))))] := S123.re ⟨Z, Z, Z, Z, Z, Z, Z, Z, Z, trivial⟩
      clear hK K
      try clear S46 S47 S50 S52 S123
      generalize a123 = a at hS ⊢
      refine y2m hS Z (fun hb124 => ?_) (fun hb124 => ?_)
      ·replace H := y3f hb124 H
       refine c_draw1 (fun K hK => y4m (fun q => False) g51 [] 8 (ba 0 8) (by kernel_rfl) Z Z (fun w125 hw125 => ?_))
       have F125 : Fr (fun _ => False) w51 g51 w125 g51 := by rw [hw125]; exact Fr.drew _ _ _
       replace h29 := RdS.fr h29 F125 (by decide) (fun _ _ h => h)
       replace h33 := RdS.fr h33 F125 (by decide) (fun _ _ h => h)
       replace h39 := h39.fr F125 (fun h => h)
       replace hb0 := hb0.fr F125 (fun h => h)
       replace y04 := OwS.fr y04 F125 (fun _ _ h => h)
       replace y0j := OwS.fr y0j F125 (fun _ _ h => h)
       replace y0i := OwS.fr y0i F125 (fun _ _ h => h)
       replace hF := hF.trans F125 (fun _ h => h.elim)
       have hC : Fr (fun q => False) w125 g51 w125 g51 := Fr.refl _ _ _
       refine y1b hS 0 (ba 1 7) Z Z Z Z (by kernel_rfl) (fun _ _ _ h => h) (fun _ => (y03 hS Z Z)) fun a126 S126 => y1b S126 1 (ba 2 6) Z Z Z Z (by kernel_rfl) (fun _ _ _ h => h) (fun _ => (y1e (off := 5) S126 Z Z (by kernel_rfl))) fun a127 S127 => y3w S127 2 (ba 3 5) Z Z Z Z (by kernel_rfl) (fun _ _ _ h => h) ⟨_, hC⟩ (fun w' g' Fz => (y0u (n := 1) S127 Z Z (by kernel_rfl) (Bx.cell (h39.fr Fz (fun h => h)) Z))) fun a128 S128 => y1b S128 3 (ba 4 4) Z Z Z Z (by kernel_rfl) (fun _ _ _ h => h) (fun _ => (y1e (off := 0) S128 Z Z (by kernel_rfl))) fun a129 S129 => y3w S129 4 (ba 5 3) Z Z Z Z (by kernel_rfl) (fun _ _ _ h => h) ⟨_, hC⟩ (fun w' g' Fz => (y0u (n := 1) S129 Z Z (by kernel_rfl) (Bx.cell (h39.fr Fz (fun h => h)) Z))) fun a130 S130 => y1b S130 5 (ba 6 2) Z Z Z Z (by kernel_rfl) (fun _ _ _ h => h) (fun _ => (y2l S130 Z Z rfl y4z)) fun a131 S131 => y1b S131 6 (ba 7 1) Z Z Z Z (by kernel_rfl) (fun _ _ _ h => h) (fun _ => (y02 S131 Z Z)) fun a132 S132 => y1b S132 7 (ba 8 0) Z Z Z Z (by kernel_rfl) (fun _ _ _ h => h) (fun _ => (y02 S132 Z Z)) fun a133 S133 => y4v (by kernel_rfl) (hK _ _ ?_)
       replace hS : Sl 43 _ [(0, .pointer (so b_p0)), (4, i6 m0_2), (5, .int .u64 (wu (x24.idle + x24.delay))), (11, .slice y09 p0.devices.length y07), (12, i6 (p0.devices.length : Int)), (13, i6 m0_2)] := S133.re ⟨Z, Z, Z, Z, Z, Z, trivial⟩
       clear hK K hC
       try clear S126 S127 S128 S129 S130 S131 S132 S133
       generalize a133 = a at hS ⊢
       have e := Option.some.inj H
       subst e
       exact ⟨g51, hS.re ⟨Z, Z, Z, Z, Z, Z, trivial⟩, hb0, y04, y0j, y0i, hF⟩
      ·replace H := y3g hb124 H
       refine wp_skip ?_
       have e := Option.some.inj H
       subst e
       exact ⟨g51, hS.re ⟨Z, Z, Z, Z, Z, Z, trivial⟩, hb0, y04, y0j, y0i, hF⟩
     ·clear H
      clear y04 y0j y0i hb0 hF
      clear hS
      rintro a w19 ⟨g19, hS, hb0, y04, y0j, y0i, hF⟩
      have H := Hl22
      clear Hl22
      refine y3e [(0, .pointer (so b_p0)), (4, i6 v20.1), (5, .int .u64 v20.2), (11, .slice y09 p0.devices.length y07), (12, i6 (p0.devices.length : Int)), (13, i6 (wi (m0_2 + 1)))] (fun R hR => y00 hS Z Z Z (y2l hS Z Z rfl y4z) fun a134 S134 => y00 S134 Z Z Z (y03 S134 Z Z) fun a135 S135 => wpList_nil (hR _ (S135.re ⟨Z, Z, Z, Z, Z, Z, trivial⟩))) ?_
      clear hS a; intro a hS
      refine ⟨k16, Nat.lt_succ_self _, ?_⟩
      exact ⟨v20.1, v20.2, wi (m0_2 + 1), g19, H, hS.re ⟨Z, Z, Z, Z, Z, Z, trivial⟩, hb0, y04, y0j, y0i, hF⟩
    ·replace H := y3g hb18 H
     refine wp_exit ?_
     have e := Option.some.inj H
     subst e
     exact ⟨g15, hS.re ⟨Z, Z, trivial⟩, hb0, y04, y0j, y0i, hF⟩
 ·clear H
  clear y04 y0j y0i hb0 hF
  clear hS
  rintro a w5 ⟨g5, hS, hb0, y04, y0j, y0i, hF⟩
  have H := Hl8
  clear Hl8
  refine y16 [(2, i6 v6.1), (3, .int .u64 v6.2)] (fun R hR => y00 hS Z Z Z (y03 hS Z Z) fun a136 S136 => y00 S136 Z Z Z (y03 S136 Z Z) fun a137 S137 => y00 S137 Z Z Z (y02 S137 Z Z) fun a138 S138 => y00 S138 Z Z Z (y02 S138 Z Z) fun a139 S139 => wpList_nil (hR _ (S139.re ⟨Z, Z, trivial⟩))) ?_
  clear hS a; intro a hS
  refine wp_ret ?_
  have e := Option.some.inj H
  subst e
  repeat (with_reducible first | refine y1i ?_ | refine y0o ?_)
  exact y4d hS Try.results49 Z rfl ⟨_, rfl, g5, rfl, hF⟩


end Go.Proofs.Ytcfcffbjdjacfaa.Sim

namespace Go.Proofs.Ytcfcffbjdjacfaa.Sim
open Go
set_option linter.unusedVariables false
set_option linter.unusedSimpArgs false

/-! ### y0s: function 48 -/
def y0s.l1 (r16 : Int × Int) (y75 : List y0e) (x89 : y0k) : Nat → y01 → Int → Option (Fl (y01 × (List y0e)) (y01 × (List y0e)))
 | 0, _, _ => none
 | k107 + 1, m1_0, m1_1 => if decide (m1_1 < (x89.suppliers.length : Int)) = true then (((idx x89.suppliers m1_1).bind fun x114 => (y2h.f m1_0 x114).bind fun r121 => if r121 = true then ((idx m1_0.devices x114).bind fun x132 => some (y01.mk (upd m1_0.devices x114 ({ x132 with idle := r16.2 } : y0k)) m1_0.links m1_0.order m1_0.now)) else (some m1_0) : Option (y01)).bind fun v111 => y0s.l1 r16 y75 x89 k107 v111 (wi (m1_1 + 1))) else (some (.nxt (m1_0, y75)))
def y0s.l0 (p1 : Int) : Nat → y01 → (List y0e) → Option (y01 × (List y0e))
 | 0, _, _ => none
 | k7 + 1, m0_0, m0_1 => ((y1q.f m0_0).bind fun r16 => if ((decide (r16.1 < 0)) || (decide (p1 < r16.2))) = true then (some (.out (m0_0, m0_1))) else ((idx m0_0.devices r16.1).bind fun x50 => (app m0_1 [(y0e.mk r16.1 false r16.2)]).bind fun y75 => (idx (upd m0_0.devices r16.1 ({ x50 with active := false } : y0k)) r16.1).bind fun x89 => y0s.l1 r16 y75 x89 FUEL (y01.mk (upd m0_0.devices r16.1 ({ x50 with active := false } : y0k)) m0_0.links m0_0.order m0_0.now) 0) : Option (Fl (y01 × (List y0e)) (y01 × (List y0e)))).bind fun o13 => o13.go fun v12 => y0s.l0 p1 k7 v12.1 v12.2
def y0s.f (p0 : y01) (p1 : Int) : Option (y01 × (List y0e)) := y0s.l0 p1 FUEL p0 []
set_option maxRecDepth 100000 in
set_option maxHeartbeats 4000000 in
theorem y0s.calls {p0 : y01} {c0 : Nat}  {b_p0 : Nat} {y09 : Option Addr} {y07 : Nat} {y0v : Option Addr} {y0l : Nat} {y0q : Option Addr} {y0h : Nat} {p1 : Int} {w : World} {g : Nat → Nat} {out : y01 × (List y0e)} (N : Nat) (r0 : Nat) (hp0 : y1v w g c0 b_p0 y09 y07 y0v y0l y0q y0h p0) (hc0 : c0 + 7 ≤ N) (hr0 : r0 + 2 ≤ N) (hq0_0 : r0 + 2 ≤ c0 ∨ c0 + 7 ≤ r0) (H : y0s.f p0 p1 = some out) :
  Calls Try.prog 48 #[.pointer (so b_p0), .int .u64 p1] w (fun e w' => ∃ v, e = .returned v ∧ ∃ (g' : Nat → Nat) (A_r0 : Option Addr) (cap_r0 : Nat), v = .slice A_r0 out.2.length cap_r0 ∧ y1v w' g' c0 b_p0 y09 y07 y0v y0l y0q y0h out.1 ∧ OwS y18 47 w' g' r0 A_r0 cap_r0 out.2 ∧ Fr (fun q => (c0 ≤ q ∧ q < c0 + 7) ∨ (r0 ≤ q ∧ q < r0 + 2) ∨ N ≤ q) w g w' g') := by
 unfold y0s.f at H
 refine y1k Try.func48 rfl Try.ntmps48 Z (fun a hS => ?_)
 replace hS : Sl 61 a [(0, .pointer (so b_p0)), (1, .int .u64 p1)] := hS
 have hF : Fr (fun q => (c0 ≤ q ∧ q < c0 + 7) ∨ (r0 ≤ q ∧ q < r0 + 2) ∨ N ≤ q) w g w g := Fr.refl _ _ _
 obtain ⟨hb0, y04, y0j, y0i⟩ := hp0
 refine y16 [(0, .pointer (so b_p0)), (1, .int .u64 p1)] (fun R hR => y00 hS Z Z Z (y02 hS Z Z) fun a1 S1 => wpList_nil (hR _ (S1.re ⟨Z, Z, trivial⟩))) ?_
 clear hS a; intro a hS
 refine y16 [(0, .pointer (so b_p0)), (1, .int .u64 p1), (5, .slice none 0 0)] (fun R hR => y00 hS Z Z Z (y02 hS Z Z) fun a2 S2 => wpList_nil (hR _ (S2.re ⟨Z, Z, Z, trivial⟩))) ?_
 clear hS a; intro a hS
 refine wp_block ?_
 refine wp_loop_ghost (fun kq => fun a w3 => ∃ (m0_0 : y01), ∃ (m0_1 : List y0e), ∃ (g3 : Nat → Nat), ∃ (A4 : Option Addr), ∃ (cap5 : Nat), y0s.l0 p1 kq m0_0 m0_1 = some out ∧ Sl 61 a [(0, .pointer (so b_p0)), (1, .int .u64 p1), (5, .slice A4 m0_1.length cap5)] ∧ OwS y18 47 w3 g3 (N + 2) A4 cap5 m0_1 ∧ Bx w3 g3 (c0) b_p0 85 [.slice y09 m0_0.devices.length y07, .slice y0v m0_0.links.length y0l, .slice y0q m0_0.order.length y0h, .int .u64 m0_0.now] ∧ OwS y1h 88 w3 g3 (c0 + 1) y09 y07 m0_0.devices ∧ OwS y0r 67 w3 g3 (c0 + 3) y0v y0l m0_0.links ∧ OwS (kint .i64) 3 w3 g3 (c0 + 5) y0q y0h m0_0.order ∧ Fr (fun q => (c0 ≤ q ∧ q < c0 + 7) ∨ (r0 ≤ q ∧ q < r0 + 2) ∨ N ≤ q) w g w3 g3) FUEL ?_ ?_
 ·exact ⟨p0, [], g, none, 0, H, hS.re ⟨Z, Z, Z, trivial⟩, OwS.nil y18 47 w g (N + 2), hb0, y04, y0j, y0i, hF⟩
 ·clear H
  clear y04 y0j y0i hb0 hF
  clear hS
  rintro k7 a w3 ⟨m0_0, m0_1, g3, A4, cap5, hpre0, hS, h6, hb0, y04, y0j, y0i, hF⟩
  have H := hpre0
  clear hpre0
  cases k7 with
  | zero => exact absurd H (by simp [y0s.l0])
  | succ k7 =>
   rw [y0s.l0] at H
   obtain ⟨o13, H, Hl14⟩ := y0b H
   refine c_cut1 (fun a w8 => ∃ (v12 : y01 × (List y0e)), ∃ (g8 : Nat → Nat), ∃ (A9 : Option Addr), ∃ (cap10 : Nat), o13 = .nxt v12 ∧ Sl 61 a [(0, .pointer (so b_p0)), (1, .int .u64 p1), (5, .slice A9 v12.2.length cap10)] ∧ OwS y18 47 w8 g8 (N + 2) A9 cap10 v12.2 ∧ Bx w8 g8 (c0) b_p0 85 [.slice y09 v12.1.devices.length y07, .slice y0v v12.1.links.length y0l, .slice y0q v12.1.order.length y0h, .int .u64 v12.1.now] ∧ OwS y1h 88 w8 g8 (c0 + 1) y09 y07 v12.1.devices ∧ OwS y0r 67 w8 g8 (c0 + 3) y0v y0l v12.1.links ∧ OwS (kint .i64) 3 w8 g8 (c0 + 5) y0q y0h v12.1.order ∧ Fr (fun q => (c0 ≤ q ∧ q < c0 + 7) ∨ (r0 ≤ q ∧ q < r0 + 2) ∨ N ≤ q) w g w8 g8) ?_ ?_
   ·refine wp_block ?_
    obtain ⟨r16, hr17, H⟩ := y0b H
    refine y0t (fun K hK => ?_)
    refine y00 hS Z Z Z (y03 hS Z Z) fun a15 S15 => ?_
    refine y1y S15 Z Z Z (y2z S15 Z Z (by kernel_rfl)) (y1q.calls (c0 := c0) (b_p0 := b_p0) (y09 := y09) (y07 := y07) (y0v := y0v) (y0l := y0l) (y0q := y0q) (y0h := y0h) (p0 := m0_0) (g := g3) (N + 4)  ⟨hb0, y04, y0j, y0i⟩ (by omega) hr17) ?_
    rintro _ a18 w19 ⟨g19, rfl, F19⟩ S18
    replace h6 := OwS.fr h6 F19 (fun c' hc (hm : N + 4 ≤ c') => by omega)
    replace hb0 := hb0.fr F19 (fun (hm : N + 4 ≤ c0) => by omega)
    replace y04 := OwS.fr y04 F19 (fun c' hc (hm : N + 4 ≤ c') => by omega)
    replace y0j := OwS.fr y0j F19 (fun c' hc (hm : N + 4 ≤ c') => by omega)
    replace y0i := OwS.fr y0i F19 (fun c' hc (hm : N + 4 ≤ c') => by omega)
    replace hF := hF.trans F19 (fun c' (hm : N + 4 ≤ c') => by (try dsimp only); omega)
    refine y00 S18 Z Z Z (y03 S18 Z Z) fun a20 S20 => y00 S20 Z Z Z (y1z S20 Z Z Z) fun a21 S21 => y00 S21 Z Z Z (y1z S21 Z Z Z) fun a22 S22 => y00 S22 Z Z Z (y02 S22 Z Z) fun a23 S23 => y00 S23 Z Z Z (y02 S23 Z Z) fun a24 S24 => wpList_nil (hK _ _ ?_)
    replace hS : Sl 61 _ [(0, .pointer (so b_p0)), (1, .int .u64 p1), (5, .slice A4 m0_1.length cap5), (6, i6 r16.1), (7, .int .u64 r16.2)] := S24.re ⟨Z, Z, Z, Z, Z, trivial⟩
    clear hK K
    try clear S15 S18 S20 S21 S22 S23 S24
    generalize a24 = a at hS ⊢
    refine wp_seq ?_
    refine y0t (fun K hK => ?_)
    refine y00 hS Z Z Z (y03 hS Z Z) fun a25 S25 => y00 S25 Z Z Z (y2l S25 Z Z rfl y4t) fun a26 S26 => y00 S26 Z Z Z (y03 S26 Z Z) fun a27 S27 => ?_
    refine y4b (N := 61) 4 [(0, .pointer (so b_p0)), (1, .int .u64 p1), (5, .slice A4 m0_1.length cap5), (6, i6 r16.1), (7, .int .u64 r16.2), (21, .bool ((decide (r16.1 < 0)) || (decide (p1 < r16.2))))] ?_ (fun hk => ?_)
    rotate_left
    ·rcases Bool.eq_false_or_eq_true (decide (r16.1 < 0)) with hb28 | hb28
     ·refine y1c S27 (y05 S27 Z Z rfl hb28) Z Z fun a32 S32 => y1c S32 (y05 S32 Z Z rfl hb28) Z Z fun a33 S33 => y1c S33 (y05 S33 Z Z rfl hb28) Z Z fun a34 S34 => y00 S34 Z Z Z (y2s S34 Z Z rfl hb28) fun a35 S35 => hk _ (S35.re ⟨rfl, rfl, rfl, rfl, rfl, (by rw [hb28]; rfl), trivial⟩)
     ·refine y0p S27 (y0a S27 Z Z rfl hb28) Z Z (y03 S27 Z Z) fun a36 S36 => y0p S36 (y0a S36 Z Z rfl hb28) Z Z (y03 S36 Z Z) fun a37 S37 => y0p S37 (y0a S37 Z Z rfl hb28) Z Z (y2l S37 Z Z rfl b_gtr) fun a38 S38 => y00 S38 Z Z Z (y2t S38 Z Z rfl hb28) fun a39 S39 => hk _ (S39.re ⟨rfl, rfl, rfl, rfl, rfl, (by rw [hb28]; rfl), trivial⟩)
    intro a40 S40
    refine wpList_nil (hK _ _ ?_)
    replace hS : Sl 61 _ [(0, .pointer (so b_p0)), (1, .int .u64 p1), (5, .slice A4 m0_1.length cap5), (6, i6 r16.1), (7, .int .u64 r16.2), (21, .bool ((decide (r16.1 < 0)) || (decide (p1 < r16.2))))] := S40.re ⟨Z, Z, Z, Z, Z, Z, trivial⟩
    clear hK K
    try clear S25 S26 S27 S40
    generalize a40 = a at hS ⊢
    refine y2m hS Z (fun hb41 => ?_) (fun hb41 => ?_)
    ·replace H := y3f hb41 H
     refine y16 [(4, .slice A4 m0_1.length cap5)] (fun R hR => y00 hS Z Z Z (y03 hS Z Z) fun a42 S42 => y00 S42 Z Z Z (y02 S42 Z Z) fun a43 S43 => wpList_nil (hR _ (S43.re ⟨Z, trivial⟩))) ?_
     clear hS a; intro a hS
     refine wp_ret ?_
     have e := Option.some.inj H
     subst e
     replace H := Fl.go_out Hl14
     have e := Option.some.inj H
     subst e
     have F44 := Fr.y2f w19 g19 (N + 2) r0
     replace h6 := h6.y2f r0
     replace hb0 := hb0.fr F44 (fun (hm : c0 = N + 2 ∨ c0 = N + 2 + 1) => by omega)
     replace y04 := OwS.fr y04 F44 (fun c' hc (hm : c' = N + 2 ∨ c' = N + 2 + 1) => by omega)
     replace y0j := OwS.fr y0j F44 (fun c' hc (hm : c' = N + 2 ∨ c' = N + 2 + 1) => by omega)
     replace y0i := OwS.fr y0i F44 (fun c' hc (hm : c' = N + 2 ∨ c' = N + 2 + 1) => by omega)
     replace hF := hF.trans F44 (fun c' (hm : c' = N + 2 ∨ c' = N + 2 + 1) => by (try dsimp only); omega)
     repeat (with_reducible first | refine y1i ?_ | refine y0o ?_)
     exact y3v hS Try.results48 rfl ⟨_, rfl, (y2f g19 (N + 2) r0), A4, cap5, rfl, ⟨hb0, y04, y0j, y0i⟩, h6, hF⟩
    ·replace H := y3g hb41 H
     refine wp_skip ?_
     change Code.wp _ _ _ _ _
     obtain ⟨x50, hx51, H⟩ := y0b H
     refine y0t (fun K hK => ?_)
     refine y00 hS Z Z Z (y03 hS Z Z) fun a45 S45 => y00 S45 Z Z Z (y4s S45 Z Z) fun a46 S46 => y00 S46 Z Z Z (y1e (off := 0) S46 Z Z (by kernel_rfl)) fun a47 S47 => y00 S47 Z Z Z (y0u (n := 1) S47 Z Z (by kernel_rfl) (Bx.cell hb0 Z)) fun a48 S48 => y00 S48 Z Z Z (y03 S48 Z Z) fun a49 S49 => ?_
     obtain ⟨_, ⟨A53, cap54, A57, cap58, rfl, h55, h59⟩, hel52⟩ := El.of (OwD.rdx y04) hx51 (by decide)
     replace hel52 : El w19 g19 (fun q => q = c0 + 1) y09 (r16.1.toNat * 6) [.int .u64 x50.delay, .slice A53 x50.suppliers.length cap54, .slice A57 x50.consumers.length cap58, .bool x50.active, i6 x50.count, .int .u64 x50.idle] := hel52
     refine y00 S49 Z Z Z (y1j (e := 88) (sz := 6) (by_ := 80) S49 Z Z Z (by kernel_rfl) (RdS.some_ (OwS.rd y04) hx51) (y26 hx51) (y27 hx51)) fun a62 S62 => y00 S62 Z Z Z (y2w (off := 3) S62 Z Z (by kernel_rfl)) fun a63 S63 => ?_
     refine y3s S63 Z Z (y4l (n := 1) (bb := false) (kd := y1h) (j := 3) (x' := ({ x50 with active := false } : y0k)) (us := [.bool false]) g19 S63 Z Z Z Z (by kernel_rfl) Z Z (by intro v hv; simp only [List.mem_cons, List.not_mem_nil, or_false] at hv; rcases hv with rfl <;> rfl) y04 hx51 Z (fun _ _ cs hR => by obtain ⟨A0, cap0, A1, cap1, rfl, h0, h1⟩ := hR; exact ⟨A0, cap0, A1, cap1, rfl, h0, h1⟩)) ?_
     rintro a64 w65 g65 ⟨y04, F65⟩ S64
     replace h55 := RdS.fr h55 F65 (by decide) (fun q (hq : q = c0 + 1 + 1) (hm : q = c0 + 1) => by omega)
     replace h59 := RdS.fr h59 F65 (by decide) (fun q (hq : q = c0 + 1 + 1) (hm : q = c0 + 1) => by omega)
     replace h6 := OwS.fr h6 F65 (fun c' hc (hm : c' = c0 + 1) => by omega)
     replace hb0 := hb0.fr F65 (fun (hm : c0 = c0 + 1) => by omega)
     replace y0j := OwS.fr y0j F65 (fun c' hc (hm : c' = c0 + 1) => by omega)
     replace y0i := OwS.fr y0i F65 (fun c' hc (hm : c' = c0 + 1) => by omega)
     replace hF := hF.trans F65 (fun c' (hm : c' = c0 + 1) => by (try dsimp only); omega)
     replace hb0 : Bx w65 g65 (c0) b_p0 85 [.slice y09 (upd m0_0.devices r16.1 ({ x50 with active := false } : y0k)).length y07, .slice y0v m0_0.links.length y0l, .slice y0q m0_0.order.length y0h, .int .u64 m0_0.now] := by simpa only [y1w] using hb0
     refine wpList_nil (hK _ _ ?_)
     replace hS : Sl 61 _ [(0, .pointer (so b_p0)), (1, .int .u64 p1), (5, .slice A4 m0_1.length cap5), (6, i6 r16.1), (7, .int .u64 r16.2)] := S64.re ⟨Z, Z, Z, Z, Z, trivial⟩
     clear hK K
     try clear S45 S46 S47 S48 S49 S62 S63 S64
     generalize a64 = a at hS ⊢
     obtain ⟨y75, hy76, H⟩ := y0b H
     refine y0t (fun K hK => ?_)
     refine y00 hS Z Z Z (y03 hS Z Z) fun a66 S66 => y00 S66 Z Z Z (y03 S66 Z Z) fun a67 S67 => y00 S67 Z Z Z (y03 S67 Z Z) fun a68 S68 => y00 S68 Z Z Z (r_build (parts := [(0, i6 r16.1), (2, .int .u64 r16.2)]) (u := .agg #[i6 r16.1, .bool false, .int .u64 r16.2]) S68 Z Z (fun _ => by kernel_rfl)) fun a69 S69 => ?_
     refine y41 S69 Z Z Z (e_lit (e := 47) (parts := [(0, .agg #[i6 r16.1, .bool false, .int .u64 r16.2])]) (cs := [i6 r16.1, .bool false, .int .u64 r16.2]) y18 [(y0e.mk r16.1 false r16.2)] (N + 0) g65 S69 Z Z (fun _ => by kernel_rfl) Z (by decide) (Rows.cons (cs := [i6 r16.1, .bool false, .int .u64 r16.2]) rfl Rows.nil)) ?_
     rintro _ a73 w74 g74 ⟨⟨A70, rfl, h71⟩, F74⟩ S73
     replace h6 := OwS.fr h6 F74 (fun _ _ h => h)
     replace hb0 := hb0.fr F74 (fun h => h)
     replace y04 := OwS.fr y04 F74 (fun _ _ h => h)
     replace y0j := OwS.fr y0j F74 (fun _ _ h => h)
     replace y0i := OwS.fr y0i F74 (fun _ _ h => h)
     replace hF := hF.trans F74 (fun _ h => h.elim)
     refine y41 S73 Z Z Z (y4g (e := 47) (sz := 3) (by_ := 24) (z := [i6 0, .bool false, .int .u64 0]) (kd := y18) g74 S73 Z Z Z Z (by kernel_rfl) (by kernel_rfl) Z Z Z Z h6 (OwD.rdx h71) (fun _ _ _ h => h) hy76) ?_
     rintro _ a81 w82 g82 ⟨⟨A77, cap78, rfl, h79⟩, F82⟩ S81
     replace h71 := OwS.fr h71 F82 (fun c' hc (hm : c' = N + 2) => by omega)
     replace hb0 := hb0.fr F82 (fun (hm : c0 = N + 2) => by omega)
     replace y04 := OwS.fr y04 F82 (fun c' hc (hm : c' = N + 2) => by omega)
     replace y0j := OwS.fr y0j F82 (fun c' hc (hm : c' = N + 2) => by omega)
     replace y0i := OwS.fr y0i F82 (fun c' hc (hm : c' = N + 2) => by omega)
     replace hF := hF.trans F82 (fun c' (hm : c' = N + 2) => by (try dsimp only); omega)
     refine y00 S81 Z Z Z (y02 S81 Z Z) fun a83 S83 => wpList_nil (hK _ _ ?_)
     replace hS : Sl 61 _ [(0, .pointer (so b_p0)), (1, .int .u64 p1), (5, .slice A77 y75.length cap78), (6, i6 r16.1), (7, .int .u64 r16.2)] := S83.re ⟨Z, Z, Z, Z, Z, trivial⟩
     clear hK K
     try clear S66 S67 S68 S69 S73 S81 S83
     generalize a83 = a at hS ⊢
     obtain ⟨x89, hx90, H⟩ := y0b H
     refine y0t (fun K hK => ?_)
     refine y00 hS Z Z Z (y03 hS Z Z) fun a84 S84 => y00 S84 Z Z Z (y4s S84 Z Z) fun a85 S85 => y00 S85 Z Z Z (y1e (off := 0) S85 Z Z (by kernel_rfl)) fun a86 S86 => y00 S86 Z Z Z (y0u (n := 1) S86 Z Z (by kernel_rfl) (Bx.cell hb0 Z)) fun a87 S87 => y00 S87 Z Z Z (y03 S87 Z Z) fun a88 S88 => ?_
     obtain ⟨_, ⟨A92, cap93, A96, cap97, rfl, h94, h98⟩, hel91⟩ := El.of (OwD.rdx y04) hx90 (by decide)
     replace hel91 : El w82 g82 (fun q => q = c0 + 1) y09 (r16.1.toNat * 6) [.int .u64 x89.delay, .slice A92 x89.suppliers.length cap93, .slice A96 x89.consumers.length cap97, .bool x89.active, i6 x89.count, .int .u64 x89.idle] := hel91
     refine y00 S88 Z Z Z (y1j (e := 88) (sz := 6) (by_ := 80) S88 Z Z Z (by kernel_rfl) (RdS.some_ (OwS.rd y04) hx90) (y26 hx90) (y27 hx90)) fun a101 S101 => y00 S101 Z Z Z (y2w (off := 1) S101 Z Z (by kernel_rfl)) fun a102 S102 => y00 S102 Z Z Z (y0u (n := 1) S102 Z Z (by kernel_rfl) (El.cell (j := 1) hel91 Z)) fun a103 S103 => y00 S103 Z Z Z (y4x (e := 3) (sz := 1) (by_ := 8) S103 Z Z (by kernel_rfl)) fun a104 S104 => y00 S104 Z Z Z (y03 S104 Z Z) fun a105 S105 => wpList_nil (hK _ _ ?_)
     replace hS : Sl 61 _ [(0, .pointer (so b_p0)), (1, .int .u64 p1), (5, .slice A77 y75.length cap78), (7, .int .u64 r16.2), (43, .slice A92 x89.suppliers.length cap93), (44, i6 (x89.suppliers.length : Int)), (45, i6 0)] := S105.re ⟨Z, Z, Z, Z, Z, Z, Z, trivial⟩
     clear hK K
     try clear S84 S85 S86 S87 S88 S101 S102 S103 S104 S105
     generalize a105 = a at hS ⊢
     refine wp_block ?_
     refine wp_loop_ghost (fun kq => fun a w106 => ∃ (m1_0 : y01), ∃ (m1_1 : Int), ∃ (g106 : Nat → Nat), y0s.l1 r16 y75 x89 kq m1_0 m1_1 = some o13 ∧ Sl 61 a [(0, .pointer (so b_p0)), (1, .int .u64 p1), (5, .slice A77 y75.length cap78), (7, .int .u64 r16.2), (43, .slice A92 x89.suppliers.length cap93), (44, i6 (x89.suppliers.length : Int)), (45, i6 m1_1)] ∧ OwS y18 47 w106 g106 (N + 2) A77 cap78 y75 ∧ RdS (kint .i64) w106 g106 (fun q => q = c0 + 1 + 1) A92 cap93 x89.suppliers ∧ Bx w106 g106 (c0) b_p0 85 [.slice y09 m1_0.devices.length y07, .slice y0v m1_0.links.length y0l, .slice y0q m1_0.order.length y0h, .int .u64 m1_0.now] ∧ OwS y1h 88 w106 g106 (c0 + 1) y09 y07 m1_0.devices ∧ OwS y0r 67 w106 g106 (c0 + 3) y0v y0l m1_0.links ∧ OwS (kint .i64) 3 w106 g106 (c0 + 5) y0q y0h m1_0.order ∧ Fr (fun q => (c0 ≤ q ∧ q < c0 + 7) ∨ (r0 ≤ q ∧ q < r0 + 2) ∨ N ≤ q) w g w106 g106) FUEL ?_ ?_
     ·exact ⟨(y01.mk (upd m0_0.devices r16.1 ({ x50 with active := false } : y0k)) m0_0.links m0_0.order m0_0.now), 0, g82, H, hS.re ⟨Z, Z, Z, Z, Z, Z, Z, trivial⟩, h79, h94, hb0, y04, y0j, y0i, hF⟩
     ·clear H
      clear y04 y0j y0i hb0 h79 h94 hF
      clear hS
      rintro k107 a w106 ⟨m1_0, m1_1, g106, hpre0, hS, h79, h94, hb0, y04, y0j, y0i, hF⟩
      have H := hpre0
      clear hpre0
      cases k107 with
      | zero => exact absurd H (by simp [y0s.l1])
      | succ k107 =>
       rw [y0s.l1] at H
       refine y16 [(0, .pointer (so b_p0)), (1, .int .u64 p1), (5, .slice A77 y75.length cap78), (7, .int .u64 r16.2), (43, .slice A92 x89.suppliers.length cap93), (44, i6 (x89.suppliers.length : Int)), (45, i6 m1_1), (46, .bool (decide (m1_1 < (x89.suppliers.length : Int))))] (fun R hR => y00 hS Z Z Z (y2l hS Z Z rfl y4t) fun a108 S108 => wpList_nil (hR _ (S108.re ⟨Z, Z, Z, Z, Z, Z, Z, Z, trivial⟩))) ?_
       clear hS a; intro a hS
       refine c_if hS Z (fun hb109 => ?_) (fun hb109 => ?_)
       ·replace H := y3f hb109 H
        refine wp_skip ?_
        change Code.wp _ _ _ _ _
        obtain ⟨v111, H, Hl113⟩ := y0b H
        refine y4u (fun a w110 => ∃ (g110 : Nat → Nat), Sl 61 a [(0, .pointer (so b_p0)), (1, .int .u64 p1), (5, .slice A77 y75.length cap78), (7, .int .u64 r16.2), (43, .slice A92 x89.suppliers.length cap93), (44, i6 (x89.suppliers.length : Int)), (45, i6 m1_1)] ∧ OwS y18 47 w110 g110 (N + 2) A77 cap78 y75 ∧ RdS (kint .i64) w110 g110 (fun q => q = c0 + 1 + 1) A92 cap93 x89.suppliers ∧ Bx w110 g110 (c0) b_p0 85 [.slice y09 v111.devices.length y07, .slice y0v v111.links.length y0l, .slice y0q v111.order.length y0h, .int .u64 v111.now] ∧ OwS y1h 88 w110 g110 (c0 + 1) y09 y07 v111.devices ∧ OwS y0r 67 w110 g110 (c0 + 3) y0v y0l v111.links ∧ OwS (kint .i64) 3 w110 g110 (c0 + 5) y0q y0h v111.order ∧ Fr (fun q => (c0 ≤ q ∧ q < c0 + 7) ∨ (r0 ≤ q ∧ q < r0 + 2) ∨ N ≤ q) w g w110 g110) ?_ ?_
        ·refine wp_block ?_
         obtain ⟨x114, hx115, H⟩ := y0b H
         refine y16 [(0, .pointer (so b_p0)), (1, .int .u64 p1), (5, .slice A77 y75.length cap78), (7, .int .u64 r16.2), (9, i6 x114), (43, .slice A92 x89.suppliers.length cap93), (44, i6 (x89.suppliers.length : Int)), (45, i6 m1_1)] (fun R hR => y00 hS Z Z Z (y1j (e := 3) (sz := 1) (by_ := 8) hS Z Z Z (by kernel_rfl) (RdS.some_ h94 hx115) (y26 hx115) (y27 hx115)) fun a116 S116 => y00 S116 Z Z Z (y0u (n := 1) S116 Z Z (by kernel_rfl) (RdS.cell (i := m1_1) (sz := 1) (j := 0) h94 hx115 Z)) fun a117 S117 => y00 S117 Z Z Z (y02 S117 Z Z) fun a118 S118 => wpList_nil (hR _ (S118.re ⟨Z, Z, Z, Z, Z, Z, Z, Z, trivial⟩))) ?_
         clear hS a; intro a hS
         obtain ⟨r121, hr122, H⟩ := y0b H
         refine y0t (fun K hK => ?_)
         refine y00 hS Z Z Z (y03 hS Z Z) fun a119 S119 => y00 S119 Z Z Z (y03 S119 Z Z) fun a120 S120 => ?_
         refine y1y S120 Z Z Z (y2z S120 Z Z (by kernel_rfl)) (y2h.calls (c0 := c0) (b_p0 := b_p0) (y09 := y09) (y07 := y07) (y0v := y0v) (y0l := y0l) (y0q := y0q) (y0h := y0h) (p0 := m1_0) (p1 := x114) (g := g106) (N + 4)  ⟨hb0, y04, y0j, y0i⟩ (by omega) hr122) ?_
         rintro _ a123 w124 ⟨g124, rfl, F124⟩ S123
         replace h79 := OwS.fr h79 F124 (fun c' hc (hm : N + 4 ≤ c') => by omega)
         replace h94 := RdS.fr h94 F124 (by decide) (fun q (hq : q = c0 + 1 + 1) (hm : N + 4 ≤ q) => by omega)
         replace hb0 := hb0.fr F124 (fun (hm : N + 4 ≤ c0) => by omega)
         replace y04 := OwS.fr y04 F124 (fun c' hc (hm : N + 4 ≤ c') => by omega)
         replace y0j := OwS.fr y0j F124 (fun c' hc (hm : N + 4 ≤ c') => by omega)
         replace y0i := OwS.fr y0i F124 (fun c' hc (hm : N + 4 ≤ c') => by omega)
         replace hF := hF.trans F124 (fun c' (hm : N + 4 ≤ c') => by (try dsimp only); omega)
         refine wpList_nil (hK _ _ ?_)
         replace hS : Sl 61 _ [(0, .pointer (so b_p0)), (1, .int .u64 p1), (5, .slice A77 y75.length cap78), (7, .int .u64 r16.2), (9, i6 x114), (43, .slice A92 x89.suppliers.length cap93), (44, i6 (x89.suppliers.length : Int)), (45, i6 m1_1), (51, .bool r121)] := S123.re ⟨Z, Z, Z, Z, Z, Z, Z, Z, Z, trivial⟩
         clear hK K
         try clear S119 S120 S123
         generalize a123 = a at hS ⊢
         refine y2m hS Z (fun hb125 => ?_) (fun hb125 => ?_)
         ·replace H := y3f hb125 H
          obtain ⟨x132, hx133, H⟩ := y0b H
          refine y3l (fun K hK => ?_)
          refine y00 hS Z Z Z (y03 hS Z Z) fun a126 S126 => y00 S126 Z Z Z (y4s S126 Z Z) fun a127 S127 => y00 S127 Z Z Z (y1e (off := 0) S127 Z Z (by kernel_rfl)) fun a128 S128 => y00 S128 Z Z Z (y0u (n := 1) S128 Z Z (by kernel_rfl) (Bx.cell hb0 Z)) fun a129 S129 => y00 S129 Z Z Z (y03 S129 Z Z) fun a130 S130 => y00 S130 Z Z Z (y03 S130 Z Z) fun a131 S131 => ?_
          obtain ⟨_, ⟨A135, cap136, A139, cap140, rfl, h137, h141⟩, hel134⟩ := El.of (OwD.rdx y04) hx133 (by decide)
          replace hel134 : El w124 g124 (fun q => q = c0 + 1) y09 (x114.toNat * 6) [.int .u64 x132.delay, .slice A135 x132.suppliers.length cap136, .slice A139 x132.consumers.length cap140, .bool x132.active, i6 x132.count, .int .u64 x132.idle] := hel134
          refine y00 S131 Z Z Z (y1j (e := 88) (sz := 6) (by_ := 80) S131 Z Z Z (by kernel_rfl) (RdS.some_ (OwS.rd y04) hx133) (y26 hx133) (y27 hx133)) fun a144 S144 => y00 S144 Z Z Z (y2w (off := 5) S144 Z Z (by kernel_rfl)) fun a145 S145 => ?_
          refine y3s S145 Z Z (y4l (n := 1) (bb := false) (kd := y1h) (j := 5) (x' := ({ x132 with idle := r16.2 } : y0k)) (us := [.int .u64 r16.2]) g124 S145 Z Z Z Z (by kernel_rfl) Z Z (by intro v hv; simp only [List.mem_cons, List.not_mem_nil, or_false] at hv; rcases hv with rfl <;> rfl) y04 hx133 Z (fun _ _ cs hR => by obtain ⟨A0, cap0, A1, cap1, rfl, h0, h1⟩ := hR; exact ⟨A0, cap0, A1, cap1, rfl, h0, h1⟩)) ?_
          rintro a146 w147 g147 ⟨y04, F147⟩ S146
          replace h137 := RdS.fr h137 F147 (by decide) (fun q (hq : q = c0 + 1 + 1) (hm : q = c0 + 1) => by omega)
          replace h141 := RdS.fr h141 F147 (by decide) (fun q (hq : q = c0 + 1 + 1) (hm : q = c0 + 1) => by omega)
          replace h79 := OwS.fr h79 F147 (fun c' hc (hm : c' = c0 + 1) => by omega)
          replace h94 := RdS.fr h94 F147 (by decide) (fun q (hq : q = c0 + 1 + 1) (hm : q = c0 + 1) => by omega)
          replace hb0 := hb0.fr F147 (fun (hm : c0 = c0 + 1) => by omega)
          replace y0j := OwS.fr y0j F147 (fun c' hc (hm : c' = c0 + 1) => by omega)
          replace y0i := OwS.fr y0i F147 (fun c' hc (hm : c' = c0 + 1) => by omega)
          replace hF := hF.trans F147 (fun c' (hm : c' = c0 + 1) => by (try dsimp only); omega)
          replace hb0 : Bx w147 g147 (c0) b_p0 85 [.slice y09 (upd m1_0.devices x114 ({ x132 with idle := r16.2 } : y0k)).length y07, .slice y0v m1_0.links.length y0l, .slice y0q m1_0.order.length y0h, .int .u64 m1_0.now] := by simpa only [y1w] using hb0
          refine wpList_nil (hK _ _ ?_)
          replace hS : Sl 61 _ [(0, .pointer (so b_p0)), (1, .int .u64 p1), (5, .slice A77 y75.length cap78), (7, .int .u64 r16.2), (43, .slice A92 x89.suppliers.length cap93), (44, i6 (x89.suppliers.length : Int)), (45, i6 m1_1)] := S146.re ⟨Z, Z, Z, Z, Z, Z, Z, trivial⟩
          clear hK K
          try clear S126 S127 S128 S129 S130 S131 S144 S145 S146
          generalize a146 = a at hS ⊢
          have e := Option.some.inj H
          subst e
          exact ⟨g147, hS.re ⟨Z, Z, Z, Z, Z, Z, Z, trivial⟩, h79, h94, hb0, y04, y0j, y0i, hF⟩
         ·replace H := y3g hb125 H
          refine wp_skip ?_
          have e := Option.some.inj H
          subst e
          exact ⟨g124, hS.re ⟨Z, Z, Z, Z, Z, Z, Z, trivial⟩, h79, h94, hb0, y04, y0j, y0i, hF⟩
        ·clear H
         clear y04 y0j y0i hb0 h79 h94 hF
         clear hS
         rintro a w110 ⟨g110, hS, h79, h94, hb0, y04, y0j, y0i, hF⟩
         have H := Hl113
         clear Hl113
         refine y3e [(0, .pointer (so b_p0)), (1, .int .u64 p1), (5, .slice A77 y75.length cap78), (7, .int .u64 r16.2), (43, .slice A92 x89.suppliers.length cap93), (44, i6 (x89.suppliers.length : Int)), (45, i6 (wi (m1_1 + 1)))] (fun R hR => y00 hS Z Z Z (y2l hS Z Z rfl y4z) fun a148 S148 => y00 S148 Z Z Z (y03 S148 Z Z) fun a149 S149 => wpList_nil (hR _ (S149.re ⟨Z, Z, Z, Z, Z, Z, Z, trivial⟩))) ?_
         clear hS a; intro a hS
         refine ⟨k107, Nat.lt_succ_self _, ?_⟩
         exact ⟨v111, wi (m1_1 + 1), g110, H, hS.re ⟨Z, Z, Z, Z, Z, Z, Z, trivial⟩, h79, h94, hb0, y04, y0j, y0i, hF⟩
       ·replace H := y3g hb109 H
        refine wp_exit ?_
        have e := Option.some.inj H
        exact ⟨(m1_0, y75), g106, A77, cap78, e.symm, hS.re ⟨Z, Z, Z, trivial⟩, h79, hb0, y04, y0j, y0i, hF⟩
   ·clear H
    clear y04 y0j y0i hb0 h6 hF
    clear hS
    rintro a w8 ⟨v12, g8, A9, cap10, hpre0, hS, h11, hb0, y04, y0j, y0i, hF⟩
    subst hpre0
    have H := Fl.go_nxt Hl14
    clear Hl14
    refine ⟨k7, Nat.lt_succ_self _, ?_⟩
    exact ⟨v12.1, v12.2, g8, A9, cap10, H, hS.re ⟨Z, Z, Z, trivial⟩, h11, hb0, y04, y0j, y0i, hF⟩


end Go.Proofs.Ytcfcffbjdjacfaa.Sim
