/-
  Words of the walk for this seat's proofs, sixth file: what an argument reads as, opened as a plain value.
-/
import Derived.Test.YtfiodhdldleocaaSimE
import Derived.ProofKit
import Derived.OpenShut
import Derived.ChangeArms
import Derived.ChangeOld
import Derived.Below
import Derived.Carry
import Derived.SizedLaws
namespace Go.Proofs.Ytfiodhdldleocaa.Sim
open Go
set_option linter.unusedVariables false

/-- What type t reads as is a value of kind k. -/
def Opens {α : Type} (P : Program) (t : TypeId) (k : Kd α) (wf : α → Prop) : Prop :=
  ∀ {H : Type} (enc : TypeId × Value → H) (w : World) (held : Bool) (fuel : Nat) (cs : List Value) (x : DataW H × List MemPlace),
    DataW.trod enc P w 0 (fun _ => true) held fuel t cs = some x → ∃ a : α, k.R w (fun _ => 0) (· = 0) a cs ∧ wf a

theorem Opens.int {P : Program} {t : TypeId} {k : IntKind} (ht : P.underlying t = some (.int k)) : Opens P t (kint k) (fun n => (Lit.int k n).wf = true) := by
  intro H enc w held fuel cs x h
  obtain ⟨n, rfl, _, hw⟩ := DataW.trod_int ht h
  exact ⟨n, rfl, hw⟩

theorem Opens.bool {P : Program} {t : TypeId} (ht : P.underlying t = some .bool) : Opens P t kbool (fun _ => True) := by
  intro H enc w held fuel cs x h
  obtain ⟨n, rfl, _⟩ := DataW.trod_bool ht h
  exact ⟨n, rfl, trivial⟩

theorem Opens.slice {α : Type} {P : Program} {t e : TypeId} {k : Kd α} {wf : α → Prop} (ht : P.underlying t = some (.slice e)) (hk : 0 < k.sz) (hc : P.cellsOf e = k.sz) (he : Opens P e k wf) :
    Opens P t (kslice k hk) (fun xs => xs.length ≤ maxLen ∧ ∀ x ∈ xs, wf x) := by
  intro H enc w held fuel cs x h
  rcases DataW.trod_slice ht h with ⟨rfl, _⟩ | ⟨a, len, cap, elems, rest, n, _, rfl, _, _, hl, hm, hlen, hel, _, _⟩
  · exact ⟨[], ⟨none, 0, rfl, RdS.nil _ _ _ _⟩, by simp, by simp⟩
  · have each : ∀ i : Fin len, ∃ y cs', w.cells? 0 (a.add (i.val * k.sz)) k.sz = some cs' ∧ k.R w (fun _ => 0) (· = 0) y cs' ∧ wf y := by
      intro i
      have h1 := hel i.val i.isLt
      rw [hc, List.getElem?_eq_getElem (by rw [hlen]; exact i.isLt), Option.bind_eq_some_iff] at h1
      obtain ⟨cs', h2, h3⟩ := h1
      obtain ⟨y, h4, h5⟩ := he enc w held n cs' _ h3
      exact ⟨y, cs', h2, h4, h5⟩
    refine ⟨List.ofFn (fun i => (each i).choose), ⟨some a, cap, by simp, by simpa using hl, fun i y hy => ?_⟩, by simp; omega, fun y hy => ?_⟩
    · rw [List.getElem?_ofFn] at hy
      split at hy
      · rename_i hi
        injection hy with hy
        obtain ⟨cs', h1, h2, h3⟩ := (each ⟨i, hi⟩).choose_spec
        rw [hy] at h2
        refine ⟨a, cs', rfl, rfl, h2, fun j u hu => ?_⟩
        obtain ⟨_, hlen', hcell⟩ := World.cells?_some h1
        have hj : j < k.sz := by
          rcases Nat.lt_or_ge j k.sz with q | q
          · exact q
          · rw [List.getElem?_eq_none (by rw [k.len h2]; exact q)] at hu; cases hu
        have h4 := hcell j hj
        rw [add_add] at h4
        exact h4.trans hu
      · cases hy
    · obtain ⟨i, hi⟩ := List.mem_ofFn.1 hy
      obtain ⟨cs', h1, h2, h3⟩ := (each i).choose_spec
      rw [hi] at h3
      exact h3

theorem trod_field {H : Type} {enc : TypeId × Value → H} {P : Program} {w : World} {held : Bool} {m : Nat} {fs : Array Field} {cs : List Value} {xs : List (DataW H × List MemPlace)}
    (hf : ∀ (i : Nat) (f : Field), fs[i]? = some f → DataW.trod enc P w 0 (fun _ => true) held m f.type ((cs.drop f.offset).take (P.cellsOf f.type)) = xs[i]?) (hlen : xs.length = fs.size) (i : Nat) {f : Field} (hi : fs[i]? = some f) {n : Nat} (hn : P.cellsOf f.type = n) :
    ∃ y, DataW.trod enc P w 0 (fun _ => true) held m f.type ((cs.drop f.offset).take n) = some y := by
  have h := hf i f hi
  rw [hn] at h
  have hlt : i < xs.length := by
    rw [hlen]; exact (Array.getElem?_eq_some_iff.1 hi).1
  rw [List.getElem?_eq_getElem hlt] at h
  exact ⟨_, h⟩

theorem trod_elem {H : Type} {enc : TypeId × Value → H} {P : Program} {w : World} {held : Bool} {m e n sz : Nat} {cs : List Value} {xs : List (DataW H × List MemPlace)}
    (hf : ∀ (i : Nat), i < n → DataW.trod enc P w 0 (fun _ => true) held m e ((cs.drop (i * P.cellsOf e)).take (P.cellsOf e)) = xs[i]?) (hlen : xs.length = n) (i : Nat) (hi : i < n) (hn : P.cellsOf e = sz) :
    ∃ y, DataW.trod enc P w 0 (fun _ => true) held m e ((cs.drop (i * sz)).take sz) = some y := by
  have h := hf i hi
  rw [hn] at h
  rw [List.getElem?_eq_getElem (by rw [hlen]; exact hi)] at h
  exact ⟨_, h⟩

theorem Fr.below {w w' : World} {g' : Nat → Nat} (h : Fr (fun q => 1 ≤ q) w (fun _ => 0) w' g') : RowKit.Below w.heap.size w w' :=
  ⟨h.os, h.tape, h.output, h.size, fun b hb => (h.block b hb (by simp)).1⟩

end Go.Proofs.Ytfiodhdldleocaa.Sim
