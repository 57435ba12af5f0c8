/-
  Words of the walk for this seat's proofs, eighth file: a slice of slices each of which is the call's own.
  No condition: plain lemmas over any program.
-/
import Derived.Test.YtfiodhdldleocaaSimG
namespace Go.Proofs.Ytfiodhdldleocaa.Sim
open Go
set_option linter.unusedVariables false

/-- The fact of the kind speaks of no memory. -/
def Pl {α : Type} (k : Kd α) : Prop := ∀ (w w' : World) (g g' : Nat → Nat) (C C' : Nat → Prop) x cs, k.R w g C x cs → k.R w' g' C' x cs

/-- A slice of own slices: the headers hs, the contents xss; at the places in H the inner slice is held elsewhere. -/
structure OwM {α : Type} (k : Kd α) (T E : TypeId) (w : World) (g : Nat → Nat) (c : Nat) (A : Option Addr) (cap : Nat) (hs : List (Option Addr × Nat)) (xss : List (List α)) (H : Nat → Prop) : Prop where
  le : xss.length ≤ cap
  cm : cap ≤ maxLen
  hl : hs.length = xss.length
  outer : (A = none ∧ cap = 0) ∨ ∃ (b : Nat) (arr : Array Value), A = some ⟨b, 0, none⟩ ∧ w.heap[b]? = some (.cells arr T (0, 0)) ∧ g b = c ∧ arr.size = cap ∧ ∀ (i : Nat) (h : Option Addr × Nat) (xs : List α), hs[i]? = some h → xss[i]? = some xs → arr[i]? = some (Value.slice h.1 xs.length h.2)
  inner : ∀ (i : Nat) (h : Option Addr × Nat) (xs : List α), ¬ H i → hs[i]? = some h → xss[i]? = some xs → OwS k E w g (c + 1) h.1 h.2 xs
  apart : ∀ (i j : Nat) (hi hj : Option Addr × Nat) (bi bj : Addr), ¬ H i → ¬ H j → i ≠ j → hs[i]? = some hi → hs[j]? = some hj → hi.1 = some bi → hj.1 = some bj → bi.block ≠ bj.block

section
variable {P : Program} {a : Act} {w : World} {o : Oper} {N : Nat} {S : List (Nat × Value)} {α : Type} {k : Kd α} {T E : TypeId} {g : Nat → Nat} {c d : Nat} {A : Option Addr} {cap : Nat} {hs : List (Option Addr × Nat)} {xss : List (List α)} {H : Nat → Prop}

theorem OwM.fr {M : Nat → Prop} {w' : World} {g' : Nat → Nat} (m : OwM k T E w g c A cap hs xss H) (F : Fr M w g w' g') (h0 : ¬ M c) (h1 : ¬ M (c + 1)) (h2 : ¬ M (c + 2)) : OwM k T E w' g' c A cap hs xss H := by
  refine ⟨m.le, m.cm, m.hl, ?_, fun i h xs hn hi hx => OwD.fr (m.inner i h xs hn hi hx) F h1 (fun q e => by subst e; exact h2), m.apart⟩
  rcases m.outer with h | ⟨b, arr, rfl, hb, hg, hs', hc⟩
  · exact .inl h
  · have hlt := (Array.getElem?_eq_some_iff.1 hb).1
    obtain ⟨e1, e2⟩ := F.block b hlt (by rw [hg]; exact h0)
    exact .inr ⟨b, arr, rfl, e1.trans hb, e2.trans hg, hs', hc⟩

theorem OwM.hd (m : OwM k T E w g c A cap hs xss H) {i : Int} {x : List α} (hx : idx xss i = some x) : ∃ h, idx hs i = some h := by
  obtain ⟨h0, h1, h2⟩ := idx_some hx
  have hlt : i.toNat < hs.length := by rw [m.hl]; omega
  exact ⟨hs[i.toNat], by unfold idx; rw [if_pos h0, List.getElem?_eq_getElem hlt]⟩

theorem OwM.some_ (m : OwM k T E w g c A cap hs xss H) {i : Int} {x : List α} (hx : idx xss i = some x) : ∃ ad, A = some ad := by
  obtain ⟨h0, h1, h2⟩ := idx_some hx
  rcases m.outer with ⟨rfl, h⟩ | ⟨b, arr, rfl, _⟩
  · have := m.le; omega
  · exact ⟨_, rfl⟩

theorem OwM.cell (m : OwM k T E w g c A cap hs xss H) {i : Int} {x : List α} {h : Option Addr × Nat} (hx : idx xss i = some x) (hh : idx hs i = some h) : w.cell? (ea A (i.toNat * 1)) = some (.slice h.1 x.length h.2) := by
  obtain ⟨h0, h1, h2⟩ := idx_some hx
  obtain ⟨_, _, h3⟩ := idx_some hh
  rcases m.outer with ⟨rfl, h⟩ | ⟨b, arr, rfl, hb, _, _, hc⟩
  · have := m.le; omega
  · rw [ea_some, cell_of_row w b _ arr T (0, 0) hb, Nat.zero_add, Nat.mul_one]
    exact hc _ _ _ h3 h2

theorem OwM.row (m : OwM k T E w g c A cap hs xss (fun _ => False)) {i : Int} {x : List α} {h : Option Addr × Nat} (hx : idx xss i = some x) (hh : idx hs i = some h) : OwS k E w g (c + 1) h.1 h.2 x :=
  m.inner _ _ _ (fun h => h) (idx_some hh).2.2 (idx_some hx).2.2

def dyeA (g : Nat → Nat) (A : Option Addr) (d : Nat) : Nat → Nat := match A with | none => g | some ad => dye g ad.block d

/-- The inner slice at i is taken out: it gets the colour d. -/
theorem OwM.take (hk : Pl k) (m : OwM k T E w g c A cap hs xss (fun _ => False)) {i : Int} {x : List α} {h : Option Addr × Nat} (hx : idx xss i = some x) (hh : idx hs i = some h) (d : Nat) (hd : d ≠ c ∧ d ≠ c + 1) :
    OwS k E w (dyeA g h.1 d) d h.1 h.2 x ∧ OwM k T E w (dyeA g h.1 d) c A cap hs xss (fun j => j = i.toNat) ∧ Fr (fun q => q = c + 1) w g w (dyeA g h.1 d) := by
  obtain ⟨_, _, hx'⟩ := idx_some hx
  obtain ⟨_, _, hh'⟩ := idx_some hh
  have hrow := m.row hx hh
  have keep : ∀ b, (∀ ad, h.1 = some ad → b ≠ ad.block) → dyeA g h.1 d b = g b := by
    intro b hb
    cases e : h.1 with
    | none => rfl
    | some ad => exact dye_other (hb ad e)
  have hgc : ∀ ad, h.1 = some ad → g ad.block = c + 1 := by
    intro ad e
    rcases hrow.2.2 with ⟨e2, _⟩ | ⟨b, arr, e2, _, hg, _⟩
    · rw [e2] at e; cases e
    · rw [e2] at e; injection e with e; subst e; exact hg
  refine ⟨⟨hrow.1, hrow.2.1, ?_⟩, ⟨m.le, m.cm, m.hl, ?_, ?_, ?_⟩, ⟨rfl, rfl, rfl, Nat.le_refl _, fun b hb hm => ⟨rfl, keep b (fun ad e e2 => hm (by subst e2; exact hgc ad e))⟩⟩⟩
  · rcases hrow.2.2 with hn | ⟨b, arr, e, hb, hg, hs', hr⟩
    · exact .inl hn
    · refine .inr ⟨b, arr, e, hb, by rw [e]; exact dye_same g b d, hs', hr.1, fun j y hy => hk _ _ _ _ _ _ _ _ (hr.2 j y hy)⟩
  · rcases m.outer with hn | ⟨b, arr, e, hb, hg, hs', hc⟩
    · exact .inl hn
    · refine .inr ⟨b, arr, e, hb, ?_, hs', hc⟩
      rw [keep b (fun ad e2 e3 => by have := hgc ad e2; rw [← e3, hg] at this; omega)]; exact hg
  · intro j h' xs hj hhj hxj
    have hin := m.inner j h' xs (fun h => h) hhj hxj
    refine ⟨hin.1, hin.2.1, ?_⟩
    rcases hin.2.2 with hn | ⟨b, arr, e, hb, hg, hs', hr⟩
    · exact .inl hn
    · refine .inr ⟨b, arr, e, hb, ?_, hs', hr.1, fun j y hy => hk _ _ _ _ _ _ _ _ (hr.2 j y hy)⟩
      rw [keep b (fun ad e2 e3 => m.apart j i.toNat h' h _ _ (fun h => h) (fun h => h) hj hhj hh' e e2 e3)]; exact hg
  · intro p q hp hq bp bq h1 h2
    exact m.apart p q hp hq bp bq (fun h => h) (fun h => h)

theorem getElem?_set_ne' {β : Type} {l : List β} {i j : Nat} {y : β} (h : i ≠ j) : (l.set i y)[j]? = l[j]? := by
  rw [List.getElem?_set]; simp [h]
theorem getElem?_set_self' {β : Type} {l : List β} {i : Nat} {y z : β} (h : l[i]? = some z) : (l.set i y)[i]? = some y := by
  have := (List.getElem?_eq_some_iff.1 h).1
  rw [List.getElem?_set]; simp [this]

/-- What was taken out is put back. -/
theorem OwM.put (hk : Pl k) {i : Int} {x ys : List α} {h : Option Addr × Nat} {A' : Option Addr} {cap' : Nat} {w' : World} (m : OwM k T E w g c A cap hs xss (fun j => j = i.toNat)) (hx : idx xss i = some x) (hh : idx hs i = some h) (hd : d ≠ c ∧ d ≠ c + 1)
    (hn : OwS k E w g d A' cap' ys) (hw : ∀ b, g b ≠ c → w'.heap[b]? = w.heap[b]?) (ho : ∀ b arr, A = some ⟨b, 0, none⟩ → w.heap[b]? = some (.cells arr T (0, 0)) → w'.heap[b]? = some (.cells (arr.setIfInBounds i.toNat (.slice A' ys.length cap')) T (0, 0))) :
    OwM k T E w' (recol g d (c + 1)) c A cap (upd hs i (A', cap')) (upd xss i ys) (fun _ => False) := by
  obtain ⟨h0, h1, hx'⟩ := idx_some hx
  obtain ⟨_, _, hh'⟩ := idx_some hh
  have hre : ∀ b, g b ≠ d → recol g d (c + 1) b = g b := fun b hb => by rw [recol_eq, if_neg hb]
  have hin : ∀ j h' xs', j ≠ i.toNat → hs[j]? = some h' → xss[j]? = some xs' → OwS k E w' (recol g d (c + 1)) (c + 1) h'.1 h'.2 xs' := by
    intro j h' xs' hj hhj hxj
    have q := m.inner j h' xs' hj hhj hxj
    refine ⟨q.1, q.2.1, ?_⟩
    rcases q.2.2 with hn | ⟨b, arr, e, hb, hg, hs', hr⟩
    · exact .inl hn
    · refine .inr ⟨b, arr, e, ?_, ?_, hs', hr.1, fun j y hy => hk _ _ _ _ _ _ _ _ (hr.2 j y hy)⟩
      · rw [hw b (by omega)]; exact hb
      · rw [hre b (by omega)]; exact hg
  refine ⟨by rw [upd_length]; exact m.le, m.cm, by rw [upd_length, upd_length]; exact m.hl, ?_, ?_, ?_⟩
  · rcases m.outer with q | ⟨b, arr, rfl, hb, hg, hs', hc⟩
    · exact .inl q
    · refine .inr ⟨b, _, rfl, ho b arr rfl hb, ?_, by simpa using hs', ?_⟩
      · rw [hre b (by omega)]; exact hg
      · intro j h' xs' hhj hxj
        unfold upd at hhj hxj
        by_cases e : j = i.toNat
        · subst e
          rw [getElem?_set_self' hh'] at hhj
          rw [getElem?_set_self' hx'] at hxj
          injection hhj with e1; injection hxj with e2; subst e1; subst e2
          rw [Array.getElem?_setIfInBounds, if_pos rfl]
          have : i.toNat < arr.size := by have := m.le; omega
          simp [this]
        · rw [getElem?_set_ne' (Ne.symm e)] at hhj hxj
          rw [Array.getElem?_setIfInBounds, if_neg (Ne.symm e)]
          exact hc j h' xs' hhj hxj
  · intro j h' xs' _ hhj hxj
    unfold upd at hhj hxj
    by_cases e : j = i.toNat
    · subst e
      rw [getElem?_set_self' hh'] at hhj
      rw [getElem?_set_self' hx'] at hxj
      injection hhj with e1; injection hxj with e2; subst e1; subst e2
      refine ⟨hn.1, hn.2.1, ?_⟩
      rcases hn.2.2 with q | ⟨b, arr, e, hb, hg, hs', hr⟩
      · exact .inl q
      · refine .inr ⟨b, arr, e, ?_, ?_, hs', hr.1, fun j y hy => hk _ _ _ _ _ _ _ _ (hr.2 j y hy)⟩
        · rw [hw b (by omega)]; exact hb
        · rw [recol_eq, if_pos hg]
    · rw [getElem?_set_ne' (Ne.symm e)] at hhj hxj
      exact hin j h' xs' e hhj hxj
  · have col : ∀ j h' bj, j ≠ i.toNat → hs[j]? = some h' → h'.1 = some bj → g bj.block = c + 1 := by
      intro j h' bj hj hhj e
      have hlt : j < xss.length := by rw [← m.hl]; exact (List.getElem?_eq_some_iff.1 hhj).1
      have q := m.inner j h' _ hj hhj (List.getElem?_eq_getElem hlt)
      rcases q.2.2 with ⟨e2, _⟩ | ⟨b, arr, e2, _, hg, _⟩
      · rw [e2] at e; cases e
      · rw [e2] at e; injection e with e; subst e; exact hg
    have colN : ∀ bj, A' = some bj → g bj.block = d := by
      intro bj e
      rcases hn.2.2 with ⟨e2, _⟩ | ⟨b, arr, e2, _, hg, _⟩
      · rw [e2] at e; cases e
      · rw [e2] at e; injection e with e; subst e; exact hg
    intro p q hp hq bp bq _ _ hpq hhp hhq e1 e2
    unfold upd at hhp hhq
    by_cases ep : p = i.toNat
    · subst ep
      rw [getElem?_set_self' hh'] at hhp
      rw [getElem?_set_ne' hpq] at hhq
      injection hhp with e3; subst e3
      have c1 := colN bp e1
      have c2 := col q hq bq (Ne.symm hpq) hhq e2
      intro e; rw [e] at c1; omega
    · rw [getElem?_set_ne' (Ne.symm ep)] at hhp
      by_cases eq : q = i.toNat
      · subst eq
        rw [getElem?_set_self' hh'] at hhq
        injection hhq with e3; subst e3
        have c1 := colN bq e2
        have c2 := col p hp bp hpq hhp e1
        intro e; rw [e] at c2; omega
      · rw [getElem?_set_ne' (Ne.symm eq)] at hhq
        exact m.apart p q hp hq bp bq ep eq hpq hhp hhq e1 e2

/-- A header is stored: what was held at the colour d is now the inner slice at i. -/
theorem e_storeM (hk : Pl k) {U n : Nat} {x y : Operand} {off : Nat} {i : Int} {x0 ys : List α} {h : Option Addr × Nat} {A' : Option Addr} {cap' : Nat} (g : Nat → Nat) (hS : Sl N a S) (ho : o.op = .store U x y) (hx : ev S x = some (.pointer (some (ea A off)))) (hoff : off = i.toNat * 1) (hy : ev S y = some (.slice A' ys.length cap')) (ht : tsz P U = some (n, false)) (hn : n = 1)
    (m : OwM k T E w g c A cap hs xss (fun j => j = i.toNat)) (hi : idx xss i = some x0) (hh : idx hs i = some h) (hnew : OwS k E w g d A' cap' ys) (hd : d ≠ c ∧ d ≠ c + 1) :
    EffS P a o w fun w' g' => OwM k T E w' g' c A cap (upd hs i (A', cap')) (upd xss i ys) (fun _ => False) ∧ Fr (fun q => q = c ∨ q = d) w g w' g' := by
  obtain ⟨h0, h1, hx'⟩ := idx_some hi
  subst hn; subst hoff
  rcases m.outer with ⟨_, hz⟩ | ⟨b, arr, rfl, hb, hg, hs', hc⟩
  · have := m.le; omega
  have hlt : i.toNat < arr.size := by have := m.le; omega
  have hr := run_store_at (w := w) (u := .slice A' ys.length cap') (us := [.slice A' ys.length cap']) (bl := b) (j := i.toNat * 1) ht rfl rfl (by simp [Value.oneCell']) hb (by simp; omega)
  have hspl : (splice arr.toList (i.toNat * 1) [.slice A' ys.length cap']).toArray = arr.setIfInBounds i.toNat (.slice A' ys.length cap') := by
    apply Array.toList_inj.1
    simp only [Array.toList_setIfInBounds, splice, List.length_singleton, Nat.mul_one]
    rw [List.set_eq_take_append_cons_drop, if_pos (by simpa using hlt)]
    simp
  rw [hspl] at hr
  have F : Fr (fun q => q = c) w g (w.setRow b (arr.setIfInBounds i.toNat (.slice A' ys.length cap'))) g := Fr.setRow w g b _ hg
  refine ⟨w.setRow b (arr.setIfInBounds i.toNat (.slice A' ys.length cap')), recol g d (c + 1), ?_, OwM.put hk m hi hh hd hnew (fun b' hb' => setRow_other w b b' _ (fun e => hb' (e ▸ hg))) (fun b' arr' e hb' => ?_), ?_⟩
  · unfold execOp
    simp only [Nat.mul_one] at hr
    simp only [ho, hS.ev hx, hS.ev hy, ea_some, Nat.zero_add, Nat.mul_one]
    simp [hr]
  · injection e with e; injection e with e; subst e
    rw [hb] at hb'; injection hb' with e; injection e with e; subst e
    exact setRow_heap w b _ _ T (0, 0) hb
  · exact (F.mono (fun _ h => .inl h)).trans (Fr.recol (M := fun q => q = c ∨ q = d) _ g d (c + 1) (.inr rfl)) (fun _ h => h)

theorem fresh_col (w : World) (g : Nat → Nat) (c : Nat) : ∃ d, c < d ∧ ∀ b, b < w.heap.size → g b ≠ d := by
  have key : ∀ n, ∃ d, c < d ∧ ∀ b, b < n → g b < d := by
    intro n
    induction n with
    | zero => exact ⟨c + 1, Nat.lt_succ_self _, by simp⟩
    | succ n ih =>
      obtain ⟨d, h1, h2⟩ := ih
      refine ⟨max d (g n + 1), by omega, fun b hb => ?_⟩
      by_cases e : b = n
      · subst e; omega
      · have := h2 b (by omega); omega
  obtain ⟨d, h1, h2⟩ := key w.heap.size
  exact ⟨d, h1, fun b hb => by have := h2 b hb; omega⟩

/-- A cell of an inner slice is stored. -/
theorem e_storeMM (hk : Pl k) {U n : Nat} {bb : Bool} {x y : Operand} {i j : Int} {x0 : List α} {y0 y' : α} {h : Option Addr × Nat} {off : Nat} {u : Value} {us : List Value} (g : Nat → Nat) (hS : Sl N a S) (ho : o.op = .store U x y) (hx : ev S x = some (.pointer (some (ea h.1 off)))) (hoff : off = j.toNat * k.sz)
    (hy : ev S y = some u) (ht : tsz P U = some (n, bb)) (hu : u.cells.toList = us) (hn : us.length = n) (m : OwM k T E w g c A cap hs xss (fun _ => False)) (hi : idx xss i = some x0) (hh : idx hs i = some h) (hj : idx x0 j = some y0) (hR : ∀ w g D, k.R w g D y' us) :
    EffS P a o w fun w' g' => OwM k T E w' g' c A cap hs (upd xss i (upd x0 j y')) (fun _ => False) ∧ Fr (fun q => q = c + 1) w g w' g' := by
  obtain ⟨d, hd1, hd2⟩ := fresh_col w g (c + 2)
  obtain ⟨h1, h2, h3⟩ := m.take hk hi hh d ⟨by omega, by omega⟩
  obtain ⟨w', g2, e1, e2, e3⟩ := e_storeW (P := P) (dyeA g h.1 d) hS ho hx hoff hy ht hu hn h1 (fun q (e : q = d + 1) => by omega) hj (hR w _ _)
  have h4 := h2.fr e3 (by omega) (by omega) (by omega)
  obtain ⟨_, _, hh'⟩ := idx_some hh
  have hset : upd hs i (h.1, h.2) = hs := by
    unfold upd
    apply List.ext_getElem?
    intro q
    by_cases e : q = i.toNat
    · subst e; rw [getElem?_set_self' hh']; exact hh'.symm
    · rw [getElem?_set_ne' (Ne.symm e)]
  have h5 := OwM.put (w' := w') hk h4 hi hh ⟨by omega, by omega⟩ e2 (fun _ _ => rfl) (fun b arr e hb => by
    rw [hb]
    congr 2
    apply Array.ext_getElem?
    intro q
    rw [Array.getElem?_setIfInBounds]
    by_cases e4 : i.toNat = q
    · subst e4
      rw [if_pos rfl]
      rcases h4.outer with ⟨q1, _⟩ | ⟨b', arr', q1, q2, _, q3, q4⟩
      · rw [q1] at e; cases e
      · rw [q1] at e; injection e with e; injection e with e; subst e
        rw [q2] at hb; injection hb with hb; injection hb with hb; subst hb
        have := q4 _ _ _ hh' (idx_some hi).2.2
        rw [this, upd_length]
        have hlt := (Array.getElem?_eq_some_iff.1 this).1
        simp [hlt]
    · rw [if_neg e4])
  rw [hset] at h5
  refine ⟨w', recol g2 d (c + 1), e1, h5, ?_⟩
  refine ⟨e3.os, e3.tape, e3.output, e3.size, fun b hb hm => ?_⟩
  obtain ⟨q1, q2⟩ := h3.block b hb hm
  obtain ⟨q3, q4⟩ := e3.block b hb (by rw [q2]; exact hd2 b hb)
  refine ⟨q3, ?_⟩
  rw [recol_eq, q4, q2, if_neg (hd2 b hb)]

/-- A new slice of nil slices. -/
theorem e_makeM (k : Kd α) {T e sz by_ E : Nat} {x : Operand} {ik : IntKind} {n : Int} {xss : List (List α)} (c : Nat) (g : Nat → Nat) (hS : Sl N a S) (ho : o.op = .makeSlice T x x)
    (hx : ev S x = some (.int ik n)) (ht : elemInfo P T = some (e, sz, by_)) (hz : zcells P e = some [.slice none 0 0]) (hsz : sz = 1) (hby : Nat.ble by_ 32768 = true) (hxs : mk n ([] : List α) = some xss) :
    Eff P a o w fun v w' g' => (∃ A cap hs, v = .slice A xss.length cap ∧ OwM k e E w' g' c A cap hs xss (fun _ => False)) ∧ Fr (fun _ => False) w g w' g' := by
  have hby' : by_ ≤ 32768 := by simpa [Nat.ble_eq] using hby
  obtain ⟨h0, h1, rfl⟩ := mk_some hxs
  obtain ⟨hu, i, hi, hi1, hi2⟩ := elemInfo_spec ht
  unfold zcells at hz
  rw [hi] at hz
  simp only [Option.bind_some, Option.map_eq_some_iff] at hz
  obtain ⟨zv, hz2, hz3⟩ := hz
  obtain ⟨m, rfl⟩ := Int.eq_ofNat_of_zero_le h0
  have hm : m ≤ 4294967296 := by omega
  have hbb : (i.bytes : Int) * (m : Int) ≤ 281474976710656 := by
    have h : i.bytes * m ≤ 32768 * 4294967296 := Nat.mul_le_mul (by omega) hm
    rw [← Int.natCast_mul]
    omega
  have hrun := run_make (P := P) w T e i zv hu hi hz2 ik ik m m h0 (Int.le_refl _) hbb (by omega)
  simp only [Int.toNat_natCast] at hrun
  refine ⟨_, w.alloc (.cells (madeCells zv.cells (m * i.size)) e), dye g w.heap.size c, ?_, ⟨some ⟨w.heap.size, 0, none⟩, m, List.replicate m (none, 0), rfl, ?_⟩, Fr.alloc _ w g _ c⟩
  · unfold execOp
    simp only [ho, hS.ev hx]
    refine r_value ?_
    rw [hrun]
    simp
  · have hsz' : i.size = 1 := by omega
    have hzv : zv.cells = #[.slice none 0 0] := Array.toList_inj.1 hz3
    refine ⟨by simp, by simp [maxLen]; omega, by simp, .inr ⟨w.heap.size, _, rfl, heap_alloc_new w _, dye_same g _ c, by simp [madeCells, hsz'], ?_⟩, ?_, ?_⟩
    · intro j h' xs hh hx'
      simp only [Int.toNat_natCast] at hh hx'
      rw [List.getElem?_replicate] at hh hx'
      split at hh
      · rename_i hj
        rw [if_pos hj] at hx'
        injection hh with hh; injection hx' with hx'; subst hh; subst hx'
        simp [madeCells, hzv, hsz', hj, Nat.mod_one]
      · cases hh
    · intro j h' xs _ hh hx'
      rw [List.getElem?_replicate] at hh hx'
      split at hh
      · injection hh with hh; subst hh
        split at hx'
        · injection hx' with hx'; subst hx'; exact OwS.nil _ _ _ _ _
        · cases hx'
      · cases hh
    · intro p q hp hq bp bq _ _ _ hhp _ e1 _
      rw [List.getElem?_replicate] at hhp
      split at hhp
      · injection hhp with hhp; subst hhp; cases e1
      · cases hhp

/-- From now on it is only read. -/
theorem OwM.toS (hk : Pl k) (hsz : 0 < k.sz) (m : OwM k T E w g c A cap hs xss (fun _ => False)) : OwS (kslice k hsz) T w g c A cap xss := by
  refine ⟨m.le, m.cm, ?_⟩
  rcases m.outer with q | ⟨b, arr, rfl, hb, hg, hs', hc⟩
  · exact .inl q
  · refine .inr ⟨b, arr, rfl, hb, hg, by simpa [kslice] using hs', ?_⟩
    have hle := m.le
    refine ⟨by simp [kslice]; omega, fun i x hx => ?_⟩
    have hlt := (List.getElem?_eq_some_iff.1 hx).1
    have hh : hs[i]? = some (hs[i]'(by rw [m.hl]; exact hlt)) := List.getElem?_eq_getElem _
    have hin := m.inner i _ x (fun h => h) hh hx
    refine ⟨_, _, ?_, OwD.rdf (fun w g C C' x cs h => hk _ _ _ _ _ _ _ _ h) hin⟩
    have h1 := hc i _ x hh hx
    apply List.ext_getElem?
    intro q
    rw [List.getElem?_take]
    split
    · rename_i hq
      have : q = 0 := by simp [kslice] at hq; omega
      subst this
      rw [List.getElem?_drop, List.getElem?_take, if_pos (by simp [kslice]; omega)]
      simpa [kslice] using h1
    · rename_i hq
      rw [List.getElem?_eq_none (by simp [kslice] at hq ⊢; omega)]

end
end Go.Proofs.Ytfiodhdldleocaa.Sim
