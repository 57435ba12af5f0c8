/-
  Texts of this session, part 5 of 5: the words of the walk, plain functions with the same answers as the Go functions and the proofs of it, plain lemmas. No condition.
  They are, one behind the other: S7 PuBounds.
-/
import Derived.Test.YthmjgadmadlpkaaZResumeBounds4

namespace Go.Proofs.Ythmjgadmadlpkaa.Sim
open Go
set_option linter.unusedVariables false
set_option maxRecDepth 100000

/-! ### sums -/

def sumB {α : Type} (f : α → Int) : List α → Int
  | [] => 0
  | a :: t => f a + sumB f t
theorem sumB_append {α : Type} (f : α → Int) : ∀ (a b : List α), sumB f (a ++ b) = sumB f a + sumB f b
  | [], b => by simp [sumB]
  | x :: a, b => by simp only [List.cons_append, sumB, sumB_append f a b]; omega
theorem sumB_perm {α : Type} (f : α → Int) {a b : List α} (h : a.Perm b) : sumB f a = sumB f b := by
  induction h with
  | nil => rfl
  | cons x _ ih => simp only [sumB, ih]
  | swap x y l => simp only [sumB]; omega
  | trans _ _ i j => rw [i, j]
theorem sumB_congr {α : Type} {f g : α → Int} : ∀ {a : List α}, (∀ x ∈ a, f x = g x) → sumB f a = sumB g a
  | [], _ => rfl
  | x :: a, h => by simp only [sumB]; rw [h x (by simp), sumB_congr (a := a) (fun y hy => h y (by simp [hy]))]
theorem sumB_map {α β : Type} (f : β → Int) (q : α → β) : ∀ (a : List α), sumB f (a.map q) = sumB (fun x => f (q x)) a
  | [] => rfl
  | x :: a => by simp only [List.map_cons, sumB, sumB_map f q a]

/-- The latest end of slots. -/
structure Mks (out : List api_Slot) (T : Int) : Prop where
  t0 : 0 ≤ T
  le : ∀ x ∈ out, x.End ≤ T
  ex : T = 0 ∨ ∃ x ∈ out, x.End = T
theorem Mks.uniq {out : List api_Slot} {T U : Int} (a : Mks out T) (b : Mks out U) : T = U := by
  have h1 := a.t0
  have h2 := b.t0
  have h3 : T ≤ U := by
    rcases a.ex with h | ⟨x, hx, h⟩
    · omega
    · have := b.le x hx; omega
  have h4 : U ≤ T := by
    rcases b.ex with h | ⟨x, hx, h⟩
    · omega
    · have := a.le x hx; omega
  omega
theorem Mks.nil : Mks [] 0 := ⟨Int.le_refl _, by simp, .inl rfl⟩
theorem Mks.snoc {out : List api_Slot} {T U : Int} (a : Mks out T) {x : api_Slot} (h : U = max T x.End) : Mks (out ++ [x]) U := by
  have := a.t0
  refine ⟨by omega, fun y hy => ?_, ?_⟩
  · rcases List.mem_append.1 hy with h' | h'
    · have := a.le y h'; omega
    · simp only [List.mem_singleton] at h'; subst h'; omega
  · by_cases c : T ≤ x.End
    · exact .inr ⟨x, by simp, by omega⟩
    · rcases a.ex with h' | ⟨y, hy, h'⟩
      · exact .inl (by omega)
      · exact .inr ⟨y, by simp [hy], by omega⟩
theorem makespan_ok (out : List api_Slot) (hl : out.length ≤ 4294967296) : ∃ T, resume_Makespan.f out = some T ∧ Mks out T := by
  unfold resume_Makespan.f
  have key : ∃ T, resume_Makespan.l0 out FUEL 0 0 = some T ∧ Mks out T := by
    refine loop_c (L := fun k (s : Int) i => resume_Makespan.l0 out k s i) out.length (fun i s => Mks (out.take i) s) (fun o => ∃ T, o = some T ∧ Mks out T) ?_ ?_ FUEL 0 0 (Nat.zero_le _) (FUEL_pos (by omega)) (by simpa using Mks.nil)
    · intro k s i hi hI
      rw [resume_Makespan.l0, if_pos (by simp; omega), idx_get hi, Option.bind_some]
      refine .inl ⟨max s out[i].End, ?_, by rw [wi_succ (by omega)]⟩
      rw [List.take_succ_eq_append_getElem hi]
      exact hI.snoc rfl
    · intro k s hI
      rw [resume_Makespan.l0, if_neg (by simp)]
      rw [List.take_length] at hI
      exact ⟨s, rfl, hI⟩
  obtain ⟨T, e, h⟩ := key
  rw [e]
  exact ⟨T, rfl, h⟩

/-- The longest chains that end at the devices. -/
structure CPath (n : Nat) (ls : List api_Link) (du h : Int → Int) : Prop where
  lo : ∀ d : Int, 0 ≤ d → d < n → du d ≤ h d
  ge : ∀ l ∈ ls, h l.Supplier + du l.Consumer ≤ h l.Consumer
  ex : ∀ d : Int, 0 ≤ d → d < n → h d = du d ∨ ∃ l ∈ ls, l.Consumer = d ∧ h d = h l.Supplier + du d
structure CMax (n : Nat) (h : Int → Int) (c : Int) : Prop where
  c0 : 0 ≤ c
  le : ∀ d : Int, 0 ≤ d → d < n → h d ≤ c
  ex : c = 0 ∨ ∃ d : Int, 0 ≤ d ∧ d < n ∧ h d = c
/-- Along the order. -/
theorem ord_ind {n : Nat} {ls : List api_Link} (hfull : ¬ (ord n ls).length < n) {P : Int → Prop} (h : ∀ d : Int, 0 ≤ d → d < n → (∀ l ∈ ls, l.Consumer = d → P l.Supplier) → P d) : ∀ d : Int, 0 ≤ d → d < n → P d := by
  have key : ∀ out, Run n ls out → ∀ v ∈ out, P v := by
    intro out ho
    induction ho with
    | nil => simp
    | @snoc out v ho hv ih =>
      intro u hu
      rcases List.mem_append.1 hu with hu | hu
      · exact ih u hu
      · simp only [List.mem_singleton] at hu; subst hu
        obtain ⟨h0, h1, h2, _⟩ := least_some hv
        obtain ⟨_, h3⟩ := free_iff.1 h2
        exact h u h0 h1 fun l hl hc => ih _ (h3 l hl hc)
  exact fun d h0 h1 => key _ (ord_run n ls).1 d (ord_full hfull h0 h1)
theorem CPath.le {n : Nat} {ls : List api_Link} {du h h' : Int → Int} (g : GoodG n ls) (hfull : ¬ (ord n ls).length < n) (a : CPath n ls du h) (b : CPath n ls du h') : ∀ d : Int, 0 ≤ d → d < n → h d ≤ h' d :=
  ord_ind hfull fun d d0 d1 ih => by
    rcases a.ex d d0 d1 with e | ⟨l, hl, hc, e⟩
    · have := b.lo d d0 d1; omega
    · have h1 := ih l hl hc
      have h2 := b.ge l hl
      rw [hc] at h2
      omega
theorem CPath.uniq {n : Nat} {ls : List api_Link} {du h h' : Int → Int} (g : GoodG n ls) (hfull : ¬ (ord n ls).length < n) (a : CPath n ls du h) (b : CPath n ls du h') {c c' : Int} (ca : CMax n h c) (cb : CMax n h' c') : c = c' := by
  have h1 := a.le g hfull b
  have h2 := b.le g hfull a
  have h3 := ca.c0
  have h4 := cb.c0
  have : c ≤ c' := by
    rcases ca.ex with e | ⟨d, d0, d1, e⟩
    · omega
    · have := h1 d d0 d1; have := cb.le d d0 d1; omega
  have : c' ≤ c := by
    rcases cb.ex with e | ⟨d, d0, d1, e⟩
    · omega
    · have := h2 d d0 d1; have := ca.le d d0 d1; omega
  omega

structure CPush (n : Nat) (ls : List api_Link) (du : Int → Int) (done : List Int) (E : Int → Int) (most : Int) : Prop where
  lo : ∀ d ∈ done, du d ≤ E d
  ex : ∀ d ∈ done, E d = du d ∨ ∃ l ∈ ls, l.Consumer = d ∧ E d = E l.Supplier + du d
  ge : ∀ l ∈ ls, l.Supplier ∈ done → (l.Consumer ∈ done → E l.Supplier + du l.Consumer ≤ E l.Consumer) ∧ (l.Consumer ∉ done → E l.Supplier ≤ E l.Consumer)
  nd : ∀ d, d ∉ done → E d = 0 ∨ ∃ l ∈ ls, l.Consumer = d ∧ l.Supplier ∈ done ∧ E d = E l.Supplier
  bd : ∀ d, 0 ≤ E d ∧ E d ≤ done.length * 9007199254740992
  m0 : 0 ≤ most
  ml : ∀ d ∈ done, E d ≤ most
  mx : most = 0 ∨ ∃ d ∈ done, E d = most

/-- What one pass over the links has pushed. -/
structure Pass (n : Nat) (ls : List api_Link) (done : List Int) (E : Int → Int) (x ex : Int) (i : Nat) (F : Int → Int) : Prop where
  at_ : F x = ex
  up : ∀ d, d ≠ x → E d ≤ F d
  in_ : ∀ d ∈ done, F d = E d
  lk : ∀ l ∈ ls.take i, l.Supplier = x → ex ≤ F l.Consumer
  or_ : ∀ d, d ≠ x → F d = E d ∨ ((∃ l ∈ ls, l.Supplier = x ∧ l.Consumer = d) ∧ F d = ex)

theorem critical_l1 {n : Nat} {ls : List api_Link} (g : GoodG n ls) {done : List Int} (hr : Run n ls done) {x : Int} (hx : least n ls done = some x) {E : Int → Int} {el : List Int} {ex : Int} (most y : Int) (hE : RepV n el (fset E x ex)) :
    ∃ el' F, resume_CriticalPath.l1 ls most x y FUEL el 0 = some (el', max most y) ∧ RepV n el' F ∧ Pass n ls done E x ex ls.length F := by
  obtain ⟨x0, x1, x2, _⟩ := least_some hx
  obtain ⟨x3, x4⟩ := free_iff.1 x2
  have hll := g.len
  refine loop_c (L := fun k (s : List Int) i => resume_CriticalPath.l1 ls most x y k s i) ls.length (fun i s => ∃ F, RepV n s F ∧ Pass n ls done E x ex i F)
    (fun o => ∃ el' F, o = some (el', max most y) ∧ RepV n el' F ∧ Pass n ls done E x ex ls.length F) ?_ ?_ FUEL 0 el (Nat.zero_le _) (FUEL_pos (by omega)) ⟨_, hE, fset_self _ _ _, fun d hd => by rw [fset_ne _ _ hd]; omega, fun d hd => fset_ne _ _ (fun e => x3 (e ▸ hd)), by simp, fun d hd => .inl (fset_ne _ _ hd)⟩
  · rintro k s i hi ⟨F, h1, p1, p2, p3, p4, p5⟩
    have hm := List.getElem_mem hi
    have hc := g.c0 _ hm
    rw [resume_CriticalPath.l1, if_pos (by simp; omega), idx_get hi, Option.bind_some]
    by_cases e : ls[i].Supplier = x
    · have hcx : ls[i].Consumer ≠ x := fun h => x3 (e ▸ x4 _ hm h)
      have hcd : ls[i].Consumer ∉ done := fun h => x3 (e ▸ hr.facts.2.2 _ hm h)
      rw [if_pos (by simpa using e), h1.2 _ hc.1 hc.2, Option.bind_some, h1.2 _ x0 x1, Option.bind_some, Option.bind_some, p1]
      refine .inl ⟨_, ⟨_, h1.set hc.1 (max (F ls[i].Consumer) ex), ?_, ?_, ?_, ?_, ?_⟩, by rw [wi_succ (by omega)]⟩
      · rw [fset_ne _ _ (Ne.symm hcx)]; exact p1
      · intro d hd
        have := p2 d hd
        unfold fset; split
        · rename_i e'; rw [← e']; omega
        · exact this
      · intro d hd
        rw [fset_ne _ _ (fun h : d = ls[i].Consumer => hcd (h ▸ hd))]; exact p3 d hd
      · intro l hl hs
        rcases (mem_take_succ hi).1 hl with h | h
        · have := p4 l h hs
          unfold fset; split
          · rename_i e'; rw [← e']; omega
          · exact this
        · rw [h, fset_self]; omega
      · intro d hd
        unfold fset; split
        · rename_i e'
          by_cases c : F ls[i].Consumer ≤ ex
          · exact .inr ⟨⟨_, hm, e, e'.symm⟩, by omega⟩
          · rcases p5 d hd with h | ⟨_, h⟩
            · exact .inl (by rw [← h, e']; omega)
            · rw [e'] at h; omega
        · exact p5 d hd
    · rw [if_neg (by simpa using e), Option.bind_some]
      refine .inl ⟨s, ⟨F, h1, p1, p2, p3, fun l hl hs => ?_, p5⟩, by rw [wi_succ (by omega)]⟩
      rcases (mem_take_succ hi).1 hl with h | h
      · exact p4 l h hs
      · exact absurd (h ▸ hs) e
  · rintro k s ⟨F, h1, h2⟩
    rw [resume_CriticalPath.l1, if_neg (by simp)]
    exact ⟨s, F, rfl, h1, h2⟩

theorem CPush.step {n : Nat} {ls : List api_Link} {du : Int → Int} (hdu : ∀ i, 0 ≤ du i ∧ du i ≤ 9007199254740992) {done : List Int} (hr : Run n ls done) {x : Int} (hx : least n ls done = some x) {E F : Int → Int} {most : Int} (P : CPush n ls du done E most) (Q : Pass n ls done E x (E x + du x) ls.length F) : CPush n ls du (done ++ [x]) F (max most (E x + du x)) := by
  obtain ⟨x0, x1, x2, _⟩ := least_some hx
  obtain ⟨x3, x4⟩ := free_iff.1 x2
  have hdx := hdu x
  have hEx := P.bd x
  have hlen : ((done ++ [x]).length : Int) = done.length + 1 := by simp
  have hfull : ∀ l ∈ ls, l.Supplier = x → E x + du x ≤ F l.Consumer := fun l hl hs => Q.lk l (by rw [List.take_length]; exact hl) hs
  have hin : ∀ d, d ∈ done ++ [x] ↔ d ∈ done ∨ d = x := fun d => by simp
  have hsup : ∀ l ∈ ls, l.Consumer ∈ done → l.Supplier ∈ done := hr.facts.2.2
  refine ⟨?_, ?_, ?_, ?_, ?_, by have := P.m0; omega, ?_, ?_⟩
  · intro d hd
    rcases (hin d).1 hd with h | h
    · rw [Q.in_ d h]; exact P.lo d h
    · rw [h, Q.at_]; omega
  · intro d hd
    rcases (hin d).1 hd with h | h
    · rw [Q.in_ d h]
      rcases P.ex d h with e | ⟨l, hl, hc, e⟩
      · exact .inl e
      · exact .inr ⟨l, hl, hc, by rw [Q.in_ _ (hsup l hl (hc ▸ h))]; exact e⟩
    · rw [h, Q.at_]
      rcases P.nd x x3 with e | ⟨l, hl, hc, hs, e⟩
      · exact .inl (by omega)
      · exact .inr ⟨l, hl, hc, by rw [Q.in_ _ hs, e]⟩
  · intro l hl hs
    rcases (hin _).1 hs with h | h
    · rw [Q.in_ _ h]
      obtain ⟨g1, g2⟩ := P.ge l hl h
      refine ⟨fun hc => ?_, fun hc => ?_⟩
      · rcases (hin _).1 hc with h' | h'
        · rw [Q.in_ _ h']; exact g1 h'
        · rw [h', Q.at_]
          have := g2 (fun h'' => x3 (h' ▸ h''))
          rw [h'] at this; omega
      · have hc1 : l.Consumer ∉ done := fun h' => hc ((hin _).2 (.inl h'))
        have hc2 : l.Consumer ≠ x := fun h' => hc ((hin _).2 (.inr h'))
        have := g2 hc1
        have := Q.up _ hc2
        omega
    · have h1 := hfull l hl h
      rw [h, Q.at_]
      refine ⟨fun hc => ?_, fun _ => h1⟩
      rcases (hin _).1 hc with h' | h'
      · exact absurd (h ▸ hsup l hl h') x3
      · exact absurd (h ▸ x4 l hl h') x3
  · intro d hd
    have hd1 : d ∉ done := fun h' => hd ((hin _).2 (.inl h'))
    have hd2 : d ≠ x := fun h' => hd ((hin _).2 (.inr h'))
    rcases Q.or_ d hd2 with e | ⟨⟨l, hl, hs, hc⟩, e⟩
    · rcases P.nd d hd1 with h | ⟨l, hl, hc, hs, h⟩
      · exact .inl (by rw [e, h])
      · exact .inr ⟨l, hl, hc, (hin _).2 (.inl hs), by rw [e, Q.in_ _ hs, h]⟩
    · exact .inr ⟨l, hl, hc, (hin _).2 (.inr hs), by rw [hs, Q.at_, e]⟩
  · intro d
    rw [hlen]
    by_cases h : d = x
    · rw [h, Q.at_]; omega
    · have := P.bd d
      rcases Q.or_ d h with e | ⟨_, e⟩ <;> rw [e] <;> omega
  · intro d hd
    rcases (hin d).1 hd with h | h
    · rw [Q.in_ d h]; have := P.ml d h; omega
    · rw [h, Q.at_]; omega
  · have := P.m0
    by_cases c : most ≤ E x + du x
    · exact .inr ⟨x, (hin x).2 (.inr rfl), by rw [Q.at_]; omega⟩
    · rcases P.mx with h | ⟨d, hd, h⟩
      · omega
      · exact .inr ⟨d, (hin d).2 (.inl hd), by rw [Q.in_ d hd, h]; omega⟩

theorem CPush.fin {n : Nat} {ls : List api_Link} {du : Int → Int} (g : GoodG n ls) (hfull : ¬ (ord n ls).length < n) {E : Int → Int} {most : Int} (P : CPush n ls du (ord n ls) E most) : CPath n ls du E ∧ CMax n E most := by
  have hin : ∀ d : Int, 0 ≤ d → d < n → d ∈ ord n ls := fun d h0 h1 => ord_full hfull h0 h1
  refine ⟨⟨fun d h0 h1 => P.lo d (hin d h0 h1), fun l hl => ?_, fun d h0 h1 => P.ex d (hin d h0 h1)⟩, ⟨P.m0, fun d h0 h1 => P.ml d (hin d h0 h1), ?_⟩⟩
  · have hc := g.c0 l hl
    have hs := g.s0 l hl
    exact (P.ge l hl (hin _ hs.1 hs.2)).1 (hin _ hc.1 hc.2)
  · rcases P.mx with h | ⟨d, hd, h⟩
    · exact .inl h
    · have := (ord_run n ls).1.facts.2.1 d hd
      exact .inr ⟨d, this.1, this.2, h⟩

theorem Run.pre' {n : Nat} {ls : List api_Link} {out : List Int} (h : Run n ls out) : ∀ i, i ≤ out.length → Run n ls (out.take i) := by
  induction h with
  | nil => intro i hi; simpa using Run.nil
  | @snoc out v h hv ih =>
    intro i hi
    by_cases hi' : i ≤ out.length
    · rw [List.take_append_of_le_length hi']; exact ih i hi'
    · rw [List.take_of_length_le (by simp only [List.length_append, List.length_singleton] at hi ⊢; omega)]; exact h.snoc hv
theorem Run.nth' {n : Nat} {ls : List api_Link} {out : List Int} (h : Run n ls out) : ∀ i (hi : i < out.length), least n ls (out.take i) = some out[i] := by
  induction h with
  | nil => intro i hi; simp at hi
  | @snoc out v h hv ih =>
    intro i hi
    by_cases hi' : i < out.length
    · rw [List.take_append_of_le_length (by omega), List.getElem_append_left hi']; exact ih i hi'
    · have : i = out.length := by simp only [List.length_append, List.length_singleton] at hi; omega
      subst this
      rw [List.take_append_of_le_length (Nat.le_refl _), List.take_length, List.getElem_append_right (Nat.le_refl _)]
      simpa using hv

theorem critical_good {n w : Nat} {ls : List api_Link} {dl : List Int} (S : GoodS n w ls dl) : ∃ h c, resume_CriticalPath.f n ls dl = some (c, 0) ∧ CPath n ls (duf dl) h ∧ CMax n h c ∧ c ≤ 128 * 9007199254740992 := by
  have g := S.g
  have hn := g.n128
  have S1 : GoodS n 1 ls dl := ⟨S.g, S.full, S.dn, S.d0, by omega, by omega⟩
  have hsc : scode n ls dl 1 = 0 := good_scode S1
  have hll : ls.length ≤ maxLen := by have := g.len; rw [maxLen_eq]; omega
  have hcc : ccode (n : Int) ls = 0 := by rw [ccode_good g, if_neg S.full]
  have ho : ores (n : Int) ls = (ord n ls, 0) := by unfold ores; rw [if_pos hcc]; rfl
  unfold resume_CriticalPath.f
  rw [check31_ok _ _ _ _ hll (by rw [S.dn, maxLen_eq]; omega), hsc, Option.bind_some, if_neg (by simp), order_ok _ _ hll, ho, Option.bind_some, if_neg (by simp), mk_ok (by omega), Option.bind_some]
  have hr := (ord_run n ls).1
  have hlen := ord_le n ls
  have hdu := duf_range S.d0
  have key : ∃ E most, resume_CriticalPath.l0 ls dl (ord n ls, 0) FUEL (List.replicate n 0) 0 0 = some most ∧ CPush n ls (duf dl) (ord n ls) E most := by
    refine loop_c (L := fun k (s : List Int × Int) i => resume_CriticalPath.l0 ls dl (ord n ls, 0) k s.1 s.2 i) (ord n ls).length (fun i s => ∃ E, RepV n s.1 E ∧ CPush n ls (duf dl) ((ord n ls).take i) E s.2)
      (fun o => ∃ E most, o = some most ∧ CPush n ls (duf dl) (ord n ls) E most) ?_ ?_ FUEL 0 (List.replicate n 0, 0) (Nat.zero_le _) (FUEL_pos (by omega)) ⟨fun _ => 0, RepV.rep n 0, ?_⟩
    · rintro k ⟨el, most⟩ i hi ⟨E, h1, h2⟩
      simp only at h1 h2 ⊢
      have hrun := hr.pre' i (by omega)
      have hx := hr.nth' i hi
      obtain ⟨x0, x1, _, _⟩ := least_some hx
      have hb := h2.bd (ord n ls)[i]
      have hl : ((ord n ls).take i).length = i := by simp; omega
      rw [hl] at hb
      have hi2 : (i : Int) * 9007199254740992 ≤ 128 * 9007199254740992 := Int.mul_le_mul_of_nonneg_right (by omega) (by omega)
      have hd := hdu (ord n ls)[i]
      rw [resume_CriticalPath.l0, if_pos (by simp; omega), idx_get hi, Option.bind_some, h1.2 _ x0 x1, Option.bind_some, (duf_rep S.dn).2 _ x0 x1, Option.bind_some, wu_id (by omega) (by omega), (h1.set x0 _).2 _ x0 x1, Option.bind_some, fset_self]
      obtain ⟨el', F, e, q1, q2⟩ := critical_l1 g hrun hx most (E (ord n ls)[i] + duf dl (ord n ls)[i]) (h1.set x0 (E (ord n ls)[i] + duf dl (ord n ls)[i]))
      rw [e, Option.bind_some]
      refine .inl ⟨(el', max most (E (ord n ls)[i] + duf dl (ord n ls)[i])), ⟨F, q1, ?_⟩, by rw [wi_succ (by omega)]⟩
      simp only
      rw [List.take_succ_eq_append_getElem hi]
      exact h2.step hdu hrun hx q2
    · rintro k ⟨el, most⟩ ⟨E, h1, h2⟩
      simp only at h1 h2 ⊢
      rw [resume_CriticalPath.l0, if_neg (by simp)]
      rw [List.take_length] at h2
      exact ⟨E, most, rfl, h2⟩
    · refine ⟨by simp, by simp, by simp, fun d _ => .inl rfl, fun d => ⟨Int.le_refl _, by simp⟩, Int.le_refl _, by simp, .inl rfl⟩
  obtain ⟨E, most, e, P⟩ := key
  rw [e, Option.bind_some]
  obtain ⟨a, b⟩ := P.fin g S.full
  refine ⟨E, most, rfl, a, b, ?_⟩
  have hlb : ((ord n ls).length : Int) * 9007199254740992 ≤ 128 * 9007199254740992 := Int.mul_le_mul_of_nonneg_right (by omega) (by omega)
  rcases P.mx with h | ⟨d, _, h⟩
  · omega
  · have := (P.bd d).2; omega
theorem critical_bad {p : Int} {ls : List api_Link} {dl : List Int} (h : ls.length ≤ maxLen) (hd : dl.length ≤ maxLen) (hs : scode p ls dl 1 ≠ 0) : resume_CriticalPath.f p ls dl = some (0, scode p ls dl 1) := by
  unfold resume_CriticalPath.f
  rw [check31_ok _ _ _ _ h hd, Option.bind_some, if_pos (by simpa using hs)]

/-! ### the schedule's ends and the longest chain -/

theorem ends_ge {n w : Nat} {ls : List api_Link} {du h : Int → Int} (hfull : ¬ (ord n ls).length < n) (hP : CPath n ls du h) {m : Ms} {out : List api_Slot} (D : Done n w ls du m out) : ∀ d : Int, 0 ≤ d → d < n → h d ≤ (m.s d).End :=
  ord_ind hfull fun d d0 d1 ih => by
    obtain ⟨a, b, _, _⟩ := D.inv.begun_of (D.all d d0 d1)
    have hlen := D.inv.len _ a
    have hst := D.inv.st _ a
    rw [b] at hlen
    rcases hP.ex d d0 d1 with e | ⟨l, hl, hc, e⟩
    · omega
    · have h1 := ih l hl hc
      have h2 := (D.inv.lnk l hl (by rw [hc]; exact D.all d d0 d1)).2
      rw [hc] at h2
      omega
theorem span_t {n w : Nat} {ls : List api_Link} {du : Int → Int} {m : Ms} {out : List api_Slot} (D : Done n w ls du m out) {T : Int} (M : Mks out T) : T = m.t := by
  have h0 := D.inv.t0
  have h1 : T ≤ m.t := by
    rcases M.ex with h | ⟨x, hx, h⟩
    · omega
    · have := D.ends x hx; omega
  have h2 : m.t ≤ T := by
    have := M.t0
    rcases D.inv.torg with h | ⟨x, hx, h⟩
    · omega
    · have := M.le x hx; omega
  omega
theorem perm_below {n w : Nat} {ls : List api_Link} {du : Int → Int} {m : Ms} {out : List api_Slot} (D : Done n w ls du m out) : (out.map api_Slot.Device).Perm (below n) := by
  rw [List.perm_ext_iff_of_nodup D.inv.nd (below_nodup n)]
  intro d
  rw [mem_below]
  constructor
  · intro h
    obtain ⟨x, hx, rfl⟩ := List.mem_map.1 h
    exact D.inv.dev x hx
  · rintro ⟨h0, h1⟩
    obtain ⟨a, b⟩ := D.inv.bs d (D.all d h0 h1)
    exact List.mem_map.2 ⟨_, a, b⟩
theorem awake31_ok : law31_awake.f = some true := by kernel_rfl
theorem duf_small {dl : List Int} (h : ∀ x ∈ dl, 0 ≤ x ∧ x ≤ 11) (i : Int) : 0 ≤ duf dl i ∧ duf dl i ≤ 11 := by
  unfold duf
  cases hx : idx dl i with
  | none => simp
  | some x =>
    obtain ⟨y, hy, hm⟩ := idx_of (idx_lo hx) (idx_hi hx)
    rw [hx] at hy; injection hy with hy; subst hy
    exact h x hm
end Go.Proofs.Ythmjgadmadlpkaa.Sim

namespace Go.Proofs.Ythmjgadmadlpkaa.Sim
open Go
set_option linter.unusedVariables false
set_option maxRecDepth 100000

def gain (t : Int) (x : api_Slot) : Int := min x.End t - x.Start
/-- Time moves from t to u: each slot that has not ended gains as much. -/
theorem sumB_move {t u : Int} (h : t ≤ u) : ∀ {out : List api_Slot}, (∀ x ∈ out, t < x.End → u ≤ x.End) → sumB (gain u) out = sumB (gain t) out + ((out.filter (fun x => decide (t < x.End))).length : Int) * (u - t)
  | [], _ => by simp [sumB]
  | x :: out, hx => by
    have ih := sumB_move h (out := out) (fun y hy => hx y (by simp [hy]))
    have h1 := hx x (by simp)
    simp only [sumB]
    rw [ih, List.filter_cons]
    have hg : gain u x = min x.End u - x.Start := rfl
    have hg' : gain t x = min x.End t - x.Start := rfl
    by_cases c : t < x.End
    · have := h1 c
      rw [if_pos (by simpa using c), List.length_cons]
      have e : ((((out.filter (fun x => decide (t < x.End))).length + 1 : Nat)) : Int) * (u - t) = ((out.filter (fun x => decide (t < x.End))).length : Int) * (u - t) + (u - t) := by
        rw [Int.natCast_add, Int.add_mul]; simp
      rw [e]; omega
    · rw [if_neg (by simpa using c)]; omega

theorem run_le {n w : Nat} {ls : List api_Link} {du : Int → Int} {m : Ms} {out : List api_Slot} (I : Inv n w ls du m out) : (out.filter (fun x => decide (m.t < x.End))).length ≤ w := by
  have h1 : ((out.filter (fun x => decide (m.t < x.End))).map api_Slot.Worker).Nodup := by
    unfold List.Nodup
    rw [List.pairwise_map]
    refine List.Pairwise.imp_of_mem (fun {x y} hx hy h e => ?_) (I.ord.filter _)
    have hx' := (List.mem_filter.1 hx).2
    have hy' := (I.st y (List.mem_filter.1 hy).1).2
    have := h.2 e
    simp only [decide_eq_true_eq] at hx'
    omega
  have h2 := nodup_le h1 (s := below w) (fun k hk => by
    obtain ⟨x, hx, rfl⟩ := List.mem_map.1 hk
    exact mem_below.2 (I.wrk x (List.mem_filter.1 hx).1))
  rw [below_length, List.length_map] at h2
  exact h2
theorem run_ge {n w : Nat} {ls : List api_Link} {du : Int → Int} {m : Ms} {out : List api_Slot} (I : Inv n w ls du m out) (hb : ¬ 0 ≤ nextW w m) : w ≤ (out.filter (fun x => decide (m.t < x.End))).length := by
  have h1 := fst_neg hb
  have h2 := nodup_le (below_nodup w) (s := (out.filter (fun x => decide (m.t < x.End))).map api_Slot.Worker) (fun k hk => by
    obtain ⟨k0, k1⟩ := mem_below.1 hk
    have h3 := h1 k k0 k1
    simp only [decide_eq_false_iff_not] at h3
    have := I.t0
    rcases I.fex k with h | ⟨x, hx, hw, he⟩
    · omega
    · exact List.mem_map.2 ⟨x, List.mem_filter.2 ⟨hx, by simp; omega⟩, hw⟩)
  rw [below_length, List.length_map] at h2
  exact h2
theorem run_pos {n w : Nat} {ls : List api_Link} {du : Int → Int} {m : Ms} {out : List api_Slot} (I : Inv n w ls du m out) {t : Int} (ht : t ∈ running w m) : ∃ x ∈ out, x.End = t ∧ m.t < t := by
  obtain ⟨k, _, _, h1, h2⟩ := mem_running.1 ht
  have := I.t0
  rcases I.fex k with h | ⟨x, hx, hw, he⟩
  · omega
  · exact ⟨x, hx, by omega, h2⟩

/-- Work done, time in which a worker idles. -/
structure GB (n w : Nat) (du h : Int → Int) (C : Int) (m : Ms) (out : List api_Slot) (i : Int) : Prop where
  i0 : 0 ≤ i
  iC : i ≤ C
  lo : sumB (gain m.t) out ≤ w * m.t
  hi : w * m.t ≤ sumB (gain m.t) out + ((w : Int) - 1) * i
  hn : ∀ d : Int, 0 ≤ d → d < n → m.b d = false → i ≤ h d - du d
  hd : ∀ d : Int, 0 ≤ d → d < n → m.b d = true → m.t < (m.s d).End → i ≤ h d - ((m.s d).End - m.t)

theorem GB.step {n w : Nat} {ls : List api_Link} {du h : Int → Int} {C : Int} (g : GoodG n ls) (hfull : ¬ (ord n ls).length < n) (hw : 0 < w) (hdu : ∀ i, 0 ≤ du i) (hP : CPath n ls du h) (hM : CMax n h C) {m : Ms} {out : List api_Slot} (I : Inv n w ls du m out)
    {i : Int} (G : GB n w du h C m out i) {z' : Ms × List api_Slot} (hz : nxt n w ls du (m, out) = some z') : ∃ i', GB n w du h C z'.1 z'.2 i' := by
  rcases nxt_cases hz with ⟨d, k, _, _, hd, hk, hr, hf, rfl⟩ | ⟨t, hno, ht, hlo, hlt, rfl⟩
  · obtain ⟨hb, hsup⟩ := rdy_iff.1 hr
    have hd0 := hdu d
    have e : sumB (gain m.t) (out ++ [api_Slot.mk d k m.t (m.t + du d)]) = sumB (gain m.t) out := by
      rw [sumB_append]; simp only [sumB, gain]; omega
    refine ⟨i, G.i0, G.iC, ?_, ?_, ?_, ?_⟩
    · show sumB (gain m.t) _ ≤ w * m.t
      rw [e]; exact G.lo
    · show w * m.t ≤ sumB (gain m.t) _ + _
      rw [e]; exact G.hi
    · intro j j0 j1 hj
      unfold place fset at hj
      simp only at hj
      by_cases c : j = d
      · rw [if_pos c] at hj; cases hj
      · rw [if_neg c] at hj; exact G.hn j j0 j1 hj
    · intro j j0 j1 hj hl
      unfold place fset at hj hl ⊢
      simp only at hj hl ⊢
      by_cases c : j = d
      · rw [if_pos c] at hl ⊢
        have := G.hn d (by omega) (by omega) hb
        simp only at hl ⊢
        rw [c]; omega
      · rw [if_neg c] at hj hl ⊢
        exact G.hd j j0 j1 hj hl
  · have hends : ∀ x ∈ out, m.t < x.End → t ≤ x.End := fun x hx hx' => hlo _ (I.over_run hx hx')
    have hB := sumB_move (Int.le_of_lt hlt) hends
    have hrl := run_le I
    obtain ⟨x0, hx0, hx1, _⟩ := run_pos I ht
    have hr1 : 1 ≤ (out.filter (fun x => decide (m.t < x.End))).length := List.length_pos_of_mem (List.mem_filter.2 ⟨hx0, by simp; omega⟩)
    have hrg := fun hb => run_ge (n := n) (w := w) (ls := ls) (du := du) I hb
    have hbeg : ∀ d : Int, m.b d = true → m.t < (m.s d).End → t ≤ (m.s d).End := fun d hd => hends _ (I.bs d hd).1
    have GL := G.lo
    have GH := G.hi
    generalize hr : (out.filter (fun x => decide (m.t < x.End))).length = r at hB hrl hr1 hrg
    generalize hb0 : sumB (gain m.t) out = b0 at hB GL GH
    have hwt : (w : Int) * t = w * m.t + w * (t - m.t) := by rw [← Int.mul_add]; congr 1; omega
    have hrw : (r : Int) * (t - m.t) ≤ w * (t - m.t) := Int.mul_le_mul_of_nonneg_right (by omega) (by omega)
    have h1r : (t - m.t) ≤ (r : Int) * (t - m.t) := by
      have := Int.mul_le_mul_of_nonneg_right (a := 1) (b := (r : Int)) (c := t - m.t) (by omega) (by omega)
      omega
    by_cases hbusy : 0 ≤ nextW w m
    · have hnr := fst_neg (fun hd => hno ⟨hd, hbusy⟩)
      have hP' : ∀ d : Int, 0 ≤ d → d < n → m.b d = false → i + (t - m.t) ≤ h d - du d := ord_ind hfull fun d d0 d1 ih hb => by
        obtain ⟨l, hl, hc, hs⟩ := rdy_not (hnr d d0 d1) hb
        have hge := hP.ge l hl
        have hsr := g.s0 l hl
        rw [hc] at hge
        cases hB : m.b l.Supplier with
        | false =>
          have := ih l hl hc hB
          have := hdu l.Supplier
          omega
        | true =>
          have h3 := hs hB
          have h4 := hbeg _ hB h3
          have := G.hd _ hsr.1 hsr.2 hB h3
          omega
      have hwi : ((w : Int) - 1) * (i + (t - m.t)) = ((w : Int) - 1) * i + ((w : Int) - 1) * (t - m.t) := Int.mul_add _ _ _
      have hw1 : ((w : Int) - 1) * (t - m.t) = w * (t - m.t) - (t - m.t) := by rw [Int.sub_mul]; omega
      refine ⟨i + (t - m.t), by have := G.i0; omega, ?_, ?_, ?_, hP', ?_⟩
      · have hd := I.dev x0 hx0
        obtain ⟨s1, s2⟩ := I.sl x0 hx0
        have := G.hd _ hd.1 hd.2 s1 (by rw [s2]; omega)
        rw [s2] at this
        have := hM.le _ hd.1 hd.2
        omega
      · show sumB (gain t) out ≤ w * t
        rw [hB]; omega
      · show (w : Int) * t ≤ sumB (gain t) out + _
        rw [hB, hwt, hwi, hw1]; omega
      · intro d d0 d1 hb hl
        simp only at hb hl ⊢
        have := G.hd d d0 d1 hb (by omega)
        omega
    · have hrg' := hrg hbusy
      have hwr : (w : Int) * (t - m.t) ≤ r * (t - m.t) := Int.mul_le_mul_of_nonneg_right (by omega) (by omega)
      refine ⟨i, G.i0, G.iC, ?_, ?_, G.hn, ?_⟩
      · show sumB (gain t) out ≤ w * t
        rw [hB]; omega
      · show (w : Int) * t ≤ sumB (gain t) out + _
        rw [hB, hwt]; omega
      · intro d d0 d1 hb hl
        simp only at hb hl ⊢
        have := G.hd d d0 d1 hb (by omega)
        omega

theorem GB.it {n w : Nat} {ls : List api_Link} {du h : Int → Int} {C : Int} (g : GoodG n ls) (hfull : ¬ (ord n ls).length < n) (hw : 0 < w) (hdu : ∀ i, 0 ≤ du i) (hP : CPath n ls du h) (hM : CMax n h C) (k : Nat) : ∃ i, GB n w du h C (it n w ls du k z00).1 (it n w ls du k z00).2 i := by
  have := it_ind (n := n) (w := w) (ls := ls) (du := du) (P := fun m out => Inv n w ls du m out ∧ ∃ i, GB n w du h C m out i) (fun m out z' ⟨I, i, G⟩ hz => ⟨I.step hdu hz, G.step g hfull hw hdu hP hM I hz⟩) k z00 ⟨Inv.start, 0, by
    refine ⟨Int.le_refl _, hM.c0, ?_, ?_, ?_, ?_⟩
    · simp [z00, sumB]
    · simp [z00, sumB]
    · intro d d0 d1 _; have := hP.lo d d0 d1; omega
    · intro d d0 d1 hb; simp [z00] at hb⟩
  exact this.2

theorem bounds_all {n w : Nat} {ls : List api_Link} {du h : Int → Int} {C T : Int} (g : GoodG n ls) (hfull : ¬ (ord n ls).length < n) (hw : 0 < w) (hdu : ∀ i, 0 ≤ du i) (hP : CPath n ls du h) (hM : CMax n h C) {m : Ms} {out : List api_Slot} (S : Sched n w ls du m out) (M : Mks out T) :
    C ≤ T ∧ sumB du (below n) ≤ w * T ∧ w * T ≤ sumB du (below n) + ((w : Int) - 1) * C := by
  have D := S.dn
  have hT := span_t D M
  obtain ⟨j, hj⟩ := S.st
  obtain ⟨i, G⟩ := GB.it g hfull hw hdu hP hM j
  rw [hj] at G
  simp only at G
  have e : sumB (gain m.t) out = sumB du (below n) := by
    rw [← sumB_perm du (perm_below D), sumB_map]
    refine sumB_congr fun x hx => ?_
    unfold gain
    have h1 := D.ends x hx
    have h2 := D.inv.len x hx
    omega
  have h1 := G.lo
  have h2 := G.hi
  rw [e] at h1 h2
  subst hT
  have h3 : ((w : Int) - 1) * i ≤ ((w : Int) - 1) * C := Int.mul_le_mul_of_nonneg_left G.iC (by omega)
  refine ⟨?_, h1, by omega⟩
  rcases hM.ex with hc | ⟨d, d0, d1, hc⟩
  · have := D.inv.t0; omega
  · have := ends_ge hfull hP D d d0 d1
    have := D.ends _ (D.inv.bs d (D.all d d0 d1)).1
    omega

theorem total_ok {n : Nat} (hn : n ≤ 128) {dl : List Int} (h1 : dl.length = n) (h2 : ∀ x ∈ dl, 0 ≤ x ∧ x ≤ 11) {ls : List api_Link} : law31_ResumeBounds.l0 ((n : Int), ls) dl FUEL 0 0 = some (sumB (duf dl) (below n)) ∧ 0 ≤ sumB (duf dl) (below n) ∧ sumB (duf dl) (below n) ≤ 2000 := by
  have hd : ∀ i, 0 ≤ duf dl i ∧ duf dl i ≤ 11 := fun i => by
    unfold duf
    cases hx : idx dl i with
    | none => simp
    | some x =>
      obtain ⟨y, hy, hm⟩ := idx_of (idx_lo hx) (idx_hi hx)
      rw [hx] at hy; injection hy with hy; subst hy
      exact h2 x hm
  have hb : ∀ k : Nat, 0 ≤ sumB (duf dl) (below k) ∧ sumB (duf dl) (below k) ≤ 11 * k := fun k => by
    induction k with
    | zero => simp [below, sumB]
    | succ k ih =>
      rw [below_succ, sumB_append]
      have := hd k
      simp only [sumB]; omega
  have := hb n
  refine ⟨?_, this.1, by omega⟩
  refine loop_c (L := fun k (s : Int) i => law31_ResumeBounds.l0 ((n : Int), ls) dl k s i) n (fun i s => s = sumB (duf dl) (below i)) (fun o => o = some (sumB (duf dl) (below n))) ?_ ?_ FUEL 0 0 (Nat.zero_le _) (FUEL_pos (by omega)) rfl
  · rintro k s i hi rfl
    have h3 := hb i
    have h4 := hd i
    rw [law31_ResumeBounds.l0, if_pos (by simp; omega), (duf_rep h1).2 (i : Int) (by omega) (by omega), Option.bind_some, wu_id (by omega) (by omega), wi_succ (by omega)]
    refine .inl ⟨_, ?_, rfl⟩
    rw [below_succ, sumB_append]
    simp only [sumB]; omega
  · rintro k s rfl
    rw [law31_ResumeBounds.l0, if_neg (by simp)]

theorem resumeBounds : law31_ResumeBounds.Pure := by
  intro p0 p1 p2 p3 _ h1 h2 _
  unfold law31_ResumeBounds.f
  by_cases hb : 40 < p1.length
  · rw [if_pos (by simp; omega), awake31_ok]; rfl
  · rw [if_neg (by simp; omega)]
    obtain ⟨n, ls, e1, g⟩ := graph_ok p0 p1 true h1.1
    obtain ⟨w, e2, e3, w0, w1⟩ := mod1_ok p3 5 (by omega) (by omega)
    obtain ⟨dl, e4, d1, d2⟩ := durations_ok n (by have := g.n13; omega) p2 (fun x hx => (u64_range (h2.2 x hx)).1) h2.1
    have S := goodS_of g d1 d2 (w := w) w0 (by omega)
    obtain ⟨m, out, e5, SC, htb⟩ := sched_good S
    obtain ⟨h, c, e6, hP, hM, hcb⟩ := critical_good S
    obtain ⟨T, e7, hT⟩ := makespan_ok out (by have := SC.dn.len; have := g.n13; omega)
    obtain ⟨e8, t0, t1⟩ := total_ok (n := n) (by have := g.n13; omega) d1 d2 (ls := ls)
    have e2' : help_Mod.f p3 5 = some ((w : Int) - 1) := e2
    rw [e1, Option.bind_some, e2', Option.bind_some]
    simp only
    rw [e4, Option.bind_some, e3, e5, Option.bind_some]
    simp only
    rw [e6, Option.bind_some, e8, Option.bind_some, e7, Option.bind_some]
    obtain ⟨q1, q2, q3⟩ := bounds_all S.g S.full w0 (fun i => (duf_range S.d0 i).1) hP hM SC hT
    have hTb : T ≤ 128 * 9007199254740992 := by rw [span_t SC.dn hT]; exact htb
    have hT0 := hT.t0
    have hc0 := hM.c0
    have b1 : (w : Int) * T ≤ 5 * (128 * 9007199254740992) := by
      have := Int.mul_le_mul_of_nonneg_right (a := (w : Int)) (b := 5) (c := T) (by omega) hT0
      omega
    have b2 : 0 ≤ (w : Int) * T := Int.mul_nonneg (by omega) hT0
    have b3 : ((w : Int) - 1) * c ≤ 4 * (128 * 9007199254740992) := by
      have := Int.mul_le_mul_of_nonneg_right (a := (w : Int) - 1) (b := 4) (c := c) (by omega) hc0
      omega
    have b4 : 0 ≤ ((w : Int) - 1) * c := Int.mul_nonneg (by omega) hc0
    have w2 : wu (w : Int) = w := wu_id (by omega) (by omega)
    have w3 : wu (wi ((w : Int) - 1)) = (w : Int) - 1 := by rw [wi_id (by omega) (by omega), wu_id (by omega) (by omega)]
    rw [w2, w3, wu_id b2 (by omega), wu_id b4 (by omega), wu_id (by omega) (by omega), if_pos (by simp; omega), awake31_ok]; rfl
end Go.Proofs.Ythmjgadmadlpkaa.Sim
