/-
  Texts of this session, part 5 of 5: the words of the walk, plain functions with the same answers as the Go functions and the proofs of it, plain lemmas. No condition.
  They are, one behind the other: S5 S6 S7 SV PuIsValid.
-/
import Derived.Test.YthmjgadmadlpkaaZResumeScheduleIsValid4

namespace Go.Proofs.Ythmjgadmadlpkaa.Sim
open Go
set_option linter.unusedVariables false
set_option maxRecDepth 100000

theorem fst_lt {n : Nat} {P : Int → Bool} (h : 0 ≤ fst n P) : fst n P < n ∧ P (fst n P) = true ∧ ∀ u : Int, 0 ≤ u → u < fst n P → P u = false := by
  rcases fst_spec (n := n) (P := P) with ⟨e, _⟩ | ⟨_, b, c, d⟩
  · omega
  · exact ⟨b, c, d⟩
theorem fst_neg {n : Nat} {P : Int → Bool} (h : ¬ 0 ≤ fst n P) : ∀ u : Int, 0 ≤ u → u < n → P u = false := by
  rcases fst_spec (n := n) (P := P) with ⟨_, a⟩ | ⟨a, _⟩
  · exact a
  · exact absurd a h
theorem over_iff {m : Ms} {k : Int} : over m k = true ↔ m.b k = true ∧ (m.s k).End ≤ m.t := by unfold over; simp
theorem rdy_iff {ls : List api_Link} {m : Ms} {d : Int} : rdy ls m d = true ↔ m.b d = false ∧ ∀ l ∈ ls, l.Consumer = d → m.b l.Supplier = true ∧ (m.s l.Supplier).End ≤ m.t := by
  unfold rdy
  simp only [Bool.and_eq_true, Bool.not_eq_true', List.all_eq_true, Bool.or_eq_true, beq_eq_false_iff_ne, over_iff]
  constructor
  · rintro ⟨h1, h2⟩
    exact ⟨h1, fun l hl hc => (h2 l hl).resolve_left (fun hn => hn hc)⟩
  · rintro ⟨h1, h2⟩
    refine ⟨h1, fun l hl => ?_⟩
    by_cases hc : l.Consumer = d
    · exact .inr (h2 l hl hc)
    · exact .inl hc
theorem rdy_not {ls : List api_Link} {m : Ms} {d : Int} (h : rdy ls m d = false) (hb : m.b d = false) : ∃ l ∈ ls, l.Consumer = d ∧ (m.b l.Supplier = true → m.t < (m.s l.Supplier).End) := by
  refine Classical.byContradiction fun hno => ?_
  have : rdy ls m d = true := rdy_iff.2 ⟨hb, fun l hl hc => by
    refine Classical.byContradiction fun hn => hno ⟨l, hl, hc, fun hbs => ?_⟩
    refine Classical.byContradiction fun hlt => hn ⟨hbs, by omega⟩⟩
  rw [this] at h; cases h
theorem mem_running {w : Nat} {m : Ms} {x : Int} : x ∈ running w m ↔ ∃ k : Int, 0 ≤ k ∧ k < w ∧ m.f k = x ∧ m.t < x := by
  unfold running
  simp only [List.mem_filter, List.mem_map, mem_below]
  constructor
  · rintro ⟨⟨k, ⟨h0, h1⟩, rfl⟩, h⟩; exact ⟨k, h0, h1, rfl, by simpa using h⟩
  · rintro ⟨k, h0, h1, rfl, h⟩; exact ⟨⟨k, ⟨h0, h1⟩, rfl⟩, by simpa using h⟩
theorem lowest_none {l : List Int} (h : lowest l = none) : l = [] := by
  cases l with
  | nil => rfl
  | cons a t =>
    exfalso
    have key : ∀ (l : List Int), l ≠ [] → ∃ m ∈ l, ∀ x ∈ l, m ≤ x := by
      intro l
      induction l with
      | nil => intro h; exact absurd rfl h
      | cons a t ih =>
        intro _
        by_cases ht : t = []
        · subst ht; exact ⟨a, by simp, by simp⟩
        · obtain ⟨m, h1, h2⟩ := ih ht
          by_cases ha : a ≤ m
          · refine ⟨a, by simp, fun x hx => ?_⟩
            rcases List.mem_cons.1 hx with e | e
            · omega
            · have := h2 x e; omega
          · refine ⟨m, List.mem_cons_of_mem _ h1, fun x hx => ?_⟩
            rcases List.mem_cons.1 hx with e | e
            · omega
            · exact h2 x e
    obtain ⟨m, h1, h2⟩ := key (a :: t) (by simp)
    rw [lowest_of h1 h2] at h; cases h

/-- One step: a device begins, or time moves. -/
theorem nxt_cases {n w : Nat} {ls : List api_Link} {du : Int → Int} {m : Ms} {out : List api_Slot} {z' : Ms × List api_Slot} (h : nxt n w ls du (m, out) = some z') :
    (∃ d k : Int, d = nextD n ls m ∧ k = nextW w m ∧ (0 ≤ d ∧ d < n) ∧ (0 ≤ k ∧ k < w) ∧ rdy ls m d = true ∧ m.f k ≤ m.t ∧ z' = (place du m d k, out ++ [api_Slot.mk d k m.t (m.t + du d)])) ∨
    (∃ t, ¬ (0 ≤ nextD n ls m ∧ 0 ≤ nextW w m) ∧ t ∈ running w m ∧ (∀ x ∈ running w m, t ≤ x) ∧ m.t < t ∧ z' = (⟨m.b, m.s, m.f, t⟩, out)) := by
  unfold nxt at h
  split at h
  · rename_i hp
    obtain ⟨h1, h2⟩ := hp
    simp only at h1 h2 h
    obtain ⟨a1, a2, a3⟩ := fst_lt h1
    obtain ⟨b1, b2, b3⟩ := fst_lt h2
    exact .inl ⟨_, _, rfl, rfl, ⟨h1, a1⟩, ⟨h2, b1⟩, a2, of_decide_eq_true b2, (Option.some.inj h).symm⟩
  · rename_i hp
    simp only at h hp
    cases hl : lowest (running w m) with
    | none => rw [hl] at h; cases h
    | some t =>
      rw [hl] at h
      obtain ⟨a, b⟩ := lowest_spec hl
      obtain ⟨k, _, _, _, ht⟩ := mem_running.1 a
      exact .inr ⟨t, hp, a, b, ht, (Option.some.inj h).symm⟩
theorem nxt_none {n w : Nat} {ls : List api_Link} {du : Int → Int} {m : Ms} {out : List api_Slot} (h : nxt n w ls du (m, out) = none) : ¬ (0 ≤ nextD n ls m ∧ 0 ≤ nextW w m) ∧ running w m = [] := by
  unfold nxt at h
  split at h
  · cases h
  · rename_i hp
    refine ⟨hp, ?_⟩
    simp only at h
    cases hl : lowest (running w m) with
    | none => exact lowest_none hl
    | some t => rw [hl] at h; cases h

def z00 : Ms × List api_Slot := (⟨fun _ => false, fun _ => api_Slot.mk 0 0 0 0, fun _ => 0, 0⟩, [])

structure Inv (n w : Nat) (ls : List api_Link) (du : Int → Int) (m : Ms) (out : List api_Slot) : Prop where
  t0 : 0 ≤ m.t
  f0 : ∀ k, 0 ≤ m.f k
  dev : ∀ x ∈ out, 0 ≤ x.Device ∧ x.Device < n
  wrk : ∀ x ∈ out, 0 ≤ x.Worker ∧ x.Worker < w
  len : ∀ x ∈ out, x.End = x.Start + du x.Device
  st : ∀ x ∈ out, 0 ≤ x.Start ∧ x.Start ≤ m.t
  sl : ∀ x ∈ out, m.b x.Device = true ∧ m.s x.Device = x
  bs : ∀ d, m.b d = true → m.s d ∈ out ∧ (m.s d).Device = d
  nd : (out.map api_Slot.Device).Nodup
  fle : ∀ x ∈ out, x.End ≤ m.f x.Worker
  fex : ∀ k, m.f k = 0 ∨ ∃ x ∈ out, x.Worker = k ∧ x.End = m.f k
  ord : out.Pairwise (fun x y => x.Start ≤ y.Start ∧ (x.Worker = y.Worker → x.End ≤ y.Start))
  lnk : ∀ l ∈ ls, m.b l.Consumer = true → m.b l.Supplier = true ∧ (m.s l.Supplier).End ≤ (m.s l.Consumer).Start
  org : ∀ x ∈ out, x.Start = 0 ∨ ∃ y ∈ out, y.End = x.Start
  torg : m.t = 0 ∨ ∃ y ∈ out, y.End = m.t

section
variable {n w : Nat} {ls : List api_Link} {du : Int → Int}

theorem Inv.start : Inv n w ls du z00.1 z00.2 := by
  unfold z00
  refine ⟨Int.le_refl _, fun _ => Int.le_refl _, ?_, ?_, ?_, ?_, ?_, ?_, List.nodup_nil, ?_, fun _ => .inl rfl, List.Pairwise.nil, ?_, ?_, .inl rfl⟩ <;> simp

theorem Inv.step (hdu : ∀ i, 0 ≤ du i) {m : Ms} {out : List api_Slot} (I : Inv n w ls du m out) {z' : Ms × List api_Slot} (h : nxt n w ls du (m, out) = some z') : Inv n w ls du z'.1 z'.2 := by
  rcases nxt_cases h with ⟨d, k, _, _, hd, hk, hr, hf, rfl⟩ | ⟨t, _, ht, hlo, hlt, rfl⟩
  · obtain ⟨hb, hsup⟩ := rdy_iff.1 hr
    have hd0 := hdu d
    have hnew : ∀ x ∈ out, x.Device ≠ d := fun x hx e => by
      have := (I.sl x hx).1
      rw [e, hb] at this; cases this
    have ht0 := I.t0
    have hmem : ∀ {P : api_Slot → Prop}, (∀ x ∈ out, P x) → P (api_Slot.mk d k m.t (m.t + du d)) → ∀ x ∈ out ++ [api_Slot.mk d k m.t (m.t + du d)], P x := fun h1 h2 x hx => by
      rcases List.mem_append.1 hx with h | h
      · exact h1 x h
      · simp only [List.mem_singleton] at h; subst h; exact h2
    have hin : ∀ {x : api_Slot}, x ∈ out → x ∈ out ++ [api_Slot.mk d k m.t (m.t + du d)] := fun h => List.mem_append.2 (.inl h)
    have hlast : api_Slot.mk d k m.t (m.t + du d) ∈ out ++ [api_Slot.mk d k m.t (m.t + du d)] := List.mem_append.2 (.inr (by simp))
    unfold place
    constructor
    · exact ht0
    · intro j; simp only [fset]; split
      · omega
      · exact I.f0 j
    · exact hmem I.dev hd
    · exact hmem I.wrk hk
    · exact hmem I.len rfl
    · exact hmem I.st ⟨ht0, Int.le_refl _⟩
    · refine hmem (fun x hx => ?_) ?_
      · have := I.sl x hx
        simp only [fset, if_neg (hnew x hx)]; exact this
      · simp [fset]
    · intro j hj
      simp only [fset] at hj ⊢
      by_cases e : j = d
      · subst e; simp
      · rw [if_neg e] at hj ⊢
        have := I.bs j hj
        exact ⟨hin this.1, this.2⟩
    · simp only [List.map_append, List.map_cons, List.map_nil]
      rw [List.nodup_append]
      refine ⟨I.nd, by simp, fun a ha b hb' => ?_⟩
      simp only [List.mem_singleton] at hb'
      obtain ⟨x, hx, rfl⟩ := List.mem_map.1 ha
      rw [hb']; exact hnew x hx
    · refine hmem (fun x hx => ?_) (by simp [fset])
      simp only [fset]
      split
      · rename_i e
        have := I.fle x hx
        rw [e] at this; omega
      · exact I.fle x hx
    · intro j
      simp only [fset]
      by_cases e : j = k
      · rw [if_pos e]; exact .inr ⟨_, hlast, e.symm, rfl⟩
      · rw [if_neg e]
        rcases I.fex j with h | ⟨x, hx, h1, h2⟩
        · exact .inl h
        · exact .inr ⟨x, hin hx, h1, h2⟩
    · rw [List.pairwise_append]
      refine ⟨I.ord, List.pairwise_singleton _ _, fun x hx y hy => ?_⟩
      simp only [List.mem_singleton] at hy
      subst hy
      refine ⟨(I.st x hx).2, fun e => ?_⟩
      have := I.fle x hx
      simp only at e ⊢
      rw [e] at this; omega
    · intro l hl hc
      simp only [fset] at hc ⊢
      by_cases e : l.Consumer = d
      · obtain ⟨h1, h2⟩ := hsup l hl e
        have hne : l.Supplier ≠ d := fun e' => by rw [e', hb] at h1; cases h1
        rw [if_neg hne, if_neg hne, if_pos e]
        exact ⟨h1, h2⟩
      · rw [if_neg e] at hc ⊢
        obtain ⟨h1, h2⟩ := I.lnk l hl hc
        have hne : l.Supplier ≠ d := fun e' => by rw [e', hb] at h1; cases h1
        rw [if_neg hne, if_neg hne]
        exact ⟨h1, h2⟩
    · refine hmem (fun x hx => ?_) ?_
      · rcases I.org x hx with h | ⟨y, hy, h⟩
        · exact .inl h
        · exact .inr ⟨y, hin hy, h⟩
      · rcases I.torg with h | ⟨y, hy, h⟩
        · exact .inl h
        · exact .inr ⟨y, hin hy, h⟩
    · rcases I.torg with h | ⟨y, hy, h⟩
      · exact .inl h
      · exact .inr ⟨y, hin hy, h⟩
  · obtain ⟨k, _, _, hfk, _⟩ := mem_running.1 ht
    have ht0 := I.t0
    refine ⟨by simp only; omega, I.f0, I.dev, I.wrk, I.len, fun x hx => ⟨(I.st x hx).1, by have := (I.st x hx).2; simp only; omega⟩, I.sl, I.bs, I.nd, I.fle, I.fex, I.ord, I.lnk, I.org, ?_⟩
    rcases I.fex k with h | ⟨x, hx, _, h2⟩
    · omega
    · exact .inr ⟨x, hx, by rw [h2, hfk]⟩

theorem it_ind {P : Ms → List api_Slot → Prop} (hs : ∀ m out z', P m out → nxt n w ls du (m, out) = some z' → P z'.1 z'.2) : ∀ (k : Nat) (z : Ms × List api_Slot), P z.1 z.2 → P (it n w ls du k z).1 (it n w ls du k z).2
  | 0, z, h => h
  | k + 1, z, h => by
    rw [it]
    cases hz : nxt n w ls du z with
    | none => exact h
    | some z' => exact it_ind hs k z' (hs z.1 z.2 z' h hz)
theorem Inv.it (hdu : ∀ i, 0 ≤ du i) (k : Nat) : Inv n w ls du (it n w ls du k z00).1 (it n w ls du k z00).2 := it_ind (fun m out z' I h => I.step hdu h) k z00 Inv.start

/-- Slots as what has begun. -/
theorem Inv.begun_of {m : Ms} {out : List api_Slot} (I : Inv n w ls du m out) {d : Int} (h : m.b d = true) : (m.s d) ∈ out ∧ (m.s d).Device = d ∧ 0 ≤ d ∧ d < n := by
  obtain ⟨h1, h2⟩ := I.bs d h
  have := I.dev _ h1
  rw [h2] at this
  exact ⟨h1, h2, this⟩
theorem Inv.over_run {m : Ms} {out : List api_Slot} (I : Inv n w ls du m out) {x : api_Slot} (hx : x ∈ out) (ht : m.t < x.End) : x.End ∈ running w m := by
  refine mem_running.2 ⟨x.Worker, (I.wrk x hx).1, (I.wrk x hx).2, ?_, ht⟩
  rcases I.fex x.Worker with h | ⟨y, hy, h1, h2⟩
  · have := I.fle x hx; have := I.t0; omega
  · rw [← h2]
    refine Classical.byContradiction fun hne => ?_
    have hle := I.fle x hx
    have hne' : x ≠ y := fun e => hne (by rw [e])
    have := I.ord
    rcases List.getElem_of_mem hx with ⟨i, hi, ei⟩
    rcases List.getElem_of_mem hy with ⟨j, hj, ej⟩
    have hp := List.pairwise_iff_getElem.1 this
    rcases Nat.lt_trichotomy i j with h | h | h
    · have := (hp i j hi hj h).2 (by rw [ei, ej, h1])
      rw [ei, ej] at this
      have := (I.st y hy).2
      omega
    · subst h; rw [ei] at ej; exact hne' ej
    · have h3 := (hp j i hj hi h).2 (by rw [ei, ej, h1])
      rw [ei, ej] at h3
      have := (I.st x hx).2
      have := (I.st y hy).1
      rw [h2] at h3
      have hf0 := I.fle x hx
      have : du x.Device ≥ 0 ∨ du x.Device < 0 := by omega
      have := I.len x hx
      omega
theorem Inv.out_le {m : Ms} {out : List api_Slot} (I : Inv n w ls du m out) : out.length ≤ n := by
  have := nodup_le I.nd (s := below n) (fun x hx => by
    obtain ⟨y, hy, rfl⟩ := List.mem_map.1 hx
    exact mem_below.2 (I.dev y hy))
  rw [below_length] at this
  simpa using this
end

/-- The end: everything has begun and ended. -/
structure Done (n w : Nat) (ls : List api_Link) (du : Int → Int) (m : Ms) (out : List api_Slot) : Prop where
  inv : Inv n w ls du m out
  all : ∀ d : Int, 0 ≤ d → d < n → m.b d = true
  ends : ∀ x ∈ out, x.End ≤ m.t
  len : out.length = n

theorem not_full_link {n : Nat} {ls : List api_Link} (hfull : ¬ (ord n ls).length < n) {B : Int → Bool} (h : ∀ d : Int, 0 ≤ d → d < n → B d = false → ∃ l ∈ ls, l.Consumer = d ∧ B l.Supplier = false) : ∀ d : Int, 0 ≤ d → d < n → B d = true := by
  have hr := (ord_run n ls).1
  have key : ∀ out, Run n ls out → ∀ v ∈ out, B v = true := by
    intro out ho
    induction ho with
    | nil => simp
    | @snoc out v ho hv ih =>
      intro u hu
      rcases List.mem_append.1 hu with hu | hu
      · exact ih u hu
      · simp only [List.mem_singleton] at hu; subst hu
        obtain ⟨h0, h1, h2, _⟩ := least_some hv
        obtain ⟨_, h3⟩ := free_iff.1 h2
        cases hB : B u with
        | true => rfl
        | false =>
          obtain ⟨l, hl, hc, hs⟩ := h u h0 h1 hB
          have := ih _ (h3 l hl hc)
          rw [hs] at this; cases this
  exact fun d h0 h1 => key _ hr d (ord_full hfull h0 h1)

theorem done_of {n w : Nat} {ls : List api_Link} {du : Int → Int} (hw : 0 < w) (hfull : ¬ (ord n ls).length < n) (g : GoodG n ls) {m : Ms} {out : List api_Slot} (I : Inv n w ls du m out) (h : nxt n w ls du (m, out) = none) : Done n w ls du m out := by
  obtain ⟨h1, h2⟩ := nxt_none h
  have hends : ∀ x ∈ out, x.End ≤ m.t := fun x hx => by
    refine Classical.byContradiction fun hn => ?_
    have := I.over_run hx (by omega)
    rw [h2] at this; cases this
  have hwk : 0 ≤ nextW w m := by
    refine Classical.byContradiction fun hn => ?_
    have := fst_neg hn 0 (by omega) (by omega)
    simp only [decide_eq_false_iff_not] at this
    have : m.f 0 ∈ running w m := mem_running.2 ⟨0, by omega, by omega, rfl, by omega⟩
    rw [h2] at this; cases this
  have hnr := fst_neg (fun hd => h1 ⟨hd, hwk⟩)
  have hall : ∀ d : Int, 0 ≤ d → d < n → m.b d = true := not_full_link hfull fun d d0 d1 hb => by
    obtain ⟨l, hl, hc, hs⟩ := rdy_not (hnr d d0 d1) hb
    refine ⟨l, hl, hc, ?_⟩
    cases hB : m.b l.Supplier with
    | false => rfl
    | true =>
      have := hs hB
      have := hends _ (I.bs _ hB).1
      omega
  refine ⟨I, hall, hends, Nat.le_antisymm I.out_le ?_⟩
  have := nodup_le (below_nodup n) (s := out.map api_Slot.Device) (fun x hx => by
    obtain ⟨x0, x1⟩ := mem_below.1 hx
    obtain ⟨a, b⟩ := I.bs x (hall x x0 x1)
    exact List.mem_map.2 ⟨_, a, b⟩)
  rw [below_length] at this
  simpa using this
end Go.Proofs.Ythmjgadmadlpkaa.Sim

namespace Go.Proofs.Ythmjgadmadlpkaa.Sim
open Go
set_option linter.unusedVariables false
set_option maxRecDepth 100000

def big (x : Int) : Bool := decide (9007199254740992 < x)
def scode (p : Int) (ls : List api_Link) (dl : List Int) (w : Int) : Int :=
  if ccode p ls ≠ 0 then ccode p ls else if (dl.length : Int) = p ∧ dl.any big = false ∧ 1 ≤ w ∧ w ≤ 16 then 0 else 1

theorem check31_ok (p : Int) (ls : List api_Link) (dl : List Int) (w : Int) (h : ls.length ≤ maxLen) (hd : dl.length ≤ maxLen) : resume_check.f p ls dl w = some (scode p ls dl w) := by
  unfold resume_check.f
  rw [check_ok p ls h, Option.bind_some]
  by_cases h1 : ccode p ls = 0
  · have e : scode p ls dl w = if (dl.length : Int) = p ∧ dl.any big = false ∧ 1 ≤ w ∧ w ≤ 16 then 0 else 1 := by unfold scode; rw [if_neg (by simp [h1])]
    rw [e, if_neg (by simp [h1])]
    by_cases h2 : (dl.length : Int) = p
    · rw [if_neg (by simp [h2]), search_ok (L := resume_check.l0 dl) dl big 1 hd (fun k i => by rw [resume_check.l0]; rfl)]
      cases h3 : dl.any big
      · simp only [Bool.false_eq_true, if_false, Option.bind_some, Fl.go]
        by_cases h4 : 1 ≤ w ∧ w ≤ 16
        · rw [if_neg (by simp; omega), if_pos ⟨h2, trivial, h4⟩]
        · rw [if_pos (by simp; omega), if_neg (fun c => h4 c.2.2)]
      · simp only [if_true, Option.bind_some, Fl.go]
        rw [if_neg (fun c => by cases c.2.1)]
    · rw [if_pos (by simpa using h2), if_neg (fun c => h2 c.1)]
  · have e : scode p ls dl w = ccode p ls := by unfold scode; rw [if_pos h1]
    rw [e, if_pos (by simpa using h1)]

/-- What the checks of a schedule let pass. -/
structure GoodS (n w : Nat) (ls : List api_Link) (dl : List Int) : Prop where
  g : GoodG n ls
  full : ¬ (ord n ls).length < n
  dn : dl.length = n
  d0 : ∀ x ∈ dl, 0 ≤ x ∧ x ≤ 9007199254740992
  w0 : 0 < w
  w1 : w ≤ 16
theorem scode_good {p : Int} {ls : List api_Link} {dl : List Int} {w : Int} (h : scode p ls dl w = 0) (hd : ∀ x ∈ dl, 0 ≤ x) : ∃ n v : Nat, p = n ∧ w = v ∧ GoodS n v ls dl := by
  unfold scode at h
  by_cases h1 : ccode p ls = 0
  · rw [if_neg (by simp [h1])] at h
    by_cases h2 : (dl.length : Int) = p ∧ dl.any big = false ∧ 1 ≤ w ∧ w ≤ 16
    · obtain ⟨a, b, c, d⟩ := h2
      have hv : vcode p ls = 0 := by
        unfold ccode at h1
        split at h1
        · assumption
        · exact h1
      obtain ⟨n, rfl, g⟩ := vcode_good hv
      rw [ccode_good g] at h1
      refine ⟨n, w.toNat, rfl, by omega, g, ?_, by omega, fun x hx => ⟨hd x hx, ?_⟩, by omega, by omega⟩
      · intro hlt; rw [if_pos hlt] at h1; cases h1
      · have := List.any_eq_false.1 b x hx
        simpa [big] using this
    · rw [if_neg h2] at h; cases h
  · rw [if_pos h1] at h; exact absurd h h1
theorem good_scode {n w : Nat} {ls : List api_Link} {dl : List Int} (S : GoodS n w ls dl) : scode n ls dl w = 0 := by
  have h1 : ccode (n : Int) ls = 0 := by rw [ccode_good S.g, if_neg S.full]
  unfold scode
  rw [if_neg (by simp [h1]), if_pos]
  refine ⟨by rw [S.dn], ?_, by have := S.w0; omega, by have := S.w1; omega⟩
  rw [List.any_eq_false]
  intro x hx
  simp [big]
  exact (S.d0 x hx).2

def duf (dl : List Int) (i : Int) : Int := (idx dl i).getD 0
theorem duf_rep {dl : List Int} {n : Nat} (h : dl.length = n) : RepV n dl (duf dl) := ⟨h, fun i h0 h1 => by
  obtain ⟨x, hx, _⟩ := idx_of (xs := dl) h0 (by omega)
  unfold duf; rw [hx]; rfl⟩
theorem duf_range {dl : List Int} (h : ∀ x ∈ dl, 0 ≤ x ∧ x ≤ 9007199254740992) (i : Int) : 0 ≤ duf dl i ∧ duf dl i ≤ 9007199254740992 := by
  unfold duf
  by_cases hi : 0 ≤ i ∧ i < dl.length
  · obtain ⟨x, hx, hm⟩ := idx_of (xs := dl) hi.1 hi.2
    rw [hx]; exact h x hm
  · have : idx dl i = none := by
      cases hx : idx dl i with
      | none => rfl
      | some x => exact absurd ⟨idx_lo hx, idx_hi hx⟩ hi
    rw [this]; simp

theorem Go1.zero {n w : Nat} {ls : List api_Link} {du : Int → Int} : Go1 n w ls du z00 (resume_scheduler.mk ls (List.replicate n (api_Slot.mk 0 0 0 0)) (List.replicate n false) (List.replicate w 0) 0, []) z00.1 0 := by
  refine ⟨⟨rfl, RepV.rep n false, RepV.rep n _, RepV.rep w 0, rfl⟩, rfl, ?_, ?_, ?_⟩
  · simp
  · simp [z00]
  · intro i; simp [z00]

/-- The schedule: where the machine's steps end. -/
structure Sched (n w : Nat) (ls : List api_Link) (du : Int → Int) (m : Ms) (out : List api_Slot) : Prop where
  st : ∃ j, it n w ls du j z00 = (m, out)
  no : nxt n w ls du (m, out) = none
  dn : Done n w ls du m out
theorem Sched.same {n w : Nat} {ls : List api_Link} {du : Int → Int} {m m' : Ms} {out out' : List api_Slot} (a : Sched n w ls du m out) (b : Sched n w ls du m' out') : m = m' ∧ out = out' := by
  obtain ⟨j, hj⟩ := a.st
  obtain ⟨k, hk⟩ := b.st
  have := it_same (n := n) (w := w) (ls := ls) (du := du) j k z00 (by rw [hj]; exact a.no) (by rw [hk]; exact b.no)
  rw [hj, hk] at this
  injection this with h1 h2
  exact ⟨h1, h2⟩
theorem Sched.mk' {n w : Nat} {ls : List api_Link} {dl : List Int} (S : GoodS n w ls dl) {m : Ms} {out : List api_Slot} {j : Nat} (h : it n w ls (duf dl) j z00 = (m, out)) (hn : nxt n w ls (duf dl) (m, out) = none) : Sched n w ls (duf dl) m out := by
  have I := Inv.it (n := n) (w := w) (ls := ls) (du := duf dl) (fun i => (duf_range S.d0 i).1) j
  rw [h] at I
  exact ⟨⟨j, h⟩, hn, done_of S.w0 S.full S.g I hn⟩
theorem Sched.bound {n w : Nat} {ls : List api_Link} {dl : List Int} (S : GoodS n w ls dl) {m : Ms} {out : List api_Slot} (D : Done n w ls (duf dl) m out) : ∀ x ∈ out, 0 ≤ x.Start ∧ x.Start ≤ x.End := fun x hx => by
  have h1 := D.inv.st x hx
  have h2 := D.inv.len x hx
  have h3 := (duf_range S.d0 x.Device).1
  omega

theorem sched_good {n w : Nat} {ls : List api_Link} {dl : List Int} (S : GoodS n w ls dl) : ∃ m out, resume_Schedule.f n ls dl w = some (out, 0) ∧ Sched n w ls (duf dl) m out ∧ m.t ≤ 128 * 9007199254740992 := by
  have hn := S.g.n128
  have hw := S.w1
  unfold resume_Schedule.f
  rw [check31_ok _ _ _ _ (by have := S.g.len; rw [maxLen_eq]; omega) (by rw [S.dn, maxLen_eq]; omega), good_scode S, Option.bind_some, if_neg (by simp), mk_ok (by omega), Option.bind_some, mk_ok (by omega), Option.bind_some, mk_ok (by omega), Option.bind_some]
  obtain ⟨j, s, m, e, G, hno⟩ := sched_ok S.g (duf_rep S.dn) (duf_range S.d0) (by omega) (Go1.zero (n := n) (w := w) (ls := ls) (du := duf dl))
  rw [e]
  refine ⟨m, s.2, rfl, Sched.mk' S G.it hno, ?_⟩
  have h1 := G.t.2
  have h2 := G.c
  have h3 : (s.2.length : Int) * 9007199254740992 ≤ 128 * 9007199254740992 := Int.mul_le_mul_of_nonneg_right (by omega) (by omega)
  omega
theorem sched_bad {p : Int} {ls : List api_Link} {dl : List Int} {w : Int} (h : ls.length ≤ maxLen) (hd : dl.length ≤ maxLen) (hs : scode p ls dl w ≠ 0) : resume_Schedule.f p ls dl w = some ([], scode p ls dl w) := by
  unfold resume_Schedule.f
  rw [check31_ok _ _ _ _ h hd, Option.bind_some, if_pos (by simpa using hs)]

theorem u64_range {x : Int} (h : (Lit.int .u64 x).wf = true) : 0 ≤ x ∧ x < 18446744073709551616 := by
  simp [Lit.wf, IntKind.min, IntKind.max, IntKind.signed, IntKind.bits] at h; omega

/-! ### the durations of the statements -/

theorem durations_ok (n : Nat) (hn : n ≤ 128) (p1 : List Int) (h : ∀ x ∈ p1, 0 ≤ x) (hl : p1.length ≤ maxLen) : ∃ dl, law31_durations.f n p1 = some dl ∧ dl.length = n ∧ ∀ x ∈ dl, 0 ≤ x ∧ x ≤ 11 := by
  rw [maxLen_eq] at hl
  unfold law31_durations.f
  rw [mk_ok (by omega), Option.bind_some]
  have key : ∃ dl, law31_durations.l0 n p1 FUEL (List.replicate n 0) 0 = some dl ∧ dl.length = n ∧ ∀ x ∈ dl, 0 ≤ x ∧ x ≤ 11 := by
    refine loop_c (L := fun k (s : List Int) i => law31_durations.l0 n p1 k s i) n (fun i s => s.length = n ∧ ∀ x ∈ s, 0 ≤ x ∧ x ≤ 11) (fun o => ∃ dl, o = some dl ∧ dl.length = n ∧ ∀ x ∈ dl, 0 ≤ x ∧ x ≤ 11) ?_ ?_ FUEL 0 _ (Nat.zero_le _) (FUEL_pos (by omega)) ⟨by simp, fun x hx => by rw [(List.mem_replicate.1 hx).2]; omega⟩
    · rintro k s i hi ⟨h1, h2⟩
      have hset : ∀ (l : List Int) (v : Int), (∀ x ∈ l, 0 ≤ x ∧ x ≤ 11) → (0 ≤ v ∧ v ≤ 11) → ∀ x ∈ upd l (i : Int) v, 0 ≤ x ∧ x ≤ 11 := fun l v h hv x hx => by
        unfold upd at hx
        rcases List.mem_or_eq_of_mem_set hx with h' | h'
        · exact h x h'
        · rw [h']; exact hv
      have h3 : wu (Int.tmod (i : Int) 3) = (i : Int) % 3 := by rw [Int.tmod_eq_emod_of_nonneg (by omega), wu_id (by omega) (by omega)]
      have hA := hset s ((i : Int) % 3) h2 (by omega)
      have hAl : (upd s (i : Int) ((i : Int) % 3)).length = n := by rw [upd_length]; exact h1
      rw [law31_durations.l0, if_pos (by simp; omega), idx_get (by omega), Option.bind_some, h3]
      by_cases hp : i < p1.length
      · rw [if_pos (by simp; omega), idx_get hp, Option.bind_some, idx_get (by omega), Option.bind_some, Option.bind_some]
        refine .inl ⟨upd (upd s (i : Int) ((i : Int) % 3)) (i : Int) (Int.tmod p1[i] 12), ⟨by rw [upd_length]; exact hAl, ?_⟩, by rw [wi_succ (by omega)]⟩
        have := h _ (List.getElem_mem hp)
        refine hset _ _ hA ?_
        rw [Int.tmod_eq_emod_of_nonneg this]; omega
      · rw [if_neg (by simp; omega), Option.bind_some]
        exact .inl ⟨_, ⟨hAl, hA⟩, by rw [wi_succ (by omega)]⟩
    · rintro k s ⟨h1, h2⟩
      rw [law31_durations.l0, if_neg (by simp)]
      exact ⟨s, rfl, h1, h2⟩
  obtain ⟨dl, e, h1⟩ := key
  rw [e]
  exact ⟨dl, rfl, h1⟩

/-- The graphs and durations of the statements. -/
theorem acyc_full {n : Nat} {ls : List api_Link} (g : Gr n ls true) : ¬ (ord n ls).length < n := fun hlt => by
  obtain ⟨r, hr⟩ := g.down rfl
  obtain ⟨i, _, _, hp⟩ := ord_cyclic g.good hlt
  have : ∀ {a b : Int}, Path ls a b → r b < r a := fun h => by
    induction h with
    | one h => exact hr _ h
    | more h _ ih => have := hr _ h; simp only at this; omega
  have := this hp
  omega
theorem goodS_of {n : Nat} {ls : List api_Link} (g : Gr n ls true) {dl : List Int} (h1 : dl.length = n) (h2 : ∀ x ∈ dl, 0 ≤ x ∧ x ≤ 11) {w : Nat} (w0 : 0 < w) (w1 : w ≤ 16) : GoodS n w ls dl :=
  ⟨g.good, acyc_full g, h1, fun x hx => by have := h2 x hx; omega, w0, w1⟩
theorem mod1_ok (x : Int) (k : Nat) (h0 : 0 < k) (h1 : k ≤ 15) : ∃ w : Nat, help_Mod.f x k = some ((w : Int) - 1) ∧ wi (1 + ((w : Int) - 1)) = w ∧ 0 < w ∧ w ≤ k := by
  obtain ⟨r, hr, a, b⟩ := mod_ok (x := x) (n := k) (by omega) (by omega)
  refine ⟨(r + 1).toNat, ?_, ?_, by omega, by omega⟩
  · rw [hr]; congr 1; omega
  · rw [wi_id (by omega) (by omega)]; omega
end Go.Proofs.Ythmjgadmadlpkaa.Sim

namespace Go.Proofs.Ythmjgadmadlpkaa.Sim
open Go
set_option linter.unusedVariables false
set_option maxRecDepth 100000

/-! ### sums -/

def sumB {α : Type} (f : α → Int) : List α → Int
  | [] => 0
  | a :: t => f a + sumB f t
theorem sumB_append {α : Type} (f : α → Int) : ∀ (a b : List α), sumB f (a ++ b) = sumB f a + sumB f b
  | [], b => by simp [sumB]
  | x :: a, b => by simp only [List.cons_append, sumB, sumB_append f a b]; omega
theorem sumB_perm {α : Type} (f : α → Int) {a b : List α} (h : a.Perm b) : sumB f a = sumB f b := by
  induction h with
  | nil => rfl
  | cons x _ ih => simp only [sumB, ih]
  | swap x y l => simp only [sumB]; omega
  | trans _ _ i j => rw [i, j]
theorem sumB_congr {α : Type} {f g : α → Int} : ∀ {a : List α}, (∀ x ∈ a, f x = g x) → sumB f a = sumB g a
  | [], _ => rfl
  | x :: a, h => by simp only [sumB]; rw [h x (by simp), sumB_congr (a := a) (fun y hy => h y (by simp [hy]))]
theorem sumB_map {α β : Type} (f : β → Int) (q : α → β) : ∀ (a : List α), sumB f (a.map q) = sumB (fun x => f (q x)) a
  | [] => rfl
  | x :: a => by simp only [List.map_cons, sumB, sumB_map f q a]

/-- The latest end of slots. -/
structure Mks (out : List api_Slot) (T : Int) : Prop where
  t0 : 0 ≤ T
  le : ∀ x ∈ out, x.End ≤ T
  ex : T = 0 ∨ ∃ x ∈ out, x.End = T
theorem Mks.uniq {out : List api_Slot} {T U : Int} (a : Mks out T) (b : Mks out U) : T = U := by
  have h1 := a.t0
  have h2 := b.t0
  have h3 : T ≤ U := by
    rcases a.ex with h | ⟨x, hx, h⟩
    · omega
    · have := b.le x hx; omega
  have h4 : U ≤ T := by
    rcases b.ex with h | ⟨x, hx, h⟩
    · omega
    · have := a.le x hx; omega
  omega
theorem Mks.nil : Mks [] 0 := ⟨Int.le_refl _, by simp, .inl rfl⟩
theorem Mks.snoc {out : List api_Slot} {T U : Int} (a : Mks out T) {x : api_Slot} (h : U = max T x.End) : Mks (out ++ [x]) U := by
  have := a.t0
  refine ⟨by omega, fun y hy => ?_, ?_⟩
  · rcases List.mem_append.1 hy with h' | h'
    · have := a.le y h'; omega
    · simp only [List.mem_singleton] at h'; subst h'; omega
  · by_cases c : T ≤ x.End
    · exact .inr ⟨x, by simp, by omega⟩
    · rcases a.ex with h' | ⟨y, hy, h'⟩
      · exact .inl (by omega)
      · exact .inr ⟨y, by simp [hy], by omega⟩
theorem makespan_ok (out : List api_Slot) (hl : out.length ≤ 4294967296) : ∃ T, resume_Makespan.f out = some T ∧ Mks out T := by
  unfold resume_Makespan.f
  have key : ∃ T, resume_Makespan.l0 out FUEL 0 0 = some T ∧ Mks out T := by
    refine loop_c (L := fun k (s : Int) i => resume_Makespan.l0 out k s i) out.length (fun i s => Mks (out.take i) s) (fun o => ∃ T, o = some T ∧ Mks out T) ?_ ?_ FUEL 0 0 (Nat.zero_le _) (FUEL_pos (by omega)) (by simpa using Mks.nil)
    · intro k s i hi hI
      rw [resume_Makespan.l0, if_pos (by simp; omega), idx_get hi, Option.bind_some]
      refine .inl ⟨max s out[i].End, ?_, by rw [wi_succ (by omega)]⟩
      rw [List.take_succ_eq_append_getElem hi]
      exact hI.snoc rfl
    · intro k s hI
      rw [resume_Makespan.l0, if_neg (by simp)]
      rw [List.take_length] at hI
      exact ⟨s, rfl, hI⟩
  obtain ⟨T, e, h⟩ := key
  rw [e]
  exact ⟨T, rfl, h⟩

/-- The longest chains that end at the devices. -/
structure CPath (n : Nat) (ls : List api_Link) (du h : Int → Int) : Prop where
  lo : ∀ d : Int, 0 ≤ d → d < n → du d ≤ h d
  ge : ∀ l ∈ ls, h l.Supplier + du l.Consumer ≤ h l.Consumer
  ex : ∀ d : Int, 0 ≤ d → d < n → h d = du d ∨ ∃ l ∈ ls, l.Consumer = d ∧ h d = h l.Supplier + du d
structure CMax (n : Nat) (h : Int → Int) (c : Int) : Prop where
  c0 : 0 ≤ c
  le : ∀ d : Int, 0 ≤ d → d < n → h d ≤ c
  ex : c = 0 ∨ ∃ d : Int, 0 ≤ d ∧ d < n ∧ h d = c
/-- Along the order. -/
theorem ord_ind {n : Nat} {ls : List api_Link} (hfull : ¬ (ord n ls).length < n) {P : Int → Prop} (h : ∀ d : Int, 0 ≤ d → d < n → (∀ l ∈ ls, l.Consumer = d → P l.Supplier) → P d) : ∀ d : Int, 0 ≤ d → d < n → P d := by
  have key : ∀ out, Run n ls out → ∀ v ∈ out, P v := by
    intro out ho
    induction ho with
    | nil => simp
    | @snoc out v ho hv ih =>
      intro u hu
      rcases List.mem_append.1 hu with hu | hu
      · exact ih u hu
      · simp only [List.mem_singleton] at hu; subst hu
        obtain ⟨h0, h1, h2, _⟩ := least_some hv
        obtain ⟨_, h3⟩ := free_iff.1 h2
        exact h u h0 h1 fun l hl hc => ih _ (h3 l hl hc)
  exact fun d h0 h1 => key _ (ord_run n ls).1 d (ord_full hfull h0 h1)
theorem CPath.le {n : Nat} {ls : List api_Link} {du h h' : Int → Int} (g : GoodG n ls) (hfull : ¬ (ord n ls).length < n) (a : CPath n ls du h) (b : CPath n ls du h') : ∀ d : Int, 0 ≤ d → d < n → h d ≤ h' d :=
  ord_ind hfull fun d d0 d1 ih => by
    rcases a.ex d d0 d1 with e | ⟨l, hl, hc, e⟩
    · have := b.lo d d0 d1; omega
    · have h1 := ih l hl hc
      have h2 := b.ge l hl
      rw [hc] at h2
      omega
theorem CPath.uniq {n : Nat} {ls : List api_Link} {du h h' : Int → Int} (g : GoodG n ls) (hfull : ¬ (ord n ls).length < n) (a : CPath n ls du h) (b : CPath n ls du h') {c c' : Int} (ca : CMax n h c) (cb : CMax n h' c') : c = c' := by
  have h1 := a.le g hfull b
  have h2 := b.le g hfull a
  have h3 := ca.c0
  have h4 := cb.c0
  have : c ≤ c' := by
    rcases ca.ex with e | ⟨d, d0, d1, e⟩
    · omega
    · have := h1 d d0 d1; have := cb.le d d0 d1; omega
  have : c' ≤ c := by
    rcases cb.ex with e | ⟨d, d0, d1, e⟩
    · omega
    · have := h2 d d0 d1; have := ca.le d d0 d1; omega
  omega

structure CPush (n : Nat) (ls : List api_Link) (du : Int → Int) (done : List Int) (E : Int → Int) (most : Int) : Prop where
  lo : ∀ d ∈ done, du d ≤ E d
  ex : ∀ d ∈ done, E d = du d ∨ ∃ l ∈ ls, l.Consumer = d ∧ E d = E l.Supplier + du d
  ge : ∀ l ∈ ls, l.Supplier ∈ done → (l.Consumer ∈ done → E l.Supplier + du l.Consumer ≤ E l.Consumer) ∧ (l.Consumer ∉ done → E l.Supplier ≤ E l.Consumer)
  nd : ∀ d, d ∉ done → E d = 0 ∨ ∃ l ∈ ls, l.Consumer = d ∧ l.Supplier ∈ done ∧ E d = E l.Supplier
  bd : ∀ d, 0 ≤ E d ∧ E d ≤ done.length * 9007199254740992
  m0 : 0 ≤ most
  ml : ∀ d ∈ done, E d ≤ most
  mx : most = 0 ∨ ∃ d ∈ done, E d = most

/-- What one pass over the links has pushed. -/
structure Pass (n : Nat) (ls : List api_Link) (done : List Int) (E : Int → Int) (x ex : Int) (i : Nat) (F : Int → Int) : Prop where
  at_ : F x = ex
  up : ∀ d, d ≠ x → E d ≤ F d
  in_ : ∀ d ∈ done, F d = E d
  lk : ∀ l ∈ ls.take i, l.Supplier = x → ex ≤ F l.Consumer
  or_ : ∀ d, d ≠ x → F d = E d ∨ ((∃ l ∈ ls, l.Supplier = x ∧ l.Consumer = d) ∧ F d = ex)

theorem critical_l1 {n : Nat} {ls : List api_Link} (g : GoodG n ls) {done : List Int} (hr : Run n ls done) {x : Int} (hx : least n ls done = some x) {E : Int → Int} {el : List Int} {ex : Int} (most y : Int) (hE : RepV n el (fset E x ex)) :
    ∃ el' F, resume_CriticalPath.l1 ls most x y FUEL el 0 = some (el', max most y) ∧ RepV n el' F ∧ Pass n ls done E x ex ls.length F := by
  obtain ⟨x0, x1, x2, _⟩ := least_some hx
  obtain ⟨x3, x4⟩ := free_iff.1 x2
  have hll := g.len
  refine loop_c (L := fun k (s : List Int) i => resume_CriticalPath.l1 ls most x y k s i) ls.length (fun i s => ∃ F, RepV n s F ∧ Pass n ls done E x ex i F)
    (fun o => ∃ el' F, o = some (el', max most y) ∧ RepV n el' F ∧ Pass n ls done E x ex ls.length F) ?_ ?_ FUEL 0 el (Nat.zero_le _) (FUEL_pos (by omega)) ⟨_, hE, fset_self _ _ _, fun d hd => by rw [fset_ne _ _ hd]; omega, fun d hd => fset_ne _ _ (fun e => x3 (e ▸ hd)), by simp, fun d hd => .inl (fset_ne _ _ hd)⟩
  · rintro k s i hi ⟨F, h1, p1, p2, p3, p4, p5⟩
    have hm := List.getElem_mem hi
    have hc := g.c0 _ hm
    rw [resume_CriticalPath.l1, if_pos (by simp; omega), idx_get hi, Option.bind_some]
    by_cases e : ls[i].Supplier = x
    · have hcx : ls[i].Consumer ≠ x := fun h => x3 (e ▸ x4 _ hm h)
      have hcd : ls[i].Consumer ∉ done := fun h => x3 (e ▸ hr.facts.2.2 _ hm h)
      rw [if_pos (by simpa using e), h1.2 _ hc.1 hc.2, Option.bind_some, h1.2 _ x0 x1, Option.bind_some, Option.bind_some, p1]
      refine .inl ⟨_, ⟨_, h1.set hc.1 (max (F ls[i].Consumer) ex), ?_, ?_, ?_, ?_, ?_⟩, by rw [wi_succ (by omega)]⟩
      · rw [fset_ne _ _ (Ne.symm hcx)]; exact p1
      · intro d hd
        have := p2 d hd
        unfold fset; split
        · rename_i e'; rw [← e']; omega
        · exact this
      · intro d hd
        rw [fset_ne _ _ (fun h : d = ls[i].Consumer => hcd (h ▸ hd))]; exact p3 d hd
      · intro l hl hs
        rcases (mem_take_succ hi).1 hl with h | h
        · have := p4 l h hs
          unfold fset; split
          · rename_i e'; rw [← e']; omega
          · exact this
        · rw [h, fset_self]; omega
      · intro d hd
        unfold fset; split
        · rename_i e'
          by_cases c : F ls[i].Consumer ≤ ex
          · exact .inr ⟨⟨_, hm, e, e'.symm⟩, by omega⟩
          · rcases p5 d hd with h | ⟨_, h⟩
            · exact .inl (by rw [← h, e']; omega)
            · rw [e'] at h; omega
        · exact p5 d hd
    · rw [if_neg (by simpa using e), Option.bind_some]
      refine .inl ⟨s, ⟨F, h1, p1, p2, p3, fun l hl hs => ?_, p5⟩, by rw [wi_succ (by omega)]⟩
      rcases (mem_take_succ hi).1 hl with h | h
      · exact p4 l h hs
      · exact absurd (h ▸ hs) e
  · rintro k s ⟨F, h1, h2⟩
    rw [resume_CriticalPath.l1, if_neg (by simp)]
    exact ⟨s, F, rfl, h1, h2⟩

theorem CPush.step {n : Nat} {ls : List api_Link} {du : Int → Int} (hdu : ∀ i, 0 ≤ du i ∧ du i ≤ 9007199254740992) {done : List Int} (hr : Run n ls done) {x : Int} (hx : least n ls done = some x) {E F : Int → Int} {most : Int} (P : CPush n ls du done E most) (Q : Pass n ls done E x (E x + du x) ls.length F) : CPush n ls du (done ++ [x]) F (max most (E x + du x)) := by
  obtain ⟨x0, x1, x2, _⟩ := least_some hx
  obtain ⟨x3, x4⟩ := free_iff.1 x2
  have hdx := hdu x
  have hEx := P.bd x
  have hlen : ((done ++ [x]).length : Int) = done.length + 1 := by simp
  have hfull : ∀ l ∈ ls, l.Supplier = x → E x + du x ≤ F l.Consumer := fun l hl hs => Q.lk l (by rw [List.take_length]; exact hl) hs
  have hin : ∀ d, d ∈ done ++ [x] ↔ d ∈ done ∨ d = x := fun d => by simp
  have hsup : ∀ l ∈ ls, l.Consumer ∈ done → l.Supplier ∈ done := hr.facts.2.2
  refine ⟨?_, ?_, ?_, ?_, ?_, by have := P.m0; omega, ?_, ?_⟩
  · intro d hd
    rcases (hin d).1 hd with h | h
    · rw [Q.in_ d h]; exact P.lo d h
    · rw [h, Q.at_]; omega
  · intro d hd
    rcases (hin d).1 hd with h | h
    · rw [Q.in_ d h]
      rcases P.ex d h with e | ⟨l, hl, hc, e⟩
      · exact .inl e
      · exact .inr ⟨l, hl, hc, by rw [Q.in_ _ (hsup l hl (hc ▸ h))]; exact e⟩
    · rw [h, Q.at_]
      rcases P.nd x x3 with e | ⟨l, hl, hc, hs, e⟩
      · exact .inl (by omega)
      · exact .inr ⟨l, hl, hc, by rw [Q.in_ _ hs, e]⟩
  · intro l hl hs
    rcases (hin _).1 hs with h | h
    · rw [Q.in_ _ h]
      obtain ⟨g1, g2⟩ := P.ge l hl h
      refine ⟨fun hc => ?_, fun hc => ?_⟩
      · rcases (hin _).1 hc with h' | h'
        · rw [Q.in_ _ h']; exact g1 h'
        · rw [h', Q.at_]
          have := g2 (fun h'' => x3 (h' ▸ h''))
          rw [h'] at this; omega
      · have hc1 : l.Consumer ∉ done := fun h' => hc ((hin _).2 (.inl h'))
        have hc2 : l.Consumer ≠ x := fun h' => hc ((hin _).2 (.inr h'))
        have := g2 hc1
        have := Q.up _ hc2
        omega
    · have h1 := hfull l hl h
      rw [h, Q.at_]
      refine ⟨fun hc => ?_, fun _ => h1⟩
      rcases (hin _).1 hc with h' | h'
      · exact absurd (h ▸ hsup l hl h') x3
      · exact absurd (h ▸ x4 l hl h') x3
  · intro d hd
    have hd1 : d ∉ done := fun h' => hd ((hin _).2 (.inl h'))
    have hd2 : d ≠ x := fun h' => hd ((hin _).2 (.inr h'))
    rcases Q.or_ d hd2 with e | ⟨⟨l, hl, hs, hc⟩, e⟩
    · rcases P.nd d hd1 with h | ⟨l, hl, hc, hs, h⟩
      · exact .inl (by rw [e, h])
      · exact .inr ⟨l, hl, hc, (hin _).2 (.inl hs), by rw [e, Q.in_ _ hs, h]⟩
    · exact .inr ⟨l, hl, hc, (hin _).2 (.inr hs), by rw [hs, Q.at_, e]⟩
  · intro d
    rw [hlen]
    by_cases h : d = x
    · rw [h, Q.at_]; omega
    · have := P.bd d
      rcases Q.or_ d h with e | ⟨_, e⟩ <;> rw [e] <;> omega
  · intro d hd
    rcases (hin d).1 hd with h | h
    · rw [Q.in_ d h]; have := P.ml d h; omega
    · rw [h, Q.at_]; omega
  · have := P.m0
    by_cases c : most ≤ E x + du x
    · exact .inr ⟨x, (hin x).2 (.inr rfl), by rw [Q.at_]; omega⟩
    · rcases P.mx with h | ⟨d, hd, h⟩
      · omega
      · exact .inr ⟨d, (hin d).2 (.inl hd), by rw [Q.in_ d hd, h]; omega⟩

theorem CPush.fin {n : Nat} {ls : List api_Link} {du : Int → Int} (g : GoodG n ls) (hfull : ¬ (ord n ls).length < n) {E : Int → Int} {most : Int} (P : CPush n ls du (ord n ls) E most) : CPath n ls du E ∧ CMax n E most := by
  have hin : ∀ d : Int, 0 ≤ d → d < n → d ∈ ord n ls := fun d h0 h1 => ord_full hfull h0 h1
  refine ⟨⟨fun d h0 h1 => P.lo d (hin d h0 h1), fun l hl => ?_, fun d h0 h1 => P.ex d (hin d h0 h1)⟩, ⟨P.m0, fun d h0 h1 => P.ml d (hin d h0 h1), ?_⟩⟩
  · have hc := g.c0 l hl
    have hs := g.s0 l hl
    exact (P.ge l hl (hin _ hs.1 hs.2)).1 (hin _ hc.1 hc.2)
  · rcases P.mx with h | ⟨d, hd, h⟩
    · exact .inl h
    · have := (ord_run n ls).1.facts.2.1 d hd
      exact .inr ⟨d, this.1, this.2, h⟩

theorem Run.pre' {n : Nat} {ls : List api_Link} {out : List Int} (h : Run n ls out) : ∀ i, i ≤ out.length → Run n ls (out.take i) := by
  induction h with
  | nil => intro i hi; simpa using Run.nil
  | @snoc out v h hv ih =>
    intro i hi
    by_cases hi' : i ≤ out.length
    · rw [List.take_append_of_le_length hi']; exact ih i hi'
    · rw [List.take_of_length_le (by simp only [List.length_append, List.length_singleton] at hi ⊢; omega)]; exact h.snoc hv
theorem Run.nth' {n : Nat} {ls : List api_Link} {out : List Int} (h : Run n ls out) : ∀ i (hi : i < out.length), least n ls (out.take i) = some out[i] := by
  induction h with
  | nil => intro i hi; simp at hi
  | @snoc out v h hv ih =>
    intro i hi
    by_cases hi' : i < out.length
    · rw [List.take_append_of_le_length (by omega), List.getElem_append_left hi']; exact ih i hi'
    · have : i = out.length := by simp only [List.length_append, List.length_singleton] at hi; omega
      subst this
      rw [List.take_append_of_le_length (Nat.le_refl _), List.take_length, List.getElem_append_right (Nat.le_refl _)]
      simpa using hv

theorem critical_good {n w : Nat} {ls : List api_Link} {dl : List Int} (S : GoodS n w ls dl) : ∃ h c, resume_CriticalPath.f n ls dl = some (c, 0) ∧ CPath n ls (duf dl) h ∧ CMax n h c ∧ c ≤ 128 * 9007199254740992 := by
  have g := S.g
  have hn := g.n128
  have S1 : GoodS n 1 ls dl := ⟨S.g, S.full, S.dn, S.d0, by omega, by omega⟩
  have hsc : scode n ls dl 1 = 0 := good_scode S1
  have hll : ls.length ≤ maxLen := by have := g.len; rw [maxLen_eq]; omega
  have hcc : ccode (n : Int) ls = 0 := by rw [ccode_good g, if_neg S.full]
  have ho : ores (n : Int) ls = (ord n ls, 0) := by unfold ores; rw [if_pos hcc]; rfl
  unfold resume_CriticalPath.f
  rw [check31_ok _ _ _ _ hll (by rw [S.dn, maxLen_eq]; omega), hsc, Option.bind_some, if_neg (by simp), order_ok _ _ hll, ho, Option.bind_some, if_neg (by simp), mk_ok (by omega), Option.bind_some]
  have hr := (ord_run n ls).1
  have hlen := ord_le n ls
  have hdu := duf_range S.d0
  have key : ∃ E most, resume_CriticalPath.l0 ls dl (ord n ls, 0) FUEL (List.replicate n 0) 0 0 = some most ∧ CPush n ls (duf dl) (ord n ls) E most := by
    refine loop_c (L := fun k (s : List Int × Int) i => resume_CriticalPath.l0 ls dl (ord n ls, 0) k s.1 s.2 i) (ord n ls).length (fun i s => ∃ E, RepV n s.1 E ∧ CPush n ls (duf dl) ((ord n ls).take i) E s.2)
      (fun o => ∃ E most, o = some most ∧ CPush n ls (duf dl) (ord n ls) E most) ?_ ?_ FUEL 0 (List.replicate n 0, 0) (Nat.zero_le _) (FUEL_pos (by omega)) ⟨fun _ => 0, RepV.rep n 0, ?_⟩
    · rintro k ⟨el, most⟩ i hi ⟨E, h1, h2⟩
      simp only at h1 h2 ⊢
      have hrun := hr.pre' i (by omega)
      have hx := hr.nth' i hi
      obtain ⟨x0, x1, _, _⟩ := least_some hx
      have hb := h2.bd (ord n ls)[i]
      have hl : ((ord n ls).take i).length = i := by simp; omega
      rw [hl] at hb
      have hi2 : (i : Int) * 9007199254740992 ≤ 128 * 9007199254740992 := Int.mul_le_mul_of_nonneg_right (by omega) (by omega)
      have hd := hdu (ord n ls)[i]
      rw [resume_CriticalPath.l0, if_pos (by simp; omega), idx_get hi, Option.bind_some, h1.2 _ x0 x1, Option.bind_some, (duf_rep S.dn).2 _ x0 x1, Option.bind_some, wu_id (by omega) (by omega), (h1.set x0 _).2 _ x0 x1, Option.bind_some, fset_self]
      obtain ⟨el', F, e, q1, q2⟩ := critical_l1 g hrun hx most (E (ord n ls)[i] + duf dl (ord n ls)[i]) (h1.set x0 (E (ord n ls)[i] + duf dl (ord n ls)[i]))
      rw [e, Option.bind_some]
      refine .inl ⟨(el', max most (E (ord n ls)[i] + duf dl (ord n ls)[i])), ⟨F, q1, ?_⟩, by rw [wi_succ (by omega)]⟩
      simp only
      rw [List.take_succ_eq_append_getElem hi]
      exact h2.step hdu hrun hx q2
    · rintro k ⟨el, most⟩ ⟨E, h1, h2⟩
      simp only at h1 h2 ⊢
      rw [resume_CriticalPath.l0, if_neg (by simp)]
      rw [List.take_length] at h2
      exact ⟨E, most, rfl, h2⟩
    · refine ⟨by simp, by simp, by simp, fun d _ => .inl rfl, fun d => ⟨Int.le_refl _, by simp⟩, Int.le_refl _, by simp, .inl rfl⟩
  obtain ⟨E, most, e, P⟩ := key
  rw [e, Option.bind_some]
  obtain ⟨a, b⟩ := P.fin g S.full
  refine ⟨E, most, rfl, a, b, ?_⟩
  have hlb : ((ord n ls).length : Int) * 9007199254740992 ≤ 128 * 9007199254740992 := Int.mul_le_mul_of_nonneg_right (by omega) (by omega)
  rcases P.mx with h | ⟨d, _, h⟩
  · omega
  · have := (P.bd d).2; omega
theorem critical_bad {p : Int} {ls : List api_Link} {dl : List Int} (h : ls.length ≤ maxLen) (hd : dl.length ≤ maxLen) (hs : scode p ls dl 1 ≠ 0) : resume_CriticalPath.f p ls dl = some (0, scode p ls dl 1) := by
  unfold resume_CriticalPath.f
  rw [check31_ok _ _ _ _ h hd, Option.bind_some, if_pos (by simpa using hs)]

/-! ### the schedule's ends and the longest chain -/

theorem ends_ge {n w : Nat} {ls : List api_Link} {du h : Int → Int} (hfull : ¬ (ord n ls).length < n) (hP : CPath n ls du h) {m : Ms} {out : List api_Slot} (D : Done n w ls du m out) : ∀ d : Int, 0 ≤ d → d < n → h d ≤ (m.s d).End :=
  ord_ind hfull fun d d0 d1 ih => by
    obtain ⟨a, b, _, _⟩ := D.inv.begun_of (D.all d d0 d1)
    have hlen := D.inv.len _ a
    have hst := D.inv.st _ a
    rw [b] at hlen
    rcases hP.ex d d0 d1 with e | ⟨l, hl, hc, e⟩
    · omega
    · have h1 := ih l hl hc
      have h2 := (D.inv.lnk l hl (by rw [hc]; exact D.all d d0 d1)).2
      rw [hc] at h2
      omega
theorem span_t {n w : Nat} {ls : List api_Link} {du : Int → Int} {m : Ms} {out : List api_Slot} (D : Done n w ls du m out) {T : Int} (M : Mks out T) : T = m.t := by
  have h0 := D.inv.t0
  have h1 : T ≤ m.t := by
    rcases M.ex with h | ⟨x, hx, h⟩
    · omega
    · have := D.ends x hx; omega
  have h2 : m.t ≤ T := by
    have := M.t0
    rcases D.inv.torg with h | ⟨x, hx, h⟩
    · omega
    · have := M.le x hx; omega
  omega
theorem perm_below {n w : Nat} {ls : List api_Link} {du : Int → Int} {m : Ms} {out : List api_Slot} (D : Done n w ls du m out) : (out.map api_Slot.Device).Perm (below n) := by
  rw [List.perm_ext_iff_of_nodup D.inv.nd (below_nodup n)]
  intro d
  rw [mem_below]
  constructor
  · intro h
    obtain ⟨x, hx, rfl⟩ := List.mem_map.1 h
    exact D.inv.dev x hx
  · rintro ⟨h0, h1⟩
    obtain ⟨a, b⟩ := D.inv.bs d (D.all d h0 h1)
    exact List.mem_map.2 ⟨_, a, b⟩
theorem awake31_ok : law31_awake.f = some true := by kernel_rfl
theorem duf_small {dl : List Int} (h : ∀ x ∈ dl, 0 ≤ x ∧ x ≤ 11) (i : Int) : 0 ≤ duf dl i ∧ duf dl i ≤ 11 := by
  unfold duf
  cases hx : idx dl i with
  | none => simp
  | some x =>
    obtain ⟨y, hy, hm⟩ := idx_of (idx_lo hx) (idx_hi hx)
    rw [hx] at hy; injection hy with hy; subst hy
    exact h x hm
end Go.Proofs.Ythmjgadmadlpkaa.Sim

namespace Go.Proofs.Ythmjgadmadlpkaa.Sim
open Go
set_option linter.unusedVariables false
set_option maxRecDepth 100000

def okS (n : Nat) (du : Int → Int) (w : Int) (x : api_Slot) : Prop := 0 ≤ x.Device ∧ x.Device < n ∧ 0 ≤ x.Worker ∧ x.Worker < w ∧ x.Start ≤ x.End ∧ wu (x.End - x.Start) = du x.Device
def Conf (a b : api_Slot) : Prop := a.Worker = b.Worker ∧ a.Start < b.End ∧ b.Start < a.End
theorem Conf.symm {a b : api_Slot} (h : Conf a b) : Conf b a := ⟨h.1.symm, h.2.2, h.2.1⟩
structure VS (n : Nat) (du : Int → Int) (w : Int) (slots : List api_Slot) : Prop where
  len : slots.length = n
  ok : ∀ x ∈ slots, okS n du w x
  nd : (slots.map api_Slot.Device).Nodup
def VC (slots : List api_Slot) : Prop := slots.Pairwise (fun a b => ¬ Conf a b)
def VL (ls : List api_Link) (slots : List api_Slot) : Prop := ∀ l ∈ ls, ∀ x ∈ slots, ∀ y ∈ slots, x.Device = l.Consumer → y.Device = l.Supplier → ¬ x.Start < y.End

/-- What the seen devices are. -/
theorem seen_step {n : Nat} {slots : List api_Slot} {i : Nat} (hi : i < slots.length) {s : List Bool} (h : RepV n s (fun d => decide (d ∈ (slots.take i).map api_Slot.Device))) (h0 : 0 ≤ slots[i].Device) : RepV n (upd s slots[i].Device true) (fun d => decide (d ∈ (slots.take (i + 1)).map api_Slot.Device)) :=
  (h.set h0 true).congr fun d d0 d1 => by
    unfold fset
    dsimp only
    rw [List.take_succ_eq_append_getElem hi, List.map_append]
    by_cases c : d = slots[i].Device
    · rw [if_pos c]; simp [c]
    · rw [if_neg c]
      have : (d ∈ (slots.take i).map api_Slot.Device ++ List.map api_Slot.Device [slots[i]]) ↔ d ∈ (slots.take i).map api_Slot.Device := by
        rw [List.mem_append]; simp [c]
      simp only [this]
theorem nodup_snoc_iff {α : Type} {l : List α} {x : α} : (l ++ [x]).Nodup ↔ l.Nodup ∧ x ∉ l := by
  rw [List.nodup_append]
  constructor
  · rintro ⟨h1, _, h3⟩; exact ⟨h1, fun hm => h3 _ hm _ (by simp) rfl⟩
  · rintro ⟨h1, h2⟩
    refine ⟨h1, by simp, fun a ha b hb => ?_⟩
    simp only [List.mem_singleton] at hb; subst hb
    exact fun e => h2 (e ▸ ha)

theorem validSlots_ok {n : Nat} (hn : n ≤ 128) {dl : List Int} (hd : dl.length = n) (w : Int) (slots : List api_Slot) : ∃ b, resume_validSlots.f dl w slots = some b ∧ (b = true ↔ VS n (duf dl) w slots) := by
  unfold resume_validSlots.f
  by_cases hl : slots.length = n
  · rw [if_neg (by simp [hl, hd]), hd, mk_ok (by omega), Option.bind_some]
    have key : ∃ o, resume_validSlots.l0 dl w slots FUEL (List.replicate n false) 0 = some o ∧ ((o = .out false ∧ ¬ VS n (duf dl) w slots) ∨ (o = .nxt () ∧ VS n (duf dl) w slots)) := by
      refine loop_c (L := fun k (s : List Bool) i => resume_validSlots.l0 dl w slots k s i) slots.length (fun i s => RepV n s (fun d => decide (d ∈ (slots.take i).map api_Slot.Device)) ∧ (∀ x ∈ slots.take i, okS n (duf dl) w x) ∧ ((slots.take i).map api_Slot.Device).Nodup)
        (fun o => ∃ o', o = some o' ∧ ((o' = .out false ∧ ¬ VS n (duf dl) w slots) ∨ (o' = .nxt () ∧ VS n (duf dl) w slots))) ?_ ?_ FUEL 0 _ (Nat.zero_le _) (FUEL_pos (by omega)) ⟨(RepV.rep n false).congr fun d _ _ => by simp, by simp, by simp⟩
      · rintro k s i hi ⟨h1, h2, h3⟩
        have hm := List.getElem_mem hi
        rw [resume_validSlots.l0, if_pos (by simp; omega), idx_get hi, Option.bind_some, hd]
        by_cases c1 : (((decide (slots[i].Device < 0) || decide ((n : Int) ≤ slots[i].Device)) || decide (slots[i].Worker < 0)) || decide (w ≤ slots[i].Worker)) = true
        · rw [if_pos c1, Option.bind_some, if_pos rfl]
          refine .inr ⟨_, rfl, .inl ⟨rfl, fun V => ?_⟩⟩
          have := V.ok _ hm
          unfold okS at this
          simp at c1; omega
        · rw [if_neg c1]
          simp at c1
          obtain ⟨⟨⟨c2, c3⟩, c4⟩, c5⟩ := c1
          rw [h1.2 _ c2 c3, Option.bind_some, Option.bind_some]
          by_cases c6 : slots[i].Device ∈ (slots.take i).map api_Slot.Device
          · rw [if_pos (by simpa using c6)]
            refine .inr ⟨_, rfl, .inl ⟨rfl, fun V => ?_⟩⟩
            have := V.nd
            have h4 : ((slots.take (i + 1)).map api_Slot.Device).Nodup := List.Sublist.nodup (List.Sublist.map _ (List.take_sublist _ _)) this
            rw [List.take_succ_eq_append_getElem hi, List.map_append] at h4
            exact (nodup_snoc_iff.1 h4).2 c6
          · rw [if_neg (by simpa using c6), Option.bind_some]
            by_cases c7 : slots[i].End < slots[i].Start
            · rw [if_pos (by simpa using c7), Option.bind_some, if_pos rfl]
              refine .inr ⟨_, rfl, .inl ⟨rfl, fun V => ?_⟩⟩
              have := V.ok _ hm
              unfold okS at this; omega
            · rw [if_neg (by simpa using c7), (duf_rep hd).2 _ c2 c3, Option.bind_some, Option.bind_some]
              by_cases c8 : wu (slots[i].End - slots[i].Start) = duf dl slots[i].Device
              · rw [if_neg (by simpa using c8), wi_succ (by omega)]
                refine .inl ⟨_, ⟨seen_step hi h1 c2, fun x hx => ?_, ?_⟩, rfl⟩
                · rcases (mem_take_succ hi).1 hx with h | h
                  · exact h2 x h
                  · subst h; exact ⟨c2, c3, c4, c5, by omega, c8⟩
                · rw [List.take_succ_eq_append_getElem hi, List.map_append]
                  exact nodup_snoc_iff.2 ⟨h3, c6⟩
              · rw [if_pos (by simpa using c8)]
                refine .inr ⟨_, rfl, .inl ⟨rfl, fun V => c8 (V.ok _ hm).2.2.2.2.2⟩⟩
      · rintro k s ⟨h1, h2, h3⟩
        rw [resume_validSlots.l0, if_neg (by simp)]
        rw [List.take_length] at h2 h3
        exact ⟨_, rfl, .inr ⟨rfl, hl, h2, h3⟩⟩
    obtain ⟨o, e, h⟩ := key
    rw [e, Option.bind_some]
    rcases h with ⟨rfl, h⟩ | ⟨rfl, h⟩
    · exact ⟨false, rfl, by simp [h]⟩
    · exact ⟨true, rfl, by simp [h]⟩
  · rw [if_pos (by simp [hd]; omega)]
    exact ⟨false, rfl, by simp; exact fun V => hl V.len⟩

/-- What Verify answers. -/
structure VR (n : Nat) (ls : List api_Link) (du : Int → Int) (w : Int) (slots : List api_Slot) (r : Int) : Prop where
  a : ¬ VS n du w slots → r = 1
  b : VS n du w slots → ¬ VC slots → r = 17
  c : VS n du w slots → VC slots → ¬ VL ls slots → r = 9
  d : VS n du w slots → VC slots → VL ls slots → r = 0
theorem VR.uniq {n : Nat} {ls : List api_Link} {du : Int → Int} {w : Int} {slots : List api_Slot} {r q : Int} (h : VR n ls du w slots r) (h' : VR n ls du w slots q) : r = q := by
  by_cases a : VS n du w slots
  · by_cases b : VC slots
    · by_cases c : VL ls slots
      · rw [h.d a b c, h'.d a b c]
      · rw [h.c a b c, h'.c a b c]
    · rw [h.b a b, h'.b a b]
  · rw [h.a a, h'.a a]

theorem pairwise_snoc {α : Type} {R : α → α → Prop} {l : List α} {x : α} : (l ++ [x]).Pairwise R ↔ l.Pairwise R ∧ ∀ a ∈ l, R a x := by
  rw [List.pairwise_append]
  constructor
  · rintro ⟨h1, _, h3⟩; exact ⟨h1, fun a ha => h3 a ha x (by simp)⟩
  · rintro ⟨h1, h2⟩; exact ⟨h1, List.pairwise_singleton _ _, fun a ha b hb => by simp only [List.mem_singleton] at hb; subst hb; exact h2 a ha⟩
theorem VC.take {slots : List api_Slot} (h : VC slots) (i : Nat) : VC (slots.take i) := List.Pairwise.sublist (List.take_sublist _ _) h

theorem verify_l1 {slots : List api_Slot} {i : Nat} (hi : i < slots.length) (hlen : slots.length ≤ 128) (bl : List api_Slot) :
    ((∀ b ∈ slots.take i, ¬ Conf slots[i] b) ∧ resume_Verify.l1 bl slots[i] (slots.take i) FUEL 0 = some (.nxt (upd bl slots[i].Device slots[i]))) ∨ ((¬ ∀ b ∈ slots.take i, ¬ Conf slots[i] b) ∧ resume_Verify.l1 bl slots[i] (slots.take i) FUEL 0 = some (.out (.out 17))) := by
  have hl : (slots.take i).length = i := by simp; omega
  refine loop_c (L := fun k (_ : Unit) j => resume_Verify.l1 bl slots[i] (slots.take i) k j) i (fun j _ => ∀ b ∈ (slots.take i).take j, ¬ Conf slots[i] b)
    (fun o => ((∀ b ∈ slots.take i, ¬ Conf slots[i] b) ∧ o = some (.nxt (upd bl slots[i].Device slots[i]))) ∨ ((¬ ∀ b ∈ slots.take i, ¬ Conf slots[i] b) ∧ o = some (.out (.out 17)))) ?_ ?_ FUEL 0 () (Nat.zero_le _) (FUEL_pos (by omega)) (by simp)
  · intro k _ j hj hI
    have hj' : j < (slots.take i).length := by omega
    rw [resume_Verify.l1, if_pos (by simp; omega), idx_get hj', Option.bind_some]
    by_cases c : Conf slots[i] (slots.take i)[j]
    · rw [if_pos (by simp only [Bool.and_eq_true, beq_iff_eq, decide_eq_true_eq]; exact ⟨⟨c.1, c.2.1⟩, c.2.2⟩)]
      exact .inr (.inr ⟨fun h => h _ (List.getElem_mem hj') c, rfl⟩)
    · rw [if_neg (by simp only [Bool.and_eq_true, beq_iff_eq, decide_eq_true_eq]; exact fun h => c ⟨h.1.1, h.1.2, h.2⟩), wi_succ (by omega)]
      refine .inl ⟨(), fun b hb => ?_, rfl⟩
      rcases (mem_take_succ hj').1 hb with h | h
      · exact hI b h
      · rw [h]; exact c
  · intro k _ hI
    rw [resume_Verify.l1, if_neg (by simp; omega)]
    rw [List.take_of_length_le (by omega)] at hI
    exact .inl ⟨hI, rfl⟩

theorem verify_good {n w : Nat} {ls : List api_Link} {dl : List Int} (S : GoodS n w ls dl) (slots : List api_Slot) : ∃ r, resume_Verify.f n ls dl w slots = some r ∧ VR n ls (duf dl) w slots r := by
  have g := S.g
  have hn := g.n128
  have hll : ls.length ≤ maxLen := by have := g.len; rw [maxLen_eq]; omega
  unfold resume_Verify.f
  rw [check31_ok _ _ _ _ hll (by rw [S.dn, maxLen_eq]; omega), good_scode S, Option.bind_some, if_neg (by simp)]
  obtain ⟨b, e1, hb⟩ := validSlots_ok hn S.dn w slots
  rw [e1, Option.bind_some]
  cases b with
  | false =>
    have hv : ¬ VS n (duf dl) w slots := fun h => by have := hb.2 h; cases this
    exact ⟨1, rfl, fun _ => rfl, fun h => absurd h hv, fun h => absurd h hv, fun h => absurd h hv⟩
  | true =>
    have V := hb.1 rfl
    rw [if_neg (by simp), mk_ok (by omega), Option.bind_some]
    have hlen := V.len
    have key : (VC slots ∧ ∃ bl F, resume_Verify.l0 slots FUEL (List.replicate n (api_Slot.mk 0 0 0 0)) 0 = some (.nxt bl) ∧ RepV n bl F ∧ ∀ x ∈ slots, F x.Device = x) ∨ (¬ VC slots ∧ resume_Verify.l0 slots FUEL (List.replicate n (api_Slot.mk 0 0 0 0)) 0 = some (.out 17)) := by
      refine loop_c (L := fun k (s : List api_Slot) i => resume_Verify.l0 slots k s i) slots.length (fun i s => VC (slots.take i) ∧ ∃ F, RepV n s F ∧ ∀ x ∈ slots.take i, F x.Device = x)
        (fun o => (VC slots ∧ ∃ bl F, o = some (.nxt bl) ∧ RepV n bl F ∧ ∀ x ∈ slots, F x.Device = x) ∨ (¬ VC slots ∧ o = some (.out 17))) ?_ ?_ FUEL 0 _ (Nat.zero_le _) (FUEL_pos (by omega)) ⟨by simp [VC], _, RepV.rep n _, by simp⟩
      · rintro k s i hi ⟨h1, F, h2, h3⟩
        have hm := List.getElem_mem hi
        have ho := V.ok _ hm
        rw [resume_Verify.l0, if_pos (by simp; omega), idx_get hi, Option.bind_some, h2.2 _ ho.1 ho.2.1, Option.bind_some, slc_front (by omega), Option.bind_some]
        have hvc : VC (slots.take (i + 1)) ↔ VC (slots.take i) ∧ ∀ a ∈ slots.take i, ¬ Conf a slots[i] := by
          unfold VC; rw [List.take_succ_eq_append_getElem hi]; exact pairwise_snoc
        rcases verify_l1 hi (by omega) s with ⟨c, e⟩ | ⟨c, e⟩
        · rw [e, Option.bind_some, Fl.go, wi_succ (by omega)]
          refine .inl ⟨_, ⟨hvc.2 ⟨h1, fun a ha hc => c a ha hc.symm⟩, _, h2.set ho.1 slots[i], fun x hx => ?_⟩, rfl⟩
          rcases (mem_take_succ hi).1 hx with h | h
          · have hne : x.Device ≠ slots[i].Device := fun he => by
              have h4 : ((slots.take (i + 1)).map api_Slot.Device).Nodup := List.Sublist.nodup (List.Sublist.map _ (List.take_sublist _ _)) V.nd
              rw [List.take_succ_eq_append_getElem hi, List.map_append] at h4
              exact (nodup_snoc_iff.1 h4).2 (List.mem_map.2 ⟨x, h, he⟩)
            rw [fset_ne _ _ hne]; exact h3 x h
          · rw [h, fset_self]
        · rw [e, Option.bind_some, Fl.go]
          refine .inr (.inr ⟨fun h => c fun b hb hc => ?_, rfl⟩)
          exact (hvc.1 (h.take _)).2 b hb hc.symm
      · rintro k s ⟨h1, F, h2, h3⟩
        rw [resume_Verify.l0, if_neg (by simp)]
        rw [List.take_length] at h1 h3
        exact .inl ⟨h1, s, F, rfl, h2, h3⟩
    rcases key with ⟨C, bl, F, e, h1, h2⟩ | ⟨C, e⟩
    · rw [e, Option.bind_some, Fl.go]
      have hdev : ∀ d : Int, 0 ≤ d → d < n → ∃ x ∈ slots, x.Device = d := fun d d0 d1 => by
        refine Classical.byContradiction fun hno => ?_
        have := nodup_le (l := d :: slots.map api_Slot.Device) (s := below n) (by
          rw [List.nodup_cons]
          exact ⟨fun h => by obtain ⟨x, hx, e⟩ := List.mem_map.1 h; exact hno ⟨x, hx, e⟩, V.nd⟩) (fun x hx => by
          rcases List.mem_cons.1 hx with e | e
          · subst e; exact mem_below.2 ⟨d0, d1⟩
          · obtain ⟨y, hy, rfl⟩ := List.mem_map.1 e
            have := V.ok y hy
            exact mem_below.2 ⟨this.1, this.2.1⟩)
        rw [below_length, List.length_cons, List.length_map] at this
        omega
      have key2 : (VL ls slots ∧ resume_Verify.l2 ls bl FUEL 0 = some (.nxt ())) ∨ (¬ VL ls slots ∧ resume_Verify.l2 ls bl FUEL 0 = some (.out 9)) := by
        refine loop_c (L := fun k (_ : Unit) i => resume_Verify.l2 ls bl k i) ls.length (fun i _ => ∀ l ∈ ls.take i, ¬ (F l.Consumer).Start < (F l.Supplier).End) (fun o => (VL ls slots ∧ o = some (.nxt ())) ∨ (¬ VL ls slots ∧ o = some (.out 9))) ?_ ?_ FUEL 0 () (Nat.zero_le _) (FUEL_pos (by rw [maxLen_eq] at hll; omega)) (by simp)
        · intro k _ i hi hI
          have hm := List.getElem_mem hi
          have hc := g.c0 _ hm
          have hs := g.s0 _ hm
          rw [resume_Verify.l2, if_pos (by simp; omega), idx_get hi, Option.bind_some, h1.2 _ hc.1 hc.2, Option.bind_some, h1.2 _ hs.1 hs.2, Option.bind_some]
          by_cases c : (F ls[i].Consumer).Start < (F ls[i].Supplier).End
          · rw [if_pos (by simpa using c)]
            obtain ⟨x, hx, ex⟩ := hdev _ hc.1 hc.2
            obtain ⟨y, hy, ey⟩ := hdev _ hs.1 hs.2
            refine .inr (.inr ⟨fun h => h _ hm x hx y hy ex ey ?_, rfl⟩)
            rw [← ex, ← ey, h2 x hx, h2 y hy] at c
            exact c
          · rw [if_neg (by simpa using c), wi_succ (by have := g.len; omega)]
            refine .inl ⟨(), fun l hl => ?_, rfl⟩
            rcases (mem_take_succ hi).1 hl with h | h
            · exact hI l h
            · rw [h]; exact c
        · intro k _ hI
          rw [resume_Verify.l2, if_neg (by simp)]
          rw [List.take_length] at hI
          refine .inl ⟨fun l hl x hx y hy ex ey => ?_, rfl⟩
          have := hI l hl
          rw [← ex, ← ey, h2 x hx, h2 y hy] at this
          exact this
      rcases key2 with ⟨L, e2⟩ | ⟨L, e2⟩
      · rw [e2]; exact ⟨0, rfl, fun h => absurd V h, fun _ h => absurd C h, fun _ _ h => absurd L h, fun _ _ _ => rfl⟩
      · rw [e2]; exact ⟨9, rfl, fun h => absurd V h, fun _ h => absurd C h, fun _ _ _ => rfl, fun _ _ h => absurd h L⟩
    · rw [e]; exact ⟨17, rfl, fun h => absurd V h, fun _ _ => rfl, fun _ h => absurd h C, fun _ h => absurd h C⟩
theorem verify_bad {p : Int} {ls : List api_Link} {dl : List Int} {w : Int} {slots : List api_Slot} (h : ls.length ≤ maxLen) (hd : dl.length ≤ maxLen) (hs : scode p ls dl w ≠ 0) : resume_Verify.f p ls dl w slots = some (scode p ls dl w) := by
  unfold resume_Verify.f
  rw [check31_ok _ _ _ _ h hd, Option.bind_some, if_pos (by simpa using hs)]

/-- The schedule is valid. -/
theorem sched_vr {n w : Nat} {ls : List api_Link} {dl : List Int} (S : GoodS n w ls dl) {m : Ms} {out : List api_Slot} (D : Done n w ls (duf dl) m out) (hb : m.t ≤ 128 * 9007199254740992) : VS n (duf dl) w out ∧ VC out ∧ VL ls out := by
  have I := D.inv
  refine ⟨⟨D.len, fun x hx => ?_, I.nd⟩, ?_, fun l hl x hx y hy ex ey => ?_⟩
  · have h1 := I.dev x hx
    have h2 := I.wrk x hx
    have h3 := I.len x hx
    have h4 := I.st x hx
    have h5 := duf_range S.d0 x.Device
    exact ⟨h1.1, h1.2, h2.1, h2.2, by omega, by rw [wu_id (by omega) (by omega)]; omega⟩
  · refine I.ord.imp fun {a b} h c => ?_
    have := h.2 c.1
    have := c.2.2
    omega
  · have h1 := (I.lnk l hl (by rw [← ex]; exact (I.sl x hx).1)).2
    rw [← ex, ← ey, (I.sl x hx).2, (I.sl y hy).2] at h1
    omega
end Go.Proofs.Ythmjgadmadlpkaa.Sim

namespace Go.Proofs.Ythmjgadmadlpkaa.Sim
open Go
set_option linter.unusedVariables false
set_option maxRecDepth 100000

theorem resumeScheduleIsValid : law31_ResumeScheduleIsValid.Pure := by
  intro p0 p1 p2 p3 _ h1 h2 _
  unfold law31_ResumeScheduleIsValid.f
  by_cases hb : 40 < p1.length
  · rw [if_pos (by simp; omega), awake31_ok]; rfl
  · rw [if_neg (by simp; omega)]
    obtain ⟨n, ls, e1, g⟩ := graph_ok p0 p1 true h1.1
    have hn := g.n13
    obtain ⟨w, e2, e3, w0, w1⟩ := mod1_ok p3 5 (by omega) (by omega)
    obtain ⟨dl, e4, d1, d2⟩ := durations_ok n (by omega) p2 (fun x hx => (u64_range (h2.2 x hx)).1) h2.1
    have S := goodS_of g d1 d2 (w := w) w0 (by omega)
    obtain ⟨m, out, e5, SC, htb⟩ := sched_good S
    have D := SC.dn
    have hlen := D.len
    obtain ⟨r, e6, hr⟩ := verify_good S out
    obtain ⟨v1, v2, v3⟩ := sched_vr S D htb
    have hr0 := hr.d v1 v2 v3
    subst hr0
    have e2' : help_Mod.f p3 5 = some ((w : Int) - 1) := e2
    rw [e1, Option.bind_some, e2', Option.bind_some]
    simp only
    rw [e4, Option.bind_some, e3, e5, Option.bind_some, if_neg (by simp [hlen]), e6, Option.bind_some, Option.bind_some, if_neg (by simp)]
    have hl1 : ∀ (i : Nat) (hi : i < out.length), law31_ResumeScheduleIsValid.l1 ((n : Int), ls) (out, 0) out[i] FUEL (out[i].Start == 0) 0 = some true := fun i hi => by
      have hm := List.getElem_mem hi
      refine loop_c (L := fun k (s : Bool) j => law31_ResumeScheduleIsValid.l1 ((n : Int), ls) (out, 0) out[i] k s j) n (fun j s => s = (out[i].Start == 0 || (out.take j).any (fun y => y.End == out[i].Start))) (fun o => o = some true) ?_ ?_ FUEL 0 _ (Nat.zero_le _) (FUEL_pos (by omega)) (by simp)
      · rintro k s j hj rfl
        have hj' : j < out.length := by omega
        rw [law31_ResumeScheduleIsValid.l1, if_pos (by simp; omega), wi_succ (by omega)]
        refine .inl ⟨_, rfl, ?_⟩
        rw [List.take_succ_eq_append_getElem hj', List.any_append]
        cases hc : (out[i].Start == 0 || (out.take j).any (fun y => y.End == out[i].Start))
        · rw [if_neg (by simp)]
          dsimp only
          rw [idx_get hj', Option.bind_some, Option.bind_some]
          congr 1
          rw [← Bool.or_assoc, hc]; simp
        · rw [if_pos rfl, Option.bind_some]
          congr 1
          rw [← Bool.or_assoc, hc]; simp
      · rintro k s rfl
        rw [law31_ResumeScheduleIsValid.l1, if_neg (by simp), List.take_of_length_le (by omega)]
        congr 1
        rcases D.inv.org _ hm with h | ⟨y, hy, h⟩
        · simp [h]
        · have : out.any (fun y => y.End == out[i].Start) = true := List.any_eq_true.2 ⟨y, hy, by simpa using h⟩
          rw [this]; simp
    have key : law31_ResumeScheduleIsValid.l0 ((n : Int), ls) (out, 0) FUEL 0 = some (.nxt ()) := by
      refine loop_c (L := fun k (_ : Unit) i => law31_ResumeScheduleIsValid.l0 ((n : Int), ls) (out, 0) k i) n (fun _ _ => True) (fun o => o = some (.nxt ())) ?_ ?_ FUEL 0 () (Nat.zero_le _) (FUEL_pos (by omega)) trivial
      · intro k _ i hi _
        have hi' : i < out.length := by omega
        rw [law31_ResumeScheduleIsValid.l0, if_pos (by simp; omega)]
        dsimp only
        rw [idx_get hi', Option.bind_some, hl1 i hi', Option.bind_some, if_neg (by simp)]
        by_cases h0 : 0 < i
        · have hp : ((i : Int) - 1) = ((i - 1 : Nat) : Int) := by omega
          have h3 := (List.pairwise_iff_getElem.1 D.inv.ord (i - 1) i (by omega) hi' (by omega)).1
          rw [if_pos (by simp; omega), hp, wi_id (by omega) (by omega), idx_get (by omega), Option.bind_some, Option.bind_some, Option.bind_some, if_neg (by simp; omega), Option.bind_some, Fl.go, wi_succ (by omega)]
          exact .inl ⟨(), trivial, rfl⟩
        · rw [if_neg (by simp; omega), Option.bind_some, Option.bind_some, if_neg (by simp), Option.bind_some, Fl.go, wi_succ (by omega)]
          exact .inl ⟨(), trivial, rfl⟩
      · intro k _ _
        rw [law31_ResumeScheduleIsValid.l0, if_neg (by simp)]
    rw [key, Option.bind_some, Fl.go, awake31_ok]; rfl
end Go.Proofs.Ythmjgadmadlpkaa.Sim
