/-
  Texts of this session, part 5 of 5: the words of the walk, plain functions with the same answers as the Go functions and the proofs of it, plain lemmas. No condition.
  They are, one behind the other: S6 S7 PuScales.
-/
import Derived.Test.YthmjgadmadlpkaaZResumeScales4

namespace Go.Proofs.Ythmjgadmadlpkaa.Sim
open Go
set_option linter.unusedVariables false
set_option maxRecDepth 100000

def big (x : Int) : Bool := decide (9007199254740992 < x)
def scode (p : Int) (ls : List api_Link) (dl : List Int) (w : Int) : Int :=
  if ccode p ls ≠ 0 then ccode p ls else if (dl.length : Int) = p ∧ dl.any big = false ∧ 1 ≤ w ∧ w ≤ 16 then 0 else 1

theorem check31_ok (p : Int) (ls : List api_Link) (dl : List Int) (w : Int) (h : ls.length ≤ maxLen) (hd : dl.length ≤ maxLen) : resume_check.f p ls dl w = some (scode p ls dl w) := by
  unfold resume_check.f
  rw [check_ok p ls h, Option.bind_some]
  by_cases h1 : ccode p ls = 0
  · have e : scode p ls dl w = if (dl.length : Int) = p ∧ dl.any big = false ∧ 1 ≤ w ∧ w ≤ 16 then 0 else 1 := by unfold scode; rw [if_neg (by simp [h1])]
    rw [e, if_neg (by simp [h1])]
    by_cases h2 : (dl.length : Int) = p
    · rw [if_neg (by simp [h2]), search_ok (L := resume_check.l0 dl) dl big 1 hd (fun k i => by rw [resume_check.l0]; rfl)]
      cases h3 : dl.any big
      · simp only [Bool.false_eq_true, if_false, Option.bind_some, Fl.go]
        by_cases h4 : 1 ≤ w ∧ w ≤ 16
        · rw [if_neg (by simp; omega), if_pos ⟨h2, trivial, h4⟩]
        · rw [if_pos (by simp; omega), if_neg (fun c => h4 c.2.2)]
      · simp only [if_true, Option.bind_some, Fl.go]
        rw [if_neg (fun c => by cases c.2.1)]
    · rw [if_pos (by simpa using h2), if_neg (fun c => h2 c.1)]
  · have e : scode p ls dl w = ccode p ls := by unfold scode; rw [if_pos h1]
    rw [e, if_pos (by simpa using h1)]

/-- What the checks of a schedule let pass. -/
structure GoodS (n w : Nat) (ls : List api_Link) (dl : List Int) : Prop where
  g : GoodG n ls
  full : ¬ (ord n ls).length < n
  dn : dl.length = n
  d0 : ∀ x ∈ dl, 0 ≤ x ∧ x ≤ 9007199254740992
  w0 : 0 < w
  w1 : w ≤ 16
theorem scode_good {p : Int} {ls : List api_Link} {dl : List Int} {w : Int} (h : scode p ls dl w = 0) (hd : ∀ x ∈ dl, 0 ≤ x) : ∃ n v : Nat, p = n ∧ w = v ∧ GoodS n v ls dl := by
  unfold scode at h
  by_cases h1 : ccode p ls = 0
  · rw [if_neg (by simp [h1])] at h
    by_cases h2 : (dl.length : Int) = p ∧ dl.any big = false ∧ 1 ≤ w ∧ w ≤ 16
    · obtain ⟨a, b, c, d⟩ := h2
      have hv : vcode p ls = 0 := by
        unfold ccode at h1
        split at h1
        · assumption
        · exact h1
      obtain ⟨n, rfl, g⟩ := vcode_good hv
      rw [ccode_good g] at h1
      refine ⟨n, w.toNat, rfl, by omega, g, ?_, by omega, fun x hx => ⟨hd x hx, ?_⟩, by omega, by omega⟩
      · intro hlt; rw [if_pos hlt] at h1; cases h1
      · have := List.any_eq_false.1 b x hx
        simpa [big] using this
    · rw [if_neg h2] at h; cases h
  · rw [if_pos h1] at h; exact absurd h h1
theorem good_scode {n w : Nat} {ls : List api_Link} {dl : List Int} (S : GoodS n w ls dl) : scode n ls dl w = 0 := by
  have h1 : ccode (n : Int) ls = 0 := by rw [ccode_good S.g, if_neg S.full]
  unfold scode
  rw [if_neg (by simp [h1]), if_pos]
  refine ⟨by rw [S.dn], ?_, by have := S.w0; omega, by have := S.w1; omega⟩
  rw [List.any_eq_false]
  intro x hx
  simp [big]
  exact (S.d0 x hx).2

def duf (dl : List Int) (i : Int) : Int := (idx dl i).getD 0
theorem duf_rep {dl : List Int} {n : Nat} (h : dl.length = n) : RepV n dl (duf dl) := ⟨h, fun i h0 h1 => by
  obtain ⟨x, hx, _⟩ := idx_of (xs := dl) h0 (by omega)
  unfold duf; rw [hx]; rfl⟩
theorem duf_range {dl : List Int} (h : ∀ x ∈ dl, 0 ≤ x ∧ x ≤ 9007199254740992) (i : Int) : 0 ≤ duf dl i ∧ duf dl i ≤ 9007199254740992 := by
  unfold duf
  by_cases hi : 0 ≤ i ∧ i < dl.length
  · obtain ⟨x, hx, hm⟩ := idx_of (xs := dl) hi.1 hi.2
    rw [hx]; exact h x hm
  · have : idx dl i = none := by
      cases hx : idx dl i with
      | none => rfl
      | some x => exact absurd ⟨idx_lo hx, idx_hi hx⟩ hi
    rw [this]; simp

theorem Go1.zero {n w : Nat} {ls : List api_Link} {du : Int → Int} : Go1 n w ls du z00 (resume_scheduler.mk ls (List.replicate n (api_Slot.mk 0 0 0 0)) (List.replicate n false) (List.replicate w 0) 0, []) z00.1 0 := by
  refine ⟨⟨rfl, RepV.rep n false, RepV.rep n _, RepV.rep w 0, rfl⟩, rfl, ?_, ?_, ?_⟩
  · simp
  · simp [z00]
  · intro i; simp [z00]

/-- The schedule: where the machine's steps end. -/
structure Sched (n w : Nat) (ls : List api_Link) (du : Int → Int) (m : Ms) (out : List api_Slot) : Prop where
  st : ∃ j, it n w ls du j z00 = (m, out)
  no : nxt n w ls du (m, out) = none
  dn : Done n w ls du m out
theorem Sched.same {n w : Nat} {ls : List api_Link} {du : Int → Int} {m m' : Ms} {out out' : List api_Slot} (a : Sched n w ls du m out) (b : Sched n w ls du m' out') : m = m' ∧ out = out' := by
  obtain ⟨j, hj⟩ := a.st
  obtain ⟨k, hk⟩ := b.st
  have := it_same (n := n) (w := w) (ls := ls) (du := du) j k z00 (by rw [hj]; exact a.no) (by rw [hk]; exact b.no)
  rw [hj, hk] at this
  injection this with h1 h2
  exact ⟨h1, h2⟩
theorem Sched.mk' {n w : Nat} {ls : List api_Link} {dl : List Int} (S : GoodS n w ls dl) {m : Ms} {out : List api_Slot} {j : Nat} (h : it n w ls (duf dl) j z00 = (m, out)) (hn : nxt n w ls (duf dl) (m, out) = none) : Sched n w ls (duf dl) m out := by
  have I := Inv.it (n := n) (w := w) (ls := ls) (du := duf dl) (fun i => (duf_range S.d0 i).1) j
  rw [h] at I
  exact ⟨⟨j, h⟩, hn, done_of S.w0 S.full S.g I hn⟩
theorem Sched.bound {n w : Nat} {ls : List api_Link} {dl : List Int} (S : GoodS n w ls dl) {m : Ms} {out : List api_Slot} (D : Done n w ls (duf dl) m out) : ∀ x ∈ out, 0 ≤ x.Start ∧ x.Start ≤ x.End := fun x hx => by
  have h1 := D.inv.st x hx
  have h2 := D.inv.len x hx
  have h3 := (duf_range S.d0 x.Device).1
  omega

theorem sched_good {n w : Nat} {ls : List api_Link} {dl : List Int} (S : GoodS n w ls dl) : ∃ m out, resume_Schedule.f n ls dl w = some (out, 0) ∧ Sched n w ls (duf dl) m out ∧ m.t ≤ 128 * 9007199254740992 := by
  have hn := S.g.n128
  have hw := S.w1
  unfold resume_Schedule.f
  rw [check31_ok _ _ _ _ (by have := S.g.len; rw [maxLen_eq]; omega) (by rw [S.dn, maxLen_eq]; omega), good_scode S, Option.bind_some, if_neg (by simp), mk_ok (by omega), Option.bind_some, mk_ok (by omega), Option.bind_some, mk_ok (by omega), Option.bind_some]
  obtain ⟨j, s, m, e, G, hno⟩ := sched_ok S.g (duf_rep S.dn) (duf_range S.d0) (by omega) (Go1.zero (n := n) (w := w) (ls := ls) (du := duf dl))
  rw [e]
  refine ⟨m, s.2, rfl, Sched.mk' S G.it hno, ?_⟩
  have h1 := G.t.2
  have h2 := G.c
  have h3 : (s.2.length : Int) * 9007199254740992 ≤ 128 * 9007199254740992 := Int.mul_le_mul_of_nonneg_right (by omega) (by omega)
  omega
theorem sched_bad {p : Int} {ls : List api_Link} {dl : List Int} {w : Int} (h : ls.length ≤ maxLen) (hd : dl.length ≤ maxLen) (hs : scode p ls dl w ≠ 0) : resume_Schedule.f p ls dl w = some ([], scode p ls dl w) := by
  unfold resume_Schedule.f
  rw [check31_ok _ _ _ _ h hd, Option.bind_some, if_pos (by simpa using hs)]

theorem u64_range {x : Int} (h : (Lit.int .u64 x).wf = true) : 0 ≤ x ∧ x < 18446744073709551616 := by
  simp [Lit.wf, IntKind.min, IntKind.max, IntKind.signed, IntKind.bits] at h; omega

/-! ### the durations of the statements -/

theorem durations_ok (n : Nat) (hn : n ≤ 128) (p1 : List Int) (h : ∀ x ∈ p1, 0 ≤ x) (hl : p1.length ≤ maxLen) : ∃ dl, law31_durations.f n p1 = some dl ∧ dl.length = n ∧ ∀ x ∈ dl, 0 ≤ x ∧ x ≤ 11 := by
  rw [maxLen_eq] at hl
  unfold law31_durations.f
  rw [mk_ok (by omega), Option.bind_some]
  have key : ∃ dl, law31_durations.l0 n p1 FUEL (List.replicate n 0) 0 = some dl ∧ dl.length = n ∧ ∀ x ∈ dl, 0 ≤ x ∧ x ≤ 11 := by
    refine loop_c (L := fun k (s : List Int) i => law31_durations.l0 n p1 k s i) n (fun i s => s.length = n ∧ ∀ x ∈ s, 0 ≤ x ∧ x ≤ 11) (fun o => ∃ dl, o = some dl ∧ dl.length = n ∧ ∀ x ∈ dl, 0 ≤ x ∧ x ≤ 11) ?_ ?_ FUEL 0 _ (Nat.zero_le _) (FUEL_pos (by omega)) ⟨by simp, fun x hx => by rw [(List.mem_replicate.1 hx).2]; omega⟩
    · rintro k s i hi ⟨h1, h2⟩
      have hset : ∀ (l : List Int) (v : Int), (∀ x ∈ l, 0 ≤ x ∧ x ≤ 11) → (0 ≤ v ∧ v ≤ 11) → ∀ x ∈ upd l (i : Int) v, 0 ≤ x ∧ x ≤ 11 := fun l v h hv x hx => by
        unfold upd at hx
        rcases List.mem_or_eq_of_mem_set hx with h' | h'
        · exact h x h'
        · rw [h']; exact hv
      have h3 : wu (Int.tmod (i : Int) 3) = (i : Int) % 3 := by rw [Int.tmod_eq_emod_of_nonneg (by omega), wu_id (by omega) (by omega)]
      have hA := hset s ((i : Int) % 3) h2 (by omega)
      have hAl : (upd s (i : Int) ((i : Int) % 3)).length = n := by rw [upd_length]; exact h1
      rw [law31_durations.l0, if_pos (by simp; omega), idx_get (by omega), Option.bind_some, h3]
      by_cases hp : i < p1.length
      · rw [if_pos (by simp; omega), idx_get hp, Option.bind_some, idx_get (by omega), Option.bind_some, Option.bind_some]
        refine .inl ⟨upd (upd s (i : Int) ((i : Int) % 3)) (i : Int) (Int.tmod p1[i] 12), ⟨by rw [upd_length]; exact hAl, ?_⟩, by rw [wi_succ (by omega)]⟩
        have := h _ (List.getElem_mem hp)
        refine hset _ _ hA ?_
        rw [Int.tmod_eq_emod_of_nonneg this]; omega
      · rw [if_neg (by simp; omega), Option.bind_some]
        exact .inl ⟨_, ⟨hAl, hA⟩, by rw [wi_succ (by omega)]⟩
    · rintro k s ⟨h1, h2⟩
      rw [law31_durations.l0, if_neg (by simp)]
      exact ⟨s, rfl, h1, h2⟩
  obtain ⟨dl, e, h1⟩ := key
  rw [e]
  exact ⟨dl, rfl, h1⟩

/-- The graphs and durations of the statements. -/
theorem acyc_full {n : Nat} {ls : List api_Link} (g : Gr n ls true) : ¬ (ord n ls).length < n := fun hlt => by
  obtain ⟨r, hr⟩ := g.down rfl
  obtain ⟨i, _, _, hp⟩ := ord_cyclic g.good hlt
  have : ∀ {a b : Int}, Path ls a b → r b < r a := fun h => by
    induction h with
    | one h => exact hr _ h
    | more h _ ih => have := hr _ h; simp only at this; omega
  have := this hp
  omega
theorem goodS_of {n : Nat} {ls : List api_Link} (g : Gr n ls true) {dl : List Int} (h1 : dl.length = n) (h2 : ∀ x ∈ dl, 0 ≤ x ∧ x ≤ 11) {w : Nat} (w0 : 0 < w) (w1 : w ≤ 16) : GoodS n w ls dl :=
  ⟨g.good, acyc_full g, h1, fun x hx => by have := h2 x hx; omega, w0, w1⟩
theorem mod1_ok (x : Int) (k : Nat) (h0 : 0 < k) (h1 : k ≤ 15) : ∃ w : Nat, help_Mod.f x k = some ((w : Int) - 1) ∧ wi (1 + ((w : Int) - 1)) = w ∧ 0 < w ∧ w ≤ k := by
  obtain ⟨r, hr, a, b⟩ := mod_ok (x := x) (n := k) (by omega) (by omega)
  refine ⟨(r + 1).toNat, ?_, ?_, by omega, by omega⟩
  · rw [hr]; congr 1; omega
  · rw [wi_id (by omega) (by omega)]; omega
end Go.Proofs.Ythmjgadmadlpkaa.Sim

namespace Go.Proofs.Ythmjgadmadlpkaa.Sim
open Go
set_option linter.unusedVariables false
set_option maxRecDepth 100000

/-! ### sums -/

def sumB {α : Type} (f : α → Int) : List α → Int
  | [] => 0
  | a :: t => f a + sumB f t
theorem sumB_append {α : Type} (f : α → Int) : ∀ (a b : List α), sumB f (a ++ b) = sumB f a + sumB f b
  | [], b => by simp [sumB]
  | x :: a, b => by simp only [List.cons_append, sumB, sumB_append f a b]; omega
theorem sumB_perm {α : Type} (f : α → Int) {a b : List α} (h : a.Perm b) : sumB f a = sumB f b := by
  induction h with
  | nil => rfl
  | cons x _ ih => simp only [sumB, ih]
  | swap x y l => simp only [sumB]; omega
  | trans _ _ i j => rw [i, j]
theorem sumB_congr {α : Type} {f g : α → Int} : ∀ {a : List α}, (∀ x ∈ a, f x = g x) → sumB f a = sumB g a
  | [], _ => rfl
  | x :: a, h => by simp only [sumB]; rw [h x (by simp), sumB_congr (a := a) (fun y hy => h y (by simp [hy]))]
theorem sumB_map {α β : Type} (f : β → Int) (q : α → β) : ∀ (a : List α), sumB f (a.map q) = sumB (fun x => f (q x)) a
  | [] => rfl
  | x :: a => by simp only [List.map_cons, sumB, sumB_map f q a]

/-- The latest end of slots. -/
structure Mks (out : List api_Slot) (T : Int) : Prop where
  t0 : 0 ≤ T
  le : ∀ x ∈ out, x.End ≤ T
  ex : T = 0 ∨ ∃ x ∈ out, x.End = T
theorem Mks.uniq {out : List api_Slot} {T U : Int} (a : Mks out T) (b : Mks out U) : T = U := by
  have h1 := a.t0
  have h2 := b.t0
  have h3 : T ≤ U := by
    rcases a.ex with h | ⟨x, hx, h⟩
    · omega
    · have := b.le x hx; omega
  have h4 : U ≤ T := by
    rcases b.ex with h | ⟨x, hx, h⟩
    · omega
    · have := a.le x hx; omega
  omega
theorem Mks.nil : Mks [] 0 := ⟨Int.le_refl _, by simp, .inl rfl⟩
theorem Mks.snoc {out : List api_Slot} {T U : Int} (a : Mks out T) {x : api_Slot} (h : U = max T x.End) : Mks (out ++ [x]) U := by
  have := a.t0
  refine ⟨by omega, fun y hy => ?_, ?_⟩
  · rcases List.mem_append.1 hy with h' | h'
    · have := a.le y h'; omega
    · simp only [List.mem_singleton] at h'; subst h'; omega
  · by_cases c : T ≤ x.End
    · exact .inr ⟨x, by simp, by omega⟩
    · rcases a.ex with h' | ⟨y, hy, h'⟩
      · exact .inl (by omega)
      · exact .inr ⟨y, by simp [hy], by omega⟩
theorem makespan_ok (out : List api_Slot) (hl : out.length ≤ 4294967296) : ∃ T, resume_Makespan.f out = some T ∧ Mks out T := by
  unfold resume_Makespan.f
  have key : ∃ T, resume_Makespan.l0 out FUEL 0 0 = some T ∧ Mks out T := by
    refine loop_c (L := fun k (s : Int) i => resume_Makespan.l0 out k s i) out.length (fun i s => Mks (out.take i) s) (fun o => ∃ T, o = some T ∧ Mks out T) ?_ ?_ FUEL 0 0 (Nat.zero_le _) (FUEL_pos (by omega)) (by simpa using Mks.nil)
    · intro k s i hi hI
      rw [resume_Makespan.l0, if_pos (by simp; omega), idx_get hi, Option.bind_some]
      refine .inl ⟨max s out[i].End, ?_, by rw [wi_succ (by omega)]⟩
      rw [List.take_succ_eq_append_getElem hi]
      exact hI.snoc rfl
    · intro k s hI
      rw [resume_Makespan.l0, if_neg (by simp)]
      rw [List.take_length] at hI
      exact ⟨s, rfl, hI⟩
  obtain ⟨T, e, h⟩ := key
  rw [e]
  exact ⟨T, rfl, h⟩

/-- The longest chains that end at the devices. -/
structure CPath (n : Nat) (ls : List api_Link) (du h : Int → Int) : Prop where
  lo : ∀ d : Int, 0 ≤ d → d < n → du d ≤ h d
  ge : ∀ l ∈ ls, h l.Supplier + du l.Consumer ≤ h l.Consumer
  ex : ∀ d : Int, 0 ≤ d → d < n → h d = du d ∨ ∃ l ∈ ls, l.Consumer = d ∧ h d = h l.Supplier + du d
structure CMax (n : Nat) (h : Int → Int) (c : Int) : Prop where
  c0 : 0 ≤ c
  le : ∀ d : Int, 0 ≤ d → d < n → h d ≤ c
  ex : c = 0 ∨ ∃ d : Int, 0 ≤ d ∧ d < n ∧ h d = c
/-- Along the order. -/
theorem ord_ind {n : Nat} {ls : List api_Link} (hfull : ¬ (ord n ls).length < n) {P : Int → Prop} (h : ∀ d : Int, 0 ≤ d → d < n → (∀ l ∈ ls, l.Consumer = d → P l.Supplier) → P d) : ∀ d : Int, 0 ≤ d → d < n → P d := by
  have key : ∀ out, Run n ls out → ∀ v ∈ out, P v := by
    intro out ho
    induction ho with
    | nil => simp
    | @snoc out v ho hv ih =>
      intro u hu
      rcases List.mem_append.1 hu with hu | hu
      · exact ih u hu
      · simp only [List.mem_singleton] at hu; subst hu
        obtain ⟨h0, h1, h2, _⟩ := least_some hv
        obtain ⟨_, h3⟩ := free_iff.1 h2
        exact h u h0 h1 fun l hl hc => ih _ (h3 l hl hc)
  exact fun d h0 h1 => key _ (ord_run n ls).1 d (ord_full hfull h0 h1)
theorem CPath.le {n : Nat} {ls : List api_Link} {du h h' : Int → Int} (g : GoodG n ls) (hfull : ¬ (ord n ls).length < n) (a : CPath n ls du h) (b : CPath n ls du h') : ∀ d : Int, 0 ≤ d → d < n → h d ≤ h' d :=
  ord_ind hfull fun d d0 d1 ih => by
    rcases a.ex d d0 d1 with e | ⟨l, hl, hc, e⟩
    · have := b.lo d d0 d1; omega
    · have h1 := ih l hl hc
      have h2 := b.ge l hl
      rw [hc] at h2
      omega
theorem CPath.uniq {n : Nat} {ls : List api_Link} {du h h' : Int → Int} (g : GoodG n ls) (hfull : ¬ (ord n ls).length < n) (a : CPath n ls du h) (b : CPath n ls du h') {c c' : Int} (ca : CMax n h c) (cb : CMax n h' c') : c = c' := by
  have h1 := a.le g hfull b
  have h2 := b.le g hfull a
  have h3 := ca.c0
  have h4 := cb.c0
  have : c ≤ c' := by
    rcases ca.ex with e | ⟨d, d0, d1, e⟩
    · omega
    · have := h1 d d0 d1; have := cb.le d d0 d1; omega
  have : c' ≤ c := by
    rcases cb.ex with e | ⟨d, d0, d1, e⟩
    · omega
    · have := h2 d d0 d1; have := ca.le d d0 d1; omega
  omega

structure CPush (n : Nat) (ls : List api_Link) (du : Int → Int) (done : List Int) (E : Int → Int) (most : Int) : Prop where
  lo : ∀ d ∈ done, du d ≤ E d
  ex : ∀ d ∈ done, E d = du d ∨ ∃ l ∈ ls, l.Consumer = d ∧ E d = E l.Supplier + du d
  ge : ∀ l ∈ ls, l.Supplier ∈ done → (l.Consumer ∈ done → E l.Supplier + du l.Consumer ≤ E l.Consumer) ∧ (l.Consumer ∉ done → E l.Supplier ≤ E l.Consumer)
  nd : ∀ d, d ∉ done → E d = 0 ∨ ∃ l ∈ ls, l.Consumer = d ∧ l.Supplier ∈ done ∧ E d = E l.Supplier
  bd : ∀ d, 0 ≤ E d ∧ E d ≤ done.length * 9007199254740992
  m0 : 0 ≤ most
  ml : ∀ d ∈ done, E d ≤ most
  mx : most = 0 ∨ ∃ d ∈ done, E d = most

/-- What one pass over the links has pushed. -/
structure Pass (n : Nat) (ls : List api_Link) (done : List Int) (E : Int → Int) (x ex : Int) (i : Nat) (F : Int → Int) : Prop where
  at_ : F x = ex
  up : ∀ d, d ≠ x → E d ≤ F d
  in_ : ∀ d ∈ done, F d = E d
  lk : ∀ l ∈ ls.take i, l.Supplier = x → ex ≤ F l.Consumer
  or_ : ∀ d, d ≠ x → F d = E d ∨ ((∃ l ∈ ls, l.Supplier = x ∧ l.Consumer = d) ∧ F d = ex)

theorem critical_l1 {n : Nat} {ls : List api_Link} (g : GoodG n ls) {done : List Int} (hr : Run n ls done) {x : Int} (hx : least n ls done = some x) {E : Int → Int} {el : List Int} {ex : Int} (most y : Int) (hE : RepV n el (fset E x ex)) :
    ∃ el' F, resume_CriticalPath.l1 ls most x y FUEL el 0 = some (el', max most y) ∧ RepV n el' F ∧ Pass n ls done E x ex ls.length F := by
  obtain ⟨x0, x1, x2, _⟩ := least_some hx
  obtain ⟨x3, x4⟩ := free_iff.1 x2
  have hll := g.len
  refine loop_c (L := fun k (s : List Int) i => resume_CriticalPath.l1 ls most x y k s i) ls.length (fun i s => ∃ F, RepV n s F ∧ Pass n ls done E x ex i F)
    (fun o => ∃ el' F, o = some (el', max most y) ∧ RepV n el' F ∧ Pass n ls done E x ex ls.length F) ?_ ?_ FUEL 0 el (Nat.zero_le _) (FUEL_pos (by omega)) ⟨_, hE, fset_self _ _ _, fun d hd => by rw [fset_ne _ _ hd]; omega, fun d hd => fset_ne _ _ (fun e => x3 (e ▸ hd)), by simp, fun d hd => .inl (fset_ne _ _ hd)⟩
  · rintro k s i hi ⟨F, h1, p1, p2, p3, p4, p5⟩
    have hm := List.getElem_mem hi
    have hc := g.c0 _ hm
    rw [resume_CriticalPath.l1, if_pos (by simp; omega), idx_get hi, Option.bind_some]
    by_cases e : ls[i].Supplier = x
    · have hcx : ls[i].Consumer ≠ x := fun h => x3 (e ▸ x4 _ hm h)
      have hcd : ls[i].Consumer ∉ done := fun h => x3 (e ▸ hr.facts.2.2 _ hm h)
      rw [if_pos (by simpa using e), h1.2 _ hc.1 hc.2, Option.bind_some, h1.2 _ x0 x1, Option.bind_some, Option.bind_some, p1]
      refine .inl ⟨_, ⟨_, h1.set hc.1 (max (F ls[i].Consumer) ex), ?_, ?_, ?_, ?_, ?_⟩, by rw [wi_succ (by omega)]⟩
      · rw [fset_ne _ _ (Ne.symm hcx)]; exact p1
      · intro d hd
        have := p2 d hd
        unfold fset; split
        · rename_i e'; rw [← e']; omega
        · exact this
      · intro d hd
        rw [fset_ne _ _ (fun h : d = ls[i].Consumer => hcd (h ▸ hd))]; exact p3 d hd
      · intro l hl hs
        rcases (mem_take_succ hi).1 hl with h | h
        · have := p4 l h hs
          unfold fset; split
          · rename_i e'; rw [← e']; omega
          · exact this
        · rw [h, fset_self]; omega
      · intro d hd
        unfold fset; split
        · rename_i e'
          by_cases c : F ls[i].Consumer ≤ ex
          · exact .inr ⟨⟨_, hm, e, e'.symm⟩, by omega⟩
          · rcases p5 d hd with h | ⟨_, h⟩
            · exact .inl (by rw [← h, e']; omega)
            · rw [e'] at h; omega
        · exact p5 d hd
    · rw [if_neg (by simpa using e), Option.bind_some]
      refine .inl ⟨s, ⟨F, h1, p1, p2, p3, fun l hl hs => ?_, p5⟩, by rw [wi_succ (by omega)]⟩
      rcases (mem_take_succ hi).1 hl with h | h
      · exact p4 l h hs
      · exact absurd (h ▸ hs) e
  · rintro k s ⟨F, h1, h2⟩
    rw [resume_CriticalPath.l1, if_neg (by simp)]
    exact ⟨s, F, rfl, h1, h2⟩

theorem CPush.step {n : Nat} {ls : List api_Link} {du : Int → Int} (hdu : ∀ i, 0 ≤ du i ∧ du i ≤ 9007199254740992) {done : List Int} (hr : Run n ls done) {x : Int} (hx : least n ls done = some x) {E F : Int → Int} {most : Int} (P : CPush n ls du done E most) (Q : Pass n ls done E x (E x + du x) ls.length F) : CPush n ls du (done ++ [x]) F (max most (E x + du x)) := by
  obtain ⟨x0, x1, x2, _⟩ := least_some hx
  obtain ⟨x3, x4⟩ := free_iff.1 x2
  have hdx := hdu x
  have hEx := P.bd x
  have hlen : ((done ++ [x]).length : Int) = done.length + 1 := by simp
  have hfull : ∀ l ∈ ls, l.Supplier = x → E x + du x ≤ F l.Consumer := fun l hl hs => Q.lk l (by rw [List.take_length]; exact hl) hs
  have hin : ∀ d, d ∈ done ++ [x] ↔ d ∈ done ∨ d = x := fun d => by simp
  have hsup : ∀ l ∈ ls, l.Consumer ∈ done → l.Supplier ∈ done := hr.facts.2.2
  refine ⟨?_, ?_, ?_, ?_, ?_, by have := P.m0; omega, ?_, ?_⟩
  · intro d hd
    rcases (hin d).1 hd with h | h
    · rw [Q.in_ d h]; exact P.lo d h
    · rw [h, Q.at_]; omega
  · intro d hd
    rcases (hin d).1 hd with h | h
    · rw [Q.in_ d h]
      rcases P.ex d h with e | ⟨l, hl, hc, e⟩
      · exact .inl e
      · exact .inr ⟨l, hl, hc, by rw [Q.in_ _ (hsup l hl (hc ▸ h))]; exact e⟩
    · rw [h, Q.at_]
      rcases P.nd x x3 with e | ⟨l, hl, hc, hs, e⟩
      · exact .inl (by omega)
      · exact .inr ⟨l, hl, hc, by rw [Q.in_ _ hs, e]⟩
  · intro l hl hs
    rcases (hin _).1 hs with h | h
    · rw [Q.in_ _ h]
      obtain ⟨g1, g2⟩ := P.ge l hl h
      refine ⟨fun hc => ?_, fun hc => ?_⟩
      · rcases (hin _).1 hc with h' | h'
        · rw [Q.in_ _ h']; exact g1 h'
        · rw [h', Q.at_]
          have := g2 (fun h'' => x3 (h' ▸ h''))
          rw [h'] at this; omega
      · have hc1 : l.Consumer ∉ done := fun h' => hc ((hin _).2 (.inl h'))
        have hc2 : l.Consumer ≠ x := fun h' => hc ((hin _).2 (.inr h'))
        have := g2 hc1
        have := Q.up _ hc2
        omega
    · have h1 := hfull l hl h
      rw [h, Q.at_]
      refine ⟨fun hc => ?_, fun _ => h1⟩
      rcases (hin _).1 hc with h' | h'
      · exact absurd (h ▸ hsup l hl h') x3
      · exact absurd (h ▸ x4 l hl h') x3
  · intro d hd
    have hd1 : d ∉ done := fun h' => hd ((hin _).2 (.inl h'))
    have hd2 : d ≠ x := fun h' => hd ((hin _).2 (.inr h'))
    rcases Q.or_ d hd2 with e | ⟨⟨l, hl, hs, hc⟩, e⟩
    · rcases P.nd d hd1 with h | ⟨l, hl, hc, hs, h⟩
      · exact .inl (by rw [e, h])
      · exact .inr ⟨l, hl, hc, (hin _).2 (.inl hs), by rw [e, Q.in_ _ hs, h]⟩
    · exact .inr ⟨l, hl, hc, (hin _).2 (.inr hs), by rw [hs, Q.at_, e]⟩
  · intro d
    rw [hlen]
    by_cases h : d = x
    · rw [h, Q.at_]; omega
    · have := P.bd d
      rcases Q.or_ d h with e | ⟨_, e⟩ <;> rw [e] <;> omega
  · intro d hd
    rcases (hin d).1 hd with h | h
    · rw [Q.in_ d h]; have := P.ml d h; omega
    · rw [h, Q.at_]; omega
  · have := P.m0
    by_cases c : most ≤ E x + du x
    · exact .inr ⟨x, (hin x).2 (.inr rfl), by rw [Q.at_]; omega⟩
    · rcases P.mx with h | ⟨d, hd, h⟩
      · omega
      · exact .inr ⟨d, (hin d).2 (.inl hd), by rw [Q.in_ d hd, h]; omega⟩

theorem CPush.fin {n : Nat} {ls : List api_Link} {du : Int → Int} (g : GoodG n ls) (hfull : ¬ (ord n ls).length < n) {E : Int → Int} {most : Int} (P : CPush n ls du (ord n ls) E most) : CPath n ls du E ∧ CMax n E most := by
  have hin : ∀ d : Int, 0 ≤ d → d < n → d ∈ ord n ls := fun d h0 h1 => ord_full hfull h0 h1
  refine ⟨⟨fun d h0 h1 => P.lo d (hin d h0 h1), fun l hl => ?_, fun d h0 h1 => P.ex d (hin d h0 h1)⟩, ⟨P.m0, fun d h0 h1 => P.ml d (hin d h0 h1), ?_⟩⟩
  · have hc := g.c0 l hl
    have hs := g.s0 l hl
    exact (P.ge l hl (hin _ hs.1 hs.2)).1 (hin _ hc.1 hc.2)
  · rcases P.mx with h | ⟨d, hd, h⟩
    · exact .inl h
    · have := (ord_run n ls).1.facts.2.1 d hd
      exact .inr ⟨d, this.1, this.2, h⟩

theorem Run.pre' {n : Nat} {ls : List api_Link} {out : List Int} (h : Run n ls out) : ∀ i, i ≤ out.length → Run n ls (out.take i) := by
  induction h with
  | nil => intro i hi; simpa using Run.nil
  | @snoc out v h hv ih =>
    intro i hi
    by_cases hi' : i ≤ out.length
    · rw [List.take_append_of_le_length hi']; exact ih i hi'
    · rw [List.take_of_length_le (by simp only [List.length_append, List.length_singleton] at hi ⊢; omega)]; exact h.snoc hv
theorem Run.nth' {n : Nat} {ls : List api_Link} {out : List Int} (h : Run n ls out) : ∀ i (hi : i < out.length), least n ls (out.take i) = some out[i] := by
  induction h with
  | nil => intro i hi; simp at hi
  | @snoc out v h hv ih =>
    intro i hi
    by_cases hi' : i < out.length
    · rw [List.take_append_of_le_length (by omega), List.getElem_append_left hi']; exact ih i hi'
    · have : i = out.length := by simp only [List.length_append, List.length_singleton] at hi; omega
      subst this
      rw [List.take_append_of_le_length (Nat.le_refl _), List.take_length, List.getElem_append_right (Nat.le_refl _)]
      simpa using hv

theorem critical_good {n w : Nat} {ls : List api_Link} {dl : List Int} (S : GoodS n w ls dl) : ∃ h c, resume_CriticalPath.f n ls dl = some (c, 0) ∧ CPath n ls (duf dl) h ∧ CMax n h c ∧ c ≤ 128 * 9007199254740992 := by
  have g := S.g
  have hn := g.n128
  have S1 : GoodS n 1 ls dl := ⟨S.g, S.full, S.dn, S.d0, by omega, by omega⟩
  have hsc : scode n ls dl 1 = 0 := good_scode S1
  have hll : ls.length ≤ maxLen := by have := g.len; rw [maxLen_eq]; omega
  have hcc : ccode (n : Int) ls = 0 := by rw [ccode_good g, if_neg S.full]
  have ho : ores (n : Int) ls = (ord n ls, 0) := by unfold ores; rw [if_pos hcc]; rfl
  unfold resume_CriticalPath.f
  rw [check31_ok _ _ _ _ hll (by rw [S.dn, maxLen_eq]; omega), hsc, Option.bind_some, if_neg (by simp), order_ok _ _ hll, ho, Option.bind_some, if_neg (by simp), mk_ok (by omega), Option.bind_some]
  have hr := (ord_run n ls).1
  have hlen := ord_le n ls
  have hdu := duf_range S.d0
  have key : ∃ E most, resume_CriticalPath.l0 ls dl (ord n ls, 0) FUEL (List.replicate n 0) 0 0 = some most ∧ CPush n ls (duf dl) (ord n ls) E most := by
    refine loop_c (L := fun k (s : List Int × Int) i => resume_CriticalPath.l0 ls dl (ord n ls, 0) k s.1 s.2 i) (ord n ls).length (fun i s => ∃ E, RepV n s.1 E ∧ CPush n ls (duf dl) ((ord n ls).take i) E s.2)
      (fun o => ∃ E most, o = some most ∧ CPush n ls (duf dl) (ord n ls) E most) ?_ ?_ FUEL 0 (List.replicate n 0, 0) (Nat.zero_le _) (FUEL_pos (by omega)) ⟨fun _ => 0, RepV.rep n 0, ?_⟩
    · rintro k ⟨el, most⟩ i hi ⟨E, h1, h2⟩
      simp only at h1 h2 ⊢
      have hrun := hr.pre' i (by omega)
      have hx := hr.nth' i hi
      obtain ⟨x0, x1, _, _⟩ := least_some hx
      have hb := h2.bd (ord n ls)[i]
      have hl : ((ord n ls).take i).length = i := by simp; omega
      rw [hl] at hb
      have hi2 : (i : Int) * 9007199254740992 ≤ 128 * 9007199254740992 := Int.mul_le_mul_of_nonneg_right (by omega) (by omega)
      have hd := hdu (ord n ls)[i]
      rw [resume_CriticalPath.l0, if_pos (by simp; omega), idx_get hi, Option.bind_some, h1.2 _ x0 x1, Option.bind_some, (duf_rep S.dn).2 _ x0 x1, Option.bind_some, wu_id (by omega) (by omega), (h1.set x0 _).2 _ x0 x1, Option.bind_some, fset_self]
      obtain ⟨el', F, e, q1, q2⟩ := critical_l1 g hrun hx most (E (ord n ls)[i] + duf dl (ord n ls)[i]) (h1.set x0 (E (ord n ls)[i] + duf dl (ord n ls)[i]))
      rw [e, Option.bind_some]
      refine .inl ⟨(el', max most (E (ord n ls)[i] + duf dl (ord n ls)[i])), ⟨F, q1, ?_⟩, by rw [wi_succ (by omega)]⟩
      simp only
      rw [List.take_succ_eq_append_getElem hi]
      exact h2.step hdu hrun hx q2
    · rintro k ⟨el, most⟩ ⟨E, h1, h2⟩
      simp only at h1 h2 ⊢
      rw [resume_CriticalPath.l0, if_neg (by simp)]
      rw [List.take_length] at h2
      exact ⟨E, most, rfl, h2⟩
    · refine ⟨by simp, by simp, by simp, fun d _ => .inl rfl, fun d => ⟨Int.le_refl _, by simp⟩, Int.le_refl _, by simp, .inl rfl⟩
  obtain ⟨E, most, e, P⟩ := key
  rw [e, Option.bind_some]
  obtain ⟨a, b⟩ := P.fin g S.full
  refine ⟨E, most, rfl, a, b, ?_⟩
  have hlb : ((ord n ls).length : Int) * 9007199254740992 ≤ 128 * 9007199254740992 := Int.mul_le_mul_of_nonneg_right (by omega) (by omega)
  rcases P.mx with h | ⟨d, _, h⟩
  · omega
  · have := (P.bd d).2; omega
theorem critical_bad {p : Int} {ls : List api_Link} {dl : List Int} (h : ls.length ≤ maxLen) (hd : dl.length ≤ maxLen) (hs : scode p ls dl 1 ≠ 0) : resume_CriticalPath.f p ls dl = some (0, scode p ls dl 1) := by
  unfold resume_CriticalPath.f
  rw [check31_ok _ _ _ _ h hd, Option.bind_some, if_pos (by simpa using hs)]

/-! ### the schedule's ends and the longest chain -/

theorem ends_ge {n w : Nat} {ls : List api_Link} {du h : Int → Int} (hfull : ¬ (ord n ls).length < n) (hP : CPath n ls du h) {m : Ms} {out : List api_Slot} (D : Done n w ls du m out) : ∀ d : Int, 0 ≤ d → d < n → h d ≤ (m.s d).End :=
  ord_ind hfull fun d d0 d1 ih => by
    obtain ⟨a, b, _, _⟩ := D.inv.begun_of (D.all d d0 d1)
    have hlen := D.inv.len _ a
    have hst := D.inv.st _ a
    rw [b] at hlen
    rcases hP.ex d d0 d1 with e | ⟨l, hl, hc, e⟩
    · omega
    · have h1 := ih l hl hc
      have h2 := (D.inv.lnk l hl (by rw [hc]; exact D.all d d0 d1)).2
      rw [hc] at h2
      omega
theorem span_t {n w : Nat} {ls : List api_Link} {du : Int → Int} {m : Ms} {out : List api_Slot} (D : Done n w ls du m out) {T : Int} (M : Mks out T) : T = m.t := by
  have h0 := D.inv.t0
  have h1 : T ≤ m.t := by
    rcases M.ex with h | ⟨x, hx, h⟩
    · omega
    · have := D.ends x hx; omega
  have h2 : m.t ≤ T := by
    have := M.t0
    rcases D.inv.torg with h | ⟨x, hx, h⟩
    · omega
    · have := M.le x hx; omega
  omega
theorem perm_below {n w : Nat} {ls : List api_Link} {du : Int → Int} {m : Ms} {out : List api_Slot} (D : Done n w ls du m out) : (out.map api_Slot.Device).Perm (below n) := by
  rw [List.perm_ext_iff_of_nodup D.inv.nd (below_nodup n)]
  intro d
  rw [mem_below]
  constructor
  · intro h
    obtain ⟨x, hx, rfl⟩ := List.mem_map.1 h
    exact D.inv.dev x hx
  · rintro ⟨h0, h1⟩
    obtain ⟨a, b⟩ := D.inv.bs d (D.all d h0 h1)
    exact List.mem_map.2 ⟨_, a, b⟩
theorem awake31_ok : law31_awake.f = some true := by kernel_rfl
theorem duf_small {dl : List Int} (h : ∀ x ∈ dl, 0 ≤ x ∧ x ≤ 11) (i : Int) : 0 ≤ duf dl i ∧ duf dl i ≤ 11 := by
  unfold duf
  cases hx : idx dl i with
  | none => simp
  | some x =>
    obtain ⟨y, hy, hm⟩ := idx_of (idx_lo hx) (idx_hi hx)
    rw [hx] at hy; injection hy with hy; subst hy
    exact h x hm
end Go.Proofs.Ythmjgadmadlpkaa.Sim

namespace Go.Proofs.Ythmjgadmadlpkaa.Sim
open Go
set_option linter.unusedVariables false
set_option maxRecDepth 100000

def scS (k : Int) (x : api_Slot) : api_Slot := api_Slot.mk x.Device x.Worker (k * x.Start) (k * x.End)
def scM (k : Int) (m : Ms) : Ms := ⟨m.b, fun d => scS k (m.s d), fun i => k * m.f i, k * m.t⟩
theorem sc_le {k : Int} (hk : 0 < k) (a b : Int) : k * a ≤ k * b ↔ a ≤ b := ⟨fun h => by
  refine Classical.byContradiction fun hn => ?_
  have := Int.mul_lt_mul_of_pos_left (a := b) (b := a) (c := k) (by omega) hk
  omega, fun h => Int.mul_le_mul_of_nonneg_left h (by omega)⟩

section
variable {n w : Nat} {ls : List api_Link} {du dv : Int → Int} {k : Int}

theorem sc_next (hk : 0 < k) (m : Ms) : nextD n ls (scM k m) = nextD n ls m ∧ nextW w (scM k m) = nextW w m := by
  refine ⟨fst_congr fun d _ _ => ?_, fst_congr fun i _ _ => ?_⟩
  · have : ∀ j, over (scM k m) j = over m j := fun j => by
      unfold over scM scS
      simp only [sc_le hk]
    unfold rdy
    simp only [this]; rfl
  · unfold scM
    simp only [sc_le hk]
theorem sc_run (hk : 0 < k) (m : Ms) {x : Int} : x ∈ running w (scM k m) ↔ ∃ y ∈ running w m, x = k * y := by
  rw [mem_running]
  constructor
  · rintro ⟨i, i0, i1, h1, h2⟩
    unfold scM at h1 h2
    simp only at h1 h2
    refine ⟨m.f i, mem_running.2 ⟨i, i0, i1, rfl, ?_⟩, h1.symm⟩
    rw [← h1] at h2
    refine Classical.byContradiction fun hn => ?_
    have := (sc_le hk (m.f i) m.t).2 (by omega)
    omega
  · rintro ⟨y, hy, rfl⟩
    obtain ⟨i, i0, i1, h1, h2⟩ := mem_running.1 hy
    refine ⟨i, i0, i1, by unfold scM; simp only [h1], ?_⟩
    unfold scM
    simp only
    exact Int.mul_lt_mul_of_pos_left h2 hk
theorem sc_nxt (hk : 0 < k) (hdv : ∀ d : Int, 0 ≤ d → d < n → dv d = k * du d) (m : Ms) (out : List api_Slot) :
    nxt n w ls dv (scM k m, out.map (scS k)) = (nxt n w ls du (m, out)).map (fun z => (scM k z.1, z.2.map (scS k))) := by
  obtain ⟨e1, e2⟩ := sc_next (n := n) (w := w) (ls := ls) hk m
  unfold nxt
  simp only
  rw [e1, e2]
  by_cases hp : 0 ≤ nextD n ls m ∧ 0 ≤ nextW w m
  · rw [if_pos hp, if_pos hp]
    have hd := hdv (nextD n ls m) hp.1 (fst_lt hp.1).1
    simp only [Option.map_some, List.map_append, List.map_cons, List.map_nil]
    have hs : scS k (api_Slot.mk (nextD n ls m) (nextW w m) m.t (m.t + du (nextD n ls m))) = api_Slot.mk (nextD n ls m) (nextW w m) (scM k m).t ((scM k m).t + dv (nextD n ls m)) := by
      unfold scS scM; simp only; rw [hd, Int.mul_add]
    rw [hs]
    congr 2
    unfold place scM
    simp only
    have ha : (fset (fun d => scS k (m.s d)) (nextD n ls m) (api_Slot.mk (nextD n ls m) (nextW w m) (k * m.t) (k * m.t + dv (nextD n ls m)))) = fun d => scS k (fset m.s (nextD n ls m) (api_Slot.mk (nextD n ls m) (nextW w m) m.t (m.t + du (nextD n ls m))) d) := by
      funext d
      unfold fset
      simp only
      split
      · unfold scS; simp only; rw [hd, Int.mul_add]
      · rfl
    have hb : (fset (fun i => k * m.f i) (nextW w m) (k * m.t + dv (nextD n ls m))) = fun i => k * fset m.f (nextW w m) (m.t + du (nextD n ls m)) i := by
      funext i
      unfold fset
      simp only
      split
      · rw [hd, Int.mul_add]
      · rfl
    rw [ha, hb]
  · rw [if_neg hp, if_neg hp]
    cases hl : lowest (running w m) with
    | none =>
      have h0 := lowest_none hl
      have : running w (scM k m) = [] := by
        rw [List.eq_nil_iff_forall_not_mem]
        intro x hx
        obtain ⟨y, hy, _⟩ := (sc_run hk m).1 hx
        rw [h0] at hy; cases hy
      rw [this]; rfl
    | some t =>
      obtain ⟨h1, h2⟩ := lowest_spec hl
      have : lowest (running w (scM k m)) = some (k * t) := lowest_of ((sc_run hk m).2 ⟨t, h1, rfl⟩) fun x hx => by
        obtain ⟨y, hy, rfl⟩ := (sc_run hk m).1 hx
        exact (sc_le hk _ _).2 (h2 y hy)
      rw [this]; rfl
theorem sc_it (hk : 0 < k) (hdv : ∀ d : Int, 0 ≤ d → d < n → dv d = k * du d) : ∀ (j : Nat) (m : Ms) (out : List api_Slot), it n w ls dv j (scM k m, out.map (scS k)) = (scM k (it n w ls du j (m, out)).1, (it n w ls du j (m, out)).2.map (scS k))
  | 0, m, out => rfl
  | j + 1, m, out => by
    rw [it, it, sc_nxt hk hdv]
    cases hz : nxt n w ls du (m, out) with
    | none => rfl
    | some z => exact sc_it hk hdv j z.1 z.2
theorem sc_sched (hk : 0 < k) (hdv : ∀ d : Int, 0 ≤ d → d < n → dv d = k * du d) {m m' : Ms} {out out' : List api_Slot} (A : Sched n w ls du m out) (B : Sched n w ls dv m' out') : out' = out.map (scS k) := by
  obtain ⟨j, hj⟩ := A.st
  obtain ⟨i, hi⟩ := B.st
  have h1 := sc_it (w := w) (ls := ls) hk hdv j z00.1 z00.2
  have hz : (scM k z00.1, z00.2.map (scS k)) = z00 := by unfold z00 scM scS; simp
  rw [hz] at h1
  have hj' : it n w ls du j (z00.1, z00.2) = (m, out) := hj
  rw [hj'] at h1
  have hno : nxt n w ls dv (it n w ls dv j z00) = none := by
    rw [h1, sc_nxt hk hdv, A.no]; rfl
  have := it_same (n := n) (w := w) (ls := ls) (du := dv) i j z00 (by rw [hi]; exact B.no) hno
  rw [hi, h1] at this
  exact congrArg Prod.snd this
end

theorem resumeScales : law31_ResumeScales.Pure := by
  intro p0 p1 p2 p3 p4 _ h1 h2 _ h4
  have hp4 : 0 ≤ p4 ∧ p4 < 65536 := by
    simp [Lit.wf, IntKind.min, IntKind.max, IntKind.signed, IntKind.bits] at h4; omega
  have ek : wu (1 + wu p4) = 1 + p4 := by rw [wu_id (x := p4) (by omega) (by omega), wu_id (by omega) (by omega)]
  unfold law31_ResumeScales.f
  by_cases hb : 40 < p1.length
  · rw [if_pos (by simp; omega), awake31_ok]; rfl
  · rw [if_neg (by simp; omega)]
    obtain ⟨n, ls, e1, g⟩ := graph_ok p0 p1 true h1.1
    have hn := g.n13
    obtain ⟨w, e2, e3, w0, w1⟩ := mod1_ok p3 5 (by omega) (by omega)
    obtain ⟨dl, e4, d1, d2⟩ := durations_ok n (by omega) p2 (fun x hx => (u64_range (h2.2 x hx)).1) h2.1
    have S := goodS_of g d1 d2 (w := w) w0 (by omega)
    have e2' : help_Mod.f p3 5 = some ((w : Int) - 1) := e2
    rw [e1, Option.bind_some, e2', Option.bind_some]
    simp only
    rw [e4, Option.bind_some, mk_ok (by omega), Option.bind_some]
    have hkb : ∀ d, 0 ≤ (1 + p4) * duf dl d ∧ (1 + p4) * duf dl d ≤ 65536 * 11 := fun d => by
      have h3 := duf_small d2 d
      have h5 := Int.mul_le_mul_of_nonneg_right (a := 1 + p4) (b := 65536) (c := duf dl d) (by omega) h3.1
      exact ⟨Int.mul_nonneg (by omega) h3.1, by omega⟩
    have key : ∃ vl, law31_ResumeScales.l0 p4 ((n : Int), ls) dl FUEL (List.replicate n 0) 0 = some vl ∧ RepV n vl (fun d => (1 + p4) * duf dl d) := by
      refine loop_c (L := fun q (s : List Int) i => law31_ResumeScales.l0 p4 ((n : Int), ls) dl q s i) n (fun i s => RepV n s (fun d => if d < i then (1 + p4) * duf dl d else 0)) (fun o => ∃ vl, o = some vl ∧ RepV n vl (fun d => (1 + p4) * duf dl d)) ?_ ?_ FUEL 0 _ (Nat.zero_le _) (FUEL_pos (by omega)) ((RepV.rep n 0).congr fun d d0 d1 => by rw [if_neg (by omega)])
      · intro q s i hi hI
        rw [law31_ResumeScales.l0, if_pos (by simp; omega), (duf_rep d1).2 (i : Int) (by omega) (by omega), Option.bind_some, hI.2 (i : Int) (by omega) (by omega), Option.bind_some, ek, wu_id (hkb i).1 (by have := (hkb i).2; omega), wi_succ (by omega)]
        refine .inl ⟨_, (hI.set (k := (i : Int)) (by omega) _).congr fun d d0 d1 => ?_, rfl⟩
        unfold fset
        dsimp only
        by_cases e : d = i
        · rw [if_pos e, if_pos (by omega), e]
        · rw [if_neg e]
          by_cases c : d < i
          · rw [if_pos c, if_pos (by omega)]
          · rw [if_neg c, if_neg (by omega)]
      · intro q s hI
        rw [law31_ResumeScales.l0, if_neg (by simp)]
        exact ⟨s, rfl, hI.congr fun d d0 d1 => by rw [if_pos d1]⟩
    obtain ⟨vl, e5, hV⟩ := key
    have hvd : ∀ d : Int, 0 ≤ d → d < n → duf vl d = (1 + p4) * duf dl d := fun d d0 d1 => by unfold duf; rw [hV.2 d d0 d1]; rfl
    have S' : GoodS n w ls vl := ⟨g.good, acyc_full g, hV.1, fun y hy => by
      obtain ⟨i, hi, rfl⟩ := List.getElem_of_mem hy
      have h3 := hV.2 (i : Int) (by omega) (by have := hV.1; omega)
      rw [idx_get hi] at h3
      have h5 : vl[i] = (1 + p4) * duf dl i := Option.some.inj h3
      have := hkb i
      rw [h5]; omega, w0, by omega⟩
    obtain ⟨m, out, e6, SC, _⟩ := sched_good S
    obtain ⟨m', out', e7, SC', tb'⟩ := sched_good S'
    have hsc := sc_sched (k := 1 + p4) (by omega) hvd SC SC'
    have hlen := SC.dn.len
    have hlen' := SC'.dn.len
    rw [e5, Option.bind_some, e3, e6, Option.bind_some, e7, Option.bind_some, if_neg (by simp [hlen, hlen'])]
    have key2 : law31_ResumeScales.l1 p4 ((n : Int), ls) (out, 0) (out', 0) FUEL 0 = some (.nxt ()) := by
      refine loop_c (L := fun k (_ : Unit) i => law31_ResumeScales.l1 p4 ((n : Int), ls) (out, 0) (out', 0) k i) n (fun _ _ => True) (fun o => o = some (.nxt ())) ?_ ?_ FUEL 0 () (Nat.zero_le _) (FUEL_pos (by omega)) trivial
      · intro k _ i hi _
        have hi1 : i < out.length := by omega
        have hi2 : i < out'.length := by omega
        have hm' := List.getElem_mem hi2
        have he : out'[i] = scS (1 + p4) out[i] := by
          have : out'[i] = (out.map (scS (1 + p4)))[i]'(by simp; omega) := by congr 1
          rw [this, List.getElem_map]
        have hb1 := SC'.dn.inv.st _ hm'
        have hb2 := SC'.dn.ends _ hm'
        have hb3 := SC'.dn.inv.len _ hm'
        have hb4 := (duf_range S'.d0 out'[i].Device).1
        have es : (1 + p4) * out[i].Start = out'[i].Start := by rw [he]; rfl
        have ee : (1 + p4) * out[i].End = out'[i].End := by rw [he]; rfl
        rw [law31_ResumeScales.l1, if_pos (by simp; omega), idx_get hi1, Option.bind_some, idx_get hi2, Option.bind_some, ek, es, ee, wu_id hb1.1 (by omega), wu_id (by omega) (by omega), if_neg (by rw [he]; simp [scS]), wi_succ (by omega)]
        exact .inl ⟨(), trivial, rfl⟩
      · intro k _ _
        rw [law31_ResumeScales.l1, if_neg (by simp)]
    rw [key2, Option.bind_some, Fl.go, awake31_ok]; rfl
end Go.Proofs.Ythmjgadmadlpkaa.Sim
