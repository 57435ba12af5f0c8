/-
  Plain lemmas: New of rails and of its reference accept the same rails.
-/
import Derived.Test.YtfiodhdldleocaaG4
namespace Go.Proofs.Ytfiodhdldleocaa.Sim
open Go
set_option linter.unusedVariables false
set_option maxRecDepth 100000

def badR (n : Int) (x : api_Rail) : Bool := ((((decide (x.Supply < (-1))) || (decide (n ≤ x.Supply))) || (decide (1048576 < x.RampUp))) || (decide (1048576 < x.RampDown)))
def linksTo (xs : List api_Rail) : Nat → List api_Link
  | 0 => []
  | i + 1 => linksTo xs i ++ (match xs[i]? with | some x => if 0 ≤ x.Supply then [api_Link.mk i x.Supply] else [] | none => [])
theorem linksTo_le (xs : List api_Rail) : ∀ i, (linksTo xs i).length ≤ i
  | 0 => Nat.le_refl 0
  | i + 1 => by
    have := linksTo_le xs i
    rw [linksTo, List.length_append]
    split
    · split <;> simp <;> omega
    · simp; omega
theorem mem_linksTo {xs : List api_Rail} {l : api_Link} : ∀ {i : Nat}, l ∈ linksTo xs i ↔ ∃ j x, j < i ∧ xs[j]? = some x ∧ 0 ≤ x.Supply ∧ l = api_Link.mk (j : Int) x.Supply
  | 0 => by simp [linksTo]
  | i + 1 => by
    rw [linksTo, List.mem_append, mem_linksTo (i := i)]
    constructor
    · rintro (⟨j, x, h1, h2⟩ | h)
      · exact ⟨j, x, by omega, h2⟩
      · split at h
        · rename_i x hx
          split at h
          · rename_i h0
            exact ⟨i, x, by omega, hx, h0, by simpa using h⟩
          · simp at h
        · simp at h
    · rintro ⟨j, x, h1, h2, h3, h4⟩
      by_cases hj : j = i
      · subst hj; right; rw [h2]; simp only; rw [if_pos h3]; simp [h4]
      · exact .inl ⟨j, x, by omega, h2, h3, h4⟩
theorem linksTo_nodup (xs : List api_Rail) : ∀ i, (linksTo xs i).Nodup
  | 0 => by simp [linksTo]
  | i + 1 => by
    rw [linksTo, List.nodup_append]
    refine ⟨linksTo_nodup xs i, ?_, ?_⟩
    · split
      · split <;> simp
      · simp
    · intro a ha b hb e
      subst e
      obtain ⟨j, x, h1, h2, h3, h4⟩ := mem_linksTo.1 ha
      split at hb
      · split at hb
        · simp only [List.mem_singleton] at hb
          rw [h4] at hb
          injection hb with h5 h6
          omega
        · simp at hb
      · simp at hb

def rail0 (x : api_Rail) : rails_rail := rails_rail.mk x 0 0
def links (xs : List api_Rail) : List api_Link := linksTo xs xs.length

theorem rnew_l0 (xs : List api_Rail) (h : xs.length ≤ 64) : rails_New.l0 xs FUEL (rails_Rails.mk ([] : List rails_rail) 0) [] 0 = some (if xs.any (badR xs.length) = true then .out ((none : Option rails_Rails), 1) else .nxt (rails_Rails.mk (xs.map rail0) 0, links xs)) := by
  refine loop_c (L := fun k (s : rails_Rails × List api_Link) i => rails_New.l0 xs k s.1 s.2 i) xs.length
    (fun i s => s = (rails_Rails.mk ((xs.take i).map rail0) 0, linksTo xs i) ∧ ∀ x ∈ xs.take i, badR xs.length x = false)
    (fun o => o = some (if xs.any (badR xs.length) = true then .out ((none : Option rails_Rails), 1) else .nxt (rails_Rails.mk (xs.map rail0) 0, links xs))) ?_ ?_ FUEL 0 (rails_Rails.mk ([] : List rails_rail) 0, []) (Nat.zero_le _) (FUEL_pos (by omega)) ⟨by simp [linksTo], by simp⟩
  · intro k s i hi hI
    obtain ⟨rfl, hb⟩ := hI
    simp only
    rw [rails_New.l0, if_pos (by simp; omega), idx_get hi]
    simp only [Option.bind_some]
    by_cases hp : badR xs.length xs[i] = true
    · unfold badR at hp
      rw [if_pos hp]
      refine .inr ?_
      rw [if_pos (List.any_eq_true.2 ⟨_, List.getElem_mem hi, hp⟩)]
    · have hp' := hp
      unfold badR at hp
      rw [if_neg hp]
      refine .inl ⟨(rails_Rails.mk ((xs.take (i + 1)).map rail0) 0, linksTo xs (i + 1)), ⟨rfl, ?_⟩, ?_⟩
      · intro x hx
        rw [List.take_succ_eq_append_getElem hi] at hx
        rcases List.mem_append.1 hx with h | h
        · exact hb x h
        · simp only [List.mem_singleton] at h; subst h; simpa using hp'
      · have hm : (app ((xs.take i).map rail0) [rails_rail.mk xs[i] 0 0]) = some ((xs.take (i + 1)).map rail0) := by
          rw [app_ok (by simp; omega), List.take_succ_eq_append_getElem hi, List.map_append]; rfl
        have hl := linksTo_le xs i
        have he : linksTo xs (i + 1) = linksTo xs i ++ if 0 ≤ xs[i].Supply then [api_Link.mk i xs[i].Supply] else [] := by
          rw [linksTo, List.getElem?_eq_getElem hi]
        by_cases h0 : 0 ≤ xs[i].Supply
        · rw [if_pos (by simpa using h0), app_ok (by simp; omega)]
          simp only [Option.bind_some]
          rw [hm, Option.bind_some, he, if_pos h0, wi_succ (by omega)]
        · rw [if_neg (by simpa using h0)]
          simp only [Option.bind_some]
          rw [hm, Option.bind_some, he, if_neg h0, wi_succ (by omega), List.append_nil]
  · intro k s hI
    obtain ⟨rfl, hb⟩ := hI
    simp only
    rw [rails_New.l0, if_neg (by simp)]
    rw [List.take_length] at hb ⊢
    rw [if_neg]
    · rfl
    · intro h
      obtain ⟨x, h1, h2⟩ := List.any_eq_true.1 h
      rw [hb x h1] at h2; cases h2

theorem links_good {xs : List api_Rail} (h : xs.length ≤ 64) (hb : ¬ xs.any (badR xs.length) = true) : GoodG xs.length (links xs) := by
  have hb' : ∀ x ∈ xs, badR xs.length x = false := fun x hx => by
    rw [Bool.not_eq_true, List.any_eq_false] at hb
    simpa using hb x hx
  have hl := linksTo_le xs xs.length
  refine ⟨by omega, Nat.le_trans hl (by omega), fun l hl => ?_, fun l hl => ?_, linksTo_nodup _ _⟩
  · obtain ⟨j, x, h1, h2, h3, h4⟩ := mem_linksTo.1 hl
    subst h4; simp only; omega
  · obtain ⟨j, x, h1, h2, h3, h4⟩ := mem_linksTo.1 hl
    have := hb' x (List.mem_of_getElem? h2)
    subst h4
    simp [badR] at this
    simp only; omega

def newcode (xs : List api_Rail) : Int := if 64 < xs.length then 1 else if xs.any (badR xs.length) = true then 1 else if (ord xs.length (links xs)).length < xs.length then 18 else 0

theorem rnew_ok (xs : List api_Rail) : rails_New.f xs = some (if newcode xs = 0 then (some (rails_Rails.mk (xs.map rail0) 0), 0) else (none, newcode xs)) := by
  unfold rails_New.f newcode
  by_cases h : 64 < xs.length
  · rw [if_pos (by simp; omega), if_pos h, if_neg (by simp)]
  · rw [if_neg (by simp; omega), if_neg h, rnew_l0 xs (by omega)]
    simp only [Option.bind_some]
    by_cases hb : xs.any (badR xs.length) = true
    · rw [if_pos hb, if_pos hb, if_neg (by simp)]; rfl
    · rw [if_neg hb, if_neg hb]
      have hl := linksTo_le xs xs.length
      simp only [Fl.go]
      rw [check_ok _ _ (by rw [maxLen_eq]; unfold links; omega), ccode_good (links_good (by omega) hb)]
      simp only [Option.bind_some]
      by_cases hc : (ord xs.length (links xs)).length < xs.length
      · rw [if_pos hc, if_pos (by simp), if_neg (by simp)]
      · rw [if_neg hc, if_neg (by simp), if_pos rfl]

/-! ### the reference walks up -/

def supOf (xs : List api_Rail) (v : Int) : Int := match idx xs v with | some x => x.Supply | none => -1
def wk (xs : List api_Rail) : Nat → Int → Int
  | 0, v => v
  | k + 1, v => if 0 ≤ v then wk xs k (supOf xs v) else v
theorem wk_neg {xs : List api_Rail} {v : Int} (h : ¬ 0 ≤ v) : ∀ k, wk xs k v = v
  | 0 => rfl
  | k + 1 => by rw [wk, if_neg h]
theorem wk_succ {xs : List api_Rail} : ∀ (k : Nat) (v : Int), wk xs (k + 1) v = if 0 ≤ wk xs k v then supOf xs (wk xs k v) else wk xs k v
  | 0, v => rfl
  | k + 1, v => by
    rw [wk]
    by_cases h : 0 ≤ v
    · rw [if_pos h, wk_succ k]; rw [show wk xs (k + 1) v = wk xs k (supOf xs v) by rw [wk, if_pos h]]
    · rw [if_neg h, wk_neg h, if_neg h]
theorem supOf_range {xs : List api_Rail} (hb : ¬ xs.any (badR xs.length) = true) (v : Int) : -1 ≤ supOf xs v ∧ supOf xs v < xs.length := by
  unfold supOf
  split
  · rename_i x hx
    have hm : x ∈ xs := by
      obtain ⟨y, h1, h2⟩ := idx_of (idx_lo hx) (idx_hi hx)
      rw [h1] at hx; cases hx; exact h2
    have : badR xs.length x = false := by
      rw [Bool.not_eq_true, List.any_eq_false] at hb
      simpa using hb x hm
    simp [badR] at this
    omega
  · omega
theorem wk_lt {xs : List api_Rail} (hb : ¬ xs.any (badR xs.length) = true) {v : Int} (hv : v < xs.length) : ∀ k, wk xs k v < xs.length
  | 0 => hv
  | k + 1 => by
    rw [wk_succ]; split
    · exact (supOf_range hb _).2
    · exact wk_lt hb hv k
theorem wk_back {xs : List api_Rail} {v : Int} {k : Nat} (h : 0 ≤ wk xs (k + 1) v) : 0 ≤ wk xs k v := by
  rw [wk_succ] at h
  by_cases h0 : 0 ≤ wk xs k v
  · exact h0
  · rw [if_neg h0] at h; exact h
theorem wk_all {xs : List api_Rail} {v : Int} : ∀ {k : Nat}, 0 ≤ wk xs k v → ∀ j, j ≤ k → 0 ≤ wk xs j v
  | 0, h, j, hj => by rw [Nat.le_zero.1 hj]; exact h
  | k + 1, h, j, hj => by
    rcases Nat.lt_or_ge k j with h1 | h1
    · rw [show j = k + 1 by omega]; exact h
    · exact wk_all (wk_back h) j h1

theorem link_of {xs : List api_Rail} {a b : Int} (h0 : 0 ≤ a) (h1 : a < xs.length) (h2 : 0 ≤ b) : api_Link.mk a b ∈ links xs ↔ supOf xs a = b := by
  unfold links
  rw [mem_linksTo]
  obtain ⟨i, rfl⟩ := Int.eq_ofNat_of_zero_le h0
  have hi : i < xs.length := by omega
  unfold supOf
  rw [idx_get hi]
  constructor
  · rintro ⟨j, x, h3, h4, h5, h6⟩
    injection h6 with h6 h7
    have : j = i := by omega
    subst this
    rw [List.getElem?_eq_getElem hi] at h4
    cases h4
    exact h7.symm
  · intro h
    simp only at h
    exact ⟨i, xs[i], hi, List.getElem?_eq_getElem hi, by omega, by rw [h]⟩

theorem wk_cycle {xs : List api_Rail} (h : xs.length ≤ 64) (hb : ¬ xs.any (badR xs.length) = true) : (∃ i : Int, 0 ≤ i ∧ i < xs.length ∧ 0 ≤ wk xs xs.length i) ↔ (ord xs.length (links xs)).length < xs.length := by
  have g := links_good h hb
  constructor
  · rintro ⟨i, h0, h1, h2⟩
    refine Classical.byContradiction fun hn => ?_
    have ha := wk_all h2
    obtain ⟨p, q, hpq, hq, e⟩ := walk_back (n := xs.length) (fun j => wk xs (min j xs.length) i) (fun j => ⟨ha _ (Nat.min_le_right _ _), wk_lt hb h1 _⟩)
    rw [Nat.min_eq_left (by omega), Nat.min_eq_left hq] at e
    have hs : ∀ j, j < xs.length → api_Link.mk (wk xs j i) (wk xs (j + 1) i) ∈ links xs := fun j hj => by
      have h3 := ha j (by omega)
      have h4 := ha (j + 1) (by omega)
      rw [link_of h3 (wk_lt hb h1 _) h4, wk_succ, if_pos h3]
    have hp : ∀ d, p + d < xs.length → Path (links xs) (wk xs p i) (wk xs (p + d + 1) i) := by
      intro d
      induction d with
      | zero => intro hd; exact .one (hs p (by omega))
      | succ d ih => intro hd; exact (ih (by omega)).trans (.one (hs (p + d + 1) (by omega)))
    have := hp (q - p - 1) (by omega)
    rw [show p + (q - p - 1) + 1 = q by omega, ← e] at this
    exact (ord_run xs.length (links xs)).1.acyclic _ (ord_full hn (ha p (by omega)) (wk_lt hb h1 _)) this
  · intro hc
    obtain ⟨i, h0, h1, h2⟩ := ord_cyclic g hc
    refine ⟨i, h0, h1, ?_⟩
    have key : ∀ k, 0 ≤ wk xs k i ∧ wk xs k i < xs.length ∧ Path (links xs) (wk xs k i) (wk xs k i) := by
      intro k
      induction k with
      | zero => exact ⟨h0, h1, h2⟩
      | succ k ih =>
        obtain ⟨a0, a1, ap⟩ := ih
        obtain ⟨c, hc, hd⟩ := ap.first
        have hc' := (g.s0 _ hc)
        have he : wk xs (k + 1) i = c := by
          rw [wk_succ, if_pos a0]
          exact (link_of a0 a1 hc'.1).1 hc
        rw [he]
        refine ⟨hc'.1, hc'.2, ?_⟩
        rcases hd with hd | hd
        · rw [← hd] at hc; exact .one hc
        · exact hd.trans (.one hc)
    exact (key _).1

theorem fnew_l2 {xs : List api_Rail} (h : xs.length ≤ 64) (hb : ¬ xs.any (badR xs.length) = true) : ∀ (r fuel : Nat) (v : Int), r ≤ xs.length → r < fuel → v < xs.length →
    ref25_New.l2 xs fuel v ((xs.length - r : Nat) : Int) = some (wk xs r v)
  | 0, fuel + 1, v, _, _, _ => by rw [ref25_New.l2, if_neg (by simp)]; rfl
  | r + 1, fuel + 1, v, h1, h2, h3 => by
    rw [ref25_New.l2]
    by_cases h0 : 0 ≤ v
    · rw [if_pos (by simp; omega)]
      obtain ⟨x, hx, hm⟩ := idx_of h0 h3
      rw [hx, Option.bind_some, wi_succ (by omega), show xs.length - (r + 1) + 1 = xs.length - r by omega]
      have hs : x.Supply = supOf xs v := by unfold supOf; rw [hx]
      rw [hs, fnew_l2 h hb r fuel _ (by omega) (by omega) (supOf_range hb _).2, wk, if_pos h0]
    · rw [if_neg (by simp; omega), wk_neg h0]

theorem fnew_ok (xs : List api_Rail) : ref25_New.f xs = some (if newcode xs = 0 then (some (ref25_Rails.mk xs (List.replicate xs.length 0) (List.replicate xs.length 0) 0), 0) else (none, newcode xs)) := by
  unfold ref25_New.f newcode
  by_cases h : 64 < xs.length
  · rw [if_pos (by simp; omega), if_pos h, if_neg (by simp)]
  · rw [if_neg (by simp; omega), if_neg h]
    rw [search_ok (L := ref25_New.l0 xs) xs (badR xs.length) ((none : Option ref25_Rails), (1 : Int)) (by rw [maxLen_eq]; omega) (fun k i => by rw [ref25_New.l0]; rfl)]
    by_cases hb : xs.any (badR xs.length) = true
    · rw [if_pos hb, if_pos hb, if_neg (by simp)]; rfl
    · rw [if_neg hb, if_neg hb]
      simp only [Option.bind_some, Fl.go]
      have hl1 : ref25_New.l1 xs FUEL 0 = some (if (ord xs.length (links xs)).length < xs.length then .out ((none : Option ref25_Rails), 18) else .nxt ()) := by
        refine loop_c (L := fun k (_ : Unit) i => ref25_New.l1 xs k i) xs.length (fun i _ => ∀ j : Int, 0 ≤ j → j < i → ¬ 0 ≤ wk xs xs.length j)
          (fun o => o = some (if (ord xs.length (links xs)).length < xs.length then .out ((none : Option ref25_Rails), 18) else .nxt ())) ?_ ?_ FUEL 0 () (Nat.zero_le _) (FUEL_pos (by omega)) (fun j h0 h1 => absurd h1 (by omega))
        · intro k s i hi hI
          rw [ref25_New.l1, if_pos (by simp; omega)]
          have hq := fnew_l2 (by omega) hb xs.length FUEL (i : Int) (Nat.le_refl _) (FUEL_pos (by omega)) (by omega)
          rw [Nat.sub_self] at hq
          rw [show (0 : Int) = ((0 : Nat) : Int) from rfl, hq]
          rw [Option.bind_some]
          by_cases h0 : 0 ≤ wk xs xs.length i
          · rw [if_pos (by simpa using h0)]
            refine .inr ?_
            rw [if_pos ((wk_cycle (by omega) hb).1 ⟨i, by omega, by omega, h0⟩)]; rfl
          · rw [if_neg (by simpa using h0)]
            refine .inl ⟨(), ?_, by rw [Option.bind_some]; simp only [Fl.go]; rw [wi_succ (by omega)]⟩
            intro j j0 j1
            by_cases e : j = i
            · subst e; exact h0
            · exact hI j j0 (by omega)
        · intro k s hI
          rw [ref25_New.l1, if_neg (by simp), if_neg]
          intro hc
          obtain ⟨i, h0, h1, h2⟩ := (wk_cycle (by omega) hb).2 hc
          exact hI i h0 h1 h2
      rw [hl1]
      by_cases hc : (ord xs.length (links xs)).length < xs.length
      · rw [if_pos hc, if_pos hc, if_neg (by simp)]; rfl
      · rw [if_neg hc, if_neg hc, if_pos rfl]
        simp only [Option.bind_some, Fl.go]
        rw [app_ok (by simp; omega), Option.bind_some, mk_ok (by omega), Option.bind_some, Option.bind_some]; rfl

end Go.Proofs.Ytfiodhdldleocaa.Sim
