/-
  Printed by a program of this session (wip/tools): plain functions with the same answers as the Go functions, and the proofs of it.
-/
import Derived.Test.YtfiodhdldleocaaSimH
namespace Go.Proofs.Ytfiodhdldleocaa.Sim
open Go
set_option linter.unusedVariables false
set_option linter.unusedSimpArgs false

structure api_Link where
  Consumer : Int
  Supplier : Int
deriving DecidableEq
def kd_api_Link : Kd api_Link := flat 2 (fun x => [.int .i64 x.Consumer, .int .i64 x.Supplier]) (fun _ => rfl) (fun x v hv => by
  simp only [List.mem_cons, List.not_mem_nil, or_false] at hv
  rcases hv with rfl | rfl <;> rfl)

structure depgraph_queue where
  q : List Int
def depgraph_queue_At (w : World) (g : Nat → Nat) (c : Nat) (b : Nat) (A_q : Option Addr) (cap_q : Nat) (st : depgraph_queue) : Prop :=
  Bx w g c b 88 [.slice A_q st.q.length cap_q] ∧ OwS (kint .i64) 3 w g (c + 1) A_q cap_q st.q
def depgraph_queue_Opt (w : World) (g : Nat → Nat) (c : Nat) (p : Option Addr) : Option depgraph_queue → Prop
  | none => p = none
  | some st => ∃ (b : Nat) (A_q : Option Addr) (cap_q : Nat), p = some ⟨b, 0, none⟩ ∧ depgraph_queue_At w g c b A_q cap_q st
theorem depgraph_queue_Opt.fr {M : Nat → Prop} {w w' : World} {g g' : Nat → Nat} {c : Nat} {p : Option Addr} {st : Option depgraph_queue} (h : depgraph_queue_Opt w g c p st) (F : Fr M w g w' g') (hc : ∀ q, c ≤ q → q < c + 3 → ¬ M q) : depgraph_queue_Opt w' g' c p st := by
  cases st with
  | none => exact h
  | some st =>
    obtain ⟨b, A_q, cap_q, e, h0, h1⟩ := h
    exact ⟨b, A_q, cap_q, e, Bx.fr h0 F (hc _ (Nat.le_refl _) (by omega)), OwS.fr h1 F (fun c' hc' => hc c' (by omega) (by omega))⟩
theorem depgraph_queue_Opt.isNone {w : World} {g : Nat → Nat} {c : Nat} {p : Option Addr} {st : Option depgraph_queue} (h : depgraph_queue_Opt w g c p st) : p.isNone = st.isNone := by
  cases st with
  | none => have e : p = none := h; rw [e]; rfl
  | some st => obtain ⟨b, A_q, cap_q, e, _⟩ := h; rw [e]; rfl

structure api_Rail where
  Supply : Int
  RampUp : Int
  RampDown : Int
deriving DecidableEq
def kd_api_Rail : Kd api_Rail := flat 3 (fun x => [.int .i64 x.Supply, .int .u64 x.RampUp, .int .u64 x.RampDown]) (fun _ => rfl) (fun x v hv => by
  simp only [List.mem_cons, List.not_mem_nil, or_false] at hv
  rcases hv with rfl | rfl | rfl <;> rfl)

structure api_RailOp where
  Rail : Int
  On : Bool
  Start : Int
  Done : Int
deriving DecidableEq
def kd_api_RailOp : Kd api_RailOp := flat 4 (fun x => [.int .i64 x.Rail, .bool x.On, .int .u64 x.Start, .int .u64 x.Done]) (fun _ => rfl) (fun x v hv => by
  simp only [List.mem_cons, List.not_mem_nil, or_false] at hv
  rcases hv with rfl | rfl | rfl | rfl <;> rfl)

structure rails_rail where
  Rail : api_Rail
  count : Int
  done : Int
deriving DecidableEq
def kd_rails_rail : Kd rails_rail := flat 5 (fun x => [.int .i64 x.Rail.Supply, .int .u64 x.Rail.RampUp, .int .u64 x.Rail.RampDown, .int .i64 x.count, .int .u64 x.done]) (fun _ => rfl) (fun x v hv => by
  simp only [List.mem_cons, List.not_mem_nil, or_false] at hv
  rcases hv with rfl | rfl | rfl | rfl | rfl <;> rfl)

structure rails_Rails where
  list : List rails_rail
  now : Int
def rails_Rails_At (w : World) (g : Nat → Nat) (c : Nat) (b : Nat) (A_list : Option Addr) (cap_list : Nat) (st : rails_Rails) : Prop :=
  Bx w g c b 70 [.slice A_list st.list.length cap_list, .int .u64 st.now] ∧ OwS kd_rails_rail 75 w g (c + 1) A_list cap_list st.list
def rails_Rails_Opt (w : World) (g : Nat → Nat) (c : Nat) (p : Option Addr) : Option rails_Rails → Prop
  | none => p = none
  | some st => ∃ (b : Nat) (A_list : Option Addr) (cap_list : Nat), p = some ⟨b, 0, none⟩ ∧ rails_Rails_At w g c b A_list cap_list st
theorem rails_Rails_Opt.fr {M : Nat → Prop} {w w' : World} {g g' : Nat → Nat} {c : Nat} {p : Option Addr} {st : Option rails_Rails} (h : rails_Rails_Opt w g c p st) (F : Fr M w g w' g') (hc : ∀ q, c ≤ q → q < c + 3 → ¬ M q) : rails_Rails_Opt w' g' c p st := by
  cases st with
  | none => exact h
  | some st =>
    obtain ⟨b, A_list, cap_list, e, h0, h1⟩ := h
    exact ⟨b, A_list, cap_list, e, Bx.fr h0 F (hc _ (Nat.le_refl _) (by omega)), OwS.fr h1 F (fun c' hc' => hc c' (by omega) (by omega))⟩
theorem rails_Rails_Opt.isNone {w : World} {g : Nat → Nat} {c : Nat} {p : Option Addr} {st : Option rails_Rails} (h : rails_Rails_Opt w g c p st) : p.isNone = st.isNone := by
  cases st with
  | none => have e : p = none := h; rw [e]; rfl
  | some st => obtain ⟨b, A_list, cap_list, e, _⟩ := h; rw [e]; rfl

structure ref25_Rails where
  R : List api_Rail
  N : List Int
  Done : List Int
  Clock : Int
def ref25_Rails_At (w : World) (g : Nat → Nat) (c : Nat) (b : Nat) (A_R : Option Addr) (cap_R : Nat) (A_N : Option Addr) (cap_N : Nat) (A_Done : Option Addr) (cap_Done : Nat) (st : ref25_Rails) : Prop :=
  Bx w g c b 41 [.slice A_R st.R.length cap_R, .slice A_N st.N.length cap_N, .slice A_Done st.Done.length cap_Done, .int .u64 st.Clock] ∧ OwS kd_api_Rail 35 w g (c + 1) A_R cap_R st.R ∧ OwS (kint .i64) 3 w g (c + 3) A_N cap_N st.N ∧ OwS (kint .u64) 33 w g (c + 5) A_Done cap_Done st.Done
def ref25_Rails_Opt (w : World) (g : Nat → Nat) (c : Nat) (p : Option Addr) : Option ref25_Rails → Prop
  | none => p = none
  | some st => ∃ (b : Nat) (A_R : Option Addr) (cap_R : Nat) (A_N : Option Addr) (cap_N : Nat) (A_Done : Option Addr) (cap_Done : Nat), p = some ⟨b, 0, none⟩ ∧ ref25_Rails_At w g c b A_R cap_R A_N cap_N A_Done cap_Done st
theorem ref25_Rails_Opt.fr {M : Nat → Prop} {w w' : World} {g g' : Nat → Nat} {c : Nat} {p : Option Addr} {st : Option ref25_Rails} (h : ref25_Rails_Opt w g c p st) (F : Fr M w g w' g') (hc : ∀ q, c ≤ q → q < c + 7 → ¬ M q) : ref25_Rails_Opt w' g' c p st := by
  cases st with
  | none => exact h
  | some st =>
    obtain ⟨b, A_R, cap_R, A_N, cap_N, A_Done, cap_Done, e, h0, h1, h2, h3⟩ := h
    exact ⟨b, A_R, cap_R, A_N, cap_N, A_Done, cap_Done, e, Bx.fr h0 F (hc _ (Nat.le_refl _) (by omega)), OwS.fr h1 F (fun c' hc' => hc c' (by omega) (by omega)), OwS.fr h2 F (fun c' hc' => hc c' (by omega) (by omega)), OwS.fr h3 F (fun c' hc' => hc c' (by omega) (by omega))⟩
theorem ref25_Rails_Opt.isNone {w : World} {g : Nat → Nat} {c : Nat} {p : Option Addr} {st : Option ref25_Rails} (h : ref25_Rails_Opt w g c p st) : p.isNone = st.isNone := by
  cases st with
  | none => have e : p = none := h; rw [e]; rfl
  | some st => obtain ⟨b, A_R, cap_R, A_N, cap_N, A_Done, cap_Done, e, _⟩ := h; rw [e]; rfl

structure law25_Call where
  Release : Bool
  Rail : Int
  Wait : Int
  Raw : Bool
deriving DecidableEq
def kd_law25_Call : Kd law25_Call := flat 4 (fun x => [.bool x.Release, .int .i64 x.Rail, .int .u64 x.Wait, .bool x.Raw]) (fun _ => rfl) (fun x v hv => by
  simp only [List.mem_cons, List.not_mem_nil, or_false] at hv
  rcases hv with rfl | rfl | rfl | rfl <;> rfl)


end Go.Proofs.Ytfiodhdldleocaa.Sim
