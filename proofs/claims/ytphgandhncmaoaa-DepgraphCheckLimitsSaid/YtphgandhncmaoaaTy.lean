/-
  Printed by a program of this session (wip/tools): plain functions with the same answers as the Go functions, and the proofs of it.
-/
import Derived.Test.YtphgandhncmaoaaSimH
namespace Go.Proofs.Ytphgandhncmaoaa.Sim
open Go
set_option linter.unusedVariables false
set_option linter.unusedSimpArgs false

structure api_Link where
  Consumer : Int
  Supplier : Int
deriving DecidableEq
def kd_api_Link : Kd api_Link := flat 2 (fun x => [.int .i64 x.Consumer, .int .i64 x.Supplier]) (fun _ => rfl) (fun x v hv => by
  simp only [List.mem_cons, List.not_mem_nil, or_false] at hv
  rcases hv with rfl | rfl <;> rfl)

structure depgraph_queue where
  q : List Int
def depgraph_queue_At (w : World) (g : Nat → Nat) (c : Nat) (b : Nat) (A_q : Option Addr) (cap_q : Nat) (st : depgraph_queue) : Prop :=
  Bx w g c b 68 [.slice A_q st.q.length cap_q] ∧ OwS (kint .i64) 3 w g (c + 1) A_q cap_q st.q


end Go.Proofs.Ytphgandhncmaoaa.Sim
