/-
  Printed by a program of this session (wip/tools): plain functions with the same answers as the Go functions, and the proofs of it.
-/
import Derived.Test.YtphgandhncmaoaaProg
import Derived.Test.YtphgandhncmaoaaTy
namespace Go.Proofs.Ytphgandhncmaoaa.Sim
open Go
set_option linter.unusedVariables false
set_option linter.unusedSimpArgs false

theorem eqP_api_Link (X Y : api_Link) : ((X.Consumer == Y.Consumer) && (X.Supplier == Y.Supplier)) = decide (X = Y) := by
  cases X; cases Y
  apply Bool.eq_iff_iff.2
  simp
theorem eqF_api_Link (X Y : api_Link) (w : World) : (Op.equalIn 10000 34 (.agg #[.int .i64 X.Consumer, .int .i64 X.Supplier]) (.agg #[.int .i64 Y.Consumer, .int .i64 Y.Supplier])).run Try.prog w = .ok (decide (X = Y)) w := by
  rw [← eqP_api_Link]
  exact eqA_of Try.underlying34 (by kernel_rfl) (eqf_cons rfl (by kernel_rfl) (by kernel_rfl) (run_equalIn_int _ 9998 _ .i64 .i64 _ _ (by kernel_rfl)) (eqf_last rfl (by kernel_rfl) (by kernel_rfl) (run_equalIn_int _ 9998 _ .i64 .i64 _ _ (by kernel_rfl))))
def enc_api_Link (x : api_Link) : Value := .agg #[.int .i64 x.Consumer, .int .i64 x.Supplier]
theorem key_api_Link : KeyOk Try.prog 34 enc_api_Link where
  st := ⟨_, Try.underlying34⟩
  eq := fun x y w => eqF_api_Link x y w
  ck := fun b x w => by kernel_rfl


end Go.Proofs.Ytphgandhncmaoaa.Sim
