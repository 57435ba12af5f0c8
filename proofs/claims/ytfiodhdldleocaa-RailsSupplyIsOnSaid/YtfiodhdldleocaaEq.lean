/-
  Printed by a program of this session (wip/tools): plain functions with the same answers as the Go functions, and the proofs of it.
-/
import Derived.Test.YtfiodhdldleocaaProg
import Derived.Test.YtfiodhdldleocaaTy
namespace Go.Proofs.Ytfiodhdldleocaa.Sim
open Go
set_option linter.unusedVariables false
set_option linter.unusedSimpArgs false

theorem eqP_api_Link (X Y : api_Link) : ((X.Consumer == Y.Consumer) && (X.Supplier == Y.Supplier)) = decide (X = Y) := by
  cases X; cases Y
  apply Bool.eq_iff_iff.2
  simp
theorem eqF_api_Link (X Y : api_Link) (w : World) : (Op.equalIn 10000 73 (.agg #[.int .i64 X.Consumer, .int .i64 X.Supplier]) (.agg #[.int .i64 Y.Consumer, .int .i64 Y.Supplier])).run Try.prog w = .ok (decide (X = Y)) w := by
  rw [← eqP_api_Link]
  exact eqA_of Try.underlying73 (by kernel_rfl) (eqf_cons rfl (by kernel_rfl) (by kernel_rfl) (run_equalIn_int _ 9998 _ .i64 .i64 _ _ (by kernel_rfl)) (eqf_last rfl (by kernel_rfl) (by kernel_rfl) (run_equalIn_int _ 9998 _ .i64 .i64 _ _ (by kernel_rfl))))
def enc_api_Link (x : api_Link) : Value := .agg #[.int .i64 x.Consumer, .int .i64 x.Supplier]
theorem key_api_Link : KeyOk Try.prog 73 enc_api_Link where
  st := ⟨_, Try.underlying73⟩
  eq := fun x y w => eqF_api_Link x y w
  ck := fun b x w => by kernel_rfl

theorem eqP_api_RailOp (X Y : api_RailOp) : ((X.Rail == Y.Rail) && ((X.On == Y.On) && ((X.Start == Y.Start) && (X.Done == Y.Done)))) = decide (X = Y) := by
  cases X; cases Y
  apply Bool.eq_iff_iff.2
  simp
theorem eqF_api_RailOp (X Y : api_RailOp) (w : World) : (Op.equalIn 10000 50 (.agg #[.int .i64 X.Rail, .bool X.On, .int .u64 X.Start, .int .u64 X.Done]) (.agg #[.int .i64 Y.Rail, .bool Y.On, .int .u64 Y.Start, .int .u64 Y.Done])).run Try.prog w = .ok (decide (X = Y)) w := by
  rw [← eqP_api_RailOp]
  exact eqA_of Try.underlying50 (by kernel_rfl) (eqf_cons rfl (by kernel_rfl) (by kernel_rfl) (run_equalIn_int _ 9998 _ .i64 .i64 _ _ (by kernel_rfl)) (eqf_cons rfl (by kernel_rfl) (by kernel_rfl) (run_equalIn_bool' _ 9998 _ _ _ (by kernel_rfl)) (eqf_cons rfl (by kernel_rfl) (by kernel_rfl) (run_equalIn_int _ 9998 _ .u64 .u64 _ _ (by kernel_rfl)) (eqf_last rfl (by kernel_rfl) (by kernel_rfl) (run_equalIn_int _ 9998 _ .u64 .u64 _ _ (by kernel_rfl))))))
def enc_api_RailOp (x : api_RailOp) : Value := .agg #[.int .i64 x.Rail, .bool x.On, .int .u64 x.Start, .int .u64 x.Done]
theorem key_api_RailOp : KeyOk Try.prog 50 enc_api_RailOp where
  st := ⟨_, Try.underlying50⟩
  eq := fun x y w => eqF_api_RailOp x y w
  ck := fun b x w => by kernel_rfl


end Go.Proofs.Ytfiodhdldleocaa.Sim
