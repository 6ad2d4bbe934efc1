/- Function values against nil: what a comparison of one tells. -/
import Derived.Test.YtaddjigmdeejlaaOwn
namespace Go.Proofs.Ytaddjigmdeejlaa
open Go.RowKit Go.Ss
theorem run_eql_fn_a (k : Nat) (x y : Array Value) (w : World) : (binOp .eql 45 (.func (.func k) x y) .nilFunc).run Try.prog w = .ok (.bool false) w := by kernel_rfl
theorem run_eql_nilfn_a (w : World) : (binOp .eql 45 .nilFunc .nilFunc).run Try.prog w = .ok (.bool true) w := by kernel_rfl
theorem run_neq_fn_a (k : Nat) (x y : Array Value) (w : World) : (binOp .neq 45 (.func (.func k) x y) .nilFunc).run Try.prog w = .ok (.bool true) w := by kernel_rfl
theorem run_neq_nilfn_a (w : World) : (binOp .neq 45 .nilFunc .nilFunc).run Try.prog w = .ok (.bool false) w := by kernel_rfl
theorem run_eql_fn_b (k : Nat) (x y : Array Value) (w : World) : (binOp .eql 86 (.func (.func k) x y) .nilFunc).run Try.prog w = .ok (.bool false) w := by kernel_rfl
theorem run_eql_nilfn_b (w : World) : (binOp .eql 86 .nilFunc .nilFunc).run Try.prog w = .ok (.bool true) w := by kernel_rfl
theorem run_neq_fn_b (k : Nat) (x y : Array Value) (w : World) : (binOp .neq 86 (.func (.func k) x y) .nilFunc).run Try.prog w = .ok (.bool true) w := by kernel_rfl
theorem run_neq_nilfn_b (w : World) : (binOp .neq 86 .nilFunc .nilFunc).run Try.prog w = .ok (.bool false) w := by kernel_rfl
attribute [go_sem high] run_eql_fn_a run_eql_nilfn_a run_neq_fn_a run_neq_nilfn_a run_eql_fn_b run_eql_nilfn_b run_neq_fn_b run_neq_nilfn_b
end Go.Proofs.Ytaddjigmdeejlaa
