/-
  Arrays compared. No conditions.
-/
import Derived.Test.YtldaligeckjhaaaHdA
namespace Go.Proofs.Ytldaligeckjhaaa
open Go.ChangeShapes Go.WideShapes Go.ChangeAt Go.RowKit

/-- The first n of two functions are the same. -/
def arrB (n : Nat) (f g : Nat → Int) : Bool := decide (∀ j, j < n → f j = g j)
theorem eql_h (w : World) (f g : Nat → Int) : (binOp .eql 25 (.agg (rowArr 32 fun j => .int .u8 (f j))) (.agg (rowArr 32 fun j => .int .u8 (g j)))).run Try.prog w = .ok (.bool (arrB 32 f g)) w :=
  run_eql_arr w 25 5 32 .u8 Try.underlying25 Try.underlying5 size_u8 f g
theorem neq_h (w : World) (f g : Nat → Int) : (binOp .neq 25 (.agg (rowArr 32 fun j => .int .u8 (f j))) (.agg (rowArr 32 fun j => .int .u8 (g j)))).run Try.prog w = .ok (.bool (!arrB 32 f g)) w :=
  run_neq_arr w 25 5 32 .u8 Try.underlying25 Try.underlying5 size_u8 f g
theorem eql_t (w : World) (f g : Nat → Int) : (binOp .eql 27 (.agg (rowArr 16 fun j => .int .u8 (f j))) (.agg (rowArr 16 fun j => .int .u8 (g j)))).run Try.prog w = .ok (.bool (arrB 16 f g)) w :=
  run_eql_arr w 27 5 16 .u8 Try.underlying27 Try.underlying5 size_u8 f g
theorem neq_t (w : World) (f g : Nat → Int) : (binOp .neq 27 (.agg (rowArr 16 fun j => .int .u8 (f j))) (.agg (rowArr 16 fun j => .int .u8 (g j)))).run Try.prog w = .ok (.bool (!arrB 16 f g)) w :=
  run_neq_arr w 27 5 16 .u8 Try.underlying27 Try.underlying5 size_u8 f g
set_option maxRecDepth 100000 in
theorem size_u64 (w : World) : (sizeOf 23).run Try.prog w = .ok 1 w := by kernel_rfl
theorem eql_k (w : World) (f g : Nat → Int) : (binOp .eql 29 (.agg (rowArr 6 fun j => .int .u64 (f j))) (.agg (rowArr 6 fun j => .int .u64 (g j)))).run Try.prog w = .ok (.bool (arrB 6 f g)) w :=
  run_eql_arr w 29 23 6 .u64 Try.underlying29 Try.underlying23 size_u64 f g

end Go.Proofs.Ytldaligeckjhaaa
