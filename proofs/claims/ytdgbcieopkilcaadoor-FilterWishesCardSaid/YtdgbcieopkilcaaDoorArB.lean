/-
  Arrays compared. No conditions.
-/
import Derived.Test.YtdgbcieopkilcaaDoorHdA
namespace Go.Proofs.YtdgbcieopkilcaaDoor
open Go.ChangeShapes Go.WideShapes Go.ChangeAt Go.RowKit

/-- The first n of two functions are the same. -/
def arrB (n : Nat) (f g : Nat → Int) : Bool := decide (∀ j, j < n → f j = g j)
theorem eql_h (w : World) (f g : Nat → Int) : (binOp .eql 23 (.agg (rowArr 32 fun j => .int .u8 (f j))) (.agg (rowArr 32 fun j => .int .u8 (g j)))).run Tryd.prog w = .ok (.bool (arrB 32 f g)) w :=
  run_eql_arr w 23 5 32 .u8 Tryd.underlying23 Tryd.underlying5 size_u8 f g
theorem neq_h (w : World) (f g : Nat → Int) : (binOp .neq 23 (.agg (rowArr 32 fun j => .int .u8 (f j))) (.agg (rowArr 32 fun j => .int .u8 (g j)))).run Tryd.prog w = .ok (.bool (!arrB 32 f g)) w :=
  run_neq_arr w 23 5 32 .u8 Tryd.underlying23 Tryd.underlying5 size_u8 f g
theorem eql_t (w : World) (f g : Nat → Int) : (binOp .eql 35 (.agg (rowArr 16 fun j => .int .u8 (f j))) (.agg (rowArr 16 fun j => .int .u8 (g j)))).run Tryd.prog w = .ok (.bool (arrB 16 f g)) w :=
  run_eql_arr w 35 5 16 .u8 Tryd.underlying35 Tryd.underlying5 size_u8 f g
theorem neq_t (w : World) (f g : Nat → Int) : (binOp .neq 35 (.agg (rowArr 16 fun j => .int .u8 (f j))) (.agg (rowArr 16 fun j => .int .u8 (g j)))).run Tryd.prog w = .ok (.bool (!arrB 16 f g)) w :=
  run_neq_arr w 35 5 16 .u8 Tryd.underlying35 Tryd.underlying5 size_u8 f g
set_option maxRecDepth 100000 in
theorem size_u64 (w : World) : (sizeOf 45).run Tryd.prog w = .ok 1 w := by kernel_rfl
theorem eql_k (w : World) (f g : Nat → Int) : (binOp .eql 46 (.agg (rowArr 6 fun j => .int .u64 (f j))) (.agg (rowArr 6 fun j => .int .u64 (g j)))).run Tryd.prog w = .ok (.bool (arrB 6 f g)) w :=
  run_eql_arr w 46 45 6 .u64 Tryd.underlying46 Tryd.underlying45 size_u64 f g

end Go.Proofs.YtdgbcieopkilcaaDoor
