/-
  Two arrays of bytes that are the same are equal. No conditions.
-/
import Derived.Test.YtegajjpfcjfadaaDoorApp
import Derived.Stop.BytesEq
namespace Go.Proofs.YtegajjpfcjfadaaDoor

theorem run_equalIn_same {P : Program} (w : World) (d : Nat) (t e : TypeId) (n : Nat) (ht : P.underlying t = some (.array n e)) (he : P.underlying e = some (.int .u8)) (hsz : ∀ w, (sizeOf e).run P w = .ok 1 w) (f : Nat → Int) :
    (Op.equalIn (d + 2) t (.agg (rowArr n fun j => .int .u8 (f j))) (.agg (rowArr n fun j => .int .u8 (f j)))).run P w = .ok true w := by
  rw [Op.equalIn]
  simp only [Sem.run_bind, run_underlying ht, Result.andThen_ok, hsz, Std.Legacy.Range.forIn_eq_forIn_range', Std.Legacy.Range.size, Nat.sub_zero, Nat.add_sub_cancel, Nat.div_one]
  have hl : ∀ i ∈ List.range' 0 n 1, i < n := fun i hi => by simpa using (List.mem_range'_1.1 hi).2
  generalize List.range' 0 n 1 = l at hl ⊢
  induction l with
  | nil => simp
  | cons i l ih =>
    have hi : i < n := hl i (by simp)
    have px : (part e (rowArr n fun j => Value.int .u8 (f j)) (i * 1)).run P w = .ok (.int .u8 (f i)) w := by
      have hg := rowArr_get n (fun j => Value.int .u8 (f j)) i hi
      simp [part, isAgg, run_underlying he, hg]
    have pe : (Op.equalIn (d + 1) e (.int .u8 (f i)) (.int .u8 (f i))).run P w = .ok true w := by
      rw [run_equalIn_int w d e .u8 .u8 _ _ he]
      simp
    simp only [List.forIn_cons, Sem.run_bind, px, pe, Result.andThen_ok]
    simp only [Bool.not_true, Bool.false_eq_true, if_false, Sem.run_pure, Result.andThen_ok]
    exact ih fun j hj => hl j (by simp [hj])

theorem run_eql_same {P : Program} (w : World) (t e : TypeId) (n : Nat) (ht : P.underlying t = some (.array n e)) (he : P.underlying e = some (.int .u8)) (hsz : ∀ w, (sizeOf e).run P w = .ok 1 w) (f : Nat → Int) :
    (binOp .eql t (.agg (rowArr n fun j => .int .u8 (f j))) (.agg (rowArr n fun j => .int .u8 (f j)))).run P w = .ok (.bool true) w := by
  rw [run_eql_struct, run_equalIn_same w 9998 t e n ht he hsz f]
  rfl

theorem eql_hash (w : World) (f : Nat → Int) :
    (binOp .eql 26 (.agg (rowArr 32 fun j => .int .u8 (f j))) (.agg (rowArr 32 fun j => .int .u8 (f j)))).run Tryd.prog w = .ok (.bool true) w :=
  run_eql_same w 26 5 32 Tryd.underlying26 Tryd.underlying5 (fun _ => rfl) f

end Go.Proofs.YtegajjpfcjfadaaDoor
