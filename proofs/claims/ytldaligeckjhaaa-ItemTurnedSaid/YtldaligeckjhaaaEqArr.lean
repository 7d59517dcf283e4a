/-
  Two arrays of integers: equal or not. No conditions.
-/
import Derived.Test.YtldaligeckjhaaaBase
import Derived.Stop.BytesEq
namespace Go.Proofs.Ytldaligeckjhaaa

theorem run_equalIn_arr {P : Program} (w : World) (d : Nat) (t e : TypeId) (n : Nat) (k : IntKind) (ht : P.underlying t = some (.array n e)) (he : P.underlying e = some (.int k)) (hsz : ∀ w, (sizeOf e).run P w = .ok 1 w) (f g : Nat → Int) :
    (Op.equalIn (d + 2) t (.agg (rowArr n fun j => .int k (f j))) (.agg (rowArr n fun j => .int k (g j)))).run P w = .ok (decide (∀ j, j < n → f j = g j)) w := by
  rw [Op.equalIn]
  simp only [Sem.run_bind, run_underlying ht, Result.andThen_ok, hsz, Std.Legacy.Range.forIn_eq_forIn_range', Std.Legacy.Range.size, Nat.sub_zero, Nat.add_sub_cancel, Nat.div_one]
  have hl : ∀ i ∈ List.range' 0 n 1, i < n := fun i hi => by simpa using (List.mem_range'_1.1 hi).2
  have hd : decide (∀ j, j < n → f j = g j) = decide (∀ j, j ∈ List.range' 0 n 1 → f j = g j) := by
    congr 1
    apply propext
    constructor
    · exact fun h j hj => h j (hl j hj)
    · exact fun h j hj => h j (List.mem_range'_1.2 ⟨by omega, by omega⟩)
  rw [hd]
  clear hd
  generalize List.range' 0 n 1 = l at hl ⊢
  induction l with
  | nil => simp
  | cons i l ih =>
    have hi : i < n := hl i (by simp)
    have px : (part e (rowArr n fun j => Value.int k (f j)) (i * 1)).run P w = .ok (.int k (f i)) w := by
      have hg := rowArr_get n (fun j => Value.int k (f j)) i hi
      simp [part, isAgg, run_underlying he, hg]
    have py : (part e (rowArr n fun j => Value.int k (g j)) (i * 1)).run P w = .ok (.int k (g i)) w := by
      have hg := rowArr_get n (fun j => Value.int k (g j)) i hi
      simp [part, isAgg, run_underlying he, hg]
    have pe : (Op.equalIn (d + 1) e (.int k (f i)) (.int k (g i))).run P w = .ok (f i == g i) w := run_equalIn_int w d e k k _ _ he
    simp only [List.forIn_cons, Sem.run_bind, px, py, pe, Result.andThen_ok]
    by_cases h : f i = g i
    · rw [beq_iff_eq.2 h]
      simp only [Bool.not_true, Bool.false_eq_true, if_false, Sem.run_pure, Result.andThen_ok]
      have e1 : decide (∀ j, j ∈ i :: l → f j = g j) = decide (∀ j, j ∈ l → f j = g j) := by
        congr 1
        apply propext
        constructor
        · exact fun h j hj => h j (List.mem_cons_of_mem _ hj)
        · intro h2 j hj
          rcases List.mem_cons.1 hj with rfl | hj
          · exact h
          · exact h2 j hj
      rw [e1]
      exact ih fun j hj => hl j (by simp [hj])
    · rw [beq_eq_false_iff_ne.2 h]
      simp only [Bool.not_false, if_true, Sem.run_pure, Result.andThen_ok]
      have e1 : decide (∀ j, j ∈ i :: l → f j = g j) = false := by
        rw [decide_eq_false_iff_not]
        exact fun h2 => h (h2 i (by simp))
      rw [e1]

theorem run_eql_arr {P : Program} (w : World) (t e : TypeId) (n : Nat) (k : IntKind) (ht : P.underlying t = some (.array n e)) (he : P.underlying e = some (.int k)) (hsz : ∀ w, (sizeOf e).run P w = .ok 1 w) (f g : Nat → Int) :
    (binOp .eql t (.agg (rowArr n fun j => .int k (f j))) (.agg (rowArr n fun j => .int k (g j)))).run P w = .ok (.bool (decide (∀ j, j < n → f j = g j))) w := by
  rw [run_eql_struct, run_equalIn_arr w 9998 t e n k ht he hsz f g]
  rfl

theorem run_neq_arr {P : Program} (w : World) (t e : TypeId) (n : Nat) (k : IntKind) (ht : P.underlying t = some (.array n e)) (he : P.underlying e = some (.int k)) (hsz : ∀ w, (sizeOf e).run P w = .ok 1 w) (f g : Nat → Int) :
    (binOp .neq t (.agg (rowArr n fun j => .int k (f j))) (.agg (rowArr n fun j => .int k (g j)))).run P w = .ok (.bool (!decide (∀ j, j < n → f j = g j))) w := by
  have h := run_equalIn_arr w 9998 t e n k ht he hsz f g
  simp only [binOp]
  simp [Op.equal, Op.maxDepth, h]

end Go.Proofs.Ytldaligeckjhaaa
