/-
  Steps of the walk: a string's bytes, bytes as a string, bytes as an array of 32. No conditions but lengths.
-/
import Derived.Test.YtppidlpblkihbaaDoorExp
import Derived.Lib.ConvBytes
import Derived.Laws.IdiomStrings
namespace Go.Proofs.YtppidlpblkihbaaDoor
open Go.ChangeShapes Go.WideShapes Go.ChangeAt Go.RowKit

/-- A string's bytes, as numbers. -/
def strB (s : ByteArray) : List Int := s.data.toList.map fun b => (b.toNat : Int)
theorem strB_length (s : ByteArray) : (strB s).length = s.size := by simp [strB]
theorem strB_byte (s : ByteArray) : ∀ x ∈ strB s, 0 ≤ x ∧ x < 256 := by
  intro x hx
  obtain ⟨b, _, rfl⟩ := List.mem_map.1 hx
  have := b.toNat_lt
  omega
/-- The string of some bytes. -/
def strOf (xs : List Int) : ByteArray := ⟨(u8s xs).toArray⟩

theorem strB_strOf {xs : List Int} (h : ∀ x ∈ xs, 0 ≤ x ∧ x < 256) : strB (strOf xs) = xs := by
  unfold strB strOf u8s Lib.bytesOf
  refine List.ext_getElem (by simp) fun i h1 h2 => ?_
  simp only [List.getElem_map]
  have := h xs[i] (List.getElem_mem h2)
  rw [UInt8.toNat_ofNat']
  omega

theorem conv_bs {w : World} {ops : Array Oper} {rest : List Oper} {o : Oper} {a : Act} {Q : Exit → Act → World → Prop} (hgd : o.guard = none) (x : Operand) (ho : o.op = .convert 9 41 x)
    (s : ByteArray) (hx : a.eval x = .string s) (hsz : s.size ≤ 70368744177664)
    (h : ∀ c w', BsAt w' (some ⟨w.heap.size, 0, none⟩) s.size c (strB s) → Ext w w' → wpList Tryd.prog ops Q rest (a.put o.dst (.slice (some ⟨w.heap.size, 0, none⟩) s.size c)) w') : wpList Tryd.prog ops Q (o :: rest) a w := by
  refine wpList_plain hgd fun K hK => ?_
  have hrun := Lib.run_convert_string_bytes (P := Tryd.prog) w 9 41 5 s Tryd.underlying9 Tryd.underlying41 Tryd.underlying5
  unfold Oper.wp
  simp [execOp, ho, hx, hrun, Result.andThen]
  refine hK _ _ (h _ _ ?_ ?_)
  · have hc1 := grownCap_ge w s.size 0 5
    have hc2 := grownCap_le_maxLen w s.size 0 5 (by unfold maxLen; omega)
    refine ⟨strB_length s, hc1, by unfold maxLen at hc2; omega, by omega, strB_byte s, fun _ => ⟨w.heap.size, 0, rfl, fun i hi => ?_⟩, fun h => by cases h⟩
    rw [Nat.zero_add, Lib.bytesWorld_cell w 5 s i hi]
    have hi' : i < s.data.toList.length := by simpa using hi
    unfold strB
    rw [List.getD_eq_getElem?_getD, List.getD_eq_getElem?_getD, List.getElem?_map, List.getElem?_eq_getElem hi']
    rfl
  · exact ⟨rfl, rfl, rfl, by rw [Lib.bytesWorld_size]; omega, fun k hk => Lib.bytesWorld_at_old w _ s k hk⟩

theorem conv_str {w : World} {ops : Array Oper} {rest : List Oper} {o : Oper} {a : Act} {Q : Exit → Act → World → Prop} (hgd : o.guard = none) (x : Operand) (ho : o.op = .convert 41 9 x)
    (src : Option Addr) (n c : Nat) (xs : List Int) (hx : a.eval x = .slice src n c) (hb : BsAt w src n c xs)
    (h : wpList Tryd.prog ops Q rest (a.put o.dst (.string (strOf xs))) w) : wpList Tryd.prog ops Q (o :: rest) a w := by
  refine wpList_plain hgd fun K hK => ?_
  have hlen := hb.len
  have hrun : (convert 41 9 (.slice src n c)).run Tryd.prog w = .ok (.string (strOf xs)) w := by
    cases src with
    | none =>
      have h0 := hb.nil_ rfl
      have h1 := hb.cap
      obtain rfl : n = 0 := by omega
      obtain rfl : xs = [] := List.eq_nil_of_length_eq_zero hlen
      rw [run_convert_bytes_string w 41 9 5 none 0 c Tryd.underlying41 Tryd.underlying5 Tryd.underlying9]
      rfl
    | some ad =>
      have := run_convert_bytes_back (P := Tryd.prog) w 41 9 5 ad c (u8s xs) Tryd.underlying41 Tryd.underlying5 Tryd.underlying9 (fun j hj => by
        obtain ⟨hi, he⟩ := u8s_get xs hb.byte j _ (List.getElem?_eq_getElem hj)
        have h1 := hb.news j (.int .u8 (xs.getD j 0)) (by
          unfold bv
          rw [List.getElem?_map, List.getElem?_eq_getElem hi, List.getD_eq_getElem?_getD, List.getElem?_eq_getElem hi]
          rfl)
        rw [h1, he])
      rw [u8s_length, hlen] at this
      exact this
  unfold Oper.wp
  simp [execOp, ho, hx, hrun, Result.andThen]
  exact hK _ _ h

theorem rowArr_toList (n : Nat) (f : Nat → Value) : (rowArr n f).toList = (List.range n).map f := rfl

/-- An array loaded out of bytes. -/
theorem load_bs {w : World} {ops : Array Oper} {rest : List Oper} {o : Oper} {a : Act} {Q : Exit → Act → World → Prop} (hgd : o.guard = none) (T : TypeId) (N : Nat) (x : Operand) (ho : o.op = .load T x)
    (hu : Tryd.prog.underlying T = some (.array N 5)) (hi : (Tryd.prog.info? T).map (·.size) = some N)
    (ad : Addr) (n c : Nat) (xs : List Int) (hx : a.eval x = .pointer (some ad)) (hb : BsAt w (some ad) n c xs) (hn : N ≤ n)
    (h : wpList Tryd.prog ops Q rest (a.put o.dst (.agg (rowArr N fun j => .int .u8 (xs.getD j 0)))) w) : wpList Tryd.prog ops Q (o :: rest) a w := by
  refine wpList_plain hgd fun K hK => ?_
  have hlen := hb.len
  have hl : (loadCells ad N).run Tryd.prog w = .ok (rowArr N fun j => .int .u8 (xs.getD j 0)) w := by
    have h1 := run_loadCells_list (P := Tryd.prog) w ad ((List.range N).map fun j => Value.int .u8 (xs.getD j 0)) (fun j v hv => by
      have hj : j < N := by
        have := (List.getElem?_eq_some_iff.1 hv).1
        simpa using this
      rw [List.getElem?_map, List.getElem?_range hj] at hv
      obtain rfl := Option.some.inj hv
      refine hb.news j _ ?_
      unfold bv
      rw [List.getElem?_map, List.getElem?_eq_getElem (by omega)]
      simp [List.getD_eq_getElem?_getD, List.getElem?_eq_getElem (show j < xs.length by omega)])
    rw [List.length_map, List.length_range] at h1
    exact h1
  cases hq : Tryd.prog.info? T with
  | none => simp [hq] at hi
  | some i =>
    have hs : i.size = N := by simpa [hq] using hi
    have hagg : (isAgg T).run Tryd.prog w = .ok true w := by
      unfold isAgg
      rw [Sem.run_bind, run_underlying hu w]
      rfl
    have hv : (loadVar T ad).run Tryd.prog w = .ok (.agg (rowArr N fun j => .int .u8 (xs.getD j 0))) w := by
      simp [loadVar, Sem.run_bind, hagg, sizeOf, typeInfo, hq, hs, hl]
    unfold Oper.wp execOp
    simp only [ho, hx, Instr.loadAt, Instr.sureAddr, Sem.run_bind, Sem.run_pure, Result.andThen_ok, hv]
    exact hK _ _ h

theorem run_arrayAt_hash (w : World) (a : Option Addr) (n c : Nat) (h : 32 ≤ n) : (Instr.arrayAt 23 (.slice a n c)).run Tryd.prog w = .ok (.pointer a) w := by
  have h' : ¬ n < 32 := by omega
  simp [Instr.arrayAt, run_underlying Tryd.underlying23, h']

set_option maxRecDepth 100000 in
theorem derive_any (f : Nat → Int) (hf : ∀ j, j < 32 → 0 ≤ f j ∧ f j < 256) (s : ByteArray) (w : World) (hs : s.size ≤ 17179869184) (hk : KsAt 1 w) :
    Calls Tryd.prog 39 #[.agg (rowArr 32 fun j => .int .u8 (f j)), .string s] w fun e w' => e = .returned (.agg (rowArr 32 fun j => .int .u8 ((expandL (l32 f) (strB s) 32).getD j 0))) ∧ Ext w w' := by
  have HK := Lib.hid hk
  have Hf := Lib.hid hf
  clear hk hf
  have karr := fun (w : World) (a : Option Addr) (c : Nat) => run_arrayAt_hash w a 32 c (Nat.le_refl _)
  go_enter Tryd.func39, Tryd.ntmps39
  go_upto_region 1 with (fail)
  obtain ⟨w1, hw1⟩ : ∃ w1, w.alloc (.cells (rowArr 32 fun j => .int .u8 (f j)) 23) = w1 := ⟨_, rfl⟩
  have hE1 : Ext w w1 := by rw [← hw1]; exact (Ext.refl w).alloc _
  have hR1 : w1.rowIs w.heap.size 23 32 (fun j => .int .u8 (f j)) := by rw [← hw1]; exact rowIs_of (heap_new w _ _ rfl)
  have hs1 : w1.heap.size = w.heap.size + 1 := by rw [← hw1]; simp
  obtain ⟨w2, hw2⟩ : ∃ w2, w1.alloc (.cells (Array.replicate 32 (.int .u8 0)) 23) = w2 := ⟨_, rfl⟩
  have hE2 : Ext w w2 := by rw [← hw2]; exact hE1.alloc _
  have hR2 : w2.rowIs w.heap.size 23 32 (fun j => .int .u8 (f j)) := by rw [← hw2]; exact hR1.alloc _
  have hZ2 : w2.rowIs (w.heap.size + 1) 23 32 (fun _ => .int .u8 0) := by
    have := start_zero32 23 w1
    rwa [hs1, hw2] at this
  have hs2 : w.heap.size + 1 < w2.heap.size := hZ2.lt
  refine wp_world (w' := w2) (by rw [← hw2, ← hw1]; rfl) ?_
  have HK2 := Lib.hid (HK.out.ext' hE2)
  have HE2 := Lib.hid hE2
  have HR2 := Lib.hid (rowIs_cells hR2)
  have HZ2 := Lib.hid hZ2
  clear hw1 hE1 hR1 hs1 hw2 hE2 hR2 hZ2
  go_wp2_with (first | (refine wpList_load_row rfl 23 _ rfl w.heap.size rfl _ _ _ _ HR2.out Tryd.underlying23 rfl (by kernel_rfl) ?_) | (refine conv_bs rfl (.tmp 9) rfl s rfl (by omega) ?_))
  intro c w3 hB3 hE3
  have hex := expand_any f Hf.out _ _ _ (strB s) 32 w3 hB3 (by omega) (by omega) (HK2.out.ext' hE3)
  rw [show ((32 : Nat) : Int) = 32 from rfl] at hex
  have HX := Lib.hid hex
  have HE3 := Lib.hid (HE2.out.trans hE3)
  have HZ3 := Lib.hid (HZ2.out.of_block (hE3.block hs2))
  have hs3 : w.heap.size + 1 < w3.heap.size := HZ3.out.lt
  clear hB3 hE3 hex HR2 HZ2 HE2 HK2
  go_wp2_with fail
  refine HX.out.mono ?_
  rintro e w4 ⟨v, rfl, hv, hE4⟩
  obtain ⟨a4, rfl, hB4, -⟩ := hv
  obtain ⟨g, off, rfl, -⟩ := hB4.at_ (by omega)
  obtain ⟨xs, hxs⟩ : ∃ xs, expandL (l32 f) (strB s) 32 = xs := ⟨_, rfl⟩
  rw [hxs] at hB4
  have Hxs := Lib.hid hxs
  have HB4 := Lib.hid hB4
  have HE4 := Lib.hid (HE3.out.trans hE4)
  have Hz := Lib.hid (rowIs_cells (HZ3.out.of_block (hE4.block hs3)))
  clear hB4 hE4 hxs HX HE3 HZ3
  go_wp2_with (first | (refine load_bs rfl 23 32 _ rfl Tryd.underlying23 (by kernel_rfl) ⟨g, off, none⟩ 32 32 xs rfl HB4.out (Nat.le_refl _) ?_) | (refine wpList_store_row rfl 23 _ _ rfl _ _ rfl rfl _ _ Hz.out (by kernel_rfl) (by rw [rowArr_size, rowArr_size]) (rowArr_one fun _ _ => rfl) ?_))
  refine bodyPost_ret (results_cell_row rfl _ _ (w.heap.size + 1) _ _ _ _ rfl (setRow_heap w4 (w.heap.size + 1) _ _ _ _ Hz.out) Tryd.underlying23 rfl (by kernel_rfl)) rfl ⟨by rw [Hxs.out], ?_⟩
  exact below_setRow HE4.out (by omega) _

end Go.Proofs.YtppidlpblkihbaaDoor
