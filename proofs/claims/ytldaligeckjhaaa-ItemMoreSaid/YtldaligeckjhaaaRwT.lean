/-
  The walk of item.latest. No conditions but the length.
  The latest of rows is one of them, or the blank one. No conditions.
-/
import Derived.Test.YtldaligeckjhaaaRwL
namespace Go.Proofs.Ytldaligeckjhaaa
open Go.ChangeAt Go.ChangeShapes Go.RowKit Go.WideShapes

set_option maxRecDepth 100000 in
theorem build_row0 (w : World) : (Instr.build 36 #[]).run Try.prog w = .ok (.agg (rwV rwN)) w := by kernel_rfl
theorem wp_build_row0 {ops : Array Oper} {Q : Exit → Act → World → Prop} {rest : List Oper} {o : Oper} {a : Act} {w : World} (hgd : o.guard = none) (ho : o.op = .build 36 #[]) (A : Array Value) (hA : rwV rwN = A) (h : wpList Try.prog ops Q rest (a.put o.dst (.agg A)) w) : wpList Try.prog ops Q (o :: rest) a w := by
  subst hA
  refine wpList_plain hgd fun K hK => ?_
  unfold Oper.wp execOp
  simp only [ho, List.map_toArray, List.map_nil, Sem.run_bind, build_row0, Result.andThen_ok, Sem.run_pure]
  exact hK _ _ h
set_option maxRecDepth 100000 in
theorem idxR_nil (gb : Nat) (w : World) : Calls Try.prog 99 #[.slice none 0 0, .func (.func 81) #[] #[.pointer (some ⟨gb, 0, none⟩)]] w fun e w' => e = .returned (.int .i64 (-1)) ∧ Ext w w' := by
  go_enter Try.func99, Try.ntmps99
  go_wp2
  go_loopw [8] (fun i wr => i = .int .i64 0 ∧ wr = w) (fun _ _ => 0)
  case atStart => exact ⟨rfl, rfl⟩
  case round =>
    obtain ⟨rfl, rfl⟩ := hrel
    go_wp2
    go_ret
    exact ⟨rfl, Ext.refl _⟩
set_option maxRecDepth 100000 in
theorem delR_nil (gb : Nat) (w : World) : Calls Try.prog 79 #[.slice none 0 0, .func (.func 81) #[] #[.pointer (some ⟨gb, 0, none⟩)]] w fun e w' => e = .returned (.slice none 0 0) ∧ Ext w w' := by
  have HI := Lib.hid (idxR_nil gb w)
  go_enter Try.func79, Try.ntmps79
  go_upto_region 1 with (fail)
  go_wp2_with fail
  refine HI.out.mono ?_
  rintro e w2 ⟨rfl, hE⟩
  have HE := Lib.hid hE
  clear hE HI
  go_wp2
  go_ret
  exact ⟨rfl, HE.out⟩

/-- What latest answers, of the rows that it looks at. -/
def LatSays (w : World) (fs : List Rw) (e : Ending) (w' : World) : Prop := Ext w w' ∧ e = .returned (.tuple #[.agg (rwV (maxN fs fs.length)), .bool (decide (0 < fs.length))])
theorem lat_box (w : World) (F : FuncId) (Z : Array Value) : ∃ w2, (w.alloc (.cells #[.func (.func F) #[] #[]] 39)).alloc (.cells Z 36) = w2 ∧ Ext w w2 ∧ w2.heap[w.heap.size]? = some (.cells #[.func (.func F) #[] #[]] 39 (0, 0)) ∧ w2.heap[w.heap.size + 1]? = some (.cells Z 36 (0, 0)) := by
  refine ⟨_, rfl, ((Ext.refl w).alloc _).alloc _, ?_, ?_⟩
  · exact Ext.keep ((Ext.refl (w.alloc (.cells #[.func (.func F) #[] #[]] 39))).alloc _) (heap_new w _ _ rfl)
  · exact heap_new _ _ _ (by simp)
/-- What a function says of rows. -/
def Says (F : FuncId) (p : Rw → Bool) : Prop := (∀ (args : Array Value) (y : World), (callFunc F args).run Try.prog y = .ok (.enter F args) y) ∧ ∀ (r : Rw) (y : World), Calls Try.prog F #[.agg (rwV r)] y fun e w' => e = .returned (.bool (p r)) ∧ Ext y w'

set_option maxHeartbeats 2000000 in
set_option maxRecDepth 100000 in
theorem latest_any (F : FuncId) (p : Rw → Bool) (hF : Says F p) (a : Option Addr) (n c : Nat) (l : List Rw) (w : World) (h : RwsAt w a n c l) (hs : n ≤ 100000) :
    Calls Try.prog 58 #[.slice a n c, .func (.func F) #[] #[]] w (LatSays w (l.filter p)) := by
  have hzr := rw_zero
  obtain ⟨ZR, hZR⟩ : ∃ Z, rwV rwN = Z := ⟨_, rfl⟩
  have HZR := Lib.hid hZR
  have HZs := Lib.hid (show ZR.size = 130 ∧ ZR.all (·.oneCell') = true by rw [← hZR]; exact ⟨rwV_size _, rwV_one _⟩)
  rw [hZR] at hzr
  obtain ⟨w2, hw2, hE2, hB2, hZ2⟩ := lat_box w F ZR
  obtain ⟨S, hS⟩ : ∃ S, w.heap.size = S := ⟨_, rfl⟩
  have HS := Lib.hid hS
  rw [hS] at hB2 hZ2
  have HCl := Lib.hid (rwClone_any a n c l w2 (h.ext hE2) (by omega))
  have Hw2 := Lib.hid hw2
  have HE2 := Lib.hid hE2
  have HB2 := Lib.hid hB2
  have HZ2 := Lib.hid hZ2
  have HF := Lib.hid hF
  have Hl := Lib.hid h.len
  have hmf : ∀ (fn : Fn) (first cap : Array Value) (w : World), (Instr.makeFunc fn first cap).run Try.prog w = .ok (.func fn first cap) w := fun _ _ _ _ => rfl
  have hs2 : S + 1 < w2.heap.size := (Array.getElem?_eq_some_iff.1 hZ2).1
  clear hw2 hE2 hB2 hZ2 h hZR hS hF
  go_enter Try.func58, Try.ntmps58
  go_upto_region 1 with (fail)
  refine wp_world (w' := w2) Hw2.out ?_
  rw [HS.out]
  clear Hw2
  go_wp2_with fail
  refine HCl.out.mono ?_
  rintro e w3 ⟨v, rfl, hown, hE3⟩
  obtain ⟨a3, c3, rfl⟩ := own_rwsl hown
  have HO := Lib.hid hown
  have HE3 := Lib.hid hE3
  have HZ3 := Lib.hid (hE3.keep HZ2.out)
  have HB3 := Lib.hid (hE3.keep HB2.out)
  clear hE3 HCl
  have hcase : (a3 = none ∧ n = 0 ∧ c3 = 0) ∨ ∃ g, a3 = some ⟨g, 0, none⟩ ∧ w2.heap.size ≤ g := by
    rcases hown.2 with ⟨e, h0⟩ | ⟨g, cap, cur, e, hb, _⟩
    · simp only [Value.slice.injEq] at e
      exact .inl ⟨e.1, h0, e.2.2⟩
    · simp only [Value.slice.injEq] at e
      exact .inr ⟨g, e.1, hb⟩
  clear hown
  rcases hcase with ⟨rfl, rfl, rfl⟩ | ⟨g, rfl, hg⟩
  · obtain rfl : l = [] := List.eq_nil_of_length_eq_zero Hl.out
    have HD := Lib.hid (delR_nil S w3)
    go_wp2_with fail
    refine HD.out.mono ?_
    rintro e w4 ⟨rfl, hE4⟩
    have HE4 := Lib.hid (HE2.out.trans (HE3.out.trans hE4))
    have HZ4 := Lib.hid (hE4.keep HZ3.out)
    clear hE4 HD
    go_wp2_with (first | (refine wp_build_row0 rfl rfl ZR HZR.out ?_) | (refine wpList_store_row rfl 36 _ _ rfl (S + 1) _ rfl rfl _ _ HZ4.out (by rw [HZs.out.1]; kernel_rfl) rfl HZs.out.2 ?_))
    refine bodyPost_ret (results_row_tmp rfl _ _ (S + 1) _ _ _ _ rfl (setRow_heap w4 (S + 1) _ _ _ _ HZ4.out) Try.underlying36 rfl (by rw [HZs.out.1]; kernel_rfl)) rfl ?_
    have h5 := below_setRow (HE4.out) (show w.heap.size ≤ S + 1 by rw [HS.out]; omega) ZR
    exact ⟨h5, by rw [← HZR.out]; rfl⟩
  · have HD := Lib.hid (delR_any (B := w2.heap.size) (gb := S) (p := p) HO.out (by omega) fun y hy i hi => latest1_any F p (rwAt l i) S y HF.out.1 (fun z _ => HF.out.2 (rwAt l i) z) (by
      have h1 := hy.block S (by have := HE3.out.size; omega) (fun e => by have := Option.some.inj e; omega)
      unfold World.cell?
      rw [h1, HB3.out]
      rfl))
    go_wp2_with fail
    refine HD.out.mono ?_
    rintro e w4 ⟨rfl, hown4, hg4⟩
    have HO4 := Lib.hid hown4
    have hEx : Ext w w4 := (HE2.out.trans HE3.out).trans' ⟨hg4.os, hg4.tape, hg4.output, hg4.size, fun i hi => hg4.block i (by have := HE2.out.size; have := HE3.out.size; omega) (fun e => by have := Option.some.inj e; have := HE2.out.size; omega)⟩
    have HE4 := Lib.hid hEx
    have HZ4 := Lib.hid ((hg4.block (S + 1) (by have := HE3.out.size; omega) (fun e => by have := Option.some.inj e; omega)).trans HZ3.out)
    obtain ⟨fs, hfs⟩ : ∃ fs, l.filter p = fs := ⟨_, rfl⟩
    have Hfs := Lib.hid hfs
    rw [hfs] at HO4 ⊢
    have hml : fs.length ≤ n := by
      rw [← hfs, ← Hl.out]
      exact List.length_filter_le _ _
    clear hown4 hg4 hEx HD hfs
    obtain ⟨m, hm⟩ : ∃ m, fs.length = m := ⟨_, rfl⟩
    have Hm := Lib.hid hm
    rw [hm] at HO4 hml ⊢
    clear hm
    obtain ⟨POST, hP⟩ : ∃ P : Ending → World → Prop, LatSays w fs = P := ⟨_, rfl⟩
    by_cases h0 : m = 0
    · subst h0
      go_wp2_with (first | (refine wp_build_row0 rfl rfl ZR HZR.out ?_) | (refine wpList_store_row rfl 36 _ _ rfl (S + 1) _ rfl rfl _ _ HZ4.out (by rw [HZs.out.1]; kernel_rfl) rfl HZs.out.2 ?_))
      refine bodyPost_ret (results_row_tmp rfl _ _ (S + 1) _ _ _ _ rfl (setRow_heap w4 (S + 1) _ _ _ _ HZ4.out) Try.underlying36 rfl (by rw [HZs.out.1]; kernel_rfl)) rfl ?_
      have h5 := below_setRow (HE4.out) (show w.heap.size ≤ S + 1 by rw [HS.out]; omega) ZR
      have hnil : fs = [] := List.eq_nil_of_length_eq_zero Hm.out
      unfold LatSays
      rw [Hfs.out, hnil]
      exact ⟨h5, by rw [← HZR.out]; rfl⟩
    · have x0 : ¬ (m : Int) = 0 := by omega
      obtain ⟨f4, hr4, hf4, hB4, hmc, hcm⟩ := own_blkR HO4.out
      have hMx := maxR_any g 0 m c3 fs w4 (by omega) (by omega) hmc (by unfold maxLen at hcm; omega) (fun i hi j hj => by
        have := Nat.mul_le_mul_right 130 hmc
        rw [Nat.zero_add, hr4.cell (by omega), hf4 i j hi hj])
      obtain ⟨M, hMv⟩ : ∃ X, rwV (maxN fs m) = X := ⟨_, rfl⟩
      have HMs := Lib.hid (show M.size = 130 ∧ M.all (·.oneCell') = true by rw [← hMv]; exact ⟨rwV_size _, rwV_one _⟩)
      rw [hMv] at hMx
      have HMx := Lib.hid hMx
      have HMv := Lib.hid hMv
      clear hr4 hf4 hB4 hmc hcm hMx hMv hP
      go_wp2_with fail
      refine HMx.out.mono ?_
      rintro e w5 ⟨rfl, hE5⟩
      have HE5 := Lib.hid (HE4.out.trans hE5)
      have HZ5 := Lib.hid (hE5.keep HZ4.out)
      clear hE5 HMx
      go_wp2_with (refine wpList_store_row rfl 36 _ _ rfl (S + 1) _ rfl rfl _ _ HZ5.out (by rw [HMs.out.1]; kernel_rfl) (by rw [HMs.out.1, HZs.out.1]) HMs.out.2 ?_)
      refine bodyPost_ret (results_row_tmp rfl _ _ (S + 1) _ _ _ _ rfl (setRow_heap w5 (S + 1) _ _ _ _ HZ5.out) Try.underlying36 rfl (by rw [HMs.out.1]; kernel_rfl)) rfl ?_
      have h5 := below_setRow (HE5.out) (show w.heap.size ≤ S + 1 by rw [HS.out]; omega) M
      unfold LatSays
      rw [Hfs.out, Hm.out, HMv.out, decide_eq_true (show 0 < m by omega)]
      exact ⟨h5, rfl⟩

theorem rwN_at (w : World) : RwAt w rwN := by
  refine ⟨htN_at w, ⟨rfl, Nat.le_refl _, ?_, fun s hs => ?_, fun h => ?_⟩, ?_, ⟨?_, ?_⟩, ?_, ?_⟩
  · show (0 : Nat) ≤ _; omega
  · cases hs
  · have h0 : (0 : Nat) < 0 := h
    omega
  · show (0 : Nat) ≤ _; omega
  · show (-9223372036854775808 : Int) ≤ 0; omega
  · show (0 : Int) ≤ 9223372036854775807; omega
  · show (0 : Nat) ≤ _; omega
  · show (0 : Nat) ≤ _; omega
theorem maxN_mem (l : List Rw) : ∀ k, 0 < k → k ≤ l.length → maxN l k ∈ l
  | 0, h, _ => by omega
  | k + 1, _, hk => by
    rcases Nat.eq_zero_or_pos k with q | q
    · subst q
      exact rwAt_mem (by omega)
    · rw [maxN_succ q]
      split
      · exact rwAt_mem (by omega)
      · exact maxN_mem l k q (by omega)
theorem maxN_at {w : World} {l : List Rw} (h : ∀ r ∈ l, RwAt w r) (p : Rw → Bool) : RwAt w (maxN (l.filter p) (l.filter p).length) := by
  rcases Nat.eq_zero_or_pos (l.filter p).length with q | q
  · rw [q]
    exact rwN_at w
  · exact h _ (List.mem_filter.1 (maxN_mem _ _ q (Nat.le_refl _))).1

end Go.Proofs.Ytldaligeckjhaaa
