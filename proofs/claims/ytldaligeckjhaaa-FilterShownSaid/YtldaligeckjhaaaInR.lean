/-
  A token among tokens: the walk of jalousieref11.In. No conditions.
-/
import Derived.Test.YtldaligeckjhaaaSorted
import Derived.Test.YtldaligeckjhaaaHdA
namespace Go.Proofs.Ytldaligeckjhaaa
open Go.ChangeShapes Go.WideShapes Go.ChangeAt Go.RowKit

def eqN (n : Nat) (f g : Nat → Int) : Bool := decide (∀ j, j < n → f j = g j)
def eqTok (f g : Nat → Int) : Bool := eqN 16 f g
theorem eqTok_comm (f g : Nat → Int) : eqTok f g = eqTok g f := by
  unfold eqTok eqN
  congr 1
  exact propext ⟨fun h j hj => (h j hj).symm, fun h j hj => (h j hj).symm⟩
def inB (ts : List (Nat → Int)) (t : Nat → Int) : Bool := ts.any fun x => eqTok x t
theorem inB_step (ts : List (Nat → Int)) (t : Nat → Int) (k : Nat) (h : k < ts.length) : inB (ts.drop k) t = (eqTok (ts.getD k fun _ => 0) t || inB (ts.drop (k + 1)) t) := by
  have e : (ts.getD k fun _ => 0) = ts[k] := by simp [List.getD_eq_getElem?_getD, List.getElem?_eq_getElem h]
  rw [e]
  unfold inB
  rw [List.drop_eq_getElem_cons h, List.any_cons]

theorem eql_tok (w : World) (f g : Nat → Int) : (binOp .eql 27 (.agg (rowArr 16 fun j => .int .u8 (f j))) (.agg (rowArr 16 fun j => .int .u8 (g j)))).run Try.prog w = .ok (.bool (eqTok f g)) w :=
  run_eql_arr w 27 5 16 .u8 Try.underlying27 Try.underlying5 size_byte11 f g

set_option maxHeartbeats 1000000 in
set_option maxRecDepth 100000 in
theorem refIn_any (a : Option Addr) (n c : Nat) (ts : List (Nat → Int)) (T : Nat → Int) (w : World) (h : TsAt w a n c ts) :
    Calls Try.prog 48 #[.slice a n c, .agg (rowArr 16 fun j => .int .u8 (T j))] w fun e w' => e = .returned (.bool (inB ts T)) ∧ Ext w w' := by
  have hlen := h.len
  have hsm := h.small
  have keq := eql_tok
  obtain ⟨w2, hw2⟩ : ∃ w2, w.alloc (.cells (rowArr 16 fun j => .int .u8 (T j)) 27) = w2 := ⟨_, rfl⟩
  have hE2 : Ext w w2 := by rw [← hw2]; exact (Ext.refl w).alloc _
  have hT2 : w2.heap[w.heap.size]? = some (.cells (rowArr 16 fun j => .int .u8 (T j)) 27 (0, 0)) := by rw [← hw2]; exact heap_new w _ _ rfl
  have H := Lib.hid h
  have Hlen := Lib.hid hlen
  have Hw2 := Lib.hid hw2
  have HE2 := Lib.hid hE2
  have HT2 := Lib.hid hT2
  have Hst := Lib.hid (show ∀ k, k < n → _ from fun k hk => inB_step ts T k (by omega))
  have H0 := Lib.hid (show inB (ts.drop 0) T = inB ts T from rfl)
  have Hen := Lib.hid (show inB (ts.drop n) T = false by rw [← hlen, List.drop_length]; rfl)
  obtain ⟨R, hR⟩ : ∃ R, inB ts T = R := ⟨_, rfl⟩
  rw [hR] at H0 ⊢
  clear h hlen hR hw2 hE2 hT2
  go_enter Try.func48, Try.ntmps48
  go_upto_region 1 with (fail)
  refine wp_world (w' := w2) Hw2.out ?_
  obtain ⟨g, hg⟩ : ∃ g, w.heap.size = g := ⟨_, rfl⟩
  rw [hg] at HT2 ⊢
  clear hg Hw2
  go_wp2
  go_loopw [5] (fun i wr => ∃ m : Nat, m ≤ n ∧ i = .int .i64 (m : Int) ∧ inB (ts.drop m) T = R ∧ Ext w2 wr) (fun i _ => n - (intOf i).toNat)
  case atStart => exact ⟨0, Nat.zero_le _, rfl, H0.out, Ext.refl _⟩
  case round =>
    obtain ⟨m, hm, rfl, hr, hE⟩ := hrel
    have HE := Lib.hid (HE2.out.trans hE)
    by_cases hlt : m < n
    · obtain ⟨b, off, rfl, hc⟩ := H.out.at_ (by omega)
      obtain ⟨F, hF⟩ : ∃ F, (ts.getD m fun _ => 0) = F := ⟨_, rfl⟩
      have hE1 : Ext w wr.drew := HE.out.drew
      have HC0 := Lib.hid (show ∀ j, j < 16 → wr.drew.cell? ⟨b, off + m * 16 + j, none⟩ = some (.int .u8 (F j)) from fun j hj => by
        have h1 := hc m hlt j hj
        rw [hF] at h1
        rw [Ext.cell hE1 (World.block_lt_of_cell? w _ h1)]
        exact h1)
      have HTd := Lib.hid (show wr.drew.heap[g]? = _ from hE.keep HT2.out)
      have HX0 := Lib.hid (show ∀ x, Ext wr.drew x → Ext w x ∧ Ext w2 x from fun x hx => ⟨hE1.trans hx, (hE.drew).trans hx⟩)
      have hs := Hst.out m hlt
      rw [hF, hr] at hs
      have Hs := Lib.hid hs
      have x1 : (m : Int) < (n : Int) := by omega
      have x3 : (m : Int) ≤ 140737488355328 := by omega
      clear hc hF hE1 hs hr hE
      go_upto_region 4 with (fail)
      refine wp_region_lexA (by kernel_rfl) (by kernel_rfl) ?_
      refine lx_e (.slice (some ⟨b, off, none⟩) n c) [] (by kernel_rfl) rfl (by rfl) (fun w1 hw1 => ?_) ?_
      · simp only [pk, lexVals]
        go_simp
        exact ⟨Ext.refl _, rfl⟩
      refine lx_e (.int .i64 (m : Int)) [] (by kernel_rfl) rfl (by rfl) (fun w1 hw1 => ?_) ?_
      · simp only [pk, lexVals]
        go_simp
        exact ⟨Ext.refl _, rfl⟩
      refine lx_e (.pointer (some ⟨b, off + m * 16, none⟩)) [(1, 12), (0, 13)] (by kernel_rfl) rfl (by rfl) (fun w1 hw1 => ?_) ?_
      · simp only [pk, nthSp, lexVals]
        exact lu_idx rfl rfl rfl (by omega)
      refine lx_e (.agg (rowArr 16 fun j => .int .u8 (F j))) [(0, 14)] (by kernel_rfl) rfl (by rfl) (fun w1 hw1 => ?_) ?_
      · simp only [pk, nthSp, lexVals]
        exact lu_tok rfl rfl (fun j hj => by rw [Ext.cell (hw1) (World.block_lt_of_cell? _ _ (HC0.out j hj))]; exact HC0.out j hj)
      refine lx_e (.agg (rowArr 16 fun j => .int .u8 (T j))) [] (by kernel_rfl) rfl (by rfl) (fun w1 hw1 => ?_) ?_
      · simp only [pk, lexVals]
        exact lu_row rfl rfl (hw1.keep HTd.out) Try.underlying27 rfl (by kernel_rfl)
      refine lx_e (.bool (eqTok F T)) [(1, 15), (0, 16)] (by kernel_rfl) rfl (by rfl) (fun w1 hw1 => ?_) ?_
      · simp only [pk, nthSp, lexVals]
        go_simp
        exact ⟨Ext.refl _, rfl⟩
      refine lx_stopA (by rfl) fun w7 hw7 => ?_
      have HE7 := Lib.hid (HX0.out w7 hw7).1
      have HF7 := Lib.hid (HX0.out w7 hw7).2
      clear hw7
      simp only [rv, pf, lexVals]
      simp only [Act.put, List.setIfInBounds_toArray, List.set_cons_zero, List.set_cons_succ]
      obtain ⟨B, hB⟩ : ∃ B, eqTok F T = B := ⟨_, rfl⟩
      rw [hB] at Hs ⊢
      clear hB
      cases B with
      | true =>
        have hR : R = true := Hs.out
        go_wp2_with fail
        go_ret
        exact ⟨by rw [hR]; rfl, HE7.out⟩
      | false =>
        have HR := Lib.hid (show R = inB (ts.drop (m + 1)) T from Hs.out)
        go_wp2_with fail
        go_roundw
        case rel => exact ⟨m + 1, by omega, by go_num, HR.out.symm, HF7.out⟩
        case measure => simp [intOf]; omega
    · obtain rfl : m = n := by omega
      have x1 : ¬ (m : Int) < (m : Int) := by omega
      have hR : R = false := by rw [← hr]; exact Hen.out
      go_wp2_with fail
      go_ret
      exact ⟨rfl, HE.out⟩

end Go.Proofs.Ytldaligeckjhaaa
