/-
  The walk of item.Of. No conditions but the length.
-/
import Derived.Test.YtldaligeckjhaaaMade
import Derived.Test.YtldaligeckjhaaaPtC
import Derived.Test.YtldaligeckjhaaaParted
namespace Go.Proofs.Ytldaligeckjhaaa
open Go.ChangeShapes Go.WideShapes Go.ChangeAt Go.RowKit

theorem cntN_mem (l : List Rw) : ∀ k, k ≤ l.length → ∀ r ∈ cntN l k, r ∈ l ∧ rowB r = true
  | 0, _, r, h => by cases h
  | k + 1, hk, r, h => by
    have ih := cntN_mem l k (by omega)
    unfold cntN at h
    split at h
    · next hq =>
      rcases List.mem_append.1 h with h1 | h1
      · exact ih r h1
      · rw [List.mem_singleton] at h1
        subst h1
        exact ⟨rwAt_mem (by omega), hq.1⟩
    · exact ih r h
theorem ofTok_mem {x : Nat → Int} {cs : List Rw} {r : Rw} (h : r ∈ ofTok x cs) : r ∈ cs ∧ arrB 16 x r.hd.1.item = true := List.mem_filter.1 h
theorem rowB_tn {r : Rw} (h : rowB r = true) : r.hd.1.tn ≤ 8 := by
  unfold rowB hdB at h
  simp only [Bool.and_eq_true, decide_eq_true_eq] at h
  exact h.1.1.1.1.1.2
theorem rowB_kn {r : Rw} (h : rowB r = true) : r.tags.length ≤ 8 := by
  unfold rowB at h
  rw [Bool.and_eq_true] at h
  have h2 := h.2
  split at h2
  · unfold changeB tagsB at h2
    simp only [Bool.and_eq_true, decide_eq_true_eq] at h2
    exact h2.1.1.2.2
  · unfold blB at h2
    rw [decide_eq_true_eq] at h2
    omega
theorem topR_row {p : Rw → Bool} {l : List Rw} (h : ∀ r ∈ l, rowB r = true) : (topR p l).hd.1.tn ≤ 8 ∧ (topR p l).tags.length ≤ 8 := by
  unfold topR
  rcases Nat.eq_zero_or_pos (l.filter p).length with q | q
  · rw [q]
    exact ⟨by show (0 : Nat) ≤ 8; omega, by show (0 : Nat) ≤ 8; omega⟩
  · have := h _ (List.mem_filter.1 (maxN_mem (l.filter p) _ q (Nat.le_refl _))).1
    exact ⟨rowB_tn this, rowB_kn this⟩
theorem parted_all (a : Option Addr) (n c : Nat) (l : List Rw) (w : World) (h : RwsAt w a n c l) (hs : n ≤ 100000) : Calls Try.prog 33 #[.slice a n c] w (PartSays w l n) := by
  rcases Nat.eq_zero_or_pos n with q | q
  · subst q
    exact parted_nil a c l w
  · obtain ⟨b, off, rfl, _⟩ := h.at_ q
    exact parted_any b off n c l w h hs
/-- The groups in memory. -/
def PtM (B : Nat) (cs : List Rw) (u : Value) (w : World) : Prop := ∃ (ob : Nat) (G : List Gp), u = .map (some ob) ∧ B ≤ ob ∧ KvAt tokK w ob (G.map gpE) ∧ GpAt w (ob + 2) G ∧ GpSays G cs
theorem PtM.ext {B : Nat} {cs : List Rw} {u : Value} {w w' : World} (h : PtM B cs u w) (he : Ext w w') : PtM B cs u w' := by
  obtain ⟨ob, G, h1, h2, h3, h4, h5⟩ := h
  exact ⟨ob, G, h1, h2, h3.ext he, h4.ext he, h5⟩
/-- What item.Of answers. -/
def OfSays (w : World) (x : Nat → Int) (l : List Rw) (n : Nat) (e : Ending) (w' : World) : Prop :=
  Ext w w' ∧ if ofTok x (cntN l n) = [] then e = .returned (.tuple #[.agg (itV itN), .bool false]) else ∃ t : It, e = .returned (.tuple #[.agg (itV t), .bool true]) ∧ ItOwn w.heap.size w' t ∧ IsMade x (ofTok x (cntN l n)) t
set_option maxRecDepth 100000 in
theorem build_it0 (w : World) : (Instr.build 41 #[]).run Try.prog w = .ok (.agg (itV itN)) w := by kernel_rfl
theorem wp_build_it0 {ops : Array Oper} {Q : Exit → Act → World → Prop} {rest : List Oper} {o : Oper} {a : Act} {w : World} (hw : Region.wanted o (yielded ops a.tmps) = true) (ho : o.op = .build 41 #[]) (I : Array Value) (hI : itV itN = I)
    (hk : wpList Try.prog ops Q rest (a.put o.dst (.agg I)) w) : wpList Try.prog ops Q (o :: rest) a w := by
  subst hI
  refine wpList_want hw fun K hK => ?_
  unfold Oper.wp execOp
  simp only [ho, List.map_toArray, List.map_nil, Sem.run_bind, build_it0, Result.andThen_ok, Sem.run_pure]
  exact hK _ _ hk
set_option maxHeartbeats 4000000 in
set_option maxRecDepth 100000 in
theorem of_any (x : Nat → Int) (a : Option Addr) (n c : Nat) (l : List Rw) (w : World) (h : RwsAt w a n c l) (hs : n ≤ 100000) :
    Calls Try.prog 13 #[.slice a n c, .agg (rowArr 16 fun j => .int .u8 (x j))] w (OfSays w x l n) := by
  have H := Lib.hid h
  have HPt := Lib.hid (fun y (hy : Ext w y) => parted_all a n c l y (h.ext hy) hs)
  have hzi := it_zero
  have HZi := Lib.hid it_zero
  obtain ⟨X, hX⟩ : ∃ z, (rowArr 16 fun j => Value.int .u8 (x j)) = z := ⟨_, rfl⟩
  have HX := Lib.hid hX
  have HXs := Lib.hid (show X.size = 16 ∧ X.all (·.oneCell') = true by rw [← hX]; exact ⟨rowArr_size _ _, rowArr_one fun _ _ => rfl⟩)
  obtain ⟨w2, hw2, hE2, hb2, hZ2⟩ := made_box w X
  obtain ⟨S, hS⟩ : ∃ S, w.heap.size = S := ⟨_, rfl⟩
  have HS := Lib.hid hS
  rw [hS] at hb2 hZ2
  obtain ⟨ZI, hZI⟩ : ∃ z, itV itN = z := ⟨_, rfl⟩
  have HZI := Lib.hid hZI
  rw [hZI] at hw2 hZ2 hzi
  have HZs := Lib.hid (show ZI.size = 146 by rw [← hZI]; exact itV_size _)
  have HZo := Lib.hid (show ZI.all (·.oneCell') = true by rw [← hZI]; exact itV_one _)
  have Hw2 := Lib.hid hw2
  have HE2 := Lib.hid hE2
  have HB2 := Lib.hid hb2
  have HZ2 := Lib.hid hZ2
  obtain ⟨cs, hcs⟩ : ∃ z, cntN l n = z := ⟨_, rfl⟩
  have HCs := Lib.hid hcs
  obtain ⟨L, hL⟩ : ∃ z, ofTok x cs = z := ⟨_, rfl⟩
  have HL := Lib.hid hL
  obtain ⟨m, hm⟩ : ∃ z, L.length = z := ⟨_, rfl⟩
  have Hm := Lib.hid hm
  have HLr := Lib.hid (show (∀ r ∈ L, r ∈ l ∧ rowB r = true) ∧ m ≤ n by
    have hl := h.len
    refine ⟨fun r hr => cntN_mem l n (by omega) r (by rw [hcs]; rw [← hL] at hr; exact (ofTok_mem hr).1), ?_⟩
    rw [← hm, ← hL, ← hcs]
    exact Nat.le_trans (List.length_filter_le _ _) (cntN_le l n))
  rw [hX]
  have HSays := Lib.hid (show ∀ e w', (Ext w w' ∧ if L = [] then e = .returned (.tuple #[.agg (itV itN), .bool false]) else ∃ t : It, e = .returned (.tuple #[.agg (itV t), .bool true]) ∧ ItOwn w.heap.size w' t ∧ IsMade x L t) → OfSays w x l n e w' from fun e w' h => by
    unfold OfSays
    rw [hcs, hL]
    exact h)
  obtain ⟨POST, hPO⟩ : ∃ P : Ending → World → Prop, OfSays w x l n = P := ⟨_, rfl⟩
  rw [hPO] at HSays ⊢
  clear h hX hw2 hE2 hb2 hZ2 hS hZI hcs hL hm hPO
  go_enter Try.func13, Try.ntmps13
  go_upto_region 1 with (fail)
  rw [HS.out]
  refine wp_world (w' := w2) Hw2.out ?_
  clear Hw2 hzi
  have HXx := Lib.hid (show ∀ y, Ext w2.drew y → Ext w2 y from fun y hy => Ext.trans (Ext.refl w2).drew hy)
  refine wp_region_lexT 4 (by kernel_rfl) (by kernel_rfl) ?_
  simp only [List.take_succ_cons, List.take_zero, List.drop_succ_cons, List.drop_zero]
  refine lx_e (.slice a n c) [] (by kernel_rfl) rfl (by rfl) (fun w1 hw1 => ?_) ?_
  · simp only [pk, lexVals]
    clear hw1
    go_simp
    exact ⟨Ext.refl _, by first | rfl | simp⟩
  refine lx_a (PtM (S + 2) cs) [(0, 7)] (by kernel_rfl) rfl (by rfl) (fun u w w' he h => PtM.ext h he) (fun w1 hw1 => ?_) ?_
  · simp only [pk, nthSp, lexVals]
    have HM := Lib.hid (HPt.out w1 (HE2.out.trans (HXx.out w1 hw1)))
    have hz := Below.size (HXx.out w1 hw1)
    have hz2 := (Array.getElem?_eq_some_iff.1 HZ2.out).1
    clear hw1
    go_simp
    refine HM.out.mono ?_
    rintro e w3 ⟨ob, G, rfl, h1, h2, h3, h4, h5⟩
    exact ⟨_, rfl, h2, ob, G, rfl, by omega, h3, h4, by rw [← HCs.out]; exact h5⟩
  refine lx_e (.agg X) [] (by kernel_rfl) rfl (by rfl) (fun w1 hw1 => ?_) ?_
  · simp only [pk, lexVals]
    exact lu_row rfl rfl ((HXx.out w1 hw1).keep HB2.out) Try.underlying27 rfl (by rw [HXs.out.1]; kernel_rfl)
  refine lx_a (fun u w => ∃ a c, u = .slice a m c ∧ w.ownsRow (S + 2) 36 130 (.slice a m c) m (rwsC L)) [(1, 8), (0, 9)] (by kernel_rfl) rfl (by rfl) (fun u w w' he ⟨a, c, h1, h2⟩ => ⟨a, c, h1, own_extM h2 he⟩) (fun w1 hw1 => ?_) ?_
  · simp only [pk, nthSp, lexVals]
    rintro u8 ⟨ob, G, rfl, h2, h3, h4, h5⟩
    obtain ⟨a2, c2, h6, h7⟩ := look_gp h3 h4 h5 x
    rw [HL.out, Hm.out] at h6 h7
    have h8 : tokV x = .agg X := by rw [← HX.out]; rfl
    rw [h8] at h6
    have HR6 := Lib.hid h6
    have HO7 := Lib.hid (own_monoM h7 (show S + 2 ≤ ob + 2 by omega))
    clear hw1 h2 h3 h4 h5 h6 h7 h8
    rw [rx_lookup rfl rfl rfl HR6.out]
    exact ⟨Ext.refl _, _, _, rfl, HO7.out⟩
  refine lx_stopT (by rfl) (by decide) fun w7 hw7 => ?_
  have HE7 := Lib.hid (HXx.out w7 hw7)
  clear hw7 HXx
  simp only [rv, pf, lexVals, List.drop_succ_cons, List.drop_zero]
  rintro u8 ⟨ob, G, rfl, h2, h3, h4, h5⟩ u10 ⟨ra, rc, rfl, h10⟩
  simp only [Act.put, List.setIfInBounds_toArray, List.set_cons_zero, List.set_cons_succ]
  have HO7 := Lib.hid h10
  clear h2 h3 h4 h5 h10
  have HR7 := Lib.hid (own_rws HO7.out (fun r hr => (H.out.each r (HLr.out.1 r hr).1).ext (HE2.out.trans HE7.out)) (by have := HLr.out.2; omega))
  have HZ7 := Lib.hid (HE7.out.keep HZ2.out)
  by_cases h0 : m = 0
  · subst h0
    go_wp2_with (first | (refine wp_build_it0 rfl rfl ZI HZI.out ?_) | (refine wpList_store_row rfl 41 _ _ rfl (S + 1) _ rfl rfl _ _ HZ7.out (by rw [HZs.out]; kernel_rfl) rfl HZo.out ?_))
    have hL0 : L = [] := List.eq_nil_of_length_eq_zero Hm.out
    refine bodyPost_ret (results_row_tmp rfl _ _ (S + 1) _ _ _ _ rfl (setRow_heap w7 (S + 1) _ _ _ _ HZ7.out) Try.underlying41 rfl (by rw [HZs.out]; kernel_rfl)) rfl ?_
    refine HSays.out _ _ ⟨below_setRow (HE2.out.trans HE7.out) (show w.heap.size ≤ S + 1 by rw [HS.out]; omega) ZI, ?_⟩
    rw [if_pos hL0, HZI.out]
    rfl
  · have x0 : ¬ (m : Int) = 0 := by omega
    have HMd := Lib.hid (made_any x ra m rc L w7 HR7.out (by have := HLr.out.2; omega) (by have := (topR_row (p := fun _ => true) fun r hr => (HLr.out.1 r hr).2).1; omega) (by have := (topR_row (p := fun r => r.kn) fun r hr => (HLr.out.1 r hr).2).2; omega))
    rw [HX.out] at HMd
    have HX7 := Lib.hid (HE7.out.keep HB2.out)
    go_wp2_with (first | (refine wpList_load_rowW rfl 27 (.tmp 3) rfl S rfl _ _ _ _ HX7.out Try.underlying27 rfl (by rw [HXs.out.1]; kernel_rfl) ?_; simp only [Act.put, List.setIfInBounds_toArray, List.set_cons_zero, List.set_cons_succ]) | (go_at_call 34; refine HMd.out.mono ?_; rintro e w8 ⟨t, rfl, hE8, hA8, hM8⟩; have HE8 := Lib.hid hE8; have HA8 := Lib.hid hA8; have HM8 := Lib.hid hM8; obtain ⟨J, hJ⟩ : ∃ z, itV t = z := ⟨_, rfl⟩; have HJ := Lib.hid hJ; have HJs := Lib.hid (show J.size = 146 ∧ J.all (·.oneCell') = true by rw [← hJ]; exact ⟨itV_size _, itV_one _⟩); rw [hJ]; have HZ8 := Lib.hid (hE8.keep HZ7.out); clear hE8 hA8 hM8 hJ) | (refine wpList_store_row rfl 41 _ _ rfl (S + 1) _ rfl rfl _ _ HZ8.out (by rw [HJs.out.1]; kernel_rfl) (by rw [HJs.out.1, HZs.out]) HJs.out.2 ?_))
    refine bodyPost_ret (results_row_tmp rfl _ _ (S + 1) _ _ _ _ rfl (setRow_heap w8 (S + 1) _ _ _ _ HZ8.out) Try.underlying41 rfl (by rw [HJs.out.1]; kernel_rfl)) rfl ?_
    refine HSays.out _ _ ⟨below_setRow (HE2.out.trans (HE7.out.trans HE8.out)) (show w.heap.size ≤ S + 1 by rw [HS.out]; omega) J, ?_⟩
    rw [if_neg (fun e => h0 (by rw [← Hm.out, e]; rfl))]
    refine ⟨t, by rw [HJ.out]; rfl, ?_, HM8.out⟩
    have hz7 := Below.size HE7.out
    have hz2 := (Array.getElem?_eq_some_iff.1 HZ2.out).1
    exact (HA8.out.kept (b := S + 1) (by omega) (grown_setRow w8 _ J)).mono (by have := Below.size (HE2.out.trans HE7.out); omega)

end Go.Proofs.Ytldaligeckjhaaa
