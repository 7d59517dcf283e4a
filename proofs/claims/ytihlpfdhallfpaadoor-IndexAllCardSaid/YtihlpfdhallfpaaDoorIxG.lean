/-
  The walk of an index's Get. Asked: nothing.
-/
import Derived.Test.YtihlpfdhallfpaaDoorPackO
import Derived.Test.YtihlpfdhallfpaaDoorPcO
import Derived.Test.YtihlpfdhallfpaaDoorIxQ
namespace Go.Proofs.YtihlpfdhallfpaaDoor
open Go.ChangeShapes Go.WideShapes Go.ChangeAt Go.RowKit

/-- As many bodies as headers. -/
def Even (S : Nat → CSt) : Prop := ∀ i, i < 6 → (S i).bl.length = (S i).l.length ∧ ∀ x ∈ (S i).bl, x.1.length ≤ 549755813888
def bdN : List Int × Option Addr × Nat := ([], none, 0)
/-- What Get hands back of a piece that is there. -/
def gotP (x : HT) (a' : Option Addr) (c' : Nat) (a : Option Addr) (c : Nat) (xs : List Int) : Pc := ⟨reT x a' c', a, c, xs⟩
/-- A piece whose rows are its own, from B on. -/
structure PcOwn (B : Nat) (w : World) (p : Pc) : Prop where
  at_ : PcAt w p
  ts : w.ownsRow B 30 16 (.slice p.hd.1.ta p.hd.1.tn p.hd.1.tc) p.hd.1.tn (tkC p.hd.2)
  bs : w.ownsRow B 5 1 (.slice p.ba p.bd.length p.bc) p.bd.length (bv p.bd)
def GetOwn (S : Nat → CSt) (n s : Int) (w : World) (e : Ending) (w' : World) : Prop :=
  (¬ (1 ≤ n ∧ n ≤ 6 ∧ 1 ≤ s ∧ s ≤ ((S (n - 1).toNat).l.length : Int)) → e = .returned (.tuple #[.agg (pcV pcZ), .int .i64 11])) ∧
  ((1 ≤ n ∧ n ≤ 6 ∧ 1 ≤ s ∧ s ≤ ((S (n - 1).toNat).l.length : Int)) → ∃ a' c' a c, e = .returned (.tuple #[.agg (pcV (gotP ((S (n - 1).toNat).l.getD (s.toNat - 1) htN) a' c' a c ((S (n - 1).toNat).bl.getD (s.toNat - 1) bdN).1)), .int .i64 0]) ∧
    PcOwn w.heap.size w' (gotP ((S (n - 1).toNat).l.getD (s.toNat - 1) htN) a' c' a c ((S (n - 1).toNat).bl.getD (s.toNat - 1) bdN).1)) ∧ Ext w w'
def GetSays (S : Nat → CSt) (n s : Int) (w : World) (e : Ending) (w' : World) : Prop :=
  (¬ (1 ≤ n ∧ n ≤ 6 ∧ 1 ≤ s ∧ s ≤ ((S (n - 1).toNat).l.length : Int)) → e = .returned (.tuple #[.agg (pcV pcZ), .int .i64 11])) ∧
  ((1 ≤ n ∧ n ≤ 6 ∧ 1 ≤ s ∧ s ≤ ((S (n - 1).toNat).l.length : Int)) → ∃ a' c' a c, e = .returned (.tuple #[.agg (pcV (gotP ((S (n - 1).toNat).l.getD (s.toNat - 1) htN) a' c' a c ((S (n - 1).toNat).bl.getD (s.toNat - 1) bdN).1)), .int .i64 0]) ∧
    PcAt w' (gotP ((S (n - 1).toNat).l.getD (s.toNat - 1) htN) a' c' a c ((S (n - 1).toNat).bl.getD (s.toNat - 1) bdN).1)) ∧ Ext w w'
theorem GetOwn.says {S : Nat → CSt} {n s : Int} {w w' : World} {e : Ending} (h : GetOwn S n s w e w') : GetSays S n s w e w' :=
  ⟨h.1, fun k => let ⟨a', c', a, c, h1, h2⟩ := h.2.1 k; ⟨a', c', a, c, h1, h2.at_⟩, h.2.2⟩

theorem getNone {w w2 : World} {g : Nat} {S : Nat → CSt} {n s : Int} (hn : ¬ (1 ≤ n ∧ n ≤ 6 ∧ 1 ≤ s ∧ s ≤ ((S (n - 1).toNat).l.length : Int))) (he : Ext w w2) (hg : w.heap.size ≤ g) : GetOwn S n s w (.returned (.tuple #[.agg (pcV pcZ), .int .i64 11])) (w2.setRow g (pcV pcZ)) :=
  ⟨fun _ => rfl, fun h => absurd h hn, below_setRow he hg _⟩

set_option maxHeartbeats 8000000 in
set_option maxRecDepth 100000 in
theorem ixGetO_any {w : World} {B gx : Nat} {G : Nat → Nat} {S : Nat → CSt} {cnt : Int} (h0 : IxAt w B gx G S cnt) (hm : Modest S) (he : Even S) (n s : Int) (hn : -9223372036854775808 ≤ n ∧ n ≤ 9223372036854775807) (hs : 0 ≤ s ∧ s < 18446744073709551616) :
    Calls Tryd.prog 17 #[.pointer (some ⟨gx, 0, none⟩), .int .i64 n, .int .u64 s] w fun e w' => GetOwn S n s w e w' := by
  obtain ⟨w2, hw2⟩ : ∃ w2, w.alloc (.cells (pcV pcZ) 37) = w2 := ⟨_, rfl⟩
  have hE2 : Ext w w2 := by rw [← hw2]; exact (Ext.refl w).alloc _
  have hB2 : w2.heap[w.heap.size]? = some (.cells (pcV pcZ) 37 (0, 0)) := by rw [← hw2]; exact heap_new w _ _ rfl
  have hz := pcZ0
  have hzh := hdZ0
  have Hw2 := Lib.hid hw2
  have HE2 := Lib.hid hE2
  have HB2 := Lib.hid hB2
  obtain ⟨g, hg⟩ : ∃ p, w.heap.size = p := ⟨_, rfl⟩
  rw [hg] at HB2
  have Hg := Lib.hid hg
  have HZc := Lib.hid (show Tryd.zeroCells37 = pcV pcZ by kernel_rfl)
  by_cases hn1 : 1 ≤ n ∧ n ≤ 6
  · obtain ⟨i, hi, hi6⟩ : ∃ i : Nat, n = (i : Int) + 1 ∧ i < 6 := ⟨(n - 1).toNat, by omega, by omega⟩
    subst hi
    have x1 : ¬ ((i : Int) + 1 < 1) := by omega
    have x2 : ¬ (6 < (i : Int) + 1) := by omega
    have wI : IntKind.i64.wrap ((i : Int) + 1 - 1) = (i : Int) := by rw [IntKind.wrap_i64]; omega
    have x3 : (i : Int) + 1 - 1 = (i : Int) := by omega
    have hii : ((i : Int) + 1 - 1).toNat = i := by omega
    have h2 := h0.ext hE2
    have cg := h2.cells.1 i hi6
    obtain ⟨q, hq⟩ : ∃ q, G i = q := ⟨_, rfl⟩
    rw [hq] at cg
    have hch := h2.ch i hi6
    rw [hq] at hch
    have HAt := Lib.hid (at_any hch (by have := (hm i hi6).1; omega) (hm i hi6).2.2 s hs.1 hs.2)
    have H0 := Lib.hid h2
    have Hi := Lib.hid hi6
    have Hm := Lib.hid hm
    have He := Lib.hid he
    have Hs := Lib.hid hs
    have Hii := Lib.hid hii
    have x4 : (i : Int) < 6 := by omega
    have x5 : (0 : Int) ≤ (i : Int) := by omega
    by_cases hin : 1 ≤ s ∧ s ≤ ((S i).l.length : Int)
    · obtain ⟨k, hk⟩ : ∃ k : Nat, s = (k : Int) + 1 := ⟨s.toNat - 1, by omega⟩
      subst hk
      have hkk : ((k : Int) + 1).toNat - 1 = k := by omega
      have HG := Lib.hid (show ∀ e w', (∃ a' c' a c, e = .returned (.tuple #[.agg (pcV (gotP ((S i).l.getD k htN) a' c' a c ((S i).bl.getD k bdN).1)), .int .i64 0]) ∧ PcOwn w.heap.size w' (gotP ((S i).l.getD k htN) a' c' a c ((S i).bl.getD k bdN).1)) → Ext w w' → GetOwn S ((i : Int) + 1) ((k : Int) + 1) w e w' from fun e w' h1 h2 => by
        unfold GetOwn
        rw [hii, hkk]
        exact ⟨fun hn => absurd ⟨by omega, by omega, hin.1, hin.2⟩ hn, fun _ => h1, h2⟩)
      have hkl : k < (S i).l.length := by omega
      have hkb : k < (S i).bl.length := by rw [(he i hi6).1]; exact hkl
      obtain ⟨x, hx⟩ : ∃ x, (S i).l.getD k htN = x := ⟨_, rfl⟩
      obtain ⟨bd, hbd⟩ : ∃ x, (S i).bl.getD k bdN = x := ⟨_, rfl⟩
      obtain ⟨xs, qa, qc⟩ := bd
      rw [hx, hbd] at HG
      have hxm : x ∈ (S i).l := by
        rw [← hx, List.getD_eq_getElem?_getD, List.getElem?_eq_getElem hkl]
        exact List.getElem_mem _
      have hxt := hch.each x hxm
      have hxn := (hm i hi6).2.2 x hxm
      have HAt2 := Lib.hid (HAt.out.mono (R' := fun e w' => ∃ a' c', e = .returned (.tuple #[.agg (hdV (reT x a' c').1), .bool true]) ∧ w'.ownsRow w2.heap.size 30 16 (.slice a' x.1.tn c') x.1.tn (tkC x.2) ∧ Ext w2 w') fun e w' ⟨_, h3, h4⟩ => by
        obtain ⟨a', c', h5, h6⟩ := h3 hin
        rw [hkk, hx] at h5 h6
        exact ⟨a', c', h5, h6, h4⟩)
      have hbo := h2.bo i hi6
      have hby := h2.by_ i hi6 (xs, qa, qc) (by
        rw [← hbd, List.getD_eq_getElem?_getD, List.getElem?_eq_getElem hkb]
        exact List.getElem_mem _)
      have hbs : BsAt w2 qa xs.length qc xs := hby
      have hrm : xs.length ≤ 549755813888 := (he i hi6).2 (xs, qa, qc) (by
        rw [← hbd, List.getD_eq_getElem?_getD, List.getElem?_eq_getElem hkb]
        exact List.getElem_mem _)
      obtain ⟨M, hM⟩ : ∃ M, (S i).bl.length = M := ⟨_, rfl⟩
      obtain ⟨bc, hbc⟩ : ∃ M, (S i).bc = M := ⟨_, rfl⟩
      have hcell12 := h2.cells.2.1 i hi6
      have hbb : ∃ bb, (S i).ba = some ⟨bb, 0, none⟩ := by
        rcases hbo.2 with ⟨h1, h3⟩ | ⟨gg, cap, cur, h1, _⟩
        · omega
        · simp only [Value.slice.injEq] at h1
          exact ⟨gg, h1.1⟩
      obtain ⟨bb, hbb⟩ := hbb
      rw [hbb, hM, hbc] at hbo hcell12
      have hck := hbo.cells (g := bb) rfl k (.slice qa xs.length qc) (by
        unfold bdC
        rw [List.getElem?_map, List.getElem?_eq_getElem hkb]
        rw [List.getD_eq_getElem?_getD, List.getElem?_eq_getElem hkb] at hbd
        have hbd' : (S i).bl[k] = (xs, qa, qc) := hbd
        rw [hbd']
        rfl)
      rw [addr_add, Nat.zero_add] at hck
      obtain ⟨m, hmm⟩ : ∃ m, xs.length = m := ⟨_, rfl⟩
      rw [hmm] at hck hbs
      have HC0 := Lib.hid (show ∀ y, Ext w2 y → y.cell? ⟨gx, 6 + i, none⟩ = some (.slice (some ⟨bb, 0, none⟩) M bc) ∧ y.cell? ⟨bb, k, none⟩ = some (.slice qa m qc) ∧ BsAt y qa m qc xs from fun y hy =>
        ⟨by rw [Ext.cell hy (World.block_lt_of_cell? _ _ hcell12)]; exact hcell12, by rw [Ext.cell hy (World.block_lt_of_cell? _ _ hck)]; exact hck, hbs.ext hy⟩)
      have wK : IntKind.u64.wrap ((k : Int) + 1 - 1) = (k : Int) := by have := Hs.out; rw [IntKind.wrap_u64]; omega
      have HkM := Lib.hid (show (k : Int) < (M : Int) by omega)
      have Hxt := Lib.hid hxt
      have Hxn := Lib.hid hxn
      have Hmm := Lib.hid hmm
      have Hby := Lib.hid hbs.byte
      have Hroom := Lib.hid (show m ≤ 549755813888 from by rw [← hmm]; exact hrm)
      clear h0 hm he hn hs hw2 hE2 hB2 hg hn1 h2 hq hch HAt hin hkk hkl hkb hx hbd hxm hxt hxn hbo hby hbs hM hbc hcell12 hbb hck hmm hii hi6 Hii
      go_enter Tryd.func17, Tryd.ntmps17
      go_upto_region 1 with (fail)
      refine wp_world (w' := w2) Hw2.out ?_
      rw [Hg.out]
      clear Hw2
      go_upto_region 3 with (fail)
      go_wp2_with fail
      refine HAt2.out.mono ?_
      rintro e w4 ⟨a', c', rfl, ho4, hE4⟩
      have HO4 := Lib.hid ho4
      have HE4 := Lib.hid (HE2.out.trans hE4)
      have HB4 := Lib.hid (hE4.keep HB2.out)
      have HC4 := Lib.hid (fun y (hy : Ext w4 y) => HC0.out y (hE4.trans hy))
      have Hz4 := Lib.hid (Below.size hE4)
      obtain ⟨HV, hHV⟩ : ∃ A, hdV (reT x a' c').1 = A := ⟨_, rfl⟩
      have HHV := Lib.hid hHV
      have HHs := Lib.hid (show HV.size = 125 by rw [← hHV]; exact hdV_size _)
      have HHo := Lib.hid (show HV.all (·.oneCell') = true by rw [← hHV]; exact hdV_one _)
      rw [hHV]
      obtain ⟨w5, hw5⟩ : ∃ y, w4.alloc (.cells HV 34) = y := ⟨_, rfl⟩
      have hE5 : Ext w4 w5 := by rw [← hw5]; exact (Ext.refl w4).alloc _
      obtain ⟨gh, hgh⟩ : ∃ g, w4.heap.size = g := ⟨_, rfl⟩
      have HHd5 := Lib.hid (show w5.heap[gh]? = some (.cells HV 34 (0, 0)) by rw [← hw5]; exact heap_new w4 _ _ hgh.symm)
      have HE45 := Lib.hid hE5
      have Hw5 := Lib.hid hw5
      have Hgh := Lib.hid hgh
      clear ho4 hE4 hHV hw5 hE5 hgh HAt2 HC0 cg
      go_upto_region 4 with (refine wpList_store_row rfl 34 _ _ rfl _ _ rfl rfl _ _ (heap_new _ _ w4.heap.size rfl) (by rw [HHs.out]; kernel_rfl) (by rw [HHs.out, hdV_size]) HHo.out ?_; rw [setRow_new _ _ _ _ _ rfl])
      refine wp_world (w' := w5) Hw5.out ?_
      rw [Hgh.out]
      clear Hw5
      go_upto_region 6 with (fail)
      have HX := Lib.hid (show ∀ x, Ext w5.drew x → Ext w5 x from fun x hx => Ext.trans (Ext.refl w5).drew hx)
      have HC := Lib.hid (fun y (hy : Ext w5 y) => HC4.out y (HE45.out.trans hy))
      refine wp_region_lexT 13 (by kernel_rfl) (by kernel_rfl) ?_
      simp only [List.take_succ_cons, List.take_zero, List.drop_succ_cons, List.drop_zero]
      refine lx_e (.agg HV) [] (by kernel_rfl) rfl (by rfl) (fun w1 hw1 => ?_) ?_
      · simp only [pk, lexVals]
        exact lu_row rfl rfl ((HX.out w1 hw1).keep HHd5.out) Tryd.underlying34 rfl (by rw [HHs.out]; kernel_rfl)
      refine lx_e (.pointer (some ⟨gx, 0, none⟩)) [] (by kernel_rfl) rfl (by rfl) (fun w1 hw1 => ?_) ?_
      · simp only [pk, lexVals]
        clear hw1
        go_simp
        exact ⟨Ext.refl _, by first | rfl | simp⟩
      refine lx_e (.int .i64 ((i : Int) + 1)) [] (by kernel_rfl) rfl (by rfl) (fun w1 hw1 => ?_) ?_
      · simp only [pk, lexVals]
        clear hw1
        go_simp
        exact ⟨Ext.refl _, by first | rfl | simp⟩
      refine lx_e (.int .i64 (i : Int)) [(0, 34)] (by kernel_rfl) rfl (by rfl) (fun w1 hw1 => ?_) ?_
      · simp only [pk, nthSp, lexVals]
        have hi := Hi.out
        clear hw1
        go_simp
        exact ⟨Ext.refl _, by first | rfl | (show Value.int .i64 _ = Value.int .i64 _; congr 1; first | omega | (rw [IntKind.wrap_i64]; omega))⟩
      refine lx_e (.pointer (some ⟨gx, 0, none⟩)) [(2, 33)] (by kernel_rfl) rfl (by rfl) (fun w1 hw1 => ?_) ?_
      · simp only [pk, nthSp, lexVals]
        clear hw1
        go_simp
        exact ⟨Ext.refl _, by first | rfl | simp⟩
      refine lx_e (.pointer (some ⟨gx, 6, none⟩)) [(0, 36)] (by kernel_rfl) rfl (by rfl) (fun w1 hw1 => ?_) ?_
      · simp only [pk, nthSp, lexVals]
        clear hw1
        go_simp
        exact ⟨Ext.refl _, by first | rfl | simp⟩
      refine lx_e (.pointer (some ⟨gx, 6 + i, none⟩)) [(2, 35), (0, 37)] (by kernel_rfl) rfl (by rfl) (fun w1 hw1 => ?_) ?_
      · simp only [pk, nthSp, lexVals]
        have hi := Hi.out
        clear hw1
        go_simp
        exact ⟨Ext.refl _, by first | rfl | simp⟩
      refine lx_e (.slice (some ⟨bb, 0, none⟩) M bc) [(0, 38)] (by kernel_rfl) rfl (by rfl) (fun w1 hw1 => ?_) ?_
      · simp only [pk, nthSp, lexVals]
        have hc := (HC.out w1 (HX.out w1 hw1)).1
        clear hw1
        go_simp
        exact ⟨Ext.refl _, by first | rfl | simp⟩
      refine lx_e (.int .u64 ((k : Int) + 1)) [] (by kernel_rfl) rfl (by rfl) (fun w1 hw1 => ?_) ?_
      · simp only [pk, lexVals]
        clear hw1
        go_simp
        exact ⟨Ext.refl _, by first | rfl | simp⟩
      refine lx_e (.int .u64 (k : Int)) [(0, 40)] (by kernel_rfl) rfl (by rfl) (fun w1 hw1 => ?_) ?_
      · simp only [pk, nthSp, lexVals]
        have hi := Hs.out
        clear hw1
        go_simp
        exact ⟨Ext.refl _, by first | rfl | (show Value.int .u64 _ = Value.int .u64 _; congr 1; first | omega | (rw [IntKind.wrap_u64]; omega))⟩
      refine lx_e (.pointer (some ⟨bb, k, none⟩)) [(2, 39), (0, 41)] (by kernel_rfl) rfl (by rfl) (fun w1 hw1 => ?_) ?_
      · simp only [pk, nthSp, lexVals]
        have hi := HkM.out
        clear hw1
        go_simp
        exact ⟨Ext.refl _, by first | rfl | simp⟩
      refine lx_e (.slice qa m qc) [(0, 42)] (by kernel_rfl) rfl (by rfl) (fun w1 hw1 => ?_) ?_
      · simp only [pk, nthSp, lexVals]
        have hc := (HC.out w1 (HX.out w1 hw1)).2.1
        clear hw1
        go_simp
        exact ⟨Ext.refl _, by first | rfl | simp⟩
      refine lx_a (fun u w => ∃ a c, u = .slice a m c ∧ w.ownsRow w5.heap.size 5 1 (.slice a m c) m (bv xs)) [(0, 43)] (by kernel_rfl) rfl (by rfl) (fun u w w' he ⟨a, c, h1, h2⟩ => ⟨a, c, h1, own_ext9 h2 he⟩) (fun w1 hw1 => ?_) ?_
      · simp only [pk, nthSp, lexVals]
        have HM := Lib.hid (clone_any qa m qc xs w1 (HC.out w1 (HX.out w1 hw1)).2.2)
        have hz := Below.size (HX.out w1 hw1)
        clear hw1
        go_simp
        refine HM.out.mono ?_
        rintro e w3 ⟨v, rfl, hs, hE3⟩
        obtain ⟨a, c, rfl, -, -⟩ := owns_slice hs
        exact ⟨_, rfl, hE3, a, c, rfl, own_mono hs hz⟩
      refine lx_stopT (by rfl) (by decide) fun w6 hw6 => ?_
      have HE6 := Lib.hid (HX.out w6 hw6)
      clear hw6 HX HC HC4
      simp only [rv, pf, lexVals, List.drop_succ_cons, List.drop_zero]
      rintro u44 ⟨a, c, rfl, h44⟩
      simp only [Act.put, List.setIfInBounds_toArray, List.set_cons_zero, List.set_cons_succ]
      obtain ⟨A, hA⟩ : ∃ A, pcV (gotP x a' c' a c xs) = A := ⟨_, rfl⟩
      have HAe := Lib.hid hA
      have HAs := Lib.hid (show A.size = 126 by rw [← hA]; exact pcV_size _)
      have HAo := Lib.hid (show A.all (·.oneCell') = true by rw [← hA]; exact pcV_one _)
      have HB6 := Lib.hid (HE6.out.keep (HE45.out.keep HB4.out))
      have H44 := Lib.hid h44
      clear hA h44
      go_wp2_with (first
        | (refine wp_build_pcW rfl _ _ rfl (gotP x a' c' a c xs) HV HHV.out m Hmm.out rfl rfl A HAe.out ?_)
        | (refine wpList_store_row rfl 37 _ _ rfl _ _ rfl rfl _ _ HB6.out (by rw [HAs.out]; kernel_rfl) (by rw [HAs.out, pcV_size]) HAo.out ?_))
      have hgg := Hg.out
      refine bodyPost_ret (results_row_tmp rfl _ _ g _ _ _ _ rfl (setRow_heap _ g _ _ _ _ HB6.out) Tryd.underlying37 rfl (by rw [HAs.out]; kernel_rfl)) rfl ?_
      have hzg : g < w2.heap.size := (Array.getElem?_eq_some_iff.1 HB2.out).1
      have hz4 := Hz4.out
      have hG7 : w6.grownBy (w6.setRow g A) (some g) := ⟨rfl, rfl, rfl, by simp, fun i _ hne => setRow_other w6 g i _ (fun e => hne (by rw [e]))⟩
      have hz45 := Below.size HE45.out
      refine HG.out _ _ ⟨a', c', a, c, by rw [HAe.out]; rfl, ?_⟩ (below_setRow (HE4.out.trans (HE45.out.trans HE6.out)) (by omega) _)
      have hT := (own_ext9 HO4.out (HE45.out.trans HE6.out)).kept hG7 (Or.inr fun e => by
        have := (HO4.out.lt g e).1
        omega)
      have h45 := H44.out.kept hG7 (Or.inr fun e => by
        have := (H44.out.lt g e).1
        omega)
      have hzw2 := Below.size HE2.out
      have hzw5 := Below.size HE4.out
      refine ⟨⟨reT_at Hxt.out.ok Hxt.out.toks.byte Hxn.out hT, ?_, by show xs.length ≤ _; rw [Hmm.out]; exact Hroom.out⟩, own_mono hT hzw2, ?_⟩
      · show BsAt _ a xs.length c xs
        rw [Hmm.out]
        have h46 := h45
        obtain ⟨_, cc, e, _, h2⟩ := owns_slice1 h46
        simp only [Value.slice.injEq, true_and] at e
        obtain ⟨rfl, rfl⟩ := e
        exact owns_bs h46 Hby.out (by unfold maxLen at h2; omega) (by have := Hroom.out; omega)
      · show World.ownsRow _ _ _ _ (.slice a xs.length c) xs.length (bv xs)
        rw [Hmm.out]
        exact own_mono h45 (by omega)
    · have hno : ¬ (1 ≤ (i : Int) + 1 ∧ (i : Int) + 1 ≤ 6 ∧ 1 ≤ s ∧ s ≤ ((S ((i : Int) + 1 - 1).toNat).l.length : Int)) := by rw [hii]; omega
      have Hno := Lib.hid hno
      have HAt2 := Lib.hid (HAt.out.mono (R' := fun e w' => e = .returned (.tuple #[.agg (hdV hdN), .bool false]) ∧ Ext w2 w') fun e w' ⟨h3, _, h4⟩ => ⟨h3 hin, h4⟩)
      obtain ⟨HV, hHV⟩ : ∃ A, hdV hdN = A := ⟨_, rfl⟩
      have HHs := Lib.hid (show HV.size = 125 by rw [← hHV]; exact hdV_size _)
      have HHo := Lib.hid (show HV.all (·.oneCell') = true by rw [← hHV]; exact hdV_one _)
      rw [hHV] at HAt2
      clear h0 hm he hn hs hw2 hE2 hB2 hg hn1 h2 hq hch HAt hin hii hi6 Hii hHV hno
      go_enter Tryd.func17, Tryd.ntmps17
      go_upto_region 1 with (fail)
      refine wp_world (w' := w2) Hw2.out ?_
      rw [Hg.out]
      clear Hw2
      go_upto_region 3 with (fail)
      go_wp2_with fail
      refine HAt2.out.mono ?_
      rintro e w4 ⟨rfl, hE4⟩
      have HB4 := Lib.hid (hE4.keep HB2.out)
      have HE4 := Lib.hid (HE2.out.trans hE4)
      obtain ⟨w5, hw5⟩ : ∃ y, w4.alloc (.cells HV 34) = y := ⟨_, rfl⟩
      have hE5 : Ext w4 w5 := by rw [← hw5]; exact (Ext.refl w4).alloc _
      have HB5 := Lib.hid (hE5.keep HB4.out)
      have HE5 := Lib.hid (HE4.out.trans hE5)
      have Hw5 := Lib.hid hw5
      clear hE4 hw5 hE5 HAt2 cg
      go_upto_region 4 with (refine wpList_store_row rfl 34 _ _ rfl _ _ rfl rfl _ _ (heap_new _ _ w4.heap.size rfl) (by rw [HHs.out]; kernel_rfl) (by rw [HHs.out, hdV_size]) HHo.out ?_; rw [setRow_new _ _ _ _ _ rfl])
      refine wp_world (w' := w5) Hw5.out ?_
      clear Hw5
      go_upto_region 5 with (fail)
      rw [← HZc.out] at *
      go_wp2_with (refine wpList_store_row rfl 37 _ _ rfl _ _ rfl rfl _ _ HB5.out (by kernel_rfl) rfl (by kernel_rfl) ?_)
      have hgg := Hg.out
      refine bodyPost_ret (results_row_tmp rfl _ _ g _ _ _ _ rfl (setRow_heap _ g _ _ _ _ HB5.out) Tryd.underlying37 rfl (by kernel_rfl)) rfl ?_
      have := getNone (g := g) Hno.out HE5.out (by omega)
      first | exact this | (rw [HZc.out]; exact this) | (rw [HZc.out] at this ⊢; exact this)
  · have hno : ¬ (1 ≤ n ∧ n ≤ 6 ∧ 1 ≤ s ∧ s ≤ ((S (n - 1).toNat).l.length : Int)) := fun h => hn1 ⟨h.1, h.2.1⟩
    have Hno := Lib.hid hno
    clear h0 hm he hs hw2 hE2 hB2 hg hno
    by_cases hlo : n < 1
    · clear hn1 hn
      go_enter Tryd.func17, Tryd.ntmps17
      go_upto_region 1 with (fail)
      refine wp_world (w' := w2) Hw2.out ?_
      rw [Hg.out]
      clear Hw2
      go_upto_region 2 with (fail)
      go_wp2_with (refine wpList_store_row rfl 37 _ _ rfl _ _ rfl rfl _ _ HB2.out (by kernel_rfl) rfl (by kernel_rfl) ?_)
      have hgg := Hg.out
      refine bodyPost_ret (results_row_tmp rfl _ _ g _ _ _ _ rfl (setRow_heap _ g _ _ _ _ HB2.out) Tryd.underlying37 rfl (by kernel_rfl)) rfl ?_
      have := getNone (g := g) Hno.out HE2.out (by omega)
      rw [← HZc.out] at this
      exact this
    · have hhi : 6 < n := by omega
      clear hn1 hn
      go_enter Tryd.func17, Tryd.ntmps17
      go_upto_region 1 with (fail)
      refine wp_world (w' := w2) Hw2.out ?_
      rw [Hg.out]
      clear Hw2
      go_upto_region 2 with (fail)
      go_wp2_with (refine wpList_store_row rfl 37 _ _ rfl _ _ rfl rfl _ _ HB2.out (by kernel_rfl) rfl (by kernel_rfl) ?_)
      have hgg := Hg.out
      refine bodyPost_ret (results_row_tmp rfl _ _ g _ _ _ _ rfl (setRow_heap _ g _ _ _ _ HB2.out) Tryd.underlying37 rfl (by kernel_rfl)) rfl ?_
      have := getNone (g := g) Hno.out HE2.out (by omega)
      rw [← HZc.out] at this
      exact this

theorem ixGet_any {w : World} {B gx : Nat} {G : Nat → Nat} {S : Nat → CSt} {cnt : Int} (h0 : IxAt w B gx G S cnt) (hm : Modest S) (he : Even S) (n s : Int) (hn : -9223372036854775808 ≤ n ∧ n ≤ 9223372036854775807) (hs : 0 ≤ s ∧ s < 18446744073709551616) :
    Calls Tryd.prog 17 #[.pointer (some ⟨gx, 0, none⟩), .int .i64 n, .int .u64 s] w fun e w' => GetSays S n s w e w' :=
  (ixGetO_any h0 hm he n s hn hs).mono fun _ _ h => h.says

end Go.Proofs.YtihlpfdhallfpaaDoor
