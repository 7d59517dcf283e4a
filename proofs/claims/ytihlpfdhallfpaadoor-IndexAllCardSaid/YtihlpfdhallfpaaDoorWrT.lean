/-
  The walks of jalousieref13.Tip and jalousielaw13.Behind. Asked: the tables lie as the text lays them.
  A chain beside a list of headers: what the laws' loops keep. No conditions.
-/
import Derived.Test.YtihlpfdhallfpaaDoorChain
import Derived.Test.YtihlpfdhallfpaaDoorRefHdB
import Derived.Test.YtihlpfdhallfpaaDoorRefH12
import Derived.Test.YtihlpfdhallfpaaDoorHdEq
namespace Go.Proofs.YtihlpfdhallfpaaDoor
open Go.ChangeAt Go.ChangeShapes Go.RowKit Go.WideShapes

theorem zh_box (w : World) : ∃ w2, w.alloc (.cells (rowArr 32 fun _ => .int .u8 0) 28) = w2 ∧ Ext w w2 ∧ w2.heap[w.heap.size]? = some (.cells (rowArr 32 fun _ => .int .u8 0) 28 (0, 0)) := ⟨_, rfl, (Ext.refl w).alloc _, heap_new w _ _ rfl⟩

/-- The last header's hash. -/
def tipF (l : List HT) : Nat → Int := if l.length = 0 then fun _ => 0 else shaF (bytesL (l.getD (l.length - 1) htN).1 (l.getD (l.length - 1) htN).2)
theorem tipF_snoc (l : List HT) (x : HT) : tipF (l ++ [x]) = shaF (bytesL x.1 x.2) := by
  unfold tipF
  rw [if_neg (by simp), List.length_append]
  simp

set_option maxHeartbeats 2000000 in
set_option maxRecDepth 100000 in
theorem refTip_any (a : Option Addr) (n c : Nat) (l : List HT) (w : World) (h : HsAt w a n c l) (hk : KsAt 0 w) :
    Calls Tryd.prog 59 #[.slice a n c] w fun e w' => e = .returned (.agg (rowArr 32 fun j => .int .u8 (tipF l j))) ∧ Ext w w' := by
  obtain ⟨w2, hw2, hE2, hB2⟩ := zh_box w
  have hz := zero_h32
  have hsm := h.small
  have hl := h.len
  have Hw2 := Lib.hid hw2
  have HE2 := Lib.hid hE2
  have HB2 := Lib.hid hB2
  have HH := Lib.hid (h.ext hE2)
  have HK := Lib.hid (hdKs_ext hk hE2)
  obtain ⟨p, hp⟩ : ∃ p, w.heap.size = p := ⟨_, rfl⟩
  rw [hp] at HB2
  have Hp := Lib.hid hp
  clear hw2 hE2 hB2 hp h hk
  by_cases hn : n = 0
  · subst hn
    have HT := Lib.hid (show tipF l = fun _ => 0 by unfold tipF; rw [if_pos hl])
    clear hl
    go_enter Tryd.func59, Tryd.ntmps59
    go_upto_region 1 with (fail)
    refine wp_world (w' := w2) Hw2.out ?_
    rw [Hp.out]
    clear Hw2
    go_wp2_with (refine wpList_store_row rfl 28 _ _ rfl _ _ rfl rfl _ _ HB2.out (by kernel_rfl) (by simp only [rowArr_size]) (rowArr_one fun _ _ => rfl) ?_)
    have hpp := Hp.out
    exact bodyPost_ret (results_cell_row rfl _ _ p _ _ _ _ rfl (setRow_heap _ p _ _ _ _ HB2.out) Tryd.underlying28 rfl (by kernel_rfl)) rfl ⟨by rw [HT.out], below_setRow HE2.out (by omega) _⟩
  · obtain ⟨b, off, rfl, hcell⟩ := HH.out.at_ (by omega)
    obtain ⟨k, hk⟩ : ∃ k, n = k + 1 := ⟨n - 1, by omega⟩
    subst hk
    obtain ⟨x, hx⟩ : ∃ x, l.getD k htN = x := ⟨_, rfl⟩
    have HXt := Lib.hid (show HtAt w2 x by rw [← hx]; exact HH.out.get k (by omega))
    have hr := range_hd (hcell k (by omega))
    rw [hx] at hr
    have Hr := Lib.hid hr
    have HT := Lib.hid (show tipF l = shaF (bytesL x.1 x.2) by unfold tipF; rw [if_neg (by omega), hl, show k + 1 - 1 = k by omega, hx])
    have HM := Lib.hid (refHash12_any x.1 x.2 w2 HXt.out.ok HXt.out.toks HK.out)
    have x1 : ¬ ((k + 1 : Nat) : Int) = 0 := by omega
    have x2 : (((k + 1 : Nat) : Int) == 0) = false := beq_eq_false_iff_ne.2 x1
    have x3 : ((k + 1 : Nat) : Int) - 1 = (k : Int) := by omega
    have x4 : (k : Int) < ((k + 1 : Nat) : Int) := by omega
    have x5 : (0 : Int) ≤ (k : Int) := by omega
    obtain ⟨NN, hNN⟩ : ∃ NN, ((k + 1 : Nat) : Int) = NN := ⟨_, rfl⟩
    rw [hNN] at x1 x2 x3 x4
    have wS : IntKind.i64.wrap (NN - 1) = (k : Int) := by rw [x3, IntKind.wrap_i64]; omega
    have HNN := Lib.hid hNN
    clear hr hcell hx hl
    go_enter Tryd.func59, Tryd.ntmps59
    go_upto_region 1 with (fail)
    refine wp_world (w' := w2) Hw2.out ?_
    rw [Hp.out]
    clear Hw2
    go_upto_region 3 with (fail)
    go_wp2_with (refine wpList_load_mid rfl 34 _ rfl b (off + k * 125) rfl (hdL x.1) _ Hr.out Tryd.underlying34 rfl (by rw [hdL_length]; kernel_rfl) ?_; rw [hdL_arr])
    refine HM.out.mono ?_
    rintro e w3 ⟨rfl, hE⟩
    have HB3 := Lib.hid (hE.keep HB2.out)
    have HE3 := Lib.hid (HE2.out.trans hE)
    obtain ⟨F, hF⟩ : ∃ F, shaF (bytesL x.1 x.2) = F := ⟨_, rfl⟩
    have HF := Lib.hid hF
    rw [hF]
    clear hE HM hF
    go_wp2_with (refine wpList_store_row rfl 28 _ _ rfl _ _ rfl rfl _ _ HB3.out (by kernel_rfl) (by simp only [rowArr_size]) (rowArr_one fun _ _ => rfl) ?_)
    have hpp := Hp.out
    exact bodyPost_ret (results_cell_row rfl _ _ p _ _ _ _ rfl (setRow_heap _ p _ _ _ _ HB3.out) Tryd.underlying28 rfl (by kernel_rfl)) rfl ⟨by rw [HT.out, HF.out], below_setRow HE3.out (by omega) _⟩

/-- The header made to stand behind others. -/
def bhd (l : List HT) (wr : Int) (x : HT) : HT := ({ x.1 with writer := wr, seq := (l.length : Int) + 1, prev := tipF l, knows := fun i => if i = (wr - 1).toNat then (l.length : Int) else x.1.knows i }, x.2)

set_option maxHeartbeats 4000000 in
set_option maxRecDepth 100000 in
theorem behind_any (a : Option Addr) (n c : Nat) (l : List HT) (wr : Int) (x : HT) (w : World) (h : HsAt w a n c l) (hn : n ≤ 100000) (hw : 1 ≤ wr ∧ wr ≤ 6) (hk : KsAt 0 w) :
    Calls Tryd.prog 39 #[.slice a n c, .int .i64 wr, .agg (hdV x.1)] w fun e w' => e = .returned (.agg (hdV (bhd l wr x).1)) ∧ Ext w w' := by
  obtain ⟨w2, hw2, hE2, hB2, hZ2, hs2⟩ := hd2_box w (hdV x.1) (hdV hdN) 34 34
  have hz := hdZ0
  have hl := h.len
  have HH := Lib.hid h
  have HK := Lib.hid hk
  have Hw2 := Lib.hid hw2
  have HE2 := Lib.hid hE2
  have HB2 := Lib.hid hB2
  have HZ2 := Lib.hid hZ2
  have Hs2 := Lib.hid hs2
  obtain ⟨p, hp⟩ : ∃ p, w.heap.size = p := ⟨_, rfl⟩
  rw [hp] at HB2 HZ2
  have Hp := Lib.hid hp
  have Hl := Lib.hid hl
  obtain ⟨k, hkw⟩ : ∃ k : Nat, wr = (k : Int) + 1 ∧ k < 6 := ⟨(wr - 1).toNat, by omega, by omega⟩
  obtain ⟨hkw, hk6⟩ := hkw
  have wN1 : IntKind.i64.wrap ((n : Int) + 1) = (n : Int) + 1 := by rw [IntKind.wrap_i64]; omega
  have wN2 : IntKind.u64.wrap ((n : Int) + 1) = (n : Int) + 1 := by rw [IntKind.wrap_u64]; omega
  have wN3 : IntKind.u64.wrap (n : Int) = (n : Int) := by rw [IntKind.wrap_u64]; omega
  have wW : IntKind.i64.wrap (wr - 1) = (k : Int) := by rw [IntKind.wrap_i64]; omega
  have hr2 : w2.rowIs p 34 125 (hdC x.1) := rowIs_of HB2.out
  have c0 := hr2.cell (i := 0) (by omega)
  have f0 := hr2.frozen 0
  have HR2 := Lib.hid hr2
  have HKw := Lib.hid hkw
  clear h hk hw2 hE2 hB2 hZ2 hs2 hp hr2 hkw hl
  go_enter Tryd.func39, Tryd.ntmps39
  go_upto_region 1 with (fail)
  refine wp_world (w' := w2) Hw2.out ?_
  rw [Hp.out]
  clear Hw2
  go_upto_region 2 with (fail)
  obtain ⟨w3, hw3⟩ : ∃ w3, w2.setCell ⟨p, 0, none⟩ (.int .i64 wr) = w3 := ⟨_, rfl⟩
  have hG3 : w2.grownBy w3 (some p) := by rw [← hw3]; exact grown_setCell (World.grownBy.refl w2 _) rfl _
  have hr3 : w3.rowIs p 34 125 (hdC { x.1 with writer := wr }) := by rw [← hw3]; exact (HR2.out.set 0 _).congr (hdC_set0 x.1 wr)
  refine wp_world (w' := w3) hw3 ?_
  have c1 := hr3.cell (i := 1) (by omega)
  have f1 := hr3.frozen 1
  have HG3 := Lib.hid hG3
  have HR3 := Lib.hid hr3
  clear hw3 hG3 hr3 c0 f0
  go_upto_region 3 with (fail)
  obtain ⟨w4, hw4⟩ : ∃ w4, w3.setCell ⟨p, 1, none⟩ (.int .u64 ((n : Int) + 1)) = w4 := ⟨_, rfl⟩
  have hG4 : w2.grownBy w4 (some p) := by rw [← hw4]; exact grown_setCell HG3.out rfl _
  have hr4 : w4.rowIs p 34 125 (hdC { x.1 with writer := wr, seq := (n : Int) + 1 }) := by rw [← hw4]; exact (HR3.out.set 1 _).congr (hdC_set1 { x.1 with writer := wr } ((n : Int) + 1))
  refine wp_world (w' := w4) hw4 ?_
  have hE4 : Ext w w4 := HE2.out.grown hG4 (Below.size HE2.out) (fun k e => by have := Option.some.inj e; have := Hp.out; omega)
  have HG4 := Lib.hid hG4
  have HR4 := Lib.hid hr4
  have HE4 := Lib.hid hE4
  clear hw4 hG4 hr4 hE4 c1 f1
  go_wp2_with fail
  refine (refTip_any a n c l w4 (HH.out.ext HE4.out) (hdKs_ext HK.out HE4.out)).mono ?_
  rintro e w5 ⟨rfl, hE⟩
  have HR5 := Lib.hid (HR4.out.of_block (hE.block HR4.out.lt))
  obtain ⟨T, hT⟩ : ∃ T, tipF l = T := ⟨_, rfl⟩
  rw [hT]
  have HT := Lib.hid hT
  have HTh := Lib.hid (show w5.there p 2 (rowArr 32 fun j => Value.int .u8 (T j)).size from fun j hj => by
    rw [rowArr_size] at hj
    exact ⟨by rw [HR5.out.cell (i := 2 + j) (by omega)]; rfl, HR5.out.frozen _⟩)
  have HG5 := Lib.hid (grown_trans HG4.out (grown_ext hE _))
  clear hE hT
  go_upto_region 4 with (refine wpList_store_mid rfl 28 _ _ rfl p 2 (rowArr 32 fun j => .int .u8 (T j)) rfl rfl HTh.out (by rw [rowArr_size]; kernel_rfl) (rowArr_one fun _ _ => rfl) ?_)
  obtain ⟨w6, hw6⟩ : ∃ w6, w5.setCells p 2 (rowArr 32 fun j => Value.int .u8 (T j)).toList = w6 := ⟨_, rfl⟩
  have hG6 : w2.grownBy w6 (some p) := by rw [← hw6]; exact grown_setCells _ _ _ HG5.out
  have hr6 : w6.rowIs p 34 125 (hdC { x.1 with writer := wr, seq := (n : Int) + 1, prev := T }) := by
    rw [← hw6]
    refine ((rowIs_setCells _ 2 _ _ HR5.out).congr fun j hj => ?_).congr (hdC_setP { x.1 with writer := wr, seq := (n : Int) + 1 } T)
    rw [Array.length_toList, rowArr_size]
    by_cases h1 : 2 ≤ j ∧ j < 2 + 32
    · rw [if_pos h1, if_pos (by omega), List.getD_eq_getElem?_getD, Array.getElem?_toList, rowArr_get _ _ _ (by omega)]
      rfl
    · rw [if_neg h1, if_neg (by omega)]
  refine wp_world (w' := w6) hw6 ?_
  have ck := hr6.cell (i := 54 + k) (by omega)
  have fk := hr6.frozen (54 + k)
  have x1 : (k : Int) < 6 := by omega
  have x2 : (0 : Int) ≤ (k : Int) := by omega
  have HG6 := Lib.hid hG6
  have HR6 := Lib.hid hr6
  clear hw6 hG6 hr6
  go_upto_region 5 with (fail)
  obtain ⟨w7, hw7⟩ : ∃ w7, w6.setCell ⟨p, 54 + k, none⟩ (.int .u64 (n : Int)) = w7 := ⟨_, rfl⟩
  have hG7 : w2.grownBy w7 (some p) := by rw [← hw7]; exact grown_setCell HG6.out rfl _
  have hr7 : w7.rowIs p 34 125 (hdC (bhd l wr x).1) := by
    rw [← hw7]
    refine ((HR6.out.set (54 + k) _).congr (hdC_setK1 { x.1 with writer := wr, seq := (n : Int) + 1, prev := T } k hk6 (n : Int))).congr fun j _ => ?_
    unfold bhd
    rw [Hl.out, HT.out, show (wr - 1).toNat = k by have := HKw.out; omega]
  refine wp_world (w' := w7) hw7 ?_
  have HR7 := Lib.hid (rowIs_cells hr7)
  have HZ7 := Lib.hid (show w7.heap[p + 1]? = some (.cells (hdV hdN) 34 (0, 0)) by
    rw [hG7.block (p + 1) (Array.getElem?_eq_some_iff.1 HZ2.out).1 (fun e => by have := Option.some.inj e; omega)]
    exact HZ2.out)
  have HE7 := Lib.hid (show Ext w w7 from HE2.out.grown hG7 (Below.size HE2.out) (fun k e => by have := Option.some.inj e; have := Hp.out; omega))
  have HA := Lib.hid (hdV_size (bhd l wr x).1)
  have HAo := Lib.hid (hdV_one (bhd l wr x).1)
  have HAd := Lib.hid (show rowArr 125 (hdC (bhd l wr x).1) = hdV (bhd l wr x).1 from rfl)
  obtain ⟨A, hA⟩ : ∃ A, hdV (bhd l wr x).1 = A := ⟨_, rfl⟩
  have HAe := Lib.hid hA
  rw [hA] at HA HAo HAd
  rw [HAd.out] at HR7
  clear hw7 hG7 hr7 ck fk hA
  go_wp2_with (first
    | (refine wpList_load_rowW rfl 34 _ rfl p rfl _ _ _ _ HR7.out Tryd.underlying34 rfl (by rw [HA.out]; kernel_rfl) ?_)
    | (refine wpList_store_row rfl 34 _ _ rfl _ _ rfl rfl _ _ HZ7.out (by rw [HA.out]; kernel_rfl) (by rw [HA.out, hdV_size]) HAo.out ?_))
  have hpp := Hp.out
  exact bodyPost_ret (results_cell_row rfl _ _ (p + 1) _ _ _ _ rfl (setRow_heap w7 (p + 1) _ _ _ _ HZ7.out) Tryd.underlying34 rfl (by rw [HA.out]; kernel_rfl)) rfl
    ⟨by rw [HAe.out], below_setRow HE7.out (by omega) _⟩

theorem shaF_by (xs : List Int) (j : Nat) : 0 ≤ shaF xs j ∧ shaF xs j < 256 := by
  unfold shaF
  exact getD_byte (beB_byte _ _) _
theorem tipF_by (l : List HT) (j : Nat) : 0 ≤ tipF l j ∧ tipF l j < 256 := by
  unfold tipF
  split
  · exact ⟨Int.le_refl 0, by show (0 : Int) < 256; omega⟩
  · exact shaF_by _ _
theorem bhd_at {w : World} {l : List HT} {wr : Int} {x : HT} (h : HtAt w x) (hl : l.length ≤ 100000) (hw : 1 ≤ wr ∧ wr ≤ 6) : HtAt w (bhd l wr x) :=
  ⟨⟨show -9223372036854775808 ≤ wr ∧ wr ≤ 9223372036854775807 from ⟨by omega, by omega⟩, show 0 ≤ (l.length : Int) + 1 ∧ (l.length : Int) + 1 < 18446744073709551616 from ⟨by omega, by omega⟩, fun j _ => tipF_by l j, h.ok.epoch, h.ok.time, h.ok.item,
    fun j hj => by
      show 0 ≤ (if j = (wr - 1).toNat then (l.length : Int) else x.1.knows j) ∧ (if j = (wr - 1).toNat then (l.length : Int) else x.1.knows j) < 18446744073709551616
      have := h.ok.knows j hj
      split <;> omega, h.ok.sum, h.ok.size, h.ok.code⟩, h.toks⟩
theorem HsAt.range {w : World} {a : Option Addr} {n c : Nat} {l : List HT} (h : HsAt w a n c l) (k : Nat) (hk : k < n) : ∃ b off, a = some ⟨b, off, none⟩ ∧ w.rangeAt b (off + k * 125) (hdL (l.getD k htN).1) := by
  obtain ⟨b, off, ha, hc⟩ := h.at_ (by omega)
  exact ⟨b, off, ha, range_hd (hc k hk)⟩
/-- A chain, another row having turned. -/
theorem ChAt.other {w w' : World} {B g : Nat} {wr : Int} {a : Option Addr} {c : Nat} {l : List HT} {T : Nat → Int} (h : ChAt w B g wr a c l T) {row : Option Nat} (hG : w.grownBy w' row)
    (h1 : row ≠ some g) (h2 : ∀ k, row = some k → (Value.slice a l.length c).ownBlock ≠ some k) (h3 : ∀ x ∈ l, 0 < x.1.tn → ∀ b off, x.1.ta = some ⟨b, off, none⟩ → some b ≠ row) : ChAt w' B g wr a c l T := by
  refine ⟨h.row.of_block (hG.block g h.row.lt (fun e => h1 e.symm)), h.own.kept hG ?_, fun x hx => ?_, h.low, h.ne, h.far⟩
  · cases hv : (Value.slice a l.length c).ownBlock with
    | none => exact .inl rfl
    | some k => exact .inr (fun e => h2 k e.symm hv)
  · have hx1 := h.each x hx
    refine ⟨hx1.ok, hx1.toks.blk fun h0 b off hta => ?_⟩
    exact hG.block b (hx1.lt h0 hta) (h3 x hx h0 b off hta)

/-- A chain and a list: the same headers. -/
structure WSt (w wr : World) (B g : Nat) (wv : Int) (lc lh : List HT) (ac : Option Addr) (cc : Nat) (ah : Option Addr) (ch : Nat) : Prop where
  chn : ChAt wr B g wv ac cc lc (tipF lh)
  own : wr.ownsRow B 34 125 (.slice ah lh.length ch) lh.length (hsC lh)
  len : lc.length = lh.length
  eq : ∀ i, i < lc.length → HdEq (lc.getD i htN).1 (lh.getD i htN).1 (lc.getD i htN).2 (lh.getD i htN).2
  src : ∀ x ∈ lh, HtAt w x
  tnc : ∀ x ∈ lc, x.1.tn ≤ 1000000
  ext : Ext w wr
  neg : (Value.slice ah lh.length ch).ownBlock ≠ some g
  nec : ∀ k, (Value.slice ah lh.length ch).ownBlock = some k → (Value.slice ac lc.length cc).ownBlock ≠ some k
  far : ∀ x ∈ lc, 0 < x.1.tn → ∀ b off, x.1.ta = some ⟨b, off, none⟩ → some b ≠ (Value.slice ah lh.length ch).ownBlock
  low : w.heap.size ≤ B
  hi : B ≤ wr.heap.size

section
variable {w wr w' : World} {B g : Nat} {wv : Int} {lc lh : List HT} {ac : Option Addr} {cc : Nat} {ah : Option Addr} {ch : Nat}
theorem WSt.more (h : WSt w wr B g wv lc lh ac cc ah ch) (he : Ext wr w') : WSt w w' B g wv lc lh ac cc ah ch :=
  ⟨h.chn.ext he, own_ext9 h.own he, h.len, h.eq, h.src, h.tnc, h.ext.trans he, h.neg, h.nec, h.far, h.low, Nat.le_trans h.hi (Below.size he)⟩
theorem WSt.hs (h : WSt w wr B g wv lc lh ac cc ah ch) (hl : lh.length ≤ 100000) : HsAt wr ah lh.length ch lh := own_hs h.own (fun x hx => (h.src x hx).ext h.ext) (by omega)
theorem WSt.begin (h : ChAt wr B g wv none 0 [] (fun _ => 0)) (he : Ext w wr) (hlow : w.heap.size ≤ B) (hhi : B ≤ wr.heap.size) : WSt w wr B g wv [] [] none 0 none 0 :=
  ⟨h, World.ownsRow_nil _ _ _ _, rfl, fun i hi => (by simp at hi), fun x hx => (by cases hx), fun x hx => (by cases hx), he, by simp [Value.ownBlock], fun k e => by simp [Value.ownBlock] at e, fun x hx => (by cases hx), hlow, hhi⟩

/-- A header has been put into the chain; the list waits for it. -/
structure WMid (w wr : World) (B g : Nat) (wv : Int) (lc lh : List HT) (x y : HT) (ac : Option Addr) (cc : Nat) (ah : Option Addr) (ch : Nat) : Prop where
  chn : ChAt wr B g wv ac cc (lc ++ [y]) (shaF (bytesL x.1 x.2))
  own : wr.ownsRow B 34 125 (.slice ah lh.length ch) lh.length (hsC lh)
  len : lc.length = lh.length
  eq : ∀ i, i < lc.length → HdEq (lc.getD i htN).1 (lh.getD i htN).1 (lc.getD i htN).2 (lh.getD i htN).2
  eqx : HdEq y.1 x.1 y.2 x.2
  src : ∀ x ∈ lh, HtAt w x
  srx : HtAt w x
  tnc : ∀ x ∈ lc ++ [y], x.1.tn ≤ 1000000
  ext : Ext w wr
  neg : (Value.slice ah lh.length ch).ownBlock ≠ some g
  nec : ∀ k, (Value.slice ah lh.length ch).ownBlock = some k → (Value.slice ac (lc ++ [y]).length cc).ownBlock ≠ some k
  far : ∀ x ∈ lc ++ [y], 0 < x.1.tn → ∀ b off, x.1.ta = some ⟨b, off, none⟩ → some b ≠ (Value.slice ah lh.length ch).ownBlock
  low : w.heap.size ≤ B
  hi : B ≤ wr.heap.size
theorem WMid.more {x y : HT} (h : WMid w wr B g wv lc lh x y ac cc ah ch) (he : Ext wr w') : WMid w w' B g wv lc lh x y ac cc ah ch :=
  ⟨h.chn.ext he, own_ext9 h.own he, h.len, h.eq, h.eqx, h.src, h.srx, h.tnc, h.ext.trans he, h.neg, h.nec, h.far, h.low, Nat.le_trans h.hi (Below.size he)⟩

theorem WSt.put (h : WSt w wr B g wv lc lh ac cc ah ch) {x : HT} (hx : HtAt w x) (hxn : x.1.tn ≤ 1000000) {a2 : Option Addr} {c2 : Nat} {ta : Option Addr} {tc : Nat} (ha : AddTo wr w' B g wv ac cc lc x a2 c2 ta tc) : WMid w w' B g wv lc lh x (reT x ta tc) a2 c2 ah ch := by
  have hst := ha.step
  have hol : ∀ k, (Value.slice ac lc.length cc).ownBlock = some k → B ≤ k := fun k e => (h.chn.own.lt k e).1
  have hoh : ∀ k, (Value.slice ah lh.length ch).ownBlock = some k → B ≤ k ∧ k < wr.heap.size := fun k e => h.own.lt k e
  have hlow := h.chn.low
  have hl2 : (lc ++ [reT x ta tc]).length = lc.length + 1 := by simp
  have hE : Ext w w' := OutStep.ext h.ext hst (by have := h.low; omega) (fun r e => by have := hol r e; have := h.low; omega)
  refine ⟨ha.ch, ?_, h.len, h.eq, reT_eq x ta tc, h.src, hx, fun y hy => ?_, hE, h.neg, fun k e => ?_, fun y hy h0 b off hta => ?_, h.low, Nat.le_trans h.hi hst.size⟩
  · rcases h.own.2 with ⟨h1, h2⟩ | ⟨q, cap, cur, h1, h2, h3, h4⟩
    · exact ⟨h.own.1, .inl ⟨h1, h2⟩⟩
    · have hq : (Value.slice ah lh.length ch).ownBlock = some q := by rw [h1]; rfl
      refine ⟨h.own.1, .inr ⟨q, cap, cur, h1, h2, ?_, h4⟩⟩
      rw [hst.block q (hoh q hq).2 (fun e => h.neg (by rw [hq, e])) (fun e => h.nec q hq e.symm)]
      exact h3
  · rcases List.mem_append.1 hy with hy | hy
    · exact h.tnc y hy
    · obtain rfl := List.mem_singleton.1 hy
      exact hxn
  · rw [hl2]
    intro e2
    rcases hst.row k e2 with h1 | h1
    · exact h.nec k e h1
    · have := (hoh k e).2
      omega
  · rcases List.mem_append.1 hy with hy | hy
    · exact h.far y hy h0 b off hta
    · obtain rfl := List.mem_singleton.1 hy
      intro e
      have h1 := ha.new b (by rw [show ta = some ⟨b, off, none⟩ from hta]; rfl)
      have := (hoh b e.symm).2
      omega

/-- The list gets it too. -/
theorem WMid.push {x y : HT} (h : WMid w wr B g wv lc lh x y ac cc ah ch) {a2 : Option Addr} {c2 : Nat} (ho : w'.ownsRow B 34 125 (.slice a2 (lh.length + 1) c2) (lh.length + 1) (hsC (lh ++ [x])))
    (hG : wr.grownBy w' (Value.slice ah lh.length ch).ownBlock) (hw : (Value.slice a2 (lh.length + 1) c2).ownBlock = (Value.slice ah lh.length ch).ownBlock ∨ (Value.slice a2 (lh.length + 1) c2).ownBlock = some wr.heap.size) : WSt w w' B g wv (lc ++ [y]) (lh ++ [x]) ac cc a2 c2 := by
  have hoh : ∀ k, (Value.slice ah lh.length ch).ownBlock = some k → B ≤ k ∧ k < wr.heap.size := fun k e => h.own.lt k e
  have hl1 : (lh ++ [x]).length = lh.length + 1 := by simp
  have hl2 : (lc ++ [y]).length = lc.length + 1 := by simp
  have hch : ChAt w' B g wv ac cc (lc ++ [y]) (shaF (bytesL x.1 x.2)) := h.chn.other hG h.neg (fun k e => h.nec k e) (fun z hz h0 b off hta => h.far z hz h0 b off hta)
  refine ⟨by rw [tipF_snoc]; exact hch, by rw [hl1]; exact ho, by rw [hl1, hl2, h.len], fun i hi => ?_, fun z hz => ?_, h.tnc, Below.grown h.ext hG (Below.size h.ext) (fun k e => by have := hoh k e; have := h.low; omega), ?_, fun k e => ?_, fun z hz h0 b off hta => ?_, h.low, Nat.le_trans h.hi hG.size⟩
  · rw [hl2] at hi
    by_cases hi2 : i < lc.length
    · rw [List.getD_eq_getElem?_getD, List.getElem?_append_left hi2, List.getD_eq_getElem?_getD, List.getElem?_append_left (by rw [← h.len]; exact hi2), ← List.getD_eq_getElem?_getD, ← List.getD_eq_getElem?_getD]
      exact h.eq i hi2
    · obtain rfl : i = lc.length := by omega
      rw [List.getD_eq_getElem?_getD, List.getElem?_append_right (Nat.le_refl _), List.getD_eq_getElem?_getD, List.getElem?_append_right (by rw [h.len]; exact Nat.le_refl _), h.len, Nat.sub_self]
      exact h.eqx
  · rcases List.mem_append.1 hz with hz | hz
    · exact h.src z hz
    · obtain rfl := List.mem_singleton.1 hz
      exact h.srx
  · rw [hl1]
    intro e
    rcases hw with h1 | h1
    · exact h.neg (by rw [← h1]; exact e)
    · rw [h1] at e
      have h5 := Option.some.inj e
      have := h.chn.row.lt
      omega
  · rw [hl1] at e
    intro e2
    rcases hw with h1 | h1
    · exact h.nec k (by rw [← h1]; exact e) e2
    · rw [h1] at e
      have h5 := Option.some.inj e
      have := (h.chn.own.lt k e2).2
      omega
  · rw [hl1]
    intro e
    rcases hw with h1 | h1
    · exact h.far z hz h0 b off hta (by rw [← h1]; exact e)
    · rw [h1] at e
      have h5 := Option.some.inj e
      have := (h.chn.each z hz).lt h0 hta
      omega
end

theorem wp_build_hd1 {ops : Array Oper} {Q : Exit → Act → World → Prop} {rest : List Oper} {o : Oper} {a : Act} {w : World} (hw : Region.wanted o (yielded ops a.tmps) = true) (x : Operand) (ho : o.op = .buildSlice 90 1 #[(0, x)])
    (h : Hd) (A : Array Value) (hA : hdV h = A) (hx : a.eval x = .agg A)
    (k : wpList Tryd.prog ops Q rest (a.put o.dst (.slice (some ⟨w.heap.size, 0, none⟩) 1 1)) (w.alloc (.cells A 34))) : wpList Tryd.prog ops Q (o :: rest) a w := by
  subst hA
  refine wpList_want hw fun K hK => ?_
  unfold Oper.wp execOp
  simp only [ho, List.map_toArray, List.map_cons, List.map_nil, hx, Sem.run_bind, build_hd1, Result.andThen_ok, Sem.run_pure]
  exact hK _ _ k

/-- What has been put in is there. -/
theorem ask_again {wv : Int} {lc : List HT} {T T' : Nat → Int} {x : HT} {ta : Option Addr} {tc : Nat} (hl : x.2.length = x.1.tn) (h : askV wv lc T x = 0) : askV wv (lc ++ [reT x ta tc]) T' x = 13 := by
  unfold askV at h
  split at h
  · omega
  · rename_i h1
    have hf : hdB x.1 x.2 = true := by
      cases hq : hdB x.1 x.2 with
      | true => rfl
      | false => exact absurd (Or.inl hq) h1
    have hbd := hdB_bd hf
    split at h
    · split at h <;> omega
    · rename_i h2
      split at h
      · omega
      · rename_i h3
        have hseq : x.1.seq = (lc.length : Int) + 1 := by omega
        unfold askV
        rw [if_neg h1, List.length_append, hseq]
        rw [if_pos ⟨by omega, by simp⟩, show ((lc.length : Int) + 1).toNat - 1 = lc.length by omega]
        rw [List.getD_eq_getElem?_getD, List.getElem?_append_right (Nat.le_refl _), Nat.sub_self]
        show (if sameB (reT x ta tc).1 x.1 (reT x ta tc).2 x.2 = true then (13 : Int) else 8) = 13
        exact if_pos ((sameB_iff (h := (reT x ta tc).1) (g := x.1) hl hl).2 (reT_eq x ta tc))

end Go.Proofs.YtihlpfdhallfpaaDoor
