/-
  The walks of slices.Equal of strings and of item.Same. No conditions.
  The walk of jalousieref18.Same. No conditions.
  Two items of the same rows: whether they are the same, in plain Lean. No conditions.
-/
import Derived.Test.YtldaligeckjhaaaMoreA
import Derived.Test.YtldaligeckjhaaaRefHdB
import Derived.Test.YtldaligeckjhaaaRwFew
import Derived.Test.YtldaligeckjhaaaRefOf
namespace Go.Proofs.Ytldaligeckjhaaa
open Go.ChangeAt Go.ChangeShapes Go.RowKit Go.WideShapes

/-- An answer, yes or no, of which something is said. -/
def SayB (w : World) (P : Bool → Prop) (e : Ending) (w' : World) : Prop := ∃ B : Bool, e = .returned (.bool B) ∧ Ext w w' ∧ P B
set_option maxHeartbeats 2000000 in
set_option maxRecDepth 100000 in
theorem srEqW_any (a : Option Addr) (n c : Nat) (ss : List ByteArray) (a' : Option Addr) (n' c' : Nat) (tt : List ByteArray) (w : World) (h : SrAt w a n c ss) (h' : SrAt w a' n' c' tt) :
    Calls Try.prog 42 #[.slice a n c, .slice a' n' c'] w (SayB w fun B => ss = tt → B = true) := by
  have hlen := h.len
  have hlen' := h'.len
  have H := Lib.hid h
  have H' := Lib.hid h'
  have hcc := h.cap
  have hcl := h.lim
  by_cases hn : n = n'
  · subst hn
    clear h h' hlen hlen'
    go_enter Try.func42, Try.ntmps42
    go_wp2
    go_loopw [13] (fun i wr => ∃ m : Nat, m ≤ n ∧ i = .int .i64 (m : Int) ∧ Ext w wr) (fun i _ => n - (intOf i).toNat)
    case atStart => exact ⟨0, Nat.zero_le _, rfl, Ext.refl _⟩
    case round =>
      obtain ⟨m, hm, rfl, hE⟩ := hrel
      have HE := Lib.hid hE
      clear hE
      rename World => y
      by_cases hlt : m < n
      · have x1 : (m : Int) < (n : Int) := by omega
        obtain ⟨b, off, rfl, hc⟩ := (H.out.ext HE.out).at_ (by omega)
        obtain ⟨b', off', rfl, hc'⟩ := (H'.out.ext HE.out).at_ (by omega)
        have hc1 := hc m hlt
        have hc2 := hc' m hlt
        obtain ⟨s, hs⟩ : ∃ z, ss.getD m ⟨#[]⟩ = z := ⟨_, rfl⟩
        obtain ⟨t, ht⟩ : ∃ z, tt.getD m ⟨#[]⟩ = z := ⟨_, rfl⟩
        rw [hs] at hc1
        rw [ht] at hc2
        have Hs := Lib.hid hs
        have Ht := Lib.hid ht
        clear hc hc' hs ht
        cases q : (s.toList == t.toList) with
        | true =>
          go_upto_region 6 with (fail)
          go_quiet (fail)
          go_wp2
          go_roundw
          case rel => exact ⟨m + 1, by omega, by go_num, HE.out.drewN' _⟩
          case measure => simp [intOf]; omega
        | false =>
          have HQ := Lib.hid (show ss = tt → False from fun e => by
            have h1 := Hs.out
            rw [e, Ht.out] at h1
            subst h1
            simp at q)
          go_upto_region 6 with (fail)
          go_quiet (fail)
          go_wp2
          go_ret
          exact ⟨false, rfl, HE.out.drewN' _, fun e => (HQ.out e).elim⟩
      · obtain rfl : m = n := by omega
        have x1 : ¬ (m : Int) < (m : Int) := by omega
        go_wp2_with fail
        go_ret
        exact ⟨true, rfl, HE.out, fun _ => rfl⟩
  · have x1 : ¬ (n : Int) = (n' : Int) := by omega
    have x2 : ((n : Int) == (n' : Int)) = false := beq_eq_false_iff_ne.2 x1
    have HN := Lib.hid (show ss = tt → False from fun e => hn (by rw [← hlen, ← hlen', e]))
    clear h h' hlen hlen'
    go_enter Try.func42, Try.ntmps42
    go_wp2
    go_ret
    exact ⟨false, rfl, Ext.refl _, fun e => (HN.out e).elim⟩

theorem it_rng {w : World} {g : Nat} {t : It} {T : TypeId} {fr : Nat × Nat} (hb : w.heap[g]? = some (.cells (itV t) T fr)) :
    w.rangeAt g 16 (hdL t.hd.1) ∧ w.cell? ⟨g, 141, none⟩ = some (.bool t.kn) ∧ w.cell? ⟨g, 142, none⟩ = some (.bool t.al) ∧ w.cell? ⟨g, 143, none⟩ = some (.string t.name) ∧ w.cell? ⟨g, 144, none⟩ = some (.slice t.ta t.tags.length t.tc) ∧ w.cell? ⟨g, 145, none⟩ = some (.string t.val) :=
  ⟨(it_cells hb).1, (it_cells hb).2.1, (it_cells hb).2.2.1, (it_cells hb).2.2.2.1, row_cell hb 144 (by omega), (it_cells hb).2.2.2.2⟩
def tokL (x : Nat → Int) : List Value := (List.range 16).map fun j => .int .u8 (x j)
theorem tokL_length (x : Nat → Int) : (tokL x).length = 16 := by simp [tokL]
theorem it_tokr {w : World} {g : Nat} {t : It} {T : TypeId} {fr : Nat × Nat} (hb : w.heap[g]? = some (.cells (itV t) T fr)) : w.rangeAt g 0 (tokL t.tok) := fun j v hv => by
  unfold tokL at hv
  have hj : j < 16 := by
    have := (List.getElem?_eq_some_iff.1 hv).1
    simpa using this
  rw [List.getElem?_map, List.getElem?_range hj] at hv
  obtain rfl := Option.some.inj hv
  rw [Nat.zero_add, row_cell hb j (by omega)]
  unfold itC
  rw [if_pos hj]
/-- What is said of two items' being the same. -/
def SmI (s t : It) (hb : Bool) (B : Bool) : Prop := (arrB 16 s.tok t.tok = false → B = false) ∧ (hb = false → B = false) ∧ (arrB 16 s.tok t.tok = true → hb = true → s.kn = t.kn → s.al = t.al → s.name = t.name → s.tags = t.tags → s.val = t.val → B = true)
set_option maxHeartbeats 4000000 in
set_option maxRecDepth 100000 in
theorem itSameW_any (s t : It) (w : World) (hs : ItAt w s) (ht : ItAt w t) : Calls Try.prog 20 #[.agg (itV s), .agg (itV t)] w (SayB w (SmI s t (sameB s.hd.1 t.hd.1 s.hd.2 t.hd.2))) := by
  obtain ⟨w2, hw2⟩ : ∃ z, (w.alloc (.cells (itV s) 41)).alloc (.cells (itV t) 41) = z := ⟨_, rfl⟩
  obtain ⟨g, hg⟩ : ∃ z, w.heap.size = z := ⟨_, rfl⟩
  have HE2 := Lib.hid (show Ext w w2 by rw [← hw2]; exact ((Ext.refl w).alloc _).alloc _)
  have hb1 : w2.heap[g]? = some (.cells (itV s) 41 (0, 0)) := by
    rw [← hw2]
    exact Ext.keep ((Ext.refl (w.alloc (.cells (itV s) 41))).alloc _) (heap_new w _ _ hg.symm)
  have hb2 : w2.heap[g + 1]? = some (.cells (itV t) 41 (0, 0)) := by
    rw [← hw2]
    exact heap_new _ _ _ (by simp [hg])
  obtain ⟨LHs, hLs⟩ : ∃ z, hdL s.hd.1 = z := ⟨_, rfl⟩
  obtain ⟨LHt, hLt⟩ : ∃ z, hdL t.hd.1 = z := ⟨_, rfl⟩
  obtain ⟨VHs, hVs⟩ : ∃ z, hdV s.hd.1 = z := ⟨_, rfl⟩
  obtain ⟨VHt, hVt⟩ : ∃ z, hdV t.hd.1 = z := ⟨_, rfl⟩
  have HHs := Lib.hid (show LHs.toArray = VHs ∧ LHs.length = 125 by rw [← hLs, ← hVs]; exact ⟨rfl, hdL_length _⟩)
  have HHt := Lib.hid (show LHt.toArray = VHt ∧ LHt.length = 125 by rw [← hLt, ← hVt]; exact ⟨rfl, hdL_length _⟩)
  obtain ⟨KS, hKS⟩ : ∃ z, s.kn = z := ⟨_, rfl⟩
  obtain ⟨KT, hKT⟩ : ∃ z, t.kn = z := ⟨_, rfl⟩
  obtain ⟨AS, hAS⟩ : ∃ z, s.al = z := ⟨_, rfl⟩
  obtain ⟨AT, hAT⟩ : ∃ z, t.al = z := ⟨_, rfl⟩
  obtain ⟨NS, hNS⟩ : ∃ z, s.name = z := ⟨_, rfl⟩
  obtain ⟨NT, hNT⟩ : ∃ z, t.name = z := ⟨_, rfl⟩
  obtain ⟨VS, hVS⟩ : ∃ z, s.val = z := ⟨_, rfl⟩
  obtain ⟨VT, hVT⟩ : ∃ z, t.val = z := ⟨_, rfl⟩
  have HCs := Lib.hid (show ∀ z, Ext w2 z → z.rangeAt g 16 LHs ∧ z.cell? ⟨g, 141, none⟩ = some (.bool KS) ∧ z.cell? ⟨g, 142, none⟩ = some (.bool AS) ∧ z.cell? ⟨g, 143, none⟩ = some (.string NS) ∧ z.cell? ⟨g, 144, none⟩ = some (.slice s.ta s.tags.length s.tc) ∧ z.cell? ⟨g, 145, none⟩ = some (.string VS) from fun z hz => by
    rw [← hLs, ← hKS, ← hAS, ← hNS, ← hVS]
    exact it_rng (hz.keep hb1))
  have HCt := Lib.hid (show ∀ z, Ext w2 z → z.rangeAt (g + 1) 16 LHt ∧ z.cell? ⟨g + 1, 141, none⟩ = some (.bool KT) ∧ z.cell? ⟨g + 1, 142, none⟩ = some (.bool AT) ∧ z.cell? ⟨g + 1, 143, none⟩ = some (.string NT) ∧ z.cell? ⟨g + 1, 144, none⟩ = some (.slice t.ta t.tags.length t.tc) ∧ z.cell? ⟨g + 1, 145, none⟩ = some (.string VT) from fun z hz => by
    rw [← hLt, ← hKT, ← hAT, ← hNT, ← hVT]
    exact it_rng (hz.keep hb2))
  obtain ⟨LS, hlS⟩ : ∃ z, tokL s.tok = z := ⟨_, rfl⟩
  obtain ⟨LT, hlT⟩ : ∃ z, tokL t.tok = z := ⟨_, rfl⟩
  obtain ⟨TS, hTS⟩ : ∃ z, (rowArr 16 fun j => Value.int .u8 (s.tok j)) = z := ⟨_, rfl⟩
  obtain ⟨TT, hTT⟩ : ∃ z, (rowArr 16 fun j => Value.int .u8 (t.tok j)) = z := ⟨_, rfl⟩
  have HLs := Lib.hid (show LS.toArray = TS ∧ LS.length = 16 by rw [← hlS, ← hTS]; exact ⟨rfl, tokL_length _⟩)
  have HLt := Lib.hid (show LT.toArray = TT ∧ LT.length = 16 by rw [← hlT, ← hTT]; exact ⟨rfl, tokL_length _⟩)
  have HTs := Lib.hid (show w2.rangeAt g 0 LS by rw [← hlS]; exact it_tokr hb1)
  have HTt := Lib.hid (show w2.rangeAt (g + 1) 0 LT by rw [← hlT]; exact it_tokr hb2)
  obtain ⟨TB, hTB⟩ : ∃ z, arrB 16 s.tok t.tok = z := ⟨_, rfl⟩
  have heql : ∀ w, (binOp .eql 27 (.agg TS) (.agg TT)).run Try.prog w = .ok (.bool TB) w := fun w => by
    have h := eql_t w s.tok t.tok
    rw [hTS, hTT, hTB] at h
    exact h
  obtain ⟨HB, hHB⟩ : ∃ z, sameB s.hd.1 t.hd.1 s.hd.2 t.hd.2 = z := ⟨_, rfl⟩
  have HSm := Lib.hid (show Calls Try.prog 15 #[.agg VHs, .agg VHt] w2 fun e w' => e = .returned (.bool HB) ∧ Ext w2 w' by
    have h := sameHd_any s.hd.1 t.hd.1 s.hd.2 t.hd.2 w2 (hs.ext HE2.out).hd.toks (ht.ext HE2.out).hd.toks
    rw [hVs, hVt, hHB] at h
    exact h)
  have HEq := Lib.hid (show ∀ z, Ext w2 z → Calls Try.prog 42 #[.slice s.ta s.tags.length s.tc, .slice t.ta t.tags.length t.tc] z (SayB z fun B => s.tags = t.tags → B = true) from fun z hz => srEqW_any _ _ _ _ _ _ _ _ z (hs.ext (HE2.out.trans hz)).tags (ht.ext (HE2.out.trans hz)).tags)
  rw [hHB]
  have HSay := Lib.hid (show ∀ B : Bool, (TB = false → B = false) → (HB = false → B = false) → (TB = true → HB = true → KS = KT → AS = AT → NS = NT → s.tags = t.tags → VS = VT → B = true) → SmI s t HB B from fun B h1 h2 h3 => by
    unfold SmI
    rw [hTB, hKS, hKT, hAS, hAT, hNS, hNT, hVS, hVT]
    exact ⟨h1, h2, h3⟩)
  obtain ⟨SM, hSM⟩ : ∃ z, SmI s t HB = z := ⟨_, rfl⟩
  rw [hSM] at HSay ⊢
  have Hw2 := Lib.hid hw2
  have Hg := Lib.hid hg
  have hta : ∃ z, s.ta = z := ⟨_, rfl⟩
  obtain ⟨sl, hsl⟩ : ∃ z, s.tags.length = z := ⟨_, rfl⟩
  obtain ⟨tl, htl⟩ : ∃ z, t.tags.length = z := ⟨_, rfl⟩
  rw [hsl] at HCs HEq
  rw [htl] at HCt HEq
  clear hs ht hw2 hg hb1 hb2 hLs hLt hVs hVt hKS hKT hAS hAT hNS hNT hVS hVT hlS hlT hTS hTT hTB hHB hSM hta hsl htl
  go_enter Try.func20, Try.ntmps20
  go_upto_region 1 with (fail)
  refine wp_world (w' := w2) Hw2.out ?_
  rw [Hg.out]
  clear Hw2 Hg
  cases TB with
  | false =>
    go_wp2_with (first | (refine wpList_load_mid rfl 27 (.tmp 5) rfl g _ rfl LS _ HTs.out Try.underlying27 rfl (by rw [HLs.out.2]; kernel_rfl) ?_; rw [HLs.out.1]; simp only [Act.put, List.setIfInBounds_toArray, List.set_cons_zero, List.set_cons_succ]) | (refine wpList_load_mid rfl 27 (.tmp 7) rfl (g + 1) _ rfl LT _ HTt.out Try.underlying27 rfl (by rw [HLt.out.2]; kernel_rfl) ?_; rw [HLt.out.1]; simp only [Act.put, List.setIfInBounds_toArray, List.set_cons_zero, List.set_cons_succ]) | (refine wpList_load_midW rfl 31 (.tmp 11) rfl g _ rfl LHs _ (HCs.out w2 (Ext.refl _)).1 Try.underlying31 rfl (by rw [HHs.out.2]; kernel_rfl) ?_; rw [HHs.out.1]; simp only [Act.put, List.setIfInBounds_toArray, List.set_cons_zero, List.set_cons_succ]) | (refine wpList_load_midW rfl 31 (.tmp 13) rfl (g + 1) _ rfl LHt _ (HCt.out w2 (Ext.refl _)).1 Try.underlying31 rfl (by rw [HHt.out.2]; kernel_rfl) ?_; rw [HHt.out.1]; simp only [Act.put, List.setIfInBounds_toArray, List.set_cons_zero, List.set_cons_succ]) | (go_at_call 15; refine HSm.out.mono ?_; rintro e z1 ⟨rfl, hE⟩; have HZ1 := Lib.hid hE; have ha := (HCs.out z1 hE).2; have hb := (HCt.out z1 hE).2; obtain ⟨ha1, ha2, ha3, ha4, ha5⟩ := ha; obtain ⟨hb1, hb2, hb3, hb4, hb5⟩ := hb; clear hE) | (go_at_call 42; refine (HEq.out z1 HZ1.out).mono ?_; rintro e z2 ⟨B6, rfl, hE, h6⟩; have HZ2 := Lib.hid (HZ1.out.trans hE); have H6 := Lib.hid h6; have ha5 := (HCs.out z2 HZ2.out).2.2.2.2.2; have hb5 := (HCt.out z2 HZ2.out).2.2.2.2.2; clear hE h6))
    go_ret
    exact ⟨false, rfl, HE2.out, HSay.out _ (fun _ => rfl) (fun _ => rfl) (fun h => by cases h)⟩
  | true =>
    cases HB with
    | false =>
      go_wp2_with (first | (refine wpList_load_mid rfl 27 (.tmp 5) rfl g _ rfl LS _ HTs.out Try.underlying27 rfl (by rw [HLs.out.2]; kernel_rfl) ?_; rw [HLs.out.1]; simp only [Act.put, List.setIfInBounds_toArray, List.set_cons_zero, List.set_cons_succ]) | (refine wpList_load_mid rfl 27 (.tmp 7) rfl (g + 1) _ rfl LT _ HTt.out Try.underlying27 rfl (by rw [HLt.out.2]; kernel_rfl) ?_; rw [HLt.out.1]; simp only [Act.put, List.setIfInBounds_toArray, List.set_cons_zero, List.set_cons_succ]) | (refine wpList_load_midW rfl 31 (.tmp 11) rfl g _ rfl LHs _ (HCs.out w2 (Ext.refl _)).1 Try.underlying31 rfl (by rw [HHs.out.2]; kernel_rfl) ?_; rw [HHs.out.1]; simp only [Act.put, List.setIfInBounds_toArray, List.set_cons_zero, List.set_cons_succ]) | (refine wpList_load_midW rfl 31 (.tmp 13) rfl (g + 1) _ rfl LHt _ (HCt.out w2 (Ext.refl _)).1 Try.underlying31 rfl (by rw [HHt.out.2]; kernel_rfl) ?_; rw [HHt.out.1]; simp only [Act.put, List.setIfInBounds_toArray, List.set_cons_zero, List.set_cons_succ]) | (go_at_call 15; refine HSm.out.mono ?_; rintro e z1 ⟨rfl, hE⟩; have HZ1 := Lib.hid hE; have ha := (HCs.out z1 hE).2; have hb := (HCt.out z1 hE).2; obtain ⟨ha1, ha2, ha3, ha4, ha5⟩ := ha; obtain ⟨hb1, hb2, hb3, hb4, hb5⟩ := hb; clear hE) | (go_at_call 42; refine (HEq.out z1 HZ1.out).mono ?_; rintro e z2 ⟨B6, rfl, hE, h6⟩; have HZ2 := Lib.hid (HZ1.out.trans hE); have H6 := Lib.hid h6; have ha5 := (HCs.out z2 HZ2.out).2.2.2.2.2; have hb5 := (HCt.out z2 HZ2.out).2.2.2.2.2; clear hE h6))
      go_ret
      exact ⟨false, rfl, HE2.out.trans HZ1.out, HSay.out _ (fun h => by cases h) (fun _ => rfl) (fun _ h => by cases h)⟩
    | true =>
      cases q3 : (KS == KT) with
      | false =>
        go_wp2_with (first | (refine wpList_load_mid rfl 27 (.tmp 5) rfl g _ rfl LS _ HTs.out Try.underlying27 rfl (by rw [HLs.out.2]; kernel_rfl) ?_; rw [HLs.out.1]; simp only [Act.put, List.setIfInBounds_toArray, List.set_cons_zero, List.set_cons_succ]) | (refine wpList_load_mid rfl 27 (.tmp 7) rfl (g + 1) _ rfl LT _ HTt.out Try.underlying27 rfl (by rw [HLt.out.2]; kernel_rfl) ?_; rw [HLt.out.1]; simp only [Act.put, List.setIfInBounds_toArray, List.set_cons_zero, List.set_cons_succ]) | (refine wpList_load_midW rfl 31 (.tmp 11) rfl g _ rfl LHs _ (HCs.out w2 (Ext.refl _)).1 Try.underlying31 rfl (by rw [HHs.out.2]; kernel_rfl) ?_; rw [HHs.out.1]; simp only [Act.put, List.setIfInBounds_toArray, List.set_cons_zero, List.set_cons_succ]) | (refine wpList_load_midW rfl 31 (.tmp 13) rfl (g + 1) _ rfl LHt _ (HCt.out w2 (Ext.refl _)).1 Try.underlying31 rfl (by rw [HHt.out.2]; kernel_rfl) ?_; rw [HHt.out.1]; simp only [Act.put, List.setIfInBounds_toArray, List.set_cons_zero, List.set_cons_succ]) | (go_at_call 15; refine HSm.out.mono ?_; rintro e z1 ⟨rfl, hE⟩; have HZ1 := Lib.hid hE; have ha := (HCs.out z1 hE).2; have hb := (HCt.out z1 hE).2; obtain ⟨ha1, ha2, ha3, ha4, ha5⟩ := ha; obtain ⟨hb1, hb2, hb3, hb4, hb5⟩ := hb; clear hE) | (go_at_call 42; refine (HEq.out z1 HZ1.out).mono ?_; rintro e z2 ⟨B6, rfl, hE, h6⟩; have HZ2 := Lib.hid (HZ1.out.trans hE); have H6 := Lib.hid h6; have ha5 := (HCs.out z2 HZ2.out).2.2.2.2.2; have hb5 := (HCt.out z2 HZ2.out).2.2.2.2.2; clear hE h6))
        go_ret
        exact ⟨false, rfl, HE2.out.trans HZ1.out, HSay.out _ (fun h => by cases h) (fun h => by cases h) (fun _ _ h => by subst h; simp at q3)⟩
      | true =>
        cases q4 : (AS == AT) with
        | false =>
          go_wp2_with (first | (refine wpList_load_mid rfl 27 (.tmp 5) rfl g _ rfl LS _ HTs.out Try.underlying27 rfl (by rw [HLs.out.2]; kernel_rfl) ?_; rw [HLs.out.1]; simp only [Act.put, List.setIfInBounds_toArray, List.set_cons_zero, List.set_cons_succ]) | (refine wpList_load_mid rfl 27 (.tmp 7) rfl (g + 1) _ rfl LT _ HTt.out Try.underlying27 rfl (by rw [HLt.out.2]; kernel_rfl) ?_; rw [HLt.out.1]; simp only [Act.put, List.setIfInBounds_toArray, List.set_cons_zero, List.set_cons_succ]) | (refine wpList_load_midW rfl 31 (.tmp 11) rfl g _ rfl LHs _ (HCs.out w2 (Ext.refl _)).1 Try.underlying31 rfl (by rw [HHs.out.2]; kernel_rfl) ?_; rw [HHs.out.1]; simp only [Act.put, List.setIfInBounds_toArray, List.set_cons_zero, List.set_cons_succ]) | (refine wpList_load_midW rfl 31 (.tmp 13) rfl (g + 1) _ rfl LHt _ (HCt.out w2 (Ext.refl _)).1 Try.underlying31 rfl (by rw [HHt.out.2]; kernel_rfl) ?_; rw [HHt.out.1]; simp only [Act.put, List.setIfInBounds_toArray, List.set_cons_zero, List.set_cons_succ]) | (go_at_call 15; refine HSm.out.mono ?_; rintro e z1 ⟨rfl, hE⟩; have HZ1 := Lib.hid hE; have ha := (HCs.out z1 hE).2; have hb := (HCt.out z1 hE).2; obtain ⟨ha1, ha2, ha3, ha4, ha5⟩ := ha; obtain ⟨hb1, hb2, hb3, hb4, hb5⟩ := hb; clear hE) | (go_at_call 42; refine (HEq.out z1 HZ1.out).mono ?_; rintro e z2 ⟨B6, rfl, hE, h6⟩; have HZ2 := Lib.hid (HZ1.out.trans hE); have H6 := Lib.hid h6; have ha5 := (HCs.out z2 HZ2.out).2.2.2.2.2; have hb5 := (HCt.out z2 HZ2.out).2.2.2.2.2; clear hE h6))
          go_ret
          exact ⟨false, rfl, HE2.out.trans HZ1.out, HSay.out _ (fun h => by cases h) (fun h => by cases h) (fun _ _ _ h => by subst h; simp at q4)⟩
        | true =>
          cases q5 : (NS.toList == NT.toList) with
          | false =>
            go_wp2_with (first | (refine wpList_load_mid rfl 27 (.tmp 5) rfl g _ rfl LS _ HTs.out Try.underlying27 rfl (by rw [HLs.out.2]; kernel_rfl) ?_; rw [HLs.out.1]; simp only [Act.put, List.setIfInBounds_toArray, List.set_cons_zero, List.set_cons_succ]) | (refine wpList_load_mid rfl 27 (.tmp 7) rfl (g + 1) _ rfl LT _ HTt.out Try.underlying27 rfl (by rw [HLt.out.2]; kernel_rfl) ?_; rw [HLt.out.1]; simp only [Act.put, List.setIfInBounds_toArray, List.set_cons_zero, List.set_cons_succ]) | (refine wpList_load_midW rfl 31 (.tmp 11) rfl g _ rfl LHs _ (HCs.out w2 (Ext.refl _)).1 Try.underlying31 rfl (by rw [HHs.out.2]; kernel_rfl) ?_; rw [HHs.out.1]; simp only [Act.put, List.setIfInBounds_toArray, List.set_cons_zero, List.set_cons_succ]) | (refine wpList_load_midW rfl 31 (.tmp 13) rfl (g + 1) _ rfl LHt _ (HCt.out w2 (Ext.refl _)).1 Try.underlying31 rfl (by rw [HHt.out.2]; kernel_rfl) ?_; rw [HHt.out.1]; simp only [Act.put, List.setIfInBounds_toArray, List.set_cons_zero, List.set_cons_succ]) | (go_at_call 15; refine HSm.out.mono ?_; rintro e z1 ⟨rfl, hE⟩; have HZ1 := Lib.hid hE; have ha := (HCs.out z1 hE).2; have hb := (HCt.out z1 hE).2; obtain ⟨ha1, ha2, ha3, ha4, ha5⟩ := ha; obtain ⟨hb1, hb2, hb3, hb4, hb5⟩ := hb; clear hE) | (go_at_call 42; refine (HEq.out z1 HZ1.out).mono ?_; rintro e z2 ⟨B6, rfl, hE, h6⟩; have HZ2 := Lib.hid (HZ1.out.trans hE); have H6 := Lib.hid h6; have ha5 := (HCs.out z2 HZ2.out).2.2.2.2.2; have hb5 := (HCt.out z2 HZ2.out).2.2.2.2.2; clear hE h6))
            go_ret
            exact ⟨false, rfl, HE2.out.trans HZ1.out, HSay.out _ (fun h => by cases h) (fun h => by cases h) (fun _ _ _ _ h => by subst h; simp at q5)⟩
          | true =>
            cases q7 : (VS.toList == VT.toList) with
            | false =>
              go_wp2_with (first | (refine wpList_load_mid rfl 27 (.tmp 5) rfl g _ rfl LS _ HTs.out Try.underlying27 rfl (by rw [HLs.out.2]; kernel_rfl) ?_; rw [HLs.out.1]; simp only [Act.put, List.setIfInBounds_toArray, List.set_cons_zero, List.set_cons_succ]) | (refine wpList_load_mid rfl 27 (.tmp 7) rfl (g + 1) _ rfl LT _ HTt.out Try.underlying27 rfl (by rw [HLt.out.2]; kernel_rfl) ?_; rw [HLt.out.1]; simp only [Act.put, List.setIfInBounds_toArray, List.set_cons_zero, List.set_cons_succ]) | (refine wpList_load_midW rfl 31 (.tmp 11) rfl g _ rfl LHs _ (HCs.out w2 (Ext.refl _)).1 Try.underlying31 rfl (by rw [HHs.out.2]; kernel_rfl) ?_; rw [HHs.out.1]; simp only [Act.put, List.setIfInBounds_toArray, List.set_cons_zero, List.set_cons_succ]) | (refine wpList_load_midW rfl 31 (.tmp 13) rfl (g + 1) _ rfl LHt _ (HCt.out w2 (Ext.refl _)).1 Try.underlying31 rfl (by rw [HHt.out.2]; kernel_rfl) ?_; rw [HHt.out.1]; simp only [Act.put, List.setIfInBounds_toArray, List.set_cons_zero, List.set_cons_succ]) | (go_at_call 15; refine HSm.out.mono ?_; rintro e z1 ⟨rfl, hE⟩; have HZ1 := Lib.hid hE; have ha := (HCs.out z1 hE).2; have hb := (HCt.out z1 hE).2; obtain ⟨ha1, ha2, ha3, ha4, ha5⟩ := ha; obtain ⟨hb1, hb2, hb3, hb4, hb5⟩ := hb; clear hE) | (go_at_call 42; refine (HEq.out z1 HZ1.out).mono ?_; rintro e z2 ⟨B6, rfl, hE, h6⟩; have HZ2 := Lib.hid (HZ1.out.trans hE); have H6 := Lib.hid h6; have ha5 := (HCs.out z2 HZ2.out).2.2.2.2.2; have hb5 := (HCt.out z2 HZ2.out).2.2.2.2.2; clear hE h6; cases B6))
              all_goals
                go_ret
                exact ⟨false, rfl, HE2.out.trans HZ2.out, HSay.out _ (fun h => by cases h) (fun h => by cases h) (fun _ _ _ _ _ _ h => by subst h; simp at q7)⟩
            | true =>
              go_wp2_with (first | (refine wpList_load_mid rfl 27 (.tmp 5) rfl g _ rfl LS _ HTs.out Try.underlying27 rfl (by rw [HLs.out.2]; kernel_rfl) ?_; rw [HLs.out.1]; simp only [Act.put, List.setIfInBounds_toArray, List.set_cons_zero, List.set_cons_succ]) | (refine wpList_load_mid rfl 27 (.tmp 7) rfl (g + 1) _ rfl LT _ HTt.out Try.underlying27 rfl (by rw [HLt.out.2]; kernel_rfl) ?_; rw [HLt.out.1]; simp only [Act.put, List.setIfInBounds_toArray, List.set_cons_zero, List.set_cons_succ]) | (refine wpList_load_midW rfl 31 (.tmp 11) rfl g _ rfl LHs _ (HCs.out w2 (Ext.refl _)).1 Try.underlying31 rfl (by rw [HHs.out.2]; kernel_rfl) ?_; rw [HHs.out.1]; simp only [Act.put, List.setIfInBounds_toArray, List.set_cons_zero, List.set_cons_succ]) | (refine wpList_load_midW rfl 31 (.tmp 13) rfl (g + 1) _ rfl LHt _ (HCt.out w2 (Ext.refl _)).1 Try.underlying31 rfl (by rw [HHt.out.2]; kernel_rfl) ?_; rw [HHt.out.1]; simp only [Act.put, List.setIfInBounds_toArray, List.set_cons_zero, List.set_cons_succ]) | (go_at_call 15; refine HSm.out.mono ?_; rintro e z1 ⟨rfl, hE⟩; have HZ1 := Lib.hid hE; have ha := (HCs.out z1 hE).2; have hb := (HCt.out z1 hE).2; obtain ⟨ha1, ha2, ha3, ha4, ha5⟩ := ha; obtain ⟨hb1, hb2, hb3, hb4, hb5⟩ := hb; clear hE) | (go_at_call 42; refine (HEq.out z1 HZ1.out).mono ?_; rintro e z2 ⟨B6, rfl, hE, h6⟩; have HZ2 := Lib.hid (HZ1.out.trans hE); have H6 := Lib.hid h6; have ha5 := (HCs.out z2 HZ2.out).2.2.2.2.2; have hb5 := (HCt.out z2 HZ2.out).2.2.2.2.2; clear hE h6; cases B6))
              · go_ret
                exact ⟨false, rfl, HE2.out.trans HZ2.out, HSay.out _ (fun h => by cases h) (fun h => by cases h) (fun _ _ _ _ _ h _ => H6.out h)⟩
              · go_ret
                exact ⟨true, rfl, HE2.out.trans HZ2.out, HSay.out _ (fun h => by cases h) (fun h => by cases h) (fun _ _ _ _ _ _ _ => rfl)⟩

set_option maxRecDepth 100000 in
theorem build_ch3 (w : World) (n v : ByteArray) (a : Option Addr) (l c : Nat) : (Instr.build 34 #[(1, .string n), (2, .slice a l c), (3, .string v)]).run Try.prog w = .ok (.agg (chV 0 n (.slice a l c) v)) w := by kernel_rfl
theorem wp_build_ch3 {ops : Array Oper} {Q : Exit → Act → World → Prop} {rest : List Oper} {o : Oper} {a : Act} {w : World} (hw : Region.wanted o (yielded ops a.tmps) = true) (p q r : Operand) (ho : o.op = .build 34 #[(1, p), (2, q), (3, r)]) (n v : ByteArray) (sa : Option Addr) (l c : Nat)
    (C : Array Value) (hC : chV 0 n (.slice sa l c) v = C) (hp : a.eval p = .string n) (hq : a.eval q = .slice sa l c) (hr : a.eval r = .string v)
    (hk : wpList Try.prog ops Q rest (a.put o.dst (.agg C)) w) : wpList Try.prog ops Q (o :: rest) a w := by
  subst hC
  refine wpList_want hw fun K hK => ?_
  unfold Oper.wp execOp
  simp only [ho, List.map_toArray, List.map_cons, List.map_nil, hp, hq, hr, Sem.run_bind, build_ch3, Result.andThen_ok, Sem.run_pure]
  exact hK _ _ hk
theorem ssEq_self (ss : List ByteArray) (k : Nat) : ssEq ss ss k = true := by
  unfold ssEq
  rw [List.all_eq_true]
  intro i _
  simp
theorem chSame_self (n : ByteArray) (ss : List ByteArray) (v : ByteArray) : chSame 0 n ss v 0 n ss v = true := by
  unfold chSame
  rw [ssEq_self]
  simp
theorem strOf_nil {A : List Int} (h : A ≠ []) : ((strOf A).toList == (strOf []).toList) = false := by
  rw [beq_eq_false_iff_ne]
  intro e
  have h1 := congrArg List.length e
  have h2 : ∀ xs : List Int, (strOf xs).toList.length = xs.length := fun xs => by
    unfold strOf
    rw [ByteArray.toList_mk, u8s_length]
  rw [h2, h2] at h1
  exact h (List.eq_nil_of_length_eq_zero h1)
/-- What the reference says of two items' being the same. -/
def SmR (s t : It) (A C : List Int) (B : Bool) : Prop := (arrB 16 s.tok t.tok = false → B = false) ∧ (A ≠ [] → C = [] → B = false) ∧ (A = [] → C ≠ [] → B = false) ∧ (arrB 16 s.tok t.tok = true → s.kn = t.kn → s.al = t.al → s.name = t.name → s.tags = t.tags → s.val = t.val → A = C → B = true)
set_option maxHeartbeats 8000000 in
set_option maxRecDepth 100000 in
theorem refSameW_any (s t : It) (w : World) (hs : ItAt w s) (ht : ItAt w t) : Calls Try.prog 18 #[.agg (itV s), .agg (itV t)] w (SayB w (SmR s t (bytesL s.hd.1 s.hd.2) (bytesL t.hd.1 t.hd.2))) := by
  obtain ⟨w2, hw2⟩ : ∃ z, (w.alloc (.cells (itV s) 41)).alloc (.cells (itV t) 41) = z := ⟨_, rfl⟩
  obtain ⟨g, hg⟩ : ∃ z, w.heap.size = z := ⟨_, rfl⟩
  have HE2 := Lib.hid (show Ext w w2 by rw [← hw2]; exact ((Ext.refl w).alloc _).alloc _)
  have hb1 : w2.heap[g]? = some (.cells (itV s) 41 (0, 0)) := by
    rw [← hw2]
    exact Ext.keep ((Ext.refl (w.alloc (.cells (itV s) 41))).alloc _) (heap_new w _ _ hg.symm)
  have hb2 : w2.heap[g + 1]? = some (.cells (itV t) 41 (0, 0)) := by
    rw [← hw2]
    exact heap_new _ _ _ (by simp [hg])
  obtain ⟨LHs, hLs⟩ : ∃ z, hdL s.hd.1 = z := ⟨_, rfl⟩
  obtain ⟨LHt, hLt⟩ : ∃ z, hdL t.hd.1 = z := ⟨_, rfl⟩
  obtain ⟨VHs, hVs⟩ : ∃ z, hdV s.hd.1 = z := ⟨_, rfl⟩
  obtain ⟨VHt, hVt⟩ : ∃ z, hdV t.hd.1 = z := ⟨_, rfl⟩
  have HHs := Lib.hid (show LHs.toArray = VHs ∧ LHs.length = 125 by rw [← hLs, ← hVs]; exact ⟨rfl, hdL_length _⟩)
  have HHt := Lib.hid (show LHt.toArray = VHt ∧ LHt.length = 125 by rw [← hLt, ← hVt]; exact ⟨rfl, hdL_length _⟩)
  obtain ⟨KS, hKS⟩ : ∃ z, s.kn = z := ⟨_, rfl⟩
  obtain ⟨KT, hKT⟩ : ∃ z, t.kn = z := ⟨_, rfl⟩
  obtain ⟨AS, hAS⟩ : ∃ z, s.al = z := ⟨_, rfl⟩
  obtain ⟨AT, hAT⟩ : ∃ z, t.al = z := ⟨_, rfl⟩
  obtain ⟨NS, hNS⟩ : ∃ z, s.name = z := ⟨_, rfl⟩
  obtain ⟨NT, hNT⟩ : ∃ z, t.name = z := ⟨_, rfl⟩
  obtain ⟨VS, hVS⟩ : ∃ z, s.val = z := ⟨_, rfl⟩
  obtain ⟨VT, hVT⟩ : ∃ z, t.val = z := ⟨_, rfl⟩
  have HCs := Lib.hid (show ∀ z, Ext w2 z → z.rangeAt g 16 LHs ∧ z.cell? ⟨g, 141, none⟩ = some (.bool KS) ∧ z.cell? ⟨g, 142, none⟩ = some (.bool AS) ∧ z.cell? ⟨g, 143, none⟩ = some (.string NS) ∧ z.cell? ⟨g, 144, none⟩ = some (.slice s.ta s.tags.length s.tc) ∧ z.cell? ⟨g, 145, none⟩ = some (.string VS) from fun z hz => by
    rw [← hLs, ← hKS, ← hAS, ← hNS, ← hVS]
    exact it_rng (hz.keep hb1))
  have HCt := Lib.hid (show ∀ z, Ext w2 z → z.rangeAt (g + 1) 16 LHt ∧ z.cell? ⟨g + 1, 141, none⟩ = some (.bool KT) ∧ z.cell? ⟨g + 1, 142, none⟩ = some (.bool AT) ∧ z.cell? ⟨g + 1, 143, none⟩ = some (.string NT) ∧ z.cell? ⟨g + 1, 144, none⟩ = some (.slice t.ta t.tags.length t.tc) ∧ z.cell? ⟨g + 1, 145, none⟩ = some (.string VT) from fun z hz => by
    rw [← hLt, ← hKT, ← hAT, ← hNT, ← hVT]
    exact it_rng (hz.keep hb2))
  obtain ⟨LS, hlS⟩ : ∃ z, tokL s.tok = z := ⟨_, rfl⟩
  obtain ⟨LT, hlT⟩ : ∃ z, tokL t.tok = z := ⟨_, rfl⟩
  obtain ⟨TS, hTS⟩ : ∃ z, (rowArr 16 fun j => Value.int .u8 (s.tok j)) = z := ⟨_, rfl⟩
  obtain ⟨TT, hTT⟩ : ∃ z, (rowArr 16 fun j => Value.int .u8 (t.tok j)) = z := ⟨_, rfl⟩
  have HLs := Lib.hid (show LS.toArray = TS ∧ LS.length = 16 by rw [← hlS, ← hTS]; exact ⟨rfl, tokL_length _⟩)
  have HLt := Lib.hid (show LT.toArray = TT ∧ LT.length = 16 by rw [← hlT, ← hTT]; exact ⟨rfl, tokL_length _⟩)
  have HTs := Lib.hid (show w2.rangeAt g 0 LS by rw [← hlS]; exact it_tokr hb1)
  have HTt := Lib.hid (show w2.rangeAt (g + 1) 0 LT by rw [← hlT]; exact it_tokr hb2)
  obtain ⟨TB, hTB⟩ : ∃ z, arrB 16 s.tok t.tok = z := ⟨_, rfl⟩
  have heql : ∀ w, (binOp .eql 27 (.agg TS) (.agg TT)).run Try.prog w = .ok (.bool TB) w := fun w => by
    have h := eql_t w s.tok t.tok
    rw [hTS, hTT, hTB] at h
    exact h
  have HSt := Lib.hid (hs.ext HE2.out)
  have HTt' := Lib.hid (ht.ext HE2.out)
  obtain ⟨BA, hBA⟩ : ∃ z, bytesL s.hd.1 s.hd.2 = z := ⟨_, rfl⟩
  obtain ⟨BC, hBC⟩ : ∃ z, bytesL t.hd.1 t.hd.2 = z := ⟨_, rfl⟩
  rw [hBA, hBC]
  have HBs := Lib.hid (show ∀ z, Ext w2 z → Calls Try.prog 38 #[.agg VHs] z fun e w' => ∃ (a : Option Addr) (n c : Nat), e = .returned (.slice a n c) ∧ BsAt w' a n c BA ∧ Ext z w' from fun z hz => by
    have h := (hs.ext (HE2.out.trans hz)).hd
    have h2 := refHdBytes_any s.hd.1 s.hd.2 z h.ok h.toks
    rw [hVs, hBA] at h2
    refine h2.mono ?_
    rintro e w' ⟨v, rfl, ho, hE⟩
    obtain ⟨a, c, rfl, hb⟩ := own_bsAt ho (by rw [← hBA]; exact bytesL_byte h.ok h.toks.len h.toks.byte) (by rw [← hBA]; have := bytesL_le s.hd.1 s.hd.2; omega)
    exact ⟨a, _, c, rfl, hb, hE⟩)
  have HBt := Lib.hid (show ∀ z, Ext w2 z → Calls Try.prog 38 #[.agg VHt] z fun e w' => ∃ (a : Option Addr) (n c : Nat), e = .returned (.slice a n c) ∧ BsAt w' a n c BC ∧ Ext z w' from fun z hz => by
    have h := (ht.ext (HE2.out.trans hz)).hd
    have h2 := refHdBytes_any t.hd.1 t.hd.2 z h.ok h.toks
    rw [hVt, hBC] at h2
    refine h2.mono ?_
    rintro e w' ⟨v, rfl, ho, hE⟩
    obtain ⟨a, c, rfl, hb⟩ := own_bsAt ho (by rw [← hBC]; exact bytesL_byte h.ok h.toks.len h.toks.byte) (by rw [← hBC]; have := bytesL_le t.hd.1 t.hd.2; omega)
    exact ⟨a, _, c, rfl, hb, hE⟩)
  obtain ⟨C5, hC5⟩ : ∃ z, chV 0 NS (.slice s.ta s.tags.length s.tc) VS = z := ⟨_, rfl⟩
  obtain ⟨C6, hC6⟩ : ∃ z, chV 0 NT (.slice t.ta t.tags.length t.tc) VT = z := ⟨_, rfl⟩
  have HC5s := Lib.hid (show C5.size = 4 ∧ C5.all (·.oneCell') = true by rw [← hC5]; exact ⟨rfl, chV_one _ _ _ _ _ _⟩)
  have HC6s := Lib.hid (show C6.size = 4 ∧ C6.all (·.oneCell') = true by rw [← hC6]; exact ⟨rfl, chV_one _ _ _ _ _ _⟩)
  obtain ⟨CB, hCB⟩ : ∃ z, chSame 0 NS s.tags VS 0 NT t.tags VT = z := ⟨_, rfl⟩
  have HSc := Lib.hid (show ∀ z, Ext w2 z → Calls Try.prog 32 #[.agg C5, .agg C6] z fun e w' => e = .returned (.bool CB) ∧ Ext z w' from fun z hz => by
    have h := refSameCh_any 0 NS s.ta s.tags.length s.tc s.tags VS 0 NT t.ta t.tags.length t.tc t.tags VT z (hs.ext (HE2.out.trans hz)).tags (ht.ext (HE2.out.trans hz)).tags
    rw [hC5, hC6, hCB] at h
    exact h)
  have HCh := Lib.hid (show NS = NT → s.tags = t.tags → VS = VT → CB = true from fun h1 h2 h3 => by
    rw [← hCB, h1, h2, h3]
    exact chSame_self _ _ _)
  have HSay := Lib.hid (show ∀ B : Bool, (TB = false → B = false) → (BA ≠ [] → BC = [] → B = false) → (BA = [] → BC ≠ [] → B = false) → (TB = true → KS = KT → AS = AT → NS = NT → s.tags = t.tags → VS = VT → BA = BC → B = true) → SmR s t BA BC B from fun B h1 h2 h4 h3 => by
    unfold SmR
    rw [hTB, hKS, hKT, hAS, hAT, hNS, hNT, hVS, hVT]
    exact ⟨h1, h2, h4, h3⟩)
  obtain ⟨SM, hSM⟩ : ∃ z, SmR s t BA BC = z := ⟨_, rfl⟩
  rw [hSM] at HSay ⊢
  have Hw2 := Lib.hid hw2
  have Hg := Lib.hid hg
  have HC5 := Lib.hid hC5
  have HC6 := Lib.hid hC6
  obtain ⟨sl, hsl⟩ : ∃ z, s.tags.length = z := ⟨_, rfl⟩
  obtain ⟨tl, htl⟩ : ∃ z, t.tags.length = z := ⟨_, rfl⟩
  rw [hsl] at HCs HC5
  rw [htl] at HCt HC6
  clear hs ht hw2 hg hb1 hb2 hLs hLt hVs hVt hKS hKT hAS hAT hNS hNT hVS hVT hlS hlT hTS hTT hTB hBA hBC hC5 hC6 hCB hSM hsl htl
  have hzc := zero_chg
  obtain ⟨ZC, hZC⟩ : ∃ z, chV 0 ⟨#[]⟩ (.slice none 0 0) ⟨#[]⟩ = z := ⟨_, rfl⟩
  have HZc := Lib.hid (show ZC.size = 4 by rw [← hZC]; rfl)
  rw [hZC] at hzc
  clear hZC
  go_enter Try.func18, Try.ntmps18
  go_upto_region 1 with (fail)
  refine wp_world (w' := w2) Hw2.out ?_
  rw [Hg.out]
  clear Hw2 Hg
  obtain ⟨ha0, ha1, ha2, ha3, ha4, ha5⟩ := HCs.out w2 (Ext.refl _)
  go_upto_region 2 with (first | (refine wp_build_ch3 rfl (.tmp 8) (.tmp 10) (.tmp 12) rfl NS VS s.ta sl s.tc C5 HC5.out rfl rfl rfl ?_; simp only [Act.put, List.setIfInBounds_toArray, List.set_cons_zero, List.set_cons_succ]) | (refine wpList_store_row rfl 34 _ _ rfl w2.heap.size _ rfl rfl _ _ (heap_new w2 _ _ rfl) (by rw [HC5s.out.1]; kernel_rfl) (by rw [HC5s.out.1, HZc.out]) HC5s.out.2 ?_; rw [setRow_new w2 _ _ _ _ rfl]))
  obtain ⟨w3, hw3⟩ : ∃ z, w2.alloc (.cells C5 34) = z := ⟨_, rfl⟩
  obtain ⟨g5, hg5⟩ : ∃ z, w2.heap.size = z := ⟨_, rfl⟩
  have HE3 := Lib.hid (show Ext w2 w3 by rw [← hw3]; exact (Ext.refl w2).alloc _)
  have HB5 := Lib.hid (show w3.heap[g5]? = some (.cells C5 34 (0, 0)) by rw [← hw3]; exact heap_new w2 _ _ hg5.symm)
  rw [hg5]
  refine wp_world (w' := w3) hw3 ?_
  clear hw3 hg5 ha0 ha1 ha2 ha3 ha4 ha5
  obtain ⟨ha0, ha1, ha2, ha3, ha4, ha5⟩ := HCt.out w3 HE3.out
  go_upto_region 3 with (first | (refine wp_build_ch3 rfl (.tmp 15) (.tmp 17) (.tmp 19) rfl NT VT t.ta tl t.tc C6 HC6.out rfl rfl rfl ?_; simp only [Act.put, List.setIfInBounds_toArray, List.set_cons_zero, List.set_cons_succ]) | (refine wpList_store_row rfl 34 _ _ rfl w3.heap.size _ rfl rfl _ _ (heap_new w3 _ _ rfl) (by rw [HC6s.out.1]; kernel_rfl) (by rw [HC6s.out.1, HZc.out]) HC6s.out.2 ?_; rw [setRow_new w3 _ _ _ _ rfl]))
  obtain ⟨w4, hw4⟩ : ∃ z, w3.alloc (.cells C6 34) = z := ⟨_, rfl⟩
  obtain ⟨g6, hg6⟩ : ∃ z, w3.heap.size = z := ⟨_, rfl⟩
  have HE4 := Lib.hid (show Ext w3 w4 by rw [← hw4]; exact (Ext.refl w3).alloc _)
  have HB6 := Lib.hid (show w4.heap[g6]? = some (.cells C6 34 (0, 0)) by rw [← hw4]; exact heap_new w3 _ _ hg6.symm)
  have HB5' := Lib.hid (HE4.out.keep HB5.out)
  rw [hg6]
  refine wp_world (w' := w4) hw4 ?_
  clear hw4 hg6 ha0 ha1 ha2 ha3 ha4 ha5 hzc
  have HY4 := Lib.hid (show ∀ z, Ext w4.drew z → Ext w4 z from fun z hz => Ext.trans (Ext.refl w4).drew hz)
  have HY := Lib.hid (show ∀ z, Ext w4.drew z → Ext w2 z from fun z hz => HE3.out.trans (HE4.out.trans (HY4.out z hz)))
  cases TB with
  | false =>
    refine wp_region_lexA (by kernel_rfl) (by kernel_rfl) ?_
    refine lx_e (.pointer (some ⟨g, 0, none⟩)) [] (by kernel_rfl) rfl (by rfl) (fun w1 hw1 => ?_) ?_
    · simp only [pk, lexVals]
      go_simp
      exact ⟨Ext.refl _, rfl⟩
    refine lx_e (.agg TS) [(0, 21)] (by kernel_rfl) rfl (by rfl) (fun w1 hw1 => ?_) ?_
    · simp only [pk, nthSp, lexVals]
      exact lu_mid rfl rfl LS (fun j u hu => by
        have h1 := HTs.out j u hu
        rw [(HY.out w1 hw1).cell (World.block_lt_of_cell? _ _ h1)]
        exact h1) Try.underlying27 rfl (by rw [HLs.out.2]; kernel_rfl) TS HLs.out.1
    refine lx_e (.pointer (some ⟨g + 1, 0, none⟩)) [] (by kernel_rfl) rfl (by rfl) (fun w1 hw1 => ?_) ?_
    · simp only [pk, lexVals]
      go_simp
      exact ⟨Ext.refl _, rfl⟩
    refine lx_e (.agg TT) [(0, 23)] (by kernel_rfl) rfl (by rfl) (fun w1 hw1 => ?_) ?_
    · simp only [pk, nthSp, lexVals]
      exact lu_mid rfl rfl LT (fun j u hu => by
        have h1 := HTt.out j u hu
        rw [(HY.out w1 hw1).cell (World.block_lt_of_cell? _ _ h1)]
        exact h1) Try.underlying27 rfl (by rw [HLt.out.2]; kernel_rfl) TT HLt.out.1
    refine lx_e (.bool false) [(2, 22), (0, 24)] (by kernel_rfl) rfl (by rfl) (fun w1 hw1 => ?_) ?_
    · simp only [pk, nthSp, lexVals]
      clear hw1
      go_simp
      exact ⟨Ext.refl _, by first | rfl | simp⟩
    refine lx_e (.bool false) [(0, 25)] (by kernel_rfl) rfl (by rfl) (fun w1 hw1 => ?_) ?_
    · simp only [pk, nthSp, lexVals]
      go_simp
      exact ⟨Ext.refl _, rfl⟩
    refine lx_no [(0, 26)] 26 (by kernel_rfl) rfl (by kernel_rfl) (by rfl) (fun w1 => ?_) ?_
    · simp only [pk, nthSp, lexVals]
      first | (go_simp; done) | (go_simp; exact fun h => by cases h)
    refine lx_no [(0, 27), (1, 26)] 26 (by kernel_rfl) rfl (by kernel_rfl) (by rfl) (fun w1 => ?_) ?_
    · simp only [pk, nthSp, lexVals]
      first | (go_simp; done) | (go_simp; exact fun h => by cases h)
    refine lx_no [(2, 26)] 26 (by kernel_rfl) rfl (by kernel_rfl) (by rfl) (fun w1 => ?_) ?_
    · simp only [pk, nthSp, lexVals]
      first | (go_simp; done) | (go_simp; exact fun h => by cases h)
    refine lx_no [(0, 29), (3, 26)] 26 (by kernel_rfl) rfl (by kernel_rfl) (by rfl) (fun w1 => ?_) ?_
    · simp only [pk, nthSp, lexVals]
      first | (go_simp; done) | (go_simp; exact fun h => by cases h)
    refine lx_no [(2, 28), (0, 30), (4, 26)] 26 (by kernel_rfl) rfl (by kernel_rfl) (by rfl) (fun w1 => ?_) ?_
    · simp only [pk, nthSp, lexVals]
      first | (go_simp; done) | (go_simp; exact fun h => by cases h)
    refine lx_e (.bool false) [(5, 26), (0, 31)] (by kernel_rfl) rfl (by rfl) (fun w1 hw1 => ?_) ?_
    · simp only [pk, nthSp, lexVals]
      go_simp
      exact ⟨Ext.refl _, rfl⟩
    refine lx_e (.bool false) [(0, 32)] (by kernel_rfl) rfl (by rfl) (fun w1 hw1 => ?_) ?_
    · simp only [pk, nthSp, lexVals]
      go_simp
      exact ⟨Ext.refl _, rfl⟩
    refine lx_no [(0, 33)] 33 (by kernel_rfl) rfl (by kernel_rfl) (by rfl) (fun w1 => ?_) ?_
    · simp only [pk, nthSp, lexVals]
      first | (go_simp; done) | (go_simp; exact fun h => by cases h)
    refine lx_no [(0, 34), (1, 33)] 33 (by kernel_rfl) rfl (by kernel_rfl) (by rfl) (fun w1 => ?_) ?_
    · simp only [pk, nthSp, lexVals]
      first | (go_simp; done) | (go_simp; exact fun h => by cases h)
    refine lx_no [(2, 33)] 33 (by kernel_rfl) rfl (by kernel_rfl) (by rfl) (fun w1 => ?_) ?_
    · simp only [pk, nthSp, lexVals]
      first | (go_simp; done) | (go_simp; exact fun h => by cases h)
    refine lx_no [(0, 36), (3, 33)] 33 (by kernel_rfl) rfl (by kernel_rfl) (by rfl) (fun w1 => ?_) ?_
    · simp only [pk, nthSp, lexVals]
      first | (go_simp; done) | (go_simp; exact fun h => by cases h)
    refine lx_no [(2, 35), (0, 37), (4, 33)] 33 (by kernel_rfl) rfl (by kernel_rfl) (by rfl) (fun w1 => ?_) ?_
    · simp only [pk, nthSp, lexVals]
      first | (go_simp; done) | (go_simp; exact fun h => by cases h)
    refine lx_e (.bool false) [(5, 33), (0, 38)] (by kernel_rfl) rfl (by rfl) (fun w1 hw1 => ?_) ?_
    · simp only [pk, nthSp, lexVals]
      go_simp
      exact ⟨Ext.refl _, rfl⟩
    refine lx_e (.bool false) [(0, 39)] (by kernel_rfl) rfl (by rfl) (fun w1 hw1 => ?_) ?_
    · simp only [pk, nthSp, lexVals]
      go_simp
      exact ⟨Ext.refl _, rfl⟩
    refine lx_no [(0, 40)] 40 (by kernel_rfl) rfl (by kernel_rfl) (by rfl) (fun w1 => ?_) ?_
    · simp only [pk, nthSp, lexVals]
      first | (go_simp; done) | (go_simp; exact fun h => by cases h)
    refine lx_no [(1, 40)] 40 (by kernel_rfl) rfl (by kernel_rfl) (by rfl) (fun w1 => ?_) ?_
    · simp only [pk, nthSp, lexVals]
      first | (go_simp; done) | (go_simp; exact fun h => by cases h)
    refine lx_no [(1, 41), (0, 42), (2, 40)] 40 (by kernel_rfl) rfl (by kernel_rfl) (by rfl) (fun w1 => ?_) ?_
    · simp only [pk, nthSp, lexVals]
      first | (go_simp; done) | (go_simp; exact fun h => by cases h)
    refine lx_e (.bool false) [(3, 40), (0, 43)] (by kernel_rfl) rfl (by rfl) (fun w1 hw1 => ?_) ?_
    · simp only [pk, nthSp, lexVals]
      go_simp
      exact ⟨Ext.refl _, rfl⟩
    refine lx_e (.bool false) [(0, 44)] (by kernel_rfl) rfl (by rfl) (fun w1 hw1 => ?_) ?_
    · simp only [pk, nthSp, lexVals]
      go_simp
      exact ⟨Ext.refl _, rfl⟩
    refine lx_no [(0, 45)] 45 (by kernel_rfl) rfl (by kernel_rfl) (by rfl) (fun w1 => ?_) ?_
    · simp only [pk, nthSp, lexVals]
      first | (go_simp; done) | (go_simp; exact fun h => by cases h)
    refine lx_no [(0, 46), (1, 45)] 45 (by kernel_rfl) rfl (by kernel_rfl) (by rfl) (fun w1 => ?_) ?_
    · simp only [pk, nthSp, lexVals]
      first | (go_simp; done) | (go_simp; exact fun h => by cases h)
    refine lx_no [(0, 47), (2, 45)] 45 (by kernel_rfl) rfl (by kernel_rfl) (by rfl) (fun w1 => ?_) ?_
    · simp only [pk, nthSp, lexVals]
      first | (go_simp; done) | (go_simp; exact fun h => by cases h)
    refine lx_no [(0, 48), (3, 45)] 45 (by kernel_rfl) rfl (by kernel_rfl) (by rfl) (fun w1 => ?_) ?_
    · simp only [pk, nthSp, lexVals]
      first | (go_simp; done) | (go_simp; exact fun h => by cases h)
    refine lx_no [(4, 45)] 45 (by kernel_rfl) rfl (by kernel_rfl) (by rfl) (fun w1 => ?_) ?_
    · simp only [pk, nthSp, lexVals]
      first | (go_simp; done) | (go_simp; exact fun h => by cases h)
    refine lx_no [(0, 50), (5, 45)] 45 (by kernel_rfl) rfl (by kernel_rfl) (by rfl) (fun w1 => ?_) ?_
    · simp only [pk, nthSp, lexVals]
      first | (go_simp; done) | (go_simp; exact fun h => by cases h)
    refine lx_no [(0, 51), (6, 45)] 45 (by kernel_rfl) rfl (by kernel_rfl) (by rfl) (fun w1 => ?_) ?_
    · simp only [pk, nthSp, lexVals]
      first | (go_simp; done) | (go_simp; exact fun h => by cases h)
    refine lx_no [(0, 52), (7, 45)] 45 (by kernel_rfl) rfl (by kernel_rfl) (by rfl) (fun w1 => ?_) ?_
    · simp only [pk, nthSp, lexVals]
      first | (go_simp; done) | (go_simp; exact fun h => by cases h)
    refine lx_no [(4, 49), (0, 53), (8, 45)] 45 (by kernel_rfl) rfl (by kernel_rfl) (by rfl) (fun w1 => ?_) ?_
    · simp only [pk, nthSp, lexVals]
      first | (go_simp; done) | (go_simp; exact fun h => by cases h)
    refine lx_e (.bool false) [(9, 45), (0, 54)] (by kernel_rfl) rfl (by rfl) (fun w1 hw1 => ?_) ?_
    · simp only [pk, nthSp, lexVals]
      go_simp
      exact ⟨Ext.refl _, rfl⟩
    refine lx_e (.bool false) [(0, 55)] (by kernel_rfl) rfl (by rfl) (fun w1 hw1 => ?_) ?_
    · simp only [pk, nthSp, lexVals]
      go_simp
      exact ⟨Ext.refl _, rfl⟩
    refine lx_stopA (by rfl) fun w7 hw7 => ?_
    have HE7 := Lib.hid (HE2.out.trans (HY.out w7 hw7))
    clear hw7
    simp only [rv, pf, lexVals]
    simp only [Act.put, List.setIfInBounds_toArray, List.set_cons_zero, List.set_cons_succ]
    go_wp2
    go_ret
    exact ⟨false, rfl, HE7.out, HSay.out _ (fun _ => rfl) (fun _ _ => rfl) (fun _ _ => rfl) (fun h => by cases h)⟩
  | true =>
    by_cases e3 : KS = KT
    · have q3 : (KS == KT) = true := by rw [e3]; simp
      by_cases e4 : AS = AT
      · have q4 : (AS == AT) = true := by rw [e4]; simp
        cases CB with
        | false =>
          refine wp_region_lexA (by kernel_rfl) (by kernel_rfl) ?_
          refine lx_e (.pointer (some ⟨g, 0, none⟩)) [] (by kernel_rfl) rfl (by rfl) (fun w1 hw1 => ?_) ?_
          · simp only [pk, lexVals]
            go_simp
            exact ⟨Ext.refl _, rfl⟩
          refine lx_e (.agg TS) [(0, 21)] (by kernel_rfl) rfl (by rfl) (fun w1 hw1 => ?_) ?_
          · simp only [pk, nthSp, lexVals]
            exact lu_mid rfl rfl LS (fun j u hu => by
              have h1 := HTs.out j u hu
              rw [(HY.out w1 hw1).cell (World.block_lt_of_cell? _ _ h1)]
              exact h1) Try.underlying27 rfl (by rw [HLs.out.2]; kernel_rfl) TS HLs.out.1
          refine lx_e (.pointer (some ⟨g + 1, 0, none⟩)) [] (by kernel_rfl) rfl (by rfl) (fun w1 hw1 => ?_) ?_
          · simp only [pk, lexVals]
            go_simp
            exact ⟨Ext.refl _, rfl⟩
          refine lx_e (.agg TT) [(0, 23)] (by kernel_rfl) rfl (by rfl) (fun w1 hw1 => ?_) ?_
          · simp only [pk, nthSp, lexVals]
            exact lu_mid rfl rfl LT (fun j u hu => by
              have h1 := HTt.out j u hu
              rw [(HY.out w1 hw1).cell (World.block_lt_of_cell? _ _ h1)]
              exact h1) Try.underlying27 rfl (by rw [HLt.out.2]; kernel_rfl) TT HLt.out.1
          refine lx_e (.bool true) [(2, 22), (0, 24)] (by kernel_rfl) rfl (by rfl) (fun w1 hw1 => ?_) ?_
          · simp only [pk, nthSp, lexVals]
            clear hw1
            go_simp
            exact ⟨Ext.refl _, by first | rfl | simp⟩
          refine lx_e (.bool true) [(0, 25)] (by kernel_rfl) rfl (by rfl) (fun w1 hw1 => ?_) ?_
          · simp only [pk, nthSp, lexVals]
            go_simp
            exact ⟨Ext.refl _, rfl⟩
          refine lx_ge (.pointer (some ⟨g, 141, none⟩)) [(0, 26)] 26 (by kernel_rfl) rfl (by kernel_rfl) (by rfl) (fun w1 => ?_) (fun w1 hw1 => ?_) ?_
          · simp only [pk, nthSp, lexVals]
            rfl
          · simp only [pk, nthSp, lexVals]
            go_simp
            exact ⟨Ext.refl _, rfl⟩
          refine lx_ge (.bool KS) [(0, 27), (1, 26)] 26 (by kernel_rfl) rfl (by kernel_rfl) (by rfl) (fun w1 => ?_) (fun w1 hw1 => ?_) ?_
          · simp only [pk, nthSp, lexVals]
            rfl
          · simp only [pk, nthSp, lexVals]
            have hc := (HCs.out w1 (HY.out w1 hw1)).2.1
            clear hw1
            go_simp
            exact ⟨Ext.refl _, by first | rfl | simp⟩
          refine lx_ge (.pointer (some ⟨g + 1, 141, none⟩)) [(2, 26)] 26 (by kernel_rfl) rfl (by kernel_rfl) (by rfl) (fun w1 => ?_) (fun w1 hw1 => ?_) ?_
          · simp only [pk, nthSp, lexVals]
            rfl
          · simp only [pk, nthSp, lexVals]
            go_simp
            exact ⟨Ext.refl _, rfl⟩
          refine lx_ge (.bool KT) [(0, 29), (3, 26)] 26 (by kernel_rfl) rfl (by kernel_rfl) (by rfl) (fun w1 => ?_) (fun w1 hw1 => ?_) ?_
          · simp only [pk, nthSp, lexVals]
            rfl
          · simp only [pk, nthSp, lexVals]
            have hc := (HCt.out w1 (HY.out w1 hw1)).2.1
            clear hw1
            go_simp
            exact ⟨Ext.refl _, by first | rfl | simp⟩
          refine lx_ge (.bool true) [(2, 28), (0, 30), (4, 26)] 26 (by kernel_rfl) rfl (by kernel_rfl) (by rfl) (fun w1 => ?_) (fun w1 hw1 => ?_) ?_
          · simp only [pk, nthSp, lexVals]
            rfl
          · simp only [pk, nthSp, lexVals]
            clear hw1
            go_simp
            exact ⟨Ext.refl _, by first | rfl | (show Value.bool _ = Value.bool _; simp [q3])⟩
          refine lx_e (.bool true) [(5, 26), (0, 31)] (by kernel_rfl) rfl (by rfl) (fun w1 hw1 => ?_) ?_
          · simp only [pk, nthSp, lexVals]
            go_simp
            exact ⟨Ext.refl _, rfl⟩
          refine lx_e (.bool true) [(0, 32)] (by kernel_rfl) rfl (by rfl) (fun w1 hw1 => ?_) ?_
          · simp only [pk, nthSp, lexVals]
            go_simp
            exact ⟨Ext.refl _, rfl⟩
          refine lx_ge (.pointer (some ⟨g, 142, none⟩)) [(0, 33)] 33 (by kernel_rfl) rfl (by kernel_rfl) (by rfl) (fun w1 => ?_) (fun w1 hw1 => ?_) ?_
          · simp only [pk, nthSp, lexVals]
            rfl
          · simp only [pk, nthSp, lexVals]
            go_simp
            exact ⟨Ext.refl _, rfl⟩
          refine lx_ge (.bool AS) [(0, 34), (1, 33)] 33 (by kernel_rfl) rfl (by kernel_rfl) (by rfl) (fun w1 => ?_) (fun w1 hw1 => ?_) ?_
          · simp only [pk, nthSp, lexVals]
            rfl
          · simp only [pk, nthSp, lexVals]
            have hc := (HCs.out w1 (HY.out w1 hw1)).2.2.1
            clear hw1
            go_simp
            exact ⟨Ext.refl _, by first | rfl | simp⟩
          refine lx_ge (.pointer (some ⟨g + 1, 142, none⟩)) [(2, 33)] 33 (by kernel_rfl) rfl (by kernel_rfl) (by rfl) (fun w1 => ?_) (fun w1 hw1 => ?_) ?_
          · simp only [pk, nthSp, lexVals]
            rfl
          · simp only [pk, nthSp, lexVals]
            go_simp
            exact ⟨Ext.refl _, rfl⟩
          refine lx_ge (.bool AT) [(0, 36), (3, 33)] 33 (by kernel_rfl) rfl (by kernel_rfl) (by rfl) (fun w1 => ?_) (fun w1 hw1 => ?_) ?_
          · simp only [pk, nthSp, lexVals]
            rfl
          · simp only [pk, nthSp, lexVals]
            have hc := (HCt.out w1 (HY.out w1 hw1)).2.2.1
            clear hw1
            go_simp
            exact ⟨Ext.refl _, by first | rfl | simp⟩
          refine lx_ge (.bool true) [(2, 35), (0, 37), (4, 33)] 33 (by kernel_rfl) rfl (by kernel_rfl) (by rfl) (fun w1 => ?_) (fun w1 hw1 => ?_) ?_
          · simp only [pk, nthSp, lexVals]
            rfl
          · simp only [pk, nthSp, lexVals]
            clear hw1
            go_simp
            exact ⟨Ext.refl _, by first | rfl | (show Value.bool _ = Value.bool _; simp [q4])⟩
          refine lx_e (.bool true) [(5, 33), (0, 38)] (by kernel_rfl) rfl (by rfl) (fun w1 hw1 => ?_) ?_
          · simp only [pk, nthSp, lexVals]
            go_simp
            exact ⟨Ext.refl _, rfl⟩
          refine lx_e (.bool true) [(0, 39)] (by kernel_rfl) rfl (by rfl) (fun w1 hw1 => ?_) ?_
          · simp only [pk, nthSp, lexVals]
            go_simp
            exact ⟨Ext.refl _, rfl⟩
          refine lx_ge (.agg C5) [(0, 40)] 40 (by kernel_rfl) rfl (by kernel_rfl) (by rfl) (fun w1 => ?_) (fun w1 hw1 => ?_) ?_
          · simp only [pk, nthSp, lexVals]
            rfl
          · simp only [pk, nthSp, lexVals]
            exact lu_row rfl rfl ((HY4.out w1 hw1).keep HB5'.out) Try.underlying34 rfl (by rw [HC5s.out.1]; kernel_rfl)
          refine lx_ge (.agg C6) [(1, 40)] 40 (by kernel_rfl) rfl (by kernel_rfl) (by rfl) (fun w1 => ?_) (fun w1 hw1 => ?_) ?_
          · simp only [pk, nthSp, lexVals]
            rfl
          · simp only [pk, nthSp, lexVals]
            exact lu_row rfl rfl ((HY4.out w1 hw1).keep HB6.out) Try.underlying34 rfl (by rw [HC6s.out.1]; kernel_rfl)
          refine lx_ge (.bool false) [(1, 41), (0, 42), (2, 40)] 40 (by kernel_rfl) rfl (by kernel_rfl) (by rfl) (fun w1 => ?_) (fun w1 hw1 => ?_) ?_
          · simp only [pk, nthSp, lexVals]
            rfl
          · simp only [pk, nthSp, lexVals]
            have HM := Lib.hid (HSc.out w1 (HY.out w1 hw1))
            clear hw1
            go_simp
            refine HM.out.mono ?_
            rintro e w2 ⟨rfl, hE2⟩
            exact ⟨_, rfl, hE2, rfl⟩
          refine lx_e (.bool false) [(3, 40), (0, 43)] (by kernel_rfl) rfl (by rfl) (fun w1 hw1 => ?_) ?_
          · simp only [pk, nthSp, lexVals]
            go_simp
            exact ⟨Ext.refl _, rfl⟩
          refine lx_e (.bool false) [(0, 44)] (by kernel_rfl) rfl (by rfl) (fun w1 hw1 => ?_) ?_
          · simp only [pk, nthSp, lexVals]
            go_simp
            exact ⟨Ext.refl _, rfl⟩
          refine lx_no [(0, 45)] 45 (by kernel_rfl) rfl (by kernel_rfl) (by rfl) (fun w1 => ?_) ?_
          · simp only [pk, nthSp, lexVals]
            first | (go_simp; done) | (go_simp; exact fun h => by cases h)
          refine lx_no [(0, 46), (1, 45)] 45 (by kernel_rfl) rfl (by kernel_rfl) (by rfl) (fun w1 => ?_) ?_
          · simp only [pk, nthSp, lexVals]
            first | (go_simp; done) | (go_simp; exact fun h => by cases h)
          refine lx_no [(0, 47), (2, 45)] 45 (by kernel_rfl) rfl (by kernel_rfl) (by rfl) (fun w1 => ?_) ?_
          · simp only [pk, nthSp, lexVals]
            first | (go_simp; done) | (go_simp; exact fun h => by cases h)
          refine lx_no [(0, 48), (3, 45)] 45 (by kernel_rfl) rfl (by kernel_rfl) (by rfl) (fun w1 => ?_) ?_
          · simp only [pk, nthSp, lexVals]
            first | (go_simp; done) | (go_simp; exact fun h => by cases h)
          refine lx_no [(4, 45)] 45 (by kernel_rfl) rfl (by kernel_rfl) (by rfl) (fun w1 => ?_) ?_
          · simp only [pk, nthSp, lexVals]
            first | (go_simp; done) | (go_simp; exact fun h => by cases h)
          refine lx_no [(0, 50), (5, 45)] 45 (by kernel_rfl) rfl (by kernel_rfl) (by rfl) (fun w1 => ?_) ?_
          · simp only [pk, nthSp, lexVals]
            first | (go_simp; done) | (go_simp; exact fun h => by cases h)
          refine lx_no [(0, 51), (6, 45)] 45 (by kernel_rfl) rfl (by kernel_rfl) (by rfl) (fun w1 => ?_) ?_
          · simp only [pk, nthSp, lexVals]
            first | (go_simp; done) | (go_simp; exact fun h => by cases h)
          refine lx_no [(0, 52), (7, 45)] 45 (by kernel_rfl) rfl (by kernel_rfl) (by rfl) (fun w1 => ?_) ?_
          · simp only [pk, nthSp, lexVals]
            first | (go_simp; done) | (go_simp; exact fun h => by cases h)
          refine lx_no [(4, 49), (0, 53), (8, 45)] 45 (by kernel_rfl) rfl (by kernel_rfl) (by rfl) (fun w1 => ?_) ?_
          · simp only [pk, nthSp, lexVals]
            first | (go_simp; done) | (go_simp; exact fun h => by cases h)
          refine lx_e (.bool false) [(9, 45), (0, 54)] (by kernel_rfl) rfl (by rfl) (fun w1 hw1 => ?_) ?_
          · simp only [pk, nthSp, lexVals]
            go_simp
            exact ⟨Ext.refl _, rfl⟩
          refine lx_e (.bool false) [(0, 55)] (by kernel_rfl) rfl (by rfl) (fun w1 hw1 => ?_) ?_
          · simp only [pk, nthSp, lexVals]
            go_simp
            exact ⟨Ext.refl _, rfl⟩
          refine lx_stopA (by rfl) fun w7 hw7 => ?_
          have HE7 := Lib.hid (HE2.out.trans (HY.out w7 hw7))
          clear hw7
          simp only [rv, pf, lexVals]
          simp only [Act.put, List.setIfInBounds_toArray, List.set_cons_zero, List.set_cons_succ]
          go_wp2
          go_ret
          exact ⟨false, rfl, HE7.out, HSay.out _ (fun h => by cases h) (fun _ _ => rfl) (fun _ _ => rfl) (fun _ _ _ h1 h2 h3 _ => HCh.out h1 h2 h3)⟩
        | true =>
          obtain ⟨EQ, hEQ⟩ : ∃ z, ((strOf BA).toList == (strOf BC).toList) = z := ⟨_, rfl⟩
          have HEQ := Lib.hid hEQ
          clear hEQ
          refine wp_region_lexA (by kernel_rfl) (by kernel_rfl) ?_
          refine lx_e (.pointer (some ⟨g, 0, none⟩)) [] (by kernel_rfl) rfl (by rfl) (fun w1 hw1 => ?_) ?_
          · simp only [pk, lexVals]
            go_simp
            exact ⟨Ext.refl _, rfl⟩
          refine lx_e (.agg TS) [(0, 21)] (by kernel_rfl) rfl (by rfl) (fun w1 hw1 => ?_) ?_
          · simp only [pk, nthSp, lexVals]
            exact lu_mid rfl rfl LS (fun j u hu => by
              have h1 := HTs.out j u hu
              rw [(HY.out w1 hw1).cell (World.block_lt_of_cell? _ _ h1)]
              exact h1) Try.underlying27 rfl (by rw [HLs.out.2]; kernel_rfl) TS HLs.out.1
          refine lx_e (.pointer (some ⟨g + 1, 0, none⟩)) [] (by kernel_rfl) rfl (by rfl) (fun w1 hw1 => ?_) ?_
          · simp only [pk, lexVals]
            go_simp
            exact ⟨Ext.refl _, rfl⟩
          refine lx_e (.agg TT) [(0, 23)] (by kernel_rfl) rfl (by rfl) (fun w1 hw1 => ?_) ?_
          · simp only [pk, nthSp, lexVals]
            exact lu_mid rfl rfl LT (fun j u hu => by
              have h1 := HTt.out j u hu
              rw [(HY.out w1 hw1).cell (World.block_lt_of_cell? _ _ h1)]
              exact h1) Try.underlying27 rfl (by rw [HLt.out.2]; kernel_rfl) TT HLt.out.1
          refine lx_e (.bool true) [(2, 22), (0, 24)] (by kernel_rfl) rfl (by rfl) (fun w1 hw1 => ?_) ?_
          · simp only [pk, nthSp, lexVals]
            clear hw1
            go_simp
            exact ⟨Ext.refl _, by first | rfl | simp⟩
          refine lx_e (.bool true) [(0, 25)] (by kernel_rfl) rfl (by rfl) (fun w1 hw1 => ?_) ?_
          · simp only [pk, nthSp, lexVals]
            go_simp
            exact ⟨Ext.refl _, rfl⟩
          refine lx_ge (.pointer (some ⟨g, 141, none⟩)) [(0, 26)] 26 (by kernel_rfl) rfl (by kernel_rfl) (by rfl) (fun w1 => ?_) (fun w1 hw1 => ?_) ?_
          · simp only [pk, nthSp, lexVals]
            rfl
          · simp only [pk, nthSp, lexVals]
            go_simp
            exact ⟨Ext.refl _, rfl⟩
          refine lx_ge (.bool KS) [(0, 27), (1, 26)] 26 (by kernel_rfl) rfl (by kernel_rfl) (by rfl) (fun w1 => ?_) (fun w1 hw1 => ?_) ?_
          · simp only [pk, nthSp, lexVals]
            rfl
          · simp only [pk, nthSp, lexVals]
            have hc := (HCs.out w1 (HY.out w1 hw1)).2.1
            clear hw1
            go_simp
            exact ⟨Ext.refl _, by first | rfl | simp⟩
          refine lx_ge (.pointer (some ⟨g + 1, 141, none⟩)) [(2, 26)] 26 (by kernel_rfl) rfl (by kernel_rfl) (by rfl) (fun w1 => ?_) (fun w1 hw1 => ?_) ?_
          · simp only [pk, nthSp, lexVals]
            rfl
          · simp only [pk, nthSp, lexVals]
            go_simp
            exact ⟨Ext.refl _, rfl⟩
          refine lx_ge (.bool KT) [(0, 29), (3, 26)] 26 (by kernel_rfl) rfl (by kernel_rfl) (by rfl) (fun w1 => ?_) (fun w1 hw1 => ?_) ?_
          · simp only [pk, nthSp, lexVals]
            rfl
          · simp only [pk, nthSp, lexVals]
            have hc := (HCt.out w1 (HY.out w1 hw1)).2.1
            clear hw1
            go_simp
            exact ⟨Ext.refl _, by first | rfl | simp⟩
          refine lx_ge (.bool true) [(2, 28), (0, 30), (4, 26)] 26 (by kernel_rfl) rfl (by kernel_rfl) (by rfl) (fun w1 => ?_) (fun w1 hw1 => ?_) ?_
          · simp only [pk, nthSp, lexVals]
            rfl
          · simp only [pk, nthSp, lexVals]
            clear hw1
            go_simp
            exact ⟨Ext.refl _, by first | rfl | (show Value.bool _ = Value.bool _; simp [q3])⟩
          refine lx_e (.bool true) [(5, 26), (0, 31)] (by kernel_rfl) rfl (by rfl) (fun w1 hw1 => ?_) ?_
          · simp only [pk, nthSp, lexVals]
            go_simp
            exact ⟨Ext.refl _, rfl⟩
          refine lx_e (.bool true) [(0, 32)] (by kernel_rfl) rfl (by rfl) (fun w1 hw1 => ?_) ?_
          · simp only [pk, nthSp, lexVals]
            go_simp
            exact ⟨Ext.refl _, rfl⟩
          refine lx_ge (.pointer (some ⟨g, 142, none⟩)) [(0, 33)] 33 (by kernel_rfl) rfl (by kernel_rfl) (by rfl) (fun w1 => ?_) (fun w1 hw1 => ?_) ?_
          · simp only [pk, nthSp, lexVals]
            rfl
          · simp only [pk, nthSp, lexVals]
            go_simp
            exact ⟨Ext.refl _, rfl⟩
          refine lx_ge (.bool AS) [(0, 34), (1, 33)] 33 (by kernel_rfl) rfl (by kernel_rfl) (by rfl) (fun w1 => ?_) (fun w1 hw1 => ?_) ?_
          · simp only [pk, nthSp, lexVals]
            rfl
          · simp only [pk, nthSp, lexVals]
            have hc := (HCs.out w1 (HY.out w1 hw1)).2.2.1
            clear hw1
            go_simp
            exact ⟨Ext.refl _, by first | rfl | simp⟩
          refine lx_ge (.pointer (some ⟨g + 1, 142, none⟩)) [(2, 33)] 33 (by kernel_rfl) rfl (by kernel_rfl) (by rfl) (fun w1 => ?_) (fun w1 hw1 => ?_) ?_
          · simp only [pk, nthSp, lexVals]
            rfl
          · simp only [pk, nthSp, lexVals]
            go_simp
            exact ⟨Ext.refl _, rfl⟩
          refine lx_ge (.bool AT) [(0, 36), (3, 33)] 33 (by kernel_rfl) rfl (by kernel_rfl) (by rfl) (fun w1 => ?_) (fun w1 hw1 => ?_) ?_
          · simp only [pk, nthSp, lexVals]
            rfl
          · simp only [pk, nthSp, lexVals]
            have hc := (HCt.out w1 (HY.out w1 hw1)).2.2.1
            clear hw1
            go_simp
            exact ⟨Ext.refl _, by first | rfl | simp⟩
          refine lx_ge (.bool true) [(2, 35), (0, 37), (4, 33)] 33 (by kernel_rfl) rfl (by kernel_rfl) (by rfl) (fun w1 => ?_) (fun w1 hw1 => ?_) ?_
          · simp only [pk, nthSp, lexVals]
            rfl
          · simp only [pk, nthSp, lexVals]
            clear hw1
            go_simp
            exact ⟨Ext.refl _, by first | rfl | (show Value.bool _ = Value.bool _; simp [q4])⟩
          refine lx_e (.bool true) [(5, 33), (0, 38)] (by kernel_rfl) rfl (by rfl) (fun w1 hw1 => ?_) ?_
          · simp only [pk, nthSp, lexVals]
            go_simp
            exact ⟨Ext.refl _, rfl⟩
          refine lx_e (.bool true) [(0, 39)] (by kernel_rfl) rfl (by rfl) (fun w1 hw1 => ?_) ?_
          · simp only [pk, nthSp, lexVals]
            go_simp
            exact ⟨Ext.refl _, rfl⟩
          refine lx_ge (.agg C5) [(0, 40)] 40 (by kernel_rfl) rfl (by kernel_rfl) (by rfl) (fun w1 => ?_) (fun w1 hw1 => ?_) ?_
          · simp only [pk, nthSp, lexVals]
            rfl
          · simp only [pk, nthSp, lexVals]
            exact lu_row rfl rfl ((HY4.out w1 hw1).keep HB5'.out) Try.underlying34 rfl (by rw [HC5s.out.1]; kernel_rfl)
          refine lx_ge (.agg C6) [(1, 40)] 40 (by kernel_rfl) rfl (by kernel_rfl) (by rfl) (fun w1 => ?_) (fun w1 hw1 => ?_) ?_
          · simp only [pk, nthSp, lexVals]
            rfl
          · simp only [pk, nthSp, lexVals]
            exact lu_row rfl rfl ((HY4.out w1 hw1).keep HB6.out) Try.underlying34 rfl (by rw [HC6s.out.1]; kernel_rfl)
          refine lx_ge (.bool true) [(1, 41), (0, 42), (2, 40)] 40 (by kernel_rfl) rfl (by kernel_rfl) (by rfl) (fun w1 => ?_) (fun w1 hw1 => ?_) ?_
          · simp only [pk, nthSp, lexVals]
            rfl
          · simp only [pk, nthSp, lexVals]
            have HM := Lib.hid (HSc.out w1 (HY.out w1 hw1))
            clear hw1
            go_simp
            refine HM.out.mono ?_
            rintro e w2 ⟨rfl, hE2⟩
            exact ⟨_, rfl, hE2, rfl⟩
          refine lx_e (.bool true) [(3, 40), (0, 43)] (by kernel_rfl) rfl (by rfl) (fun w1 hw1 => ?_) ?_
          · simp only [pk, nthSp, lexVals]
            go_simp
            exact ⟨Ext.refl _, rfl⟩
          refine lx_e (.bool true) [(0, 44)] (by kernel_rfl) rfl (by rfl) (fun w1 hw1 => ?_) ?_
          · simp only [pk, nthSp, lexVals]
            go_simp
            exact ⟨Ext.refl _, rfl⟩
          refine lx_ge (.pointer (some ⟨g, 16, none⟩)) [(0, 45)] 45 (by kernel_rfl) rfl (by kernel_rfl) (by rfl) (fun w1 => ?_) (fun w1 hw1 => ?_) ?_
          · simp only [pk, nthSp, lexVals]
            rfl
          · simp only [pk, nthSp, lexVals]
            go_simp
            exact ⟨Ext.refl _, rfl⟩
          refine lx_ge (.agg VHs) [(0, 46), (1, 45)] 45 (by kernel_rfl) rfl (by kernel_rfl) (by rfl) (fun w1 => ?_) (fun w1 hw1 => ?_) ?_
          · simp only [pk, nthSp, lexVals]
            rfl
          · simp only [pk, nthSp, lexVals]
            exact lu_mid rfl rfl LHs (HCs.out w1 (HY.out w1 hw1)).1 Try.underlying31 rfl (by rw [HHs.out.2]; kernel_rfl) VHs HHs.out.1
          refine lx_ga (fun u z => ∃ (a : Option Addr) (n c : Nat), u = .slice a n c ∧ BsAt z a n c BA) [(0, 47), (2, 45)] 45 (by kernel_rfl) rfl (by kernel_rfl) (by rfl) (fun u z z' he ⟨a, n, c, h1, h2⟩ => ⟨a, n, c, h1, h2.ext he⟩) (fun w1 => ?_) (fun w1 hw1 => ?_) ?_
          · simp only [pk, nthSp, lexVals]
            rfl
          · simp only [pk, nthSp, lexVals]
            have HM := Lib.hid (HBs.out w1 (HY.out w1 hw1))
            clear hw1
            go_simp
            refine HM.out.mono ?_
            rintro e w3 ⟨a, n, c, rfl, hb, hE⟩
            exact ⟨_, rfl, hE, a, n, c, rfl, hb⟩
          refine lx_ge (.string (strOf BA)) [(0, 48), (3, 45)] 45 (by kernel_rfl) rfl (by kernel_rfl) (by rfl) (fun w1 => ?_) (fun w1 hw1 => ?_) ?_
          · simp only [pk, nthSp, lexVals]
            rintro u48 ⟨a46, n46, c46, rfl, -⟩
            rfl
          · simp only [pk, nthSp, lexVals]
            rintro u48 ⟨a46, n46, c46, rfl, hb46⟩
            exact lu_str rfl rfl hb46
          refine lx_ge (.pointer (some ⟨g + 1, 16, none⟩)) [(4, 45)] 45 (by kernel_rfl) rfl (by kernel_rfl) (by rfl) (fun w1 => ?_) (fun w1 hw1 => ?_) ?_
          · simp only [pk, nthSp, lexVals]
            rfl
          · simp only [pk, nthSp, lexVals]
            go_simp
            exact ⟨Ext.refl _, rfl⟩
          refine lx_ge (.agg VHt) [(0, 50), (5, 45)] 45 (by kernel_rfl) rfl (by kernel_rfl) (by rfl) (fun w1 => ?_) (fun w1 hw1 => ?_) ?_
          · simp only [pk, nthSp, lexVals]
            rfl
          · simp only [pk, nthSp, lexVals]
            exact lu_mid rfl rfl LHt (HCt.out w1 (HY.out w1 hw1)).1 Try.underlying31 rfl (by rw [HHt.out.2]; kernel_rfl) VHt HHt.out.1
          refine lx_ga (fun u z => ∃ (a : Option Addr) (n c : Nat), u = .slice a n c ∧ BsAt z a n c BC) [(0, 51), (6, 45)] 45 (by kernel_rfl) rfl (by kernel_rfl) (by rfl) (fun u z z' he ⟨a, n, c, h1, h2⟩ => ⟨a, n, c, h1, h2.ext he⟩) (fun w1 => ?_) (fun w1 hw1 => ?_) ?_
          · simp only [pk, nthSp, lexVals]
            rfl
          · simp only [pk, nthSp, lexVals]
            have HM := Lib.hid (HBt.out w1 (HY.out w1 hw1))
            clear hw1
            go_simp
            refine HM.out.mono ?_
            rintro e w3 ⟨a, n, c, rfl, hb, hE⟩
            exact ⟨_, rfl, hE, a, n, c, rfl, hb⟩
          refine lx_ge (.string (strOf BC)) [(0, 52), (7, 45)] 45 (by kernel_rfl) rfl (by kernel_rfl) (by rfl) (fun w1 => ?_) (fun w1 hw1 => ?_) ?_
          · simp only [pk, nthSp, lexVals]
            rintro u52 ⟨a50, n50, c50, rfl, -⟩
            rfl
          · simp only [pk, nthSp, lexVals]
            rintro u52 ⟨a50, n50, c50, rfl, hb50⟩
            exact lu_str rfl rfl hb50
          refine lx_ge (.bool EQ) [(4, 49), (0, 53), (8, 45)] 45 (by kernel_rfl) rfl (by kernel_rfl) (by rfl) (fun w1 => ?_) (fun w1 hw1 => ?_) ?_
          · simp only [pk, nthSp, lexVals]
            rfl
          · simp only [pk, nthSp, lexVals]
            clear hw1
            go_simp
            exact ⟨Ext.refl _, by first | (rw [← HEQ.out]; rfl) | (show Value.bool _ = Value.bool _; simp [← HEQ.out])⟩
          refine lx_e (.bool EQ) [(9, 45), (0, 54)] (by kernel_rfl) rfl (by rfl) (fun w1 hw1 => ?_) ?_
          · simp only [pk, nthSp, lexVals]
            go_simp
            exact ⟨Ext.refl _, rfl⟩
          refine lx_e (.bool EQ) [(0, 55)] (by kernel_rfl) rfl (by rfl) (fun w1 hw1 => ?_) ?_
          · simp only [pk, nthSp, lexVals]
            go_simp
            exact ⟨Ext.refl _, rfl⟩
          refine lx_stopA (by rfl) fun w7 hw7 => ?_
          have HE7 := Lib.hid (HE2.out.trans (HY.out w7 hw7))
          clear hw7
          simp only [rv, pf, lexVals]
          rintro u48 - u52 -
          simp only [Act.put, List.setIfInBounds_toArray, List.set_cons_zero, List.set_cons_succ]
          go_wp2
          go_ret
          refine ⟨EQ, rfl, HE7.out, HSay.out _ (fun h => by cases h) (fun h1 h2 => ?_) (fun h1 h2 => ?_) (fun _ _ _ _ _ _ h => ?_)⟩
          · rw [← HEQ.out, h2]
            exact strOf_nil h1
          · rw [← HEQ.out, h1]
            have h3 := strOf_nil h2
            rw [beq_eq_false_iff_ne] at h3 ⊢
            exact fun e => h3 e.symm
          · rw [← HEQ.out, h]
            simp
      · have q4 : (AS == AT) = false := beq_eq_false_iff_ne.2 e4
        refine wp_region_lexA (by kernel_rfl) (by kernel_rfl) ?_
        refine lx_e (.pointer (some ⟨g, 0, none⟩)) [] (by kernel_rfl) rfl (by rfl) (fun w1 hw1 => ?_) ?_
        · simp only [pk, lexVals]
          go_simp
          exact ⟨Ext.refl _, rfl⟩
        refine lx_e (.agg TS) [(0, 21)] (by kernel_rfl) rfl (by rfl) (fun w1 hw1 => ?_) ?_
        · simp only [pk, nthSp, lexVals]
          exact lu_mid rfl rfl LS (fun j u hu => by
            have h1 := HTs.out j u hu
            rw [(HY.out w1 hw1).cell (World.block_lt_of_cell? _ _ h1)]
            exact h1) Try.underlying27 rfl (by rw [HLs.out.2]; kernel_rfl) TS HLs.out.1
        refine lx_e (.pointer (some ⟨g + 1, 0, none⟩)) [] (by kernel_rfl) rfl (by rfl) (fun w1 hw1 => ?_) ?_
        · simp only [pk, lexVals]
          go_simp
          exact ⟨Ext.refl _, rfl⟩
        refine lx_e (.agg TT) [(0, 23)] (by kernel_rfl) rfl (by rfl) (fun w1 hw1 => ?_) ?_
        · simp only [pk, nthSp, lexVals]
          exact lu_mid rfl rfl LT (fun j u hu => by
            have h1 := HTt.out j u hu
            rw [(HY.out w1 hw1).cell (World.block_lt_of_cell? _ _ h1)]
            exact h1) Try.underlying27 rfl (by rw [HLt.out.2]; kernel_rfl) TT HLt.out.1
        refine lx_e (.bool true) [(2, 22), (0, 24)] (by kernel_rfl) rfl (by rfl) (fun w1 hw1 => ?_) ?_
        · simp only [pk, nthSp, lexVals]
          clear hw1
          go_simp
          exact ⟨Ext.refl _, by first | rfl | simp⟩
        refine lx_e (.bool true) [(0, 25)] (by kernel_rfl) rfl (by rfl) (fun w1 hw1 => ?_) ?_
        · simp only [pk, nthSp, lexVals]
          go_simp
          exact ⟨Ext.refl _, rfl⟩
        refine lx_ge (.pointer (some ⟨g, 141, none⟩)) [(0, 26)] 26 (by kernel_rfl) rfl (by kernel_rfl) (by rfl) (fun w1 => ?_) (fun w1 hw1 => ?_) ?_
        · simp only [pk, nthSp, lexVals]
          rfl
        · simp only [pk, nthSp, lexVals]
          go_simp
          exact ⟨Ext.refl _, rfl⟩
        refine lx_ge (.bool KS) [(0, 27), (1, 26)] 26 (by kernel_rfl) rfl (by kernel_rfl) (by rfl) (fun w1 => ?_) (fun w1 hw1 => ?_) ?_
        · simp only [pk, nthSp, lexVals]
          rfl
        · simp only [pk, nthSp, lexVals]
          have hc := (HCs.out w1 (HY.out w1 hw1)).2.1
          clear hw1
          go_simp
          exact ⟨Ext.refl _, by first | rfl | simp⟩
        refine lx_ge (.pointer (some ⟨g + 1, 141, none⟩)) [(2, 26)] 26 (by kernel_rfl) rfl (by kernel_rfl) (by rfl) (fun w1 => ?_) (fun w1 hw1 => ?_) ?_
        · simp only [pk, nthSp, lexVals]
          rfl
        · simp only [pk, nthSp, lexVals]
          go_simp
          exact ⟨Ext.refl _, rfl⟩
        refine lx_ge (.bool KT) [(0, 29), (3, 26)] 26 (by kernel_rfl) rfl (by kernel_rfl) (by rfl) (fun w1 => ?_) (fun w1 hw1 => ?_) ?_
        · simp only [pk, nthSp, lexVals]
          rfl
        · simp only [pk, nthSp, lexVals]
          have hc := (HCt.out w1 (HY.out w1 hw1)).2.1
          clear hw1
          go_simp
          exact ⟨Ext.refl _, by first | rfl | simp⟩
        refine lx_ge (.bool true) [(2, 28), (0, 30), (4, 26)] 26 (by kernel_rfl) rfl (by kernel_rfl) (by rfl) (fun w1 => ?_) (fun w1 hw1 => ?_) ?_
        · simp only [pk, nthSp, lexVals]
          rfl
        · simp only [pk, nthSp, lexVals]
          clear hw1
          go_simp
          exact ⟨Ext.refl _, by first | rfl | (show Value.bool _ = Value.bool _; simp [q3])⟩
        refine lx_e (.bool true) [(5, 26), (0, 31)] (by kernel_rfl) rfl (by rfl) (fun w1 hw1 => ?_) ?_
        · simp only [pk, nthSp, lexVals]
          go_simp
          exact ⟨Ext.refl _, rfl⟩
        refine lx_e (.bool true) [(0, 32)] (by kernel_rfl) rfl (by rfl) (fun w1 hw1 => ?_) ?_
        · simp only [pk, nthSp, lexVals]
          go_simp
          exact ⟨Ext.refl _, rfl⟩
        refine lx_ge (.pointer (some ⟨g, 142, none⟩)) [(0, 33)] 33 (by kernel_rfl) rfl (by kernel_rfl) (by rfl) (fun w1 => ?_) (fun w1 hw1 => ?_) ?_
        · simp only [pk, nthSp, lexVals]
          rfl
        · simp only [pk, nthSp, lexVals]
          go_simp
          exact ⟨Ext.refl _, rfl⟩
        refine lx_ge (.bool AS) [(0, 34), (1, 33)] 33 (by kernel_rfl) rfl (by kernel_rfl) (by rfl) (fun w1 => ?_) (fun w1 hw1 => ?_) ?_
        · simp only [pk, nthSp, lexVals]
          rfl
        · simp only [pk, nthSp, lexVals]
          have hc := (HCs.out w1 (HY.out w1 hw1)).2.2.1
          clear hw1
          go_simp
          exact ⟨Ext.refl _, by first | rfl | simp⟩
        refine lx_ge (.pointer (some ⟨g + 1, 142, none⟩)) [(2, 33)] 33 (by kernel_rfl) rfl (by kernel_rfl) (by rfl) (fun w1 => ?_) (fun w1 hw1 => ?_) ?_
        · simp only [pk, nthSp, lexVals]
          rfl
        · simp only [pk, nthSp, lexVals]
          go_simp
          exact ⟨Ext.refl _, rfl⟩
        refine lx_ge (.bool AT) [(0, 36), (3, 33)] 33 (by kernel_rfl) rfl (by kernel_rfl) (by rfl) (fun w1 => ?_) (fun w1 hw1 => ?_) ?_
        · simp only [pk, nthSp, lexVals]
          rfl
        · simp only [pk, nthSp, lexVals]
          have hc := (HCt.out w1 (HY.out w1 hw1)).2.2.1
          clear hw1
          go_simp
          exact ⟨Ext.refl _, by first | rfl | simp⟩
        refine lx_ge (.bool false) [(2, 35), (0, 37), (4, 33)] 33 (by kernel_rfl) rfl (by kernel_rfl) (by rfl) (fun w1 => ?_) (fun w1 hw1 => ?_) ?_
        · simp only [pk, nthSp, lexVals]
          rfl
        · simp only [pk, nthSp, lexVals]
          clear hw1
          go_simp
          exact ⟨Ext.refl _, by first | rfl | (show Value.bool _ = Value.bool _; simp [q4])⟩
        refine lx_e (.bool false) [(5, 33), (0, 38)] (by kernel_rfl) rfl (by rfl) (fun w1 hw1 => ?_) ?_
        · simp only [pk, nthSp, lexVals]
          go_simp
          exact ⟨Ext.refl _, rfl⟩
        refine lx_e (.bool false) [(0, 39)] (by kernel_rfl) rfl (by rfl) (fun w1 hw1 => ?_) ?_
        · simp only [pk, nthSp, lexVals]
          go_simp
          exact ⟨Ext.refl _, rfl⟩
        refine lx_no [(0, 40)] 40 (by kernel_rfl) rfl (by kernel_rfl) (by rfl) (fun w1 => ?_) ?_
        · simp only [pk, nthSp, lexVals]
          first | (go_simp; done) | (go_simp; exact fun h => by cases h)
        refine lx_no [(1, 40)] 40 (by kernel_rfl) rfl (by kernel_rfl) (by rfl) (fun w1 => ?_) ?_
        · simp only [pk, nthSp, lexVals]
          first | (go_simp; done) | (go_simp; exact fun h => by cases h)
        refine lx_no [(1, 41), (0, 42), (2, 40)] 40 (by kernel_rfl) rfl (by kernel_rfl) (by rfl) (fun w1 => ?_) ?_
        · simp only [pk, nthSp, lexVals]
          first | (go_simp; done) | (go_simp; exact fun h => by cases h)
        refine lx_e (.bool false) [(3, 40), (0, 43)] (by kernel_rfl) rfl (by rfl) (fun w1 hw1 => ?_) ?_
        · simp only [pk, nthSp, lexVals]
          go_simp
          exact ⟨Ext.refl _, rfl⟩
        refine lx_e (.bool false) [(0, 44)] (by kernel_rfl) rfl (by rfl) (fun w1 hw1 => ?_) ?_
        · simp only [pk, nthSp, lexVals]
          go_simp
          exact ⟨Ext.refl _, rfl⟩
        refine lx_no [(0, 45)] 45 (by kernel_rfl) rfl (by kernel_rfl) (by rfl) (fun w1 => ?_) ?_
        · simp only [pk, nthSp, lexVals]
          first | (go_simp; done) | (go_simp; exact fun h => by cases h)
        refine lx_no [(0, 46), (1, 45)] 45 (by kernel_rfl) rfl (by kernel_rfl) (by rfl) (fun w1 => ?_) ?_
        · simp only [pk, nthSp, lexVals]
          first | (go_simp; done) | (go_simp; exact fun h => by cases h)
        refine lx_no [(0, 47), (2, 45)] 45 (by kernel_rfl) rfl (by kernel_rfl) (by rfl) (fun w1 => ?_) ?_
        · simp only [pk, nthSp, lexVals]
          first | (go_simp; done) | (go_simp; exact fun h => by cases h)
        refine lx_no [(0, 48), (3, 45)] 45 (by kernel_rfl) rfl (by kernel_rfl) (by rfl) (fun w1 => ?_) ?_
        · simp only [pk, nthSp, lexVals]
          first | (go_simp; done) | (go_simp; exact fun h => by cases h)
        refine lx_no [(4, 45)] 45 (by kernel_rfl) rfl (by kernel_rfl) (by rfl) (fun w1 => ?_) ?_
        · simp only [pk, nthSp, lexVals]
          first | (go_simp; done) | (go_simp; exact fun h => by cases h)
        refine lx_no [(0, 50), (5, 45)] 45 (by kernel_rfl) rfl (by kernel_rfl) (by rfl) (fun w1 => ?_) ?_
        · simp only [pk, nthSp, lexVals]
          first | (go_simp; done) | (go_simp; exact fun h => by cases h)
        refine lx_no [(0, 51), (6, 45)] 45 (by kernel_rfl) rfl (by kernel_rfl) (by rfl) (fun w1 => ?_) ?_
        · simp only [pk, nthSp, lexVals]
          first | (go_simp; done) | (go_simp; exact fun h => by cases h)
        refine lx_no [(0, 52), (7, 45)] 45 (by kernel_rfl) rfl (by kernel_rfl) (by rfl) (fun w1 => ?_) ?_
        · simp only [pk, nthSp, lexVals]
          first | (go_simp; done) | (go_simp; exact fun h => by cases h)
        refine lx_no [(4, 49), (0, 53), (8, 45)] 45 (by kernel_rfl) rfl (by kernel_rfl) (by rfl) (fun w1 => ?_) ?_
        · simp only [pk, nthSp, lexVals]
          first | (go_simp; done) | (go_simp; exact fun h => by cases h)
        refine lx_e (.bool false) [(9, 45), (0, 54)] (by kernel_rfl) rfl (by rfl) (fun w1 hw1 => ?_) ?_
        · simp only [pk, nthSp, lexVals]
          go_simp
          exact ⟨Ext.refl _, rfl⟩
        refine lx_e (.bool false) [(0, 55)] (by kernel_rfl) rfl (by rfl) (fun w1 hw1 => ?_) ?_
        · simp only [pk, nthSp, lexVals]
          go_simp
          exact ⟨Ext.refl _, rfl⟩
        refine lx_stopA (by rfl) fun w7 hw7 => ?_
        have HE7 := Lib.hid (HE2.out.trans (HY.out w7 hw7))
        clear hw7
        simp only [rv, pf, lexVals]
        simp only [Act.put, List.setIfInBounds_toArray, List.set_cons_zero, List.set_cons_succ]
        go_wp2
        go_ret
        exact ⟨false, rfl, HE7.out, HSay.out _ (fun h => by cases h) (fun _ _ => rfl) (fun _ _ => rfl) (fun _ _ h => (e4 h).elim)⟩
    · have q3 : (KS == KT) = false := beq_eq_false_iff_ne.2 e3
      refine wp_region_lexA (by kernel_rfl) (by kernel_rfl) ?_
      refine lx_e (.pointer (some ⟨g, 0, none⟩)) [] (by kernel_rfl) rfl (by rfl) (fun w1 hw1 => ?_) ?_
      · simp only [pk, lexVals]
        go_simp
        exact ⟨Ext.refl _, rfl⟩
      refine lx_e (.agg TS) [(0, 21)] (by kernel_rfl) rfl (by rfl) (fun w1 hw1 => ?_) ?_
      · simp only [pk, nthSp, lexVals]
        exact lu_mid rfl rfl LS (fun j u hu => by
          have h1 := HTs.out j u hu
          rw [(HY.out w1 hw1).cell (World.block_lt_of_cell? _ _ h1)]
          exact h1) Try.underlying27 rfl (by rw [HLs.out.2]; kernel_rfl) TS HLs.out.1
      refine lx_e (.pointer (some ⟨g + 1, 0, none⟩)) [] (by kernel_rfl) rfl (by rfl) (fun w1 hw1 => ?_) ?_
      · simp only [pk, lexVals]
        go_simp
        exact ⟨Ext.refl _, rfl⟩
      refine lx_e (.agg TT) [(0, 23)] (by kernel_rfl) rfl (by rfl) (fun w1 hw1 => ?_) ?_
      · simp only [pk, nthSp, lexVals]
        exact lu_mid rfl rfl LT (fun j u hu => by
          have h1 := HTt.out j u hu
          rw [(HY.out w1 hw1).cell (World.block_lt_of_cell? _ _ h1)]
          exact h1) Try.underlying27 rfl (by rw [HLt.out.2]; kernel_rfl) TT HLt.out.1
      refine lx_e (.bool true) [(2, 22), (0, 24)] (by kernel_rfl) rfl (by rfl) (fun w1 hw1 => ?_) ?_
      · simp only [pk, nthSp, lexVals]
        clear hw1
        go_simp
        exact ⟨Ext.refl _, by first | rfl | simp⟩
      refine lx_e (.bool true) [(0, 25)] (by kernel_rfl) rfl (by rfl) (fun w1 hw1 => ?_) ?_
      · simp only [pk, nthSp, lexVals]
        go_simp
        exact ⟨Ext.refl _, rfl⟩
      refine lx_ge (.pointer (some ⟨g, 141, none⟩)) [(0, 26)] 26 (by kernel_rfl) rfl (by kernel_rfl) (by rfl) (fun w1 => ?_) (fun w1 hw1 => ?_) ?_
      · simp only [pk, nthSp, lexVals]
        rfl
      · simp only [pk, nthSp, lexVals]
        go_simp
        exact ⟨Ext.refl _, rfl⟩
      refine lx_ge (.bool KS) [(0, 27), (1, 26)] 26 (by kernel_rfl) rfl (by kernel_rfl) (by rfl) (fun w1 => ?_) (fun w1 hw1 => ?_) ?_
      · simp only [pk, nthSp, lexVals]
        rfl
      · simp only [pk, nthSp, lexVals]
        have hc := (HCs.out w1 (HY.out w1 hw1)).2.1
        clear hw1
        go_simp
        exact ⟨Ext.refl _, by first | rfl | simp⟩
      refine lx_ge (.pointer (some ⟨g + 1, 141, none⟩)) [(2, 26)] 26 (by kernel_rfl) rfl (by kernel_rfl) (by rfl) (fun w1 => ?_) (fun w1 hw1 => ?_) ?_
      · simp only [pk, nthSp, lexVals]
        rfl
      · simp only [pk, nthSp, lexVals]
        go_simp
        exact ⟨Ext.refl _, rfl⟩
      refine lx_ge (.bool KT) [(0, 29), (3, 26)] 26 (by kernel_rfl) rfl (by kernel_rfl) (by rfl) (fun w1 => ?_) (fun w1 hw1 => ?_) ?_
      · simp only [pk, nthSp, lexVals]
        rfl
      · simp only [pk, nthSp, lexVals]
        have hc := (HCt.out w1 (HY.out w1 hw1)).2.1
        clear hw1
        go_simp
        exact ⟨Ext.refl _, by first | rfl | simp⟩
      refine lx_ge (.bool false) [(2, 28), (0, 30), (4, 26)] 26 (by kernel_rfl) rfl (by kernel_rfl) (by rfl) (fun w1 => ?_) (fun w1 hw1 => ?_) ?_
      · simp only [pk, nthSp, lexVals]
        rfl
      · simp only [pk, nthSp, lexVals]
        clear hw1
        go_simp
        exact ⟨Ext.refl _, by first | rfl | (show Value.bool _ = Value.bool _; simp [q3])⟩
      refine lx_e (.bool false) [(5, 26), (0, 31)] (by kernel_rfl) rfl (by rfl) (fun w1 hw1 => ?_) ?_
      · simp only [pk, nthSp, lexVals]
        go_simp
        exact ⟨Ext.refl _, rfl⟩
      refine lx_e (.bool false) [(0, 32)] (by kernel_rfl) rfl (by rfl) (fun w1 hw1 => ?_) ?_
      · simp only [pk, nthSp, lexVals]
        go_simp
        exact ⟨Ext.refl _, rfl⟩
      refine lx_no [(0, 33)] 33 (by kernel_rfl) rfl (by kernel_rfl) (by rfl) (fun w1 => ?_) ?_
      · simp only [pk, nthSp, lexVals]
        first | (go_simp; done) | (go_simp; exact fun h => by cases h)
      refine lx_no [(0, 34), (1, 33)] 33 (by kernel_rfl) rfl (by kernel_rfl) (by rfl) (fun w1 => ?_) ?_
      · simp only [pk, nthSp, lexVals]
        first | (go_simp; done) | (go_simp; exact fun h => by cases h)
      refine lx_no [(2, 33)] 33 (by kernel_rfl) rfl (by kernel_rfl) (by rfl) (fun w1 => ?_) ?_
      · simp only [pk, nthSp, lexVals]
        first | (go_simp; done) | (go_simp; exact fun h => by cases h)
      refine lx_no [(0, 36), (3, 33)] 33 (by kernel_rfl) rfl (by kernel_rfl) (by rfl) (fun w1 => ?_) ?_
      · simp only [pk, nthSp, lexVals]
        first | (go_simp; done) | (go_simp; exact fun h => by cases h)
      refine lx_no [(2, 35), (0, 37), (4, 33)] 33 (by kernel_rfl) rfl (by kernel_rfl) (by rfl) (fun w1 => ?_) ?_
      · simp only [pk, nthSp, lexVals]
        first | (go_simp; done) | (go_simp; exact fun h => by cases h)
      refine lx_e (.bool false) [(5, 33), (0, 38)] (by kernel_rfl) rfl (by rfl) (fun w1 hw1 => ?_) ?_
      · simp only [pk, nthSp, lexVals]
        go_simp
        exact ⟨Ext.refl _, rfl⟩
      refine lx_e (.bool false) [(0, 39)] (by kernel_rfl) rfl (by rfl) (fun w1 hw1 => ?_) ?_
      · simp only [pk, nthSp, lexVals]
        go_simp
        exact ⟨Ext.refl _, rfl⟩
      refine lx_no [(0, 40)] 40 (by kernel_rfl) rfl (by kernel_rfl) (by rfl) (fun w1 => ?_) ?_
      · simp only [pk, nthSp, lexVals]
        first | (go_simp; done) | (go_simp; exact fun h => by cases h)
      refine lx_no [(1, 40)] 40 (by kernel_rfl) rfl (by kernel_rfl) (by rfl) (fun w1 => ?_) ?_
      · simp only [pk, nthSp, lexVals]
        first | (go_simp; done) | (go_simp; exact fun h => by cases h)
      refine lx_no [(1, 41), (0, 42), (2, 40)] 40 (by kernel_rfl) rfl (by kernel_rfl) (by rfl) (fun w1 => ?_) ?_
      · simp only [pk, nthSp, lexVals]
        first | (go_simp; done) | (go_simp; exact fun h => by cases h)
      refine lx_e (.bool false) [(3, 40), (0, 43)] (by kernel_rfl) rfl (by rfl) (fun w1 hw1 => ?_) ?_
      · simp only [pk, nthSp, lexVals]
        go_simp
        exact ⟨Ext.refl _, rfl⟩
      refine lx_e (.bool false) [(0, 44)] (by kernel_rfl) rfl (by rfl) (fun w1 hw1 => ?_) ?_
      · simp only [pk, nthSp, lexVals]
        go_simp
        exact ⟨Ext.refl _, rfl⟩
      refine lx_no [(0, 45)] 45 (by kernel_rfl) rfl (by kernel_rfl) (by rfl) (fun w1 => ?_) ?_
      · simp only [pk, nthSp, lexVals]
        first | (go_simp; done) | (go_simp; exact fun h => by cases h)
      refine lx_no [(0, 46), (1, 45)] 45 (by kernel_rfl) rfl (by kernel_rfl) (by rfl) (fun w1 => ?_) ?_
      · simp only [pk, nthSp, lexVals]
        first | (go_simp; done) | (go_simp; exact fun h => by cases h)
      refine lx_no [(0, 47), (2, 45)] 45 (by kernel_rfl) rfl (by kernel_rfl) (by rfl) (fun w1 => ?_) ?_
      · simp only [pk, nthSp, lexVals]
        first | (go_simp; done) | (go_simp; exact fun h => by cases h)
      refine lx_no [(0, 48), (3, 45)] 45 (by kernel_rfl) rfl (by kernel_rfl) (by rfl) (fun w1 => ?_) ?_
      · simp only [pk, nthSp, lexVals]
        first | (go_simp; done) | (go_simp; exact fun h => by cases h)
      refine lx_no [(4, 45)] 45 (by kernel_rfl) rfl (by kernel_rfl) (by rfl) (fun w1 => ?_) ?_
      · simp only [pk, nthSp, lexVals]
        first | (go_simp; done) | (go_simp; exact fun h => by cases h)
      refine lx_no [(0, 50), (5, 45)] 45 (by kernel_rfl) rfl (by kernel_rfl) (by rfl) (fun w1 => ?_) ?_
      · simp only [pk, nthSp, lexVals]
        first | (go_simp; done) | (go_simp; exact fun h => by cases h)
      refine lx_no [(0, 51), (6, 45)] 45 (by kernel_rfl) rfl (by kernel_rfl) (by rfl) (fun w1 => ?_) ?_
      · simp only [pk, nthSp, lexVals]
        first | (go_simp; done) | (go_simp; exact fun h => by cases h)
      refine lx_no [(0, 52), (7, 45)] 45 (by kernel_rfl) rfl (by kernel_rfl) (by rfl) (fun w1 => ?_) ?_
      · simp only [pk, nthSp, lexVals]
        first | (go_simp; done) | (go_simp; exact fun h => by cases h)
      refine lx_no [(4, 49), (0, 53), (8, 45)] 45 (by kernel_rfl) rfl (by kernel_rfl) (by rfl) (fun w1 => ?_) ?_
      · simp only [pk, nthSp, lexVals]
        first | (go_simp; done) | (go_simp; exact fun h => by cases h)
      refine lx_e (.bool false) [(9, 45), (0, 54)] (by kernel_rfl) rfl (by rfl) (fun w1 hw1 => ?_) ?_
      · simp only [pk, nthSp, lexVals]
        go_simp
        exact ⟨Ext.refl _, rfl⟩
      refine lx_e (.bool false) [(0, 55)] (by kernel_rfl) rfl (by rfl) (fun w1 hw1 => ?_) ?_
      · simp only [pk, nthSp, lexVals]
        go_simp
        exact ⟨Ext.refl _, rfl⟩
      refine lx_stopA (by rfl) fun w7 hw7 => ?_
      have HE7 := Lib.hid (HE2.out.trans (HY.out w7 hw7))
      clear hw7
      simp only [rv, pf, lexVals]
      simp only [Act.put, List.setIfInBounds_toArray, List.set_cons_zero, List.set_cons_succ]
      go_wp2
      go_ret
      exact ⟨false, rfl, HE7.out, HSay.out _ (fun h => by cases h) (fun _ _ => rfl) (fun _ _ => rfl) (fun _ h => (e3 h).elim)⟩

theorem same_made {x z : Nat → Int} {L : List Rw} {s t : It} (h : IsMade x L s) (k : IsMade z L t) : s.kn = t.kn ∧ s.al = t.al ∧ s.name = t.name ∧ s.tags = t.tags ∧ s.val = t.val ∧ bytesL s.hd.1 s.hd.2 = bytesL t.hd.1 t.hd.2 ∧ sameB s.hd.1 t.hd.1 s.hd.2 t.hd.2 = true := by
  obtain ⟨a, c, e1⟩ := h.hd
  obtain ⟨b, d, e2⟩ := k.hd
  have hn := h.al
  have kn := k.al
  refine ⟨by rw [h.kn, k.kn], by rw [hn, kn], by rw [h.name, k.name], by rw [h.tags, k.tags], by rw [h.val, k.val], ?_, ?_⟩
  · rw [e1, e2]
    rfl
  · rw [e1, e2]
    exact sameB_re _ _ _ _ _
theorem ofTok_congr {x z : Nat → Int} (h : arrB 16 x z = true) (cs : List Rw) : ofTok x cs = ofTok z cs := by
  unfold ofTok
  refine List.filter_congr fun r _ => ?_
  have h1 := of_decide_eq_true h
  unfold arrB
  exact decide_eq_decide.2 ⟨fun k j hj => (h1 j hj).symm.trans (k j hj), fun k j hj => (h1 j hj).trans (k j hj)⟩
theorem made_top {x : Nat → Int} {cs : List Rw} {s : It} (hf : ∀ r ∈ cs, rowB r = true) (h : IsMade x (ofTok x cs) s) (h0 : ofTok x cs ≠ []) : 1 ≤ s.hd.1.writer ∧ bytesL s.hd.1 s.hd.2 ≠ [] := by
  obtain ⟨a, c, e⟩ := h.hd
  have hm := topR_mem (p := fun _ => true) (L := ofTok x cs) (by rw [filterT]; exact h0)
  have hr := hf _ (ofTok_mem hm).1
  unfold rowB at hr
  rw [Bool.and_eq_true, Bool.and_eq_true] at hr
  have hh := hr.1.1
  rw [e]
  refine ⟨(hdB_bd hh).1.1, ?_⟩
  intro k
  have k2 : bytesL (topR (fun _ => true) (ofTok x cs)).hd.1 (topR (fun _ => true) (ofTok x cs)).hd.2 = [] := k
  unfold bytesL at k2
  rw [if_pos hh] at k2
  have k3 := congrArg List.length k2
  rw [List.length_append, ln_length] at k3
  simp at k3
theorem itN_none : bytesL itN.hd.1 itN.hd.2 = [] := by
  unfold bytesL
  rw [if_neg]
  intro h
  have h1 := (hdB_bd h).1.1
  have h2 : itN.hd.1.writer = 0 := rfl
  omega
theorem sameB_wr {h g : Hd} {ts us : List (Nat → Int)} (hw : h.writer ≠ g.writer) : sameB h g ts us = false := by
  unfold sameB sm10 sm9 sm8 sm7 sm6 sm5 sm4 sm3 sm2 sm1 sm0
  rw [beq_eq_false_iff_ne.2 hw]
  simp
/-- Whether two items are the same is one thing, whoever tells it. -/
theorem sm_det {x z : Nat → Int} {cs : List Rw} {s t : It} (hf : ∀ r ∈ cs, rowB r = true) (hs : Was x (ofTok x cs) s) (ht : Was z (ofTok z cs) t) :
    ∃ V : Bool, (∀ B, SmI s t (sameB s.hd.1 t.hd.1 s.hd.2 t.hd.2) B → B = V) ∧ (∀ B, SmR s t (bytesL s.hd.1 s.hd.2) (bytesL t.hd.1 t.hd.2) B → B = V) := by
  by_cases hq : arrB 16 s.tok t.tok = true
  · by_cases h1 : ofTok x cs = []
    · by_cases h2 : ofTok z cs = []
      · unfold Was at hs ht
        rw [if_pos h1] at hs
        rw [if_pos h2] at ht
        subst hs
        subst ht
        have e : sameB itN.hd.1 itN.hd.1 itN.hd.2 itN.hd.2 = true := sameB_re itN.hd itN.hd.1.ta itN.hd.1.ta itN.hd.1.tc itN.hd.1.tc
        exact ⟨true, fun B h => h.2.2 hq e rfl rfl rfl rfl rfl, fun B h => h.2.2.2 hq rfl rfl rfl rfl rfl rfl⟩
      · unfold Was at hs ht
        rw [if_pos h1] at hs
        rw [if_neg h2] at ht
        subst hs
        obtain ⟨k1, k2⟩ := made_top hf ht h2
        have h0 : itN.hd.1.writer = 0 := rfl
        exact ⟨false, fun B h => h.2.1 (sameB_wr (by omega)), fun B h => h.2.2.1 itN_none k2⟩
    · by_cases h2 : ofTok z cs = []
      · unfold Was at hs ht
        rw [if_neg h1] at hs
        rw [if_pos h2] at ht
        subst ht
        obtain ⟨k1, k2⟩ := made_top hf hs h1
        have h0 : itN.hd.1.writer = 0 := rfl
        exact ⟨false, fun B h => h.2.1 (sameB_wr (by omega)), fun B h => h.2.1 k2 itN_none⟩
      · unfold Was at hs ht
        rw [if_neg h1] at hs
        rw [if_neg h2] at ht
        rw [hs.tok, ht.tok] at hq
        rw [ofTok_congr hq cs] at hs
        have hm := same_made hs ht
        have hq2 : arrB 16 s.tok t.tok = true := by rw [hs.tok, ht.tok]; exact hq
        exact ⟨true, fun B h => h.2.2 hq2 hm.2.2.2.2.2.2 hm.1 hm.2.1 hm.2.2.1 hm.2.2.2.1 hm.2.2.2.2.1, fun B h => h.2.2.2 hq2 hm.1 hm.2.1 hm.2.2.1 hm.2.2.2.1 hm.2.2.2.2.1 hm.2.2.2.2.2.1⟩
  · have hq : arrB 16 s.tok t.tok = false := by rw [Bool.eq_false_iff]; exact hq
    exact ⟨false, fun B h => h.1 hq, fun B h => h.1 hq⟩

end Go.Proofs.Ytldaligeckjhaaa
