/-
  The walk of index.New. Asked: nothing.
  What an index's Put has done, opened; a row of pieces beside it. No conditions.
  The walk of jalousielaw20.awake. Asked: the two tables.
-/
import Derived.Test.YtihlpfdhallfpaaDoorIx
import Derived.Test.YtihlpfdhallfpaaDoorPcO
import Derived.Test.YtihlpfdhallfpaaDoorIxQ
namespace Go.Proofs.YtihlpfdhallfpaaDoor
open Go.ChangeAt Go.ChangeShapes Go.RowKit Go.WideShapes

/-- The cells of an index of which i chains are laid. -/
def nwC (G : Nat → Nat) (i k : Nat) : Value :=
  if k < 6 then (if k < i then .pointer (some ⟨G k, 0, none⟩) else .pointer none) else if k < 12 then .slice none 0 0 else .int .i64 0
theorem nw_zero (G : Nat → Nat) : (#[.pointer none, .pointer none, .pointer none, .pointer none, .pointer none, .pointer none, .slice none 0 0, .slice none 0 0, .slice none 0 0, .slice none 0 0, .slice none 0 0, .slice none 0 0, .int .i64 0] : Array Value) = rowArr 13 (nwC G 0) := rfl
theorem nwC_set (G : Nat → Nat) (i g : Nat) (hi : i < 6) (k : Nat) : (if k = i then Value.pointer (some ⟨g, 0, none⟩) else nwC G i k) = nwC (fun j => if j = i then g else G j) (i + 1) k := by
  unfold nwC
  by_cases h : k = i
  · subst h
    rw [if_pos rfl, if_pos hi, if_pos (by omega)]
    simp
  · rw [if_neg h]
    by_cases h6 : k < 6
    · dsimp only
      rw [if_pos h6, if_pos h6, if_neg h]
      by_cases hk : k < i
      · rw [if_pos hk, if_pos (by omega)]
      · rw [if_neg hk, if_neg (by omega)]
    · rw [if_neg h6, if_neg h6]
structure NwI (w wr : World) (B gx i : Nat) (G : Nat → Nat) : Prop where
  row : wr.rowIs gx 72 13 (nwC G i)
  ch : ∀ j, j < i → ChAt wr B (G j) ((j : Int) + 1) none 0 [] (fun _ => 0)
  up : ∀ j, j < i → gx < G j
  ne : ∀ j k, j < i → k < i → j ≠ k → G j ≠ G k
  ext : Ext w wr
theorem NwI.full {w wr : World} {B gx : Nat} {G : Nat → Nat} (h : NwI w wr B gx 6 G) (hB : B ≤ gx) : IxAt wr B gx G (fun _ => cst0) 0 := by
  refine ⟨h.row.congr fun k hk => ?_, fun i hi => h.ch i hi, fun i _ => World.ownsRow_nil _ _ _ _, fun i _ x hx => (by cases hx), hB, fun s t hs ht hst k e1 e2 => ?_, fun i _ x hx => (by cases hx), fun i _ x hx => (by cases hx)⟩
  · unfold nwC ixC
    by_cases h6 : k < 6
    · rw [if_pos h6, if_pos h6, if_pos h6]
    · rw [if_neg h6, if_neg h6]
      rfl
  · have key : ∀ s, s < 19 → ∀ k, ixP gx G (fun _ => cst0) s = some k → (s < 6 ∧ G s = k) ∨ (s = 18 ∧ gx = k) := fun s hs k e => by
      unfold ixP at e
      by_cases h1 : s < 6
      · rw [if_pos h1] at e
        exact .inl ⟨h1, Option.some.inj e⟩
      rw [if_neg h1] at e
      by_cases h2 : s < 12
      · rw [if_pos h2] at e
        cases e
      rw [if_neg h2] at e
      by_cases h3 : s < 18
      · rw [if_pos h3] at e
        cases e
      rw [if_neg h3] at e
      exact .inr ⟨by omega, Option.some.inj e⟩
    rcases key s hs k e1 with ⟨a1, a2⟩ | ⟨a1, a2⟩ <;> rcases key t ht k e2 with ⟨b1, b2⟩ | ⟨b1, b2⟩
    · exact h.ne s t a1 b1 hst (by rw [a2, b2])
    · have := h.up s a1
      omega
    · have := h.up t b1
      omega
    · omega

set_option maxHeartbeats 4000000 in
set_option maxRecDepth 100000 in
theorem ixNew_any (B : Nat) (w : World) (hB : B ≤ w.heap.size) :
    Calls Tryd.prog 8 #[] w fun e w' => ∃ gx G, e = .returned (.pointer (some ⟨gx, 0, none⟩)) ∧ IxAt w' B gx G (fun _ => cst0) 0 ∧ Ext w w' := by
  obtain ⟨w2, hw2⟩ : ∃ x, w.alloc (.cells #[.pointer none, .pointer none, .pointer none, .pointer none, .pointer none, .pointer none, .slice none 0 0, .slice none 0 0, .slice none 0 0, .slice none 0 0, .slice none 0 0, .slice none 0 0, .int .i64 0] 72) = x := ⟨_, rfl⟩
  obtain ⟨gx, hg⟩ : ∃ g, w.heap.size = g := ⟨_, rfl⟩
  have h0 : NwI w w2 B gx 0 (fun _ => 0) := by
    rw [← hw2, ← hg, nw_zero (fun _ => 0)]
    exact ⟨rowIs_of (heap_new w _ _ rfl), fun j hj => by omega, fun j hj => by omega, fun j k hj => by omega, (Ext.refl w).alloc _⟩
  have H0 := Lib.hid h0
  have Hw2 := Lib.hid hw2
  have Hg := Lib.hid hg
  have HB := Lib.hid hB
  clear h0 hw2 hg hB
  go_enter Tryd.func8, Tryd.ntmps8
  go_upto_region 2 with (fail)
  refine wp_world (w' := w2) Hw2.out ?_
  rw [Hg.out]
  go_wp2
  go_loopw [5] (fun i wr => ∃ (k : Nat) (G : Nat → Nat), k ≤ 6 ∧ i = .int .i64 (k : Int) ∧ NwI w wr B gx k G) (fun i _ => 6 - (intOf i).toNat)
  case atStart => exact ⟨0, _, by omega, rfl, H0.out⟩
  case round =>
    obtain ⟨i, G, hi, rfl, hI⟩ := hrel
    have HI := Lib.hid hI
    clear hI
    by_cases hlt : i < 6
    · have x1 : (i : Int) < 6 := by omega
      have Hi := Lib.hid hlt
      go_upto_region 5 with (fail)
      have HST := Lib.hid (show ∀ (ph : Bool) (w1 w' : World), Ext wr w1 → Ext w1 w' → Ext wr w' ∧ Ext w1 w' from fun _ w1 w' h1 h2 => ⟨h1.trans h2, h2⟩)
      refine lq_start (C := fun _ x => Ext wr x) (E := fun _ x y => Ext x y) 8 0 (by omega) (by kernel_rfl) (by kernel_rfl) (fun _ w => Ext.refl w) (fun _ _ h => h) (Ext.refl wr).drew ?_
      simp only [List.take_succ_cons, List.take_zero]
      refine lq_m (.ex (.pointer (some ⟨gx, 0, none⟩))) [] rfl (by kernel_rfl) rfl (by rfl) trivial (fun w1 hw1 => ?_) ?_
      · simp only [pk, lexVals]
        go_simp
        exact ⟨hw1, Ext.refl _, rfl⟩
      refine lq_s (.ex (.int .i64 (i : Int))) [] (by omega) (by kernel_rfl) rfl (by rfl) trivial HST.out (fun ph w1 hw1 => ?_) ?_
      · simp only [pk, lexVals]
        clear hw1
        go_simp
        exact ⟨Ext.refl _, rfl⟩
      refine lq_s (.ex (.int .i64 (i : Int))) [] (by omega) (by kernel_rfl) rfl (by rfl) trivial HST.out (fun ph w1 hw1 => ?_) ?_
      · simp only [pk, lexVals]
        clear hw1
        go_simp
        exact ⟨Ext.refl _, rfl⟩
      refine lq_s (.ex (.int .i64 ((i : Int) + 1))) [(0, 10)] (by omega) (by kernel_rfl) rfl (by rfl) trivial HST.out (fun ph w1 hw1 => ?_) ?_
      · simp only [pk, nthSp, lexVals]
        clear hw1
        go_simp
        exact ⟨Ext.refl _, by first | rfl | (show Value.int .i64 _ = Value.int .i64 _; congr 1; first | done | (rw [IntKind.wrap_i64]; omega) | omega)⟩
      refine lq_s (.ab (fun u w9 => ∃ g, u = .pointer (some ⟨g, 0, none⟩) ∧ wr.heap.size ≤ g ∧ ChAt w9 B g ((i : Int) + 1) none 0 [] (fun _ => 0))) [(0, 11)] (by omega) (by kernel_rfl) rfl (by rfl) (fun u w w' he ⟨g, h1, h2, h3⟩ => ⟨g, h1, h2, h3.ext he⟩) HST.out (fun ph w1 hw1 => ?_) ?_
      · simp only [pk, nthSp, lexVals]
        have hm := new_any ((i : Int) + 1) w1
        have hz : wr.heap.size ≤ w1.heap.size := Below.size hw1
        have hz2 : B ≤ w1.heap.size := by have h1 := HB.out; have h2 := Below.size HI.out.ext; omega
        have HM := Lib.hid hm
        clear hw1 hm
        go_simp
        refine HM.out.mono ?_
        rintro e w5 ⟨g, rfl, hc, hE⟩
        exact ⟨_, rfl, hE, g, rfl, Nat.le_trans hz hc.low, hc.row, World.ownsRow_nil _ _ _ _, fun x hx => (by cases hx), Nat.le_trans hz2 hc.low, hc.ne, fun x hx => (by cases hx)⟩
      refine lq_s (.ex (.pointer (some ⟨gx, 0, none⟩))) [(4, 8)] (by omega) (by kernel_rfl) rfl (by rfl) trivial HST.out (fun ph w1 hw1 => ?_) ?_
      · simp only [pk, nthSp, lexVals]
        clear hw1
        go_simp
        exact ⟨Ext.refl _, rfl⟩
      refine lq_s (.ex (.pointer (some ⟨gx, 0, none⟩))) [(0, 13)] (by omega) (by kernel_rfl) rfl (by rfl) trivial HST.out (fun ph w1 hw1 => ?_) ?_
      · simp only [pk, nthSp, lexVals]
        clear hw1
        go_simp
        exact ⟨Ext.refl _, rfl⟩
      refine lq_s (.ex (.pointer (some ⟨gx, i, none⟩))) [(0, 14), (5, 9)] (by omega) (by kernel_rfl) rfl (by rfl) trivial HST.out (fun ph w1 hw1 => ?_) ?_
      · simp only [pk, nthSp, lexVals]
        clear hw1
        go_simp
        exact ⟨Ext.refl _, by first | rfl | simp⟩
      refine lq_stop (by rfl) (by decide) fun w6 hw6 => ?_
      simp only [rv, pf, lexVals]
      rintro v12 ⟨g, rfl, hgz, hch⟩
      have hr6 := HI.out.row.of_block (hw6.block HI.out.row.lt)
      have c1 := hr6.cell (i := i) (by omega)
      have f1 := hr6.frozen i
      have HN := Lib.hid (show NwI w (w6.setCell ⟨gx, i, none⟩ (.pointer (some ⟨g, 0, none⟩))) B gx (i + 1) (fun j => if j = i then g else G j) from by
        have hgx := HI.out.row.lt
        have hcs : ∀ {g' : Nat} {wi : Int}, ChAt w6 B g' wi none 0 [] (fun _ => 0) → g' ≠ gx → ChAt (w6.setCell ⟨gx, i, none⟩ (.pointer (some ⟨g, 0, none⟩))) B g' wi none 0 [] (fun _ => 0) := fun h hne =>
          ⟨h.row.setOther hne _, World.ownsRow_nil _ _ _ _, fun x hx => (by cases hx), h.low, h.ne, fun x hx => (by cases hx)⟩
        refine ⟨(hr6.set i _).congr fun k _ => nwC_set G i g Hi.out k, fun j hj => ?_, fun j hj => ?_, fun j k hj hk hjk => ?_, (HI.out.ext.trans hw6).setCell (by have := Hg.out; show w.heap.size ≤ gx; omega) _⟩
        · by_cases hji : j = i
          · subst hji
            rw [if_pos rfl]
            exact hcs hch (by omega)
          · rw [if_neg hji]
            have := HI.out.up j (by omega)
            exact hcs ((HI.out.ch j (by omega)).ext hw6) (by omega)
        · by_cases hji : j = i
          · rw [if_pos hji]
            omega
          · rw [if_neg hji]
            exact HI.out.up j (by omega)
        · have hlt : ∀ j, j < i → G j < wr.heap.size := fun j hj => (HI.out.ch j hj).row.lt
          by_cases hji : j = i
          · by_cases hki : k = i
            · omega
            · rw [if_pos hji, if_neg hki]
              have := hlt k (by omega)
              omega
          · by_cases hki : k = i
            · rw [if_neg hji, if_pos hki]
              have := hlt j (by omega)
              omega
            · rw [if_neg hji, if_neg hki]
              exact HI.out.ne j k (by omega) (by omega) hjk)
      clear hw6 HST hr6 hgz hch
      simp only [Act.put, List.setIfInBounds_toArray, List.set_cons_zero, List.set_cons_succ]
      go_wp2
      go_roundw
      case rel => exact ⟨i + 1, _, by omega, by go_num, HN.out⟩
      case measure => simp [intOf]; omega
    · have x1 : ¬ (i : Int) < 6 := by omega
      obtain rfl : i = 6 := by omega
      go_wp2
      go_ret
      exact ⟨gx, rfl, ⟨G, HI.out.full (by have h1 := HB.out; have h2 := Hg.out; omega)⟩, HI.out.ext⟩

theorem IxOwns.far {gx : Nat} {G : Nat → Nat} {S : Nat → CSt} {b : Nat} (h : ¬ IxOwns gx G S b) : IxFar gx G S b := fun s hs e => h (.inl ⟨s, hs, e⟩)
/-- A piece put in. -/
structure PutIn (w w' : World) (B gx : Nat) (G : Nat → Nat) (S S2 : Nat → CSt) (cnt : Int) (p : Pc) (i : Nat) (ta : Option Addr) (tc : Nat) (qa : Option Addr) (qc : Nat) : Prop where
  lt : i < 6
  wr : p.hd.1.writer = (i : Int) + 1
  ix : IxAt w' B gx G S2 (cnt + 1)
  kp : Kp w w' (IxFar gx G S)
  owns : ∀ b, IxOwns gx G S2 b → IxOwns gx G S b ∨ w.heap.size ≤ b
  ne : ∀ j, j ≠ i → S2 j = S j
  l : (S2 i).l = (S i).l ++ [reT p.hd ta tc]
  T : (S2 i).T = shaF (bytesL p.hd.1 p.hd.2)
  bl : (S2 i).bl = (S i).bl ++ [(p.bd, qa, qc)]
theorem PutTo.open {w w' : World} {B gx : Nat} {G : Nat → Nat} {S : Nat → CSt} {cnt : Int} {p : Pc} (h : PutTo w w' B gx G S cnt p) : ∃ S2 i ta tc qa qc, PutIn w w' B gx G S S2 cnt p i ta tc qa qc := by
  obtain ⟨i, a2, c2, ta, tc, a3, c3, qa, qc, hi, hw, hx, hk, f1, f2, f3, f4⟩ := h
  obtain ⟨S2, hS2⟩ : ∃ x, upS S i ⟨a2, c2, (S i).l ++ [reT p.hd ta tc], shaF (bytesL p.hd.1 p.hd.2), a3, c3, (S i).bl ++ [(p.bd, qa, qc)]⟩ = x := ⟨_, rfl⟩
  rw [hS2] at hx
  have hat : S2 i = ⟨a2, c2, (S i).l ++ [reT p.hd ta tc], shaF (bytesL p.hd.1 p.hd.2), a3, c3, (S i).bl ++ [(p.bd, qa, qc)]⟩ := by rw [← hS2, upS_at]
  have hne : ∀ j, j ≠ i → S2 j = S j := fun j hj => by rw [← hS2, upS_ne S _ hj]
  refine ⟨S2, i, ta, tc, qa, qc, hi, hw, hx, hk, fun b hb => ?_, hne, by rw [hat], by rw [hat], by rw [hat]⟩
  rcases hb with ⟨s, hs, e⟩ | ⟨j, hj, x, hx2, h0, off, e⟩ | ⟨j, hj, x, hx2, h0, off, e⟩
  · by_cases h1 : s = 6 + i
    · subst h1
      rw [ixP_a hi, hat] at e
      rcases f2 b (by rw [← e]; cases a2 <;> rfl) with q | q
      · exact .inl (.inl ⟨6 + i, hs, by rw [ixP_a hi]; exact q⟩)
      · exact .inr q
    · by_cases h2 : s = 12 + i
      · subst h2
        rw [ixP_b hi, hat] at e
        rcases f4 b (by rw [← e]; cases a3 <;> rfl) with q | q
        · exact .inl (.inl ⟨12 + i, hs, by rw [ixP_b hi]; exact q⟩)
        · exact .inr q
      · rw [← hS2, ixP_up hi _ s h1 h2] at e
        exact .inl (.inl ⟨s, hs, e⟩)
  · by_cases h1 : j = i
    · subst h1
      rw [hat] at hx2
      rcases List.mem_append.1 hx2 with q | q
      · exact .inl (.inr (.inl ⟨j, hj, x, q, h0, off, e⟩))
      · obtain rfl := List.mem_singleton.1 q
        have e' : ta = some ⟨b, off, none⟩ := e
        exact .inr (f1 b (by rw [e']; rfl))
    · rw [hne j h1] at hx2
      exact .inl (.inr (.inl ⟨j, hj, x, hx2, h0, off, e⟩))
  · by_cases h1 : j = i
    · subst h1
      rw [hat] at hx2
      rcases List.mem_append.1 hx2 with q | q
      · exact .inl (.inr (.inr ⟨j, hj, x, q, h0, off, e⟩))
      · obtain rfl := List.mem_singleton.1 q
        have e' : qa = some ⟨b, off, none⟩ := e
        exact .inr (f3 b (by rw [e']; rfl))
    · rw [hne j h1] at hx2
      exact .inl (.inr (.inr ⟨j, hj, x, hx2, h0, off, e⟩))
theorem ixOwns_cst0 {gx : Nat} {G : Nat → Nat} {b : Nat} (h : IxOwns gx G (fun _ => cst0) b) : ∃ s, s < 19 ∧ ixP gx G (fun _ => cst0) s = some b := by
  rcases h with h | ⟨i, _, x, hx, _⟩ | ⟨i, _, x, hx, _⟩
  · exact h
  · cases hx
  · cases hx
/-- Rows that are kept. -/
theorem own_blk {w w' : World} {B e size n : Nat} {v : Value} {xs : List Value} (h : w.ownsRow B e size v n xs) (ha : ∀ k, v.ownBlock = some k → w'.heap[k]? = w.heap[k]?) : w'.ownsRow B e size v n xs := own_keep h ha

set_option maxRecDepth 100000 in
theorem build_pcZ (w : World) : (Instr.build 37 #[]).run Tryd.prog w = .ok (.agg (pcV pcZ)) w := by kernel_rfl
set_option maxRecDepth 100000 in
theorem pcZ_cells : pcV pcZ = Tryd.zeroCells37 := by kernel_rfl
theorem bsN_at (w : World) : BsAt w none 0 0 [] := ⟨rfl, Nat.le_refl _, by omega, by omega, fun x hx => (by cases hx), fun h => by omega, fun _ => rfl⟩
theorem pcZ_at (w : World) : PcAt w pcZ := ⟨htN_at w, bsN_at w, by show (0 : Nat) ≤ _; omega⟩
theorem pisN_at (w : World) : PisAt w none 0 0 [] := ⟨rfl, Nat.le_refl _, by omega, by omega, fun x hx => (by cases hx), fun h => by omega, fun _ => rfl⟩
theorem rep80_byte {x : Int} (h : 0 ≤ x ∧ x < 256) : ∀ y ∈ rep80 x, 0 ≤ y ∧ y < 256 := fun y hy => by
  obtain ⟨_, _, rfl⟩ := List.mem_map.1 hy
  exact h
theorem rgtP_at {w : World} {l : List HT} {wr : Int} {p : Pc} {x : Int} {q : Nat} (hl : l.length ≤ 100000) (hw : 1 ≤ wr ∧ wr ≤ 6) (hp : HtAt w p.hd) (hb : BsAt w (some ⟨q, 0, none⟩) 80 80 (rep80 x)) : PcAt w (rgtP l wr p x q) := by
  have h1 := bhd_at hp hl hw
  refine ⟨⟨⟨h1.ok.writer, h1.ok.seq, h1.ok.prev, h1.ok.epoch, h1.ok.time, h1.ok.item, h1.ok.knows, fun j _ => shaF_by _ _, ⟨by show (-9223372036854775808 : Int) ≤ 80; omega, by show (80 : Int) ≤ _; omega⟩, h1.ok.code⟩, h1.toks⟩, ?_, ?_⟩
  · show BsAt w (some ⟨q, 0, none⟩) (rep80 x).length 80 (rep80 x)
    rw [rep80_length]
    exact hb
  · show (rep80 x).length ≤ _
    rw [rep80_length]
    omega
theorem rgt_hd0 (x : Int) (q : Nat) : hdB (rgtP [] 1 pcZ x q).hd.1 (rgtP [] 1 pcZ x q).hd.2 = true :=
  hdB_plain _ ⟨by show (1 : Int) ≤ 1; omega, by show (1 : Int) ≤ 6; omega⟩ ⟨by show (1 : Int) ≤ 0 + 1; omega, by show (0 : Int) + 1 ≤ 1048576; omega⟩ ⟨by show (0 : Int) ≤ 0; omega, by show (0 : Int) ≤ 255; omega⟩ (by show (0 : Int) ≤ _; omega) rfl
    (fun j _ => by show (if j = ((1 : Int) - 1).toNat then ((0 : Nat) : Int) else 0) ≤ _; split <;> omega) (.inr fun j _ => rfl) rfl rfl rfl
theorem rgt_whole (l : List HT) (wr : Int) (p : Pc) (x : Int) (q : Nat) : wholeB (rgtP l wr p x q) = true := by
  unfold wholeB
  have h1 : (rgtP l wr p x q).hd.1.sum = shaF (rgtP l wr p x q).bd := rfl
  have h2 : (((rgtP l wr p x q).bd.length : Nat) : Int) = (rgtP l wr p x q).hd.1.size := by
    show (((rep80 x).length : Nat) : Int) = 80
    rw [rep80_length]
    rfl
  rw [h1, arrB_self, decide_eq_true h2]
  rfl
theorem rgt_ask0 (x : Int) (q : Nat) : ixAsk (fun _ => cst0) 0 (rgtP [] 1 pcZ x q) = 0 := by
  unfold ixAsk
  rw [rgt_hd0, rgt_whole]
  have h1 : askV (rgtP [] 1 pcZ x q).hd.1.writer [] (fun _ => 0) (rgtP [] 1 pcZ x q).hd = 0 := by
    unfold askV
    rw [rgt_hd0, if_neg (by simp)]
    rw [if_neg (fun h => by have h1 := h.1; have h2 := h.2; simp at h2; omega), if_neg (by show ¬ ((0 : Nat) : Int) + 1 < ((0 : Nat) : Int) + 1; omega)]
    have h2 : (rgtP [] 1 pcZ x q).hd.1.prev = fun _ => 0 := rfl
    rw [h2, arrB_self]
    rfl
  show (if true = true then if askV (rgtP [] 1 pcZ x q).hd.1.writer [] (fun _ => 0) (rgtP [] 1 pcZ x q).hd = 0 then _ else _ else _) = _
  rw [if_pos rfl, h1]
  rfl

set_option maxHeartbeats 4000000 in
set_option maxRecDepth 100000 in
theorem awake20_any (w : World) (hk : KsAt 1 w) (hkw : KsAt 0 w) : Calls Tryd.prog 9 #[] w fun e w' => e = .returned (.bool true) ∧ Ext w w' := by
  have hg0 : 1 < w.heap.size := World.block_lt_of_cell? w _ (hk 0 (by omega))
  have HK := Lib.hid hk
  have HKw := Lib.hid hkw
  have Hg0 := Lib.hid hg0
  clear hk hg0 hkw
  go_enter Tryd.func9, Tryd.ntmps9
  go_wp2_with fail
  refine (ixNew_any w.heap.size w (Nat.le_refl _)).mono ?_
  rintro e w1 ⟨gx, G, rfl, hI, hE⟩
  have HI := Lib.hid hI
  have HE1 := Lib.hid hE
  have HR := Lib.hid ((right_any none 0 0 [] 1 pcZ w1 (pisN_at w1) (by omega) (by omega) (pcZ_at w1) (hdKs_ext HKw.out hE)).mono (R' := fun e w' => ∃ A, e = .returned (.agg A) ∧ ∃ x q, pcV (rgtP [] 1 pcZ x q) = A ∧ (0 ≤ x ∧ x < 256) ∧ w1.heap.size ≤ q ∧ BsAt w' (some ⟨q, 0, none⟩) 80 80 (rep80 x) ∧ Ext w1 w')
    fun e w' ⟨x, q, h1, h2, h3, h4, h5⟩ => ⟨_, h1, x, q, rfl, h2, h3, h4, h5⟩)
  rw [pcZ_cells] at HR
  clear hI hE
  go_wp2_with fail
  refine HR.out.mono ?_
  rintro e w2 ⟨PP, rfl, x, q, hPP, hx, hq, hbs, hE⟩
  have HP := Lib.hid (ixPut_any (HI.out.ext hE) (fun i _ => ⟨Nat.zero_le _, Nat.zero_le _, fun x hx => (by cases hx)⟩) (by omega) (rgtP [] 1 pcZ x q) (rgtP_at (by simp) (by omega) (htN_at w2) hbs) (hdKs_ext HK.out (HE1.out.trans hE)) Hg0.out (Below.size (HE1.out.trans hE)) (fun h0 => absurd h0 (by show ¬ 0 < 0; omega))
    (fun _ b off e => (HI.out.fresh (by
      have h1 : (some ⟨q, 0, none⟩ : Option Addr) = some ⟨b, off, none⟩ := e
      simp only [Option.some.injEq, Addr.mk.injEq, and_true] at h1
      omega))))
  rw [rgt_ask0] at HP
  have HE2 := Lib.hid (HE1.out.trans hE)
  have HI2 := Lib.hid (HI.out.ext hE)
  clear hx hq hbs hE HR
  rw [hPP] at HP
  clear hPP
  go_wp2_with fail
  refine HP.out.mono ?_
  rintro e w3 ⟨rfl, -, hput⟩
  obtain ⟨S2, i, ta, tc, qa, qc, hin⟩ := (hput (by first | rfl | trivial)).open
  have HC := Lib.hid (ixCount_any hin.ix)
  have HE3 := Lib.hid (HE2.out.trans' (hin.kp.below HI2.out (Below.size HE2.out)))
  clear hput hin HP
  go_wp2_with fail
  refine HC.out.mono ?_
  rintro e w4 ⟨rfl, hE⟩
  have HE4 := Lib.hid hE
  clear hE
  go_wp2
  go_ret
  exact ⟨rfl, HE3.out.trans HE4.out⟩

end Go.Proofs.YtihlpfdhallfpaaDoor
