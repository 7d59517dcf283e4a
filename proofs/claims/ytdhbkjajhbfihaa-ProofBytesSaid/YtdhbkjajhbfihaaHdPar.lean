/-
  The walk of entry.Parse. No conditions.
-/
import Derived.Test.YtdhbkjajhbfihaaHdPs
namespace Go.Proofs.Ytdhbkjajhbfihaa
open Go.ChangeShapes Go.WideShapes Go.ChangeAt Go.RowKit

/-- What entry.Parse hands back. -/
def HdSaysF (B0 : Nat) (b : List Int) (e : Ending) (w : World) : Prop :=
  ∃ h, e = .returned (.tuple #[.agg (hdV h), .int .i64 (if hdTaken b = true then 0 else 2)]) ∧ (hdTaken b = true → ∃ a c, h = hdOf b a c ∧ TsAt w a (hq8 b).1.toNat c (tsOf b) ∧ ∀ k off, a = some ⟨k, off, none⟩ → B0 ≤ k) ∧ (hdTaken b = false → h = hdZ)
def HdSays (b : List Int) (e : Ending) (w : World) : Prop :=
  ∃ h, e = .returned (.tuple #[.agg (hdV h), .int .i64 (if hdTaken b = true then 0 else 2)]) ∧ (hdTaken b = true → ∃ a c, h = hdOf b a c ∧ TsAt w a (hq8 b).1.toNat c (tsOf b)) ∧ (hdTaken b = false → h = hdZ)


theorem hdZ_row (w : World) : (w.alloc (.cells (hdV hdZ) 30)).rowIs w.heap.size 30 125 (hdC hdZ) :=
  rowIs_of (heap_new w _ _ rfl)
set_option maxRecDepth 100000 in
theorem build_hd0 (w : World) : (Instr.build 30 #[]).run Try.prog w = .ok (.agg (hdV hdZ)) w := by kernel_rfl
set_option maxRecDepth 100000 in
theorem build_tok1 (w : World) (f : Nat → Int) : (Instr.buildSlice 27 1 #[(0, .agg (rowArr 16 fun j => .int .u8 (f j)))]).run Try.prog w = .ok (.slice (some ⟨w.heap.size, 0, none⟩) 1 1) (w.alloc (.cells (rowArr 16 fun j => .int .u8 (f j)) 26)) := by
  kernel_rfl
theorem wp_build_tok1 {ops : Array Oper} {Q : Exit → Act → World → Prop} {rest : List Oper} {o : Oper} {a : Act} {w : World} (hw : Region.wanted o (yielded ops a.tmps) = true) (x : Operand) (ho : o.op = .buildSlice 27 1 #[(0, x)])
    (f : Nat → Int) (hx : a.eval x = .agg (rowArr 16 fun j => .int .u8 (f j)))
    (h : wpList Try.prog ops Q rest (a.put o.dst (.slice (some ⟨w.heap.size, 0, none⟩) 1 1)) (w.alloc (.cells (rowArr 16 fun j => .int .u8 (f j)) 26))) : wpList Try.prog ops Q (o :: rest) a w := by
  refine wpList_want hw fun K hK => ?_
  unfold Oper.wp execOp
  simp only [ho, List.map_toArray, List.map_cons, List.map_nil, hx, Sem.run_bind, build_tok1, Result.andThen_ok, Sem.run_pure]
  exact hK _ _ h
theorem own_sl {w : World} {B size n : Nat} {e : TypeId} {v : Value} {xs : List Value} (h : w.ownsRow B e size v n xs) : ∃ a c, v = .slice a n c := by
  rcases h.2 with ⟨rfl, rfl⟩ | ⟨g, cap, cur, rfl, _⟩
  · exact ⟨none, 0, rfl⟩
  · exact ⟨_, cap, rfl⟩
set_option maxRecDepth 100000 in
theorem zero_hd (w : World) : (zeroValue 30).run Try.prog w = .ok (.agg (hdV hdZ)) w := by kernel_rfl

set_option maxHeartbeats 4000000 in
set_option maxRecDepth 100000 in
theorem parseHd_anyF (a : Option Addr) (n c : Nat) (b : List Int) (w : World) (h : BsAt w a n c b) :
    Calls Try.prog 41 #[.slice a n c] w fun e w' => HdSaysF w.heap.size b e w' ∧ Ext w w' := by
  have hby := h.byte
  have Hb := Lib.hid h
  have HOK := Lib.hid (hdOf_ok hby)
  have HTB := Lib.hid (tsOf_byte hby)
  have d1 := hq1_bd hby
  have d2 := hq2_bd hby
  have d4 := hq4_bd hby
  have d6 := hq6_bd hby
  have d8 := hq8_bd hby
  have d10 := hq10_bd hby
  obtain ⟨V1, x1, b1, e0⟩ : ∃ A B C, hq1 b = (A, B, C) := ⟨_, _, _, rfl⟩
  rw [e0] at d1
  have N0 : numP b false 6 = (V1, x1, b1) := e0
  obtain ⟨V2, x2, b2, e1⟩ : ∃ A B C, hq2 b = (A, B, C) := ⟨_, _, _, rfl⟩
  rw [e1] at d2
  have N1 : numP x1 b1 1048576 = (V2, x2, b2) := by have hN := e1; unfold hq2 at hN; rw [e0] at hN; exact hN
  obtain ⟨V3, x3, b3, e2⟩ : ∃ A B C, hq3 b = (A, B, C) := ⟨_, _, _, rfl⟩
  have N2 : rawP x2 b2 32 = (V3, x3, b3) := by have hN := e2; unfold hq3 at hN; rw [e1] at hN; exact hN
  obtain ⟨V4, x4, b4, e3⟩ : ∃ A B C, hq4 b = (A, B, C) := ⟨_, _, _, rfl⟩
  rw [e3] at d4
  have N3 : numP x3 b3 255 = (V4, x4, b4) := by have hN := e3; unfold hq4 at hN; rw [e2] at hN; exact hN
  obtain ⟨V5, x5, b5, e4⟩ : ∃ A B C, hq5 b = (A, B, C) := ⟨_, _, _, rfl⟩
  have N4 : flagP x4 b4 = (V5, x5, b5) := by have hN := e4; unfold hq5 at hN; rw [e3] at hN; exact hN
  obtain ⟨V6, x6, b6, e5⟩ : ∃ A B C, hq6 b = (A, B, C) := ⟨_, _, _, rfl⟩
  rw [e5] at d6
  have N5 : numP x5 b5 1099511627776 = (V6, x6, b6) := by have hN := e5; unfold hq6 at hN; rw [e4] at hN; exact hN
  obtain ⟨V7, x7, b7, e6⟩ : ∃ A B C, hq7 b = (A, B, C) := ⟨_, _, _, rfl⟩
  have N6 : rawP x6 b6 16 = (V7, x7, b7) := by have hN := e6; unfold hq7 at hN; rw [e5] at hN; exact hN
  obtain ⟨V8, x8, b8, e7⟩ : ∃ A B C, hq8 b = (A, B, C) := ⟨_, _, _, rfl⟩
  rw [e7] at d8
  obtain ⟨t, rfl⟩ : ∃ t : Nat, V8 = (t : Int) := ⟨V8.toNat, by omega⟩
  have N7 : numP x7 b7 8 = ((t : Int), x8, b8) := by have hN := e7; unfold hq8 at hN; rw [e6] at hN; exact hN
  obtain ⟨xT, bT, e8⟩ : ∃ B C, hqT b = (B, C) := ⟨_, _, rfl⟩
  have N8 : tokS x8 b8 t = (xT, bT) := by have hN := e8; unfold hqT at hN; rw [e7] at hN; exact hN
  obtain ⟨xK, bK, e9⟩ : ∃ B C, hqK b = (B, C) := ⟨_, _, rfl⟩
  have N9 : knS xT bT 6 = (xK, bK) := by have hN := e9; unfold hqK at hN; rw [e8] at hN; exact hN
  obtain ⟨V9, x9, b9, e10⟩ : ∃ A B C, hq9 b = (A, B, C) := ⟨_, _, _, rfl⟩
  have N10 : rawP xK bK 32 = (V9, x9, b9) := by have hN := e10; unfold hq9 at hN; rw [e9] at hN; exact hN
  obtain ⟨V10, xA, bA, e11⟩ : ∃ A B C, hq10 b = (A, B, C) := ⟨_, _, _, rfl⟩
  rw [e11] at d10
  have N11 : numP x9 b9 2064 = (V10, xA, bA) := by have hN := e11; unfold hq10 at hN; rw [e10] at hN; exact hN
  obtain ⟨V11, xB, bB, e12⟩ : ∃ A B C, hq11 b = (A, B, C) := ⟨_, _, _, rfl⟩
  have N12 : rawP xA bA 32 = (V11, xB, bB) := by have hN := e12; unfold hq11 at hN; rw [e11] at hN; exact hN
  have l3 : V3.length ≤ 32 := by have := rawP_len (xs := x2) (bad := b2) (k := 32) (by omega); rw [N2] at this; simp only at this; omega
  have l7 : V7.length ≤ 16 := by have := rawP_len (xs := x6) (bad := b6) (k := 16) (by omega); rw [N6] at this; simp only at this; omega
  have l9 : V9.length ≤ 32 := by have := rawP_len (xs := xK) (bad := bK) (k := 32) (by omega); rw [N10] at this; simp only at this; omega
  have l11 : V11.length ≤ 32 := by have := rawP_len (xs := xA) (bad := bA) (k := 32) (by omega); rw [N12] at this; simp only at this; omega
  have hTS : tsOf b = (List.range t).map (tokX x8 b8) := by unfold tsOf; rw [e7]; rfl
  have hHD : ∀ a c, hdOf b a c = ⟨V1, V2, arF V3, V4, V5, V6, arF V7, a, t, c, fun k => if k < 6 then knX xT bT k else 0, arF V9, V10, arF V11⟩ := by
    intro a c
    unfold hdOf
    rw [e0, e1, e2, e3, e4, e5, e6, e7, e8, e10, e11, e12]
    rfl
  have hTN : (hq8 b).1.toNat = t := by rw [e7]; rfl
  have hok : hdTaken b = (!bB && decide (xB.length = 0) && hdB (hdOf b none 0) (tsOf b)) := by unfold hdTaken; rw [e12]
  obtain ⟨D, hD⟩ : ∃ D, hdTaken b = D := ⟨_, rfl⟩
  obtain ⟨F, hF⟩ : ∃ F, hdB (hdOf b none 0) (tsOf b) = F := ⟨_, rfl⟩
  have HF := Lib.hid hF
  have HD := Lib.hid hD
  rw [hD, hF] at hok
  have Hok := Lib.hid hok
  have HHD := Lib.hid hHD
  have HTS := Lib.hid hTS
  have HTN := Lib.hid hTN
  have w1 : IntKind.i64.wrap V1 = V1 := by rw [IntKind.wrap_i64]; omega
  have W1 := Lib.hid w1
  have w4 : IntKind.i64.wrap V4 = V4 := by rw [IntKind.wrap_i64]; omega
  have W4 := Lib.hid w4
  have w10 : IntKind.i64.wrap V10 = V10 := by rw [IntKind.wrap_i64]; omega
  have W10 := Lib.hid w10
  have M0 := Lib.hid N0
  have M1 := Lib.hid N1
  have M2 := Lib.hid N2
  have M3 := Lib.hid N3
  have M4 := Lib.hid N4
  have M5 := Lib.hid N5
  have M6 := Lib.hid N6
  have M7 := Lib.hid N7
  have M8 := Lib.hid N8
  have M9 := Lib.hid N9
  have M10 := Lib.hid N10
  have M11 := Lib.hid N11
  have M12 := Lib.hid N12
  have Ht8 := Lib.hid (show t ≤ 8 by omega)
  have D1 := Lib.hid d1
  have D2 := Lib.hid d2
  have D4 := Lib.hid d4
  have D6 := Lib.hid d6
  have D8 := Lib.hid d8
  have D10 := Lib.hid d10
  have L3 := Lib.hid l3
  have L7 := Lib.hid l7
  have L9 := Lib.hid l9
  have L11 := Lib.hid l11
  clear hby h hok hD hF hHD hTS hTN w1 w4 w10 l3 l7 l9 l11 d1 d2 d4 d6 d8 d10 N0 e0 N1 e1 N2 e2 N3 e3 N4 e4 N5 e5 N6 e6 N7 e7 N8 e8 N9 e9 N10 e10 N11 e11 N12 e12
  obtain ⟨w1, hw1⟩ : ∃ w1, w.alloc (.cells (hdV hdZ) 30) = w1 := ⟨_, rfl⟩
  obtain ⟨w2, hw2⟩ : ∃ w2, w1.alloc (.cells (hdV hdZ) 30) = w2 := ⟨_, rfl⟩
  obtain ⟨g0, hg0⟩ : ∃ g, w.heap.size = g := ⟨_, rfl⟩
  obtain ⟨g, hg⟩ : ∃ g, w1.heap.size = g := ⟨_, rfl⟩
  have hE1 : Ext w w1 := by rw [← hw1]; exact (Ext.refl w).alloc _
  have hE2 : Ext w1 w2 := by rw [← hw2]; exact (Ext.refl w1).alloc _
  have r1 : w1.rowIs g0 30 125 (hdC hdZ) := by rw [← hw1, ← hg0]; exact hdZ_row w
  have r2 : w2.rowIs g 30 125 (hdC hdZ) := by rw [← hw2, ← hg]; exact hdZ_row w1
  have r3 : w2.rowIs g0 30 125 (hdC hdZ) := r1.of_block (hE2.block r1.lt)
  have q0 := r1.lt
  have q1 := r2.lt
  have Hw1 := Lib.hid hw1
  have Hw2 := Lib.hid hw2
  have HE1 := Lib.hid hE1
  have HE2 := Lib.hid (hE1.trans hE2)
  have HR2 := Lib.hid r2
  have HR3 := Lib.hid r3
  have Hg0 := Lib.hid hg0
  have Hg := Lib.hid hg
  have Hq := Lib.hid (And.intro q0 q1)
  have hz := zero_hd
  clear hw1 hw2 hg0 hg hE1 hE2 r1 r2 r3 q0 q1
  go_enter Try.func41, Try.ntmps41
  go_upto_region 1 with (fail)
  refine wp_world (w' := w1) Hw1.out ?_
  rw [Hg0.out]
  go_upto_region 2 with (fail)
  refine wp_world (w' := w2) Hw2.out ?_
  rw [Hg.out]
  clear Hw1 Hw2
  go_wp2_with fail
  refine (readInB_any a n c b w2 (Hb.out.ext HE2.out)).mono ?_
  rintro e w3 ⟨gI, r, rfl, hgI1, hgI2, hr1, hr2, hI, hB, hE3⟩
  have hN : HPn w w3.heap.size gI r g0 g := by
    have h1 := Hq.out.1
    have h2 := Hq.out.2
    have h3 := Hg0.out
    have h4 := Hg.out
    have h5 := Below.size hE3
    have h6 := Below.size HE1.out
    exact ⟨by omega, by omega, by omega, by omega, by omega, by omega, by omega, by omega⟩
  have hP : HP w w3.heap.size gI r g0 g hdZ [] b false w3 := ⟨hI, hB, HR2.out.of_block (hE3.block HR2.out.lt), HR3.out.of_block (hE3.block HR3.out.lt), World.ownsRow_nil _ _ _ _, HE2.out.trans hE3, Nat.le_refl _⟩
  obtain ⟨B, hBB⟩ : ∃ B, w3.heap.size = B := ⟨_, rfl⟩
  rw [hBB] at hN hP
  have HN := Lib.hid hN
  have HP0 := Lib.hid hP
  clear hgI1 hgI2 hr1 hr2 hI hB hE3 hN hP hBB Hq Hg0 Hg HE1 HE2 HR2 HR3 Hb
  have hn := num_any gI b false 6 w3 HP0.out.inn
  rw [M0.out] at hn
  have HN4 := Lib.hid hn
  clear hn
  have wr_ := W1.out
  go_wp2_with fail
  refine HN4.out.mono ?_
  rintro e w4 ⟨rfl, hI, hG, hS⟩
  obtain ⟨q0, q1, q2⟩ := (HP.step HP0.out HN.out hI hG hS).set HN.out 0 (by omega) (.int .i64 V1) ⟨V1, 0, (fun _ => 0), 0, false, 0, (fun _ => 0), none, 0, 0, (fun _ => 0), (fun _ => 0), 0, (fun _ => 0)⟩ (hdC_set0 _ V1) ⟨rfl, rfl, rfl⟩
  obtain ⟨w5, hw5⟩ : ∃ x, w4.setCell ⟨g, 0, none⟩ (.int .i64 V1) = x := ⟨_, rfl⟩
  rw [hw5] at q2
  have HP5 := Lib.hid q2
  have Hw5 := Lib.hid hw5
  clear hI hG hS q2 hw5 HN4
  go_upto_region 4 with (fail)
  refine wp_world (w' := w5) Hw5.out ?_
  clear q0 q1 Hw5 HP0 wr_
  have hn := num_any gI x1 b1 1048576 w5 HP5.out.inn
  rw [M1.out] at hn
  have HN6 := Lib.hid hn
  clear hn
  go_wp2_with fail
  refine HN6.out.mono ?_
  rintro e w6 ⟨rfl, hI, hG, hS⟩
  obtain ⟨q0, q1, q2⟩ := (HP.step HP5.out HN.out hI hG hS).set HN.out 1 (by omega) (.int .u64 V2) ⟨V1, V2, (fun _ => 0), 0, false, 0, (fun _ => 0), none, 0, 0, (fun _ => 0), (fun _ => 0), 0, (fun _ => 0)⟩ (hdC_set1 _ V2) ⟨rfl, rfl, rfl⟩
  obtain ⟨w7, hw7⟩ : ∃ x, w6.setCell ⟨g, 1, none⟩ (.int .u64 V2) = x := ⟨_, rfl⟩
  rw [hw7] at q2
  have HP7 := Lib.hid q2
  have Hw7 := Lib.hid hw7
  clear hI hG hS q2 hw7 HN6
  go_upto_region 5 with (fail)
  refine wp_world (w' := w7) Hw7.out ?_
  clear q0 q1 Hw7 HP5
  have hn := arrH_any gI r g 2 125 30 _ x2 b2 w7 HP7.out.inn HP7.out.blk HP7.out.row (by omega) HN.out.n2 HN.out.n4
  rw [M2.out] at hn
  have HN8 := Lib.hid hn
  clear hn
  go_wp2_with fail
  refine HN8.out.mono ?_
  rintro e w8 ⟨rfl, hI, hB, hr, hG⟩
  have HP8 := Lib.hid (HP.arr HP7.out HN.out hI hB hr hG ⟨V1, V2, (arF V3), 0, false, 0, (fun _ => 0), none, 0, 0, (fun _ => 0), (fun _ => 0), 0, (fun _ => 0)⟩ (hdC_arr2 _ rfl V3 L3.out) ⟨rfl, rfl, rfl⟩)
  clear hI hB hr hG HN8 HP7
  have hn := num_any gI x3 b3 255 w8 HP8.out.inn
  rw [M3.out] at hn
  have HN9 := Lib.hid hn
  clear hn
  have wr_ := W4.out
  go_wp2_with fail
  refine HN9.out.mono ?_
  rintro e w9 ⟨rfl, hI, hG, hS⟩
  obtain ⟨q0, q1, q2⟩ := (HP.step HP8.out HN.out hI hG hS).set HN.out 34 (by omega) (.int .i64 V4) ⟨V1, V2, (arF V3), V4, false, 0, (fun _ => 0), none, 0, 0, (fun _ => 0), (fun _ => 0), 0, (fun _ => 0)⟩ (hdC_set3 _ V4) ⟨rfl, rfl, rfl⟩
  obtain ⟨w10, hw10⟩ : ∃ x, w9.setCell ⟨g, 34, none⟩ (.int .i64 V4) = x := ⟨_, rfl⟩
  rw [hw10] at q2
  have HP10 := Lib.hid q2
  have Hw10 := Lib.hid hw10
  clear hI hG hS q2 hw10 HN9
  go_upto_region 7 with (fail)
  refine wp_world (w' := w10) Hw10.out ?_
  clear q0 q1 Hw10 HP8 wr_
  have hn := flag_any gI x4 b4 w10 HP10.out.inn
  rw [M4.out] at hn
  have HN11 := Lib.hid hn
  clear hn
  go_wp2_with fail
  refine HN11.out.mono ?_
  rintro e w11 ⟨rfl, hI, hG, hS⟩
  obtain ⟨q0, q1, q2⟩ := (HP.step HP10.out HN.out hI hG hS).set HN.out 35 (by omega) (.bool V5) ⟨V1, V2, (arF V3), V4, V5, 0, (fun _ => 0), none, 0, 0, (fun _ => 0), (fun _ => 0), 0, (fun _ => 0)⟩ (hdC_set4 _ V5) ⟨rfl, rfl, rfl⟩
  obtain ⟨w12, hw12⟩ : ∃ x, w11.setCell ⟨g, 35, none⟩ (.bool V5) = x := ⟨_, rfl⟩
  rw [hw12] at q2
  have HP12 := Lib.hid q2
  have Hw12 := Lib.hid hw12
  clear hI hG hS q2 hw12 HN11
  go_upto_region 8 with (fail)
  refine wp_world (w' := w12) Hw12.out ?_
  clear q0 q1 Hw12 HP10
  have hn := num_any gI x5 b5 1099511627776 w12 HP12.out.inn
  rw [M5.out] at hn
  have HN13 := Lib.hid hn
  clear hn
  go_wp2_with fail
  refine HN13.out.mono ?_
  rintro e w13 ⟨rfl, hI, hG, hS⟩
  obtain ⟨q0, q1, q2⟩ := (HP.step HP12.out HN.out hI hG hS).set HN.out 36 (by omega) (.int .u64 V6) ⟨V1, V2, (arF V3), V4, V5, V6, (fun _ => 0), none, 0, 0, (fun _ => 0), (fun _ => 0), 0, (fun _ => 0)⟩ (hdC_set5 _ V6) ⟨rfl, rfl, rfl⟩
  obtain ⟨w14, hw14⟩ : ∃ x, w13.setCell ⟨g, 36, none⟩ (.int .u64 V6) = x := ⟨_, rfl⟩
  rw [hw14] at q2
  have HP14 := Lib.hid q2
  have Hw14 := Lib.hid hw14
  clear hI hG hS q2 hw14 HN13
  go_upto_region 9 with (fail)
  refine wp_world (w' := w14) Hw14.out ?_
  clear q0 q1 Hw14 HP12
  have hn := arrT_any gI r g 37 125 30 _ x6 b6 w14 HP14.out.inn HP14.out.blk HP14.out.row (by omega) HN.out.n2 HN.out.n4
  rw [M6.out] at hn
  have HN15 := Lib.hid hn
  clear hn
  go_wp2_with fail
  refine HN15.out.mono ?_
  rintro e w15 ⟨rfl, hI, hB, hr, hG⟩
  have HP15 := Lib.hid (HP.arr HP14.out HN.out hI hB hr hG ⟨V1, V2, (arF V3), V4, V5, V6, (arF V7), none, 0, 0, (fun _ => 0), (fun _ => 0), 0, (fun _ => 0)⟩ (hdC_arr6 _ rfl V7 L7.out) ⟨rfl, rfl, rfl⟩)
  clear hI hB hr hG HN15 HP14
  have hn := num_any gI x7 b7 8 w15 HP15.out.inn
  rw [M7.out] at hn
  have HN8 := Lib.hid hn
  clear hn
  go_wp2_with fail
  refine HN8.out.mono ?_
  rintro e w16 ⟨rfl, hI, hG, hS⟩
  have HPt := Lib.hid (HP.step HP15.out HN.out hI hG hS)
  clear hI hG hS HN8 HP15
  go_wp2
  go_loopw [35] (fun i wr => ∃ k : Nat, k ≤ t ∧ i = .int .u64 (k : Int) ∧ ∃ a c, HP w B gI r g0 g ⟨V1, V2, (arF V3), V4, V5, V6, (arF V7), a, k, c, (fun _ => 0), (fun _ => 0), 0, (fun _ => 0)⟩ ((List.range k).map (tokX x8 b8)) (tokS x8 b8 k).1 (tokS x8 b8 k).2 wr) (fun i _ => t - (intOf i).toNat)
  case atStart => exact ⟨0, by omega, rfl, none, 0, HPt.out⟩
  case round =>
    obtain ⟨k, hk, rfl, ta, tc, hP⟩ := hrel
    have HPk := Lib.hid hP
    by_cases hlt : k < t
    · have x1 : (k : Int) < (t : Int) := by omega
      obtain ⟨wa, hwa⟩ : ∃ x, wr.alloc (.cells (rowArr 16 fun _ => .int .u8 0) 26) = x := ⟨_, rfl⟩
      obtain ⟨q, hq⟩ : ∃ q, wr.heap.size = q := ⟨_, rfl⟩
      have hEa : Ext wr wa := by rw [← hwa]; exact (Ext.refl wr).alloc _
      have hra : wa.rowIs q 26 16 (fun _ => .int .u8 0) := by rw [← hwa, ← hq]; exact rowIs_of (heap_new wr _ _ rfl)
      have hPa := hP.more hEa
      have hlow := hP.low
      have hn := arrT_any gI r q 0 16 26 _ (tokS x8 b8 k).1 (tokS x8 b8 k).2 wa hPa.inn hPa.blk hra (by omega) (by have := HN.out.lI.2; omega) (by have := HN.out.lr; omega)
      have Hn := Lib.hid hn
      have Hwa := Lib.hid hwa
      have Hq := Lib.hid hq
      have HEa := Lib.hid hEa
      have hzt := zero_t16
      clear hn hwa hq hEa hra hPa hlow hP
      go_upto_region 13 with (fail)
      refine wp_world (w' := wa) Hwa.out ?_
      rw [Hq.out]
      clear Hwa hzt
      go_wp2_with fail
      refine Hn.out.mono ?_
      rintro e wb ⟨rfl, hI, hB, hr, hG⟩
      have hPb := HPk.out.tok HN.out HEa.out hI hB (Nat.le_of_eq Hq.out) hG
      have hr2 : wb.rowIs q 26 16 (fun j => .int .u8 (tokX x8 b8 k j)) := hr.congr (fun j _ => by
        by_cases h1 : 0 ≤ j ∧ j < 0 + (rawP (tokS x8 b8 k).1 (tokS x8 b8 k).2 16).1.length
        · rw [if_pos h1]
          rfl
        · rw [if_neg h1]
          unfold tokX
          rw [arF_out (by omega)])
      have c53 : wb.cell? ⟨g, 53, none⟩ = some (.slice ta k tc) := hPb.row.cell (i := 53) (by omega)
      have HPb := Lib.hid hPb
      have Hr2 := Lib.hid (rowIs_cells hr2)
      have HPc := Lib.hid (hPb.more ((Ext.refl wb).alloc (.cells (rowArr 16 fun j => .int .u8 (tokX x8 b8 k j)) 26)))
      have Hrq := Lib.hid (rowIs_of (heap_new wb (.cells (rowArr 16 fun j => .int .u8 (tokX x8 b8 k j)) 26) _ rfl))
      clear hI hB hr hG hPb hr2 Hn HEa Hq
      go_wp2_with (first | (refine wpList_load_rowW rfl 26 _ rfl q rfl _ _ _ _ Hr2.out Try.underlying26 rfl (by kernel_rfl) ?_) | (refine wp_build_tok1 rfl _ rfl (tokX x8 b8 k) rfl ?_) | (at_builtin; refine append_tk rfl _ _ rfl B _ k ((List.range k).map (tokX x8 b8)) rfl HPc.out.own wb.heap.size 1 (tokX x8 b8 k) rfl (fun j hj => Hrq.out.cell hj) (by have := Ht8.out; omega) HPc.out.low ?_))
      intro v' wc hown hgr
      obtain ⟨a', c', rfl⟩ := own_sl hown
      obtain ⟨q0, q1, q2⟩ := HPc.out.push HN.out hown hgr
      have hus : (List.range k).map (tokX x8 b8) ++ [tokX x8 b8 k] = (List.range (k + 1)).map (tokX x8 b8) := by rw [List.range_succ, List.map_append]; rfl
      rw [hus] at q2
      have HQ := Lib.hid q2
      have ht8 := Ht8.out
      have w8 : IntKind.u64.wrap ((k : Int) + 1) = (k : Int) + 1 := by rw [IntKind.wrap_u64]; omega
      clear hown hgr q2 hus c53 Hr2 HPb HPc Hrq HPk
      go_wp2
      go_roundw
      case rel => exact ⟨k + 1, by omega, by go_num, a', c', HQ.out⟩
      case measure => simp [intOf]; omega
    · obtain rfl : t = k := by omega
      rw [M8.out, ← HTS.out] at hP
      have HPT := Lib.hid hP
      have x1 : ¬ (t : Int) < (t : Int) := by omega
      clear hP HPk HPt
      go_wp2
      go_loopw [46] (fun i wr => ∃ k : Nat, k ≤ 6 ∧ i = .int .i64 (k : Int) ∧ HP w B gI r g0 g ⟨V1, V2, (arF V3), V4, V5, V6, (arF V7), ta, t, tc, (fun i => if i < k then knX xT bT i else 0), (fun _ => 0), 0, (fun _ => 0)⟩ (tsOf b) (knS xT bT k).1 (knS xT bT k).2 wr) (fun i _ => 6 - (intOf i).toNat)
      case atStart =>
        have hf : (fun i => if i < 0 then knX xT bT i else 0) = fun _ => (0 : Int) := by funext i; simp
        refine ⟨0, by omega, rfl, ?_⟩
        rw [hf]
        exact HPT.out
      case round =>
        obtain ⟨k, hk, rfl, hP⟩ := hrel
        have HPk := Lib.hid hP
        clear hP HPT
        by_cases hlt : k < 6
        · have x2 : (k : Int) < 6 := by omega
          have Hn := Lib.hid (num_any gI (knS xT bT k).1 (knS xT bT k).2 1048576 wr HPk.out.inn)
          go_wp2_with fail
          refine Hn.out.mono ?_
          rintro e wa ⟨rfl, hI, hG, hS⟩
          obtain ⟨q0, q1, q2⟩ := (HP.step HPk.out HN.out hI hG hS).set HN.out (54 + k) (by omega) (.int .u64 (knX xT bT k)) ⟨V1, V2, (arF V3), V4, V5, V6, (arF V7), ta, t, tc, (fun i => if i < k + 1 then knX xT bT i else 0), (fun _ => 0), 0, (fun _ => 0)⟩ (hdC_setK _ (knX xT bT) k hlt rfl) ⟨rfl, rfl, rfl⟩
          have HQ := Lib.hid q2
          clear hI hG hS q2 Hn HPk
          go_wp2
          go_roundw
          case rel => exact ⟨k + 1, by omega, by go_num, HQ.out⟩
          case measure => simp [intOf]; omega
        · obtain rfl : k = 6 := by omega
          have hP := HPk.out
          rw [M9.out] at hP
          have HPK := Lib.hid hP
          clear hP HPk
          have hn := arrH_any gI r g 60 125 30 _ xK bK wr HPK.out.inn HPK.out.blk HPK.out.row (by omega) HN.out.n2 HN.out.n4
          rw [M10.out] at hn
          have HN17 := Lib.hid hn
          clear hn
          go_wp2_with fail
          refine HN17.out.mono ?_
          rintro e w17 ⟨rfl, hI, hB, hr, hG⟩
          have HP17 := Lib.hid (HP.arr HPK.out HN.out hI hB hr hG ⟨V1, V2, (arF V3), V4, V5, V6, (arF V7), ta, t, tc, (fun i => if i < 6 then knX xT bT i else 0), (arF V9), 0, (fun _ => 0)⟩ (hdC_arr11 _ rfl V9 L9.out) ⟨rfl, rfl, rfl⟩)
          clear hI hB hr hG HN17 HPK
          have hn := num_any gI x9 b9 2064 w17 HP17.out.inn
          rw [M11.out] at hn
          have HN18 := Lib.hid hn
          clear hn
          have wr_ := W10.out
          go_wp2_with fail
          refine HN18.out.mono ?_
          rintro e w18 ⟨rfl, hI, hG, hS⟩
          obtain ⟨q0, q1, q2⟩ := (HP.step HP17.out HN.out hI hG hS).set HN.out 92 (by omega) (.int .i64 V10) ⟨V1, V2, (arF V3), V4, V5, V6, (arF V7), ta, t, tc, (fun i => if i < 6 then knX xT bT i else 0), (arF V9), V10, (fun _ => 0)⟩ (hdC_set12 _ V10) ⟨rfl, rfl, rfl⟩
          obtain ⟨w19, hw19⟩ : ∃ x, w18.setCell ⟨g, 92, none⟩ (.int .i64 V10) = x := ⟨_, rfl⟩
          rw [hw19] at q2
          have HP19 := Lib.hid q2
          have Hw19 := Lib.hid hw19
          clear hI hG hS q2 hw19 HN18
          go_upto_region 23 with (fail)
          refine wp_world (w' := w19) Hw19.out ?_
          clear q0 q1 Hw19 HP17 wr_
          have hn := arrH_any gI r g 93 125 30 _ xA bA w19 HP19.out.inn HP19.out.blk HP19.out.row (by omega) HN.out.n2 HN.out.n4
          rw [M12.out] at hn
          have HN20 := Lib.hid hn
          clear hn
          go_wp2_with fail
          refine HN20.out.mono ?_
          rintro e w20 ⟨rfl, hI, hB, hr, hG⟩
          have HP20 := Lib.hid (HP.arr HP19.out HN.out hI hB hr hG ⟨V1, V2, (arF V3), V4, V5, V6, (arF V7), ta, t, tc, (fun i => if i < 6 then knX xT bT i else 0), (arF V9), V10, (arF V11)⟩ (hdC_arr13 _ rfl V11 L11.out) ⟨rfl, rfl, rfl⟩)
          clear hI hB hr hG HN20 HP19
          have hV := over_any gI xB bB w20 HP20.out.inn
          obtain ⟨V, hVV⟩ : ∃ V, (!bB && decide (xB.length = 0)) = V := ⟨_, rfl⟩
          have hok := Hok.out
          rw [hVV] at hV hok
          have hRow := HP20.out.row
          have hRes := HP20.out.res
          have hExt := HP20.out.ext
          have hTs : TsAt w20 ta t tc (tsOf b) := own_ts1 HP20.out.own HTB.out (by have := Ht8.out; show t ≤ _; omega)
          have hFm := formedHd_any (hdOf b ta tc) (tsOf b) w20 (HOK.out ta tc) (by rw [HHD.out]; exact hTs)
          rw [hdOf_hdB, HF.out] at hFm
          rw [← HHD.out] at hRow
          have HV := Lib.hid hV
          have HOk := Lib.hid hok
          have HRow := Lib.hid (show w20.heap[g]? = some (.cells (hdV (hdOf b ta tc)) 30 (0, 0)) from rowIs_cells hRow)
          have HRes := Lib.hid (show w20.heap[g0]? = some (.cells (hdV hdZ) 30 (0, 0)) from rowIs_cells hRes)
          have HFin := Lib.hid (fun (w' : World) (hE : Ext w20 w') (cs : Array Value) => HP20.out.fin HN.out hE cs HTB.out (show t ≤ 8 from Ht8.out))
          have HExt := Lib.hid hExt
          have HTs := Lib.hid hTs
          have HFm := Lib.hid hFm
          have HL0 := Lib.hid HN.out.l0.1
          have HFar := Lib.hid (show ∀ k off, ta = some ⟨k, off, none⟩ → w.heap.size ≤ k from fun k off e => by
            have h1 := (HP20.out.own.lt k (by show (Value.slice ta _ tc).ownBlock = some k; rw [e]; rfl)).1
            have h2 := HN.out.l0
            omega)
          have Hsz := Lib.hid (hdV_size hdZ)
          have Hsz2 := Lib.hid (hdV_size (hdOf b ta tc))
          have hb0 := build_hd0
          clear hV hok hRow hRes hExt hTs hFm hVV HP20 Hok
          cases V with
          | false =>
            have hD : D = false := by rw [HOk.out]; rfl
            subst hD
            go_wp2_with (first | (refine HV.out.mono ?_; rintro e w9 ⟨rfl, rfl⟩) | (refine wpList_store_row rfl 30 _ _ rfl _ _ rfl rfl _ _ HRes.out (by kernel_rfl) rfl (hdV_one hdZ) ?_))
            refine bodyPost_ret (results_row_tmp rfl _ _ g0 _ _ _ _ rfl (setRow_heap _ g0 _ _ _ _ HRes.out) Try.underlying30 rfl (by kernel_rfl)) rfl ?_
            refine ⟨⟨hdZ, ?_, ?_, fun _ => rfl⟩, below_setRow HExt.out HL0.out _⟩
            · rw [HD.out]; rfl
            · intro h1
              rw [HD.out] at h1
              cases h1
          | true =>
            go_wp2_with fail
            refine HV.out.mono ?_
            rintro e w9 ⟨rfl, rfl⟩
            go_wp2_with (refine wpList_load_rowW rfl 30 _ rfl g rfl _ _ _ _ HRow.out Try.underlying30 rfl (by rw [Hsz2.out]; kernel_rfl) ?_)
            refine HFm.out.mono ?_
            rintro e wf ⟨rfl, hE⟩
            have HRow9 := Lib.hid (hE.keep HRow.out)
            have HRes9 := Lib.hid (hE.keep HRes.out)
            have HE9 := Lib.hid hE
            have HExt9 := Lib.hid (HExt.out.trans hE)
            clear hE HRow HRes HTs HExt HFm HV
            cases F with
            | false =>
              have hD : D = false := by rw [HOk.out]; rfl
              subst hD
              go_wp2_with (refine wpList_store_row rfl 30 _ _ rfl _ _ rfl rfl _ _ HRes9.out (by kernel_rfl) rfl (hdV_one hdZ) ?_)
              refine bodyPost_ret (results_row_tmp rfl _ _ g0 _ _ _ _ rfl (setRow_heap _ g0 _ _ _ _ HRes9.out) Try.underlying30 rfl (by kernel_rfl)) rfl ?_
              refine ⟨⟨hdZ, ?_, ?_, fun _ => rfl⟩, below_setRow HExt9.out HL0.out _⟩
              · rw [HD.out]; rfl
              · intro h1
                rw [HD.out] at h1
                cases h1
            | true =>
              have hD : D = true := by rw [HOk.out]; rfl
              subst hD
              go_wp2_with (first | (refine wpList_load_rowW rfl 30 _ rfl g rfl _ _ _ _ HRow9.out Try.underlying30 rfl (by rw [Hsz2.out]; kernel_rfl) ?_) | (refine wpList_store_row rfl 30 _ _ rfl _ _ rfl rfl _ _ HRes9.out (by rw [Hsz2.out]; kernel_rfl) rfl (hdV_one _) ?_))
              refine bodyPost_ret (results_row_tmp rfl _ _ g0 _ _ _ _ rfl (setRow_heap _ g0 _ _ _ _ HRes9.out) Try.underlying30 rfl (by rw [Hsz2.out]; kernel_rfl)) rfl ?_
              refine ⟨⟨hdOf b ta tc, ?_, fun _ => ⟨ta, tc, rfl, ?_, HFar.out⟩, fun h1 => ?_⟩, below_setRow HExt9.out HL0.out _⟩
              · rw [HD.out]; rfl
              · rw [HTN.out]
                exact HFin.out _ HE9.out _
              · rw [HD.out] at h1
                cases h1

theorem parseHd_any (a : Option Addr) (n c : Nat) (b : List Int) (w : World) (h : BsAt w a n c b) :
    Calls Try.prog 41 #[.slice a n c] w fun e w' => HdSays b e w' ∧ Ext w w' :=
  (parseHd_anyF a n c b w h).mono fun _ _ ⟨⟨x, h1, h2, h3⟩, hE⟩ => ⟨⟨x, h1, fun hd => by
    obtain ⟨q, k, e1, e2, _⟩ := h2 hd
    exact ⟨q, k, e1, e2⟩, h3⟩, hE⟩

end Go.Proofs.Ytdhbkjajhbfihaa
