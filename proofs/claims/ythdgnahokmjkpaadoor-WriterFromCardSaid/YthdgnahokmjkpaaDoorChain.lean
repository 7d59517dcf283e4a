/-
  A writer's chain: what lies there; the walks of New, Head, Tip, Writer, At. No conditions but lengths.
-/
import Derived.Test.YthdgnahokmjkpaaDoorHs
namespace Go.Proofs.YthdgnahokmjkpaaDoor
open Go.ChangeShapes Go.WideShapes Go.ChangeAt Go.RowKit

def chC (wr : Int) (v : Value) (T : Nat → Int) (i : Nat) : Value := if i < 1 then .int .i64 wr else if i < 2 then v else .int .u8 (T (i - 2))
theorem chC_tip (wr : Int) (v : Value) (T : Nat → Int) (i : Nat) : chC wr v T (2 + i) = .int .u8 (T i) := by
  unfold chC
  rw [if_neg (by omega), if_neg (by omega), show 2 + i - 2 = i by omega]
/-- Block g is a chain: whose it is, its headers, the tip. -/
structure ChAt (w : World) (B g : Nat) (wr : Int) (a : Option Addr) (c : Nat) (l : List HT) (T : Nat → Int) : Prop where
  row : w.rowIs g 56 34 (chC wr (.slice a l.length c) T)
  own : w.ownsRow B 35 125 (.slice a l.length c) l.length (hsC l)
  each : ∀ x ∈ l, HtAt w x
  low : B ≤ g
  ne : (Value.slice a l.length c).ownBlock ≠ some g
  far : ∀ x ∈ l, 0 < x.1.tn → ∀ b off, x.1.ta = some ⟨b, off, none⟩ → b ≠ g ∧ some b ≠ (Value.slice a l.length c).ownBlock
theorem ChAt.ext {w w' : World} {B g : Nat} {wr : Int} {a : Option Addr} {c : Nat} {l : List HT} {T : Nat → Int} (h : ChAt w B g wr a c l T) (he : Ext w w') : ChAt w' B g wr a c l T :=
  ⟨h.row.of_block (he.block h.row.lt), h.own.kept (grown_ext he none) (by generalize (Value.slice a l.length c).ownBlock = o; cases o <;> simp), fun x hx => (h.each x hx).ext he, h.low, h.ne, h.far⟩
theorem ChAt.hs {w : World} {B g : Nat} {wr : Int} {a : Option Addr} {c : Nat} {l : List HT} {T : Nat → Int} (h : ChAt w B g wr a c l T) (hs : l.length ≤ 100000) : HsAt w a l.length c l := own_hs h.own h.each (by omega)
theorem ChAt.cells {w : World} {B g : Nat} {wr : Int} {a : Option Addr} {c : Nat} {l : List HT} {T : Nat → Int} (h : ChAt w B g wr a c l T) :
    w.cell? ⟨g, 0, none⟩ = some (.int .i64 wr) ∧ w.cell? ⟨g, 1, none⟩ = some (.slice a l.length c) ∧ ∀ i, i < 32 → w.cell? ⟨g, 2 + i, none⟩ = some (.int .u8 (T i)) :=
  ⟨h.row.cell (i := 0) (by omega), h.row.cell (i := 1) (by omega), fun i hi => by rw [h.row.cell (i := 2 + i) (by omega), chC_tip]⟩

set_option maxRecDepth 100000 in
theorem build_ch (w : World) (n : Int) : (Instr.build 56 #[(0, .int .i64 n)]).run Tryd.prog w = .ok (.agg (rowArr 34 (chC n (.slice none 0 0) fun _ => 0))) w := by kernel_rfl

set_option maxRecDepth 100000 in
theorem new_any (n : Int) (w : World) :
    Calls Tryd.prog 10 #[.int .i64 n] w fun e w' => ∃ g, e = .returned (.pointer (some ⟨g, 0, none⟩)) ∧ ChAt w' w.heap.size g n none 0 [] (fun _ => 0) ∧ Ext w w' := by
  have hb := build_ch
  have HC := Lib.hid (show ChAt (w.alloc (.cells (rowArr 34 (chC n (.slice none 0 0) fun _ => 0)) 56)) w.heap.size w.heap.size n none 0 [] (fun _ => 0) from
    ⟨rowIs_of (heap_new w _ _ rfl), World.ownsRow_nil _ _ _ _, fun x hx => (by cases hx), Nat.le_refl _, (by simp [Value.ownBlock]), fun x hx => (by cases hx)⟩)
  go_enter Tryd.func10, Tryd.ntmps10
  go_wp2
  go_ret
  exact ⟨_, rfl, HC.out, (Ext.refl w).alloc _⟩

theorem head_any {w : World} {B g : Nat} {wr : Int} {a : Option Addr} {c : Nat} {l : List HT} {T : Nat → Int} (h : ChAt w B g wr a c l T) (hs : l.length ≤ 100000) :
    Calls Tryd.prog 13 #[.pointer (some ⟨g, 0, none⟩)] w fun e w' => e = .returned (.int .u64 (l.length : Int)) ∧ Ext w w' := by
  obtain ⟨c0, c1, c2⟩ := h.cells
  obtain ⟨n, hn⟩ : ∃ n, l.length = n := ⟨_, rfl⟩
  rw [hn] at hs c1 ⊢
  have wN : IntKind.u64.wrap (n : Int) = (n : Int) := by rw [IntKind.wrap_u64]; omega
  clear h c0 c2 hn
  go_enter Tryd.func13, Tryd.ntmps13
  go_wp2
  go_ret
  exact ⟨by first | rfl | (rw [wN]; rfl), Ext.refl _⟩

theorem whose_any {w : World} {B g : Nat} {wr : Int} {a : Option Addr} {c : Nat} {l : List HT} {T : Nat → Int} (h : ChAt w B g wr a c l T) :
    Calls Tryd.prog 18 #[.pointer (some ⟨g, 0, none⟩)] w fun e w' => e = .returned (.int .i64 wr) ∧ Ext w w' := by
  obtain ⟨c0, c1, c2⟩ := h.cells
  clear h c1 c2
  go_enter Tryd.func18, Tryd.ntmps18
  go_wp2
  go_ret
  exact ⟨rfl, Ext.refl _⟩

set_option maxHeartbeats 2000000 in
set_option maxRecDepth 100000 in
/-- A header by its number. -/
theorem at_any {w : World} {B g : Nat} {wr : Int} {a : Option Addr} {c : Nat} {l : List HT} {T : Nat → Int} (h : ChAt w B g wr a c l T) (hs : l.length ≤ 100000) (htn : ∀ x ∈ l, x.1.tn ≤ 1000000) (s : Int) (h0 : 0 ≤ s) (h1 : s < 18446744073709551616) :
    Calls Tryd.prog 19 #[.pointer (some ⟨g, 0, none⟩), .int .u64 s] w fun e w' =>
      (¬ (1 ≤ s ∧ s ≤ l.length) → e = .returned (.tuple #[.agg (hdV hdN), .bool false])) ∧
      ((1 ≤ s ∧ s ≤ l.length) → ∃ a' c', e = .returned (.tuple #[.agg (hdV (reT (l.getD (s.toNat - 1) htN) a' c').1), .bool true]) ∧ w'.ownsRow w.heap.size 31 16 (.slice a' (l.getD (s.toNat - 1) htN).1.tn c') (l.getD (s.toNat - 1) htN).1.tn (tkC (l.getD (s.toNat - 1) htN).2)) ∧ Ext w w' := by
  obtain ⟨w2, hw2⟩ : ∃ w2, w.alloc (.cells (hdV hdN) 35) = w2 := ⟨_, rfl⟩
  have hE2 : Ext w w2 := by rw [← hw2]; exact (Ext.refl w).alloc _
  have hB2 : w2.heap[w.heap.size]? = some (.cells (hdV hdN) 35 (0, 0)) := by rw [← hw2]; exact heap_new w _ _ rfl
  have hz := hdZ0
  have hH := h.ext hE2
  have HHd := Lib.hid (head_any hH hs)
  have HH := Lib.hid hH
  have Hw2 := Lib.hid hw2
  have HE2 := Lib.hid hE2
  have HB2 := Lib.hid hB2
  have Hs2 := Lib.hid (show w.heap.size + 1 = w2.heap.size by rw [← hw2]; simp)
  obtain ⟨p, hp⟩ : ∃ p, w.heap.size = p := ⟨_, rfl⟩
  rw [hp] at HB2
  have Hp := Lib.hid hp
  have HL := Lib.hid hs
  have HTN := Lib.hid htn
  obtain ⟨N, hN⟩ : ∃ N, l.length = N := ⟨_, rfl⟩
  have HN := Lib.hid hN
  rw [hN] at HHd hs ⊢
  clear h hw2 hE2 hB2 hH hp hN htn
  by_cases hin : 1 ≤ s ∧ s ≤ (N : Int)
  · have x1 : ¬ s < 1 := by omega
    have x2 : ¬ (N : Int) < s := by omega
    obtain ⟨k, hk⟩ : ∃ k : Nat, s = (k : Int) + 1 := ⟨s.toNat - 1, by omega⟩
    have hkN : k < N := by omega
    have wS : IntKind.u64.wrap (s - 1) = (k : Int) := by rw [IntKind.wrap_u64]; omega
    have hkk : s.toNat - 1 = k := by omega
    rw [hkk]
    clear hkk
    obtain ⟨x, hx⟩ : ∃ x, l.getD k htN = x := ⟨_, rfl⟩
    have HX := Lib.hid hx
    have hXm : x ∈ l := by
      have := HN.out
      rw [← hx, List.getD_eq_getElem?_getD, List.getElem?_eq_getElem (by omega)]
      exact List.getElem_mem _
    have HXm := Lib.hid hXm
    rw [hx]
    clear hx hXm hk h1
    go_enter Tryd.func19, Tryd.ntmps19
    go_upto_region 1 with (fail)
    refine wp_world (w' := w2) Hw2.out ?_
    rw [Hp.out]
    clear Hw2
    go_wp2_with fail
    refine HHd.out.mono ?_
    rintro e w3 ⟨rfl, hE⟩
    have HE3 := Lib.hid (HE2.out.trans hE)
    have hH3 := HH.out.ext hE
    obtain ⟨c0, c1, -⟩ := hH3.cells
    rw [HN.out] at c1
    have hHs := hH3.hs HL.out
    rw [HN.out] at hHs
    obtain ⟨b, off, rfl, hcell⟩ := hHs.at_ (by omega)
    have hr := range_hd (hcell k hkN)
    rw [HX.out] at hr
    have Hr := Lib.hid hr
    have HXt := Lib.hid (hH3.each x HXm.out)
    have HB3 := Lib.hid (hE.keep HB2.out)
    have Hs3 := Lib.hid (Below.size hE)
    have x3 : (k : Int) < (N : Int) := by omega
    have x4 : (0 : Int) ≤ (k : Int) := by omega
    clear hE hH3 hHs hcell hr HHd c0
    go_wp2_with (refine wpList_load_mid rfl 35 _ rfl b (off + k * 125) rfl (hdL x.1) _ Hr.out Tryd.underlying35 rfl (by rw [hdL_length]; kernel_rfl) ?_; rw [hdL_arr])
    refine (copied_any x w3 HXt.out (HTN.out x HXm.out)).mono ?_
    rintro e w4 ⟨a', c', rfl, hown, hE⟩
    have HB4 := Lib.hid (hE.keep HB3.out)
    have HE4 := Lib.hid (HE3.out.trans hE)
    have HO4 := Lib.hid hown
    have HA := Lib.hid (hdV_size (reT x a' c').1)
    have HAo := Lib.hid (hdV_one (reT x a' c').1)
    obtain ⟨A, hA⟩ : ∃ A, hdV (reT x a' c').1 = A := ⟨_, rfl⟩
    rw [hA] at HA HAo ⊢
    have HAe := Lib.hid hA
    clear hE hown hA
    go_wp2_with (refine wpList_store_row rfl 35 _ _ rfl _ _ rfl rfl _ _ HB4.out (by rw [HA.out]; kernel_rfl) (by rw [HA.out, hdV_size]) HAo.out ?_)
    have hG5 : w4.grownBy (w4.setRow p A) (some p) := ⟨rfl, rfl, rfl, by simp, fun i _ hne => setRow_other w4 p i _ (fun e => hne (by rw [e]))⟩
    have hpp := Hp.out
    have h23 := Hs3.out
    have h22 := Hs2.out
    refine bodyPost_ret (results_row_tmp rfl _ _ p _ _ _ _ rfl (setRow_heap _ p _ _ _ _ HB4.out) Tryd.underlying35 rfl (by rw [HA.out]; kernel_rfl)) rfl ?_
    exact ⟨fun hn => absurd hin hn, fun _ => ⟨a', c', by rw [HAe.out]; rfl, own_mono (HO4.out.kept hG5 (Or.inr fun e => by have := (HO4.out.lt p e).1; omega)) (by omega)⟩, below_setRow HE4.out (by omega) _⟩
  · by_cases hlo : s < 1
    · clear HHd
      go_enter Tryd.func19, Tryd.ntmps19
      go_upto_region 1 with (fail)
      refine wp_world (w' := w2) Hw2.out ?_
      rw [Hp.out]
      clear Hw2
      go_wp2_with (refine wpList_store_row rfl 35 _ _ rfl _ _ rfl rfl _ _ HB2.out (by kernel_rfl) rfl (hdV_one hdN) ?_)
      have hpp := Hp.out
      refine bodyPost_ret (results_row_tmp rfl _ _ p _ _ _ _ rfl (setRow_heap _ p _ _ _ _ HB2.out) Tryd.underlying35 rfl (by kernel_rfl)) rfl ?_
      exact ⟨fun _ => rfl, fun hn => absurd hn hin, below_setRow HE2.out (by omega) _⟩
    · have x1 : ¬ s < 1 := hlo
      have x2 : (N : Int) < s := by omega
      go_enter Tryd.func19, Tryd.ntmps19
      go_upto_region 1 with (fail)
      refine wp_world (w' := w2) Hw2.out ?_
      rw [Hp.out]
      clear Hw2
      go_wp2_with fail
      refine HHd.out.mono ?_
      rintro e w3 ⟨rfl, hE⟩
      have HE3 := Lib.hid (HE2.out.trans hE)
      have HB3 := Lib.hid (hE.keep HB2.out)
      clear hE
      go_wp2_with (refine wpList_store_row rfl 35 _ _ rfl _ _ rfl rfl _ _ HB3.out (by kernel_rfl) rfl (hdV_one hdN) ?_)
      have hpp := Hp.out
      refine bodyPost_ret (results_row_tmp rfl _ _ p _ _ _ _ rfl (setRow_heap _ p _ _ _ _ HB3.out) Tryd.underlying35 rfl (by kernel_rfl)) rfl ?_
      exact ⟨fun _ => rfl, fun hn => absurd hn hin, below_setRow HE3.out (by omega) _⟩

end Go.Proofs.YthdgnahokmjkpaaDoor
