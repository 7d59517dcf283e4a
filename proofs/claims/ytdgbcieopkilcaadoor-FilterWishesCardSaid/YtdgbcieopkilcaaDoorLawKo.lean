/-
  The walk of jalousielaw11.KeysOrder: it answers true. Asked: the table of 64 words lies as the text lays it.
-/
import Derived.Test.YtdgbcieopkilcaaDoorKoO
import Derived.Test.YtdgbcieopkilcaaDoorLexG
import Derived.Maps.AppendAt
namespace Go.Proofs.YtdgbcieopkilcaaDoor
open Go.ChangeShapes Go.WideShapes Go.ChangeAt Go.RowKit

/-- The tag key of an epoch's key. -/
def tagK (f : Nat → Int) : Nat → Int := dvF f (strB labTag)
theorem tagK_byte (f : Nat → Int) : ∀ j, j < 32 → 0 ≤ tagK f j ∧ tagK f j < 256 := fun j _ => dvF_byte _ _ j
theorem ofV_tag (f : Nat → Int) (i : Nat) (hi : i < 32) : ofV f (64 + i) = .int .u8 (tagK f i) := by
  unfold ofV four
  rw [if_neg (by omega), if_pos (by omega), show 64 + i - 64 = i by omega]
  rfl
/-- A row joined to itself, wherever. -/
theorem exec_twoS {w : World} {o : Oper} {ev : Operand → Value} (s x : Operand) (ho : o.op = .call { callee := .builtin .append, args := #[s, x], argTypes := #[24, 24] })
    (B : Nat) (p : Option Addr) (n c : Nat) (ss : List ByteArray) (hs : ev s = .slice p n c) (hx : ev x = .slice p n c) (hown : w.ownsRow B 9 1 (.slice p n c) n (svS ss)) (hsz : n ≤ 1000) (hB : B ≤ w.heap.size) :
    ∃ v' w', (execOp ev o).run Tryd.prog w = .ok (.value v') w' ∧ w'.ownsRow B 9 1 v' (n + n) (svS (ss ++ ss)) ∧ w.grownBy w' (Value.slice p n c).ownBlock ∧ (v'.ownBlock = (Value.slice p n c).ownBlock ∨ v'.ownBlock = some w.heap.size) := by
  obtain ⟨i0, hi, hz0, hz1, hz2⟩ := info_parts info_strS
  have hl : ss.length = n := by
    have := hown.1
    rw [svS_length] at this
    omega
  by_cases h0 : p = none
  · subst h0
    obtain rfl : n = 0 := by
      rcases hown.2 with ⟨_, h⟩ | ⟨g, cap, cur, e, _⟩
      · exact h
      · simp at e
    obtain rfl := List.eq_nil_of_length_eq_zero hl
    obtain rfl : c = 0 := by
      rcases hown.2 with ⟨e, _⟩ | ⟨g, cap, cur, e, _⟩
      · simpa using e
      · simp at e
    have hrun := run_append_owned_none (P := Tryd.prog) (w := w) B 24 o.type 9 i0 1 Tryd.underlying24 hi _ 0 (svS []) hown
    exact ⟨_, w, by simp [execOp, ho, resolve, invoke, builtin, hs, hx, hrun, Result.andThen], hown, World.grownBy.refl w _, .inl rfl⟩
  · obtain ⟨g, rfl⟩ : ∃ g, p = some ⟨g, 0, none⟩ := by
      rcases hown.2 with ⟨e, _⟩ | ⟨g', cap', cur, e, _⟩
      · simp only [Value.slice.injEq] at e
        exact absurd e.1 h0
      · simp only [Value.slice.injEq] at e
        exact ⟨g', e.1⟩
    obtain ⟨v', w', hr, h1, h2, -, h3⟩ := run_append_own_at (P := Tryd.prog) w B 24 o.type 9 i0 (.string ⟨#[]⟩) 1 16 Tryd.underlying24 hi hz0 hz1 hz2 rfl (by decide) _ n (svS ss) hown ⟨g, 0, none⟩ n c (svS ss) (by rw [svS_length, hl, Nat.mul_one]) (fun j u hu => hown.cells (g := g) rfl j u hu) (svS_one ss) (by unfold maxLen; omega) (by omega) hB
    refine ⟨v', w', by simp [execOp, ho, resolve, invoke, builtin, hs, hx, hr, Result.andThen], ?_, h2, h3⟩
    unfold svS at h1 ⊢
    rw [List.map_append]
    exact h1
theorem luc_twoS {w : World} {o : Oper} {ev : Operand → Value} {C : World → Prop} {E : World → World → Prop} {sp : Sp} (s x : Operand) (ho : o.op = .call { callee := .builtin .append, args := #[s, x], argTypes := #[24, 24] })
    (B : Nat) (p : Option Addr) (n c : Nat) (ss : List ByteArray) (hs : ev s = .slice p n c) (hx : ev x = .slice p n c) (hown : w.ownsRow B 9 1 (.slice p n c) n (svS ss)) (hsz : n ≤ 1000) (hB : B ≤ w.heap.size)
    (hf : ∀ v' w', w'.ownsRow B 9 1 v' (n + n) (svS (ss ++ ss)) → w.grownBy w' (Value.slice p n c).ownBlock → (v'.ownBlock = (Value.slice p n c).ownBlock ∨ v'.ownBlock = some w.heap.size) → C w' ∧ E w w' ∧ sp.holds v' w') : lexUponC Tryd.prog C E w sp ((execOp ev o).run Tryd.prog w) := by
  obtain ⟨v', w', hr, h1, h2, h3⟩ := exec_twoS s x ho B p n c ss hs hx hown hsz hB
  rw [hr]
  exact hf v' w' h1 h2 h3
theorem own_sr {w : World} {B n c : Nat} {a : Option Addr} {ss : List ByteArray} (h : w.ownsRow B 9 1 (.slice a n c) n (svS ss)) (hs : ∀ x ∈ ss, x.size ≤ 140737488351232) : SrAt w a n c ss := by
  have hl : ss.length = n := by
    have := h.1
    rw [svS_length] at this
    omega
  have hc : n ≤ c ∧ c ≤ 9223372036854775807 := by
    rcases h.2 with ⟨e, h0⟩ | ⟨g, cap, cur, e, _, _, h1, h2, _⟩
    · simp only [Value.slice.injEq] at e
      omega
    · simp only [Value.slice.injEq] at e
      unfold maxLen at h2
      omega
  refine ⟨hl, hc.1, hc.2, hs, fun h0 => ?_⟩
  rcases h.2 with ⟨_, h1⟩ | ⟨g, cap, cur, e, _⟩
  · omega
  · simp only [Value.slice.injEq] at e
    obtain ⟨rfl, _⟩ := e
    refine ⟨g, 0, rfl, fun i hi => ?_⟩
    have h2 := h.cells (g := g) rfl i (.string (ss.getD i ⟨#[]⟩)) (by
      unfold svS
      rw [List.getElem?_map, List.getElem?_eq_getElem (by omega), List.getD_eq_getElem?_getD, List.getElem?_eq_getElem (by omega)]
      rfl)
    rw [addr_add] at h2
    exact h2
theorem own_kpn {w w' : World} {g m B size n : Nat} {e : TypeId} {v : Value} {xs : List Value} (h : w.ownsRow B e size v n xs) (k : Kp2 g m w w') (hne : ∀ b, v.ownBlock = some b → b ≠ g ∧ b ≠ m) : w'.ownsRow B e size v n xs := by
  refine ⟨h.1, ?_⟩
  rcases h.2 with h1 | ⟨b, cap, cur, h1, h2, h3, h4⟩
  · exact .inl h1
  · refine .inr ⟨b, cap, cur, h1, h2, ?_, h4⟩
    have h5 := hne b (by rw [h1]; rfl)
    rw [k.block b (Array.getElem?_eq_some_iff.1 h3).1 h5.1 h5.2]
    exact h3
theorem Kp2.ext_of {g m : Nat} {w z w' : World} (k : Kp2 g m z w') (h : Ext w z) (hg : w.heap.size ≤ m) (hm : w.heap.size ≤ g) : Ext w w' := ⟨k.os.trans h.os, k.tape.trans h.tape, k.output.trans h.output, Nat.le_trans h.size k.size, fun i hi => (k.block i (by have := h.size; omega) (by omega) (by omega)).trans (h.block hi)⟩
theorem TkSet.bytes {p top : Nat} {f : Nat → Int} {hg : p < top} {hr : 2 < top} {ss : List ByteArray} {vs : List (Nat → Int)} (h : TkSet (realBl p top (tagK f) (tagK_byte f) hg hr) () ss vs) : ∀ t ∈ vs, ∀ j, j < 16 → 0 ≤ t j ∧ t j < 256 := fun t ht j _ => by
  obtain ⟨x, _, e⟩ := h.from_ t ht
  obtain rfl := Option.some.inj e
  exact macF_byte _ _ j
/-- Strings whose block isn't the box. -/
def SrF (p n : Nat) (ss : List ByteArray) (u : Value) (w : World) : Prop := ∃ a c, u = .slice a n c ∧ SrAt w a n c ss ∧ ∀ x : Addr, a = some x → x.block ≠ p
/-- The block of the turned tags. -/
def bOf (a : Option Addr) (g : Nat) : Nat := match a with
  | some x => x.block
  | none => g
/-- What holds within region 9. -/
structure R9 (p bo top : Nat) (f : Nat → Int) (hg : p < top) (hr : 2 < top) (z w : World) : Prop where
  kp : Kp2 p bo z w
  at_ : (realBl p top (tagK f) (tagK_byte f) hg hr).At () w
theorem R9.call {p bo top : Nat} {f : Nat → Int} {hg : p < top} {hr : 2 < top} {z w w' : World} (h : R9 p bo top f hg hr z w) (k : Kp2 p p w w') (h2 : (realBl p top (tagK f) (tagK_byte f) hg hr).At () w') : R9 p bo top f hg hr z w' := ⟨h.kp.trans ⟨k.os, k.tape, k.output, k.size, fun i h1 h2 _ => k.block i h1 h2 h2⟩, h2⟩
theorem R9.ext {p bo top : Nat} {f : Nat → Int} {hg : p < top} {hr : 2 < top} {z w w' : World} (h : R9 p bo top f hg hr z w) (k : Ext w w') : R9 p bo top f hg hr z w' := h.call (Kp2.of_ext k) (Blinder.kept _ h.at_ (Below.mono k (Blinder.size _ h.at_)))
/-- Tokens told. -/
def TkF (p top S : Nat) (f : Nat → Int) (hg : p < top) (hr : 2 < top) (ss : List ByteArray) (u : Value) (w : World) : Prop := ∃ a m c vs, u = .slice a m c ∧ m ≤ 40 ∧ w.ownsRow S 35 16 (.slice a m c) m (tkC vs) ∧ TkSet (realBl p top (tagK f) (tagK_byte f) hg hr) () ss vs
theorem TkF.of {p top S : Nat} {f : Nat → Int} {hg : p < top} {hr : 2 < top} {ss : List ByteArray} {w w' : World} {e : Ending} (h : TokensSays (realBl p top (tagK f) (tagK_byte f) hg hr) () ss w e w') (hS : S ≤ w.heap.size) (hn : ss.length ≤ 40) : ∃ v, e = .returned v ∧ TkF p top S f hg hr ss v w' ∧ (realBl p top (tagK f) (tagK_byte f) hg hr).At () w' ∧ Kp2 p p w w' := by
  obtain ⟨s', ts, us, a, m, c, h1, h2, h3, rfl, h4, h5, h6⟩ := h
  refine ⟨_, rfl, ⟨a, m, c, _, rfl, ?_, own_below h4 hS, tokens_set h1 h2⟩, h5, h6⟩
  have h7 := cptN_le (us.map (·.1)) (us.map (·.1)).length
  have h8 : (us.map (·.1)).length = ss.length := by rw [List.length_map, h2.perm.length_eq, h1.len]
  have h9 : m = (cptN (us.map (·.1)) (us.map (·.1)).length).length := h3
  omega
theorem TkF.kp {p bo top S : Nat} {f : Nat → Int} {hg : p < top} {hr : 2 < top} {ss : List ByteArray} {u : Value} {w w' : World} (h : TkF p top S f hg hr ss u w) (k : Kp2 p bo w w') (h1 : p < S) (h2 : bo < S) : TkF p top S f hg hr ss u w' := by
  obtain ⟨a, m, c, vs, rfl, h3, h4, h5⟩ := h
  exact ⟨a, m, c, vs, rfl, h3, own_kp h4 k h1 h2, h5⟩
/-- Where the loop that turns the tags round stands. -/
structure OthSt (w y : World) (ss : List ByteArray) (q k : Nat) (a : Option Addr) (c : Nat) : Prop where
  own : y.ownsRow w.heap.size 9 1 (.slice a k c) k (svS (othS ss q k))
  ext : Ext w y
theorem OthSt.next {w y y2 z : World} {ss : List ByteArray} {q k : Nat} {a : Option Addr} {c : Nat} {a3 : Option Addr} {c3 : Nat} {o : Obj} (h : OthSt w y ss q k a c) (hy : y.alloc o = y2) (ho : z.ownsRow w.heap.size 9 1 (.slice a3 (k + 1) c3) (k + 1) (svS (othS ss q k ++ [ss.getD (ss.length - 1 - (k + q) % ss.length) ⟨#[]⟩]))) (hg : y2.grownBy z (Value.slice a k c).ownBlock) : OthSt w z ss q (k + 1) a3 c3 := by
  have hE : Ext w y2 := by rw [← hy]; exact h.ext.alloc o
  have ho2 : y2.ownsRow w.heap.size 9 1 (.slice a k c) k (svS (othS ss q k)) := by rw [← hy]; exact h.own.alloc o
  refine ⟨by rw [othS_succ]; exact ho, hE.trans' ⟨hg.os, hg.tape, hg.output, hg.size, fun i hi => hg.block i (by have := hE.size; omega) (fun e => by have := (ho2.lt _ e.symm).1; omega)⟩⟩

set_option maxHeartbeats 4000000 in
set_option maxRecDepth 100000 in
theorem lawKo_any (f : Nat → Int) (hf : ∀ j, j < 32 → 0 ≤ f j ∧ f j < 256) (a : Option Addr) (n c : Nat) (ss : List ByteArray) (q : Int) (hq : 0 ≤ q ∧ q < 256) (w : World) (h : SrAt w a n c ss) (hk : KsAt 2 w) (hgl : 2 < w.heap.size) :
    Calls Tryd.prog 3 #[.agg (rowArr 32 fun j => .int .u8 (f j)), .slice a n c, .int .u8 q] w fun e w' => e = .returned (.bool true) ∧ Ext w w' := by
  have hcap := h.cap
  have hlim := h.lim
  have H0 := Lib.hid h
  obtain ⟨w2, hw2⟩ : ∃ w2, w.alloc (.cells (rowArr 32 fun j => .int .u8 (f j)) 23) = w2 := ⟨_, rfl⟩
  have hE2 : Ext w w2 := by rw [← hw2]; exact (Ext.refl w).alloc _
  have hR2 : w2.heap[w.heap.size]? = some (.cells (rowArr 32 fun j => .int .u8 (f j)) 23 (0, 0)) := by rw [← hw2]; exact heap_new w _ _ rfl
  have HAw := Lib.hid (awake11_any w2 (hk.ext' hE2))
  have H2 := Lib.hid (h.ext hE2)
  have HE2 := Lib.hid hE2
  have HR2 := Lib.hid hR2
  have Hw2 := Lib.hid hw2
  have HK := Lib.hid hk
  have Hf := Lib.hid hf
  have Hlen := Lib.hid h.len
  clear h hE2 hR2 hw2 hk hf
  obtain ⟨g, hg⟩ : ∃ g, w.heap.size = g := ⟨_, rfl⟩
  have Hg := Lib.hid hg
  clear hg
  go_enter Tryd.func3, Tryd.ntmps3
  go_upto_region 1 with (fail)
  refine wp_world (w' := w2) Hw2.out ?_
  rw [Hg.out]
  clear Hw2
  go_wp2_with fail
  refine HAw.out.mono ?_
  rintro e w3 ⟨rfl, hE3⟩
  have HE3 := Lib.hid hE3
  have HFew := Lib.hid (fewS_any a n c ss w3 (H2.out.ext hE3))
  clear hE3 HAw
  go_wp2_with fail
  refine HFew.out.mono ?_
  rintro e w4 ⟨R, rfl, hR, hE4⟩
  have HE4 := Lib.hid (HE3.out.trans hE4)
  have HRn := Lib.hid hR
  clear hE4 hR HFew HE3
  by_cases hgate : R = true ∧ n ≤ 20
  · obtain ⟨rfl, hn⟩ := hgate
    have x1 : ¬ (20 : Int) < (n : Int) := by omega
    go_upto_region 3 with (fail)
    obtain ⟨qn, rfl⟩ : ∃ qn : Nat, q = (qn : Int) := ⟨q.toNat, by omega⟩
    have HO0 := Lib.hid (show OthSt w4 w4 ss qn 0 none 0 from ⟨⟨rfl, .inl ⟨rfl, rfl⟩⟩, Ext.refl _⟩)
    have HS4 := Lib.hid (H2.out.ext (HE4.out))
    go_wp2
    go_loopw [7, 8] (fun v i y => ∃ (k : Nat) (a' : Option Addr) (c' : Nat), k ≤ n ∧ i = .int .i64 (k : Int) ∧ v = .slice a' k c' ∧ OthSt w4 y ss qn k a' c') (fun _ i _ => n - (intOf i).toNat)
    case atStart => exact ⟨0, none, 0, Nat.zero_le _, rfl, rfl, HO0.out⟩
    case round =>
      obtain ⟨k, a', c', hk, rfl, rfl, hO⟩ := hrel
      have HO := Lib.hid hO
      rename World => y
      clear hO
      by_cases hlt : k < n
      · have x2 : (k : Int) < (n : Int) := by omega
        obtain ⟨g0, off, rfl, hcell⟩ := (HS4.out.ext HO.out.ext).at_ (by omega)
        obtain ⟨r, hr⟩ : ∃ r, (k + qn) % n = r := ⟨_, rfl⟩
        have hrn : r < n := by rw [← hr]; exact Nat.mod_lt _ (by omega)
        have x3 : ((k : Int) + (qn : Int)).tmod (n : Int) = (r : Int) := by
          show (((k + qn : Nat) : Int)).tmod (n : Int) = _
          rw [← Int.ofNat_tmod, hr]
        obtain ⟨x, hx⟩ : ∃ x, ss.getD (n - 1 - r) ⟨#[]⟩ = x := ⟨_, rfl⟩
        have hck := hcell (n - 1 - r) (by omega)
        rw [hx] at hck
        clear hcell
        have n0 : (n : Int) ≠ 0 := by omega
        have i1 : (((n - 1 - r : Nat)) : Int) = (n : Int) - 1 - (r : Int) := by omega
        have Hx := Lib.hid (show ss.getD (ss.length - 1 - (k + qn) % ss.length) ⟨#[]⟩ = x from by rw [Hlen.out, hr]; exact hx)
        have hB2 : ∀ o : Obj, w4.heap.size ≤ (y.alloc o).heap.size := fun o => by
          have := HO.out.ext.size
          simp
          omega
        have hc2 : ∀ t, (y.alloc (.cells #[.string x] t)).cell? ⟨y.heap.size, 0, none⟩ = some (.string x) := fun t => (rowIs_of (n := 1) (f := fun _ => .string x) (heap_new y _ _ rfl)).cell (i := 0) (by omega)
        have hk10 : k ≤ 1000 := by omega
        clear hr hx
        go_upto_region 6 with (at_builtin; refine append_strS rfl (.tmp 33) (.tmp 48) rfl w4.heap.size (.slice a' k c') k (othS ss qn k) rfl (HO.out.own.alloc _) y.heap.size x rfl (hc2 _) hk10 (hB2 _) ?_)
        intro v' z hown hgr
        obtain ⟨a3, c3, rfl⟩ := own_sl2 hown
        have HO3 := Lib.hid (HO.out.next rfl (by rw [Hx.out]; exact hown) hgr)
        clear hown hgr hB2 hc2 hck HO
        go_wp2
        go_roundw
        case rel => exact ⟨k + 1, a3, c3, by omega, by go_num, rfl, HO3.out⟩
        case measure => simp [intOf]; omega
      · obtain rfl : k = n := by omega
        have x2 : ¬ (k : Int) < (k : Int) := by omega
        go_upto_region 8 with (fail)
        obtain ⟨Sz, hSz⟩ : ∃ Sz, y.heap.size = Sz := ⟨_, rfl⟩
        have HSz := Lib.hid hSz
        have HEy := Lib.hid (HE2.out.trans (HE4.out.trans HO.out.ext))
        have HX := Lib.hid (show ∀ x, Ext y.drew x → Ext y x from fun x hx => Ext.trans (Ext.refl y).drew hx)
        have HKy := Lib.hid (fun x (hx : Ext y x) => HK.out.ext' (HEy.out.trans hx))
        have HRy := Lib.hid ((HE4.out.trans HO.out.ext).keep HR2.out)
        rw [Hg.out] at HRy
        have hz0 := zero_hash
        have hzs := zero_set
        refine wp_region_lexT 6 (by kernel_rfl) (by kernel_rfl) ?_
        simp only [List.take_succ_cons, List.take_zero, List.drop_succ_cons, List.drop_zero]
        refine lx_e (.agg (rowArr 32 fun _ => .int .u8 0)) [] (by kernel_rfl) rfl (by rfl) (fun w1 hw1 => ?_) ?_
        · simp only [pk, lexVals]
          clear hw1
          go_simp
          exact ⟨Ext.refl _, rfl⟩
        refine lx_a (fun u w => ∃ p, u = .pointer (some ⟨p, 0, none⟩) ∧ w.cell? ⟨p, 0, none⟩ = some (.bool false) ∧ Sz ≤ p) [(0, 50)] (by kernel_rfl) rfl (by rfl) (fun u w w' he ⟨p, h1, h2, h3⟩ => ⟨p, h1, by rw [he.cell (World.block_lt_of_cell? _ _ h2)]; exact h2, h3⟩) (fun w1 hw1 => ?_) ?_
        · simp only [pk, nthSp, lexVals]
          have hm := boxNew_new (fun _ => 0) (fun _ _ => by show (0 : Int) ≤ 0 ∧ (0 : Int) < 256; omega) w1 (HKy.out w1 (HX.out w1 hw1))
          have hsz := (HX.out w1 hw1).size
          rw [HSz.out] at hsz
          have HM := Lib.hid hm
          clear hm hw1
          go_simp
          refine HM.out.mono ?_
          rintro e w2 ⟨p, rfl, hc, hE2, hp⟩
          exact ⟨_, rfl, hE2, p, rfl, hc, by omega⟩
        refine lx_e (.agg (rowArr 32 fun j => .int .u8 (f j))) [] (by kernel_rfl) rfl (by rfl) (fun w1 hw1 => ?_) ?_
        · simp only [pk, lexVals]
          exact lu_row rfl rfl ((HX.out w1 hw1).keep HRy.out) Tryd.underlying23 rfl (by kernel_rfl)
        refine lx_e (.agg (rowArr 128 (ofV f))) [(0, 52)] (by kernel_rfl) rfl (by rfl) (fun w1 hw1 => ?_) ?_
        · simp only [pk, nthSp, lexVals]
          have hm := of_any f Hf.out w1 (HKy.out w1 (HX.out w1 hw1))
          have HM := Lib.hid hm
          clear hm hw1
          go_simp
          refine HM.out.mono ?_
          rintro e w2 ⟨rfl, hE2⟩
          exact ⟨_, rfl, hE2, rfl⟩
        refine lx_a (fun u w => ∃ p, u = .pointer (some ⟨p, 0, none⟩) ∧ w.heap[p]? = some (.cells (rowArr 128 fun _ => .int .u8 0) 30 (0, 0)) ∧ Sz ≤ p) [] (by kernel_rfl) rfl (by rfl) (fun u w w' he ⟨p, h1, h2, h3⟩ => ⟨p, h1, he.keep h2, h3⟩) (fun w1 hw1 => ?_) ?_
        · simp only [pk, lexVals]
          have hsz := (HX.out w1 hw1).size
          rw [HSz.out] at hsz
          clear hw1
          go_simp
          exact ⟨(Ext.refl _).alloc _, _, rfl, heap_new w1 _ _ rfl, hsz⟩
        refine lx_a (fun u w => ∃ p, u = .pointer (some ⟨p, 0, none⟩) ∧ w.cell? ⟨p, 0, none⟩ = some (.bool false) ∧ Sz ≤ p) [(3, 51)] (by kernel_rfl) rfl (by rfl) (fun u w w' he ⟨p, h1, h2, h3⟩ => ⟨p, h1, by rw [he.cell (World.block_lt_of_cell? _ _ h2)]; exact h2, h3⟩) (fun w1 hw1 => ?_) ?_
        · simp only [pk, nthSp, lexVals]
          rintro u51 ⟨p, rfl, hc, hp⟩
          clear hw1
          go_simp
          exact ⟨Ext.refl _, p, rfl, hc, hp⟩
        refine lx_stopT (by rfl) (by decide) fun z hz => ?_
        have HEz := Lib.hid (HX.out z hz)
        clear hz
        simp only [rv, pf, lexVals, List.drop_succ_cons, List.drop_zero]
        rintro u51 - u10 ⟨s0, rfl, hs0, hSs⟩ u9 ⟨p, rfl, hp, hSp⟩
        have Hs0 := Lib.hid hs0
        simp only [Act.put, List.setIfInBounds_toArray, List.set_cons_zero, List.set_cons_succ]
        go_upto_region 9 with (refine wpList_store_row rfl 30 (.tmp 10) (.tmp 53) rfl s0 _ rfl rfl _ _ Hs0.out (by kernel_rfl) (by simp [rowArr_size]) (rowArr_one fun j _ => ofV_one f j) ?_)
        have hps : p ≠ s0 := by
          rintro rfl
          have h1 := (rowIs_of Hs0.out).cell (i := 0) (by omega)
          rw [h1] at hp
          cases hp
        obtain ⟨z1, hz1⟩ : ∃ z1, z.setRow s0 (rowArr 128 (ofV f)) = z1 := ⟨_, rfl⟩
        have hE1 : Ext y z1 := by rw [← hz1]; exact below_setRow HEz.out (by rw [HSz.out]; exact hSs) _
        have hs1 : z1.heap[s0]? = some (.cells (rowArr 128 (ofV f)) 30 (0, 0)) := by rw [← hz1]; exact setRow_heap z s0 _ _ _ _ Hs0.out
        have hc1 : z1.cell? ⟨p, 0, none⟩ = some (.bool false) := by rw [← hz1, cell_same (setRow_other z s0 p _ hps)]; exact hp
        have hpt : p < z1.heap.size := World.block_lt_of_cell? _ _ hc1
        have hEw : Ext w z1 := HEy.out.trans hE1
        have hrt : 2 < z1.heap.size := by have := hEw.size; omega
        have hA1 : (realBl p z1.heap.size (tagK f) (tagK_byte f) hpt hrt).At () z1 := ⟨hc1, HK.out.ext' hEw, Nat.le_refl _⟩
        have hw2l : w.heap.size < w2.heap.size := (Array.getElem?_eq_some_iff.1 HR2.out).1
        have hw4l := HE4.out.size
        have hyl := HO.out.ext.size
        have hz1l := hE1.size
        have hst1 : s0 < z1.heap.size := (Array.getElem?_eq_some_iff.1 hs1).1
        obtain ⟨bo, hbo⟩ : ∃ bo, bOf a' g = bo := ⟨_, rfl⟩
        have hb : w.heap.size ≤ bo ∧ bo < Sz := by
          rw [← hbo]
          cases a' with
          | none => exact ⟨Nat.le_of_eq Hg.out, by show g < Sz; rw [← HSz.out, ← Hg.out]; omega⟩
          | some x => exact ⟨by have := (HO.out.own.lt x.block rfl).1; show w.heap.size ≤ x.block; omega, by have := (HO.out.own.lt x.block rfl).2; show x.block < Sz; rw [← HSz.out]; exact this⟩
        have hne : ∀ x : Addr, 0 < k → a = some x → x.block < w.heap.size := fun x hx ha => by
          obtain ⟨g0, off, h1, h2⟩ := H0.out.at_ hx
          rw [ha] at h1
          obtain rfl := Option.some.inj h1
          exact World.block_lt_of_cell? _ _ (h2 0 hx)
        have HSr := Lib.hid (HS4.out.ext (HO.out.ext.trans hE1))
        have Hs1 := Lib.hid hs1
        have Hh := Lib.hid (show p ≠ s0 ∧ bo ≠ s0 ∧ s0 < z1.heap.size ∧ bo ≠ p ∧ bo < z1.heap.size ∧ bo ≠ 2 from ⟨hps, by omega, hst1, by omega, by omega, by omega⟩)
        have Hne := Lib.hid (show 0 < k → ∀ x : Addr, a = some x → x.block ≠ p ∧ x.block ≠ bo from fun h0 x hx => by have := hne x h0 hx; omega)
        have Hne2 := Lib.hid (show 0 < k → ∀ x : Addr, a = some x → x.block ≠ p ∧ x.block ≠ p from fun h0 x hx => by have := hne x h0 hx; omega)
        have hbo2 : ∀ b, (Value.slice a' k c').ownBlock = some b → b = bo := fun b e => by
          rw [← hbo]
          cases a' with
          | none => cases e
          | some x => exact (Option.some.inj e).symm
        have hOwn1 : z1.ownsRow w4.heap.size 9 1 (.slice a' k c') k (svS (othS ss qn k)) := own_kpn HO.out.own (Kp2.of_ext (g := p) (m := p) hE1) fun b e => by have := hbo2 b e; have := Hh.out; omega
        have HOw := Lib.hid (show ∀ x, Kp2 p p z1 x → x.ownsRow w4.heap.size 9 1 (.slice a' k c') k (svS (othS ss qn k)) from fun x hx => own_kpn hOwn1 hx fun b e => by have := hbo2 b e; have := Hh.out; omega)
        have HSw := Lib.hid (show ∀ x : World, z1.heap.size ≤ x.heap.size → w4.heap.size ≤ x.heap.size from fun x hx => by omega)
        have HAp := Lib.hid (show ∀ (x : World) v' x', R9 p bo z1.heap.size f hpt hrt z1 x → x'.ownsRow w4.heap.size 9 1 v' (k + k) (svS (othS ss qn k ++ othS ss qn k)) → x.grownBy x' (Value.slice a' k c').ownBlock → (v'.ownBlock = (Value.slice a' k c').ownBlock ∨ v'.ownBlock = some x.heap.size) → (R9 p bo z1.heap.size f hpt hrt z1 x' ∧ (true = false → Kp2 p p z1 x')) ∧ Kp2 p bo x x' ∧ SrF p (k + k) (othS ss qn k ++ othS ss qn k) v' x' from fun x v' x' h1 h2 h3 h4 => by
          have hk2 : Kp2 p bo x x' := ⟨h3.os, h3.tape, h3.output, h3.size, fun i h5 h6 h7 => h3.block i h5 (fun e => h7 (hbo2 i e.symm))⟩
          have hz := h1.kp.size
          refine ⟨⟨⟨h1.kp.trans hk2, Blinder.stay _ h1.at_ h3.size fun i hi => h3.block i (by have := Blinder.keeps_top _ i hi; omega) (fun e => by have h5 := hbo2 i e.symm; have h6 := Hh.out; rcases hi with rfl | rfl <;> omega)⟩, fun e => by cases e⟩, hk2, ?_⟩
          obtain ⟨a1, c1, rfl⟩ := own_sl2 h2
          refine ⟨a1, c1, rfl, own_sr h2 (fun y1 hy1 => ?_), fun y1 hy1 => ?_⟩
          · have hl := Hlen.out
            have h5 : y1 ∈ othS ss qn ss.length := by
              rw [hl]
              simpa using hy1
            exact H0.out.size y1 (othS_mem h5)
          · subst hy1
            have h6 := Hh.out
            rcases h4 with e | e
            · have := hbo2 y1.block e.symm
              omega
            · have h7 : y1.block = x.heap.size := Option.some.inj e
              omega)
        have HST := Lib.hid (show ∀ (ph : Bool) (x x' : World), (R9 p bo z1.heap.size f hpt hrt z1 x ∧ (ph = false → Kp2 p p z1 x)) → Ext x x' → (R9 p bo z1.heap.size f hpt hrt z1 x' ∧ (ph = false → Kp2 p p z1 x')) ∧ Kp2 p (bif ph then p else bo) x x' from fun ph x x' h1 h2 => ⟨⟨h1.1.ext h2, fun e => (h1.2 e).trans (Kp2.of_ext h2)⟩, Kp2.of_ext h2⟩)
        have HPk := Lib.hid (show ∀ (ph : Bool) (x x' : World), Kp2 p p x x' → Kp2 p (bif ph then p else bo) x x' from fun ph x x' h => by
          cases ph with
          | false => exact ⟨h.os, h.tape, h.output, h.size, fun i h1 h2 _ => h.block i h1 h2 h2⟩
          | true => exact h)
        have hlenk := Hlen.out
        have HE1y := Lib.hid hE1
        have hb2 : w.heap.size ≤ bo ∧ w.heap.size ≤ p := ⟨hb.1, by omega⟩
        refine wp_world (w' := z1) hz1 ?_
        clear hz1 hE1 hs1 hc1 hEw hb hne hp Hs0 HEz hzs hz0
        refine lq_start (C := fun ph x => R9 p bo z1.heap.size f hpt hrt z1 x ∧ (ph = false → Kp2 p p z1 x)) (E := fun ph => Kp2 p (bif ph then p else bo)) 10 8 (by omega) (by kernel_rfl) (by kernel_rfl) (fun ph x => Kp2.refl _ _ _) (fun x x' h => HPk.out false x x' h) ⟨⟨⟨rfl, rfl, rfl, Nat.le_refl _, fun _ _ _ _ => rfl⟩, hA1⟩, fun _ => ⟨rfl, rfl, rfl, Nat.le_refl _, fun _ _ _ _ => rfl⟩⟩ ?_
        simp only [List.take_succ_cons, List.take_zero]
        refine lq_s (.ex (.pointer (some ⟨p, 0, none⟩))) [] (by decide) (by kernel_rfl) rfl (by rfl) trivial HST.out (fun ph w1 hw1 => ?_) ?_
        · simp only [pk, lexVals]
          clear hw1
          go_simp
          exact ⟨Ext.refl _, rfl⟩
        refine lq_s (.ex (.agg (rowArr 128 (ofV f)))) [] (by decide) (by kernel_rfl) rfl (by rfl) trivial HST.out (fun ph w1 hw1 => ?_) ?_
        · simp only [pk, lexVals]
          exact lu_row rfl rfl ((hw1.1.kp.block s0 Hh.out.2.2.1 (fun e => Hh.out.1 e.symm) (fun e => Hh.out.2.1 e.symm)).trans Hs1.out) Tryd.underlying30 rfl (by kernel_rfl)
        refine lq_s (.ex (.slice a k c)) [] (by decide) (by kernel_rfl) rfl (by rfl) trivial HST.out (fun ph w1 hw1 => ?_) ?_
        · simp only [pk, lexVals]
          clear hw1
          go_simp
          exact ⟨Ext.refl _, rfl⟩
        refine lq_g (.ab (TkF p z1.heap.size z1.heap.size f hpt hrt ss)) [(2, 54), (1, 55), (0, 56)] (by decide) (by kernel_rfl) rfl (by rfl) (fun u x x' hx h => TkF.kp h hx hpt Hh.out.2.2.2.2.1) (fun ph w1 hw1 => ?_) ?_
        · simp only [pk, nthSp, lexVals]
          have hm := tokens_any (realBl p z1.heap.size (tagK f) (tagK_byte f) hpt hrt) () w1 hw1.1.at_ (ofV f) (fun i hi => ofV_tag f i hi) a k c ss (HSr.out.kp hw1.1.kp Hne.out) Hne2.out (by omega)
          have HM := Lib.hid hm
          have HW := Lib.hid hw1
          clear hm hw1
          go_simp
          refine HM.out.mono ?_
          rintro e w2 hS
          obtain ⟨v, rfl, hF, hA, hK⟩ := TkF.of hS (HW.out.1.kp.size) (by omega)
          exact ⟨v, rfl, ⟨HW.out.1.call hK hA, fun e => (HW.out.2 e).trans hK⟩, HPk.out ph _ _ hK, hF⟩
        refine lq_s (.ex (.pointer (some ⟨p, 0, none⟩))) [] (by decide) (by kernel_rfl) rfl (by rfl) trivial HST.out (fun ph w1 hw1 => ?_) ?_
        · simp only [pk, lexVals]
          clear hw1
          go_simp
          exact ⟨Ext.refl _, rfl⟩
        refine lq_s (.ex (.agg (rowArr 128 (ofV f)))) [] (by decide) (by kernel_rfl) rfl (by rfl) trivial HST.out (fun ph w1 hw1 => ?_) ?_
        · simp only [pk, lexVals]
          exact lu_row rfl rfl ((hw1.1.kp.block s0 Hh.out.2.2.1 (fun e => Hh.out.1 e.symm) (fun e => Hh.out.2.1 e.symm)).trans Hs1.out) Tryd.underlying30 rfl (by kernel_rfl)
        refine lq_s (.ex (.slice a' k c')) [] (by decide) (by kernel_rfl) rfl (by rfl) trivial HST.out (fun ph w1 hw1 => ?_) ?_
        · simp only [pk, lexVals]
          clear hw1
          go_simp
          exact ⟨Ext.refl _, rfl⟩
        refine lq_s (.ex (.slice a' k c')) [] (by decide) (by kernel_rfl) rfl (by rfl) trivial HST.out (fun ph w1 hw1 => ?_) ?_
        · simp only [pk, lexVals]
          clear hw1
          go_simp
          exact ⟨Ext.refl _, rfl⟩
        refine lq_m (.ab (SrF p (k + k) (othS ss qn k ++ othS ss qn k))) [(1, 60), (0, 61)] rfl (by kernel_rfl) rfl (by rfl) (fun u x x' hx ⟨a1, c1, h1, h2, h3⟩ => ⟨a1, c1, h1, h2.kp (show Kp2 p p x x' from hx) (fun _ y1 hy => ⟨h3 y1 hy, h3 y1 hy⟩), h3⟩) (fun w1 hw1 => ?_) ?_
        · simp only [pk, nthSp, lexVals]
          exact luc_twoS (.tmp 60) (.tmp 61) rfl w4.heap.size a' k c' (othS ss qn k) rfl rfl (HOw.out w1 (hw1.2 rfl)) (by omega) (HSw.out w1 hw1.1.kp.size) fun v' w' h1 h2 h3 => HAp.out w1 v' w' hw1.1 h1 h2 h3
        refine lq_g (.ab (TkF p z1.heap.size z1.heap.size f hpt hrt (othS ss qn k ++ othS ss qn k))) [(4, 58), (3, 59), (0, 62)] (by decide) (by kernel_rfl) rfl (by rfl) (fun u x x' hx h => TkF.kp h hx hpt Hh.out.2.2.2.2.1) (fun ph w1 hw1 => ?_) ?_
        · simp only [pk, nthSp, lexVals]
          rintro u62 ⟨a1, c1, rfl, h1, h2⟩
          have hm := tokens_any (realBl p z1.heap.size (tagK f) (tagK_byte f) hpt hrt) () w1 hw1.1.at_ (ofV f) (fun i hi => ofV_tag f i hi) a1 (k + k) c1 _ h1 (fun _ y1 hy => ⟨h2 y1 hy, h2 y1 hy⟩) (by omega)
          have HM := Lib.hid hm
          have HW := Lib.hid hw1
          have hl2 := h1.len
          clear hm hw1
          go_simp
          refine HM.out.mono ?_
          rintro e w2 hS
          obtain ⟨v, rfl, hF, hA, hK⟩ := TkF.of hS (HW.out.1.kp.size) (by omega)
          exact ⟨v, rfl, ⟨HW.out.1.call hK hA, fun e => (HW.out.2 e).trans hK⟩, HPk.out ph _ _ hK, hF⟩
        refine lq_stop (by rfl) (by decide) fun w7 hw7 => ?_
        simp only [rv, pf, lexVals, List.drop_succ_cons, List.drop_zero]
        rintro u57 ⟨a1, m1, c1, vs, rfl, hm1, ho1, ht1⟩ u62 - u63 ⟨a2, m2, c2, ws, rfl, hm2, ho2, ht2⟩
        have hsame := tkSet_same ht1 ht2 (fun _ _ h => h) (fun x hx => List.mem_append.2 (.inl (by have := mem_othS (q := qn) hx; rwa [hlenk] at this))) (fun x hx => by
          rcases List.mem_append.1 hx with h1 | h1 <;> exact othS_mem (by rw [hlenk]; exact h1))
        have HV := Lib.hid (own_ts1 ho1 (TkSet.bytes ht1) (by omega))
        have HW2 := Lib.hid (own_ts1 ho2 (TkSet.bytes ht2) (by omega))
        have Hsm := Lib.hid hsame
        have Hup := Lib.hid (rises_pw ht1.up)
        have HE7 := Lib.hid (show Ext w w7 from hw7.1.kp.ext_of (HEy.out.trans HE1y.out) (by have := hb2; omega) (by have := hb2; omega))
        have hmm : m2 = m1 := by
          have h1 := congrArg List.length Hsm.out
          rw [List.length_map, List.length_map, HV.out.len, HW2.out.len] at h1
          exact h1.symm
        subst hmm
        clear ho1 ho2 ht1 ht2 hsame hw7
        go_upto_region 10 with (fail)
        go_wp2
        go_loopw [13] (fun i y => ∃ j : Nat, j ≤ m2 ∧ i = .int .i64 (j : Int) ∧ Ext w7 y) (fun i _ => m2 - (intOf i).toNat)
        case atStart => exact ⟨0, Nat.zero_le _, rfl, Ext.refl _⟩
        case round =>
          obtain ⟨j, hj, rfl, hE⟩ := hrel
          have HE := Lib.hid hE
          rename World => v
          clear hE
          by_cases hlt : j < m2
          · have x4 : (j : Int) < (m2 : Int) := by omega
            obtain ⟨g1, o1, rfl, hc1⟩ := (HV.out.ext HE.out).at_ (by omega)
            obtain ⟨g2, o2, rfl, hc2⟩ := (HW2.out.ext HE.out).at_ (by omega)
            have hl1 := HV.out.len
            have hl2 := HW2.out.len
            have he : eqTok (tkAt vs j) (tkAt ws j) = true := (eqTok_iff _ _).2 (by
              have h1 := congrArg (fun l : List (List Int) => l[j]?) Hsm.out
              simp only [List.getElem?_map, List.getElem?_eq_getElem (show j < vs.length by omega), List.getElem?_eq_getElem (show j < ws.length by omega), Option.map_some, Option.some.injEq] at h1
              unfold tkAt
              rw [List.getD_eq_getElem?_getD, List.getD_eq_getElem?_getD, List.getElem?_eq_getElem (show j < vs.length by omega), List.getElem?_eq_getElem (show j < ws.length by omega)]
              exact h1)
            obtain ⟨TF, hTF⟩ : ∃ t, tkAt vs j = t := ⟨_, rfl⟩
            obtain ⟨TG, hTG⟩ : ∃ t, tkAt ws j = t := ⟨_, rfl⟩
            rw [hTF, hTG] at he
            have HBq := Lib.hid he
            have HC1 := Lib.hid (show ∀ x, Ext v x → ∀ q, q < 16 → x.cell? ⟨g1, o1 + j * 16 + q, none⟩ = some (.int .u8 (TF q)) from fun x hx q hq => by
              have h1 := hc1 j hlt q hq
              rw [Ext.cell hx (World.block_lt_of_cell? _ _ h1), h1, ← hTF]
              rfl)
            have HC0 := Lib.hid (show ∀ x, Ext v x → ∀ q, q < 16 → x.cell? ⟨g2, o2 + j * 16 + q, none⟩ = some (.int .u8 (TG q)) from fun x hx q hq => by
              have h1 := hc2 j hlt q hq
              rw [Ext.cell hx (World.block_lt_of_cell? _ _ h1), h1, ← hTG]
              rfl)
            have HX := Lib.hid (show ∀ x, Ext v.drew x → Ext v x from fun x hx => Ext.trans (Ext.refl v).drew hx)
            have HjN := Lib.hid hlt
            clear hc1 hc2 hl1 hl2 he hTF hTG
            go_upto_region 13 with (fail)
            refine wp_region_lexA (by kernel_rfl) (by kernel_rfl) ?_
            refine lx_e (.slice (some ⟨g1, o1, none⟩) m2 (c1)) [] (by kernel_rfl) rfl (by rfl) (fun w1 hw1 => ?_) ?_
            · simp only [pk, lexVals]
              clear hw1
              go_simp
              exact ⟨Ext.refl _, by first | rfl | simp⟩
            refine lx_e (.int .i64 (j : Int)) [] (by kernel_rfl) rfl (by rfl) (fun w1 hw1 => ?_) ?_
            · simp only [pk, lexVals]
              clear hw1
              go_simp
              exact ⟨Ext.refl _, by first | rfl | simp⟩
            refine lx_e (.pointer (some ⟨g1, o1 + j * 16, none⟩)) [(1, 77), (0, 78)] (by kernel_rfl) rfl (by rfl) (fun w1 hw1 => ?_) ?_
            · simp only [pk, nthSp, lexVals]
              exact lu_idx rfl rfl rfl HjN.out
            refine lx_e (.agg (rowArr 16 fun j => .int .u8 (TF j))) [(0, 79)] (by kernel_rfl) rfl (by rfl) (fun w1 hw1 => ?_) ?_
            · simp only [pk, nthSp, lexVals]
              exact lu_tok rfl rfl (HC1.out w1 (HX.out w1 hw1))
            refine lx_e (.slice (some ⟨g2, o2, none⟩) m2 (c2)) [] (by kernel_rfl) rfl (by rfl) (fun w1 hw1 => ?_) ?_
            · simp only [pk, lexVals]
              clear hw1
              go_simp
              exact ⟨Ext.refl _, by first | rfl | simp⟩
            refine lx_e (.int .i64 (j : Int)) [] (by kernel_rfl) rfl (by rfl) (fun w1 hw1 => ?_) ?_
            · simp only [pk, lexVals]
              clear hw1
              go_simp
              exact ⟨Ext.refl _, by first | rfl | simp⟩
            refine lx_e (.pointer (some ⟨g2, o2 + j * 16, none⟩)) [(1, 81), (0, 82)] (by kernel_rfl) rfl (by rfl) (fun w1 hw1 => ?_) ?_
            · simp only [pk, nthSp, lexVals]
              exact lu_idx rfl rfl rfl HjN.out
            refine lx_e (.agg (rowArr 16 fun j => .int .u8 (TG j))) [(0, 83)] (by kernel_rfl) rfl (by rfl) (fun w1 hw1 => ?_) ?_
            · simp only [pk, nthSp, lexVals]
              exact lu_tok rfl rfl (HC0.out w1 (HX.out w1 hw1))
            refine lx_e (.bool false) [(4, 80), (0, 84)] (by kernel_rfl) rfl (by rfl) (fun w1 hw1 => ?_) ?_
            · simp only [pk, nthSp, lexVals]
              have keq := neq_tok
              have hb := HBq.out
              clear hw1
              go_simp
              exact ⟨Ext.refl _, by first | rfl | (rw [hb]) | (simp [hb])⟩
            refine lx_stopA (by rfl) fun y2 hy2 => ?_
            have HEf := Lib.hid (HE.out.trans (HX.out y2 hy2))
            clear hy2 HX HC0 HC1
            simp only [rv, pf, lexVals]
            simp only [Act.put, List.setIfInBounds_toArray, List.set_cons_zero, List.set_cons_succ]
            go_wp2
            go_roundw
            case rel => exact ⟨j + 1, by omega, by go_num, HEf.out⟩
            case measure => simp [intOf]; omega
          · obtain rfl : j = m2 := by omega
            have x4 : ¬ (j : Int) < (j : Int) := by omega
            have HSo := Lib.hid (refSorted_any a1 j c1 vs v (HV.out.ext HE.out))
            go_wp2_with fail
            refine HSo.out.mono ?_
            rintro e v2 ⟨rfl, hE2⟩
            have HEf := Lib.hid (HE7.out.trans (HE.out.trans hE2))
            clear hE2
            rw [Hup.out]
            go_wp2
            go_ret
            exact ⟨rfl, HEf.out⟩
  · have x1 : R = false ∨ 20 < n := by
      cases R with
      | false => exact .inl rfl
      | true => exact .inr (Nat.lt_of_not_le fun hle => hgate ⟨rfl, hle⟩)
    have HA4 := Lib.hid (awake11_any w4 (HK.out.ext' (HE2.out.trans HE4.out)))
    rcases x1 with rfl | x1
    · go_wp2_with fail
      refine HA4.out.mono ?_
      rintro e w5 ⟨rfl, hE5⟩
      go_wp2
      go_ret
      exact ⟨rfl, HE2.out.trans (HE4.out.trans hE5)⟩
    · have x2 : (20 : Int) < (n : Int) := by omega
      cases R with
      | false =>
        go_wp2_with fail
        refine HA4.out.mono ?_
        rintro e w5 ⟨rfl, hE5⟩
        go_wp2
        go_ret
        exact ⟨rfl, HE2.out.trans (HE4.out.trans hE5)⟩
      | true =>
        go_wp2_with fail
        refine HA4.out.mono ?_
        rintro e w5 ⟨rfl, hE5⟩
        go_wp2
        go_ret
        exact ⟨rfl, HE2.out.trans (HE4.out.trans hE5)⟩

end Go.Proofs.YtdgbcieopkilcaaDoor
