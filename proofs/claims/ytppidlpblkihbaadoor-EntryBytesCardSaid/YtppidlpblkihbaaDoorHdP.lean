/-
  What a header's bytes are parsed as: plain; the memory that its walk goes through. No conditions.
-/
import Derived.Test.YtppidlpblkihbaaDoorArr
namespace Go.Proofs.YtppidlpblkihbaaDoor
open Go.ChangeShapes Go.WideShapes Go.ChangeAt Go.RowKit

/-- An array's numbers, some bytes copied into it. -/
def arF (R : List Int) : Nat → Int := fun j => R.getD j 0

def tokS (xs : List Int) (bad : Bool) : Nat → List Int × Bool
  | 0 => (xs, bad)
  | k + 1 => (rawP (tokS xs bad k).1 (tokS xs bad k).2 16).2
def tokX (xs : List Int) (bad : Bool) (k : Nat) : Nat → Int := arF (rawP (tokS xs bad k).1 (tokS xs bad k).2 16).1
def knS (xs : List Int) (bad : Bool) : Nat → List Int × Bool
  | 0 => (xs, bad)
  | k + 1 => (numP (knS xs bad k).1 (knS xs bad k).2 1048576).2
def knX (xs : List Int) (bad : Bool) (k : Nat) : Int := (numP (knS xs bad k).1 (knS xs bad k).2 1048576).1

def hq1 (b : List Int) := numP b false 6
def hq2 (b : List Int) := numP (hq1 b).2.1 (hq1 b).2.2 1048576
def hq3 (b : List Int) := rawP (hq2 b).2.1 (hq2 b).2.2 32
def hq4 (b : List Int) := numP (hq3 b).2.1 (hq3 b).2.2 255
def hq5 (b : List Int) := flagP (hq4 b).2.1 (hq4 b).2.2
def hq6 (b : List Int) := numP (hq5 b).2.1 (hq5 b).2.2 1099511627776
def hq7 (b : List Int) := rawP (hq6 b).2.1 (hq6 b).2.2 16
def hq8 (b : List Int) := numP (hq7 b).2.1 (hq7 b).2.2 8
def hqT (b : List Int) := tokS (hq8 b).2.1 (hq8 b).2.2 (hq8 b).1.toNat
def hqK (b : List Int) := knS (hqT b).1 (hqT b).2 6
def hq9 (b : List Int) := rawP (hqK b).1 (hqK b).2 32
def hq10 (b : List Int) := numP (hq9 b).2.1 (hq9 b).2.2 2064
def hq11 (b : List Int) := rawP (hq10 b).2.1 (hq10 b).2.2 32

/-- The tokens that are parsed. -/
def tsOf (b : List Int) : List (Nat → Int) := (List.range (hq8 b).1.toNat).map (tokX (hq8 b).2.1 (hq8 b).2.2)
/-- The header that is parsed; its tokens lie at (a, c). -/
def hdOf (b : List Int) (a : Option Addr) (c : Nat) : Hd :=
  ⟨(hq1 b).1, (hq2 b).1, arF (hq3 b).1, (hq4 b).1, (hq5 b).1, (hq6 b).1, arF (hq7 b).1, a, (hq8 b).1.toNat, c, fun k => if k < 6 then knX (hqT b).1 (hqT b).2 k else 0, arF (hq9 b).1, (hq10 b).1, arF (hq11 b).1⟩
/-- Whether a header is taken of some bytes. -/
def hdTaken (b : List Int) : Bool := !(hq11 b).2.2 && decide ((hq11 b).2.1.length = 0) && hdB (hdOf b none 0) (tsOf b)
theorem hdOf_hdB (b : List Int) (a : Option Addr) (c : Nat) : hdB (hdOf b a c) (tsOf b) = hdB (hdOf b none 0) (tsOf b) := rfl

def hdZ : Hd := ⟨0, 0, fun _ => 0, 0, false, 0, fun _ => 0, none, 0, 0, fun _ => 0, fun _ => 0, 0, fun _ => 0⟩

theorem rawP_byte {xs : List Int} {bad : Bool} {k : Int} (hb : ∀ c ∈ xs, 0 ≤ c ∧ c < 256) : (∀ c ∈ (rawP xs bad k).1, 0 ≤ c ∧ c < 256) ∧ ∀ c ∈ (rawP xs bad k).2.1, 0 ≤ c ∧ c < 256 := by
  unfold rawP
  split
  · exact ⟨by simp, hb⟩
  · exact ⟨fun c hc => hb c (List.mem_of_mem_take hc), fun c hc => hb c (List.mem_of_mem_drop hc)⟩
theorem flagP_byte {xs : List Int} {bad : Bool} (hb : ∀ c ∈ xs, 0 ≤ c ∧ c < 256) : ∀ c ∈ (flagP xs bad).2.1, 0 ≤ c ∧ c < 256 := by
  unfold flagP
  split
  · exact hb
  · exact fun c hc => hb c (List.mem_of_mem_tail hc)
theorem arF_byte {R : List Int} (hb : ∀ c ∈ R, 0 ≤ c ∧ c < 256) : ∀ j, 0 ≤ arF R j ∧ arF R j < 256 := fun j => getD_byte hb j
theorem tokS_byte {xs : List Int} {bad : Bool} (hb : ∀ c ∈ xs, 0 ≤ c ∧ c < 256) : ∀ k, ∀ c ∈ (tokS xs bad k).1, 0 ≤ c ∧ c < 256
  | 0 => hb
  | k + 1 => (rawP_byte (tokS_byte hb k)).2
theorem tokX_byte {xs : List Int} {bad : Bool} (hb : ∀ c ∈ xs, 0 ≤ c ∧ c < 256) (k j : Nat) : 0 ≤ tokX xs bad k j ∧ tokX xs bad k j < 256 := arF_byte (rawP_byte (tokS_byte hb k)).1 j
theorem knS_byte {xs : List Int} {bad : Bool} (hb : ∀ c ∈ xs, 0 ≤ c ∧ c < 256) : ∀ k, ∀ c ∈ (knS xs bad k).1, 0 ≤ c ∧ c < 256
  | 0 => hb
  | k + 1 => numP_byte (knS_byte hb k)
theorem knX_bd {xs : List Int} {bad : Bool} (hb : ∀ c ∈ xs, 0 ≤ c ∧ c < 256) (k : Nat) : 0 ≤ knX xs bad k ∧ knX xs bad k ≤ 1048576 := numP_bd (knS_byte hb k) (by omega)

section
variable {b : List Int} (hb : ∀ c ∈ b, 0 ≤ c ∧ c < 256)
include hb
theorem hq1_byte : ∀ c ∈ (hq1 b).2.1, 0 ≤ c ∧ c < 256 := numP_byte hb
theorem hq2_byte : ∀ c ∈ (hq2 b).2.1, 0 ≤ c ∧ c < 256 := numP_byte (hq1_byte hb)
theorem hq3_byte : ∀ c ∈ (hq3 b).2.1, 0 ≤ c ∧ c < 256 := (rawP_byte (hq2_byte hb)).2
theorem hq4_byte : ∀ c ∈ (hq4 b).2.1, 0 ≤ c ∧ c < 256 := numP_byte (hq3_byte hb)
theorem hq5_byte : ∀ c ∈ (hq5 b).2.1, 0 ≤ c ∧ c < 256 := flagP_byte (hq4_byte hb)
theorem hq6_byte : ∀ c ∈ (hq6 b).2.1, 0 ≤ c ∧ c < 256 := numP_byte (hq5_byte hb)
theorem hq7_byte : ∀ c ∈ (hq7 b).2.1, 0 ≤ c ∧ c < 256 := (rawP_byte (hq6_byte hb)).2
theorem hq8_byte : ∀ c ∈ (hq8 b).2.1, 0 ≤ c ∧ c < 256 := numP_byte (hq7_byte hb)
theorem hqT_byte : ∀ c ∈ (hqT b).1, 0 ≤ c ∧ c < 256 := tokS_byte (hq8_byte hb) _
theorem hqK_byte : ∀ c ∈ (hqK b).1, 0 ≤ c ∧ c < 256 := knS_byte (hqT_byte hb) _
theorem hq9_byte : ∀ c ∈ (hq9 b).2.1, 0 ≤ c ∧ c < 256 := (rawP_byte (hqK_byte hb)).2
theorem hq10_byte : ∀ c ∈ (hq10 b).2.1, 0 ≤ c ∧ c < 256 := numP_byte (hq9_byte hb)
theorem hq1_bd : 0 ≤ (hq1 b).1 ∧ (hq1 b).1 ≤ 6 := numP_bd hb (by omega)
theorem hq2_bd : 0 ≤ (hq2 b).1 ∧ (hq2 b).1 ≤ 1048576 := numP_bd (hq1_byte hb) (by omega)
theorem hq4_bd : 0 ≤ (hq4 b).1 ∧ (hq4 b).1 ≤ 255 := numP_bd (hq3_byte hb) (by omega)
theorem hq6_bd : 0 ≤ (hq6 b).1 ∧ (hq6 b).1 ≤ 1099511627776 := numP_bd (hq5_byte hb) (by omega)
theorem hq8_bd : 0 ≤ (hq8 b).1 ∧ (hq8 b).1 ≤ 8 := numP_bd (hq7_byte hb) (by omega)
theorem hq10_bd : 0 ≤ (hq10 b).1 ∧ (hq10 b).1 ≤ 2064 := numP_bd (hq9_byte hb) (by omega)
theorem hdOf_ok (a : Option Addr) (c : Nat) : HdOk (hdOf b a c) := by
  have h1 := hq1_bd hb; have h2 := hq2_bd hb; have h4 := hq4_bd hb; have h6 := hq6_bd hb; have h10 := hq10_bd hb
  refine ⟨?_, ?_, fun j _ => arF_byte (rawP_byte (hq2_byte hb)).1 j, ?_, ?_, fun j _ => arF_byte (rawP_byte (hq6_byte hb)).1 j, fun j hj => ?_, fun j _ => arF_byte (rawP_byte (hqK_byte hb)).1 j, ?_, fun j _ => arF_byte (rawP_byte (hq10_byte hb)).1 j⟩
  · show -9223372036854775808 ≤ (hq1 b).1 ∧ (hq1 b).1 ≤ 9223372036854775807; omega
  · show 0 ≤ (hq2 b).1 ∧ (hq2 b).1 < 18446744073709551616; omega
  · show -9223372036854775808 ≤ (hq4 b).1 ∧ (hq4 b).1 ≤ 9223372036854775807; omega
  · show 0 ≤ (hq6 b).1 ∧ (hq6 b).1 < 18446744073709551616; omega
  · have h := knX_bd (bad := (hqT b).2) (hqT_byte hb) j
    show 0 ≤ (if j < 6 then knX (hqT b).1 (hqT b).2 j else 0) ∧ (if j < 6 then knX (hqT b).1 (hqT b).2 j else 0) < 18446744073709551616
    rw [if_pos hj]
    omega
  · show -9223372036854775808 ≤ (hq10 b).1 ∧ (hq10 b).1 ≤ 9223372036854775807; omega
theorem tsOf_byte : ∀ t ∈ tsOf b, ∀ j, j < 16 → 0 ≤ t j ∧ t j < 256 := by
  intro t ht j _
  obtain ⟨k, _, rfl⟩ := List.mem_map.1 ht
  exact tokX_byte (hq8_byte hb) k j
end

/-- Tokens' cells. -/
def tk1 (t : Nat → Int) : List Value := (List.range 16).map fun j => .int .u8 (t j)
def tkC : List (Nat → Int) → List Value
  | [] => []
  | t :: ts => tk1 t ++ tkC ts
theorem tk1_length (t : Nat → Int) : (tk1 t).length = 16 := by simp [tk1]
theorem tk1_get (t : Nat → Int) (j : Nat) (hj : j < 16) : (tk1 t)[j]? = some (.int .u8 (t j)) := by
  unfold tk1
  rw [List.getElem?_map, List.getElem?_range hj]
  rfl
theorem tkC_length : ∀ ts : List (Nat → Int), (tkC ts).length = ts.length * 16
  | [] => rfl
  | t :: ts => by rw [tkC, List.length_append, tk1_length, tkC_length ts, List.length_cons]; omega
theorem tkC_append : ∀ (ts us : List (Nat → Int)), tkC (ts ++ us) = tkC ts ++ tkC us
  | [], us => rfl
  | t :: ts, us => by rw [List.cons_append, tkC, tkC, tkC_append ts us, List.append_assoc]
theorem tkC_get : ∀ (ts : List (Nat → Int)) (i j : Nat), i < ts.length → j < 16 → (tkC ts)[i * 16 + j]? = some (.int .u8 ((ts.getD i fun _ => 0) j))
  | [], i, j, h, _ => by simp at h
  | t :: ts, 0, j, _, hj => by
    rw [tkC, List.getElem?_append_left (by rw [tk1_length]; omega), Nat.zero_mul, Nat.zero_add, tk1_get t j hj]
    rfl
  | t :: ts, i + 1, j, h, hj => by
    rw [tkC, List.getElem?_append_right (by rw [tk1_length]; omega), tk1_length, show (i + 1) * 16 + j - 16 = i * 16 + j by omega, tkC_get ts i j (by simpa using h) hj]
    simp
theorem own_ts {w : World} {B : Nat} {v : Value} {n : Nat} {ts : List (Nat → Int)} (h : w.ownsRow B 55 16 v n (tkC ts)) (hb : ∀ t ∈ ts, ∀ j, j < 16 → 0 ≤ t j ∧ t j < 256) (hs : n ≤ 140737488355328) : ∃ a c, v = .slice a n c ∧ TsAt w a n c ts := by
  have hl : ts.length = n := by
    have := h.1
    rw [tkC_length] at this
    omega
  rcases h.2 with ⟨rfl, rfl⟩ | ⟨g, cap, cur, rfl, _, _, hc1, hc2, _, _⟩
  · exact ⟨none, 0, rfl, hl, Nat.le_refl _, by omega, by omega, hb, fun h0 => by omega, fun _ => rfl⟩
  · refine ⟨_, cap, rfl, hl, hc1, by unfold maxLen at hc2; omega, hs, hb, fun h0 => ⟨g, 0, rfl, fun i hi j hj => ?_⟩, fun h0 => by cases h0⟩
    have h1 := h.cells (g := g) rfl (i * 16 + j) _ (tkC_get ts i j (by omega) hj)
    rw [addr_add] at h1
    rw [← h1]
    simp

set_option maxRecDepth 100000 in
theorem info_tok : (Tryd.prog.info? 55).map (fun i => (i.zero, i.size, i.bytes)) = some (some (.agg (rowArr 16 fun _ => .int .u8 0)), 16, 16) := by kernel_rfl

theorem append_tk {w : World} {ops : Array Oper} {rest : List Oper} {o : Oper} {a : Act} {Q : Exit → Act → World → Prop} (hgd : o.guard = none) (s x : Operand) (ho : o.op = .call { callee := .builtin .append, args := #[s, x], argTypes := #[38, 38] })
    (B : Nat) (v : Value) (n : Nat) (ts : List (Nat → Int)) (hs : a.eval s = v) (hown : w.ownsRow B 55 16 v n (tkC ts))
    (q c : Nat) (t : Nat → Int) (hx : a.eval x = .slice (some ⟨q, 0, none⟩) 1 c) (hq : ∀ j, j < 16 → w.cell? ⟨q, j, none⟩ = some (.int .u8 (t j))) (hsz : n ≤ 1000000) (hB : B ≤ w.heap.size)
    (h : ∀ v' w', w'.ownsRow B 55 16 v' (n + 1) (tkC (ts ++ [t])) → w.grownBy w' v.ownBlock → wpList Tryd.prog ops Q rest (a.put o.dst v') w') : wpList Tryd.prog ops Q (o :: rest) a w := by
  obtain ⟨i0, hi, hz0, hz1, hz2⟩ := info_parts info_tok
  refine wpList_append_own w hgd s x 38 ho B 55 i0 (.agg (rowArr 16 fun _ => .int .u8 0)) 16 16 Tryd.underlying38 hi hz0 hz1 hz2 (by kernel_rfl) (by decide) v n (tkC ts) hs hown ⟨q, 0, none⟩ 1 c (tk1 t) hx (by rw [tk1_length]) (fun j u hu => ?_) (fun u hu => ?_) (by unfold maxLen; omega) (by omega) hB ?_
  · have hj : j < 16 := by
      have := (List.getElem?_eq_some_iff.1 hu).1
      rwa [tk1_length] at this
    rw [tk1_get t j hj] at hu
    obtain rfl := Option.some.inj hu
    rw [addr_add, Nat.zero_add]
    exact hq j hj
  · obtain ⟨j, _, rfl⟩ := List.mem_map.1 hu
    rfl
  · intro v' w' h1 h2 _
    refine h v' w' ?_ h2
    rw [tkC_append, tkC, tkC, List.append_nil]
    exact h1

set_option maxRecDepth 100000 in
theorem readInB_any (a : Option Addr) (n c : Nat) (xs : List Int) (w : World) (h : BsAt w a n c xs) :
    Calls Tryd.prog 49 #[.slice a n c] w fun e w' => ∃ g r, e = .returned (.pointer (some ⟨g, 0, none⟩)) ∧ w.heap.size ≤ g ∧ g < w'.heap.size ∧ w.heap.size ≤ r ∧ r < w'.heap.size ∧ InAt w' g xs false ∧ InBlk w' g r ∧ Ext w w' := by
  have HC := Lib.hid (clone_any a n c xs w h)
  have hby := h.byte
  have hsm := h.small
  have hbi := build_in
  clear h
  go_enter Tryd.func49, Tryd.ntmps49
  go_wp2_with fail
  refine HC.out.mono ?_
  rintro e w1 ⟨v, rfl, hown, hE⟩
  obtain ⟨ao, cv, rfl, hc1, hc2⟩ := owns_slice hown
  have hb := owns_bs hown hby (by unfold maxLen at hc2; omega) hsm
  have hlt := hown.lt
  have HB := Lib.hid hb
  have HE := Lib.hid hE
  have HL := Lib.hid hlt
  have HO := Lib.hid hown
  clear hb hE HC hlt hown hc1 hc2
  go_wp2_with fail
  go_ret
  have hE2 : Ext w1 (w1.alloc (.cells #[.slice ao n cv, .bool false] 113)) := (Ext.refl w1).alloc _
  have hg := heap_new w1 (.cells #[.slice ao n cv, .bool false] 113 (0, 0)) _ rfl
  have hlt2 := (Array.getElem?_eq_some_iff.1 hg).1
  have hs := Below.size HE.out
  rcases HO.out.2 with ⟨h1, h2⟩ | ⟨g, cap, cur, h1, h2, h3, _⟩
  · refine ⟨w1.heap.size, w1.heap.size, rfl, hs, hlt2, hs, hlt2, ⟨ao, n, cv, hg, HB.out.ext hE2⟩, ⟨_, _, _, _, _, _, hg, fun _ _ _ h => by omega⟩, HE.out.trans hE2⟩
  · obtain ⟨rfl, _⟩ : ao = some ⟨g, 0, none⟩ ∧ True := by
      simp only [Value.slice.injEq] at h1
      exact ⟨h1.1, trivial⟩
    have hgl := (Array.getElem?_eq_some_iff.1 h3).1
    refine ⟨w1.heap.size, g, rfl, hs, hlt2, h2, by omega, ⟨_, n, cv, hg, HB.out.ext hE2⟩, ⟨_, _, _, _, _, _, hg, fun b off e _ => ?_⟩, HE.out.trans hE2⟩
    simp only [Option.some.injEq, Addr.mk.injEq] at e
    exact e.1.symm

/-- Where the walk's blocks lie. -/
structure HPn (w : World) (B gI r g0 g : Nat) : Prop where
  l0 : w.heap.size ≤ g0 ∧ g0 < B
  lg : w.heap.size ≤ g ∧ g < B
  lI : w.heap.size ≤ gI ∧ gI < B
  lr : r < B
  n1 : g ≠ g0
  n2 : gI ≠ g
  n3 : gI ≠ g0
  n4 : r ≠ g
/-- What the walk keeps. -/
structure HP (w : World) (B gI r g0 g : Nat) (h : Hd) (ts : List (Nat → Int)) (xs : List Int) (bad : Bool) (wr : World) : Prop where
  inn : InAt wr gI xs bad
  blk : InBlk wr gI r
  row : wr.rowIs g 58 125 (hdC h)
  res : wr.rowIs g0 58 125 (hdC hdZ)
  own : wr.ownsRow B 55 16 (.slice h.ta h.tn h.tc) h.tn (tkC ts)
  ext : Ext w wr
  low : B ≤ wr.heap.size

section
variable {w wr w' : World} {B gI r g0 g : Nat} {h : Hd} {ts : List (Nat → Int)} {xs : List Int} {bad : Bool}
/-- An In's step. -/
theorem HP.step (H : HP w B gI r g0 g h ts xs bad wr) (N : HPn w B gI r g0 g) {xs' : List Int} {bad' : Bool} (hI : InAt w' gI xs' bad') (hG : wr.grownBy w' (some gI)) (hS : InSame wr w' gI) : HP w B gI r g0 g h ts xs' bad' w' := by
  have n1 := N.n1; have n2 := N.n2; have n3 := N.n3
  refine ⟨hI, hS r H.blk, H.row.of_block (hG.block g H.row.lt (fun e => n2 (Option.some.inj e).symm)), H.res.of_block (hG.block g0 H.res.lt (fun e => n3 (Option.some.inj e).symm)), H.own.kept hG ?_, Below.grown H.ext hG (Below.size H.ext) (fun k e => by have := Option.some.inj e; have := N.lI.1; omega), Nat.le_trans H.low hG.size⟩
  right
  intro e
  have := (H.own.lt gI e).1
  have := N.lI.2
  omega
/-- A header's cell is stored. -/
theorem HP.set (H : HP w B gI r g0 g h ts xs bad wr) (N : HPn w B gI r g0 g) (i : Nat) (hi : i < 125) (v : Value) (h' : Hd) (hc : ∀ j, j < 125 → (if j = i then v else hdC h j) = hdC h' j) (ht : h'.ta = h.ta ∧ h'.tn = h.tn ∧ h'.tc = h.tc) :
    wr.cell? ⟨g, i, none⟩ = some (hdC h i) ∧ wr.frozen? ⟨g, i, none⟩ = false ∧ HP w B gI r g0 g h' ts xs bad (wr.setCell ⟨g, i, none⟩ v) := by
  have n1 := N.n1; have n2 := N.n2; have n4 := N.n4
  have hG2 : wr.grownBy (wr.setCell ⟨g, i, none⟩ v) (some g) := grown_setCell (World.grownBy.refl wr _) rfl _
  obtain ⟨i1, b1⟩ := H.inn.grown H.blk hG2 n2 n4
  refine ⟨H.row.cell hi, H.row.frozen i, i1, b1, (H.row.set i v).congr hc, H.res.setOther (fun e => n1 e.symm) v, ?_, Below.grown H.ext hG2 (Below.size H.ext) (fun k e => by have := Option.some.inj e; have := N.lg.1; omega), Nat.le_trans H.low hG2.size⟩
  rw [ht.1, ht.2.1, ht.2.2]
  refine H.own.kept hG2 (Or.inr fun e => ?_)
  have := (H.own.lt g e).1
  have := N.lg.2
  omega
/-- An array is taken. -/
theorem HP.arr (H : HP w B gI r g0 g h ts xs bad wr) (N : HPn w B gI r g0 g) {xs' : List Int} {bad' : Bool} (hI : InAt w' gI xs' bad') (hB : InBlk w' gI r) {f : Nat → Value} (hr : w'.rowIs g 58 125 f) (hG : Grown2 wr w' gI g)
    (h' : Hd) (hc : ∀ j, j < 125 → f j = hdC h' j) (ht : h'.ta = h.ta ∧ h'.tn = h.tn ∧ h'.tc = h.tc) : HP w B gI r g0 g h' ts xs' bad' w' := by
  have n1 := N.n1; have n3 := N.n3
  refine ⟨hI, hB, hr.congr hc, H.res.of_block (hG.block g0 H.res.lt (fun e => n3 e.symm) (fun e => n1 e.symm)), ?_, hG.ext H.ext N.lI.1 N.lg.1, Nat.le_trans H.low hG.size⟩
  rw [ht.1, ht.2.1, ht.2.2]
  rcases H.own.2 with ⟨h1, h2⟩ | ⟨q, cap, cur, h1, h2, h3, h4⟩
  · exact ⟨H.own.1, .inl ⟨h1, h2⟩⟩
  · have := N.lg.2
    have := N.lI.2
    exact ⟨H.own.1, .inr ⟨q, cap, cur, h1, h2, hG.keep h3 (by omega) (by omega), h4⟩⟩
/-- Memory grew. -/
theorem HP.more (H : HP w B gI r g0 g h ts xs bad wr) (hE : Ext wr w') : HP w B gI r g0 g h ts xs bad w' := by
  obtain ⟨a, n, c, hg, hb⟩ := H.inn
  refine ⟨⟨a, n, c, hE.keep hg, hb.ext hE⟩, inSame_ext hE r H.blk, H.row.of_block (hE.block H.row.lt), H.res.of_block (hE.block H.res.lt), ?_, H.ext.trans hE, Nat.le_trans H.low (Below.size hE)⟩
  rcases H.own.2 with ⟨h1, h2⟩ | ⟨q, cap, cur, h1, h2, h3, h4⟩
  · exact ⟨H.own.1, .inl ⟨h1, h2⟩⟩
  · exact ⟨H.own.1, .inr ⟨q, cap, cur, h1, h2, hE.keep h3, h4⟩⟩
end

end Go.Proofs.YtppidlpblkihbaaDoor
