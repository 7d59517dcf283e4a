/-
  What ProofIdeal's walk needs: literals built, a code stored into a proof, ideal answers. No conditions.
-/
import Derived.Test.YtpiebfhcfkncoaaDoorBoxCI
import Derived.Test.YtpiebfhcfkncoaaDoorEpC
import Derived.Test.YtpiebfhcfkncoaaDoorFew15
import Derived.Test.YtpiebfhcfkncoaaDoorLexP
import Derived.Test.YtpiebfhcfkncoaaDoorPrCk
import Derived.Test.YtpiebfhcfkncoaaDoorPrRf
namespace Go.Proofs.YtpiebfhcfkncoaaDoor
open Go.ChangeShapes Go.WideShapes Go.ChangeAt Go.RowKit

set_option maxRecDepth 100000 in
theorem build_prW0 (w : World) (f : Nat → Value) (a : Option Addr) (n c : Nat) : (Instr.build 35 #[(0, .int .i64 4), (1, .agg (rowArr 125 f)), (6, .slice a n c)]).run Tryd.prog w = .ok (.agg (rowArr 255 fun i => if i < 1 then .int .i64 4 else if i < 126 then f (i - 1) else if i < 251 then hdC hdN (i - 126) else if i < 252 then .int .i64 0 else if i < 253 then .int .u64 0 else if i < 254 then .int .u64 0 else .slice a n c)) w := by kernel_rfl
/-- A proof of a header and what is wanted. -/
def prW (x : HT) (wa : Option Addr) (wn wc : Nat) (ws : List (Nat → Int)) : Pr := ⟨4, x, htN, 0, 0, 0, wa, wn, wc, ws⟩
theorem prW_at {w : World} {x : HT} {wa : Option Addr} {wn wc : Nat} {ws : List (Nat → Int)} (hx : HtAt w x) (ht : TsAt w wa wn wc ws) : PrAt w (prW x wa wn wc ws) :=
  ⟨by show (-9223372036854775808 : Int) ≤ 4 ∧ (4 : Int) ≤ _; omega, hx, htN_at w, by show (-9223372036854775808 : Int) ≤ 0 ∧ (0 : Int) ≤ _; omega, by show (0 : Int) ≤ 0 ∧ (0 : Int) < _; omega, by show (0 : Int) ≤ 0 ∧ (0 : Int) < _; omega, ht⟩
theorem wp_build_prW {ops : Array Oper} {Q : Exit → Act → World → Prop} {rest : List Oper} {o : Oper} {a : Act} {w : World} (hw : Region.wanted o (yielded ops a.tmps) = true) (x0 x1 x2 : Operand) (ho : o.op = .build 35 #[(0, x0), (1, x1), (6, x2)])
    (x : HT) (wa : Option Addr) (wn wc : Nat) (ws : List (Nat → Int)) (h0 : a.eval x0 = .int .i64 4) (h1 : a.eval x1 = .agg (hdV x.1)) (h2 : a.eval x2 = .slice wa wn wc) (A : Array Value) (hA : prV (prW x wa wn wc ws) = A)
    (h : wpList Tryd.prog ops Q rest (a.put o.dst (.agg A)) w) : wpList Tryd.prog ops Q (o :: rest) a w := by
  have hb := build_prW0 w (hdC x.1) wa wn wc
  rw [show (rowArr 255 fun i => if i < 1 then Value.int .i64 4 else if i < 126 then hdC x.1 (i - 1) else if i < 251 then hdC hdN (i - 126) else if i < 252 then .int .i64 0 else if i < 253 then .int .u64 0 else if i < 254 then .int .u64 0 else .slice wa wn wc) = A from hA] at hb
  refine wpList_want hw fun K hK => ?_
  unfold Oper.wp execOp
  simp only [ho, List.map_toArray, List.map_cons, List.map_nil, h0, h1, h2, Sem.run_bind]
  rw [show (hdV x.1) = rowArr 125 (hdC x.1) from rfl, hb]
  simp only [Result.andThen_ok, Sem.run_pure]
  exact hK _ _ h
def oneF (y : Int) (j : Nat) : Int := if j = 0 then y else 0
theorem oneF_byte (y : Int) (hy : 0 ≤ y ∧ y < 256) : ∀ j, j < 32 → 0 ≤ oneF y j ∧ oneF y j < 256 := fun j _ => by unfold oneF; split <;> omega
set_option maxRecDepth 100000 in
theorem build_h1 (w : World) (y : Int) : (Instr.build 23 #[(0, .int .u8 y)]).run Tryd.prog w = .ok (.agg (rowArr 32 fun j => .int .u8 (oneF y j))) w := by kernel_rfl
theorem wp_build_h1 {ops : Array Oper} {Q : Exit → Act → World → Prop} {rest : List Oper} {o : Oper} {a : Act} {w : World} (hw : Region.wanted o (yielded ops a.tmps) = true) (x0 : Operand) (ho : o.op = .build 23 #[(0, x0)]) (y : Int) (h0 : a.eval x0 = .int .u8 y)
    (h : wpList Tryd.prog ops Q rest (a.put o.dst (.agg (rowArr 32 fun j => .int .u8 (oneF y j)))) w) : wpList Tryd.prog ops Q (o :: rest) a w := by
  refine wpList_want hw fun K hK => ?_
  unfold Oper.wp execOp
  simp only [ho, List.map_toArray, List.map_cons, List.map_nil, h0, Sem.run_bind, build_h1, Result.andThen_ok, Sem.run_pure]
  exact hK _ _ h
def rgN : Rg := ⟨fun _ => 0, none, 0, 0, []⟩
set_option maxRecDepth 100000 in
theorem zero_rgN (w : World) : (zeroValue 26).run Tryd.prog w = .ok (.agg (rgV rgN)) w := by kernel_rfl
set_option maxRecDepth 100000 in
theorem zero_prW (w : World) : (zeroValue 35).run Tryd.prog w = .ok (.agg (prV (prZ 0))) w := by kernel_rfl
theorem rgV_one (r : Rg) : (rgV r).all (·.oneCell') = true := rowArr_one fun i _ => rgC_one r i

/-- A code stored into a proof's first header. -/
theorem prC_code (p : Pr) (F : Nat → Int) : ∀ j, j < 255 → (if 94 ≤ j ∧ j < 94 + 32 then .int .u8 (F (j - 94)) else prC p j) = prC { p with a := ({ p.a.1 with code := F }, p.a.2) } j := by
  intro j hj
  unfold prC
  by_cases a1 : j < 1
  · rw [if_neg (by omega), if_pos a1, if_pos a1]
  by_cases a2 : j < 126
  · have h1 := hdC_code p.a.1 F (j - 1) (by omega)
    rw [if_neg a1, if_pos a2, if_neg a1, if_pos a2]
    by_cases a3 : 94 ≤ j ∧ j < 94 + 32
    · rw [if_pos a3, ← h1, if_pos (by omega), show j - 1 - 93 = j - 94 by omega]
    · rw [if_neg a3, ← h1, if_neg (by omega)]
  · rw [if_neg (by omega), if_neg a1, if_neg a2, if_neg a1, if_neg a2]
theorem pr_storeCode {w : World} {g : Nat} {p : Pr} (hr : w.rowIs g 35 255 (prC p)) (F : Nat → Int) : w.there g 94 (rowArr 32 fun j => Value.int .u8 (F j)).size ∧ (w.setCells g 94 (rowArr 32 fun j => Value.int .u8 (F j)).toList).rowIs g 35 255 (prC { p with a := ({ p.a.1 with code := F }, p.a.2) }) := by
  refine ⟨fun j hj => ?_, ?_⟩
  · rw [rowArr_size] at hj
    exact ⟨by rw [hr.cell (i := 94 + j) (by omega)]; rfl, hr.frozen _⟩
  · refine ((rowIs_setCells _ 94 _ _ hr).congr fun j hj => ?_).congr (prC_code p F)
    rw [Array.length_toList, rowArr_size]
    by_cases h1 : 94 ≤ j ∧ j < 94 + 32
    · rw [if_pos h1, if_pos h1, List.getD_eq_getElem?_getD, Array.getElem?_toList, rowArr_get _ _ _ (by omega), Option.getD_some]
    · rw [if_neg h1, if_neg h1]
theorem rgC_eps (r : Rg) (a : Option Addr) (n c : Nat) (ks : List (Nat → Int)) : ∀ j, j < 33 → (if j = 32 then Value.slice a n c else rgC r j) = rgC ⟨r.grp, a, n, c, ks⟩ j := by
  intro j hj
  unfold rgC
  by_cases h1 : j = 32
  · rw [if_pos h1, if_neg (by omega)]
  · rw [if_neg h1, if_pos (by omega), if_pos (by omega)]

/-- A box without codes says no. -/
theorem rightO_none (o : Option (Nat → Int)) (h : Hd) (ts : List (Nat → Int)) : rightO (idealR []) o h ts = false := by
  cases o with
  | none => rfl
  | some f => show (hdB h ts && false) = false; rw [Bool.and_false]
theorem chk_none (r : Rg) (x : HT) (wa : Option Addr) (wn wc : Nat) (ws : List (Nat → Int)) : chkB (idealR []) r (prW x wa wn wc ws) = false := by
  cases hf : prB (prW x wa wn wc ws) with
  | false => exact chk_no hf
  | true =>
    rw [chk_4 hf rfl]
    show (rightO (idealR []) (keyO r x.1) x.1 x.2 && _) = false
    rw [rightO_none]
    rfl
/-- What was coded is right. -/
theorem rightO_one {f : Nat → Int} {h : Hd} {ts : List (Nat → Int)} {cc : Nat → Int} {b : Nat} (hf : hdB h ts = true) : rightO (idealR [⟨codeK f, strOf (coreL h ts), cc, b⟩]) (some f) { h with code := cc } ts = true := by
  show (hdB h ts && idealR [⟨codeK f, strOf (coreL h ts), cc, b⟩] (codeK f) (coreL h ts) cc) = true
  rw [hf]
  have hh : nmHit (codeK f) (strOf (coreL h ts)) (cdNm ⟨codeK f, strOf (coreL h ts), cc, b⟩) = true := by
    show (arrB 32 (codeK f) (codeK f) && ((strOf (coreL h ts)).toList == (strOf (coreL h ts)).toList)) = true
    rw [Bool.and_eq_true]
    exact ⟨decide_eq_true fun _ _ => rfl, beq_self_eq_true _⟩
  unfold idealR
  rw [show cdFind (codeK f) (strOf (coreL h ts)) [⟨codeK f, strOf (coreL h ts), cc, b⟩] = some cc from by unfold cdFind; rw [if_pos hh]]
  show (true && (true && arrB 32 cc cc)) = true
  rw [show arrB 32 cc cc = true from decide_eq_true fun _ _ => rfl]
  rfl
theorem chk_one {r : Rg} {f : Nat → Int} {h : Hd} {ts : List (Nat → Int)} {cc : Nat → Int} {b : Nat} {wa : Option Addr} {wn wc : Nat} {ws : List (Nat → Int)} (hk : keyO r h = some f) (hf : hdB h ts = true) :
    chkB (idealR [⟨codeK f, strOf (coreL h ts), cc, b⟩]) r (prW ({ h with code := cc }, ts) wa wn wc ws) = (prB (prW ({ h with code := cc }, ts) wa wn wc ws) && (!h.ctl && (decide (wn = 0) || meetB ts ws))) := by
  cases hp : prB (prW ({ h with code := cc }, ts) wa wn wc ws) with
  | false => rw [chk_no hp]; rfl
  | true =>
    rw [chk_4 hp rfl]
    show (rightO _ (keyO r h) { h with code := cc } ts && (!h.ctl && (decide (wn = 0) || meetB ts ws))) = _
    rw [hk, rightO_one hf]
theorem keyO_more {r : Rg} {h : Hd} {f : Nat → Int} (hl : r.ks.length = r.en) (hk : keyO r h = some f) (a : Option Addr) (c : Nat) (y : Nat → Int) : keyO ⟨r.grp, a, r.en + 1, c, r.ks ++ [y]⟩ h = some f := by
  unfold keyO at hk ⊢
  by_cases hc : h.ctl = true
  · rw [if_pos hc] at hk ⊢
    exact hk
  · rw [if_neg hc] at hk ⊢
    by_cases he : h.epoch < 0 ∨ (r.en : Int) ≤ h.epoch
    · rw [if_pos he] at hk
      cases hk
    · rw [if_neg he] at hk
      rw [if_neg (by show ¬ (h.epoch < 0 ∨ ((r.en + 1 : Nat) : Int) ≤ h.epoch); omega), ← hk]
      congr 1
      show (r.ks ++ [y]).getD h.epoch.toNat _ = _
      rw [List.getD_eq_getElem?_getD, List.getD_eq_getElem?_getD, List.getElem?_append_left (by omega)]

/-- Where the region that codes stands. -/
def IdC (gb m B : Nat) (w10 : World) (ph : Bool) (w : World) : Prop := Kept gb m w10 w ∧ Below B w10 w ∧ (ph = false → Ext w10 w)
def IdE (gb m : Nat) (ph : Bool) (w w' : World) : Prop := if ph = true then Ext w w' else Kept gb m w w'
theorem kept_ext {gb m : Nat} {w w' : World} (h : Ext w w') : Kept gb m w w' := ⟨Below.size h, fun _ hk _ _ => h.block hk⟩
theorem kept_trans {gb m : Nat} {a b c : World} (h : Kept gb m a b) (k : Kept gb m b c) : Kept gb m a c := ⟨Nat.le_trans h.1 k.1, fun i h1 h2 h3 => (k.2 i (Nat.lt_of_lt_of_le h1 h.1) h2 h3).trans (h.2 i h1 h2 h3)⟩
theorem idC_ext {gb m B : Nat} {w10 : World} (hB : B ≤ w10.heap.size) : ∀ ph w w', IdC gb m B w10 ph w → Ext w w' → IdC gb m B w10 ph w' ∧ IdE gb m ph w w' := fun ph w w' h he => by
  refine ⟨⟨kept_trans h.1 (kept_ext he), h.2.1.trans (Below.mono he (Nat.le_trans hB h.1.1)), fun e => (h.2.2 e).trans he⟩, ?_⟩
  unfold IdE
  split
  · exact he
  · exact kept_ext he
/-- A slice of bytes apart from the box. -/
def SlP (gb m : Nat) (X : List Int) (u : Value) (w : World) : Prop := ∃ q n c, u = .slice q n c ∧ BsAt w q n c X ∧ (0 < n → ∀ b off, q = some ⟨b, off, none⟩ → b < w.heap.size ∧ b ≠ gb ∧ b ≠ m)
theorem slP_mono {gb m : Nat} {X : List Int} : Sp.mono (IdE gb m false) (.ab (SlP gb m X)) := fun u w w' he ⟨q, n, c, h1, h2, h3⟩ => by
  have hk : Kept gb m w w' := he
  exact ⟨q, n, c, h1, bs_blk h2 (fun h0 b off e => hk.2 b (h3 h0 b off e).1 (h3 h0 b off e).2.1 (h3 h0 b off e).2.2), fun h0 b off e => ⟨Nat.lt_of_lt_of_le (h3 h0 b off e).1 hk.1, (h3 h0 b off e).2⟩⟩
/-- What Box.Code hands back, and leaves. -/
def CdP (gb m1 m2 m3 : Nat) (sd : Nat → Int) (cd : Nat → Int) (s : ByteArray) (u : Value) (w : World) : Prop := ∃ cc b dr, u = .agg (rowArr 32 fun j => .int .u8 (cc j)) ∧ (∀ j, j < 32 → 0 ≤ cc j ∧ cc j < 256) ∧ CdAt w m2 [⟨cd, s, cc, b⟩] ∧ w.heap[gb]? = some (.cells (rowArr 37 (boxJ sd dr m1 m2 m3)) 66 (0, 0))
theorem cdP_mono {gb m1 m2 m3 : Nat} {sd cd : Nat → Int} {s : ByteArray} : Sp.mono (IdE gb m2 true) (.ab (CdP gb m1 m2 m3 sd cd s)) := fun u w w' he ⟨cc, b, dr, h1, h2, h3, h4⟩ => by
  have hk : Ext w w' := he
  exact ⟨cc, b, dr, h1, h2, h3.ext hk, hk.keep h4⟩
/-- Box.Code at a box without codes. -/
theorem code_first {gb : Nat} {sd : Nat → Int} {m1 m2 m3 : Nat} {f : Nat → Int} {a : Option Addr} {n c : Nat} {xs : List Int} {w : World} {B : Nat} (hb : w.heap[gb]? = some (.cells (rowArr 37 (boxJ sd 0 m1 m2 m3)) 66 (0, 0))) (hh : ∀ j, j < 32 → 0 ≤ sd j ∧ sd j < 256)
    (hm : w.heap[m2]? = some (.map #[] 0)) (hx : BsAt w a n c xs) (hgm : gb ≠ m2) (hB1 : B ≤ gb) (hB2 : B ≤ m2) (hk : KsAt 1 w) :
    Calls Tryd.prog 16 #[.pointer (some ⟨gb, 0, none⟩), .agg (rowArr 32 fun j => .int .u8 (f j)), .slice a n c] w fun e w' => ∃ v, e = .returned v ∧ CdP gb m1 m2 m3 sd f (strOf xs) v w' ∧ Below B w w' ∧ Kept gb m2 w w' :=
  (boxCodeI_any gb sd 0 m1 m2 m3 [] f a n c xs w B hb hh (by omega) ⟨⟨#[], 0, hm, rfl⟩⟩ hx hgm rfl hB1 hB2 hk).mono fun e w' ⟨cc, h1, h2, ⟨dr, _, h3⟩, ⟨b, h4⟩, h5, h6⟩ => ⟨_, h2, ⟨cc, b, dr, rfl, h1, h4, h3⟩, h5, h6⟩

end Go.Proofs.YtpiebfhcfkncoaaDoor
