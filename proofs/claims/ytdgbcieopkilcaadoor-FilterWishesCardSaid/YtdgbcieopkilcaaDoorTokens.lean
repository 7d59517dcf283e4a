/-
  The walk of keys.Tokens.
-/
import Derived.Test.YtdgbcieopkilcaaDoorTks
namespace Go.Proofs.YtdgbcieopkilcaaDoor
open Go.ChangeShapes Go.WideShapes Go.ChangeAt Go.RowKit

/-- The tokens of the first k. -/
structure Toks {gb gm top : Nat} {f : Nat → Int} (b : Blinder gb gm top f) (s s' : b.St) (ss : List ByteArray) (k : Nat) (ts : List Tk) : Prop where
  len : ts.length = k
  tok : ∀ i, i < k → b.tok s' (strB (ss.getD i ⟨#[]⟩)) = some (ts.getD i default).1
  grows : ∀ ys u, b.tok s ys = some u → b.tok s' ys = some u
theorem Toks.push {gb gm top : Nat} {f : Nat → Int} {b : Blinder gb gm top f} {s s' s'' : b.St} {ss : List ByteArray} {k : Nat} {ts : List Tk} (h : Toks b s s' ss k ts) (t : Tk) (hg : ∀ ys u, b.tok s' ys = some u → b.tok s'' ys = some u) (ht : b.tok s'' (strB (ss.getD k ⟨#[]⟩)) = some t.1) : Toks b s s'' ss (k + 1) (ts ++ [t]) := by
  have hl := h.len
  refine ⟨by simp [hl], fun i hi => ?_, fun ys u hu => hg _ _ (h.grows ys u hu)⟩
  by_cases h1 : i = k
  · subst h1
    rw [ht]
    simp [List.getD_eq_getElem?_getD, ← hl]
  · have h2 := hg _ _ (h.tok i (by omega))
    rw [h2, List.getD_eq_getElem?_getD, List.getD_eq_getElem?_getD, List.getElem?_append_left (by omega)]
/-- Within a loop over tags. -/
structure TkSt {gb gm top : Nat} {f : Nat → Int} (b : Blinder gb gm top f) (s s' : b.St) (ss : List ByteArray) (w y : World) (B : Nat) (a : Option Addr) (k c : Nat) (ts : List Tk) : Prop where
  toks : Toks b s s' ss k ts
  at_ : b.At s' y
  own : y.ownsRow B 35 16 (.slice a k c) k (tkL ts)
  kp : Kp2 gb gm w y
/-- What keys.Tokens answers. -/
def TokensSays {gb gm top : Nat} {f : Nat → Int} (b : Blinder gb gm top f) (s : b.St) (ss : List ByteArray) (w : World) (e : Ending) (w' : World) : Prop :=
  ∃ s' ts us a m c, Toks b s s' ss ss.length ts ∧ Srt ts us ∧ m = (cpt (us.map (·.1))).length ∧ e = .returned (.slice a m c) ∧ w'.ownsRow w.heap.size 35 16 (.slice a m c) m (tkC (cpt (us.map (·.1)))) ∧ b.At s' w' ∧ Kp2 gb gm w w'
theorem tkL_snoc (ts : List Tk) (t : Tk) : tkL (ts ++ [t]) = tkC (ts.map (·.1) ++ [t.1]) := by simp [tkL]
theorem own_below {w : World} {B B' size n : Nat} {e : TypeId} {v : Value} {xs : List Value} (h : w.ownsRow B e size v n xs) (hB : B' ≤ B) : w.ownsRow B' e size v n xs := by
  refine ⟨h.1, ?_⟩
  rcases h.2 with h1 | ⟨g, cap, cur, h1, h2, h3⟩
  · exact .inl h1
  · exact .inr ⟨g, cap, cur, h1, by omega, h3⟩
/-- A row of a call's own stays where two blocks below it change. -/
theorem own_kp {w w' : World} {g m B size n : Nat} {e : TypeId} {v : Value} {xs : List Value} (h : w.ownsRow B e size v n xs) (k : Kp2 g m w w') (hg : g < B) (hm : m < B) : w'.ownsRow B e size v n xs := by
  refine ⟨h.1, ?_⟩
  rcases h.2 with h1 | ⟨b, cap, cur, h1, h2, h3, h4⟩
  · exact .inl h1
  · refine .inr ⟨b, cap, cur, h1, h2, ?_, h4⟩
    rw [k.block b (Array.getElem?_eq_some_iff.1 h3).1 (by omega) (by omega)]
    exact h3

/-- Behind one token more. -/
structure TkNx {gb gm top : Nat} {f : Nat → Int} (b : Blinder gb gm top f) (s s'' : b.St) (ss : List ByteArray) (w z : World) (B : Nat) (a : Option Addr) (k c : Nat) (ts : List Tk) (t : Nat → Int) (x : ByteArray) : Prop where
  at_ : b.At s'' z
  tok : b.tok s'' (strB x) = some t
  kp : Kp2 gb gm w z
  own : z.ownsRow B 35 16 (.slice a k c) k (tkL ts)
  byte : ∀ j, j < 16 → 0 ≤ t j ∧ t j < 256
  toks : Toks b s s'' ss k ts
theorem TkNx.own2 {gb gm top : Nat} {f : Nat → Int} {b : Blinder gb gm top f} {s s'' : b.St} {ss : List ByteArray} {w z z2 : World} {B : Nat} {a : Option Addr} {k c : Nat} {ts : List Tk} {t : Nat → Int} {x : ByteArray} (h : TkNx b s s'' ss w z B a k c ts t x) {o : Obj} (hz : z.alloc o = z2) : z2.ownsRow B 35 16 (.slice a k c) k (tkC (ts.map (·.1))) := by
  rw [← hz]
  exact h.own.alloc o

theorem TkNx.next {gb gm top : Nat} {f : Nat → Int} {b : Blinder gb gm top f} {s s'' : b.St} {ss : List ByteArray} {w z z2 z3 : World} {B : Nat} {a a3 : Option Addr} {k c c3 : Nat} {ts : List Tk} {t : Nat → Int} {x : ByteArray} (h : TkNx b s s'' ss w z B a k c ts t x) (hx : ss.getD k ⟨#[]⟩ = x) (hE : Ext z z2) (ho : z3.ownsRow B 35 16 (.slice a3 (k + 1) c3) (k + 1) (tkL (ts ++ [⟨t, h.byte⟩]))) (hg : z2.grownBy z3 (Value.slice a k c).ownBlock) {ms : List (Nat → Int)} (ho2 : z2.ownsRow B 35 16 (.slice a k c) k (tkC ms)) (hB : top ≤ B) (hw : w.heap.size ≤ B) : TkSt b s s'' ss w z3 B a3 (k + 1) c3 (ts ++ [⟨t, h.byte⟩]) := by
  have hs := h.kp.size
  have h3 : Below (min B z.heap.size) z2 z3 := ⟨hg.os, hg.tape, hg.output, hg.size, fun i hi => hg.block i (by have := hE.size; omega) (fun e => by have := (ho2.lt _ e.symm).1; omega)⟩
  have h4 : Below (min B z.heap.size) z z3 := (Below.mono hE (by omega)).trans h3
  exact ⟨h.toks.push ⟨t, h.byte⟩ (fun _ _ h => h) (by rw [hx]; exact h.tok), b.kept h.at_ (Below.mono h4 (by have := b.size h.at_; omega)), ho, h.kp.new (by omega) h4⟩

theorem TkSt.fin {gb gm top : Nat} {f : Nat → Int} {b : Blinder gb gm top f} {s s' : b.St} {ss : List ByteArray} {w w2 y z z2 : World} {g : Nat} {a : Option Addr} {k c m : Nat} {ts us : List Tk} {vs : List (Nat → Int)} (h : TkSt b s s' ss w2 y (g + 1) a k c ts) (hl : ss.length = k) (hS : Srt ts us) (hv : us.map (·.1) = vs) (hm : m = (cpt vs).length) (ho : z2.ownsRow (g + 1) 35 16 (.slice a m c) m (tkC (cpt vs))) (h1 : Below (g + 1) y z) (h2 : Below (g + 1) z z2) (hE : Ext w w2) (hg : w.heap.size = g) (htop : top ≤ g) (h22 : w2.heap.size = g + 1) : TokensSays b s ss w (.returned (.slice a m c)) z2 := by
  subst hl
  subst hv
  have h3 := h1.trans h2
  exact ⟨s', ts, us, a, m, c, h.toks, hS, hm, rfl, own_below ho (by omega), b.kept h.at_ (Below.mono h3 (by omega)), ((Kp2.of_ext hE).trans h.kp).new (by omega) h3⟩

set_option maxHeartbeats 4000000 in
set_option maxRecDepth 100000 in
theorem tokens_any {gb gm top : Nat} {f : Nat → Int} (b : Blinder gb gm top f) (s : b.St) (w : World) (hs : b.At s w) (S : Nat → Value) (hS : ∀ i, i < 32 → S (64 + i) = .int .u8 (f i)) (a : Option Addr) (n c : Nat) (ss : List ByteArray) (h : SrAt w a n c ss) (hne : 0 < n → ∀ p : Addr, a = some p → p.block ≠ gb ∧ p.block ≠ gm) (hn : n ≤ 1000) :
    Calls Tryd.prog 10 #[.pointer (some ⟨gb, 0, none⟩), .agg (rowArr 128 S), .slice a n c] w (TokensSays b s ss w) := by
  have hcap := h.cap
  have hlim := h.lim
  have hlen := h.len
  obtain ⟨w2, hw2⟩ : ∃ w2, w.alloc (.cells (rowArr 128 S) 30) = w2 := ⟨_, rfl⟩
  have hE2 : Ext w w2 := by rw [← hw2]; exact (Ext.refl w).alloc _
  have hR2 : w2.heap[w.heap.size]? = some (.cells (rowArr 128 S) 30 (0, 0)) := by rw [← hw2]; exact heap_new w _ _ rfl
  have htop := b.size hs
  have hgb := b.gb_top
  have hgm := b.gm_top
  have HSr := Lib.hid (h.ext hE2)
  have HS := Lib.hid hS
  have HNe := Lib.hid hne
  have HR2 := Lib.hid hR2
  have HE2 := Lib.hid hE2
  have Hw2 := Lib.hid hw2
  have HA2 := Lib.hid (b.kept hs (Below.mono hE2 htop))
  obtain ⟨g, hg⟩ : ∃ g, w.heap.size = g := ⟨_, rfl⟩
  have Hg := Lib.hid hg
  have hsz2 : w2.heap.size = g + 1 := by rw [← hw2, ← hg]; simp
  rw [hg] at HR2 htop
  have Hz2 := Lib.hid hsz2
  have Hlen := Lib.hid hlen
  clear h hS hne hR2 hE2 hw2 hs hsz2 hg hlen
  go_enter Tryd.func10, Tryd.ntmps10
  go_upto_region 1 with (fail)
  refine wp_world (w' := w2) Hw2.out ?_
  rw [Hg.out]
  clear Hw2
  have HT0 := Lib.hid (show TkSt b s s ss w2 w2 (g + 1) none 0 0 [] from ⟨⟨rfl, fun i hi => by omega, fun _ _ h => h⟩, HA2.out, ⟨rfl, .inl ⟨rfl, rfl⟩⟩, Kp2.refl _ _ _⟩)
  clear HA2
  go_wp2
  go_loopw [7, 12] (fun v i y => ∃ (k : Nat) (s' : b.St) (ts : List Tk) (a' : Option Addr) (c' : Nat), k ≤ n ∧ i = .int .i64 (k : Int) ∧ v = .slice a' k c' ∧ TkSt b s s' ss w2 y (g + 1) a' k c' ts) (fun _ i _ => n - (intOf i).toNat)
  case atStart => exact ⟨0, s, [], none, 0, Nat.zero_le _, rfl, rfl, HT0.out⟩
  case round =>
    obtain ⟨k, s', ts, a', c', hk, rfl, rfl, hT⟩ := hrel
    rename World => y
    have HT := Lib.hid hT
    clear hT
    by_cases hlt : k < n
    · have x1 : (k : Int) < (n : Int) := by omega
      obtain ⟨g0, off, rfl, hcell⟩ := (HSr.out.kp HT.out.kp HNe.out).at_ (by omega)
      obtain ⟨x, hx⟩ : ∃ x, ss.getD k ⟨#[]⟩ = x := ⟨_, rfl⟩
      have hxs : x.size ≤ 140737488351232 := by rw [← hx]; exact HSr.out.size _ (HSr.out.get hlt)
      have hck := hcell k hlt
      rw [hx] at hck
      have HRy := Lib.hid ((HT.out.kp.block g (by have := Hz2.out; omega) (by omega) (by omega)).trans HR2.out)
      have Hx := Lib.hid hx
      clear hcell hx
      go_upto_region 5 with (fail)
      clear hck
      go_wp2_with (refine wpList_load_row rfl 30 (.tmp 4) rfl g rfl _ _ _ _ HRy.out Tryd.underlying30 rfl (by kernel_rfl) ?_)
      refine (token_any b s' y HT.out.at_ S HS.out x hxs).mono ?_
      rintro e z ⟨s'', t, rfl, hA, hK, hG, hKp⟩
      have HTz := Lib.hid (show TkNx b s s'' ss w2 z (g + 1) a' k c' ts t x from ⟨hA, hK, HT.out.kp.trans hKp, own_kp HT.out.own hKp (by omega) (by omega), b.byte hA hK, ⟨HT.out.toks.len, fun i hi => hG _ _ (HT.out.toks.tok i hi), fun ys u hu => hG _ _ (HT.out.toks.grows ys u hu)⟩⟩)
      have Hsz := Lib.hid (show g + 1 ≤ z.heap.size by have := HT.out.kp.size; have := hKp.size; have := Hz2.out; omega)
      clear hA hK hG hKp HRy HT
      obtain ⟨q, hq⟩ : ∃ q, z.heap.size = q := ⟨_, rfl⟩
      have Hq := Lib.hid hq
      obtain ⟨z2, hz2⟩ : ∃ z2, z.alloc (.cells (rowArr 16 fun j => .int .u8 (t j)) 35) = z2 := ⟨_, rfl⟩
      have Hz := Lib.hid hz2
      have HTq := Lib.hid (show ∀ j, j < 16 → z2.cell? ⟨q, j, none⟩ = some (.int .u8 (t j)) from fun j hj => by
        rw [← hz2, ← hq]
        exact (rowIs_of (heap_new z _ _ rfl)).cell hj)
      have hB2 : g + 1 ≤ z2.heap.size := by
        rw [← hz2]
        have := Hsz.out
        simp
        omega
      have hk6 : k ≤ 1000000 := by omega
      have ho2 := HTz.out.own2 hz2
      obtain ⟨ms, hms⟩ : ∃ ms, ts.map (·.1) = ms := ⟨_, rfl⟩
      rw [hms] at ho2
      have HOz := Lib.hid ho2
      have Hms := Lib.hid hms
      have HEz := Lib.hid (show Ext z z2 by rw [← hz2]; exact (Ext.refl z).alloc _)
      clear hq hz2 ho2 hms
      go_upto_region 6 with (first | (refine wp_build_tk1 rfl (.tmp 20) rfl t rfl ?_; rw [Hz.out, Hq.out]) | (at_builtin; refine append_tk rfl (.tmp 16) (.tmp 21) rfl (g + 1) (.slice a' k c') k ms rfl HOz.out q 1 t rfl HTq.out hk6 hB2 ?_))
      intro v' z3 hown hgr
      obtain ⟨a3, c3, rfl⟩ := own_sl2 hown
      have HT3 := Lib.hid (show TkSt b s s'' ss w2 z3 (g + 1) a3 (k + 1) c3 (ts ++ [⟨t, HTz.out.byte⟩]) from HTz.out.next Hx.out HEz.out (by rw [tkL_snoc, Hms.out]; exact hown) hgr HOz.out (by omega) (by have := Hz2.out; omega))
      clear hown hgr HTq HOz
      go_wp2
      go_roundw
      case rel => exact ⟨k + 1, s'', _, a3, c3, by omega, by go_num, rfl, HT3.out⟩
      case measure => simp [intOf]; omega
    · obtain rfl : k = n := by omega
      have x1 : ¬ (k : Int) < (k : Int) := by omega
      go_upto_region 7 with (fail)
      go_wp2_with (go_at_call 25; refine (sortTok_all (B := g + 1) HT.out.toks.len HT.out.own (by omega)).mono ?_; rintro e z ⟨rfl, us, hu, hS2, ho, hB⟩)
      have HU := Lib.hid hu
      have HS2 := Lib.hid hS2
      have HO := Lib.hid (show z.ownsRow (g + 1) 35 16 (.slice a' k c') k (tkC (us.map (·.1))) from ho)
      have HB := Lib.hid hB
      obtain ⟨vs, hvs⟩ : ∃ vs, us.map (·.1) = vs := ⟨_, rfl⟩
      have Hvs := Lib.hid hvs
      have Hvl := Lib.hid (show vs.length = k by rw [← hvs]; simp [hu])
      rw [hvs] at HO
      clear hu hS2 ho hB hvs
      refine (compact_all (B := g + 1) Hvl.out HO.out (by omega)).mono ?_
      rintro e z2 ⟨m, hm, rfl, ho2, hB2⟩
      have HF := Lib.hid (HT.out.fin (Hlen.out) HS2.out Hvs.out hm ho2 HB.out hB2 HE2.out Hg.out htop Hz2.out)
      clear hm ho2 hB2 HO
      go_wp2
      go_ret
      exact HF.out

end Go.Proofs.YtdgbcieopkilcaaDoor
