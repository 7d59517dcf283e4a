/-
  Cells in the middle of a block; a header there. No conditions.
  Two headers that say the same: plain laws. No conditions.
-/
import Derived.Test.YtihlpfdhallfpaaDoorHdBy
import Derived.Test.YtihlpfdhallfpaaDoorHdSame
namespace Go.Proofs.YtihlpfdhallfpaaDoor
open Go.ChangeAt Go.ChangeShapes Go.RowKit Go.WideShapes

/-- A header and its tokens. -/
abbrev HT := Hd × List (Nat → Int)
def hdN : Hd := ⟨0, 0, fun _ => 0, 0, false, 0, fun _ => 0, none, 0, 0, fun _ => 0, fun _ => 0, 0, fun _ => 0⟩
def htN : HT := (hdN, [])
theorem hdN_ok : HdOk hdN := ⟨by decide, by decide, fun _ _ => ⟨Int.le_refl 0, by show (0 : Int) < 256; omega⟩, by decide, by decide, fun _ _ => ⟨Int.le_refl 0, by show (0 : Int) < 256; omega⟩, fun _ _ => ⟨Int.le_refl 0, by show (0 : Int) < 18446744073709551616; omega⟩, fun _ _ => ⟨Int.le_refl 0, by show (0 : Int) < 256; omega⟩, by decide, fun _ _ => ⟨Int.le_refl 0, by show (0 : Int) < 256; omega⟩⟩
/-- A header that may stand in memory, with its tokens. -/
structure HtAt (w : World) (x : HT) : Prop where
  ok : HdOk x.1
  toks : TsAt w x.1.ta x.1.tn x.1.tc x.2
theorem HtAt.ext {w w' : World} {x : HT} (h : HtAt w x) (he : Ext w w') : HtAt w' x := ⟨h.ok, h.toks.ext he⟩
theorem htN_at (w : World) : HtAt w htN := ⟨hdN_ok, ⟨rfl, Nat.le_refl _, by show (0 : Nat) ≤ _; omega, by show (0 : Nat) ≤ _; omega, fun t ht => by simp [htN] at ht, fun h => by have h0 : (0 : Nat) < 0 := h; omega, fun _ => rfl⟩⟩

def hdL (h : Hd) : List Value := (List.range 125).map (hdC h)
theorem hdL_length (h : Hd) : (hdL h).length = 125 := by simp [hdL]
theorem hdL_get (h : Hd) (j : Nat) (hj : j < 125) : (hdL h)[j]? = some (hdC h j) := by
  unfold hdL
  rw [List.getElem?_map, List.getElem?_range hj]
  rfl

/-- Cells stored one behind the other. -/
theorem rowIs_setCells {t : TypeId} {b n : Nat} : ∀ (vs : List Value) (o : Nat) (w : World) (f : Nat → Value), w.rowIs b t n f → (w.setCells b o vs).rowIs b t n (fun j => if o ≤ j ∧ j < o + vs.length then vs.getD (j - o) undef else f j)
  | [], o, _, f, h => h.congr fun j _ => by rw [if_neg (by simp)]
  | v :: r, o, _, f, h => (rowIs_setCells r (o + 1) _ _ (h.set o v)).congr fun j _ => by
    rw [List.length_cons]
    by_cases h1 : j = o
    · subst h1
      rw [if_neg (by omega), if_pos rfl, if_pos (by omega), Nat.sub_self]
      rfl
    · by_cases h2 : o + 1 ≤ j ∧ j < o + 1 + r.length
      · rw [if_pos h2, if_pos (by omega), show j - o = (j - (o + 1)) + 1 by omega]
        rfl
      · rw [if_neg h2, if_neg h1, if_neg (by omega)]
theorem grown_setCells {a : World} {g : Nat} : ∀ (vs : List Value) (o : Nat) (w : World), a.grownBy w (some g) → a.grownBy (w.setCells g o vs) (some g)
  | [], _, _, h => h
  | v :: r, o, _, h => grown_setCells r (o + 1) _ (grown_setCell h rfl v)


/-- A header loaded out of the middle of a block. -/
theorem range_hd {w : World} {b off : Nat} {h : Hd} (hc : ∀ j, j < 125 → w.cell? ⟨b, off + j, none⟩ = some (hdC h j)) : w.rangeAt b off (hdL h) := fun j v hv => by
  have hj : j < 125 := by
    have := (List.getElem?_eq_some_iff.1 hv).1
    rwa [hdL_length] at this
  rw [hdL_get h j hj] at hv
  rw [← Option.some.inj hv]
  exact hc j hj
theorem hdL_arr (h : Hd) : (hdL h).toArray = hdV h := rfl


theorem info_hd125 : (Tryd.prog.info? 34).map (·.size) = some 125 := by kernel_rfl
theorem lu_hmid {w : World} {o : Oper} {ev : Operand → Value} {x : Operand} {b off : Nat} {h : Hd} (ho : o.op = .load 34 x) (hx : ev x = .pointer (some ⟨b, off, none⟩)) (hr : w.rangeAt b off (hdL h)) :
    lexUpon Tryd.prog w (.ex (.agg (hdV h))) ((execOp ev o).run Tryd.prog w) := by
  simp only [execOp, ho, hx, Instr.loadAt, Instr.sureAddr, Sem.run_bind, Sem.run_pure, Result.andThen_ok, run_loadVar_mid w b off 34 (hdL h) _ hr Tryd.underlying34 rfl (by rw [hdL_length]; exact info_hd125)]
  exact ⟨Ext.refl _, rfl⟩

/-- Two headers say the same. -/
structure HdEq (h g : Hd) (ts us : List (Nat → Int)) : Prop where
  writer : h.writer = g.writer
  seq : h.seq = g.seq
  prev : ∀ j, j < 32 → h.prev j = g.prev j
  epoch : h.epoch = g.epoch
  ctl : h.ctl = g.ctl
  time : h.time = g.time
  item : ∀ j, j < 16 → h.item j = g.item j
  tn : h.tn = g.tn
  toks : ∀ i, i < h.tn → ∀ j, j < 16 → (ts.getD i fun _ => 0) j = (us.getD i fun _ => 0) j
  knows : ∀ j, j < 6 → h.knows j = g.knows j
  sum : ∀ j, j < 32 → h.sum j = g.sum j
  size : h.size = g.size
  code : ∀ j, j < 32 → h.code j = g.code j

theorem HdEq.symm {h g : Hd} {ts us : List (Nat → Int)} (e : HdEq h g ts us) : HdEq g h us ts :=
  ⟨e.writer.symm, e.seq.symm, fun j hj => (e.prev j hj).symm, e.epoch.symm, e.ctl.symm, e.time.symm, fun j hj => (e.item j hj).symm, e.tn.symm, fun i hi j hj => (e.toks i (by rw [e.tn]; exact hi) j hj).symm, fun j hj => (e.knows j hj).symm, fun j hj => (e.sum j hj).symm, e.size.symm, fun j hj => (e.code j hj).symm⟩
theorem HdEq.trans {h g k : Hd} {ts us vs : List (Nat → Int)} (e : HdEq h g ts us) (f : HdEq g k us vs) : HdEq h k ts vs :=
  ⟨e.writer.trans f.writer, e.seq.trans f.seq, fun j hj => (e.prev j hj).trans (f.prev j hj), e.epoch.trans f.epoch, e.ctl.trans f.ctl, e.time.trans f.time, fun j hj => (e.item j hj).trans (f.item j hj), e.tn.trans f.tn, fun i hi j hj => (e.toks i hi j hj).trans (f.toks i (by rw [← e.tn]; exact hi) j hj), fun j hj => (e.knows j hj).trans (f.knows j hj), fun j hj => (e.sum j hj).trans (f.sum j hj), e.size.trans f.size, fun j hj => (e.code j hj).trans (f.code j hj)⟩
theorem HdEq.refl (h : Hd) (ts : List (Nat → Int)) : HdEq h h ts ts := ⟨rfl, rfl, fun _ _ => rfl, rfl, rfl, rfl, fun _ _ => rfl, rfl, fun _ _ _ _ => rfl, fun _ _ => rfl, fun _ _ => rfl, rfl, fun _ _ => rfl⟩

theorem sameB_iff {h g : Hd} {ts us : List (Nat → Int)} (h1 : ts.length = h.tn) (h2 : us.length = g.tn) : sameB h g ts us = true ↔ HdEq h g ts us := by
  unfold sameB sm10 sm9 sm8 sm7 sm6 sm5 sm4 sm3 sm2 sm1 sm0 tsB arrB
  simp only [Bool.and_eq_true, decide_eq_true_eq, beq_iff_eq]
  rw [tsFrom_iff]
  unfold arrB
  simp only [decide_eq_true_eq]
  constructor
  · rintro ⟨⟨a1, a2⟩, ⟨⟨⟨⟨⟨⟨⟨⟨⟨⟨b1, b2⟩, b3⟩, b4⟩, b5⟩, b6⟩, b7⟩, b8⟩, b9⟩, b10⟩, b11⟩⟩
    exact ⟨b1, b2, b3, b4, b5, b6, b7, by omega, fun i hi j hj => a2 i (by omega) (Nat.zero_le _) j hj, b8, b9, b10, b11⟩
  · intro e
    have := e.tn
    exact ⟨⟨by omega, fun i hi _ j hj => e.toks i (by omega) j hj⟩, ⟨⟨⟨⟨⟨⟨⟨⟨⟨⟨e.writer, e.seq⟩, e.prev⟩, e.epoch⟩, e.ctl⟩, e.time⟩, e.item⟩, e.knows⟩, e.sum⟩, e.size⟩, e.code⟩⟩

theorem ln_congr {n : Nat} {f g : Nat → Int} (h : ∀ j, j < n → f j = g j) : ln n f = ln n g := List.map_congr_left fun j hj => h j (List.mem_range.1 hj)
theorem toksL_congr {ts us : List (Nat → Int)} : ∀ k, (∀ i, i < k → ∀ j, j < 16 → (ts.getD i fun _ => 0) j = (us.getD i fun _ => 0) j) → toksL ts k = toksL us k
  | 0, _ => rfl
  | k + 1, h => by rw [toksL, toksL, toksL_congr k (fun i hi => h i (by omega)), ln_congr (h k (by omega))]
theorem knL_congr {f g : Nat → Int} : ∀ k, (∀ i, i < k → f i = g i) → knL f k = knL g k
  | 0, _ => rfl
  | k + 1, h => by rw [knL, knL, knL_congr k (fun i hi => h i (by omega)), h k (by omega)]
theorem cmpTok_congr {f g f' g' : Nat → Int} (h : ∀ j, j < 16 → f j = f' j) (k : ∀ j, j < 16 → g j = g' j) : cmpTok f g = cmpTok f' g' := by
  unfold cmpTok
  rw [List.map_congr_left fun j hj => h j (List.mem_range.1 hj), List.map_congr_left fun j hj => k j (List.mem_range.1 hj)]
theorem risesB_congr : ∀ {ts us : List (Nat → Int)}, ts.length = us.length → (∀ i, i < ts.length → ∀ j, j < 16 → (ts.getD i fun _ => 0) j = (us.getD i fun _ => 0) j) → risesB ts = risesB us
  | [], us, hl, _ => by
    obtain rfl : us = [] := List.eq_nil_of_length_eq_zero hl.symm
    rfl
  | [a], us, hl, _ => by
    obtain ⟨x, rfl⟩ := List.length_eq_one_iff.1 hl.symm
    rfl
  | a :: b :: l, us, hl, h => by
    match us, hl with
    | x :: y :: m, hl =>
      have h0 : ∀ j, j < 16 → a j = x j := h 0 (by simp)
      have h1 : ∀ j, j < 16 → b j = y j := h 1 (by simp)
      have h2 := risesB_congr (ts := b :: l) (us := y :: m) (by simpa using hl) (fun i hi => h (i + 1) (by simpa using hi))
      rw [risesB, risesB, h2, cmpTok_congr h0 h1]

theorem hdB_congr {h g : Hd} {ts us : List (Nat → Int)} (h1 : ts.length = h.tn) (h2 : us.length = g.tn) (e : HdEq h g ts us) (hf : hdB h ts = true) : hdB g us = true := by
  have hbd := hdB_bd hf
  unfold hdB placedB numsB knB zeroB at hf ⊢
  simp only [Bool.and_eq_true, Bool.or_eq_true, Bool.not_eq_true', decide_eq_true_eq, List.all_eq_true, List.mem_range] at hf ⊢
  obtain ⟨⟨⟨⟨⟨a1, a2, a3⟩, a4⟩, a5⟩, a6⟩, a7⟩ := hf
  have t := e.tn
  rw [← e.writer, ← e.seq, ← e.epoch, ← e.time, ← e.size, ← e.ctl, ← e.tn, ← risesB_congr (ts := ts) (us := us) (by omega) (fun i hi => e.toks i (by omega))]
  refine ⟨⟨⟨⟨⟨?_, fun i hi => ?_, ?_⟩, a4⟩, a5⟩, a6⟩, ?_⟩
  · rw [← e.knows _ (by omega)]; exact a1
  · rw [← e.knows i hi]; exact a2 i hi
  · rcases a3 with q | q
    · exact .inl q
    · exact .inr fun j hj => by rw [← e.prev j hj]; exact q j hj
  · rcases a7 with q | q
    · exact .inl q
    · exact .inr ⟨q.1, fun j hj => by rw [← e.item j hj]; exact q.2 j hj⟩
theorem bytesL_congr {h g : Hd} {ts us : List (Nat → Int)} (h1 : ts.length = h.tn) (h2 : us.length = g.tn) (e : HdEq h g ts us) : bytesL h ts = bytesL g us := by
  have hb : hdB h ts = hdB g us := by
    rw [Bool.eq_iff_iff]
    exact ⟨hdB_congr h1 h2 e, hdB_congr h2 h1 e.symm⟩
  unfold bytesL coreL
  rw [hb, e.writer, e.seq, ln_congr e.prev, e.epoch, e.ctl, e.time, ln_congr e.item, toksL_congr h.tn e.toks, e.tn, knL_congr 6 e.knows, ln_congr e.sum, e.size, ln_congr e.code]

end Go.Proofs.YtihlpfdhallfpaaDoor
