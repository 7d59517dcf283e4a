/-
  The walk of slices.Clone at tokens. No conditions but the length.
  A header whose tokens lie elsewhere; tokens in a block that is kept. No conditions.
  Slices of headers: what lies there, what a call owns, appended to. No conditions.
  The walk of writer.copied: a header with tokens of its own. No conditions but the tokens' number.
-/
import Derived.Test.YtihlpfdhallfpaaDoorSorted
import Derived.Test.YtihlpfdhallfpaaDoorHdBy
import Derived.Test.YtihlpfdhallfpaaDoorHdEq
import Derived.Test.YtihlpfdhallfpaaDoorHdA
namespace Go.Proofs.YtihlpfdhallfpaaDoor
open Go.ChangeAt Go.ChangeShapes Go.RowKit Go.WideShapes

theorem tkC_one : ∀ (ts : List (Nat → Int)), ∀ v ∈ tkC ts, v.oneCell' = true := by
  intro ts
  induction ts with
  | nil => intro v hv; simp [tkC] at hv
  | cons t ts ih =>
    intro v hv
    rcases List.mem_append.1 (by simpa [tkC] using hv) with h | h
    · obtain ⟨j, _, rfl⟩ := List.mem_map.1 h
      rfl
    · exact ih v h
theorem tkC_cells {w : World} {b off n c : Nat} {ts : List (Nat → Int)} (h : TsAt w (some ⟨b, off, none⟩) n c ts) : ∀ j u, (tkC ts)[j]? = some u → w.cell? ((⟨b, off, none⟩ : Addr).add j) = some u := by
  intro j u hu
  have hl := h.len
  have hj : j < ts.length * 16 := by
    have := (List.getElem?_eq_some_iff.1 hu).1
    rwa [tkC_length] at this
  obtain ⟨b', off', ha, hc⟩ := h.at_ (by omega)
  simp only [Option.some.injEq, Addr.mk.injEq, and_true] at ha
  obtain ⟨rfl, rfl⟩ := ha
  have h1 := tkC_get ts (j / 16) (j % 16) (by omega) (by omega)
  rw [show j / 16 * 16 + j % 16 = j by omega, hu] at h1
  rw [Option.some.inj h1, addr_add, show off + j = off + j / 16 * 16 + j % 16 by omega]
  exact hc (j / 16) (by omega) (j % 16) (by omega)

set_option maxHeartbeats 1000000 in
set_option maxRecDepth 100000 in
theorem tsClone_any (a : Option Addr) (n c : Nat) (ts : List (Nat → Int)) (w : World) (h : TsAt w a n c ts) (hs : n ≤ 1000000) :
    Calls Tryd.prog 72 #[.slice a n c] w fun e w' => ∃ v, e = .returned v ∧ w'.ownsRow w.heap.size 30 16 v n (tkC ts) ∧ Ext w w' := by
  have hl := h.len
  have hcap := h.cap
  obtain ⟨i0, hi, hz0, hz1, hz2⟩ := info_parts info_tok
  have H := Lib.hid h
  clear h
  have q22 : ∀ (w : World) (a : Option Addr) (n c n' c' : Nat), (binOp .eql 31 (.slice a n c) (.slice none n' c')).run Tryd.prog w = .ok (.bool a.isNone) w := fun w a n c n' c' => Lib.run_eql_slice_nil w _ _ a n c n' c' Tryd.underlying31
  cases a with
  | none =>
    obtain rfl : c = 0 := H.out.nil_ rfl
    obtain rfl : n = 0 := by omega
    obtain rfl : ts = [] := List.eq_nil_of_length_eq_zero hl
    go_enter Tryd.func72, Tryd.ntmps72
    go_wp2
    go_ret
    exact ⟨_, rfl, World.ownsRow_nil _ _ _ _, Ext.refl _⟩
  | some ad =>
    have hcell : ∀ j u, (tkC ts)[j]? = some u → (w.alloc (.cells #[] 30)).cell? (ad.add j) = some u := by
      by_cases h0 : n = 0
      · subst h0
        obtain rfl : ts = [] := List.eq_nil_of_length_eq_zero hl
        intro j u hu
        simp [tkC] at hu
      · obtain ⟨b, off, ha, _⟩ := H.out.at_ (by omega)
        obtain rfl := Option.some.inj ha
        exact tkC_cells (H.out.ext ((Ext.refl w).alloc _))
    have Hcell := Lib.hid hcell
    clear hcell
    go_enter Tryd.func72, Tryd.ntmps72
    go_wp2_with (at_builtin; refine wpList_append_own _ rfl _ _ 31 rfl w.heap.size 30 i0 (.agg (rowArr 16 fun _ => .int .u8 0)) 16 16 Tryd.underlying31 hi hz0 hz1 hz2 (by kernel_rfl) (by decide) _ 0 [] rfl (World.ownsRow_made w #[] 0 (Nat.le_refl _) (by unfold maxLen; omega) rfl) ad n c (tkC ts) rfl ?c1 Hcell.out (tkC_one ts) ?c4 ?c5 ?c6 ?_)
    case c1 => rw [tkC_length, hl]
    case c4 => unfold maxLen; omega
    case c5 => omega
    case c6 => simp
    intro v' w1 hown hgrow _
    go_wp2
    go_ret
    refine ⟨v', rfl, ?_, ?_⟩
    · exact hown
    · exact ((Below.refl _ _).alloc (Nat.le_refl _) _).grown hgrow (by simp) (fun k hk => by simp [Value.ownBlock] at hk; omega)

/-- What is behind a slice that is kept. -/
theorem TsAt.blk {w w' : World} {a : Option Addr} {n c : Nat} {ts : List (Nat → Int)} (h : TsAt w a n c ts) (he : 0 < n → ∀ b off, a = some ⟨b, off, none⟩ → w'.heap[b]? = w.heap[b]?) : TsAt w' a n c ts := by
  refine ⟨h.len, h.cap, h.lim, h.small, h.byte, fun hn => ?_, h.nil_⟩
  obtain ⟨b, off, ha, hc⟩ := h.at_ hn
  refine ⟨b, off, ha, fun i hi j hj => ?_⟩
  have h1 := hc i hi j hj
  unfold World.cell? at h1 ⊢
  simp only [he hn b off ha]
  exact h1

/-- The header with its tokens elsewhere. -/
def reT (x : HT) (a : Option Addr) (c : Nat) : HT := ({ x.1 with ta := a, tc := c }, x.2)
/-- What is copied says the same. -/
theorem reT_at {w : World} {B : Nat} {x : HT} {a : Option Addr} {c : Nat} (ho : HdOk x.1) (hb : ∀ t ∈ x.2, ∀ j, j < 16 → 0 ≤ t j ∧ t j < 256) (hs : x.1.tn ≤ 1000000) (h : w.ownsRow B 30 16 (.slice a x.1.tn c) x.1.tn (tkC x.2)) : HtAt w (reT x a c) :=
  ⟨⟨ho.writer, ho.seq, ho.prev, ho.epoch, ho.time, ho.item, ho.knows, ho.sum, ho.size, ho.code⟩, own_ts1 h hb (show x.1.tn ≤ 140737488355328 by omega)⟩

theorem HtAt.lt {w : World} {x : HT} (h : HtAt w x) (h0 : 0 < x.1.tn) {b off : Nat} (hta : x.1.ta = some ⟨b, off, none⟩) : b < w.heap.size := by
  obtain ⟨b', off', hta', hc⟩ := h.toks.at_ h0
  rw [hta] at hta'
  simp only [Option.some.injEq, Addr.mk.injEq, and_true] at hta'
  obtain ⟨rfl, rfl⟩ := hta'
  exact World.block_lt_of_cell? _ _ (hc 0 h0 0 (by omega))

theorem reT_eq (x : HT) (a : Option Addr) (c : Nat) : HdEq (reT x a c).1 x.1 (reT x a c).2 x.2 := ⟨rfl, rfl, fun _ _ => rfl, rfl, rfl, rfl, fun _ _ => rfl, rfl, fun _ _ _ _ => rfl, fun _ _ => rfl, fun _ _ => rfl, rfl, fun _ _ => rfl⟩

def hsC : List HT → List Value
  | [] => []
  | x :: l => hdL x.1 ++ hsC l
theorem hsC_length : ∀ l : List HT, (hsC l).length = l.length * 125
  | [] => rfl
  | x :: l => by rw [hsC, List.length_append, hdL_length, hsC_length l, List.length_cons]; omega
theorem hsC_append : ∀ (l m : List HT), hsC (l ++ m) = hsC l ++ hsC m
  | [], m => rfl
  | x :: l, m => by rw [List.cons_append, hsC, hsC, hsC_append l m, List.append_assoc]
theorem hsC_get : ∀ (l : List HT) (i j : Nat), i < l.length → j < 125 → (hsC l)[i * 125 + j]? = some (hdC (l.getD i htN).1 j)
  | [], i, j, h, _ => by simp at h
  | x :: l, 0, j, _, hj => by
    rw [hsC, List.getElem?_append_left (by rw [hdL_length]; omega), Nat.zero_mul, Nat.zero_add, hdL_get x.1 j hj]
    rfl
  | x :: l, i + 1, j, h, hj => by
    rw [hsC, List.getElem?_append_right (by rw [hdL_length]; omega), hdL_length, show (i + 1) * 125 + j - 125 = i * 125 + j by omega, hsC_get l i j (by simpa using h) hj]
    simp
theorem hsC_one (l : List HT) : ∀ v ∈ hsC l, v.oneCell' = true := by
  induction l with
  | nil => simp [hsC]
  | cons x l ih =>
    intro v hv
    rcases List.mem_append.1 (by simpa [hsC] using hv) with h | h
    · obtain ⟨j, _, rfl⟩ := List.mem_map.1 h
      exact hdC_one _ _
    · exact ih v h

/-- A slice of headers. -/
structure HsAt (w : World) (a : Option Addr) (n c : Nat) (l : List HT) : Prop where
  len : l.length = n
  cap : n ≤ c
  lim : c ≤ 9223372036854775807
  small : n ≤ 140737488355328
  each : ∀ x ∈ l, HtAt w x
  at_ : 0 < n → ∃ b off, a = some ⟨b, off, none⟩ ∧ ∀ i, i < n → ∀ j, j < 125 → w.cell? ⟨b, off + i * 125 + j, none⟩ = some (hdC (l.getD i htN).1 j)
  nil_ : a = none → c = 0
theorem HsAt.ext {w w' : World} {a : Option Addr} {n c : Nat} {l : List HT} (h : HsAt w a n c l) (he : Ext w w') : HsAt w' a n c l := by
  refine ⟨h.len, h.cap, h.lim, h.small, fun x hx => (h.each x hx).ext he, fun hn => ?_, h.nil_⟩
  obtain ⟨b, off, ha, hc⟩ := h.at_ hn
  refine ⟨b, off, ha, fun i hi j hj => ?_⟩
  have h1 := hc i hi j hj
  rw [Ext.cell he (World.block_lt_of_cell? w _ h1)]
  exact h1
theorem HsAt.get {w : World} {a : Option Addr} {n c : Nat} {l : List HT} (h : HsAt w a n c l) (i : Nat) (hi : i < n) : HtAt w (l.getD i htN) := by
  have hl := h.len
  rw [List.getD_eq_getElem?_getD, List.getElem?_eq_getElem (by omega)]
  exact h.each _ (List.getElem_mem _)
theorem own_hs {w : World} {B : Nat} {a : Option Addr} {n c : Nat} {l : List HT} (h : w.ownsRow B 34 125 (.slice a n c) n (hsC l)) (he : ∀ x ∈ l, HtAt w x) (hs : n ≤ 140737488355328) : HsAt w a n c l := by
  have hl : l.length = n := by
    have := h.1
    rw [hsC_length] at this
    omega
  rcases h.2 with ⟨h1, h2⟩ | ⟨g, cap, cur, h1, _, _, hc1, hc2, _, _⟩
  · simp only [Value.slice.injEq] at h1
    obtain ⟨rfl, rfl, rfl⟩ := h1
    exact ⟨hl, Nat.le_refl _, by omega, by omega, he, fun h0 => by omega, fun _ => rfl⟩
  · simp only [Value.slice.injEq] at h1
    obtain ⟨rfl, _, rfl⟩ := h1
    refine ⟨hl, hc1, by unfold maxLen at hc2; omega, hs, he, fun h0 => ⟨g, 0, rfl, fun i hi j hj => ?_⟩, fun h0 => by cases h0⟩
    have h1 := h.cells (g := g) rfl (i * 125 + j) _ (hsC_get l i j (by omega) hj)
    rw [addr_add] at h1
    rw [← h1]
    simp
theorem own_hsl {w : World} {B n : Nat} {v : Value} {l : List HT} (h : w.ownsRow B 34 125 v n (hsC l)) : ∃ a c, v = .slice a n c := by
  rcases h.2 with ⟨rfl, rfl⟩ | ⟨g, cap, cur, rfl, _⟩
  · exact ⟨none, 0, rfl⟩
  · exact ⟨_, cap, rfl⟩

set_option maxRecDepth 100000 in
theorem info_hd : (Tryd.prog.info? 34).map (fun i => (i.zero, i.size, i.bytes)) = some (some (.agg (hdV hdN)), 125, 232) := by kernel_rfl

theorem append_hd {w : World} {ops : Array Oper} {rest : List Oper} {o : Oper} {a : Act} {Q : Exit → Act → World → Prop} (hgd : o.guard = none) (s x : Operand) (ho : o.op = .call { callee := .builtin .append, args := #[s, x], argTypes := #[90, 90] })
    (B : Nat) (v : Value) (n : Nat) (l : List HT) (hs : a.eval s = v) (hown : w.ownsRow B 34 125 v n (hsC l))
    (q c : Nat) (y : HT) (hx : a.eval x = .slice (some ⟨q, 0, none⟩) 1 c) (hq : ∀ j, j < 125 → w.cell? ⟨q, j, none⟩ = some (hdC y.1 j)) (hsz : n ≤ 100000) (hB : B ≤ w.heap.size)
    (h : ∀ v' w', w'.ownsRow B 34 125 v' (n + 1) (hsC (l ++ [y])) → w.grownBy w' v.ownBlock → (v'.ownBlock = v.ownBlock ∨ v'.ownBlock = some w.heap.size) → wpList Tryd.prog ops Q rest (a.put o.dst v') w') : wpList Tryd.prog ops Q (o :: rest) a w := by
  obtain ⟨i0, hi, hz0, hz1, hz2⟩ := info_parts info_hd
  refine wpList_plain hgd fun K hK => ?_
  have hnews : ∀ j u, (hdL y.1)[j]? = some u → w.cell? ((⟨q, 0, none⟩ : Addr).add j) = some u := fun j u hu => by
    have hj : j < 125 := by
      have := (List.getElem?_eq_some_iff.1 hu).1
      rwa [hdL_length] at this
    rw [hdL_get y.1 j hj] at hu
    obtain rfl := Option.some.inj hu
    rw [addr_add, Nat.zero_add]
    exact hq j hj
  have hone : ∀ u ∈ hdL y.1, u.oneCell' = true := fun u hu => by
    obtain ⟨j, _, rfl⟩ := List.mem_map.1 hu
    exact hdC_one _ _
  have h63 : n + 1 ≤ maxLen := by unfold maxLen; omega
  obtain ⟨v', w', hr, h2, h3, _⟩ := run_append_own (P := Tryd.prog) w B 90 o.type 34 i0 (.agg (hdV hdN)) 125 232 Tryd.underlying90 hi hz0 hz1 hz2 (by kernel_rfl) (by decide) v n (hsC l) hown ⟨q, 0, none⟩ 1 c (hdL y.1) (by rw [hdL_length]) hnews hone h63 (by omega) hB
  have h4 := append_where (P := Tryd.prog) Tryd.underlying90 hi hz0 hz1 hz2 hown (by rw [hdL_length]) hnews hone h63 (by omega) hr
  unfold Oper.wp execOp
  simp only [ho, resolve, invoke, builtin, Sem.run_bind, Sem.run_pure, Result.andThen_ok, List.map_toArray, List.map_cons, List.map_nil, hs, hx, hr]
  exact hK _ _ (h v' w' (by rw [hsC_append, hsC, hsC, List.append_nil]; exact h2) h3 h4)

/-- The same, run. -/
theorem exec_append_hd {w : World} {o : Oper} {ev : Operand → Value} (s x : Operand) (ho : o.op = .call { callee := .builtin .append, args := #[s, x], argTypes := #[90, 90] })
    (B : Nat) (v : Value) (n : Nat) (l : List HT) (hs : ev s = v) (hown : w.ownsRow B 34 125 v n (hsC l))
    (q c : Nat) (y : HT) (hx : ev x = .slice (some ⟨q, 0, none⟩) 1 c) (hq : ∀ j, j < 125 → w.cell? ⟨q, j, none⟩ = some (hdC y.1 j)) (hsz : n ≤ 100000) (hB : B ≤ w.heap.size) :
    ∃ v' w', (execOp ev o).run Tryd.prog w = .ok (.value v') w' ∧ w'.ownsRow B 34 125 v' (n + 1) (hsC (l ++ [y])) ∧ w.grownBy w' v.ownBlock ∧ (v'.ownBlock = v.ownBlock ∨ v'.ownBlock = some w.heap.size) := by
  obtain ⟨i0, hi, hz0, hz1, hz2⟩ := info_parts info_hd
  have hnews : ∀ j u, (hdL y.1)[j]? = some u → w.cell? ((⟨q, 0, none⟩ : Addr).add j) = some u := fun j u hu => by
    have hj : j < 125 := by
      have := (List.getElem?_eq_some_iff.1 hu).1
      rwa [hdL_length] at this
    rw [hdL_get y.1 j hj] at hu
    obtain rfl := Option.some.inj hu
    rw [addr_add, Nat.zero_add]
    exact hq j hj
  have hone : ∀ u ∈ hdL y.1, u.oneCell' = true := fun u hu => by
    obtain ⟨j, _, rfl⟩ := List.mem_map.1 hu
    exact hdC_one _ _
  have h63 : n + 1 ≤ maxLen := by unfold maxLen; omega
  obtain ⟨v', w', hr, h2, h3, _⟩ := run_append_own (P := Tryd.prog) w B 90 o.type 34 i0 (.agg (hdV hdN)) 125 232 Tryd.underlying90 hi hz0 hz1 hz2 (by kernel_rfl) (by decide) v n (hsC l) hown ⟨q, 0, none⟩ 1 c (hdL y.1) (by rw [hdL_length]) hnews hone h63 (by omega) hB
  have h4 := append_where (P := Tryd.prog) Tryd.underlying90 hi hz0 hz1 hz2 hown (by rw [hdL_length]) hnews hone h63 (by omega) hr
  refine ⟨v', w', ?_, by rw [hsC_append, hsC, hsC, List.append_nil]; exact h2, h3, h4⟩
  simp only [execOp, ho, resolve, invoke, builtin, Sem.run_bind, Sem.run_pure, Result.andThen_ok, List.map_toArray, List.map_cons, List.map_nil, hs, hx, hr]

theorem own_slT {w : World} {B size n : Nat} {e : TypeId} {v : Value} {xs : List Value} (h : w.ownsRow B e size v n xs) : ∃ a c, v = .slice a n c := by
  rcases h.2 with ⟨rfl, rfl⟩ | ⟨g, cap, cur, rfl, _⟩
  · exact ⟨none, 0, rfl⟩
  · exact ⟨_, cap, rfl⟩
theorem hdZ0 (w : World) : (zeroValue 34).run Tryd.prog w = .ok (.agg (hdV hdN)) w := by kernel_rfl
theorem hd2_box (w : World) (A B : Array Value) (T U : TypeId) : ∃ w2, (w.alloc (.cells A T)).alloc (.cells B U) = w2 ∧ Ext w w2 ∧ w2.heap[w.heap.size]? = some (.cells A T (0, 0)) ∧ w2.heap[w.heap.size + 1]? = some (.cells B U (0, 0)) ∧ w2.heap.size = w.heap.size + 2 := by
  refine ⟨_, rfl, ((Ext.refl w).alloc _).alloc _, ?_, ?_, by simp⟩
  · exact Ext.keep ((Ext.refl (w.alloc (.cells A T))).alloc _) (heap_new w _ _ rfl)
  · exact heap_new _ _ _ (by simp)

set_option maxHeartbeats 2000000 in
set_option maxRecDepth 100000 in
theorem copied_any (x : HT) (w : World) (hx : HtAt w x) (hs : x.1.tn ≤ 1000000) :
    Calls Tryd.prog 49 #[.agg (hdV x.1)] w fun e w' => ∃ a c, e = .returned (.agg (hdV (reT x a c).1)) ∧ w'.ownsRow w.heap.size 30 16 (.slice a x.1.tn c) x.1.tn (tkC x.2) ∧ Ext w w' := by
  obtain ⟨w2, hw2, hE2, hB2, hZ2, hsz2⟩ := hd2_box w (hdV x.1) (hdV hdN) 34 34
  have HCl := Lib.hid (tsClone_any x.1.ta x.1.tn x.1.tc x.2 w2 (hx.toks.ext hE2) hs)
  have c53 := hd_toks hB2
  have Hw2 := Lib.hid hw2
  have HE2 := Lib.hid hE2
  have HB2 := Lib.hid hB2
  have HZ2 := Lib.hid hZ2
  have Hs2 := Lib.hid hsz2
  obtain ⟨p, hp⟩ : ∃ p, w.heap.size = p := ⟨_, rfl⟩
  rw [hp] at HB2 HZ2 c53
  have Hp := Lib.hid hp
  clear hw2 hE2 hB2 hZ2 hsz2 hp hx
  go_enter Tryd.func49, Tryd.ntmps49
  go_upto_region 1 with (fail)
  refine wp_world (w' := w2) Hw2.out ?_
  rw [Hp.out]
  clear Hw2
  go_wp2_with fail
  refine HCl.out.mono ?_
  rintro e w3 ⟨v, rfl, hown, hE⟩
  obtain ⟨a, c, rfl⟩ := own_slT hown
  have hB3 := hE.keep HB2.out
  have hZ3 := hE.keep HZ2.out
  have hr : w3.rowIs p 34 125 (hdC x.1) := rowIs_of hB3
  have hce := hr.cell (i := 53) (by omega)
  have hfz := hr.frozen 53
  have hps : p < w.heap.size + 2 := by have := Hp.out; omega
  have hr4 : (w3.setCell ⟨p, 53, none⟩ (.slice a x.1.tn c)).rowIs p 34 125 (hdC (reT x a c).1) := (hr.set 53 _).congr (hdC_setT x.1 a x.1.tn c)
  have hz4 : (w3.setCell ⟨p, 53, none⟩ (.slice a x.1.tn c)).rowIs (p + 1) 34 125 (hdC hdN) := (rowIs_of hZ3).setOther (show p + 1 ≠ p by omega) _
  have hl2 : w2.heap.size = p + 2 := by rw [Hs2.out, Hp.out]
  have hG4 : w3.grownBy (w3.setCell ⟨p, 53, none⟩ (.slice a x.1.tn c)) (some p) := grown_setCell (World.grownBy.refl w3 _) rfl _
  have hown4 : (w3.setCell ⟨p, 53, none⟩ (.slice a x.1.tn c)).ownsRow w2.heap.size 30 16 (.slice a x.1.tn c) x.1.tn (tkC x.2) := hown.kept hG4 (Or.inr fun e => by have := (hown.lt p e).1; omega)
  have hE4 : Ext w (w3.setCell ⟨p, 53, none⟩ (.slice a x.1.tn c)) := (HE2.out.trans hE).grown hG4 (Below.size (HE2.out.trans hE)) (fun k e => by have := Option.some.inj e; have := Hp.out; omega)
  obtain ⟨w4, hw4⟩ : ∃ w4, w3.setCell ⟨p, 53, none⟩ (.slice a x.1.tn c) = w4 := ⟨_, rfl⟩
  rw [hw4] at hr4 hz4 hown4 hE4
  have Hw4 := Lib.hid hw4
  have HR4 := Lib.hid (rowIs_cells hr4)
  have HZ4 := Lib.hid (rowIs_cells hz4)
  have HO4 := Lib.hid hown4
  have HE4 := Lib.hid hE4
  clear hown hE hB3 hZ3 hr hr4 hz4 hG4 hown4 hE4 hw4 c53 hps
  go_upto_region 2 with (fail)
  refine wp_world (w' := w4) Hw4.out ?_
  go_wp2_with (first
    | (refine wpList_load_rowW rfl 34 _ rfl p rfl _ _ _ _ HR4.out Tryd.underlying34 rfl (by kernel_rfl) ?_)
    | (refine wpList_store_row rfl 34 _ _ rfl _ _ rfl rfl _ _ HZ4.out (by kernel_rfl) (by simp only [rowArr_size]) (rowArr_one fun i _ => hdC_one _ i) ?_))
  have hG5 : w4.grownBy (w4.setRow (p + 1) (rowArr 125 (hdC (reT x a c).1))) (some (p + 1)) := ⟨rfl, rfl, rfl, by simp, fun i _ hne => setRow_other w4 (p + 1) i _ (fun e => hne (by rw [e]))⟩
  have hpp := Hp.out
  exact bodyPost_ret (results_cell_row rfl _ _ (p + 1) _ _ _ _ rfl (setRow_heap w4 (p + 1) _ _ _ _ HZ4.out) Tryd.underlying34 rfl (by kernel_rfl)) rfl
    ⟨a, c, rfl, own_mono (HO4.out.kept hG5 (Or.inr fun e => by have := (HO4.out.lt (p + 1) e).1; omega)) (by omega), below_setRow HE4.out (by omega) _⟩

end Go.Proofs.YtihlpfdhallfpaaDoor
