/-
  The walk of Box.Blind in ideal mode. Asked: the table of 64 words lies as the text lays it.
-/
import Derived.Test.YtdgbcieopkilcaaDoorBoxDr
import Derived.Test.YtdgbcieopkilcaaDoorBlr
namespace Go.Proofs.YtdgbcieopkilcaaDoor
open Go.ChangeShapes Go.WideShapes Go.ChangeAt Go.RowKit

/-- A token that a box has drawn. -/
structure TkE where
  key : Nat → Int
  text : ByteArray
  tok : Nat → Int
  born : Nat
def tkNm (e : TkE) : NmE := ⟨e.key, e.text, .agg (rowArr 16 fun j => .int .u8 (e.tok j)), e.born⟩
def tkFind (f : Nat → Int) (s : ByteArray) : List TkE → Option (Nat → Int)
  | [] => none
  | e :: l => if nmHit f s (tkNm e) = true then some e.tok else tkFind f s l
def tkV : Option (Nat → Int) → Nat → Int
  | some c => c
  | none => fun _ => 0
theorem nmFind_tk (f : Nat → Int) (s : ByteArray) : ∀ (l : List TkE) (i : Nat), (nmFind f s (l.map tkNm) i).isSome = (tkFind f s l).isSome ∧ nmRes (nmFind f s (l.map tkNm) i) (.agg (rowArr 16 fun _ => .int .u8 0)) = .agg (rowArr 16 fun j => .int .u8 (tkV (tkFind f s l) j))
  | [], i => ⟨rfl, rfl⟩
  | e :: l, i => by
    show (nmFind f s (tkNm e :: l.map tkNm) i).isSome = _ ∧ nmRes (nmFind f s (tkNm e :: l.map tkNm) i) (.agg (rowArr 16 fun _ => .int .u8 0)) = _
    unfold nmFind tkFind
    by_cases h : nmHit f s (tkNm e) = true
    · rw [if_pos h, if_pos h]
      exact ⟨rfl, rfl⟩
    · rw [if_neg h, if_neg h]
      exact nmFind_tk f s l (i + 1)
theorem tkFind_more (f : Nat → Int) (s : ByteArray) (e : TkE) (u : Nat → Int) : ∀ l : List TkE, tkFind f s l = some u → tkFind f s (l ++ [e]) = some u
  | [], h => by cases h
  | d :: l, h => by
    show tkFind f s (d :: (l ++ [e])) = some u
    unfold tkFind at h ⊢
    split
    · rw [if_pos (by assumption)] at h
      exact h
    · rw [if_neg (by assumption)] at h
      exact tkFind_more f s e u l h
theorem nmHit_self (f : Nat → Int) (s : ByteArray) (t : Nat → Int) (b : Nat) : nmHit f s (tkNm ⟨f, s, t, b⟩) = true := by
  unfold nmHit tkNm arrB
  simp
theorem tkFind_new (f : Nat → Int) (s : ByteArray) (t : Nat → Int) (b : Nat) : ∀ l : List TkE, tkFind f s l = none → tkFind f s (l ++ [⟨f, s, t, b⟩]) = some t
  | [], _ => by
    show tkFind f s [⟨f, s, t, b⟩] = some t
    unfold tkFind
    rw [if_pos (nmHit_self f s t b)]
  | d :: l, h => by
    show tkFind f s (d :: (l ++ [⟨f, s, t, b⟩])) = some t
    unfold tkFind at h ⊢
    split
    · rw [if_pos (by assumption)] at h
      cases h
    · rw [if_neg (by assumption)] at h
      exact tkFind_new f s t b l h
theorem tkFind_mem (f : Nat → Int) (s : ByteArray) (u : Nat → Int) : ∀ l : List TkE, tkFind f s l = some u → ∃ e ∈ l, e.tok = u
  | [], h => by cases h
  | d :: l, h => by
    unfold tkFind at h
    split at h
    · exact ⟨d, by simp, Option.some.inj h⟩
    · obtain ⟨e, h1, h2⟩ := tkFind_mem f s u l h
      exact ⟨e, by simp [h1], h2⟩
/-- A box's tokens. -/
structure TmAt (w : World) (m : Nat) (l : List TkE) : Prop where
  at_ : ∃ es clock, w.heap[m]? = some (.map es clock) ∧ es.toList = (l.map tkNm).map nmEntry
  byte : ∀ e ∈ l, ∀ j, j < 16 → 0 ≤ e.tok j ∧ e.tok j < 256
theorem TmAt.same {w w' : World} {m : Nat} {l : List TkE} (h : TmAt w m l) (he : w'.heap[m]? = w.heap[m]?) : TmAt w' m l := by
  obtain ⟨⟨es, clock, h1, h2⟩, hb⟩ := h
  exact ⟨⟨es, clock, he.trans h1, h2⟩, hb⟩
theorem TmAt.lt {w : World} {m : Nat} {l : List TkE} (h : TmAt w m l) : m < w.heap.size := by
  obtain ⟨es, ck, h1, _⟩ := h.at_
  exact (Array.getElem?_eq_some_iff.1 h1).1
theorem TmAt.ext {w w' : World} {m : Nat} {l : List TkE} (h : TmAt w m l) (he : Ext w w') : TmAt w' m l := h.same (he.block h.lt)
theorem lookup_tk {w : World} {m : Nat} {l : List TkE} (h : TmAt w m l) (f : Nat → Int) (s : ByteArray) :
    (Instr.lookup 59 (.map (some m)) (.agg (nmV f s)) true).run Tryd.prog w = .ok (.tuple #[.agg (rowArr 16 fun j => .int .u8 (tkV (tkFind f s l) j)), .bool (tkFind f s l).isSome]) w := by
  obtain ⟨es, clock, h1, h2⟩ := h.at_
  have h3 := lookup_nm Tryd.underlying59 (zero_t16 w) h1 h2 f s
  obtain ⟨h4, h5⟩ := nmFind_tk f s l 0
  rw [h3, h4, h5]
/-- A token put into a box. -/
def PutTk (w : World) (m : Nat) (l : List TkE) (f : Nat → Int) (s : ByteArray) (c : Nat → Int) (w' : World) : Prop := (∃ o, w' = ChangeMaps.setBlock w m o) ∧ ∃ b, TmAt w' m (l ++ [⟨f, s, c, b⟩])
theorem wp_update_tk {ops : Array Oper} {Q : Exit → Act → World → Prop} {rest : List Oper} {o : Oper} {a : Act} {w : World} (hw : Region.wanted o (yielded ops a.tmps) = true) (x y z : Operand) (ho : o.op = .mapUpdate 59 x y z)
    (m : Nat) (l : List TkE) (hm : TmAt w m l) (f : Nat → Int) (s : ByteArray) (hn : tkFind f s l = none) (c : Nat → Int) (hcb : ∀ j, j < 16 → 0 ≤ c j ∧ c j < 256) (hx : a.eval x = .map (some m)) (hy : a.eval y = .agg (nmV f s)) (hz : a.eval z = .agg (rowArr 16 fun j => .int .u8 (c j)))
    (h : ∀ w', PutTk w m l f s c w' → wpList Tryd.prog ops Q rest (a.put o.dst undef) w') : wpList Tryd.prog ops Q (o :: rest) a w := by
  obtain ⟨⟨es, clock, h1, h2⟩, hb⟩ := hm
  have hnn : nmFind f s (l.map tkNm) 0 = none := by
    have := (nmFind_tk f s l 0).1
    rw [hn] at this
    cases hq : nmFind f s (l.map tkNm) 0 with
    | none => rfl
    | some p => rw [hq] at this; cases this
  have hr := update_nm Tryd.underlying59 h1 h2 f s hnn (.agg (rowArr 16 fun j => .int .u8 (c j)))
  refine wpList_want hw fun K hK => ?_
  unfold Oper.wp execOp
  simp only [ho, hx, hy, hz, Sem.run_bind, hr, Result.andThen_ok, Sem.run_pure]
  refine hK _ _ (h _ ⟨⟨_, rfl⟩, ⟨clock, ⟨⟨es.push ⟨.agg (nmV f s), .agg (rowArr 16 fun j => .int .u8 (c j)), clock⟩, clock + 1, ?_, ?_⟩, ?_⟩⟩⟩)
  · unfold ChangeMaps.setBlock
    have hlt := (Array.getElem?_eq_some_iff.1 h1).1
    simp [hlt]
  · rw [Array.toList_push, h2, List.map_append, List.map_append]
    rfl
  · intro e he
    rcases List.mem_append.1 he with h3 | h3
    · exact hb e h3
    · obtain rfl := List.mem_singleton.1 h3
      exact hcb

/-- What a box answers a name. -/
def BlindSays (gb : Nat) (h : Nat → Int) (m1 m2 m3 : Nat) (l : List TkE) (f : Nat → Int) (s : ByteArray) (w : World) (e : Ending) (w' : World) : Prop :=
  ∃ (l' : List TkE) (t : Nat → Int) (dr' : Int), e = .returned (.agg (rowArr 16 fun j => .int .u8 (t j))) ∧ (0 ≤ dr' ∧ dr' < 18446744073709551616) ∧ w'.heap[gb]? = some (.cells (rowArr 37 (boxJ h dr' m1 m2 m3)) 61 (0, 0)) ∧ TmAt w' m3 l' ∧ tkFind f s l' = some t ∧ (∀ g s' u, tkFind g s' l = some u → tkFind g s' l' = some u) ∧ Kp2 gb m3 w w'

set_option maxHeartbeats 8000000 in
set_option maxRecDepth 100000 in
theorem boxBlindI_any (gb : Nat) (h : Nat → Int) (dr : Int) (m1 m2 m3 : Nat) (l : List TkE) (f : Nat → Int) (a : Option Addr) (n c : Nat) (xs : List Int) (w : World) (hb : w.heap[gb]? = some (.cells (rowArr 37 (boxJ h dr m1 m2 m3)) 61 (0, 0))) (hh : ∀ j, j < 32 → 0 ≤ h j ∧ h j < 256) (hd : 0 ≤ dr ∧ dr < 18446744073709551616)
    (hm : TmAt w m3 l) (hx : BsAt w a n c xs) (hgm : gb ≠ m3) (hk : KsAt 2 w) :
    Calls Tryd.prog 29 #[.pointer (some ⟨gb, 0, none⟩), .agg (rowArr 32 fun j => .int .u8 (f j)), .slice a n c] w (BlindSays gb h m1 m2 m3 l f (strOf xs) w) := by
  have hgb : gb < w.heap.size := (Array.getElem?_eq_some_iff.1 hb).1
  have hm2 : m3 < w.heap.size := hm.lt
  obtain ⟨w2, hw2, hE2, hK2, hZ2⟩ := tok_box' w (rowArr 32 fun j => .int .u8 (f j)) (Array.replicate 16 (.int .u8 0)) 23 35
  obtain ⟨g, hg⟩ : ∃ g, w.heap.size = g := ⟨_, rfl⟩
  rw [hg] at hK2 hZ2 hgb hm2
  have hs2 : g + 1 < w2.heap.size := (Array.getElem?_eq_some_iff.1 hZ2).1
  have hz := zero_t16
  have hznm := zero_nm
  have Hg := Lib.hid hg
  have Hw2 := Lib.hid hw2
  have HE2 := Lib.hid hE2
  have HK2 := Lib.hid hK2
  have HZ2 := Lib.hid hZ2
  have HBs := Lib.hid (hx.ext hE2)
  have HKr := Lib.hid (fun x (h1 : Ext w x) => hk.ext' h1)
  have HBx := Lib.hid (fun x (h1 : Ext w x) => h1.keep hb)
  have HCd := Lib.hid (fun x (h1 : Ext w x) => hm.ext h1)
  have c0 := (box_cell (hE2.keep hb)).1
  have C35 := Lib.hid (fun x (h1 : Ext w2 x) => (box_cell ((hE2.trans h1).keep hb)).2.2.2)
  have Hh := Lib.hid hh
  have Hd := Lib.hid hd
  obtain ⟨s, hs⟩ : ∃ s, strOf xs = s := ⟨_, rfl⟩
  have Hs := Lib.hid hs
  rw [hs]
  have hLk := fun x (h1 : Ext w2 x) => lookup_tk (hm.ext (hE2.trans h1)) f s
  obtain ⟨O, hO⟩ : ∃ O, tkFind f s l = O := ⟨_, rfl⟩
  have HO := Lib.hid hO
  rw [hO] at hLk
  obtain ⟨V, hV⟩ : ∃ V, tkV O = V := ⟨_, rfl⟩
  obtain ⟨K, hK⟩ : ∃ K, O.isSome = K := ⟨_, rfl⟩
  have HV := Lib.hid hV
  have HKs := Lib.hid hK
  rw [hV, hK] at hLk
  obtain ⟨NV, hNV⟩ : ∃ x, nmV f s = x := ⟨_, rfl⟩
  have HNV := Lib.hid hNV
  rw [hNV] at hLk
  have HLk := Lib.hid hLk
  have HNs := Lib.hid (show NV.size = 33 by rw [← hNV]; exact nmV_size f s)
  have HNo := Lib.hid (show NV.all (·.oneCell') = true by rw [← hNV]; exact nmV_one f s)
  obtain ⟨ZN, hZN⟩ : ∃ x, nmV (fun _ => 0) ⟨#[]⟩ = x := ⟨_, rfl⟩
  have HZs := Lib.hid (show ZN.size = 33 by rw [← hZN]; exact nmV_size _ _)
  rw [hZN] at hznm
  obtain ⟨POST, hP⟩ : ∃ P : Ending → World → Prop, BlindSays gb h m1 m2 m3 l f s w = P := ⟨_, rfl⟩
  have HP := Lib.hid hP
  rw [hP]
  clear hw2 hE2 hK2 hZ2 hg hb hm hx hLk hNV hZN hs hh hd hk hO hV hK hP
  have karr := fun (w : World) (a : Option Addr) (c : Nat) => arr_at w a 16 c (Nat.le_refl _)
  go_enter Tryd.func29, Tryd.ntmps29
  go_upto_region 1 with (fail)
  refine wp_world (w' := w2) Hw2.out ?_
  rw [Hg.out]
  clear Hw2
  go_upto_region 5 with (first | (refine wpList_load_rowW rfl 23 _ rfl g rfl _ _ _ _ HK2.out Tryd.underlying23 rfl (by kernel_rfl) ?_) | (refine conv_strW rfl _ rfl a n c xs rfl HBs.out ?_; rw [Hs.out]) | (refine wp_build_nm rfl _ _ rfl f s rfl rfl NV HNV.out ?_) | (refine wpList_store_row rfl 83 _ _ rfl w2.heap.size _ rfl rfl _ _ (heap_new w2 _ _ rfl) (by rw [HNs.out]; kernel_rfl) (by rw [HNs.out, HZs.out]) HNo.out ?_; rw [setRow_new w2 _ _ _ _ rfl]))
  clear c0
  obtain ⟨w4, hw4⟩ : ∃ x, w2.alloc (.cells NV 83) = x := ⟨_, rfl⟩
  obtain ⟨q, hq⟩ : ∃ x, w2.heap.size = x := ⟨_, rfl⟩
  have HN4 := Lib.hid (show w4.heap[q]? = some (.cells NV 83 (0, 0)) by rw [← hw4]; exact heap_new w2 _ _ hq.symm)
  have HE4 := Lib.hid (show Ext w2 w4 by rw [← hw4]; exact (Ext.refl w2).alloc _)
  refine wp_world (w' := w4) hw4 ?_
  rw [hq]
  rw [hq] at hs2
  clear hw4 hq hznm
  obtain ⟨S, hS⟩ : ∃ S, w4.heap.size = S := ⟨_, rfl⟩
  have hqS : q < S := by rw [← hS]; exact (Array.getElem?_eq_some_iff.1 HN4.out).1
  have HX := Lib.hid (show ∀ x, Below S w4 x → Ext w4 x from fun x hx => by rw [← hS] at hx; exact hx)
  have hst : RowR S 35 16 w4 false w4.drew := by rw [← hS]; exact RowR.start w4 35 16
  clear hS
  refine lq_start (E := fun _ => RowE S (.cells (rowArr 16 fun j => .int .u8 (V j)) 35 (0, 0))) 12 9 (by omega) (by kernel_rfl) (by kernel_rfl) (fun _ w => RowE.refl _ _ w) (fun _ _ h => h) hst ?_
  simp only [List.take_succ_cons, List.take_zero]
  refine lr_p (.pointer (some ⟨gb, 0, none⟩)) [] (by decide) (by kernel_rfl) rfl (by rfl) (fun w1 hw1 => ?_) ?_
  · simp only [pk, lexVals]
    first | (go_simp; done) | (go_simp; rfl)
  refine lr_p (.pointer (some ⟨gb, 0, none⟩)) [(0, 28)] (by decide) (by kernel_rfl) rfl (by rfl) (fun w1 hw1 => ?_) ?_
  · simp only [pk, nthSp, lexVals]
    first | (go_simp; done) | (go_simp; rfl)
  refine lr_p (.pointer (some ⟨gb, 36, none⟩)) [(0, 29)] (by decide) (by kernel_rfl) rfl (by rfl) (fun w1 hw1 => ?_) ?_
  · simp only [pk, nthSp, lexVals]
    first | (go_simp; done) | (go_simp; rfl)
  refine lr_p (.map (some m3)) [(0, 30)] (by decide) (by kernel_rfl) rfl (by rfl) (fun w1 hw1 => ?_) ?_
  · simp only [pk, nthSp, lexVals]
    have hc := C35.out w1 (HE4.out.trans (HX.out w1 hw1))
    clear hw1
    first | (go_simp; done) | (go_simp; rfl)
  refine lr_p (.agg NV) [] (by decide) (by kernel_rfl) rfl (by rfl) (fun w1 hw1 => ?_) ?_
  · simp only [pk, lexVals]
    exact rl_row rfl rfl ((HX.out w1 hw1).keep HN4.out) Tryd.underlying83 rfl (by rw [HNs.out]; kernel_rfl)
  refine lr_p (.tuple #[.agg (rowArr 16 fun j => .int .u8 (V j)), .bool K]) [(1, 31), (0, 32)] (by decide) (by kernel_rfl) rfl (by rfl) (fun w1 hw1 => ?_) ?_
  · simp only [pk, nthSp, lexVals]
    exact rl_lookup rfl rfl rfl (HLk.out w1 (HE4.out.trans (HX.out w1 hw1)))
  refine lr_p (.tuple #[.agg (rowArr 16 fun j => .int .u8 (V j)), .bool K]) [(0, 33)] (by decide) (by kernel_rfl) rfl (by rfl) (fun w1 hw1 => ?_) ?_
  · simp only [pk, nthSp, lexVals]
    first | (go_simp; done) | (go_simp; rfl)
  refine lr_p (.agg (rowArr 16 fun j => .int .u8 (V j))) [(0, 27)] (by decide) (by kernel_rfl) rfl (by rfl) (fun w1 hw1 => ?_) ?_
  · simp only [pk, nthSp, lexVals]
    first | (go_simp; done) | (go_simp; rfl)
  refine lr_p (.bool K) [(1, 27)] (by decide) (by kernel_rfl) rfl (by rfl) (fun w1 hw1 => ?_) ?_
  · simp only [pk, nthSp, lexVals]
    first | (go_simp; done) | (go_simp; rfl)
  refine lr_new (rowArr 16 fun _ => .int .u8 0) [] rfl (by kernel_rfl) rfl (by rfl) (by rw [rowArr_size]) (fun w1 => ?_) ?_
  · simp only [pk, lexVals]
    have hz := zero_t16
    first | (go_simp; done) | (go_simp; rfl)
  refine lr_put (rowArr 16 fun j => Value.int .u8 (V j)) 35 _ _ rfl [(0, 9), (2, 34)] (by decide) (by kernel_rfl) rfl (by rfl) rfl (by rw [rowArr_size]) (by kernel_rfl) (rowArr_one fun _ _ => rfl) (fun w1 hw1 => ?_) ?_
  · simp only [pk, nthSp, lexVals]
    rintro u9 ⟨rfl, h9⟩
    exact ⟨rfl, h9, rfl⟩
  refine lr_p (.bool K) [(2, 35)] (by decide) (by kernel_rfl) rfl (by rfl) (fun w1 hw1 => ?_) ?_
  · simp only [pk, nthSp, lexVals]
    first | (go_simp; done) | (go_simp; rfl)
  refine lq_stop (by rfl) (by decide) fun w7 hw7 => ?_
  have HE47 := Lib.hid (HX.out w7 hw7.1)
  clear hw7
  simp only [rv, pf, lexVals, List.drop_succ_cons, List.drop_zero]
  rintro v1 ⟨rfl, -⟩ v2 hF7
  have HF7 := Lib.hid hF7
  have HE7 := Lib.hid (HE2.out.trans (HE4.out.trans HE47.out))
  have HN7 := Lib.hid (HE47.out.keep HN4.out)
  have HZ7 := Lib.hid ((HE4.out.trans HE47.out).keep HZ2.out)
  simp only [Act.put, List.setIfInBounds_toArray, List.set_cons_zero, List.set_cons_succ]
  have hS7 : S < w7.heap.size := (Array.getElem?_eq_some_iff.1 hF7).1
  have HCd7 := Lib.hid (HCd.out w7 HE7.out)
  clear hF7
  cases K with
  | true =>
    go_wp2_with (first | (refine wpList_load_rowW rfl 35 _ rfl S rfl _ _ _ _ HF7.out Tryd.underlying35 rfl (by kernel_rfl) ?_) | (refine wpList_store_row rfl 35 _ _ rfl (g + 1) _ rfl rfl _ _ HZ7.out (by kernel_rfl) (by simp [rowArr_size]) (rowArr_one fun _ _ => rfl) ?_))
    refine bodyPost_ret (results_cell_row rfl _ _ (g + 1) _ _ _ _ rfl (setRow_heap w7 (g + 1) _ _ _ _ HZ7.out) Tryd.underlying35 rfl (by kernel_rfl)) rfl ?_
    rw [← HP.out]
    have hE : Ext w (w7.setRow (g + 1) (rowArr 16 fun j => .int .u8 (V j))) := below_setRow HE7.out (by have := Hg.out; omega) _
    refine ⟨l, V, dr, rfl, Hd.out, HBx.out _ hE, HCd.out _ hE, ?_, fun _ _ _ hu => hu, Kp2.of_ext hE⟩
    rw [HO.out, ← HV.out]
    have hk := HKs.out
    cases O with
    | none => cases hk
    | some u => rfl
  | false =>
    have hno : tkFind f s l = none := by
      rw [HO.out]
      have hk := HKs.out
      cases O with
      | none => rfl
      | some u => cases hk
    have Hno := Lib.hid hno
    clear hno
    have hDr := draw_any gb h dr m1 m2 m3 16 w7 (HBx.out w7 HE7.out) Hh.out Hd.out (by omega) (HKr.out w7 HE7.out)
    rw [show ((16 : Nat) : Int) = 16 from rfl] at hDr
    have HDr := Lib.hid hDr
    clear HX HLk C35 HE47 hDr
    go_wp2_with fail
    refine HDr.out.mono ?_
    rintro e w8 ⟨a8, x8, rfl, hb8, hN8, ⟨dr', hd', hB8⟩, hG8⟩
    obtain ⟨p8, cur8, rfl, hp8, -⟩ := hN8 (by omega)
    have hkeep8 : ∀ k, k < w7.heap.size → k ≠ gb → w8.heap[k]? = w7.heap[k]? := fun k h1 h2 => hG8.block k h1 (fun e => h2 (Option.some.inj e))
    have HF8 := Lib.hid ((hkeep8 S hS7 (by omega)).trans HF7.out)
    have HN8 := Lib.hid ((hkeep8 q (by omega) (by omega)).trans HN7.out)
    have HZ8 := Lib.hid ((hkeep8 (g + 1) (by omega) (by omega)).trans HZ7.out)
    have HB8 := Lib.hid hB8
    have Hb8 := Lib.hid hb8
    have HT8 := Lib.hid (show Kp2 gb m3 w w8 from (Kp2.of_ext HE7.out).trans ⟨hG8.os, hG8.tape, hG8.output, hG8.size, fun k h1 h2 _ => hkeep8 k h1 h2⟩)
    have HC8 := Lib.hid (show TmAt w8 m3 l from HCd7.out.same (hkeep8 m3 (by omega) (fun e => hgm e.symm)))
    have Hd' := Lib.hid hd'
    have hs8 := hG8.size
    clear hb8 hB8 hG8 hkeep8 hd' HDr HF7 HN7 HZ7 HCd7
    obtain ⟨cc, hcc⟩ : ∃ cc : Nat → Int, (fun j => x8.getD j 0) = cc := ⟨_, rfl⟩
    have Hcc := Lib.hid (show ∀ j, j < 16 → 0 ≤ cc j ∧ cc j < 256 from fun j _ => by rw [← hcc]; exact getD_byte Hb8.out.byte j)
    go_upto_region 8 with (first | (refine load_bs rfl 35 16 _ rfl Tryd.underlying35 (by kernel_rfl) ⟨p8, 0, none⟩ 16 16 x8 rfl Hb8.out (Nat.le_refl _) ?_) | (refine wpList_store_row rfl 35 _ _ rfl S _ rfl rfl _ _ HF8.out (by kernel_rfl) (by simp only [rowArr_size]) (rowArr_one fun _ _ => rfl) ?_))
    have hvv : (rowArr 16 fun j => Value.int .u8 (x8.getD j 0)) = rowArr 16 fun j => .int .u8 (cc j) := by rw [← hcc]
    rw [hvv]
    obtain ⟨w9, hw9⟩ : ∃ x, w8.setRow S (rowArr 16 fun j => .int .u8 (cc j)) = x := ⟨_, rfl⟩
    have HF9 := Lib.hid (show w9.heap[S]? = some (.cells (rowArr 16 fun j => .int .u8 (cc j)) 35 (0, 0)) by rw [← hw9]; exact setRow_heap w8 S _ _ _ _ HF8.out)
    have hoth : ∀ k, k ≠ S → w9.heap[k]? = w8.heap[k]? := fun k hne => by rw [← hw9]; exact setRow_other w8 S k _ hne
    have HN9 := Lib.hid ((hoth q (by omega)).trans HN8.out)
    have HZ9 := Lib.hid ((hoth (g + 1) (by omega)).trans HZ8.out)
    have HB9 := Lib.hid ((hoth gb (by omega)).trans HB8.out)
    have HC9 := Lib.hid (show TmAt w9 m3 l from HC8.out.same (hoth m3 (by omega)))
    have HT9 := Lib.hid (show Kp2 gb m3 w w9 from HT8.out.new (B := S) (by have := Hg.out; omega) (by rw [← hw9]; exact below_setRow (Below.refl _ _) (Nat.le_refl _) _))
    refine wp_world (w' := w9) hw9 ?_
    clear hw9 hoth hvv hcc HF8 HN8 HZ8 HB8 HC8 Hb8
    have HX := Lib.hid (show ∀ x, Ext w9.drew x → Ext w9 x from fun x hx => Ext.trans (Ext.refl w9).drew hx)
    refine wp_region_lexT 6 (by kernel_rfl) (by kernel_rfl) ?_
    simp only [List.take_succ_cons, List.take_zero, List.drop_succ_cons, List.drop_zero]
    refine lx_e (.pointer (some ⟨gb, 0, none⟩)) [] (by kernel_rfl) rfl (by rfl) (fun w1 hw1 => ?_) ?_
    · simp only [pk, lexVals]
      go_simp
      exact ⟨Ext.refl _, rfl⟩
    refine lx_e (.pointer (some ⟨gb, 0, none⟩)) [(0, 42)] (by kernel_rfl) rfl (by rfl) (fun w1 hw1 => ?_) ?_
    · simp only [pk, nthSp, lexVals]
      go_simp
      exact ⟨Ext.refl _, rfl⟩
    refine lx_e (.pointer (some ⟨gb, 36, none⟩)) [(0, 43)] (by kernel_rfl) rfl (by rfl) (fun w1 hw1 => ?_) ?_
    · simp only [pk, nthSp, lexVals]
      go_simp
      exact ⟨Ext.refl _, rfl⟩
    refine lx_e (.map (some m3)) [(0, 44)] (by kernel_rfl) rfl (by rfl) (fun w1 hw1 => ?_) ?_
    · simp only [pk, nthSp, lexVals]
      have hc := (box_cell ((HX.out w1 hw1).keep HB9.out)).2.2.2
      clear hw1
      go_simp
      exact ⟨Ext.refl _, rfl⟩
    refine lx_e (.agg NV) [] (by kernel_rfl) rfl (by rfl) (fun w1 hw1 => ?_) ?_
    · simp only [pk, lexVals]
      exact lu_row rfl rfl ((HX.out w1 hw1).keep HN9.out) Tryd.underlying83 rfl (by rw [HNs.out]; kernel_rfl)
    refine lx_e (.agg (rowArr 16 fun j => .int .u8 (cc j))) [] (by kernel_rfl) rfl (by rfl) (fun w1 hw1 => ?_) ?_
    · simp only [pk, lexVals]
      exact lu_row rfl rfl ((HX.out w1 hw1).keep HF9.out) Tryd.underlying35 rfl (by kernel_rfl)
    refine lx_stopT (by rfl) (by decide) fun w10 hw10 => ?_
    have HE10 := Lib.hid (HX.out w10 hw10)
    have HC10 := Lib.hid (HC9.out.ext HE10.out)
    clear hw10
    simp only [rv, pf, lexVals, List.drop_succ_cons, List.drop_zero]
    simp only [Act.put, List.setIfInBounds_toArray, List.set_cons_zero, List.set_cons_succ]
    go_upto_region 9 with (refine wp_update_tk rfl _ _ _ rfl m3 l HC10.out f s Hno.out cc Hcc.out rfl (by rw [HNV.out]; rfl) rfl ?_)
    intro w11 hput
    obtain ⟨⟨ob, hw11⟩, hcd⟩ := hput
    have hoth : ∀ k, k ≠ m3 → w11.heap[k]? = w10.heap[k]? := fun k hne => by rw [hw11]; exact setBlock_other w10 m3 k ob hne
    have HF11 := Lib.hid ((hoth S (by omega)).trans (HE10.out.keep HF9.out))
    have HZ11 := Lib.hid ((hoth (g + 1) (by omega)).trans (HE10.out.keep HZ9.out))
    have HB11 := Lib.hid ((hoth gb hgm).trans (HE10.out.keep HB9.out))
    have HT11 := Lib.hid (show Kp2 gb m3 w w11 from by
      have h1 := HT9.out.trans (Kp2.of_ext HE10.out)
      refine ⟨?_, ?_, ?_, ?_, fun k h2 h3 h4 => (hoth k h4).trans (h1.block k h2 h3 h4)⟩
      · rw [hw11]; exact h1.os
      · rw [hw11]; exact h1.tape
      · rw [hw11]; exact h1.output
      · rw [hw11]; have := h1.size; unfold ChangeMaps.setBlock; simpa using this)
    have HCd := Lib.hid hcd
    clear hw11 hoth hcd HF9 HZ9 HB9 HC9 HC10 HE10 HX HNV
    go_wp2_with (first | (refine wpList_load_rowW rfl 35 _ rfl S rfl _ _ _ _ HF11.out Tryd.underlying35 rfl (by kernel_rfl) ?_) | (refine wpList_store_row rfl 35 _ _ rfl (g + 1) _ rfl rfl _ _ HZ11.out (by kernel_rfl) (by simp [rowArr_size]) (rowArr_one fun _ _ => rfl) ?_))
    refine bodyPost_ret (results_cell_row rfl _ _ (g + 1) _ _ _ _ rfl (setRow_heap w11 (g + 1) _ _ _ _ HZ11.out) Tryd.underlying35 rfl (by kernel_rfl)) rfl ?_
    rw [← HP.out]
    obtain ⟨bb, hcd⟩ := HCd.out
    have hgg := Hg.out
    refine ⟨l ++ [⟨f, s, cc, bb⟩], cc, dr', rfl, Hd'.out, (setRow_other w11 (g + 1) gb _ (by omega)).trans HB11.out, hcd.same (setRow_other w11 (g + 1) m3 _ (by omega)), tkFind_new f s cc bb l Hno.out, fun g' s' u hu => tkFind_more g' s' _ u l hu, HT11.out.new (B := g + 1) (by omega) (below_setRow (Below.refl _ _) (Nat.le_refl _) _)⟩

/-- A box in ideal mode answers names. -/
def idealBl (gb m1 m2 m3 top : Nat) (h f : Nat → Int) (hh : ∀ j, j < 32 → 0 ≤ h j ∧ h j < 256) (hg : gb < top) (hm : m3 < top) (hr : 2 < top) (hgm : gb ≠ m3) (hrg : 2 ≠ gb) (hrm : 2 ≠ m3) : Blinder gb m3 top f where
  St := List TkE
  At := fun l w => (∃ dr, (0 ≤ dr ∧ dr < 18446744073709551616) ∧ w.heap[gb]? = some (.cells (rowArr 37 (boxJ h dr m1 m2 m3)) 61 (0, 0))) ∧ TmAt w m3 l ∧ KsAt 2 w ∧ top ≤ w.heap.size
  tok := fun l xs => tkFind f (strOf xs) l
  gb_top := hg
  gm_top := hm
  size := fun h => h.2.2.2
  keeps := fun k => k = gb ∨ k = m3 ∨ k = 2
  keeps_top := fun k h => by rcases h with rfl | rfl | rfl <;> assumption
  stay := fun {s w w'} h hs k => by
    obtain ⟨⟨dr, h1, h2⟩, h3, h4, h5⟩ := h
    exact ⟨⟨dr, h1, (k gb (.inl rfl)).trans h2⟩, h3.same (k m3 (.inr (.inl rfl))), fun i hi => (cell_same (k _ (.inr (.inr rfl)))).trans (h4 i hi), by omega⟩
  byte := fun {s w xs t} h1 h2 j hj => by
    obtain ⟨e, he, rfl⟩ := tkFind_mem _ _ _ _ h2
    exact h1.2.1.byte e he j hj
  call := fun s w a n c xs h1 hb hn => by
    obtain ⟨⟨dr, h2, h3⟩, h4, h5, h6⟩ := h1
    refine (boxBlindI_any gb h dr m1 m2 m3 s f a n c xs w h3 hh h2 h4 hb hgm h5).mono ?_
    rintro e w' ⟨l', t, dr', r1, r2, r3, r4, r5, r6, r7⟩
    exact ⟨l', t, r1, ⟨⟨dr', r2, r3⟩, r4, fun i hi => (cell_same (r7.block _ (by omega) hrg hrm)).trans (h5 i hi), by have := r7.size; omega⟩, r5, fun ys u hu => r6 _ _ u hu, r7⟩

end Go.Proofs.YtdgbcieopkilcaaDoor
