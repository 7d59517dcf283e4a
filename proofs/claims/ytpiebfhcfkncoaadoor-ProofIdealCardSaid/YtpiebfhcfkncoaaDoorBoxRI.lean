/-
  The walk of Box.Right in ideal mode. No conditions.
-/
import Derived.Test.YtpiebfhcfkncoaaDoorBoxI
import Derived.Test.YtpiebfhcfkncoaaDoorLexG
import Derived.Test.YtpiebfhcfkncoaaDoorHdR
namespace Go.Proofs.YtpiebfhcfkncoaaDoor
open Go.ChangeShapes Go.WideShapes Go.ChangeAt Go.RowKit

/-- A code that a box has drawn. -/
structure CdE where
  key : Nat → Int
  text : ByteArray
  code : Nat → Int
  born : Nat
def cdNm (e : CdE) : NmE := ⟨e.key, e.text, .agg (rowArr 32 fun j => .int .u8 (e.code j)), e.born⟩
def cdFind (f : Nat → Int) (s : ByteArray) : List CdE → Option (Nat → Int)
  | [] => none
  | e :: l => if nmHit f s (cdNm e) = true then some e.code else cdFind f s l
def cdV : Option (Nat → Int) → Nat → Int
  | some c => c
  | none => fun _ => 0
theorem nmFind_cd (f : Nat → Int) (s : ByteArray) : ∀ (l : List CdE) (i : Nat), (nmFind f s (l.map cdNm) i).isSome = (cdFind f s l).isSome ∧ nmRes (nmFind f s (l.map cdNm) i) (.agg (rowArr 32 fun _ => .int .u8 0)) = .agg (rowArr 32 fun j => .int .u8 (cdV (cdFind f s l) j))
  | [], i => ⟨rfl, rfl⟩
  | e :: l, i => by
    show (nmFind f s (cdNm e :: l.map cdNm) i).isSome = _ ∧ nmRes (nmFind f s (cdNm e :: l.map cdNm) i) (.agg (rowArr 32 fun _ => .int .u8 0)) = _
    unfold nmFind cdFind
    by_cases h : nmHit f s (cdNm e) = true
    · rw [if_pos h, if_pos h]
      exact ⟨rfl, rfl⟩
    · rw [if_neg h, if_neg h]
      exact nmFind_cd f s l (i + 1)
/-- A box's codes. -/
structure CdAt (w : World) (m : Nat) (l : List CdE) : Prop where
  at_ : ∃ es clock, w.heap[m]? = some (.map es clock) ∧ es.toList = (l.map cdNm).map nmEntry
theorem CdAt.ext {w w' : World} {m : Nat} {l : List CdE} (h : CdAt w m l) (he : Ext w w') : CdAt w' m l := by
  obtain ⟨es, clock, h1, h2⟩ := h.at_
  exact ⟨es, clock, he.keep h1, h2⟩
theorem lookup_cd {w : World} {m : Nat} {l : List CdE} (h : CdAt w m l) (f : Nat → Int) (s : ByteArray) :
    (Instr.lookup 63 (.map (some m)) (.agg (nmV f s)) true).run Tryd.prog w = .ok (.tuple #[.agg (rowArr 32 fun j => .int .u8 (cdV (cdFind f s l) j)), .bool (cdFind f s l).isSome]) w := by
  obtain ⟨es, clock, h1, h2⟩ := h.at_
  have h3 := lookup_nm Tryd.underlying63 (zero_h32 w) h1 h2 f s
  obtain ⟨h4, h5⟩ := nmFind_cd f s l 0
  rw [h3, h4, h5]
/-- What a box's codes answer. -/
def idealR (l : List CdE) : Rt := fun f xs d => (cdFind f (strOf xs) l).isSome && arrB 32 (cdV (cdFind f (strOf xs) l)) d

section
variable {w : World} {o : Oper} {ev : Operand → Value}
theorem rl_row {P : Program} {x : Operand} {T : TypeId} {g : Nat} {t : TypeId} {cs : Array Value} {fr : Nat × Nat} {d : TypeDesc} (ho : o.op = .load T x) (hx : ev x = .pointer (some ⟨g, 0, none⟩)) (hg : w.heap[g]? = some (.cells cs t fr))
    (hu : P.underlying T = some d) (hd : (match d with | .struct _ | .array _ _ => true | _ => false) = true) (hi : (P.info? T).map (·.size) = some cs.size) : (execOp ev o).run P w = .ok (.value (.agg cs)) w := by
  simp only [execOp, ho, hx, Instr.loadAt, Instr.sureAddr, Sem.run_bind, Sem.run_pure, Result.andThen_ok, run_loadVar_row w g t T cs fr d hg hu hd hi]
theorem rl_str {x : Operand} {src : Option Addr} {n c : Nat} {xs : List Int} (ho : o.op = .convert 53 9 x) (hx : ev x = .slice src n c) (hb : BsAt w src n c xs) : (execOp ev o).run Tryd.prog w = .ok (.value (.string (strOf xs))) w := by
  have hr := run_conv_str hb
  simp only [execOp, ho, hx, Sem.run_bind, hr, Result.andThen_ok, Sem.run_pure]
set_option maxRecDepth 100000 in
theorem build_nm (w : World) (f : Nat → Int) (s : ByteArray) : (Instr.build 76 #[(0, .agg (rowArr 32 fun j => .int .u8 (f j))), (1, .string s)]).run Tryd.prog w = .ok (.agg (nmV f s)) w := by kernel_rfl
theorem rl_build_nm {x0 x1 : Operand} {f : Nat → Int} {s : ByteArray} (ho : o.op = .build 76 #[(0, x0), (1, x1)]) (h0 : ev x0 = .agg (rowArr 32 fun j => .int .u8 (f j))) (h1 : ev x1 = .string s) : (execOp ev o).run Tryd.prog w = .ok (.value (.agg (nmV f s))) w := by
  have hb := build_nm w f s
  simp only [execOp, ho, List.map_toArray, List.map_cons, List.map_nil, h0, h1, Sem.run_bind, hb, Result.andThen_ok, Sem.run_pure]
theorem rl_lookup {P : Program} {T : TypeId} {x y : Operand} {vx vy r : Value} (ho : o.op = .lookup T x y true) (hx : ev x = vx) (hy : ev y = vy) (h : (Instr.lookup T vx vy true).run P w = .ok r w) : (execOp ev o).run P w = .ok (.value r) w := by
  simp only [execOp, ho, hx, hy, Sem.run_bind, h, Result.andThen_ok, Sem.run_pure]
end
theorem box_cell {w : World} {gb : Nat} {h : Nat → Int} {dr : Int} {m1 m2 m3 : Nat} {T : TypeId} (hb : w.heap[gb]? = some (.cells (rowArr 37 (boxJ h dr m1 m2 m3)) T (0, 0))) : w.cell? ⟨gb, 0, none⟩ = some (.bool true) ∧ w.cell? ⟨gb, 33, none⟩ = some (.int .u64 dr) ∧ w.cell? ⟨gb, 35, none⟩ = some (.map (some m2)) ∧ w.cell? ⟨gb, 36, none⟩ = some (.map (some m3)) :=
  ⟨row_cell hb 0 (by omega), row_cell hb 33 (by omega), row_cell hb 35 (by omega), row_cell hb 36 (by omega)⟩

set_option maxHeartbeats 4000000 in
set_option maxRecDepth 100000 in
theorem boxRightI_any (gb : Nat) (h : Nat → Int) (dr : Int) (m1 m2 m3 : Nat) (l : List CdE) (f : Nat → Int) (a : Option Addr) (n c : Nat) (xs : List Int) (d : Nat → Int) (w : World) (hb : w.heap[gb]? = some (.cells (rowArr 37 (boxJ h dr m1 m2 m3)) 66 (0, 0))) (hm : CdAt w m2 l) (hx : BsAt w a n c xs) :
    Calls Tryd.prog 54 #[.pointer (some ⟨gb, 0, none⟩), .agg (rowArr 32 fun j => .int .u8 (f j)), .slice a n c, .agg (rowArr 32 fun j => .int .u8 (d j))] w fun e w' => e = .returned (.bool (idealR l f xs d)) ∧ Ext w w' := by
  obtain ⟨w2, hw2, hE2, hK2, hD2⟩ := tok_box' w (rowArr 32 fun j => .int .u8 (f j)) (rowArr 32 fun j => .int .u8 (d j)) 23 23
  obtain ⟨g, hg⟩ : ∃ g, w.heap.size = g := ⟨_, rfl⟩
  rw [hg] at hK2 hD2
  have Hg := Lib.hid hg
  have Hw2 := Lib.hid hw2
  have HE2 := Lib.hid hE2
  have HK2 := Lib.hid hK2
  have HD2 := Lib.hid hD2
  have HBs := Lib.hid (hx.ext hE2)
  have c0 := (box_cell (hE2.keep hb)).1
  have C35 := Lib.hid (fun x (h1 : Ext w2 x) => (box_cell ((hE2.trans h1).keep hb)).2.2.1)
  have hLk := fun x (h1 : Ext w2 x) => lookup_cd (hm.ext (hE2.trans h1)) f (strOf xs)
  unfold idealR
  obtain ⟨O, hO⟩ : ∃ O, cdFind f (strOf xs) l = O := ⟨_, rfl⟩
  rw [hO] at hLk ⊢
  obtain ⟨V, hV⟩ : ∃ V, cdV O = V := ⟨_, rfl⟩
  obtain ⟨K, hK⟩ : ∃ K, O.isSome = K := ⟨_, rfl⟩
  rw [hV, hK] at hLk ⊢
  have HLk := Lib.hid hLk
  clear hw2 hE2 hK2 hD2 hg hb hm hx hLk hO hV hK
  go_enter Tryd.func54, Tryd.ntmps54
  go_upto_region 1 with (fail)
  refine wp_world (w' := w2) Hw2.out ?_
  rw [Hg.out]
  clear Hw2
  go_upto_region 4 with (fail)
  clear c0
  obtain ⟨S, hS⟩ : ∃ S, w2.heap.size = S := ⟨_, rfl⟩
  have HX := Lib.hid (show ∀ x, Below S w2 x → Ext w2 x from fun x hx => by rw [← hS] at hx; exact hx)
  have hst : RowR S 23 32 w2 false w2.drew := by rw [← hS]; exact RowR.start w2 23 32
  clear hS
  refine lq_start (E := fun _ => RowE S (.cells (rowArr 32 fun j => .int .u8 (V j)) 23 (0, 0))) 15 12 (by omega) (by kernel_rfl) (by kernel_rfl) (fun _ w => RowE.refl _ _ w) (fun _ _ h => h) hst ?_
  simp only [List.take_succ_cons, List.take_zero]
  refine lr_p (.pointer (some ⟨gb, 0, none⟩)) [] (by decide) (by kernel_rfl) rfl (by rfl) (fun w1 hw1 => ?_) ?_
  · simp only [pk, lexVals]
    first | (go_simp; done) | (go_simp; rfl)
  refine lr_p (.pointer (some ⟨gb, 0, none⟩)) [(0, 25)] (by decide) (by kernel_rfl) rfl (by rfl) (fun w1 hw1 => ?_) ?_
  · simp only [pk, nthSp, lexVals]
    first | (go_simp; done) | (go_simp; rfl)
  refine lr_p (.pointer (some ⟨gb, 35, none⟩)) [(0, 26)] (by decide) (by kernel_rfl) rfl (by rfl) (fun w1 hw1 => ?_) ?_
  · simp only [pk, nthSp, lexVals]
    first | (go_simp; done) | (go_simp; rfl)
  refine lr_p (.map (some m2)) [(0, 27)] (by decide) (by kernel_rfl) rfl (by rfl) (fun w1 hw1 => ?_) ?_
  · simp only [pk, nthSp, lexVals]
    have hc := C35.out w1 (HX.out w1 hw1)
    clear hw1
    first | (go_simp; done) | (go_simp; rfl)
  refine lr_p (.agg (rowArr 32 fun j => .int .u8 (f j))) [] (by decide) (by kernel_rfl) rfl (by rfl) (fun w1 hw1 => ?_) ?_
  · simp only [pk, lexVals]
    exact rl_row rfl rfl ((HX.out w1 hw1).keep HK2.out) Tryd.underlying23 rfl (by kernel_rfl)
  refine lr_p (.slice a n c) [] (by decide) (by kernel_rfl) rfl (by rfl) (fun w1 hw1 => ?_) ?_
  · simp only [pk, lexVals]
    first | (go_simp; done) | (go_simp; rfl)
  refine lr_p (.string (strOf xs)) [(0, 30)] (by decide) (by kernel_rfl) rfl (by rfl) (fun w1 hw1 => ?_) ?_
  · simp only [pk, nthSp, lexVals]
    exact rl_str rfl rfl (HBs.out.ext (HX.out w1 hw1))
  refine lr_p (.agg (nmV f (strOf xs))) [(2, 29), (0, 31)] (by decide) (by kernel_rfl) rfl (by rfl) (fun w1 hw1 => ?_) ?_
  · simp only [pk, nthSp, lexVals]
    exact rl_build_nm rfl rfl rfl
  refine lr_p (.tuple #[.agg (rowArr 32 fun j => .int .u8 (V j)), .bool K]) [(4, 28), (0, 32)] (by decide) (by kernel_rfl) rfl (by rfl) (fun w1 hw1 => ?_) ?_
  · simp only [pk, nthSp, lexVals]
    exact rl_lookup rfl rfl rfl (HLk.out w1 (HX.out w1 hw1))
  refine lr_p (.tuple #[.agg (rowArr 32 fun j => .int .u8 (V j)), .bool K]) [(0, 33)] (by decide) (by kernel_rfl) rfl (by rfl) (fun w1 hw1 => ?_) ?_
  · simp only [pk, nthSp, lexVals]
    first | (go_simp; done) | (go_simp; rfl)
  refine lr_p (.agg (rowArr 32 fun j => .int .u8 (V j))) [(0, 24)] (by decide) (by kernel_rfl) rfl (by rfl) (fun w1 hw1 => ?_) ?_
  · simp only [pk, nthSp, lexVals]
    first | (go_simp; done) | (go_simp; rfl)
  refine lr_p (.bool K) [(1, 24)] (by decide) (by kernel_rfl) rfl (by rfl) (fun w1 hw1 => ?_) ?_
  · simp only [pk, nthSp, lexVals]
    first | (go_simp; done) | (go_simp; rfl)
  refine lr_new (rowArr 32 fun _ => .int .u8 0) [] rfl (by kernel_rfl) rfl (by rfl) (by rw [rowArr_size]) (fun w1 => ?_) ?_
  · simp only [pk, lexVals]
    have hz := zero_h32
    first | (go_simp; done) | (go_simp; rfl)
  refine lr_put (rowArr 32 fun j => .int .u8 (V j)) 23 _ _ rfl [(0, 10), (2, 34)] (by decide) (by kernel_rfl) rfl (by rfl) rfl (by rw [rowArr_size]) (by kernel_rfl) (rowArr_one fun _ _ => rfl) (fun w1 hw1 => ?_) ?_
  · simp only [pk, nthSp, lexVals]
    rintro u10 ⟨rfl, h10⟩
    exact ⟨rfl, h10, rfl⟩
  refine lr_p (.bool K) [(2, 35)] (by decide) (by kernel_rfl) rfl (by rfl) (fun w1 hw1 => ?_) ?_
  · simp only [pk, nthSp, lexVals]
    first | (go_simp; done) | (go_simp; rfl)
  refine lq_stop (by rfl) (by decide) fun w7 hw7 => ?_
  have HE7 := Lib.hid (HX.out w7 hw7.1)
  clear hw7
  simp only [rv, pf, lexVals, List.drop_succ_cons, List.drop_zero]
  rintro v1 ⟨rfl, -⟩ v2 hF7
  have HF7 := Lib.hid hF7
  have HD7 := Lib.hid (HE7.out.keep HD2.out)
  simp only [Act.put, List.setIfInBounds_toArray, List.set_cons_zero, List.set_cons_succ]
  have heq := eql_h
  clear hF7
  cases K with
  | false =>
    go_wp2
    go_ret
    exact ⟨rfl, HE2.out.trans HE7.out⟩
  | true =>
    go_wp2_with (first | (refine wpList_load_rowW rfl 23 _ rfl S rfl _ _ _ _ HF7.out Tryd.underlying23 rfl (by kernel_rfl) ?_) | (refine wpList_load_rowW rfl 23 _ rfl (g + 1) rfl _ _ _ _ HD7.out Tryd.underlying23 rfl (by kernel_rfl) ?_))
    go_ret
    exact ⟨by first | rfl | simp, HE2.out.trans HE7.out⟩

theorem rightIs_ideal {gb : Nat} {h : Nat → Int} {dr : Int} {m1 m2 m3 : Nat} {l : List CdE} {w : World} (hb : w.heap[gb]? = some (.cells (rowArr 37 (boxJ h dr m1 m2 m3)) 66 (0, 0))) (hm : CdAt w m2 l) : RightIs gb (idealR l) w := fun w1 h1 f _ d _ a n c xs hx _ =>
  boxRightI_any gb h dr m1 m2 m3 l f a n c xs d w1 (h1.keep hb) (hm.ext h1) hx

end Go.Proofs.YtpiebfhcfkncoaaDoor
