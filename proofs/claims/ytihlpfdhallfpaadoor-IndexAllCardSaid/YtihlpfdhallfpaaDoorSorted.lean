/-
  Two tokens compared: the walks of bytes.Compare and keys.compare. No conditions.
  Slices of tokens: an element's place, an element loaded. No conditions.
  The walk of keys.Sorted. No conditions.
  Rows of tokens of a call's own: their cells; appended to. No conditions.
  The order of tokens as the reference has it: the walks of jalousieref11.Less and Sorted. No conditions.
-/
import Derived.Test.YtihlpfdhallfpaaDoorLu
import Derived.Lib.BytesEntry
import Derived.Laws.Externs
namespace Go.Proofs.YtihlpfdhallfpaaDoor
open Go.ChangeAt Go.ChangeShapes Go.RowKit Go.WideShapes

/-- The first byte that differs settles it. -/
def cmpI : List Int → List Int → Int
  | x :: a, y :: b => if x < y then -1 else if y < x then 1 else cmpI a b
  | _, _ => 0

theorem cmpI_bytes : ∀ (a b : List Int), a.length = b.length → (∀ x ∈ a, 0 ≤ x ∧ x < 256) → (∀ x ∈ b, 0 ≤ x ∧ x < 256) → Lib.compareBytes (u8s a) (u8s b) = cmpI a b
  | [], [], _, _, _ => rfl
  | [], _ :: _, h, _, _ => by cases h
  | _ :: _, [], h, _, _ => by cases h
  | x :: a, y :: b, h, ha, hb => by
    have ih := cmpI_bytes a b (by simpa using h) (fun z hz => ha z (List.mem_cons_of_mem _ hz)) (fun z hz => hb z (List.mem_cons_of_mem _ hz))
    have hx := ha x (List.mem_cons_self ..)
    have hy := hb y (List.mem_cons_self ..)
    show (if UInt8.ofNat x.toNat < UInt8.ofNat y.toNat then (-1 : Int) else if UInt8.ofNat y.toNat < UInt8.ofNat x.toNat then 1 else Lib.compareBytes (u8s a) (u8s b)) = _
    rw [ih]
    have lt : ∀ x y : Int, 0 ≤ x ∧ x < 256 → 0 ≤ y ∧ y < 256 → (UInt8.ofNat x.toNat < UInt8.ofNat y.toNat ↔ x < y) := by
      intro x y hx hy
      rw [UInt8.lt_iff_toNat_lt, UInt8.toNat_ofNat', UInt8.toNat_ofNat']
      omega
    simp only [lt x y hx hy, lt y x hy hx]
    rfl

theorem run_bytesOf_bs {P : Program} {w : World} {a : Option Addr} {n c : Nat} {xs : List Int} (hb : BsAt w a n c xs) : (Extern.Bytes.bytesOf (.slice a n c)).run P w = .ok ⟨(u8s xs).toArray⟩ w := by
  cases a with
  | none =>
    have h0 := hb.nil_ rfl
    have h1 := hb.cap
    have h2 := hb.len
    obtain rfl : xs = [] := List.eq_nil_of_length_eq_zero (by omega)
    rfl
  | some ad =>
    have hl := Lib.run_loadBytesX (P := P) w xs ad .empty (fun j x hx => hb.news j _ (by unfold bv; rw [List.getElem?_map, hx]; rfl))
    rw [hb.len] at hl
    change (Extern.Bytes.loadBytes ad n .empty).run P w = _
    rw [hl]
    congr 1
    apply ByteArray.ext
    show (#[] : Array UInt8) ++ (Lib.bytesOf xs).toArray = (u8s xs).toArray
    rw [Array.empty_append]
    rfl

theorem run_cmp_bs {P : Program} {w : World} {a b : Option Addr} {n c d : Nat} {xs ys : List Int} (ha : BsAt w a n c xs) (hb : BsAt w b n d ys) :
    (Extern.BytealgCompare.compare #[.slice a n c, .slice b n d]).run P w = .ok (.int .i64 (cmpI xs ys)) w := by
  change Sem.run P (do pure (goInt (Extern.BytealgCompare.cmp (← Extern.Bytes.bytesOf (.slice a n c)) (← Extern.Bytes.bytesOf (.slice b n d))))) w = _
  simp only [Sem.run_bind, run_bytesOf_bs ha, run_bytesOf_bs hb, Sem.run_pure, Result.andThen_ok]
  rw [Lib.cmp_eq, cmpI_bytes xs ys (by rw [ha.len, hb.len]) ha.byte hb.byte]
  rfl

set_option maxRecDepth 100000 in
theorem call_cmp (args : Array Value) (w : World) : (callFunc 87 args).run Tryd.prog w = ((Extern.BytealgCompare.compare args).run Tryd.prog w).andThen fun v w' => .ok (.value v) w' :=
  run_callFunc_extern Tryd.func87 (by kernel_rfl) (by kernel_rfl) (by kernel_rfl) (e := Extern.BytealgCompare.compare) (by kernel_rfl) args w

set_option maxRecDepth 100000 in
theorem bytesCompare_any {w : World} {a b : Option Addr} {n c d : Nat} {xs ys : List Int} (ha : BsAt w a n c xs) (hb : BsAt w b n d ys) :
    Calls Tryd.prog 86 #[.slice a n c, .slice b n d] w fun e w' => e = .returned (.int .i64 (cmpI xs ys)) ∧ w' = w := by
  have hr := run_cmp_bs (P := Tryd.prog) ha hb
  have HR := Lib.hid hr
  clear hr ha hb
  go_enter Tryd.func86, Tryd.ntmps86
  go_wp2
  rw [call_cmp, HR.out]
  simp only [Result.andThen]
  rw [Oper.upon_value]
  go_wp2
  go_ret
  exact ⟨rfl, rfl⟩

/-- The order of tokens. -/
def cmpTok (f g : Nat → Int) : Int := cmpI ((List.range 16).map f) ((List.range 16).map g)

theorem tok_box (w : World) (f g : Nat → Int) (T : TypeId) : ∃ w2, (w.alloc (.cells (rowArr 16 fun j => .int .u8 (f j)) T)).alloc (.cells (rowArr 16 fun j => .int .u8 (g j)) T) = w2 ∧ Ext w w2 ∧ w2.heap[w.heap.size]? = some (.cells (rowArr 16 fun j => .int .u8 (f j)) T (0, 0)) ∧ w2.heap[w.heap.size + 1]? = some (.cells (rowArr 16 fun j => .int .u8 (g j)) T (0, 0)) := by
  have e : (w.alloc (.cells (rowArr 16 fun j => .int .u8 (f j)) T)).heap.size = w.heap.size + 1 := by simp
  refine ⟨_, rfl, ((Ext.refl w).alloc _).alloc _, ?_, heap_new _ _ _ e.symm⟩
  rw [Below.heap_alloc _ _ _ (by rw [e]; omega)]
  exact heap_new w _ _ rfl

set_option maxHeartbeats 1000000 in
set_option maxRecDepth 100000 in
theorem compare_any (f g : Nat → Int) (hf : ∀ j, j < 16 → 0 ≤ f j ∧ f j < 256) (hg : ∀ j, j < 16 → 0 ≤ g j ∧ g j < 256) (w : World) :
    Calls Tryd.prog 81 #[.agg (rowArr 16 fun j => .int .u8 (f j)), .agg (rowArr 16 fun j => .int .u8 (g j))] w fun e w' => e = .returned (.int .i64 (cmpTok f g)) ∧ Ext w w' := by
  obtain ⟨w2, hw2, hE2, hF2, hG2⟩ := tok_box w f g 30
  have HA := Lib.hid (bs_row (rowIs_of hF2) hf (by omega))
  have HB := Lib.hid (bs_row (rowIs_of hG2) hg (by omega))
  have Hw2 := Lib.hid hw2
  have HE2 := Lib.hid hE2
  clear hf hg hw2 hE2 hF2 hG2
  go_enter Tryd.func81, Tryd.ntmps81
  go_upto_region 1 with (fail)
  refine wp_world (w' := w2) Hw2.out ?_
  obtain ⟨k, hk⟩ : ∃ k, w.heap.size = k := ⟨_, rfl⟩
  rw [hk] at HA HB ⊢
  clear hk Hw2
  have HX0 := Lib.hid (show ∀ x, Ext w2.drew x → Ext w x from fun x hx => HE2.out.trans (Ext.trans (Ext.refl w2).drew hx))
  have HXd := Lib.hid (show ∀ x, Ext w2.drew x → Ext w2 x from fun x hx => (Ext.trans (Ext.refl w2).drew hx))
  refine wp_region_lexA (by kernel_rfl) (by kernel_rfl) ?_
  refine lx_e (.slice (some ⟨k, 0, none⟩) 16 16) [] (by kernel_rfl) rfl (by rfl) (fun w1 hw1 => ?_) ?_
  · simp only [pk, lexVals]
    go_simp
    exact ⟨Ext.refl _, rfl⟩
  refine lx_e (.slice (some ⟨k + 1, 0, none⟩) 16 16) [] (by kernel_rfl) rfl (by rfl) (fun w1 hw1 => ?_) ?_
  · simp only [pk, lexVals]
    go_simp
    exact ⟨Ext.refl _, rfl⟩
  refine lx_e (.int .i64 (cmpTok f g)) [(1, 5), (0, 6)] (by kernel_rfl) rfl (by rfl) (fun w1 hw1 => ?_) ?_
  · simp only [pk, nthSp, lexVals]
    have hm := bytesCompare_any (HA.out.ext (HXd.out w1 hw1)) (HB.out.ext (HXd.out w1 hw1))
    have HM := Lib.hid hm
    clear hm hw1
    go_simp
    refine HM.out.mono ?_
    rintro e w2 ⟨rfl, rfl⟩
    exact ⟨_, rfl, Ext.refl _, rfl⟩
  refine lx_e (.int .i64 (cmpTok f g)) [(0, 7)] (by kernel_rfl) rfl (by rfl) (fun w1 hw1 => ?_) ?_
  · simp only [pk, nthSp, lexVals]
    go_simp
    exact ⟨Ext.refl _, rfl⟩
  refine lx_stopA rfl fun w' hw' => ?_
  have HW := Lib.hid (HX0.out w' hw')
  clear hw'
  simp only [rv, pf, lexVals]
  simp only [Act.put, List.setIfInBounds_toArray, List.set_cons_zero, List.set_cons_succ]
  go_wp2_with fail
  go_ret
  exact ⟨rfl, HW.out⟩

/-- A slice of the tokens 'ts'. -/
structure TsAt (w : World) (a : Option Addr) (n c : Nat) (ts : List (Nat → Int)) : Prop where
  len : ts.length = n
  cap : n ≤ c
  lim : c ≤ 9223372036854775807
  small : n ≤ 140737488355328
  byte : ∀ t ∈ ts, ∀ j, j < 16 → 0 ≤ t j ∧ t j < 256
  at_ : 0 < n → ∃ b off, a = some ⟨b, off, none⟩ ∧ ∀ i, i < n → ∀ j, j < 16 → w.cell? ⟨b, off + i * 16 + j, none⟩ = some (.int .u8 ((ts.getD i fun _ => 0) j))
  nil_ : a = none → c = 0

theorem TsAt.ext {w w' : World} {a : Option Addr} {n c : Nat} {ts : List (Nat → Int)} (h : TsAt w a n c ts) (he : Ext w w') : TsAt w' a n c ts := by
  refine ⟨h.len, h.cap, h.lim, h.small, h.byte, fun hn => ?_, h.nil_⟩
  obtain ⟨b, off, ha, hc⟩ := h.at_ hn
  refine ⟨b, off, ha, fun i hi j hj => ?_⟩
  have h1 := hc i hi j hj
  rw [Ext.cell he (World.block_lt_of_cell? w _ h1)]
  exact h1

theorem TsAt.tok {w : World} {a : Option Addr} {n c : Nat} {ts : List (Nat → Int)} (h : TsAt w a n c ts) (i : Nat) (hi : i < n) : ∀ j, j < 16 → 0 ≤ (ts.getD i fun _ => 0) j ∧ (ts.getD i fun _ => 0) j < 256 := by
  have hl : i < ts.length := by rw [h.len]; exact hi
  rw [List.getD_eq_getElem?_getD, List.getElem?_eq_getElem hl]
  exact h.byte _ (List.getElem_mem hl)

theorem add_none (b off k : Nat) : (⟨b, off, none⟩ : Addr).add k = ⟨b, off + k, none⟩ := by
  unfold Addr.add
  split <;> simp_all

set_option maxRecDepth 100000 in
theorem size_tok (w : World) : (sizeOf 30).run Tryd.prog w = .ok 16 w := by kernel_rfl

/-- A token's place in a slice. -/
theorem lu_idx {w : World} {o : Oper} {ev : Operand → Value} {x y : Operand} {b off n c k : Nat} (ho : o.op = .indexAddr 31 x y) (hx : ev x = .slice (some ⟨b, off, none⟩) n c) (hy : ev y = .int .i64 (k : Int)) (hk : k < n) :
    lexUpon Tryd.prog w (.ex (.pointer (some ⟨b, off + k * 16, none⟩))) ((execOp ev o).run Tryd.prog w) := by
  have hr : (Instr.indexAt 31 (.slice (some ⟨b, off, none⟩) n c) (.int .i64 (k : Int))).run Tryd.prog w = .ok (.pointer (some ⟨b, off + k * 16, none⟩)) w := by
    have hb : (0 : Int) ≤ (k : Int) ∧ (k : Int) < (n : Int) := by omega
    simp only [Instr.indexAt, asIntOf, Sem.run_bind, Sem.run_pure, Result.andThen_ok, run_underlying Tryd.underlying31, hb, and_self, if_true, size_tok, Int.toNat_natCast, add_none]
  simp only [execOp, ho, hx, hy, Sem.run_bind, hr, Result.andThen_ok, Sem.run_pure]
  exact ⟨Ext.refl _, rfl⟩

/-- A token loaded. -/
theorem lu_tok {w : World} {o : Oper} {ev : Operand → Value} {x : Operand} {b off : Nat} {t : Nat → Int} (ho : o.op = .load 30 x) (hx : ev x = .pointer (some ⟨b, off, none⟩)) (hc : ∀ j, j < 16 → w.cell? ⟨b, off + j, none⟩ = some (.int .u8 (t j))) :
    lexUpon Tryd.prog w (.ex (.agg (rowArr 16 fun j => .int .u8 (t j)))) ((execOp ev o).run Tryd.prog w) := by
  have h1 := run_loadCells_list (P := Tryd.prog) w ⟨b, off, none⟩ ((List.range 16).map fun j => Value.int .u8 (t j)) (fun j v hv => by
    have hj : j < 16 := by
      have := (List.getElem?_eq_some_iff.1 hv).1
      simpa using this
    rw [List.getElem?_map, List.getElem?_range hj] at hv
    obtain rfl := Option.some.inj hv
    rw [add_none]
    exact hc j hj)
  rw [List.length_map, List.length_range] at h1
  have hagg : (isAgg 30).run Tryd.prog w = .ok true w := by
    unfold isAgg
    rw [Sem.run_bind, run_underlying Tryd.underlying30 w]
    rfl
  have hv : (loadVar 30 ⟨b, off, none⟩).run Tryd.prog w = .ok (.agg (rowArr 16 fun j => .int .u8 (t j))) w := by
    simp only [loadVar, Sem.run_bind, hagg, size_tok, Result.andThen_ok, if_true, h1, Sem.run_pure]
    rfl
  simp only [execOp, ho, hx, Instr.loadAt, Instr.sureAddr, Sem.run_bind, Sem.run_pure, Result.andThen_ok, hv]
  exact ⟨Ext.refl _, rfl⟩

/-- In strictly rising order. -/
def risesB : List (Nat → Int) → Bool
  | a :: b :: l => if 0 ≤ cmpTok a b then false else risesB (b :: l)
  | _ => true

theorem rises_step (ts : List (Nat → Int)) (k : Nat) (h : k + 1 < ts.length) : risesB (ts.drop k) = if 0 ≤ cmpTok (ts.getD k fun _ => 0) (ts.getD (k + 1) fun _ => 0) then false else risesB (ts.drop (k + 1)) := by
  rw [List.drop_eq_getElem_cons (by omega : k < ts.length), List.drop_eq_getElem_cons h]
  simp [risesB, List.getD_eq_getElem?_getD, List.getElem?_eq_getElem h, List.getElem?_eq_getElem (by omega : k < ts.length)]

theorem rises_end (ts : List (Nat → Int)) (k : Nat) (h : ts.length ≤ k + 1) : risesB (ts.drop k) = true := by
  by_cases hk : k < ts.length
  · rw [List.drop_eq_getElem_cons hk, List.drop_eq_nil_of_le h]
    rfl
  · rw [List.drop_eq_nil_of_le (by omega)]
    rfl

set_option maxRecDepth 100000 in
theorem size_byte11 : ∀ w, (sizeOf 5).run Tryd.prog w = .ok 1 w := fun _ => by kernel_rfl

set_option maxHeartbeats 1000000 in
set_option maxRecDepth 100000 in
theorem sorted_any (a : Option Addr) (n c : Nat) (ts : List (Nat → Int)) (w : World) (h : TsAt w a n c ts) :
    Calls Tryd.prog 65 #[.slice a n c] w fun e w' => e = .returned (.bool (risesB ts)) ∧ Ext w w' := by
  have hlen := h.len
  have hsm := h.small
  have H := Lib.hid h
  have Hlen := Lib.hid hlen
  have Hst := Lib.hid (show ∀ k, k + 1 < n → _ from fun k hk => rises_step ts k (by omega))
  have Hen := Lib.hid (show ∀ k, n ≤ k + 1 → _ from fun k hk => rises_end ts k (by omega))
  have H0 := Lib.hid (show risesB (ts.drop 0) = risesB ts from rfl)
  obtain ⟨R, hR⟩ : ∃ R, risesB ts = R := ⟨_, rfl⟩
  rw [hR] at H0 ⊢
  clear h hlen hR
  go_enter Tryd.func65, Tryd.ntmps65
  go_wp2
  go_loopw [3] (fun i wr => ∃ m : Nat, m ≤ n ∧ i = .int .i64 ((m + 1 : Nat) : Int) ∧ risesB (ts.drop m) = R ∧ Ext w wr) (fun i _ => n + 1 - (intOf i).toNat)
  case atStart => exact ⟨0, Nat.zero_le _, rfl, H0.out, Ext.refl _⟩
  case round =>
    obtain ⟨m, hm, rfl, hr, hE⟩ := hrel
    have HE := Lib.hid hE
    clear hE
    by_cases hlt : m + 1 < n
    · obtain ⟨b, off, rfl, hc⟩ := H.out.at_ (by omega)
      obtain ⟨F, hF⟩ : ∃ F, (ts.getD m fun _ => 0) = F := ⟨_, rfl⟩
      obtain ⟨G, hG⟩ : ∃ G, (ts.getD (m + 1) fun _ => 0) = G := ⟨_, rfl⟩
      have HF := Lib.hid (hF ▸ H.out.tok m (by omega))
      have HG := Lib.hid (hG ▸ H.out.tok (m + 1) hlt)
      have hE1 : Ext w wr.drew := HE.out.drew
      have HC0 := Lib.hid (show ∀ j, j < 16 → wr.drew.cell? ⟨b, off + m * 16 + j, none⟩ = some (.int .u8 (F j)) from fun j hj => by
        have h1 := hc m (by omega) j hj
        rw [hF] at h1
        rw [Ext.cell hE1 (World.block_lt_of_cell? w _ h1)]
        exact h1)
      have HC1 := Lib.hid (show ∀ j, j < 16 → wr.drew.cell? ⟨b, off + (m + 1) * 16 + j, none⟩ = some (.int .u8 (G j)) from fun j hj => by
        have h1 := hc (m + 1) hlt j hj
        rw [hG] at h1
        rw [Ext.cell hE1 (World.block_lt_of_cell? w _ h1)]
        exact h1)
      have HX0 := Lib.hid (show ∀ x, Ext wr.drew x → Ext w x from fun x hx => hE1.trans hx)
      have hs := Hst.out m hlt
      rw [hF, hG, hr] at hs
      have Hs := Lib.hid hs
      have x1 : ((m + 1 : Nat) : Int) < (n : Int) := by omega
      have x3 : (m : Int) ≤ 140737488355328 := by omega
      clear hc hF hG hE1 hs hr
      go_upto_region 4 with (fail)
      refine wp_region_lexA (by kernel_rfl) (by kernel_rfl) ?_
      refine lx_e (.slice (some ⟨b, off, none⟩) n c) [] (by kernel_rfl) rfl (by rfl) (fun w1 hw1 => ?_) ?_
      · simp only [pk, lexVals]
        go_simp
        exact ⟨Ext.refl _, rfl⟩
      refine lx_e (.int .i64 ((m + 1 : Nat) : Int)) [] (by kernel_rfl) rfl (by rfl) (fun w1 hw1 => ?_) ?_
      · simp only [pk, lexVals]
        go_simp
        exact ⟨Ext.refl _, rfl⟩
      refine lx_e (.int .i64 (m : Int)) [(0, 11)] (by kernel_rfl) rfl (by rfl) (fun w1 hw1 => ?_) ?_
      · simp only [pk, nthSp, lexVals]
        go_simp
        exact ⟨Ext.refl _, val_int (by rw [IntKind.wrap_i64]; omega)⟩
      refine lx_e (.pointer (some ⟨b, off + m * 16, none⟩)) [(2, 10), (0, 12)] (by kernel_rfl) rfl (by rfl) (fun w1 hw1 => ?_) ?_
      · simp only [pk, nthSp, lexVals]
        exact lu_idx rfl rfl rfl (by omega)
      refine lx_e (.agg (rowArr 16 fun j => .int .u8 (F j))) [(0, 13)] (by kernel_rfl) rfl (by rfl) (fun w1 hw1 => ?_) ?_
      · simp only [pk, nthSp, lexVals]
        exact lu_tok rfl rfl (fun j hj => by rw [Ext.cell (hw1) (World.block_lt_of_cell? _ _ (HC0.out j hj))]; exact HC0.out j hj)
      refine lx_e (.slice (some ⟨b, off, none⟩) n c) [] (by kernel_rfl) rfl (by rfl) (fun w1 hw1 => ?_) ?_
      · simp only [pk, lexVals]
        go_simp
        exact ⟨Ext.refl _, rfl⟩
      refine lx_e (.int .i64 ((m + 1 : Nat) : Int)) [] (by kernel_rfl) rfl (by rfl) (fun w1 hw1 => ?_) ?_
      · simp only [pk, lexVals]
        go_simp
        exact ⟨Ext.refl _, rfl⟩
      refine lx_e (.pointer (some ⟨b, off + (m + 1) * 16, none⟩)) [(1, 15), (0, 16)] (by kernel_rfl) rfl (by rfl) (fun w1 hw1 => ?_) ?_
      · simp only [pk, nthSp, lexVals]
        exact lu_idx rfl rfl rfl (by omega)
      refine lx_e (.agg (rowArr 16 fun j => .int .u8 (G j))) [(0, 17)] (by kernel_rfl) rfl (by rfl) (fun w1 hw1 => ?_) ?_
      · simp only [pk, nthSp, lexVals]
        exact lu_tok rfl rfl (fun j hj => by rw [Ext.cell (hw1) (World.block_lt_of_cell? _ _ (HC1.out j hj))]; exact HC1.out j hj)
      refine lx_e (.int .i64 (cmpTok F G)) [(4, 14), (0, 18)] (by kernel_rfl) rfl (by rfl) (fun w1 hw1 => ?_) ?_
      · simp only [pk, nthSp, lexVals]
        have hm := compare_any F G HF.out HG.out w1
        have HM := Lib.hid hm
        clear hm hw1
        go_simp
        refine HM.out.mono ?_
        rintro e w2 ⟨rfl, hE2⟩
        exact ⟨_, rfl, hE2, rfl⟩
      refine lx_e (.bool (decide (0 ≤ cmpTok F G))) [(0, 19)] (by kernel_rfl) rfl (by rfl) (fun w1 hw1 => ?_) ?_
      · simp only [pk, nthSp, lexVals]
        go_simp
        exact ⟨Ext.refl _, rfl⟩
      refine lx_stopA (by rfl) fun w7 hw7 => ?_
      have HE7 := Lib.hid (HX0.out w7 hw7)
      clear hw7
      simp only [rv, pf, lexVals]
      simp only [Act.put, List.setIfInBounds_toArray, List.set_cons_zero, List.set_cons_succ]
      by_cases hcm : 0 ≤ cmpTok F G
      · have hR := Hs.out
        rw [if_pos hcm] at hR
        rw [show decide (0 ≤ cmpTok F G) = true from decide_eq_true hcm]
        go_wp2_with fail
        go_ret
        exact ⟨by rw [hR]; rfl, HE7.out⟩
      · have hR := Hs.out
        rw [if_neg hcm] at hR
        have HR := Lib.hid hR
        rw [show decide (0 ≤ cmpTok F G) = false from decide_eq_false hcm]
        clear hR
        go_wp2_with fail
        go_roundw
        case rel => exact ⟨m + 1, by omega, by go_num, HR.out.symm, HE7.out⟩
        case measure => simp [intOf]; omega
    · have x1 : ¬ ((m + 1 : Nat) : Int) < (n : Int) := by omega
      have hR := Hen.out m (by omega)
      rw [hr] at hR
      go_wp2_with fail
      go_ret
      exact ⟨rfl, HE.out⟩

/-- Tokens' cells. -/
def tk1 (t : Nat → Int) : List Value := (List.range 16).map fun j => .int .u8 (t j)
def tkC : List (Nat → Int) → List Value
  | [] => []
  | t :: ts => tk1 t ++ tkC ts
theorem tk1_length (t : Nat → Int) : (tk1 t).length = 16 := by simp [tk1]
theorem tk1_get (t : Nat → Int) (j : Nat) (hj : j < 16) : (tk1 t)[j]? = some (.int .u8 (t j)) := by
  unfold tk1
  rw [List.getElem?_map, List.getElem?_range hj]
  rfl
theorem tkC_length : ∀ ts : List (Nat → Int), (tkC ts).length = ts.length * 16
  | [] => rfl
  | t :: ts => by rw [tkC, List.length_append, tk1_length, tkC_length ts, List.length_cons]; omega
theorem tkC_append : ∀ (ts us : List (Nat → Int)), tkC (ts ++ us) = tkC ts ++ tkC us
  | [], us => rfl
  | t :: ts, us => by rw [List.cons_append, tkC, tkC, tkC_append ts us, List.append_assoc]
theorem tkC_get : ∀ (ts : List (Nat → Int)) (i j : Nat), i < ts.length → j < 16 → (tkC ts)[i * 16 + j]? = some (.int .u8 ((ts.getD i fun _ => 0) j))
  | [], i, j, h, _ => by simp at h
  | t :: ts, 0, j, _, hj => by
    rw [tkC, List.getElem?_append_left (by rw [tk1_length]; omega), Nat.zero_mul, Nat.zero_add, tk1_get t j hj]
    rfl
  | t :: ts, i + 1, j, h, hj => by
    rw [tkC, List.getElem?_append_right (by rw [tk1_length]; omega), tk1_length, show (i + 1) * 16 + j - 16 = i * 16 + j by omega, tkC_get ts i j (by simpa using h) hj]
    simp
theorem own_ts {w : World} {B : Nat} {v : Value} {n : Nat} {ts : List (Nat → Int)} (h : w.ownsRow B 30 16 v n (tkC ts)) (hb : ∀ t ∈ ts, ∀ j, j < 16 → 0 ≤ t j ∧ t j < 256) (hs : n ≤ 140737488355328) : ∃ a c, v = .slice a n c ∧ TsAt w a n c ts := by
  have hl : ts.length = n := by
    have := h.1
    rw [tkC_length] at this
    omega
  rcases h.2 with ⟨rfl, rfl⟩ | ⟨g, cap, cur, rfl, _, _, hc1, hc2, _, _⟩
  · exact ⟨none, 0, rfl, hl, Nat.le_refl _, by omega, by omega, hb, fun h0 => by omega, fun _ => rfl⟩
  · refine ⟨_, cap, rfl, hl, hc1, by unfold maxLen at hc2; omega, hs, hb, fun h0 => ⟨g, 0, rfl, fun i hi j hj => ?_⟩, fun h0 => by cases h0⟩
    have h1 := h.cells (g := g) rfl (i * 16 + j) _ (tkC_get ts i j (by omega) hj)
    rw [addr_add] at h1
    rw [← h1]
    simp

set_option maxRecDepth 100000 in
theorem info_tok : (Tryd.prog.info? 30).map (fun i => (i.zero, i.size, i.bytes)) = some (some (.agg (rowArr 16 fun _ => .int .u8 0)), 16, 16) := by kernel_rfl

theorem append_tk {w : World} {ops : Array Oper} {rest : List Oper} {o : Oper} {a : Act} {Q : Exit → Act → World → Prop} (hgd : o.guard = none) (s x : Operand) (ho : o.op = .call { callee := .builtin .append, args := #[s, x], argTypes := #[31, 31] })
    (B : Nat) (v : Value) (n : Nat) (ts : List (Nat → Int)) (hs : a.eval s = v) (hown : w.ownsRow B 30 16 v n (tkC ts))
    (q c : Nat) (t : Nat → Int) (hx : a.eval x = .slice (some ⟨q, 0, none⟩) 1 c) (hq : ∀ j, j < 16 → w.cell? ⟨q, j, none⟩ = some (.int .u8 (t j))) (hsz : n ≤ 1000000) (hB : B ≤ w.heap.size)
    (h : ∀ v' w', w'.ownsRow B 30 16 v' (n + 1) (tkC (ts ++ [t])) → w.grownBy w' v.ownBlock → wpList Tryd.prog ops Q rest (a.put o.dst v') w') : wpList Tryd.prog ops Q (o :: rest) a w := by
  obtain ⟨i0, hi, hz0, hz1, hz2⟩ := info_parts info_tok
  refine wpList_append_own w hgd s x 31 ho B 30 i0 (.agg (rowArr 16 fun _ => .int .u8 0)) 16 16 Tryd.underlying31 hi hz0 hz1 hz2 (by kernel_rfl) (by decide) v n (tkC ts) hs hown ⟨q, 0, none⟩ 1 c (tk1 t) hx (by rw [tk1_length]) (fun j u hu => ?_) (fun u hu => ?_) (by unfold maxLen; omega) (by omega) hB ?_
  · have hj : j < 16 := by
      have := (List.getElem?_eq_some_iff.1 hu).1
      rwa [tk1_length] at this
    rw [tk1_get t j hj] at hu
    obtain rfl := Option.some.inj hu
    rw [addr_add, Nat.zero_add]
    exact hq j hj
  · obtain ⟨j, _, rfl⟩ := List.mem_map.1 hu
    rfl
  · intro v' w' h1 h2 _
    refine h v' w' ?_ h2
    rw [tkC_append, tkC, tkC, List.append_nil]
    exact h1

theorem own_ts1 {w : World} {B : Nat} {a : Option Addr} {n c : Nat} {ts : List (Nat → Int)} (h : w.ownsRow B 30 16 (.slice a n c) n (tkC ts)) (hb : ∀ t ∈ ts, ∀ j, j < 16 → 0 ≤ t j ∧ t j < 256) (hs : n ≤ 140737488355328) : TsAt w a n c ts := by
  obtain ⟨a1, c1, h1, h2⟩ := own_ts h hb hs
  simp only [Value.slice.injEq, true_and] at h1
  obtain ⟨rfl, rfl⟩ := h1
  exact h2

theorem cmp_step (F G : Nat → Int) (k : Nat) (hk : k < 16) : cmpI (((List.range 16).map F).drop k) (((List.range 16).map G).drop k) = if F k < G k then -1 else if G k < F k then 1 else cmpI (((List.range 16).map F).drop (k + 1)) (((List.range 16).map G).drop (k + 1)) := by
  rw [List.drop_eq_getElem_cons (l := (List.range 16).map F) (by simpa using hk), List.drop_eq_getElem_cons (l := (List.range 16).map G) (by simpa using hk)]
  simp only [cmpI, List.getElem_map, List.getElem_range]

/-- A byte's place in a token that lies in a block of its own. -/
theorem lu_at {w : World} {o : Oper} {ev : Operand → Value} {x y : Operand} {g k : Nat} (ho : o.op = .indexAddr 30 x y) (hx : ev x = .pointer (some ⟨g, 0, none⟩)) (hy : ev y = .int .i64 (k : Int)) (hk : k < 16) :
    lexUpon Tryd.prog w (.ex (.pointer (some ⟨g, k, none⟩))) ((execOp ev o).run Tryd.prog w) := by
  have hr : (Instr.indexAt 30 (.pointer (some ⟨g, 0, none⟩)) (.int .i64 (k : Int))).run Tryd.prog w = .ok (.pointer (some ⟨g, k, none⟩)) w := by
    have hb : (0 : Int) ≤ (k : Int) ∧ (k : Int) < ((16 : Nat) : Int) := by omega
    simp only [Instr.indexAt, asIntOf, Instr.sureAddr, Sem.run_bind, Sem.run_pure, Result.andThen_ok, run_underlying Tryd.underlying30, hb, and_self, if_true, size_byte11, Int.toNat_natCast, add_none, Nat.zero_add, Nat.mul_one]
  simp only [execOp, ho, hx, hy, Sem.run_bind, hr, Result.andThen_ok, Sem.run_pure]
  exact ⟨Ext.refl _, rfl⟩

theorem lu_u8 {w : World} {o : Oper} {ev : Operand → Value} {x : Operand} {ad : Addr} {v : Value} (ho : o.op = .load 5 x) (hx : ev x = .pointer (some ad)) (hc : w.cell? ad = some v) :
    lexUpon Tryd.prog w (.ex v) ((execOp ev o).run Tryd.prog w) := by
  have hagg : (isAgg 5).run Tryd.prog w = .ok false w := by
    unfold isAgg
    rw [Sem.run_bind, run_underlying Tryd.underlying5 w]
    rfl
  have hv : (loadVar 5 ad).run Tryd.prog w = .ok v w := by
    simp [loadVar, Sem.run_bind, hagg, hc]
  simp only [execOp, ho, hx, Instr.loadAt, Instr.sureAddr, Sem.run_bind, Sem.run_pure, Result.andThen_ok, hv]
  exact ⟨Ext.refl _, rfl⟩

set_option maxHeartbeats 1000000 in
set_option maxRecDepth 100000 in
theorem refLess_any (F G : Nat → Int) (w : World) :
    Calls Tryd.prog 85 #[.agg (rowArr 16 fun j => .int .u8 (F j)), .agg (rowArr 16 fun j => .int .u8 (G j))] w fun e w' => e = .returned (.bool (decide (cmpTok F G < 0))) ∧ Ext w w' := by
  obtain ⟨w2, hw2, hE2, hF2, hG2⟩ := tok_box w F G 30
  have Hw2 := Lib.hid hw2
  have HE2 := Lib.hid hE2
  have HF2 := Lib.hid hF2
  have HG2 := Lib.hid hG2
  have Hst := Lib.hid (cmp_step F G)
  have Hen := Lib.hid (show cmpI (((List.range 16).map F).drop 16) (((List.range 16).map G).drop 16) = 0 from rfl)
  have H0 := Lib.hid (show cmpI (((List.range 16).map F).drop 0) (((List.range 16).map G).drop 0) = cmpTok F G from rfl)
  obtain ⟨R, hR⟩ : ∃ R, cmpTok F G = R := ⟨_, rfl⟩
  rw [hR] at H0 ⊢
  clear hw2 hE2 hF2 hG2 hR
  go_enter Tryd.func85, Tryd.ntmps85
  go_upto_region 1 with (fail)
  refine wp_world (w' := w2) Hw2.out ?_
  obtain ⟨g, hg⟩ : ∃ g, w.heap.size = g := ⟨_, rfl⟩
  rw [hg] at HF2 HG2 ⊢
  clear hg Hw2
  obtain ⟨g1, hg1⟩ : ∃ g1, g + 1 = g1 := ⟨_, rfl⟩
  rw [hg1] at HG2 ⊢
  clear hg1
  go_wp2
  go_loopw [5] (fun i wr => ∃ k : Nat, k ≤ 16 ∧ i = .int .i64 (k : Int) ∧ cmpI (((List.range 16).map F).drop k) (((List.range 16).map G).drop k) = R ∧ Ext w2 wr) (fun i _ => 16 - (intOf i).toNat)
  case atStart => exact ⟨0, Nat.zero_le _, rfl, H0.out, Ext.refl _⟩
  case round =>
    obtain ⟨k, hm, rfl, hr, hE⟩ := hrel
    have HE := Lib.hid hE
    by_cases hlt : k < 16
    · have Hk := Lib.hid hlt
      have hs := Hst.out k hlt
      rw [hr] at hs
      have Hs := Lib.hid hs
      have HF0 := Lib.hid (show ∀ x, Ext wr.drew x → x.cell? ⟨g, k, none⟩ = some (.int .u8 (F k)) from fun x hx => (rowIs_of (hx.keep (show wr.drew.heap[g]? = _ from hE.keep HF2.out))).cell hlt)
      have HG0 := Lib.hid (show ∀ x, Ext wr.drew x → x.cell? ⟨g1, k, none⟩ = some (.int .u8 (G k)) from fun x hx => (rowIs_of (hx.keep (show wr.drew.heap[g1]? = _ from hE.keep HG2.out))).cell hlt)
      have HX0 := Lib.hid (show ∀ x, Ext wr.drew x → Ext w2 x from fun x hx => hE.drew.trans hx)
      have x1 : (k : Int) < 16 := by omega
      clear hs hr hE
      go_upto_region 4 with (fail)
      refine wp_region_lexA (by kernel_rfl) (by kernel_rfl) ?_
      refine lx_e (.int .i64 (k : Int)) [] (by kernel_rfl) rfl (by rfl) (fun w1 hw1 => ?_) ?_
      · simp only [pk, lexVals]
        go_simp
        exact ⟨Ext.refl _, rfl⟩
      refine lx_e (.pointer (some ⟨g, k, none⟩)) [(0, 10)] (by kernel_rfl) rfl (by rfl) (fun w1 hw1 => ?_) ?_
      · simp only [pk, nthSp, lexVals]
        exact lu_at rfl rfl rfl Hk.out
      refine lx_e (.int .u8 (F k)) [(0, 11)] (by kernel_rfl) rfl (by rfl) (fun w1 hw1 => ?_) ?_
      · simp only [pk, nthSp, lexVals]
        exact lu_u8 rfl rfl (HF0.out w1 hw1)
      refine lx_e (.int .i64 (k : Int)) [] (by kernel_rfl) rfl (by rfl) (fun w1 hw1 => ?_) ?_
      · simp only [pk, lexVals]
        go_simp
        exact ⟨Ext.refl _, rfl⟩
      refine lx_e (.pointer (some ⟨g1, k, none⟩)) [(0, 13)] (by kernel_rfl) rfl (by rfl) (fun w1 hw1 => ?_) ?_
      · simp only [pk, nthSp, lexVals]
        exact lu_at rfl rfl rfl Hk.out
      refine lx_e (.int .u8 (G k)) [(0, 14)] (by kernel_rfl) rfl (by rfl) (fun w1 hw1 => ?_) ?_
      · simp only [pk, nthSp, lexVals]
        exact lu_u8 rfl rfl (HG0.out w1 hw1)
      refine lx_e (.bool (decide (F k ≠ G k))) [(3, 12), (0, 15)] (by kernel_rfl) rfl (by rfl) (fun w1 hw1 => ?_) ?_
      · simp only [pk, nthSp, lexVals]
        go_simp
        exact ⟨Ext.refl _, by first | rfl | (show Value.bool _ = Value.bool _; congr 1; simp)⟩
      refine lx_stopA (by rfl) fun w7 hw7 => ?_
      have HE7 := Lib.hid (HX0.out w7 hw7)
      clear hw7
      simp only [rv, pf, lexVals]
      simp only [Act.put, List.setIfInBounds_toArray, List.set_cons_zero, List.set_cons_succ]
      by_cases hd : F k = G k
      · have hR : R = cmpI (((List.range 16).map F).drop (k + 1)) (((List.range 16).map G).drop (k + 1)) := by
          have h2 := Hs.out
          rw [if_neg (by omega), if_neg (by omega)] at h2
          exact h2
        have HR := Lib.hid hR
        rw [show decide (F k ≠ G k) = false from decide_eq_false (fun h => h hd)]
        clear hR hd
        go_wp2_with fail
        go_roundw
        case rel => exact ⟨k + 1, by omega, by go_num, HR.out.symm, HE7.out⟩
        case measure => simp [intOf]; omega
      · have hR : decide (F k < G k) = decide (R < 0) := by
          have h2 := Hs.out
          by_cases h3 : F k < G k
          · rw [if_pos h3] at h2
            rw [h2, decide_eq_true h3]
            rfl
          · rw [if_neg h3, if_pos (by omega)] at h2
            rw [h2, decide_eq_false h3]
            rfl
        have HR := Lib.hid hR
        rw [show decide (F k ≠ G k) = true from decide_eq_true hd]
        have HF1 := Lib.hid (show ∀ x, Ext w7.drew x → x.cell? ⟨g, k, none⟩ = some (.int .u8 (F k)) from fun x hx => (rowIs_of (hx.keep (show w7.drew.heap[g]? = _ from HE7.out.keep HF2.out))).cell Hk.out)
        have HG1 := Lib.hid (show ∀ x, Ext w7.drew x → x.cell? ⟨g1, k, none⟩ = some (.int .u8 (G k)) from fun x hx => (rowIs_of (hx.keep (show w7.drew.heap[g1]? = _ from HE7.out.keep HG2.out))).cell Hk.out)
        have HX1 := Lib.hid (show ∀ x, Ext w7.drew x → Ext w2 x from fun x hx => HE7.out.drew.trans hx)
        clear hR hd HF0 HG0 HX0
        have HF0 := HF1
        have HG0 := HG1
        have HX0 := HX1
        clear HF1 HG1 HX1 HE7
        go_upto_region 5 with (fail)
        refine wp_region_lexA (by kernel_rfl) (by kernel_rfl) ?_
        refine lx_e (.int .i64 (k : Int)) [] (by kernel_rfl) rfl (by rfl) (fun w1 hw1 => ?_) ?_
        · simp only [pk, lexVals]
          go_simp
          exact ⟨Ext.refl _, rfl⟩
        refine lx_e (.pointer (some ⟨g, k, none⟩)) [(0, 17)] (by kernel_rfl) rfl (by rfl) (fun w1 hw1 => ?_) ?_
        · simp only [pk, nthSp, lexVals]
          exact lu_at rfl rfl rfl Hk.out
        refine lx_e (.int .u8 (F k)) [(0, 18)] (by kernel_rfl) rfl (by rfl) (fun w1 hw1 => ?_) ?_
        · simp only [pk, nthSp, lexVals]
          exact lu_u8 rfl rfl (HF0.out w1 hw1)
        refine lx_e (.int .i64 (k : Int)) [] (by kernel_rfl) rfl (by rfl) (fun w1 hw1 => ?_) ?_
        · simp only [pk, lexVals]
          go_simp
          exact ⟨Ext.refl _, rfl⟩
        refine lx_e (.pointer (some ⟨g1, k, none⟩)) [(0, 20)] (by kernel_rfl) rfl (by rfl) (fun w1 hw1 => ?_) ?_
        · simp only [pk, nthSp, lexVals]
          exact lu_at rfl rfl rfl Hk.out
        refine lx_e (.int .u8 (G k)) [(0, 21)] (by kernel_rfl) rfl (by rfl) (fun w1 hw1 => ?_) ?_
        · simp only [pk, nthSp, lexVals]
          exact lu_u8 rfl rfl (HG0.out w1 hw1)
        refine lx_e (.bool (decide (F k < G k))) [(3, 19), (0, 22)] (by kernel_rfl) rfl (by rfl) (fun w1 hw1 => ?_) ?_
        · simp only [pk, nthSp, lexVals]
          go_simp
          exact ⟨Ext.refl _, rfl⟩
        refine lx_e (.bool (decide (F k < G k))) [(0, 23)] (by kernel_rfl) rfl (by rfl) (fun w1 hw1 => ?_) ?_
        · simp only [pk, nthSp, lexVals]
          go_simp
          exact ⟨Ext.refl _, rfl⟩
        refine lx_stopA (by rfl) fun w7 hw7 => ?_
        have HE7 := Lib.hid (HX0.out w7 hw7)
        clear hw7
        simp only [rv, pf, lexVals]
        simp only [Act.put, List.setIfInBounds_toArray, List.set_cons_zero, List.set_cons_succ]
        go_wp2_with fail
        go_ret
        exact ⟨by rw [← HR.out]; rfl, HE2.out.trans HE7.out⟩
    · obtain rfl : k = 16 := by omega
      have hR : R = 0 := by rw [← hr]; exact Hen.out
      go_wp2_with fail
      go_ret
      exact ⟨by first | rfl | (rw [hR]; rfl), HE2.out.trans HE.out⟩

set_option maxHeartbeats 1000000 in
set_option maxRecDepth 100000 in
theorem refSorted_any (a : Option Addr) (n c : Nat) (ts : List (Nat → Int)) (w : World) (h : TsAt w a n c ts) :
    Calls Tryd.prog 73 #[.slice a n c] w fun e w' => e = .returned (.bool (risesB ts)) ∧ Ext w w' := by
  have hlen := h.len
  have hsm := h.small
  have H := Lib.hid h
  have Hlen := Lib.hid hlen
  have Hst := Lib.hid (show ∀ k, k + 1 < n → _ from fun k hk => rises_step ts k (by omega))
  have Hen := Lib.hid (show ∀ k, n ≤ k + 1 → _ from fun k hk => rises_end ts k (by omega))
  have H0 := Lib.hid (show risesB (ts.drop 0) = risesB ts from rfl)
  obtain ⟨R, hR⟩ : ∃ R, risesB ts = R := ⟨_, rfl⟩
  rw [hR] at H0 ⊢
  clear h hlen hR
  go_enter Tryd.func73, Tryd.ntmps73
  go_wp2
  go_loopw [3] (fun i wr => ∃ m : Nat, m ≤ n ∧ i = .int .i64 (m : Int) ∧ risesB (ts.drop m) = R ∧ Ext w wr) (fun i _ => n + 1 - (intOf i).toNat)
  case atStart => exact ⟨0, Nat.zero_le _, rfl, H0.out, Ext.refl _⟩
  case round =>
    obtain ⟨m, hm, rfl, hr, hE⟩ := hrel
    have HE := Lib.hid hE
    clear hE
    have x4 : (m : Int) ≤ 140737488355328 := by omega
    have x5 : (0 : Int) ≤ (m : Int) := by omega
    by_cases hlt : m + 1 < n
    · obtain ⟨b, off, rfl, hc⟩ := H.out.at_ (by omega)
      obtain ⟨F, hF⟩ : ∃ F, (ts.getD m fun _ => 0) = F := ⟨_, rfl⟩
      obtain ⟨G, hG⟩ : ∃ G, (ts.getD (m + 1) fun _ => 0) = G := ⟨_, rfl⟩
      have hE1 : Ext w wr.drew := HE.out.drew
      have HC0 := Lib.hid (show ∀ j, j < 16 → wr.drew.cell? ⟨b, off + m * 16 + j, none⟩ = some (.int .u8 (F j)) from fun j hj => by
        have h1 := hc m (by omega) j hj
        rw [hF] at h1
        rw [Ext.cell hE1 (World.block_lt_of_cell? w _ h1)]
        exact h1)
      have HC1 := Lib.hid (show ∀ j, j < 16 → wr.drew.cell? ⟨b, off + (m + 1) * 16 + j, none⟩ = some (.int .u8 (G j)) from fun j hj => by
        have h1 := hc (m + 1) hlt j hj
        rw [hG] at h1
        rw [Ext.cell hE1 (World.block_lt_of_cell? w _ h1)]
        exact h1)
      have HX0 := Lib.hid (show ∀ x, Ext wr.drew x → Ext w x from fun x hx => hE1.trans hx)
      have hs := Hst.out m hlt
      rw [hF, hG, hr] at hs
      have Hs := Lib.hid hs
      have x1 : (m : Int) + 1 < (n : Int) := by omega
      clear hc hF hG hE1 hs hr
      go_upto_region 4 with (fail)
      refine wp_region_lexA (by kernel_rfl) (by kernel_rfl) ?_
      refine lx_e (.slice (some ⟨b, off, none⟩) n c) [] (by kernel_rfl) rfl (by rfl) (fun w1 hw1 => ?_) ?_
      · simp only [pk, lexVals]
        go_simp
        exact ⟨Ext.refl _, rfl⟩
      refine lx_e (.int .i64 (m : Int)) [] (by kernel_rfl) rfl (by rfl) (fun w1 hw1 => ?_) ?_
      · simp only [pk, lexVals]
        go_simp
        exact ⟨Ext.refl _, rfl⟩
      refine lx_e (.pointer (some ⟨b, off + m * 16, none⟩)) [(1, 11), (0, 12)] (by kernel_rfl) rfl (by rfl) (fun w1 hw1 => ?_) ?_
      · simp only [pk, nthSp, lexVals]
        exact lu_idx rfl rfl rfl (by omega)
      refine lx_e (.agg (rowArr 16 fun j => .int .u8 (F j))) [(0, 13)] (by kernel_rfl) rfl (by rfl) (fun w1 hw1 => ?_) ?_
      · simp only [pk, nthSp, lexVals]
        exact lu_tok rfl rfl (fun j hj => by rw [Ext.cell (hw1) (World.block_lt_of_cell? _ _ (HC0.out j hj))]; exact HC0.out j hj)
      refine lx_e (.slice (some ⟨b, off, none⟩) n c) [] (by kernel_rfl) rfl (by rfl) (fun w1 hw1 => ?_) ?_
      · simp only [pk, lexVals]
        go_simp
        exact ⟨Ext.refl _, rfl⟩
      refine lx_e (.int .i64 (m : Int)) [] (by kernel_rfl) rfl (by rfl) (fun w1 hw1 => ?_) ?_
      · simp only [pk, lexVals]
        go_simp
        exact ⟨Ext.refl _, rfl⟩
      refine lx_e (.int .i64 ((m + 1 : Nat) : Int)) [(0, 16)] (by kernel_rfl) rfl (by rfl) (fun w1 hw1 => ?_) ?_
      · simp only [pk, nthSp, lexVals]
        go_simp
        exact ⟨Ext.refl _, val_int (by rw [IntKind.wrap_i64]; omega)⟩
      refine lx_e (.pointer (some ⟨b, off + (m + 1) * 16, none⟩)) [(2, 15), (0, 17)] (by kernel_rfl) rfl (by rfl) (fun w1 hw1 => ?_) ?_
      · simp only [pk, nthSp, lexVals]
        exact lu_idx rfl rfl rfl (by omega)
      refine lx_e (.agg (rowArr 16 fun j => .int .u8 (G j))) [(0, 18)] (by kernel_rfl) rfl (by rfl) (fun w1 hw1 => ?_) ?_
      · simp only [pk, nthSp, lexVals]
        exact lu_tok rfl rfl (fun j hj => by rw [Ext.cell (hw1) (World.block_lt_of_cell? _ _ (HC1.out j hj))]; exact HC1.out j hj)
      refine lx_e (.bool (decide (cmpTok F G < 0))) [(5, 14), (0, 19)] (by kernel_rfl) rfl (by rfl) (fun w1 hw1 => ?_) ?_
      · simp only [pk, nthSp, lexVals]
        have hm := refLess_any F G w1
        have HM := Lib.hid hm
        clear hm hw1
        go_simp
        refine HM.out.mono ?_
        rintro e w2 ⟨rfl, hE2⟩
        exact ⟨_, rfl, hE2, rfl⟩
      refine lx_e (.bool (!decide (cmpTok F G < 0))) [(0, 20)] (by kernel_rfl) rfl (by rfl) (fun w1 hw1 => ?_) ?_
      · simp only [pk, nthSp, lexVals]
        go_simp
        exact ⟨Ext.refl _, rfl⟩
      refine lx_stopA (by rfl) fun w7 hw7 => ?_
      have HE7 := Lib.hid (HX0.out w7 hw7)
      clear hw7
      simp only [rv, pf, lexVals]
      simp only [Act.put, List.setIfInBounds_toArray, List.set_cons_zero, List.set_cons_succ]
      by_cases hcm : cmpTok F G < 0
      · have hR := Hs.out
        rw [if_neg (by omega)] at hR
        have HR := Lib.hid hR
        rw [show (!decide (cmpTok F G < 0)) = false by rw [decide_eq_true hcm]; rfl]
        clear hR
        go_wp2_with fail
        go_roundw
        case rel => exact ⟨m + 1, by omega, by go_num, HR.out.symm, HE7.out⟩
        case measure => simp [intOf]; omega
      · have hR := Hs.out
        rw [if_pos (by omega)] at hR
        rw [show (!decide (cmpTok F G < 0)) = true by rw [decide_eq_false hcm]; rfl]
        go_wp2_with fail
        go_ret
        exact ⟨by first | rfl | (rw [hR]; rfl), HE7.out⟩
    · have x1 : ¬ (m : Int) + 1 < (n : Int) := by omega
      have hR := Hen.out m (by omega)
      rw [hr] at hR
      go_wp2_with fail
      go_ret
      exact ⟨by first | rfl | (rw [hR]; rfl), HE.out⟩

end Go.Proofs.YtihlpfdhallfpaaDoor
