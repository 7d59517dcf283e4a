/-
  Two tokens compared: the walks of bytes.Compare and keys.compare. No conditions.
  Slices of tokens: an element's place, an element loaded. No conditions.
  The walk of keys.Sorted. No conditions.
-/
import Derived.Test.YtldaligeckjhaaaLu
import Derived.Lib.BytesEntry
import Derived.Laws.Externs
namespace Go.Proofs.Ytldaligeckjhaaa
open Go.ChangeAt Go.ChangeShapes Go.RowKit Go.WideShapes

/-- The first byte that differs settles it. -/
def cmpI : List Int → List Int → Int
  | x :: a, y :: b => if x < y then -1 else if y < x then 1 else cmpI a b
  | _, _ => 0

theorem cmpI_bytes : ∀ (a b : List Int), a.length = b.length → (∀ x ∈ a, 0 ≤ x ∧ x < 256) → (∀ x ∈ b, 0 ≤ x ∧ x < 256) → Lib.compareBytes (u8s a) (u8s b) = cmpI a b
  | [], [], _, _, _ => rfl
  | [], _ :: _, h, _, _ => by cases h
  | _ :: _, [], h, _, _ => by cases h
  | x :: a, y :: b, h, ha, hb => by
    have ih := cmpI_bytes a b (by simpa using h) (fun z hz => ha z (List.mem_cons_of_mem _ hz)) (fun z hz => hb z (List.mem_cons_of_mem _ hz))
    have hx := ha x (List.mem_cons_self ..)
    have hy := hb y (List.mem_cons_self ..)
    show (if UInt8.ofNat x.toNat < UInt8.ofNat y.toNat then (-1 : Int) else if UInt8.ofNat y.toNat < UInt8.ofNat x.toNat then 1 else Lib.compareBytes (u8s a) (u8s b)) = _
    rw [ih]
    have lt : ∀ x y : Int, 0 ≤ x ∧ x < 256 → 0 ≤ y ∧ y < 256 → (UInt8.ofNat x.toNat < UInt8.ofNat y.toNat ↔ x < y) := by
      intro x y hx hy
      rw [UInt8.lt_iff_toNat_lt, UInt8.toNat_ofNat', UInt8.toNat_ofNat']
      omega
    simp only [lt x y hx hy, lt y x hy hx]
    rfl

theorem run_bytesOf_bs {P : Program} {w : World} {a : Option Addr} {n c : Nat} {xs : List Int} (hb : BsAt w a n c xs) : (Extern.Bytes.bytesOf (.slice a n c)).run P w = .ok ⟨(u8s xs).toArray⟩ w := by
  cases a with
  | none =>
    have h0 := hb.nil_ rfl
    have h1 := hb.cap
    have h2 := hb.len
    obtain rfl : xs = [] := List.eq_nil_of_length_eq_zero (by omega)
    rfl
  | some ad =>
    have hl := Lib.run_loadBytesX (P := P) w xs ad .empty (fun j x hx => hb.news j _ (by unfold bv; rw [List.getElem?_map, hx]; rfl))
    rw [hb.len] at hl
    change (Extern.Bytes.loadBytes ad n .empty).run P w = _
    rw [hl]
    congr 1
    apply ByteArray.ext
    show (#[] : Array UInt8) ++ (Lib.bytesOf xs).toArray = (u8s xs).toArray
    rw [Array.empty_append]
    rfl

theorem run_cmp_bs {P : Program} {w : World} {a b : Option Addr} {n c d : Nat} {xs ys : List Int} (ha : BsAt w a n c xs) (hb : BsAt w b n d ys) :
    (Extern.BytealgCompare.compare #[.slice a n c, .slice b n d]).run P w = .ok (.int .i64 (cmpI xs ys)) w := by
  change Sem.run P (do pure (goInt (Extern.BytealgCompare.cmp (← Extern.Bytes.bytesOf (.slice a n c)) (← Extern.Bytes.bytesOf (.slice b n d))))) w = _
  simp only [Sem.run_bind, run_bytesOf_bs ha, run_bytesOf_bs hb, Sem.run_pure, Result.andThen_ok]
  rw [Lib.cmp_eq, cmpI_bytes xs ys (by rw [ha.len, hb.len]) ha.byte hb.byte]
  rfl

set_option maxRecDepth 100000 in
theorem call_cmp (args : Array Value) (w : World) : (callFunc 75 args).run Try.prog w = ((Extern.BytealgCompare.compare args).run Try.prog w).andThen fun v w' => .ok (.value v) w' :=
  run_callFunc_extern Try.func75 (by kernel_rfl) (by kernel_rfl) (by kernel_rfl) (e := Extern.BytealgCompare.compare) (by kernel_rfl) args w

set_option maxRecDepth 100000 in
theorem bytesCompare_any {w : World} {a b : Option Addr} {n c d : Nat} {xs ys : List Int} (ha : BsAt w a n c xs) (hb : BsAt w b n d ys) :
    Calls Try.prog 45 #[.slice a n c, .slice b n d] w fun e w' => e = .returned (.int .i64 (cmpI xs ys)) ∧ w' = w := by
  have hr := run_cmp_bs (P := Try.prog) ha hb
  have HR := Lib.hid hr
  clear hr ha hb
  go_enter Try.func45, Try.ntmps45
  go_wp2
  rw [call_cmp, HR.out]
  simp only [Result.andThen]
  rw [Oper.upon_value]
  go_wp2
  go_ret
  exact ⟨rfl, rfl⟩

/-- The order of tokens. -/
def cmpTok (f g : Nat → Int) : Int := cmpI ((List.range 16).map f) ((List.range 16).map g)

theorem tok_box (w : World) (f g : Nat → Int) (T : TypeId) : ∃ w2, (w.alloc (.cells (rowArr 16 fun j => .int .u8 (f j)) T)).alloc (.cells (rowArr 16 fun j => .int .u8 (g j)) T) = w2 ∧ Ext w w2 ∧ w2.heap[w.heap.size]? = some (.cells (rowArr 16 fun j => .int .u8 (f j)) T (0, 0)) ∧ w2.heap[w.heap.size + 1]? = some (.cells (rowArr 16 fun j => .int .u8 (g j)) T (0, 0)) := by
  have e : (w.alloc (.cells (rowArr 16 fun j => .int .u8 (f j)) T)).heap.size = w.heap.size + 1 := by simp
  refine ⟨_, rfl, ((Ext.refl w).alloc _).alloc _, ?_, heap_new _ _ _ e.symm⟩
  rw [Below.heap_alloc _ _ _ (by rw [e]; omega)]
  exact heap_new w _ _ rfl

set_option maxHeartbeats 1000000 in
set_option maxRecDepth 100000 in
theorem compare_any (f g : Nat → Int) (hf : ∀ j, j < 16 → 0 ≤ f j ∧ f j < 256) (hg : ∀ j, j < 16 → 0 ≤ g j ∧ g j < 256) (w : World) :
    Calls Try.prog 87 #[.agg (rowArr 16 fun j => .int .u8 (f j)), .agg (rowArr 16 fun j => .int .u8 (g j))] w fun e w' => e = .returned (.int .i64 (cmpTok f g)) ∧ Ext w w' := by
  obtain ⟨w2, hw2, hE2, hF2, hG2⟩ := tok_box w f g 27
  have HA := Lib.hid (bs_row (rowIs_of hF2) hf (by omega))
  have HB := Lib.hid (bs_row (rowIs_of hG2) hg (by omega))
  have Hw2 := Lib.hid hw2
  have HE2 := Lib.hid hE2
  clear hf hg hw2 hE2 hF2 hG2
  go_enter Try.func87, Try.ntmps87
  go_upto_region 1 with (fail)
  refine wp_world (w' := w2) Hw2.out ?_
  obtain ⟨k, hk⟩ : ∃ k, w.heap.size = k := ⟨_, rfl⟩
  rw [hk] at HA HB ⊢
  clear hk Hw2
  have HX0 := Lib.hid (show ∀ x, Ext w2.drew x → Ext w x from fun x hx => HE2.out.trans (Ext.trans (Ext.refl w2).drew hx))
  have HXd := Lib.hid (show ∀ x, Ext w2.drew x → Ext w2 x from fun x hx => (Ext.trans (Ext.refl w2).drew hx))
  refine wp_region_lexA (by kernel_rfl) (by kernel_rfl) ?_
  refine lx_e (.slice (some ⟨k, 0, none⟩) 16 16) [] (by kernel_rfl) rfl (by rfl) (fun w1 hw1 => ?_) ?_
  · simp only [pk, lexVals]
    go_simp
    exact ⟨Ext.refl _, rfl⟩
  refine lx_e (.slice (some ⟨k + 1, 0, none⟩) 16 16) [] (by kernel_rfl) rfl (by rfl) (fun w1 hw1 => ?_) ?_
  · simp only [pk, lexVals]
    go_simp
    exact ⟨Ext.refl _, rfl⟩
  refine lx_e (.int .i64 (cmpTok f g)) [(1, 5), (0, 6)] (by kernel_rfl) rfl (by rfl) (fun w1 hw1 => ?_) ?_
  · simp only [pk, nthSp, lexVals]
    have hm := bytesCompare_any (HA.out.ext (HXd.out w1 hw1)) (HB.out.ext (HXd.out w1 hw1))
    have HM := Lib.hid hm
    clear hm hw1
    go_simp
    refine HM.out.mono ?_
    rintro e w2 ⟨rfl, rfl⟩
    exact ⟨_, rfl, Ext.refl _, rfl⟩
  refine lx_e (.int .i64 (cmpTok f g)) [(0, 7)] (by kernel_rfl) rfl (by rfl) (fun w1 hw1 => ?_) ?_
  · simp only [pk, nthSp, lexVals]
    go_simp
    exact ⟨Ext.refl _, rfl⟩
  refine lx_stopA rfl fun w' hw' => ?_
  have HW := Lib.hid (HX0.out w' hw')
  clear hw'
  simp only [rv, pf, lexVals]
  simp only [Act.put, List.setIfInBounds_toArray, List.set_cons_zero, List.set_cons_succ]
  go_wp2_with fail
  go_ret
  exact ⟨rfl, HW.out⟩

/-- A slice of the tokens 'ts'. -/
structure TsAt (w : World) (a : Option Addr) (n c : Nat) (ts : List (Nat → Int)) : Prop where
  len : ts.length = n
  cap : n ≤ c
  lim : c ≤ 9223372036854775807
  small : n ≤ 140737488355328
  byte : ∀ t ∈ ts, ∀ j, j < 16 → 0 ≤ t j ∧ t j < 256
  at_ : 0 < n → ∃ b off, a = some ⟨b, off, none⟩ ∧ ∀ i, i < n → ∀ j, j < 16 → w.cell? ⟨b, off + i * 16 + j, none⟩ = some (.int .u8 ((ts.getD i fun _ => 0) j))
  nil_ : a = none → c = 0

theorem TsAt.ext {w w' : World} {a : Option Addr} {n c : Nat} {ts : List (Nat → Int)} (h : TsAt w a n c ts) (he : Ext w w') : TsAt w' a n c ts := by
  refine ⟨h.len, h.cap, h.lim, h.small, h.byte, fun hn => ?_, h.nil_⟩
  obtain ⟨b, off, ha, hc⟩ := h.at_ hn
  refine ⟨b, off, ha, fun i hi j hj => ?_⟩
  have h1 := hc i hi j hj
  rw [Ext.cell he (World.block_lt_of_cell? w _ h1)]
  exact h1

theorem TsAt.tok {w : World} {a : Option Addr} {n c : Nat} {ts : List (Nat → Int)} (h : TsAt w a n c ts) (i : Nat) (hi : i < n) : ∀ j, j < 16 → 0 ≤ (ts.getD i fun _ => 0) j ∧ (ts.getD i fun _ => 0) j < 256 := by
  have hl : i < ts.length := by rw [h.len]; exact hi
  rw [List.getD_eq_getElem?_getD, List.getElem?_eq_getElem hl]
  exact h.byte _ (List.getElem_mem hl)

theorem add_none (b off k : Nat) : (⟨b, off, none⟩ : Addr).add k = ⟨b, off + k, none⟩ := by
  unfold Addr.add
  split <;> simp_all

set_option maxRecDepth 100000 in
theorem size_tok (w : World) : (sizeOf 27).run Try.prog w = .ok 16 w := by kernel_rfl

/-- A token's place in a slice. -/
theorem lu_idx {w : World} {o : Oper} {ev : Operand → Value} {x y : Operand} {b off n c k : Nat} (ho : o.op = .indexAddr 28 x y) (hx : ev x = .slice (some ⟨b, off, none⟩) n c) (hy : ev y = .int .i64 (k : Int)) (hk : k < n) :
    lexUpon Try.prog w (.ex (.pointer (some ⟨b, off + k * 16, none⟩))) ((execOp ev o).run Try.prog w) := by
  have hr : (Instr.indexAt 28 (.slice (some ⟨b, off, none⟩) n c) (.int .i64 (k : Int))).run Try.prog w = .ok (.pointer (some ⟨b, off + k * 16, none⟩)) w := by
    have hb : (0 : Int) ≤ (k : Int) ∧ (k : Int) < (n : Int) := by omega
    simp only [Instr.indexAt, asIntOf, Sem.run_bind, Sem.run_pure, Result.andThen_ok, run_underlying Try.underlying28, hb, and_self, if_true, size_tok, Int.toNat_natCast, add_none]
  simp only [execOp, ho, hx, hy, Sem.run_bind, hr, Result.andThen_ok, Sem.run_pure]
  exact ⟨Ext.refl _, rfl⟩

/-- A token loaded. -/
theorem lu_tok {w : World} {o : Oper} {ev : Operand → Value} {x : Operand} {b off : Nat} {t : Nat → Int} (ho : o.op = .load 27 x) (hx : ev x = .pointer (some ⟨b, off, none⟩)) (hc : ∀ j, j < 16 → w.cell? ⟨b, off + j, none⟩ = some (.int .u8 (t j))) :
    lexUpon Try.prog w (.ex (.agg (rowArr 16 fun j => .int .u8 (t j)))) ((execOp ev o).run Try.prog w) := by
  have h1 := run_loadCells_list (P := Try.prog) w ⟨b, off, none⟩ ((List.range 16).map fun j => Value.int .u8 (t j)) (fun j v hv => by
    have hj : j < 16 := by
      have := (List.getElem?_eq_some_iff.1 hv).1
      simpa using this
    rw [List.getElem?_map, List.getElem?_range hj] at hv
    obtain rfl := Option.some.inj hv
    rw [add_none]
    exact hc j hj)
  rw [List.length_map, List.length_range] at h1
  have hagg : (isAgg 27).run Try.prog w = .ok true w := by
    unfold isAgg
    rw [Sem.run_bind, run_underlying Try.underlying27 w]
    rfl
  have hv : (loadVar 27 ⟨b, off, none⟩).run Try.prog w = .ok (.agg (rowArr 16 fun j => .int .u8 (t j))) w := by
    simp only [loadVar, Sem.run_bind, hagg, size_tok, Result.andThen_ok, if_true, h1, Sem.run_pure]
    rfl
  simp only [execOp, ho, hx, Instr.loadAt, Instr.sureAddr, Sem.run_bind, Sem.run_pure, Result.andThen_ok, hv]
  exact ⟨Ext.refl _, rfl⟩

/-- In strictly rising order. -/
def risesB : List (Nat → Int) → Bool
  | a :: b :: l => if 0 ≤ cmpTok a b then false else risesB (b :: l)
  | _ => true

theorem rises_step (ts : List (Nat → Int)) (k : Nat) (h : k + 1 < ts.length) : risesB (ts.drop k) = if 0 ≤ cmpTok (ts.getD k fun _ => 0) (ts.getD (k + 1) fun _ => 0) then false else risesB (ts.drop (k + 1)) := by
  rw [List.drop_eq_getElem_cons (by omega : k < ts.length), List.drop_eq_getElem_cons h]
  simp [risesB, List.getD_eq_getElem?_getD, List.getElem?_eq_getElem h, List.getElem?_eq_getElem (by omega : k < ts.length)]

theorem rises_end (ts : List (Nat → Int)) (k : Nat) (h : ts.length ≤ k + 1) : risesB (ts.drop k) = true := by
  by_cases hk : k < ts.length
  · rw [List.drop_eq_getElem_cons hk, List.drop_eq_nil_of_le h]
    rfl
  · rw [List.drop_eq_nil_of_le (by omega)]
    rfl

set_option maxRecDepth 100000 in
theorem size_byte11 : ∀ w, (sizeOf 5).run Try.prog w = .ok 1 w := fun _ => by kernel_rfl

set_option maxHeartbeats 1000000 in
set_option maxRecDepth 100000 in
theorem sorted_any (a : Option Addr) (n c : Nat) (ts : List (Nat → Int)) (w : World) (h : TsAt w a n c ts) :
    Calls Try.prog 69 #[.slice a n c] w fun e w' => e = .returned (.bool (risesB ts)) ∧ Ext w w' := by
  have hlen := h.len
  have hsm := h.small
  have H := Lib.hid h
  have Hlen := Lib.hid hlen
  have Hst := Lib.hid (show ∀ k, k + 1 < n → _ from fun k hk => rises_step ts k (by omega))
  have Hen := Lib.hid (show ∀ k, n ≤ k + 1 → _ from fun k hk => rises_end ts k (by omega))
  have H0 := Lib.hid (show risesB (ts.drop 0) = risesB ts from rfl)
  obtain ⟨R, hR⟩ : ∃ R, risesB ts = R := ⟨_, rfl⟩
  rw [hR] at H0 ⊢
  clear h hlen hR
  go_enter Try.func69, Try.ntmps69
  go_wp2
  go_loopw [3] (fun i wr => ∃ m : Nat, m ≤ n ∧ i = .int .i64 ((m + 1 : Nat) : Int) ∧ risesB (ts.drop m) = R ∧ Ext w wr) (fun i _ => n + 1 - (intOf i).toNat)
  case atStart => exact ⟨0, Nat.zero_le _, rfl, H0.out, Ext.refl _⟩
  case round =>
    obtain ⟨m, hm, rfl, hr, hE⟩ := hrel
    have HE := Lib.hid hE
    clear hE
    by_cases hlt : m + 1 < n
    · obtain ⟨b, off, rfl, hc⟩ := H.out.at_ (by omega)
      obtain ⟨F, hF⟩ : ∃ F, (ts.getD m fun _ => 0) = F := ⟨_, rfl⟩
      obtain ⟨G, hG⟩ : ∃ G, (ts.getD (m + 1) fun _ => 0) = G := ⟨_, rfl⟩
      have HF := Lib.hid (hF ▸ H.out.tok m (by omega))
      have HG := Lib.hid (hG ▸ H.out.tok (m + 1) hlt)
      have hE1 : Ext w wr.drew := HE.out.drew
      have HC0 := Lib.hid (show ∀ j, j < 16 → wr.drew.cell? ⟨b, off + m * 16 + j, none⟩ = some (.int .u8 (F j)) from fun j hj => by
        have h1 := hc m (by omega) j hj
        rw [hF] at h1
        rw [Ext.cell hE1 (World.block_lt_of_cell? w _ h1)]
        exact h1)
      have HC1 := Lib.hid (show ∀ j, j < 16 → wr.drew.cell? ⟨b, off + (m + 1) * 16 + j, none⟩ = some (.int .u8 (G j)) from fun j hj => by
        have h1 := hc (m + 1) hlt j hj
        rw [hG] at h1
        rw [Ext.cell hE1 (World.block_lt_of_cell? w _ h1)]
        exact h1)
      have HX0 := Lib.hid (show ∀ x, Ext wr.drew x → Ext w x from fun x hx => hE1.trans hx)
      have hs := Hst.out m hlt
      rw [hF, hG, hr] at hs
      have Hs := Lib.hid hs
      have x1 : ((m + 1 : Nat) : Int) < (n : Int) := by omega
      have x3 : (m : Int) ≤ 140737488355328 := by omega
      clear hc hF hG hE1 hs hr
      go_upto_region 4 with (fail)
      refine wp_region_lexA (by kernel_rfl) (by kernel_rfl) ?_
      refine lx_e (.slice (some ⟨b, off, none⟩) n c) [] (by kernel_rfl) rfl (by rfl) (fun w1 hw1 => ?_) ?_
      · simp only [pk, lexVals]
        go_simp
        exact ⟨Ext.refl _, rfl⟩
      refine lx_e (.int .i64 ((m + 1 : Nat) : Int)) [] (by kernel_rfl) rfl (by rfl) (fun w1 hw1 => ?_) ?_
      · simp only [pk, lexVals]
        go_simp
        exact ⟨Ext.refl _, rfl⟩
      refine lx_e (.int .i64 (m : Int)) [(0, 11)] (by kernel_rfl) rfl (by rfl) (fun w1 hw1 => ?_) ?_
      · simp only [pk, nthSp, lexVals]
        go_simp
        exact ⟨Ext.refl _, val_int (by rw [IntKind.wrap_i64]; omega)⟩
      refine lx_e (.pointer (some ⟨b, off + m * 16, none⟩)) [(2, 10), (0, 12)] (by kernel_rfl) rfl (by rfl) (fun w1 hw1 => ?_) ?_
      · simp only [pk, nthSp, lexVals]
        exact lu_idx rfl rfl rfl (by omega)
      refine lx_e (.agg (rowArr 16 fun j => .int .u8 (F j))) [(0, 13)] (by kernel_rfl) rfl (by rfl) (fun w1 hw1 => ?_) ?_
      · simp only [pk, nthSp, lexVals]
        exact lu_tok rfl rfl (fun j hj => by rw [Ext.cell (hw1) (World.block_lt_of_cell? _ _ (HC0.out j hj))]; exact HC0.out j hj)
      refine lx_e (.slice (some ⟨b, off, none⟩) n c) [] (by kernel_rfl) rfl (by rfl) (fun w1 hw1 => ?_) ?_
      · simp only [pk, lexVals]
        go_simp
        exact ⟨Ext.refl _, rfl⟩
      refine lx_e (.int .i64 ((m + 1 : Nat) : Int)) [] (by kernel_rfl) rfl (by rfl) (fun w1 hw1 => ?_) ?_
      · simp only [pk, lexVals]
        go_simp
        exact ⟨Ext.refl _, rfl⟩
      refine lx_e (.pointer (some ⟨b, off + (m + 1) * 16, none⟩)) [(1, 15), (0, 16)] (by kernel_rfl) rfl (by rfl) (fun w1 hw1 => ?_) ?_
      · simp only [pk, nthSp, lexVals]
        exact lu_idx rfl rfl rfl (by omega)
      refine lx_e (.agg (rowArr 16 fun j => .int .u8 (G j))) [(0, 17)] (by kernel_rfl) rfl (by rfl) (fun w1 hw1 => ?_) ?_
      · simp only [pk, nthSp, lexVals]
        exact lu_tok rfl rfl (fun j hj => by rw [Ext.cell (hw1) (World.block_lt_of_cell? _ _ (HC1.out j hj))]; exact HC1.out j hj)
      refine lx_e (.int .i64 (cmpTok F G)) [(4, 14), (0, 18)] (by kernel_rfl) rfl (by rfl) (fun w1 hw1 => ?_) ?_
      · simp only [pk, nthSp, lexVals]
        have hm := compare_any F G HF.out HG.out w1
        have HM := Lib.hid hm
        clear hm hw1
        go_simp
        refine HM.out.mono ?_
        rintro e w2 ⟨rfl, hE2⟩
        exact ⟨_, rfl, hE2, rfl⟩
      refine lx_e (.bool (decide (0 ≤ cmpTok F G))) [(0, 19)] (by kernel_rfl) rfl (by rfl) (fun w1 hw1 => ?_) ?_
      · simp only [pk, nthSp, lexVals]
        go_simp
        exact ⟨Ext.refl _, rfl⟩
      refine lx_stopA (by rfl) fun w7 hw7 => ?_
      have HE7 := Lib.hid (HX0.out w7 hw7)
      clear hw7
      simp only [rv, pf, lexVals]
      simp only [Act.put, List.setIfInBounds_toArray, List.set_cons_zero, List.set_cons_succ]
      by_cases hcm : 0 ≤ cmpTok F G
      · have hR := Hs.out
        rw [if_pos hcm] at hR
        rw [show decide (0 ≤ cmpTok F G) = true from decide_eq_true hcm]
        go_wp2_with fail
        go_ret
        exact ⟨by rw [hR]; rfl, HE7.out⟩
      · have hR := Hs.out
        rw [if_neg hcm] at hR
        have HR := Lib.hid hR
        rw [show decide (0 ≤ cmpTok F G) = false from decide_eq_false hcm]
        clear hR
        go_wp2_with fail
        go_roundw
        case rel => exact ⟨m + 1, by omega, by go_num, HR.out.symm, HE7.out⟩
        case measure => simp [intOf]; omega
    · have x1 : ¬ ((m + 1 : Nat) : Int) < (n : Int) := by omega
      have hR := Hen.out m (by omega)
      rw [hr] at hR
      go_wp2_with fail
      go_ret
      exact ⟨rfl, HE.out⟩

end Go.Proofs.Ytldaligeckjhaaa
