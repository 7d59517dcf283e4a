/-
  Two tokens compared: the walks of bytes.Compare and keys.compare. No conditions.
-/
import Derived.Test.YthdgnahokmjkpaaDoorLu
import Derived.Lib.BytesEntry
import Derived.Laws.Externs
namespace Go.Proofs.YthdgnahokmjkpaaDoor
open Go.ChangeShapes Go.WideShapes Go.ChangeAt Go.RowKit

/-- The first byte that differs settles it. -/
def cmpI : List Int → List Int → Int
  | x :: a, y :: b => if x < y then -1 else if y < x then 1 else cmpI a b
  | _, _ => 0

theorem cmpI_bytes : ∀ (a b : List Int), a.length = b.length → (∀ x ∈ a, 0 ≤ x ∧ x < 256) → (∀ x ∈ b, 0 ≤ x ∧ x < 256) → Lib.compareBytes (u8s a) (u8s b) = cmpI a b
  | [], [], _, _, _ => rfl
  | [], _ :: _, h, _, _ => by cases h
  | _ :: _, [], h, _, _ => by cases h
  | x :: a, y :: b, h, ha, hb => by
    have ih := cmpI_bytes a b (by simpa using h) (fun z hz => ha z (List.mem_cons_of_mem _ hz)) (fun z hz => hb z (List.mem_cons_of_mem _ hz))
    have hx := ha x (List.mem_cons_self ..)
    have hy := hb y (List.mem_cons_self ..)
    show (if UInt8.ofNat x.toNat < UInt8.ofNat y.toNat then (-1 : Int) else if UInt8.ofNat y.toNat < UInt8.ofNat x.toNat then 1 else Lib.compareBytes (u8s a) (u8s b)) = _
    rw [ih]
    have lt : ∀ x y : Int, 0 ≤ x ∧ x < 256 → 0 ≤ y ∧ y < 256 → (UInt8.ofNat x.toNat < UInt8.ofNat y.toNat ↔ x < y) := by
      intro x y hx hy
      rw [UInt8.lt_iff_toNat_lt, UInt8.toNat_ofNat', UInt8.toNat_ofNat']
      omega
    simp only [lt x y hx hy, lt y x hy hx]
    rfl

theorem run_bytesOf_bs {P : Program} {w : World} {a : Option Addr} {n c : Nat} {xs : List Int} (hb : BsAt w a n c xs) : (Extern.Bytes.bytesOf (.slice a n c)).run P w = .ok ⟨(u8s xs).toArray⟩ w := by
  cases a with
  | none =>
    have h0 := hb.nil_ rfl
    have h1 := hb.cap
    have h2 := hb.len
    obtain rfl : xs = [] := List.eq_nil_of_length_eq_zero (by omega)
    rfl
  | some ad =>
    have hl := Lib.run_loadBytesX (P := P) w xs ad .empty (fun j x hx => hb.news j _ (by unfold bv; rw [List.getElem?_map, hx]; rfl))
    rw [hb.len] at hl
    change (Extern.Bytes.loadBytes ad n .empty).run P w = _
    rw [hl]
    congr 1
    apply ByteArray.ext
    show (#[] : Array UInt8) ++ (Lib.bytesOf xs).toArray = (u8s xs).toArray
    rw [Array.empty_append]
    rfl

theorem run_cmp_bs {P : Program} {w : World} {a b : Option Addr} {n c d : Nat} {xs ys : List Int} (ha : BsAt w a n c xs) (hb : BsAt w b n d ys) :
    (Extern.BytealgCompare.compare #[.slice a n c, .slice b n d]).run P w = .ok (.int .i64 (cmpI xs ys)) w := by
  change Sem.run P (do pure (goInt (Extern.BytealgCompare.cmp (← Extern.Bytes.bytesOf (.slice a n c)) (← Extern.Bytes.bytesOf (.slice b n d))))) w = _
  simp only [Sem.run_bind, run_bytesOf_bs ha, run_bytesOf_bs hb, Sem.run_pure, Result.andThen_ok]
  rw [Lib.cmp_eq, cmpI_bytes xs ys (by rw [ha.len, hb.len]) ha.byte hb.byte]
  rfl

set_option maxRecDepth 100000 in
theorem call_cmp (args : Array Value) (w : World) : (callFunc 63 args).run Tryd.prog w = ((Extern.BytealgCompare.compare args).run Tryd.prog w).andThen fun v w' => .ok (.value v) w' :=
  run_callFunc_extern Tryd.func63 (by kernel_rfl) (by kernel_rfl) (by kernel_rfl) (e := Extern.BytealgCompare.compare) (by kernel_rfl) args w

set_option maxRecDepth 100000 in
theorem bytesCompare_any {w : World} {a b : Option Addr} {n c d : Nat} {xs ys : List Int} (ha : BsAt w a n c xs) (hb : BsAt w b n d ys) :
    Calls Tryd.prog 53 #[.slice a n c, .slice b n d] w fun e w' => e = .returned (.int .i64 (cmpI xs ys)) ∧ w' = w := by
  have hr := run_cmp_bs (P := Tryd.prog) ha hb
  have HR := Lib.hid hr
  clear hr ha hb
  go_enter Tryd.func53, Tryd.ntmps53
  go_wp2
  rw [call_cmp, HR.out]
  simp only [Result.andThen]
  rw [Oper.upon_value]
  go_wp2
  go_ret
  exact ⟨rfl, rfl⟩

/-- The order of tokens. -/
def cmpTok (f g : Nat → Int) : Int := cmpI ((List.range 16).map f) ((List.range 16).map g)

theorem tok_box (w : World) (f g : Nat → Int) (T : TypeId) : ∃ w2, (w.alloc (.cells (rowArr 16 fun j => .int .u8 (f j)) T)).alloc (.cells (rowArr 16 fun j => .int .u8 (g j)) T) = w2 ∧ Ext w w2 ∧ w2.heap[w.heap.size]? = some (.cells (rowArr 16 fun j => .int .u8 (f j)) T (0, 0)) ∧ w2.heap[w.heap.size + 1]? = some (.cells (rowArr 16 fun j => .int .u8 (g j)) T (0, 0)) := by
  have e : (w.alloc (.cells (rowArr 16 fun j => .int .u8 (f j)) T)).heap.size = w.heap.size + 1 := by simp
  refine ⟨_, rfl, ((Ext.refl w).alloc _).alloc _, ?_, heap_new _ _ _ e.symm⟩
  rw [Below.heap_alloc _ _ _ (by rw [e]; omega)]
  exact heap_new w _ _ rfl

set_option maxHeartbeats 1000000 in
set_option maxRecDepth 100000 in
theorem compare_any (f g : Nat → Int) (hf : ∀ j, j < 16 → 0 ≤ f j ∧ f j < 256) (hg : ∀ j, j < 16 → 0 ≤ g j ∧ g j < 256) (w : World) :
    Calls Tryd.prog 43 #[.agg (rowArr 16 fun j => .int .u8 (f j)), .agg (rowArr 16 fun j => .int .u8 (g j))] w fun e w' => e = .returned (.int .i64 (cmpTok f g)) ∧ Ext w w' := by
  obtain ⟨w2, hw2, hE2, hF2, hG2⟩ := tok_box w f g 31
  have HA := Lib.hid (bs_row (rowIs_of hF2) hf (by omega))
  have HB := Lib.hid (bs_row (rowIs_of hG2) hg (by omega))
  have Hw2 := Lib.hid hw2
  have HE2 := Lib.hid hE2
  clear hf hg hw2 hE2 hF2 hG2
  go_enter Tryd.func43, Tryd.ntmps43
  go_upto_region 1 with (fail)
  refine wp_world (w' := w2) Hw2.out ?_
  obtain ⟨k, hk⟩ : ∃ k, w.heap.size = k := ⟨_, rfl⟩
  rw [hk] at HA HB ⊢
  clear hk Hw2
  have HX0 := Lib.hid (show ∀ x, Ext w2.drew x → Ext w x from fun x hx => HE2.out.trans (Ext.trans (Ext.refl w2).drew hx))
  have HXd := Lib.hid (show ∀ x, Ext w2.drew x → Ext w2 x from fun x hx => (Ext.trans (Ext.refl w2).drew hx))
  refine wp_region_lexA (by kernel_rfl) (by kernel_rfl) ?_
  refine lx_e (.slice (some ⟨k, 0, none⟩) 16 16) [] (by kernel_rfl) rfl (by rfl) (fun w1 hw1 => ?_) ?_
  · simp only [pk, lexVals]
    go_simp
    exact ⟨Ext.refl _, rfl⟩
  refine lx_e (.slice (some ⟨k + 1, 0, none⟩) 16 16) [] (by kernel_rfl) rfl (by rfl) (fun w1 hw1 => ?_) ?_
  · simp only [pk, lexVals]
    go_simp
    exact ⟨Ext.refl _, rfl⟩
  refine lx_e (.int .i64 (cmpTok f g)) [(1, 5), (0, 6)] (by kernel_rfl) rfl (by rfl) (fun w1 hw1 => ?_) ?_
  · simp only [pk, nthSp, lexVals]
    have hm := bytesCompare_any (HA.out.ext (HXd.out w1 hw1)) (HB.out.ext (HXd.out w1 hw1))
    have HM := Lib.hid hm
    clear hm hw1
    go_simp
    refine HM.out.mono ?_
    rintro e w2 ⟨rfl, rfl⟩
    exact ⟨_, rfl, Ext.refl _, rfl⟩
  refine lx_e (.int .i64 (cmpTok f g)) [(0, 7)] (by kernel_rfl) rfl (by rfl) (fun w1 hw1 => ?_) ?_
  · simp only [pk, nthSp, lexVals]
    go_simp
    exact ⟨Ext.refl _, rfl⟩
  refine lx_stopA rfl fun w' hw' => ?_
  have HW := Lib.hid (HX0.out w' hw')
  clear hw'
  simp only [rv, pf, lexVals]
  simp only [Act.put, List.setIfInBounds_toArray, List.set_cons_zero, List.set_cons_succ]
  go_wp2_with fail
  go_ret
  exact ⟨rfl, HW.out⟩

end Go.Proofs.YthdgnahokmjkpaaDoor
