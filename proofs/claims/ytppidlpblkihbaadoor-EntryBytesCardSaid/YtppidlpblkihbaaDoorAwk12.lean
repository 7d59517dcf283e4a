/-
  The walk of jalousielaw12.awake: it answers true. No conditions.
-/
import Derived.Test.YtppidlpblkihbaaDoorHdBy
import Derived.Test.YtppidlpblkihbaaDoorChgPk
namespace Go.Proofs.YtppidlpblkihbaaDoor
open Go.ChangeShapes Go.WideShapes Go.ChangeAt Go.RowKit

def h0 : Hd := ⟨1, 1, fun _ => 0, 0, false, 0, fun _ => 0, none, 0, 0, fun _ => 0, fun _ => 0, 80, fun _ => 0⟩
def sx : ByteArray := ⟨#[120]⟩
theorem h0_ok : HdOk h0 := ⟨by decide, by decide, fun _ _ => ⟨Int.le_refl 0, by show (0 : Int) < 256; omega⟩, by decide, by decide, fun _ _ => ⟨Int.le_refl 0, by show (0 : Int) < 256; omega⟩, fun _ _ => ⟨Int.le_refl 0, by show (0 : Int) < 18446744073709551616; omega⟩, fun _ _ => ⟨Int.le_refl 0, by show (0 : Int) < 256; omega⟩, by decide, fun _ _ => ⟨Int.le_refl 0, by show (0 : Int) < 256; omega⟩⟩
theorem h0_len : (bytesL h0 []).length = 125 := by decide +kernel
theorem ts_none (w : World) : TsAt w none 0 0 [] := ⟨rfl, Nat.le_refl _, by omega, by omega, by simp, fun h => by omega, fun _ => rfl⟩
set_option maxRecDepth 100000 in
theorem build_h0 (w : World) : (Instr.build 58 #[(0, .int .i64 1), (1, .int .u64 1), (10, .int .i64 80)]).run Tryd.prog w = .ok (.agg (hdV h0)) w := by kernel_rfl
theorem sx_len : (chgL 2 sx [] ⟨#[]⟩).length = 5 := by decide +kernel
theorem sx_ok : changeB 2 sx [] ⟨#[]⟩ = true := by decide +kernel

set_option maxHeartbeats 1000000 in
set_option maxRecDepth 100000 in
theorem awake12_any (w : World) : Calls Tryd.prog 29 #[] w fun e w' => e = .returned (.bool true) ∧ Ext w w' := by
  have hb := build_h0
  have HP := Lib.hid (packCh_any 2 sx none 0 0 [] ⟨#[]⟩ w sx_ok (ss_none w) (by simp))
  have HB := Lib.hid (fun w => hdBytes_any h0 [] w h0_ok (ts_none w))
  rw [h0_len] at HB
  go_enter Tryd.func29, Tryd.ntmps29
  go_wp2_with fail
  refine HP.out.mono ?_
  rintro e w1 ⟨q, n, c, rfl, hq, hE⟩
  have hn : n = 5 := by rw [← hq.len, sx_len]
  subst hn
  have HE1 := Lib.hid hE
  clear hq hE HP
  go_wp2_with fail
  refine (HB.out w1).mono ?_
  rintro e w2 ⟨v, rfl, hown, hE⟩
  obtain ⟨a2, c2, rfl, _, _⟩ := owns_slice hown
  have HE2 := Lib.hid (HE1.out.trans hE)
  clear hown hE
  go_wp2
  go_ret
  exact ⟨rfl, HE2.out⟩

end Go.Proofs.YtppidlpblkihbaaDoor
