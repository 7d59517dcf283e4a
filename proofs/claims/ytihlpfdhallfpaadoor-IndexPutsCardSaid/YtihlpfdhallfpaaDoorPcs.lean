/-
  A slice of pieces; the walk of jalousieref20.Headers. Asked: nothing.
-/
import Derived.Test.YtihlpfdhallfpaaDoorIxA
namespace Go.Proofs.YtihlpfdhallfpaaDoor
open Go.ChangeShapes Go.WideShapes Go.ChangeAt Go.RowKit

def pcN : Pc := ⟨htN, none, 0, []⟩
structure PisAt (w : World) (a : Option Addr) (n c : Nat) (l : List Pc) : Prop where
  len : l.length = n
  cap : n ≤ c
  lim : c ≤ 9223372036854775807
  small : n ≤ 140737488355328
  each : ∀ x ∈ l, PcAt w x
  at_ : 0 < n → ∃ b off, a = some ⟨b, off, none⟩ ∧ ∀ i, i < n → ∀ j, j < 126 → w.cell? ⟨b, off + i * 126 + j, none⟩ = some (pcC (l.getD i pcN) j)
  nil_ : a = none → c = 0
theorem PisAt.ext {w w' : World} {a : Option Addr} {n c : Nat} {l : List Pc} (h : PisAt w a n c l) (he : Ext w w') : PisAt w' a n c l := by
  refine ⟨h.len, h.cap, h.lim, h.small, fun x hx => (h.each x hx).ext he, fun hn => ?_, h.nil_⟩
  obtain ⟨b, off, ha, hc⟩ := h.at_ hn
  exact ⟨b, off, ha, fun i hi j hj => by rw [Ext.cell he (World.block_lt_of_cell? w _ (hc i hi j hj))]; exact hc i hi j hj⟩
theorem take_pc (l : List Pc) (k : Nat) (hk : k < l.length) : (l.take (k + 1)).map (·.hd) = (l.take k).map (·.hd) ++ [(l.getD k pcN).hd] := by
  rw [List.take_add_one, List.map_append, List.getD_eq_getElem?_getD, List.getElem?_eq_getElem hk]
  rfl

set_option maxHeartbeats 4000000 in
set_option maxRecDepth 100000 in
theorem refHeaders_any (a : Option Addr) (n c : Nat) (l : List Pc) (w : World) (h : PisAt w a n c l) (hsm : n ≤ 100000) :
    Calls Tryd.prog 40 #[.slice a n c] w fun e w' => ∃ v, e = .returned v ∧ w'.ownsRow w.heap.size 34 125 v n (hsC (l.map (·.hd))) ∧ Ext w w' := by
  have H := Lib.hid h
  clear h
  go_enter Tryd.func40, Tryd.ntmps40
  go_wp2
  obtain ⟨Bw, hBw⟩ : ∃ x, w.heap.size = x := ⟨_, rfl⟩
  have HBw := Lib.hid hBw
  go_loopw [3, 4] (fun v i wr => ∃ (k : Nat) (ao : Option Addr) (co : Nat), k ≤ n ∧ v = .slice ao k co ∧ i = .int .i64 (k : Int) ∧ wr.ownsRow Bw 34 125 (.slice ao k co) k (hsC ((l.take k).map (·.hd))) ∧ Ext w wr) (fun _ i _ => n - (intOf i).toNat)
  case atStart => exact ⟨0, none, 0, Nat.zero_le _, rfl, rfl, by rw [List.take_zero]; exact World.ownsRow_nil _ _ _ _, Ext.refl w⟩
  case round =>
    obtain ⟨k, ao, co, hk, rfl, rfl, hO, hE⟩ := hrel
    have HO := Lib.hid hO
    have HE := Lib.hid hE
    clear hO hE
    by_cases hlt : k < n
    · have x1 : (k : Int) < (n : Int) := by omega
      have x2 : (0 : Int) ≤ (k : Int) := by omega
      obtain ⟨b, off, rfl, hcell⟩ := (H.out.ext HE.out).at_ (by omega)
      obtain ⟨x, hx⟩ : ∃ x, l.getD k pcN = x := ⟨_, rfl⟩
      have Hx := Lib.hid hx
      obtain ⟨A, hA⟩ : ∃ A, hdV x.hd.1 = A := ⟨_, rfl⟩
      have HAe := Lib.hid hA
      have Hr := Lib.hid (show ∀ y, Ext wr y → y.rangeAt b (off + k * 126) (hdL x.hd.1) from fun y hy => range_hd fun j hj => by
        have h1 := hcell k hlt j (by omega)
        rw [Ext.cell hy (World.block_lt_of_cell? _ _ h1), h1, hx]
        unfold pcC
        rw [if_pos hj])
      obtain ⟨LK, hLK⟩ : ∃ x, (l.take k).map (·.hd) = x := ⟨_, rfl⟩
      have HLK := Lib.hid hLK
      rw [hLK] at HO
      clear hLK
      have HO11 := Lib.hid (own_ext9 HO.out ((Ext.refl wr).alloc (.cells A 34)))
      have HQ11 := Lib.hid (show ∀ j, j < 125 → (wr.alloc (.cells A 34)).cell? ⟨wr.heap.size, j, none⟩ = some (hdC x.hd.1 j) from fun j hj => by
        rw [← HAe.out]
        exact row_cell (heap_new wr _ _ rfl) j hj)
      have hz := Below.size HE.out
      have HB11 := Lib.hid (show Bw ≤ (wr.alloc (.cells A 34)).heap.size by have := HBw.out; simp; omega)
      clear hcell hx hA hz
      go_wp2_with (first | (refine wp_hmidI rfl _ rfl b (off + k * 126) x.hd.1 rfl (Hr.out wr (Ext.refl wr)) ?_; rw [HAe.out]) | (refine wp_build_hd1 rfl _ rfl x.hd.1 A HAe.out rfl ?_) | (at_builtin; refine append_hd rfl _ _ rfl Bw (.slice ao k co) k LK rfl HO11.out wr.heap.size 1 x.hd rfl HQ11.out (by omega) HB11.out ?_))
      intro v' w12 hown12 hG12 _
      obtain ⟨a2, c2, rfl⟩ := own_hsl hown12
      have HE12 := Lib.hid (show Ext w w12 from Below.grown (HE.out.trans ((Ext.refl wr).alloc _)) hG12 (by rw [HBw.out]; exact HB11.out) (fun q hq => by rw [HBw.out]; exact (HO11.out.lt q hq).1))
      have HO12 := Lib.hid (show w12.ownsRow Bw 34 125 (.slice a2 (k + 1) c2) (k + 1) (hsC ((l.take (k + 1)).map (·.hd))) from by
        rw [take_pc l k (by rw [H.out.len]; exact hlt), Hx.out, HLK.out]
        exact hown12)
      clear hown12 hG12 HO11 HQ11 HB11 Hr
      go_wp2
      go_roundw
      case rel => exact ⟨k + 1, a2, c2, by omega, rfl, by go_num, HO12.out, HE12.out⟩
      case measure => simp [intOf]; omega
    · obtain rfl : k = n := by omega
      have x1 : ¬ (k : Int) < (k : Int) := by omega
      have HO2 := HO.out
      rw [List.take_of_length_le (by rw [H.out.len]; exact Nat.le_refl _)] at HO2
      have HO3 := Lib.hid HO2
      clear HO2
      go_wp2
      go_ret
      exact ⟨_, rfl, by first | exact HO3.out | (rw [HBw.out]; exact HO3.out), HE.out⟩

end Go.Proofs.YtihlpfdhallfpaaDoor
