/-
  A filter by value; the walk of few of law 19. No conditions.
-/
import Derived.Test.YtldaligeckjhaaaSrA
namespace Go.Proofs.Ytldaligeckjhaaa
open Go.ChangeShapes Go.WideShapes Go.ChangeAt Go.RowKit

/-- A filter's cells. -/
def fltV (al : Bool) (v : Value) : Array Value := #[.bool al, v]
theorem flt_cell {w : World} {g : Nat} {al : Bool} {v : Value} {T : TypeId} {fr : Nat × Nat} (h : w.heap[g]? = some (.cells (fltV al v) T fr)) : w.cell? ⟨g, 0, none⟩ = some (.bool al) ∧ w.cell? ⟨g, 1, none⟩ = some v := by
  unfold World.cell?
  simp only [h]
  exact ⟨rfl, rfl⟩
theorem two_box (w : World) (A B : Array Value) (T U : TypeId) : ∃ w2, (w.alloc (.cells A T)).alloc (.cells B U) = w2 ∧ Ext w w2 ∧ w2.heap[w.heap.size]? = some (.cells A T (0, 0)) ∧ w2.heap[w.heap.size + 1]? = some (.cells B U (0, 0)) := by
  refine ⟨_, rfl, ((Ext.refl w).alloc _).alloc _, ?_, ?_⟩
  · exact Ext.keep ((Ext.refl (w.alloc (.cells A T))).alloc _) (heap_new w _ _ rfl)
  · exact heap_new _ _ _ (by simp)
/-- What few answers. -/
def Few19Says (n : Nat) (w : World) (e : Ending) (w' : World) : Prop := ∃ R : Bool, e = .returned (.bool R) ∧ (R = true → n ≤ 20) ∧ Ext w w'
set_option maxHeartbeats 1000000 in
set_option maxRecDepth 100000 in
theorem few19_any (al : Bool) (a : Option Addr) (n c : Nat) (ss : List ByteArray) (w : World) (h : SrAt w a n c ss) :
    Calls Try.prog 24 #[.agg (fltV al (.slice a n c))] w (Few19Says n w) := by
  have hcap := h.cap
  have hlim := h.lim
  obtain ⟨w2, hw2⟩ : ∃ w2, w.alloc (.cells (fltV al (.slice a n c)) 55) = w2 := ⟨_, rfl⟩
  have hE2 : Ext w w2 := by rw [← hw2]; exact (Ext.refl w).alloc _
  have hB2 : w2.heap[w.heap.size]? = some (.cells (fltV al (.slice a n c)) 55 (0, 0)) := by rw [← hw2]; exact heap_new w _ _ rfl
  have HC := Lib.hid (show ∀ x, Ext w2 x → x.cell? ⟨w.heap.size, 1, none⟩ = some (.slice a n c) from fun x hx => (flt_cell (hx.keep hB2)).2)
  have H := Lib.hid (h.ext hE2)
  have Hw2 := Lib.hid hw2
  have HE2 := Lib.hid hE2
  obtain ⟨g, hg⟩ : ∃ g, w.heap.size = g := ⟨_, rfl⟩
  rw [hg] at HC
  have Hg := Lib.hid hg
  clear h hw2 hE2 hB2 hg
  go_enter Try.func24, Try.ntmps24
  go_upto_region 1 with (fail)
  refine wp_world (w' := w2) Hw2.out ?_
  rw [Hg.out]
  clear Hw2 Hg
  have c1 := HC.out w2 (Ext.refl _)
  go_wp2
  go_loopw [3, 4] (fun v i y => ∃ (k m : Nat), k ≤ 100 ∧ k ≤ n ∧ m ≤ 1000 * k ∧ i = .int .i64 (k : Int) ∧ v = .int .i64 (m : Int) ∧ Ext w2 y) (fun _ i _ => n - (intOf i).toNat)
  case atStart => exact ⟨0, 0, by omega, by omega, by omega, rfl, rfl, Ext.refl w2⟩
  case round =>
    obtain ⟨k, m, hk1, hk, hm, rfl, rfl, hE⟩ := hrel
    have HE := Lib.hid hE
    have c1 := HC.out _ hE
    rename World => y
    clear hE
    by_cases hlt : k < n ∧ k < 100
    · obtain ⟨h1, h2⟩ := hlt
      have x1 : (k : Int) < (n : Int) := by omega
      have x2 : (k : Int) < 100 := by omega
      obtain ⟨g0, off, rfl, hcell⟩ := (H.out.ext HE.out).at_ (by omega)
      obtain ⟨x, hx⟩ : ∃ x, ss.getD k ⟨#[]⟩ = x := ⟨_, rfl⟩
      have hck := hcell k h1
      rw [hx] at hck
      clear hcell
      have hsz : x.size ≤ 140737488351232 := by rw [← hx]; exact H.out.size _ (H.out.get h1)
      clear hx
      go_wp2
      go_roundw
      case rel => exact ⟨k + 1, m + min x.size 1000, by omega, by omega, by omega, by go_num, by congr 1; omega, HE.out⟩
      case measure => simp [intOf]; omega
    · by_cases h30 : n ≤ 20
      · obtain rfl : k = n := by omega
        have x1 : ¬ (k : Int) < (k : Int) := by omega
        have x3 : (k : Int) ≤ 20 := by omega
        by_cases hm2 : m ≤ 1000
        · have x4 : (m : Int) ≤ 1000 := by omega
          go_wp2
          go_ret
          exact ⟨true, rfl, fun _ => h30, HE2.out.trans HE.out⟩
        · have x4 : ¬ (m : Int) ≤ 1000 := by omega
          go_wp2
          go_ret
          exact ⟨false, rfl, fun h => (by cases h), HE2.out.trans HE.out⟩
      · have x3 : ¬ (n : Int) ≤ 20 := by omega
        by_cases h1 : k < n
        · have x1 : (k : Int) < (n : Int) := by omega
          have x2 : ¬ (k : Int) < 100 := by omega
          go_wp2
          go_ret
          exact ⟨false, rfl, fun h => (by cases h), HE2.out.trans HE.out⟩
        · have x1 : ¬ (k : Int) < (n : Int) := by omega
          go_wp2
          go_ret
          exact ⟨false, rfl, fun h => (by cases h), HE2.out.trans HE.out⟩

end Go.Proofs.Ytldaligeckjhaaa
