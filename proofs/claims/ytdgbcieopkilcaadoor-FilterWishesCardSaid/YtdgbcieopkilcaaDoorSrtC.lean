/-
  slices.SortFunc at rows of tokens of a call's own: a permutation, sorted. No conditions.
-/
import Derived.Test.YtdgbcieopkilcaaDoorSrt
import Derived.Shelf.SlSortCmp.NoneTotal
namespace Go.Proofs.YtdgbcieopkilcaaDoor
open Go.ChangeShapes Go.WideShapes Go.ChangeAt Go.RowKit Go.Sort

def tkL (ts : List Tk) : List Value := tkC (ts.map (·.1))
theorem flat_get (d : Array Tk) (j : Nat) (hj : j < d.size * 16) : (flatK encT 16 d)[j]! = (tkL d.toList)[j]?.getD undef := by
  rw [get_flatK _ _ _ _ hj]
  have h1 : j / 16 < d.size := by omega
  have h2 := tkC_get (d.toList.map (·.1)) (j / 16) (j % 16) (by simpa using h1) (by omega)
  rw [show j / 16 * 16 + j % 16 = j by omega] at h2
  unfold tkL
  rw [h2, List.getD_eq_getElem?_getD, List.getElem?_map, Array.getElem?_toList, Array.getElem?_eq_getElem h1, getElem!_pos d (j / 16) h1]
  have h3 := tk1_get (d[j / 16]).1 (j % 16) (by omega)
  have h4 : (encT d[j / 16])[j % 16]? = some (.int .u8 ((d[j / 16]).1 (j % 16))) := h3
  rw [List.getElem!_eq_getElem?_getD, h4]
  rfl
theorem put_take (d : Array Tk) (cur : Array Value) (h : d.size * 16 ≤ cur.size) : (putCells id 0 (flatK encT 16 d) cur).toList.take (d.size * 16) = tkL d.toList := by
  apply List.ext_getElem?
  intro j
  by_cases hj : j < d.size * 16
  · rw [List.getElem?_take_of_lt hj, Array.getElem?_toList]
    have h1 := flat_get d j hj
    have h2 : (tkL d.toList)[j]? = some ((flatK encT 16 d)[j]!) := by
      rw [h1, List.getElem?_eq_getElem (by unfold tkL; rw [tkC_length]; simpa using hj)]
      rfl
    rw [h2]
    simp [putCells, hj, show j < cur.size by omega]
  · rw [List.getElem?_take_eq_none (by omega), List.getElem?_eq_none (by unfold tkL; rw [tkC_length]; simp; omega)]
theorem heap_srt {w : World} {g n : Nat} {os : Array Obj} {cur : Array Value} {e : TypeId} {fr : Nat × Nat} (d : Array Tk) (hb : w.heap[g]? = some (.cells cur e fr)) :
    (sortWorldK encT 16 w g 0 n d os).heap[g]? = some (.cells (putCells id 0 (flatK encT 16 d) cur) e fr) := by
  have hg : g < w.heap.size := (Array.getElem?_eq_some_iff.1 hb).1
  unfold sortWorldK putRowK
  rw [heap_grow_old _ _ (by simpa using hg)]
  simp [putRow, mapBlock, Sort.ahead, Array.getElem?_modify, hb, onCells]
theorem grownBy_srt {w : World} {g n : Nat} {os : Array Obj} (d : Array Tk) : w.grownBy (sortWorldK encT 16 w g 0 n d os) (some g) := by
  unfold sortWorldK putRowK
  refine ⟨rfl, rfl, rfl, by simp, fun k hk hne => ?_⟩
  rw [heap_grow_old _ _ (by simpa using hk)]
  have : g ≠ k := fun e => hne (by rw [e])
  simp [putRow, mapBlock, Sort.ahead, Array.getElem?_modify, this]

set_option maxRecDepth 100000 in
theorem sortTok_any {w : World} {B g cap n : Nat} {ts : List Tk} (hn : ts.length = n) (hown : w.ownsRow B 35 16 (.slice (some ⟨g, 0, none⟩) n cap) n (tkL ts)) (hs : n ≤ 1000000) :
    Calls Tryd.prog 25 #[.slice (some ⟨g, 0, none⟩) n cap, .func (.func 26) #[] #[]] w fun e w' => e = .returned (.tuple #[]) ∧ ∃ us : List Tk, us.length = n ∧ us.Perm ts ∧ (∀ i j, i < j → j < n → ¬ cfT (us.getD j default) (us.getD i default) < 0) ∧ w'.ownsRow B 35 16 (.slice (some ⟨g, 0, none⟩) n cap) n (tkL us) ∧ w.grownBy w' (some g) := by
  have hlt := (hown.lt g rfl).2
  obtain ⟨cur, hB, hb, h1, h2, h3, h4⟩ : ∃ cur, B ≤ g ∧ w.heap[g]? = some (.cells cur 35 (0, 0)) ∧ n ≤ cap ∧ cap ≤ maxLen ∧ cur.size = cap * 16 ∧ cur.toList.take (n * 16) = tkL ts := by
    rcases hown.2 with ⟨e, _⟩ | ⟨g', cap', cur, e, k1, k2, k3, k4, k5, k6⟩
    · cases e
    · simp only [Value.slice.injEq, Option.some.injEq, Addr.mk.injEq, and_true, true_and] at e
      obtain ⟨rfl, rfl⟩ := e
      exact ⟨cur, k1, k2, k3, k4, k5, k6⟩
  have hH : HoldsK encT 16 w g 0 ts.toArray := by
    unfold HoldsK Holds
    intro j hj
    have hj2 : j < n * 16 := by
      rw [size_flatK] at hj
      simpa [hn] using hj
    refine ⟨?_, ?_⟩
    · rw [flat_get _ _ (by rw [size_flatK] at hj; exact hj)]
      have h5 := hown.cells (g := g) rfl j _ (by
        rw [List.getElem?_eq_getElem (by unfold tkL; rw [tkC_length]; simpa [hn] using hj2)])
      rw [addr_add] at h5
      show w.cell? ⟨g, 0 + j, none⟩ = some (id _)
      rw [h5, List.getElem?_eq_getElem (by unfold tkL; rw [tkC_length]; simpa [hn] using hj2)]
      rfl
    · unfold World.frozen?
      simp only [hb]
      simp
  have hcon := AnyQ.slices_SortFunc Tryd.sortTok 16 Tryd.isAgg35 Tryd.sizeOf35 encT encT_length encT_one cfT swoT 26 #[] g 0 cap ts.toArray w (enters_of Tryd.func26 (by kernel_rfl) rfl) (fun _ _ _ _ x y => compareQ_any x y _) hH hlt (by simp [hn]; omega)
  rw [show ts.toArray.size = n by simpa using hn] at hcon
  change Calls Tryd.prog 25 _ _ _ at hcon
  refine hcon.mono ?_
  rintro e w' ⟨rfl, d', m, os, hp, hso, rfl⟩
  have hsz : d'.size = n := by rw [hp.1]; simpa using hn
  refine ⟨rfl, d'.toList, by simpa using hsz, ?_, fun i j hij hj => ?_, ?_, grownBy_srt d'⟩
  · have h5 := hp.2.2
    have e1 : (d'.extract 0 n).toList = d'.toList := by
      rw [← hsz]
      simp
    have e2 : (ts.toArray.extract 0 n).toList = ts := by
      rw [← hn]
      simp
    rw [e1, e2] at h5
    exact h5
  · have h5 := hso i j (Nat.zero_le _) hij hj
    have e : ∀ k, k < n → d'.toList.getD k default = d'[k]! := fun k hk => by
      rw [List.getD_eq_getElem?_getD, Array.getElem?_toList, Array.getElem?_eq_getElem (by omega), getElem!_pos d' k (by omega)]
      rfl
    rw [e i (by omega), e j hj]
    exact of_decide_eq_false h5
  · refine ⟨by unfold tkL; rw [tkC_length]; simp [hsz], .inr ⟨g, cap, _, rfl, hB, heap_srt d' hb, h1, h2, by simp [putCells, h3], ?_⟩⟩
    rw [← hsz]
    exact put_take d' cur (by rw [h3, hsz]; exact Nat.mul_le_mul_right _ h1)

end Go.Proofs.YtdgbcieopkilcaaDoor
