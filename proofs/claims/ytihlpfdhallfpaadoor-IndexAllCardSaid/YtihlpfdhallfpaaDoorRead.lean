/-
  What a row's reading tells: a slice of bytes that came in, a slice of such slices; a table that the row lists.
  What a row's reading tells: an array of integers by value.
-/
import Derived.Test.YtihlpfdhallfpaaDoorSumB
import Derived.WalkKit
import Derived.ProofKit
import Derived.OpenShut
import Derived.ChangeOld
import Derived.Deep.Matrix
import Derived.SizedLaws
import Derived.Deep.DeepHandedRow
import Derived.Lib.LaidTab
namespace Go.Proofs.YtihlpfdhallfpaaDoor
open Go.ChangeAt Go.ChangeShapes Go.RowKit Go.WideShapes

theorem wf_byte {xs : List Int} (h : ∀ n ∈ xs, (Lit.int .u8 n).wf = true) : ∀ x ∈ xs, 0 ≤ x ∧ x < 256 := fun x hx => by
  have h1 := h x hx
  simp [Lit.wf, IntKind.min, IntKind.max, IntKind.bits, IntKind.signed] at h1
  omega

/-- A row of bytes as the reading tells it. -/
theorem bs_of_row {W : World} {a : Option Addr} {len cap : Nat} {zs : List Int} (hl : len ≤ cap) (hm : cap ≤ 140737488351232) (hz : zs.length = cap) (hw : ∀ n ∈ zs, (Lit.int .u8 n).wf = true) (hn : a = none → cap = 0)
    (hc : ∀ a', a = some a' → ∀ i, i < cap → W.cell? (a'.add i) = some (.int .u8 (zs.getD i 0))) : BsAt W a len cap (zs.take len) := by
  refine ⟨by rw [List.length_take]; omega, hl, by omega, by omega, fun x hx => wf_byte hw x (List.mem_of_mem_take hx), fun hn0 => ?_, hn⟩
  cases a with
  | none => have := hn rfl; omega
  | some ad =>
    obtain ⟨b, off, spot⟩ := ad
    have hs : spot = none := by simpa [Addr.add] using World.cell?_spot (hc _ rfl 0 (by omega))
    subst hs
    refine ⟨b, off, rfl, fun i hi => ?_⟩
    have := hc _ rfl i (by omega)
    rw [add_plain] at this
    rw [this, List.getD_eq_getElem?_getD, List.getD_eq_getElem?_getD, List.getElem?_take, if_pos hi]

theorem read_bs {H : Type} {enc : TypeId × Value → H} {W : World} {base : Nat} {held : Bool} {a : Option Addr} {len cap : Nat} {d : DataW H} {p : List MemPlace} (h : DataW.Trod enc Tryd.prog W base (fun _ => true) held 35 (.slice a len cap) d p)
    (hs : ∀ el sp, d = .slice el sp → el.length + sp.length ≤ 140737488351232) : ∃ xs, BsAt W a len cap xs := by
  obtain ⟨fuel, hf⟩ := h
  rcases open_ints Tryd.underlying35 Tryd.underlying5 (by kernel_rfl) hf with ⟨hcs, _⟩ | ⟨x, l, c, zs, hcs, _, hl, hm, hz, hx, hcell, hwz⟩
  · simp [Value.cells] at hcs
    obtain ⟨rfl, rfl, rfl⟩ := hcs
    exact ⟨[], rfl, Nat.le_refl _, by omega, by omega, by simp, fun h => by omega, fun _ => rfl⟩
  · simp [Value.cells] at hcs
    obtain ⟨rfl, rfl, rfl⟩ := hcs
    simp only [if_true] at hz
    simp only [Prod.mk.injEq] at hx
    have h1 := hs _ _ hx.1
    simp only [lits, List.length_map, List.length_take, List.length_drop] at h1
    exact ⟨_, bs_of_row hl (by omega) hz hwz (fun h => by cases h) (fun a' ha i hi => by cases ha; exact hcell i (by omega))⟩

theorem read_ps {H : Type} {enc : TypeId × Value → H} {W : World} {base : Nat} {held : Bool} {a : Option Addr} {len cap : Nat} {d : DataW H} {p : List MemPlace} (h : DataW.Trod enc Tryd.prog W base (fun _ => true) held 69 (.slice a len cap) d p)
    (hs : ∀ el sp, d = .slice el sp → ∀ e' s', DataW.slice e' s' ∈ el → e'.length + s'.length ≤ 140737488351232) : ∃ ls, PsAt W a len cap ls := by
  obtain ⟨fuel, hf⟩ := h
  rcases Deep.open_int_rows Tryd.underlying69 Tryd.underlying35 Tryd.underlying5 (by kernel_rfl) (by kernel_rfl) hf with ⟨hcs, _⟩ | ⟨x, l, c, A, L, C, Z, hcs, _, hl, hm, hx, hrows⟩
  · simp [Value.cells] at hcs
    obtain ⟨rfl, rfl, rfl⟩ := hcs
    exact ⟨[], rfl, Nat.le_refl _, by omega, fun h => by omega⟩
  · simp [Value.cells] at hcs
    obtain ⟨rfl, rfl, rfl⟩ := hcs
    simp only [Prod.mk.injEq] at hx
    refine ⟨(List.range len).map fun r => (Z r).take (L r), by simp, hl, by unfold maxLen at hm; omega, fun hn => ?_⟩
    obtain ⟨b, off, spot⟩ := x
    have hsp : spot = none := by simpa [Addr.add] using World.cell?_spot (hrows 0 (by omega)).1
    subst hsp
    refine ⟨b, off, rfl, fun i hi => ?_⟩
    obtain ⟨h1, h2, h3, h4, h5, h6, h7⟩ := hrows i (by omega)
    rw [add_plain] at h1
    refine ⟨A i, L i, C i, h1, ?_⟩
    have e : ((List.range len).map fun r => (Z r).take (L r)).getD i [] = (Z i).take (L i) := by
      simp [List.getD_eq_getElem?_getD, hi]
    rw [e]
    refine bs_of_row h2 ?_ h4 h5 h6 (fun a' ha => (h7 a' ha).2)
    cases hA : A i with
    | none => have := h6 hA; omega
    | some a' =>
      have h8 := hs _ _ hx.1 (lits .u8 ((Z i).take (L i))) (lits .u8 ((Z i).drop (L i))) (List.mem_map.2 ⟨i, List.mem_range.2 hi, by simp [Deep.intRow, hA]⟩)
      simp only [lits, List.length_map, List.length_take, List.length_drop] at h8
      omega

theorem weight_mem {H : Type} {P : Program} {e : TypeId} : ∀ {l : List (DataW H)} {d : DataW H}, d ∈ l → ∀ n ∈ d.weights P e, n ∈ DataW.weightsAll P e l
  | d' :: r, d, hd, n, hn => by
    simp only [DataW.weightsAll, List.mem_append]
    rcases List.mem_cons.1 hd with rfl | h
    · exact Or.inl hn
    · exact Or.inr (weight_mem h n hn)

/-- The form's reach, of a row inside a slice of slices. -/
theorem sized_in {H : Type} {P : Program} {ts : List TypeId} {ds : List (DataW H)} (h : (DataW.weightsEach P ts ds).all (· ≤ reachBytes) = true) {j : Nat} {t e q : TypeId} {elems spare e' sp' : List (DataW H)}
    (ht : ts[j]? = some t) (hd : ds[j]? = some (.slice elems spare)) (hu : P.underlying t = some (.slice e)) (hu2 : P.underlying e = some (.slice q)) (hx : DataW.slice e' sp' ∈ elems) : (e'.length + sp'.length) * P.bytesOf q ≤ reachBytes := by
  refine of_decide_eq_true (List.all_eq_true.1 h _ (DataW.weights_mem_each ht hd _ ?_))
  simp only [DataW.weights, hu, List.mem_cons, List.mem_append]
  exact Or.inr (Or.inl (weight_mem hx _ (by simp [DataW.weights, hu2])))

/-- The 64 words as the row lists them. -/
def kz : List Int := ks.map fun n : Nat => (n : Int)
theorem kz_len : kz.length = 64 := by kernel_rfl
theorem kz_get : ∀ i, i < 64 → kz.getD i 0 = U (K i) := by decide +kernel

theorem ks_of_tab {W : World} {name : String} {g : Nat} (hg : Tryd.prog.globalNamed name = some g) (h : Lib.TabIs Tryd.prog W name .u32 kz) : KsAt g W := fun i hi => by
  rw [h.cell hg i (by rw [kz_len]; exact hi), kz_get i hi]

def intAt (cs : List Value) (i : Nat) : Int := match cs[i]? with | some (.int _ m) => m | _ => 0

theorem read_arr {H : Type} {enc : TypeId × Value → H} {P : Program} {W : World} {base : Nat} {sp : Nat → Bool} {held : Bool} {r : Reach} {b0 : Nat} {t e : TypeId} {n : Nat} {k : IntKind} {v : Value} {d : DataW H} {p : List MemPlace}
    (ht : P.underlying t = some (.array n e)) (he : P.underlying e = some (.int k)) (hce : P.cellsOf e = 1) (hct : P.cellsOf t = n)
    (hval : Value.okWide P W r b0 t v) (hd : DataW.Trod enc P W base sp held t v d p) : ∃ f : Nat → Int, v = .agg (rowArr n fun j => .int k (f j)) ∧ ∀ j, j < n → (Lit.int k (f j)).wf = true := by
  unfold Value.okWide at hval
  rw [ht] at hval
  obtain ⟨cs, rfl, hsz, _⟩ := hval
  obtain ⟨fuel, hf⟩ := hd
  obtain ⟨xs, m, _, _, hl, hxl, hi⟩ := DataW.trod_array ht hf
  have hcs : (Value.agg cs).cells.toList = cs.toList := rfl
  rw [hcs] at hl hi
  rw [hct] at hl
  have key : ∀ i (h : i < n), ∃ q, cs.toList[i]? = some (.int k q) ∧ (Lit.int k q).wf = true := fun i h => by
    have h1 := hi i h
    rw [hce, Nat.mul_one, List.getElem?_eq_getElem (by omega)] at h1
    obtain ⟨q, hq, _, hw⟩ := DataW.trod_int he h1
    refine ⟨q, ?_, hw⟩
    have h2 : ((cs.toList.drop i).take 1)[0]? = some (.int k q) := by rw [hq]; rfl
    rw [List.getElem?_take, if_pos (by omega), List.getElem?_drop] at h2
    exact h2
  refine ⟨intAt cs.toList, ?_, fun j hj => ?_⟩
  · congr 1
    apply Array.ext
    · rw [rowArr_size]; have : cs.toList.length = cs.size := rfl; omega
    · intro i h1 h2
      rw [rowArr_size] at h2
      obtain ⟨q, hq, _⟩ := key i h2
      have h3 := rowArr_get n (fun j => Value.int k (intAt cs.toList j)) i h2
      rw [Array.getElem?_eq_getElem (by rw [rowArr_size]; exact h2)] at h3
      rw [Option.some.inj h3]
      unfold intAt
      rw [hq]
      have h4 : cs[i]? = some (.int k q) := by rw [← Array.getElem?_toList]; exact hq
      rw [Array.getElem?_eq_getElem h1] at h4
      exact Option.some.inj h4
  · obtain ⟨q, hq, hw⟩ := key j hj
    unfold intAt
    rw [hq]
    exact hw

theorem wf_u8 {n : Int} (h : (Lit.int .u8 n).wf = true) : 0 ≤ n ∧ n < 256 := by
  have := bounds_u8 h
  omega

end Go.Proofs.YtihlpfdhallfpaaDoor
