/-
  What a row's reading tells: a slice of bytes that came in, a slice of such slices; a table that the row lists.
-/
import Derived.Test.YtppidlpblkihbaaDoorApp
import Derived.WalkKit
import Derived.ProofKit
import Derived.OpenShut
import Derived.ChangeOld
import Derived.Deep.Matrix
import Derived.SizedLaws
import Derived.Deep.DeepHandedRow
import Derived.Lib.LaidTab
namespace Go.Proofs.YtppidlpblkihbaaDoor
open Go.ChangeShapes Go.WideShapes Go.ChangeAt Go.RowKit

theorem wf_byte {xs : List Int} (h : ∀ n ∈ xs, (Lit.int .u8 n).wf = true) : ∀ x ∈ xs, 0 ≤ x ∧ x < 256 := fun x hx => by
  have h1 := h x hx
  simp [Lit.wf, IntKind.min, IntKind.max, IntKind.bits, IntKind.signed] at h1
  omega

/-- A row of bytes as the reading tells it. -/
theorem bs_of_row {W : World} {a : Option Addr} {len cap : Nat} {zs : List Int} (hl : len ≤ cap) (hm : cap ≤ 140737488351232) (hz : zs.length = cap) (hw : ∀ n ∈ zs, (Lit.int .u8 n).wf = true) (hn : a = none → cap = 0)
    (hc : ∀ a', a = some a' → ∀ i, i < cap → W.cell? (a'.add i) = some (.int .u8 (zs.getD i 0))) : BsAt W a len cap (zs.take len) := by
  refine ⟨by rw [List.length_take]; omega, hl, by omega, by omega, fun x hx => wf_byte hw x (List.mem_of_mem_take hx), fun hn0 => ?_, hn⟩
  cases a with
  | none => have := hn rfl; omega
  | some ad =>
    obtain ⟨b, off, spot⟩ := ad
    have hs : spot = none := by simpa [Addr.add] using World.cell?_spot (hc _ rfl 0 (by omega))
    subst hs
    refine ⟨b, off, rfl, fun i hi => ?_⟩
    have := hc _ rfl i (by omega)
    rw [add_plain] at this
    rw [this, List.getD_eq_getElem?_getD, List.getD_eq_getElem?_getD, List.getElem?_take, if_pos hi]

theorem read_bs {H : Type} {enc : TypeId × Value → H} {W : World} {base : Nat} {held : Bool} {a : Option Addr} {len cap : Nat} {d : DataW H} {p : List MemPlace} (h : DataW.Trod enc Tryd.prog W base (fun _ => true) held 41 (.slice a len cap) d p)
    (hs : ∀ el sp, d = .slice el sp → el.length + sp.length ≤ 140737488351232) : ∃ xs, BsAt W a len cap xs := by
  obtain ⟨fuel, hf⟩ := h
  rcases open_ints Tryd.underlying41 Tryd.underlying5 (by kernel_rfl) hf with ⟨hcs, _⟩ | ⟨x, l, c, zs, hcs, _, hl, hm, hz, hx, hcell, hwz⟩
  · simp [Value.cells] at hcs
    obtain ⟨rfl, rfl, rfl⟩ := hcs
    exact ⟨[], rfl, Nat.le_refl _, by omega, by omega, by simp, fun h => by omega, fun _ => rfl⟩
  · simp [Value.cells] at hcs
    obtain ⟨rfl, rfl, rfl⟩ := hcs
    simp only [if_true] at hz
    simp only [Prod.mk.injEq] at hx
    have h1 := hs _ _ hx.1
    simp only [lits, List.length_map, List.length_take, List.length_drop] at h1
    exact ⟨_, bs_of_row hl (by omega) hz hwz (fun h => by cases h) (fun a' ha i hi => by cases ha; exact hcell i (by omega))⟩

theorem read_ps {H : Type} {enc : TypeId × Value → H} {W : World} {base : Nat} {held : Bool} {a : Option Addr} {len cap : Nat} {d : DataW H} {p : List MemPlace} (h : DataW.Trod enc Tryd.prog W base (fun _ => true) held 107 (.slice a len cap) d p)
    (hs : ∀ el sp, d = .slice el sp → ∀ e' s', DataW.slice e' s' ∈ el → e'.length + s'.length ≤ 140737488351232) : ∃ ls, PsAt W a len cap ls := by
  obtain ⟨fuel, hf⟩ := h
  rcases Deep.open_int_rows Tryd.underlying107 Tryd.underlying41 Tryd.underlying5 (by kernel_rfl) (by kernel_rfl) hf with ⟨hcs, _⟩ | ⟨x, l, c, A, L, C, Z, hcs, _, hl, hm, hx, hrows⟩
  · simp [Value.cells] at hcs
    obtain ⟨rfl, rfl, rfl⟩ := hcs
    exact ⟨[], rfl, Nat.le_refl _, by omega, fun h => by omega⟩
  · simp [Value.cells] at hcs
    obtain ⟨rfl, rfl, rfl⟩ := hcs
    simp only [Prod.mk.injEq] at hx
    refine ⟨(List.range len).map fun r => (Z r).take (L r), by simp, hl, by unfold maxLen at hm; omega, fun hn => ?_⟩
    obtain ⟨b, off, spot⟩ := x
    have hsp : spot = none := by simpa [Addr.add] using World.cell?_spot (hrows 0 (by omega)).1
    subst hsp
    refine ⟨b, off, rfl, fun i hi => ?_⟩
    obtain ⟨h1, h2, h3, h4, h5, h6, h7⟩ := hrows i (by omega)
    rw [add_plain] at h1
    refine ⟨A i, L i, C i, h1, ?_⟩
    have e : ((List.range len).map fun r => (Z r).take (L r)).getD i [] = (Z i).take (L i) := by
      simp [List.getD_eq_getElem?_getD, hi]
    rw [e]
    refine bs_of_row h2 ?_ h4 h5 h6 (fun a' ha => (h7 a' ha).2)
    cases hA : A i with
    | none => have := h6 hA; omega
    | some a' =>
      have h8 := hs _ _ hx.1 (lits .u8 ((Z i).take (L i))) (lits .u8 ((Z i).drop (L i))) (List.mem_map.2 ⟨i, List.mem_range.2 hi, by simp [Deep.intRow, hA]⟩)
      simp only [lits, List.length_map, List.length_take, List.length_drop] at h8
      omega

theorem weight_mem {H : Type} {P : Program} {e : TypeId} : ∀ {l : List (DataW H)} {d : DataW H}, d ∈ l → ∀ n ∈ d.weights P e, n ∈ DataW.weightsAll P e l
  | d' :: r, d, hd, n, hn => by
    simp only [DataW.weightsAll, List.mem_append]
    rcases List.mem_cons.1 hd with rfl | h
    · exact Or.inl hn
    · exact Or.inr (weight_mem h n hn)

/-- The form's reach, of a row inside a slice of slices. -/
theorem sized_in {H : Type} {P : Program} {ts : List TypeId} {ds : List (DataW H)} (h : (DataW.weightsEach P ts ds).all (· ≤ reachBytes) = true) {j : Nat} {t e q : TypeId} {elems spare e' sp' : List (DataW H)}
    (ht : ts[j]? = some t) (hd : ds[j]? = some (.slice elems spare)) (hu : P.underlying t = some (.slice e)) (hu2 : P.underlying e = some (.slice q)) (hx : DataW.slice e' sp' ∈ elems) : (e'.length + sp'.length) * P.bytesOf q ≤ reachBytes := by
  refine of_decide_eq_true (List.all_eq_true.1 h _ (DataW.weights_mem_each ht hd _ ?_))
  simp only [DataW.weights, hu, List.mem_cons, List.mem_append]
  exact Or.inr (Or.inl (weight_mem hx _ (by simp [DataW.weights, hu2])))

/-- The 64 words as the row lists them. -/
def kz : List Int := ks.map fun n : Nat => (n : Int)
theorem kz_len : kz.length = 64 := by kernel_rfl
theorem kz_get : ∀ i, i < 64 → kz.getD i 0 = U (K i) := by decide +kernel

theorem ks_of_tab {W : World} {name : String} {g : Nat} (hg : Tryd.prog.globalNamed name = some g) (h : Lib.TabIs Tryd.prog W name .u32 kz) : KsAt g W := fun i hi => by
  rw [h.cell hg i (by rw [kz_len]; exact hi), kz_get i hi]

end Go.Proofs.YtppidlpblkihbaaDoor
