/-
  What a row's reading tells of a value of any type: opened field by field, element by element, with the form's reach. No conditions.
  A header by value as a row's reading tells it. No conditions.
  A slice of headers as a row's reading tells it. No conditions.
-/
import Derived.Test.YtihlpfdhallfpaaDoorBys
import Derived.OpenShut
import Derived.ChangeArms
import Derived.ChangeOld
import Derived.SizedLaws
import Derived.DataReads
import Derived.Deep.Slices
import Derived.Test.YtihlpfdhallfpaaDoorHdA
import Derived.Test.YtihlpfdhallfpaaDoorHs
namespace Go.Proofs.YtihlpfdhallfpaaDoor
open Go.ChangeAt Go.ChangeShapes Go.RowKit Go.WideShapes

def fldOf (P : Program) (t : TypeId) (i : Nat) : Option (TypeId × Nat) :=
  match P.underlying t with
  | some (.struct fs) => (fs[i]?).map fun f => (f.type, f.offset)
  | _ => none

/-- The cells read as a value of the type, within the form's reach. -/
def Rd {H : Type} (enc : TypeId × Value → H) (P : Program) (W : World) (base : Nat) (t : TypeId) (cs : List Value) : Prop :=
  ∃ fuel d p, DataW.trod enc P W base (fun _ => true) true fuel t cs = some (d, p) ∧ ∀ n ∈ d.weights P t, n ≤ reachBytes

section
variable {H : Type} {enc : TypeId × Value → H} {P : Program} {W : World} {base : Nat} {t e : TypeId} {cs : List Value}

theorem weightsAll_mem {l : List (DataW H)} {d : DataW H} (hd : d ∈ l) : ∀ n ∈ d.weights P e, n ∈ DataW.weightsAll P e l := by
  induction l with
  | nil => cases hd
  | cons x l ih =>
    intro n hn
    simp only [DataW.weightsAll, List.mem_append]
    rcases List.mem_cons.1 hd with rfl | h
    · exact .inl hn
    · exact .inr (ih h n hn)

theorem Rd.of_trod {v : Value} {d : DataW H} {p : List MemPlace} {ts : List TypeId} {ds : List (DataW H)} (h : DataW.Trod enc P W base (fun _ => true) true t v d p)
    (hsz : (DataW.weightsEach P ts ds).all (· ≤ reachBytes) = true) {j : Nat} (ht : ts[j]? = some t) (hd : ds[j]? = some d) : Rd enc P W base t v.cells.toList := by
  obtain ⟨fuel, hf⟩ := h
  exact ⟨fuel, d, p, hf, fun n hn => of_decide_eq_true (List.all_eq_true.1 hsz _ (DataW.weights_mem_each ht hd n hn))⟩

theorem Rd.field (h : Rd enc P W base t cs) {i off : Nat} (hf : fldOf P t i = some (e, off)) : Rd enc P W base e ((cs.drop off).take (P.cellsOf e)) := by
  obtain ⟨fuel, d, p, ht, hw⟩ := h
  unfold fldOf at hf
  split at hf
  · rename_i fs hu
    obtain ⟨xs, n, _, hx, _, hl, hi⟩ := DataW.trod_struct hu ht
    cases hq : fs[i]? with
    | none => rw [hq] at hf; cases hf
    | some f =>
      rw [hq] at hf
      simp only [Option.map_some, Option.some.injEq, Prod.mk.injEq] at hf
      obtain ⟨rfl, rfl⟩ := hf
      have h1 := hi i f hq
      have hlt : i < xs.length := by rw [hl]; exact (Array.getElem?_eq_some_iff.1 hq).1
      rw [List.getElem?_eq_getElem hlt] at h1
      simp only [Prod.mk.injEq] at hx
      refine ⟨n, xs[i].1, xs[i].2, h1, fun m hm => hw m ?_⟩
      rw [hx.1]
      simp only [DataW.weights, hu]
      refine DataW.weights_mem_each (j := i) ?_ ?_ m hm
      · rw [List.getElem?_map, Array.getElem?_toList, hq]; rfl
      · rw [List.getElem?_map, List.getElem?_eq_getElem hlt]; rfl
  · cases hf

theorem Rd.elem (h : Rd enc P W base t cs) {n : Nat} (hu : P.underlying t = some (.array n e)) {i : Nat} (hi : i < n) : Rd enc P W base e ((cs.drop (i * P.cellsOf e)).take (P.cellsOf e)) := by
  obtain ⟨fuel, d, p, ht, hw⟩ := h
  obtain ⟨xs, m, _, hx, _, hl, hget⟩ := DataW.trod_array hu ht
  have h1 := hget i hi
  have hlt : i < xs.length := by omega
  rw [List.getElem?_eq_getElem hlt] at h1
  simp only [Prod.mk.injEq] at hx
  refine ⟨m, xs[i].1, xs[i].2, h1, fun k hk => hw k ?_⟩
  rw [hx.1]
  simp only [DataW.weights, hu]
  exact weightsAll_mem (List.mem_map.2 ⟨xs[i], List.getElem_mem hlt, rfl⟩) k hk

theorem Rd.int (h : Rd enc P W base t cs) {k : IntKind} (hu : P.underlying t = some (.int k)) : ∃ n, cs = [.int k n] ∧ (Lit.int k n).wf = true := by
  obtain ⟨fuel, d, p, ht, _⟩ := h
  obtain ⟨n, h1, _, h2⟩ := DataW.trod_int hu ht
  exact ⟨n, h1, h2⟩

theorem Rd.bool (h : Rd enc P W base t cs) (hu : P.underlying t = some .bool) : ∃ b, cs = [.bool b] := by
  obtain ⟨fuel, d, p, ht, _⟩ := h
  obtain ⟨b, h1, _⟩ := DataW.trod_bool hu ht
  exact ⟨b, h1⟩

theorem Rd.string (h : Rd enc P W base t cs) (hu : P.underlying t = some .string) : ∃ s : ByteArray, cs = [.string s] ∧ s.size ≤ 140737488351232 := by
  obtain ⟨fuel, d, p, ht, hw⟩ := h
  obtain ⟨s, h1, h2, _⟩ := DataW.trod_string hu ht
  simp only [Prod.mk.injEq] at h2
  refine ⟨s, h1, ?_⟩
  have := hw s.data.toList.length (by rw [h2.1]; simp [DataW.weights])
  simpa [reachBytes] using this

theorem Rd.slice (h : Rd enc P W base t cs) (hu : P.underlying t = some (.slice e)) :
    cs = [.slice none 0 0] ∨ ∃ a len cap, cs = [.slice (some a) len cap] ∧ len ≤ cap ∧ cap ≤ maxLen ∧ cap * P.bytesOf e ≤ reachBytes ∧ ∀ i, i < cap → ∃ cs', W.cells? base (a.add (i * P.cellsOf e)) (P.cellsOf e) = some cs' ∧ Rd enc P W base e cs' := by
  obtain ⟨fuel, d, p, ht, hw⟩ := h
  rcases Deep.open_slice hu ht with ⟨h1, _⟩ | ⟨a, len, cap, m, n, D, Pl, h1, _, hl, hc, hm, hx, hi⟩
  · exact .inl h1
  · simp only [if_true] at hm
    subst hm
    simp only [Prod.mk.injEq] at hx
    refine .inr ⟨a, len, m, h1, hl, hc, ?_, fun i hlt => ?_⟩
    · have := hw (m * P.bytesOf e) (by
        rw [hx.1]
        simp only [DataW.weights, hu, List.length_map, List.length_range, List.mem_cons]
        left
        congr 1
        omega)
      exact this
    · obtain ⟨cs', k1, k2⟩ := hi i hlt
      refine ⟨cs', k1, n, D i, Pl i, k2, fun q hq => hw q ?_⟩
      rw [hx.1]
      simp only [DataW.weights, hu, List.mem_cons, List.mem_append]
      right
      by_cases hil : i < len
      · exact .inl (weightsAll_mem (List.mem_map.2 ⟨i, List.mem_range.2 hil, rfl⟩) q hq)
      · refine .inr (weightsAll_mem (List.mem_map.2 ⟨i - len, List.mem_range.2 (by omega), ?_⟩) q hq)
        rw [show len + (i - len) = i by omega]

theorem one_cell {cs : List Value} {off : Nat} {v : Value} (h : (cs.drop off).take 1 = [v]) : cs[off]? = some v := by
  have h2 : ((cs.drop off).take 1)[0]? = some v := by rw [h]; rfl
  rw [List.getElem?_take, if_pos (by omega), List.getElem?_drop] at h2
  simpa using h2

theorem cells_at {cs : List Value} {n : Nat} {a : Addr} (h : W.cells? base a n = some cs) : cs.length = n ∧ ∀ i, i < n → W.cell? (a.add i) = cs[i]? := by
  obtain ⟨_, h2, h3⟩ := World.cells?_some h
  exact ⟨h2, h3⟩
end

/-- A byte in a cell. -/
def intIn (v : Option Value) : Int := match v with | some (.int _ n) => n | _ => 0

theorem Rd.bytes {H : Type} {enc : TypeId × Value → H} {W : World} {base : Nat} {cs : List Value} (h : Rd enc Tryd.prog W base 35 cs) : ∃ a n c xs, cs = [.slice a n c] ∧ BsAt W a n c xs := by
  rcases h.slice Tryd.underlying35 with h1 | ⟨a, len, cap, h1, hl, hc, hw, hi⟩
  · exact ⟨none, 0, 0, [], h1, rfl, Nat.le_refl _, by omega, by omega, by simp, fun h => by omega, fun _ => rfl⟩
  · have e1 : Tryd.prog.bytesOf 5 = 1 := by kernel_rfl
    have e2 : Tryd.prog.cellsOf 5 = 1 := by kernel_rfl
    rw [e1, Nat.mul_one] at hw
    have hcell : ∀ i, i < cap → ∃ n, W.cell? (a.add i) = some (.int .u8 n) ∧ 0 ≤ n ∧ n < 256 := fun i hlt => by
      obtain ⟨cs', k1, k2⟩ := hi i hlt
      obtain ⟨n, rfl, hwf⟩ := k2.int Tryd.underlying5
      rw [e2, Nat.mul_one] at k1
      have := (cells_at k1).2 0 (by omega)
      have hb := bounds_u8 hwf
      have e3 : (a.add i).add 0 = a.add i := by unfold Addr.add; split <;> simp_all
      rw [e3] at this
      exact ⟨n, this, by omega, by omega⟩
    refine ⟨some a, len, cap, (List.range len).map fun i => intIn (W.cell? (a.add i)), h1, by simp, hl, by unfold maxLen at hc; omega, by unfold reachBytes at hw; omega, fun x hx => ?_, fun h0 => ?_, by simp⟩
    · obtain ⟨i, hi2, rfl⟩ := List.mem_map.1 hx
      obtain ⟨n, k1, k2⟩ := hcell i (by have := List.mem_range.1 hi2; omega)
      rw [k1]
      exact k2
    · obtain ⟨b, off, spot⟩ := a
      obtain ⟨n0, k0, _⟩ := hcell 0 (by omega)
      have hs : spot = none := by simpa [Addr.add] using World.cell?_spot k0
      subst hs
      refine ⟨b, off, rfl, fun i hlt => ?_⟩
      obtain ⟨n, k1, _⟩ := hcell i (by omega)
      have e4 : ((List.range len).map fun i => intIn (W.cell? ((⟨b, off, none⟩ : Addr).add i))).getD i 0 = n := by
        rw [List.getD_eq_getElem?_getD, List.getElem?_map, List.getElem?_range hlt]
        simp [k1, intIn]
      rw [e4, ← k1, addr_add]

section
variable {H : Type} {enc : TypeId × Value → H} {P : Program} {W : World} {base : Nat} {t e : TypeId} {cs : List Value}
theorem Rd.ints (h : Rd enc P W base t cs) {n : Nat} {k : IntKind} (hu : P.underlying t = some (.array n e)) (he : P.underlying e = some (.int k)) (hce : P.cellsOf e = 1) :
    ∀ j, j < n → cs[j]? = some (.int k (intIn cs[j]?)) ∧ (Lit.int k (intIn cs[j]?)).wf = true := by
  intro j hj
  have h1 := h.elem hu hj
  rw [hce, Nat.mul_one] at h1
  obtain ⟨x, hx, hw⟩ := h1.int he
  have h2 := one_cell hx
  rw [h2]
  exact ⟨rfl, hw⟩
theorem sub_get {cs : List Value} {off n j : Nat} (hj : j < n) : ((cs.drop off).take n)[j]? = cs[off + j]? := by
  rw [List.getElem?_take, if_pos hj, List.getElem?_drop]
end

theorem Rd.toks {H : Type} {enc : TypeId × Value → H} {W : World} {base : Nat} {cs : List Value} (h : Rd enc Tryd.prog W base 31 cs) : ∃ (a : Option Addr) (n c : Nat) (ts : List (Nat → Int)), cs = [.slice a n c] ∧ TsAt W a n c ts := by
  rcases h.slice Tryd.underlying31 with h1 | ⟨a, len, cap, h1, hl, hc, hw, hi⟩
  · exact ⟨none, 0, 0, [], h1, rfl, Nat.le_refl _, by omega, by omega, by simp, fun h => by omega, fun _ => rfl⟩
  · have e1 : Tryd.prog.bytesOf 30 = 16 := by kernel_rfl
    have e2 : Tryd.prog.cellsOf 30 = 16 := by kernel_rfl
    have e3 : Tryd.prog.cellsOf 5 = 1 := by kernel_rfl
    rw [e1] at hw
    have each : ∀ i, ∃ t : Nat → Int, i < cap → ∀ j, j < 16 → W.cell? ((a.add (i * 16)).add j) = some (.int .u8 (t j)) ∧ 0 ≤ t j ∧ t j < 256 := fun i => by
      by_cases hlt : i < cap
      · obtain ⟨cs', k1, k2⟩ := hi i hlt
        rw [e2] at k1
        have h3 := k2.ints Tryd.underlying30 Tryd.underlying5 e3
        refine ⟨fun j => intIn cs'[j]?, fun _ j hj => ?_⟩
        obtain ⟨h4, h5⟩ := h3 j hj
        have hb : 0 ≤ intIn cs'[j]? ∧ intIn cs'[j]? < 256 := by
          have := bounds_u8 h5
          omega
        rw [(cells_at k1).2 j hj]
        exact ⟨h4, hb⟩
      · exact ⟨fun _ => 0, fun h => absurd h hlt⟩
    obtain ⟨T, hT⟩ := Classical.axiomOfChoice each
    refine ⟨some a, len, cap, (List.range len).map T, h1, by simp, hl, by unfold maxLen at hc; omega, by unfold reachBytes at hw; omega, fun t ht j hj => ?_, fun hn0 => ?_, fun h => by cases h⟩
    · obtain ⟨i, hi2, rfl⟩ := List.mem_map.1 ht
      exact (hT i (by have := List.mem_range.1 hi2; omega) j hj).2
    · obtain ⟨b, off, spot⟩ := a
      have hsp : spot = none := by
        have g := (hT 0 (by omega) 0 (by omega)).1
        simpa [Addr.add] using World.cell?_spot g
      subst hsp
      refine ⟨b, off, rfl, fun i hi2 j hj => ?_⟩
      have g := (hT i (by omega) j hj).1
      rw [addr_add, addr_add] at g
      rw [g]
      simp [List.getD_eq_getElem?_getD, hi2]

theorem hdV_get (h : Hd) (i : Nat) (hi : i < 125) : (hdV h).toList[i]? = some (hdC h i) := by
  rw [Array.getElem?_toList]
  exact rowArr_get _ _ _ hi

set_option maxRecDepth 100000 in
theorem rd_hd {H : Type} {enc : TypeId × Value → H} {W : World} {base : Nat} {cs : List Value} (hl : cs.length = 125) (hr : Rd enc Tryd.prog W base 34 cs) :
    ∃ (h : Hd) (ts : List (Nat → Int)), cs = (hdV h).toList ∧ HdOk h ∧ TsAt W h.ta h.tn h.tc ts := by
  have c1 : Tryd.prog.cellsOf 3 = 1 := by kernel_rfl
  have c2 : Tryd.prog.cellsOf 26 = 1 := by kernel_rfl
  have c3 : Tryd.prog.cellsOf 28 = 32 := by kernel_rfl
  have c4 : Tryd.prog.cellsOf 30 = 16 := by kernel_rfl
  have c5 : Tryd.prog.cellsOf 4 = 1 := by kernel_rfl
  have c6 : Tryd.prog.cellsOf 31 = 1 := by kernel_rfl
  have c7 : Tryd.prog.cellsOf 32 = 6 := by kernel_rfl
  have c8 : Tryd.prog.cellsOf 5 = 1 := by kernel_rfl
  have h0 := hr.field (i := 0) (off := 0) (e := 3) (by kernel_rfl)
  have h1 := hr.field (i := 1) (off := 1) (e := 26) (by kernel_rfl)
  have h2 := hr.field (i := 2) (off := 2) (e := 28) (by kernel_rfl)
  have h3 := hr.field (i := 3) (off := 34) (e := 3) (by kernel_rfl)
  have h4 := hr.field (i := 4) (off := 35) (e := 4) (by kernel_rfl)
  have h5 := hr.field (i := 5) (off := 36) (e := 26) (by kernel_rfl)
  have h6 := hr.field (i := 6) (off := 37) (e := 30) (by kernel_rfl)
  have h7 := hr.field (i := 7) (off := 53) (e := 31) (by kernel_rfl)
  have h8 := hr.field (i := 8) (off := 54) (e := 32) (by kernel_rfl)
  have h9 := hr.field (i := 9) (off := 60) (e := 28) (by kernel_rfl)
  have h10 := hr.field (i := 10) (off := 92) (e := 3) (by kernel_rfl)
  have h11 := hr.field (i := 11) (off := 93) (e := 28) (by kernel_rfl)
  rw [c1] at h0 h3 h10
  rw [c2] at h1 h5
  rw [c3] at h2 h9 h11
  rw [c4] at h6
  rw [c5] at h4
  rw [c6] at h7
  rw [c7] at h8
  obtain ⟨x0, e0, w0⟩ := h0.int Tryd.underlying3
  obtain ⟨x1, e1, w1⟩ := h1.int Tryd.underlying26
  obtain ⟨x3, e3, w3⟩ := h3.int Tryd.underlying3
  obtain ⟨x4, e4⟩ := h4.bool Tryd.underlying4
  obtain ⟨x5, e5, w5⟩ := h5.int Tryd.underlying26
  obtain ⟨ta, tn, tc, ts, e7, hts⟩ := h7.toks
  obtain ⟨x10, e10, w10⟩ := h10.int Tryd.underlying3
  have a2 := h2.ints Tryd.underlying28 Tryd.underlying5 c8
  have a6 := h6.ints Tryd.underlying30 Tryd.underlying5 c8
  have a8 := h8.ints Tryd.underlying32 Tryd.underlying26 c2
  have a9 := h9.ints Tryd.underlying28 Tryd.underlying5 c8
  have a11 := h11.ints Tryd.underlying28 Tryd.underlying5 c8
  have k0 := one_cell e0
  have k1 := one_cell e1
  have k3 := one_cell e3
  have k4 := one_cell e4
  have k5 := one_cell e5
  have k7 := one_cell e7
  have k10 := one_cell e10
  have b0 := bounds_i64 w0
  have b1 := bounds_u64 w1
  have b3 := bounds_i64 w3
  have b5 := bounds_u64 w5
  have b10 := bounds_i64 w10
  refine ⟨⟨x0, x1, fun j => intIn cs[2 + j]?, x3, x4, x5, fun j => intIn cs[37 + j]?, ta, tn, tc, fun j => intIn cs[54 + j]?, fun j => intIn cs[60 + j]?, x10, fun j => intIn cs[93 + j]?⟩, ts, ?_, ⟨(show -9223372036854775808 ≤ x0 ∧ x0 ≤ 9223372036854775807 from ⟨by omega, by omega⟩), (show 0 ≤ x1 ∧ x1 < 18446744073709551616 from ⟨by omega, by omega⟩), fun j hj => ?_, (show -9223372036854775808 ≤ x3 ∧ x3 ≤ 9223372036854775807 from ⟨by omega, by omega⟩), (show 0 ≤ x5 ∧ x5 < 18446744073709551616 from ⟨by omega, by omega⟩), fun j hj => ?_, fun j hj => ?_, fun j hj => ?_, (show -9223372036854775808 ≤ x10 ∧ x10 ≤ 9223372036854775807 from ⟨by omega, by omega⟩), fun j hj => ?_⟩, hts⟩
  · apply List.ext_getElem?
    intro i
    by_cases hi : i < 125
    · rw [hdV_get _ i hi]
      unfold hdC
      by_cases l1 : i < 1
      · obtain rfl : i = 0 := by omega
        exact k0
      rw [if_neg l1]
      by_cases l2 : i < 2
      · obtain rfl : i = 1 := by omega
        exact k1
      rw [if_neg l2]
      by_cases l3 : i < 34
      · rw [if_pos l3]
        have := (a2 (i - 2) (by omega)).1
        rw [sub_get (by omega), show 2 + (i - 2) = i by omega] at this
        show _ = some (Value.int .u8 (intIn cs[2 + (i - 2)]?))
        rw [show 2 + (i - 2) = i by omega]
        exact this
      rw [if_neg l3]
      by_cases l4 : i < 35
      · obtain rfl : i = 34 := by omega
        exact k3
      rw [if_neg l4]
      by_cases l5 : i < 36
      · obtain rfl : i = 35 := by omega
        exact k4
      rw [if_neg l5]
      by_cases l6 : i < 37
      · obtain rfl : i = 36 := by omega
        exact k5
      rw [if_neg l6]
      by_cases l7 : i < 53
      · rw [if_pos l7]
        have := (a6 (i - 37) (by omega)).1
        rw [sub_get (by omega), show 37 + (i - 37) = i by omega] at this
        show _ = some (Value.int .u8 (intIn cs[37 + (i - 37)]?))
        rw [show 37 + (i - 37) = i by omega]
        exact this
      rw [if_neg l7]
      by_cases l8 : i < 54
      · obtain rfl : i = 53 := by omega
        exact k7
      rw [if_neg l8]
      by_cases l9 : i < 60
      · rw [if_pos l9]
        have := (a8 (i - 54) (by omega)).1
        rw [sub_get (by omega), show 54 + (i - 54) = i by omega] at this
        show _ = some (Value.int .u64 (intIn cs[54 + (i - 54)]?))
        rw [show 54 + (i - 54) = i by omega]
        exact this
      rw [if_neg l9]
      by_cases l10 : i < 92
      · rw [if_pos l10]
        have := (a9 (i - 60) (by omega)).1
        rw [sub_get (by omega), show 60 + (i - 60) = i by omega] at this
        show _ = some (Value.int .u8 (intIn cs[60 + (i - 60)]?))
        rw [show 60 + (i - 60) = i by omega]
        exact this
      rw [if_neg l10]
      by_cases l11 : i < 93
      · obtain rfl : i = 92 := by omega
        exact k10
      rw [if_neg l11]
      have := (a11 (i - 93) (by omega)).1
      rw [sub_get (by omega), show 93 + (i - 93) = i by omega] at this
      show _ = some (Value.int .u8 (intIn cs[93 + (i - 93)]?))
      rw [show 93 + (i - 93) = i by omega]
      exact this
    · rw [List.getElem?_eq_none (by omega), List.getElem?_eq_none (by rw [Array.length_toList, hdV_size]; omega)]
  · have := bounds_u8 (a2 j hj).2
    rw [sub_get hj] at this
    show 0 ≤ intIn cs[2 + j]? ∧ intIn cs[2 + j]? < 256
    omega
  · have := bounds_u8 (a6 j hj).2
    rw [sub_get hj] at this
    show 0 ≤ intIn cs[37 + j]? ∧ intIn cs[37 + j]? < 256
    omega
  · have := bounds_u64 (a8 j hj).2
    rw [sub_get hj] at this
    show 0 ≤ intIn cs[54 + j]? ∧ intIn cs[54 + j]? < 18446744073709551616
    omega
  · have := bounds_u8 (a9 j hj).2
    rw [sub_get hj] at this
    show 0 ≤ intIn cs[60 + j]? ∧ intIn cs[60 + j]? < 256
    omega
  · have := bounds_u8 (a11 j hj).2
    rw [sub_get hj] at this
    show 0 ≤ intIn cs[93 + j]? ∧ intIn cs[93 + j]? < 256
    omega

set_option maxRecDepth 100000 in
theorem read_hd {H : Type} {enc : TypeId × Value → H} {W : World} {base : Nat} {r : Reach} {b0 : Nat} {v : Value} (hval : Value.okWide Tryd.prog W r b0 34 v) (hr : Rd enc Tryd.prog W base 34 v.cells.toList) :
    ∃ (h : Hd) (ts : List (Nat → Int)), v = .agg (hdV h) ∧ HdOk h ∧ TsAt W h.ta h.tn h.tc ts := by
  obtain ⟨cs, rfl, hsz⟩ := okWide_struct Tryd.underlying34 hval
  have hcs : (Value.agg cs).cells.toList = cs.toList := rfl
  rw [hcs] at hr
  rw [show Tryd.prog.cellsOf 34 = 125 by kernel_rfl] at hsz
  obtain ⟨h, ts, he, ho, ht⟩ := rd_hd (by rw [Array.length_toList]; exact hsz) hr
  exact ⟨h, ts, by congr 1; exact Array.ext' he, ho, ht⟩

theorem Rd.hds {H : Type} {enc : TypeId × Value → H} {W : World} {base : Nat} {cs : List Value} (h : Rd enc Tryd.prog W base 90 cs) : ∃ (a : Option Addr) (n c : Nat) (l : List HT), cs = [.slice a n c] ∧ HsAt W a n c l := by
  rcases h.slice Tryd.underlying90 with h1 | ⟨a, len, cap, h1, hl, hc, hw, hi⟩
  · exact ⟨none, 0, 0, [], h1, rfl, Nat.le_refl _, by omega, by omega, fun x hx => (by cases hx), fun h => by omega, fun _ => rfl⟩
  · have e1 : Tryd.prog.bytesOf 34 = 232 := by kernel_rfl
    have e2 : Tryd.prog.cellsOf 34 = 125 := by kernel_rfl
    rw [e1] at hw
    have each : ∀ i, ∃ x : HT, i < cap → (∀ j, j < 125 → W.cell? ((a.add (i * 125)).add j) = some (hdC x.1 j)) ∧ HtAt W x := fun i => by
      by_cases hlt : i < cap
      · obtain ⟨cs', k1, k2⟩ := hi i hlt
        rw [e2] at k1
        obtain ⟨h, ts, he, ho, ht⟩ := rd_hd (cells_at k1).1 k2
        refine ⟨(h, ts), fun _ => ⟨fun j hj => ?_, ho, ht⟩⟩
        rw [(cells_at k1).2 j hj, he]
        exact hdV_get h j hj
      · exact ⟨htN, fun h => absurd h hlt⟩
    obtain ⟨F, hF⟩ := Classical.axiomOfChoice each
    refine ⟨some a, len, cap, (List.range len).map F, h1, by simp, hl, by unfold maxLen at hc; omega, by unfold reachBytes at hw; omega, fun x hx => ?_, fun hn0 => ?_, fun h => by cases h⟩
    · obtain ⟨i, hi2, rfl⟩ := List.mem_map.1 hx
      exact (hF i (by have := List.mem_range.1 hi2; omega)).2
    · obtain ⟨b, off, spot⟩ := a
      have hsp : spot = none := by
        have g := (hF 0 (by omega)).1 0 (by omega)
        simpa [Addr.add] using World.cell?_spot g
      subst hsp
      refine ⟨b, off, rfl, fun i hi2 j hj => ?_⟩
      have g := (hF i (by omega)).1 j hj
      rw [addr_add, addr_add] at g
      rw [g]
      simp [List.getD_eq_getElem?_getD, hi2]

set_option maxRecDepth 100000 in
theorem read_hs {H : Type} {enc : TypeId × Value → H} {W : World} {base : Nat} {r : Reach} {b0 : Nat} {v : Value} (hval : Value.okWide Tryd.prog W r b0 90 v) (hr : Rd enc Tryd.prog W base 90 v.cells.toList) :
    ∃ (a : Option Addr) (n c : Nat) (l : List HT), v = .slice a n c ∧ HsAt W a n c l := by
  obtain ⟨a, n, c, rfl⟩ := okWide_slice Tryd.underlying90 hval
  obtain ⟨a', n', c', l, he, hb⟩ := hr.hds
  have h1 : (Value.slice a n c).cells.toList = [.slice a n c] := rfl
  rw [h1] at he
  simp only [List.cons.injEq, Value.slice.injEq, and_true] at he
  obtain ⟨rfl, rfl, rfl⟩ := he
  exact ⟨_, _, _, l, rfl, hb⟩

end Go.Proofs.YtihlpfdhallfpaaDoor
