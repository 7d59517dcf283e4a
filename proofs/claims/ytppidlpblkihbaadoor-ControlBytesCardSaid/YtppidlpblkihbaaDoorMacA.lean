/-
  Plain HMAC over lists of numbers, and steps of a walk: a row of bytes as a slice, copy into a row, slices behind slices. No conditions but lengths.
-/
import Derived.Test.YtppidlpblkihbaaDoorApp
import Derived.Test.YtppidlpblkihbaaDoorJoined
import Derived.Laws.CopyOwn
namespace Go.Proofs.YtppidlpblkihbaaDoor
open Go.ChangeShapes Go.WideShapes Go.ChangeAt Go.RowKit

/-- SHA-256 as a list of 32 bytes. -/
def shaL (xs : List Int) : List Int := (List.range 32).map (shaF xs)
/-- HMAC's key, as it is padded. -/
def macKey (k : List Int) : List Int := if 64 < k.length then shaL k else k
def padK (m : Int) (k : List Int) : List Int := (List.range 64).map fun i => bits .xor .u8 (k.getD i 0) m
/-- Byte j of HMAC. -/
def macF (key xs : List Int) (j : Nat) : Int := shaF (padK 92 (macKey key) ++ shaL (padK 54 (macKey key) ++ xs)) j
def macL (key xs : List Int) : List Int := (List.range 32).map (macF key xs)

theorem shaF_byte (xs : List Int) (j : Nat) : 0 ≤ shaF xs j ∧ shaF xs j < 256 := by
  unfold shaF
  exact getD_byte (beB_byte _ _) _
theorem shaL_length (xs : List Int) : (shaL xs).length = 32 := by simp [shaL]
theorem shaL_byte (xs : List Int) : ∀ x ∈ shaL xs, 0 ≤ x ∧ x < 256 := by
  intro x hx
  obtain ⟨j, _, rfl⟩ := List.mem_map.1 hx
  exact shaF_byte xs j
theorem macL_length (k xs : List Int) : (macL k xs).length = 32 := by simp [macL]
theorem macF_byte (k xs : List Int) (j : Nat) : 0 ≤ macF k xs j ∧ macF k xs j < 256 := shaF_byte _ j
theorem macL_byte (k xs : List Int) : ∀ x ∈ macL k xs, 0 ≤ x ∧ x < 256 := by
  intro x hx
  obtain ⟨j, _, rfl⟩ := List.mem_map.1 hx
  exact macF_byte k xs j
theorem padK_length (m : Int) (k : List Int) : (padK m k).length = 64 := by simp [padK]
theorem padK_byte (m : Int) (k : List Int) : ∀ x ∈ padK m k, 0 ≤ x ∧ x < 256 := by
  intro x hx
  obtain ⟨j, _, rfl⟩ := List.mem_map.1 hx
  have h1 := bits_lo_u8 .xor (k.getD j 0) m
  have h2 := bits_hi_u8 .xor (k.getD j 0) m
  omega
theorem macKey_length (k : List Int) : (macKey k).length ≤ 64 := by
  unfold macKey
  split
  · rw [shaL_length]; omega
  · omega
theorem macKey_short {k : List Int} (h : k.length ≤ 64) : macKey k = k := by unfold macKey; rw [if_neg (by omega)]
theorem macKey_long {k : List Int} (h : 64 < k.length) : macKey k = shaL k := by unfold macKey; rw [if_pos h]

theorem bs_sha {w : World} {g : Nat} {T : TypeId} {xs : List Int} (h : w.rowIs g T 32 (fun j => .int .u8 (shaF xs j))) : BsAt w (some ⟨g, 0, none⟩) 32 32 (shaL xs) :=
  bs_row h (fun j _ => shaF_byte xs j) (by omega)
theorem bs_mac {w : World} {g : Nat} {T : TypeId} {k xs : List Int} (h : w.rowIs g T 32 (fun j => .int .u8 (macF k xs j))) : BsAt w (some ⟨g, 0, none⟩) 32 32 (macL k xs) :=
  bs_row h (fun j _ => macF_byte k xs j) (by omega)

theorem info_sl : (Tryd.prog.info? 41).map (fun i => (i.zero, i.size, i.bytes)) = some (some (.slice none 0 0), 1, 24) := by kernel_rfl

/-- The cells of slices of bytes. -/
def PsV (w : World) (n : Nat) (vs : List Value) (ls : List (List Int)) : Prop :=
  vs.length = n ∧ ls.length = n ∧ ∀ i, i < n → ∃ pa m pc, vs[i]? = some (.slice pa m pc) ∧ BsAt w pa m pc (ls.getD i [])

theorem PsV.ext {w w' : World} {n : Nat} {vs : List Value} {ls : List (List Int)} (h : PsV w n vs ls) (he : Ext w w') : PsV w' n vs ls :=
  ⟨h.1, h.2.1, fun i hi => by obtain ⟨pa, m, pc, h1, h2⟩ := h.2.2 i hi; exact ⟨pa, m, pc, h1, h2.ext he⟩⟩

theorem PsV.drewN {w : World} {n : Nat} {vs : List Value} {ls : List (List Int)} (h : PsV w n vs ls) (k : Nat) : PsV (w.drewN k) n vs ls := h.ext ((Ext.refl w).drewN' k)

theorem PsV.append {w : World} {n m : Nat} {vs us : List Value} {ls ks : List (List Int)} (h : PsV w n vs ls) (k : PsV w m us ks) : PsV w (n + m) (vs ++ us) (ls ++ ks) := by
  refine ⟨by rw [List.length_append, h.1, k.1], by rw [List.length_append, h.2.1, k.2.1], fun i hi => ?_⟩
  by_cases c : i < n
  · obtain ⟨pa, q, pc, h1, h2⟩ := h.2.2 i c
    refine ⟨pa, q, pc, by rw [List.getElem?_append_left (by rw [h.1]; exact c)]; exact h1, ?_⟩
    rw [List.getD_eq_getElem?_getD, List.getElem?_append_left (by rw [h.2.1]; exact c), ← List.getD_eq_getElem?_getD]
    exact h2
  · obtain ⟨pa, q, pc, h1, h2⟩ := k.2.2 (i - n) (by omega)
    refine ⟨pa, q, pc, by rw [List.getElem?_append_right (by rw [h.1]; omega), h.1]; exact h1, ?_⟩
    rw [List.getD_eq_getElem?_getD, List.getElem?_append_right (by rw [h.2.1]; omega), h.2.1, ← List.getD_eq_getElem?_getD]
    exact h2

theorem PsV.one {w : World} {pa : Option Addr} {m pc : Nat} {xs : List Int} (h : BsAt w pa m pc xs) : PsV w 1 [.slice pa m pc] [xs] :=
  ⟨rfl, rfl, fun i hi => by
    obtain rfl : i = 0 := by omega
    exact ⟨pa, m, pc, rfl, h⟩⟩

theorem PsV.oneCell {w : World} {n : Nat} {vs : List Value} {ls : List (List Int)} (h : PsV w n vs ls) : ∀ u ∈ vs, u.oneCell' = true := by
  intro u hu
  obtain ⟨i, hi, rfl⟩ := List.mem_iff_getElem.1 hu
  obtain ⟨pa, m, pc, h1, _⟩ := h.2.2 i (by rw [← h.1]; exact hi)
  rw [List.getElem?_eq_getElem hi] at h1
  rw [Option.some.inj h1]
  rfl

/-- What the cells of a slice of slices hold. -/
theorem PsAt.vals {w : World} {a : Option Addr} {n c : Nat} {ls : List (List Int)} (h : PsAt w a n c ls) : ∃ vs, PsV w n vs ls ∧ ∀ ad, a = some ad → ∀ j u, vs[j]? = some u → w.cell? (ad.add j) = some u := by
  by_cases hn : n = 0
  · subst hn
    exact ⟨[], ⟨rfl, h.len, fun i hi => by omega⟩, fun _ _ j u hu => by simp at hu⟩
  · obtain ⟨b, off, rfl, hc⟩ := h.at_ (by omega)
    refine ⟨(List.range n).map fun i => (w.cell? ⟨b, off + i, none⟩).getD undef, ⟨by simp, h.len, fun i hi => ?_⟩, fun ad ha j u hu => ?_⟩
    · obtain ⟨pa, m, pc, h1, h2⟩ := hc i hi
      exact ⟨pa, m, pc, by simp [hi, h1], h2⟩
    · cases ha
      have hj : j < n := by
        have := (List.getElem?_eq_some_iff.1 hu).1
        simpa using this
      obtain ⟨pa, m, pc, h1, h2⟩ := hc j hj
      rw [addr_add, h1]
      simp [hj, h1] at hu
      rw [hu]

theorem owns_ps {w : World} {base n c : Nat} {a : Option Addr} {vs : List Value} {ls : List (List Int)} (h : w.ownsRow base 41 1 (.slice a n c) n vs) (hv : PsV w n vs ls) (hc : c ≤ 9223372036854775807) : PsAt w a n c ls := by
  have hl : vs.length = n := hv.1
  rcases h.2 with ⟨he, hn⟩ | ⟨g, cap, cur, he, _, hg, hnc, _, hcs, ht⟩
  · simp only [Value.slice.injEq] at he
    obtain ⟨rfl, rfl, rfl⟩ := he
    exact ⟨hv.2.1, Nat.le_refl _, by omega, fun h => by omega⟩
  · simp only [Value.slice.injEq] at he
    obtain ⟨rfl, _, rfl⟩ := he
    refine ⟨hv.2.1, hnc, hc, fun hn => ⟨g, 0, rfl, fun i hi => ?_⟩⟩
    obtain ⟨pa, m, pc, h1, h2⟩ := hv.2.2 i hi
    refine ⟨pa, m, pc, ?_, h2⟩
    rw [Nat.zero_add, cell_of_row w g i cur _ _ hg]
    rw [← ht, List.getElem?_take] at h1
    split at h1
    · simpa using h1
    · cases h1

theorem run_append_of_nil {P : Program} (w : World) (base : Nat) (t ty e : TypeId) (i : TypeInfo) (size : Nat) (ht : P.underlying t = some (.slice e)) (hi : P.info? e = some i)
    (v : Value) (n : Nat) (xs : List Value) (hown : w.ownsRow base e size v n xs) (c : Nat) : (Builtin.append_ #[t, t] ty #[v, .slice none 0 c]).run P w = .ok v w := by
  rcases hown.2 with ⟨rfl, rfl⟩ | ⟨g, cap, cur, rfl, _, _, hnc, _⟩
  · simp [Builtin.append_, run_underlying ht, sizeOf, typeInfo, hi, Builtin.lenOf, Builtin.firstCells]
  · simp [Builtin.append_, run_underlying ht, sizeOf, typeInfo, hi, Builtin.lenOf, Builtin.firstCells, hnc, storeCells]

theorem wpList_append_of_nil {P : Program} {w : World} {ops : Array Oper} {rest : List Oper} {o : Oper} {a : Act} {Q : Exit → Act → World → Prop} (hgd : o.guard = none) (s x : Operand) (t : TypeId)
    (ho : o.op = .call { callee := .builtin .append, args := #[s, x], argTypes := #[t, t] })
    (base : Nat) (e : TypeId) (i : TypeInfo) (size : Nat) (ht : P.underlying t = some (.slice e)) (hi : P.info? e = some i)
    (v : Value) (n : Nat) (xs : List Value) (hs : a.eval s = v) (hown : w.ownsRow base e size v n xs) (c : Nat) (hx : a.eval x = .slice none 0 c)
    (h : wpList P ops Q rest (a.put o.dst v) w) : wpList P ops Q (o :: rest) a w := by
  refine wpList_plain hgd fun K hK => ?_
  have hrun := run_append_of_nil (P := P) w base t o.type e i size ht hi v n xs hown c
  unfold Oper.wp
  simp [execOp, ho, resolve, invoke, builtin, hs, hx, hrun, Result.andThen]
  exact hK _ _ h

/-- Slices of bytes behind others that the call owns; what they are was known in an elder world 'w0'. -/
theorem append_ps {w : World} {ops : Array Oper} {rest : List Oper} {o : Oper} {a : Act} {Q : Exit → Act → World → Prop} (hgd : o.guard = none) (s x : Operand) (ho : o.op = .call { callee := .builtin .append, args := #[s, x], argTypes := #[107, 107] })
    (B : Nat) (v : Value) (n : Nat) (xs : List Value) (hs : a.eval s = v) (hown : w.ownsRow B 41 1 v n xs)
    (src : Option Addr) (m c : Nat) (ls : List (List Int)) (hx : a.eval x = .slice src m c) (w0 : World) (hb : PsAt w0 src m c ls) (hE : Ext w0 w) (hsz : n + m ≤ 1099511627776) (hB : B ≤ w.heap.size)
    (h : ∀ v' w' vs, PsV w0 m vs ls → w'.ownsRow B 41 1 v' (n + m) (xs ++ vs) → Below B w w' → wpList Tryd.prog ops Q rest (a.put o.dst v') w') : wpList Tryd.prog ops Q (o :: rest) a w := by
  obtain ⟨i0, hi, hz0, hz1, hz2⟩ := info_parts info_sl
  obtain ⟨vs, hV, hcell⟩ := hb.vals
  have hl := hb.len
  cases src with
  | none =>
    have hm : m = 0 := by
      rcases Nat.eq_zero_or_pos m with h0 | h0
      · exact h0
      · obtain ⟨_, _, h1, _⟩ := hb.at_ h0; cases h1
    subst hm
    obtain rfl : vs = [] := List.eq_nil_of_length_eq_zero hV.1
    refine wpList_append_of_nil hgd s x 107 ho B 41 i0 1 Tryd.underlying107 hi v n xs hs hown c hx ?_
    exact h v w [] hV (by simpa using hown) (Below.refl _ _)
  | some ad =>
    refine wpList_append_own w hgd s x 107 ho B 41 i0 (.slice none 0 0) 1 24 Tryd.underlying107 hi hz0 hz1 hz2 rfl (by decide) v n xs hs hown ad m c vs hx (by rw [hV.1, Nat.mul_one]) (fun j u hu => ?_) hV.oneCell (by unfold maxLen; omega) (by omega) hB ?_
    · have h1 := hcell ad rfl j u hu
      rw [Ext.cell (p := ad.add j) hE (World.block_lt_of_cell? w0 _ h1)]
      exact h1
    · intro v' w' hown' hgrow _
      exact h v' w' vs hV hown' ((Below.refl B w).grown hgrow hB (fun k hk => (hown.lt k hk).1))

theorem owns_slice' {w : World} {base e n : Nat} {v : Value} {xs : List Value} (h : w.ownsRow base e 1 v n xs) : ∃ ao c, v = .slice ao n c ∧ n ≤ c ∧ c ≤ maxLen := by
  rcases h.2 with ⟨rfl, rfl⟩ | ⟨g, cap, cur, rfl, _, _, h1, h2, _⟩
  · exact ⟨none, 0, rfl, Nat.le_refl _, by unfold maxLen; omega⟩
  · exact ⟨_, cap, rfl, h1, h2⟩

/-- Parts that the call has put together, at the head of a block. -/
theorem ps_new {w : World} {n : Nat} {vs : List Value} {ls : List (List Int)} (h : PsV w n vs ls) (T : TypeId) (hn : n ≤ 9223372036854775807) : PsAt (w.alloc (.cells vs.toArray T)) (some ⟨w.heap.size, 0, none⟩) n n ls := by
  refine ⟨h.2.1, Nat.le_refl _, hn, fun _ => ⟨w.heap.size, 0, rfl, fun i hi => ?_⟩⟩
  obtain ⟨pa, m, pc, h1, h2⟩ := h.2.2 i hi
  refine ⟨pa, m, pc, ?_, h2.ext ((Ext.refl w).alloc _)⟩
  rw [Nat.zero_add, cell_of_row _ w.heap.size i _ _ _ (heap_new w _ _ rfl)]
  simpa using h1

end Go.Proofs.YtppidlpblkihbaaDoor
