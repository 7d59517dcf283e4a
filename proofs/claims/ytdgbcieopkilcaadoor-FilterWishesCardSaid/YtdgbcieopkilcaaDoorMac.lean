/-
  The walk of jalousieref01.Joined. No conditions but lengths.
  Plain HMAC over lists of numbers, and steps of a walk: a row of bytes as a slice, copy into a row, slices behind slices. No conditions but lengths.
  The walk of hash.Mac: HMAC of the parts. Asked: the table of 64 words lies as the text lays it; key and parts are not longer than 2^38 bytes.
-/
import Derived.Test.YtdgbcieopkilcaaDoorSumB
import Derived.Laws.CopyOwn
import Derived.Deep.Cut
namespace Go.Proofs.YtdgbcieopkilcaaDoor
open Go.ChangeAt Go.ChangeShapes Go.RowKit Go.WideShapes

set_option maxRecDepth 100000 in
theorem joined_any (a : Option Addr) (n c : Nat) (ls : List (List Int)) (w : World) (h : PsAt w a n c ls) (hs : ls.flatten.length ≤ 140737488355328) :
    Calls Tryd.prog 31 #[.slice a n c] w fun e w' => ∃ a' c', e = .returned (.slice a' ls.flatten.length c') ∧ BsAt w' a' ls.flatten.length c' ls.flatten ∧ Ext w w' := by
  have hlen := h.len
  have hcap := h.cap
  have hlim := h.lim
  have hby := h.byte
  obtain ⟨fl, hfl⟩ : ∃ fl, ls.flatten = fl := ⟨_, rfl⟩
  have hstep : ∀ k, k < n → (ls.take (k + 1)).flatten = (ls.take k).flatten ++ ls.getD k [] := fun k hk => by
    rw [List.take_succ_eq_append_getElem (by omega : k < ls.length), List.flatten_append]
    simp [List.getD, List.getElem?_eq_getElem (by omega : k < ls.length)]
  have hle : ∀ k, ((ls.take k).flatten).length ≤ fl.length := fun k => by
    rw [← hfl]
    conv => rhs; rw [← List.take_append_drop k ls]
    rw [List.flatten_append, List.length_append]
    omega
  have hfull : (ls.take n).flatten = fl := by rw [← hlen, List.take_length]; exact hfl
  rw [hfl] at hs hby ⊢
  have H := Lib.hid h
  have Hlen := Lib.hid hlen
  have Hstep := Lib.hid hstep
  have Hle := Lib.hid hle
  have Hfull := Lib.hid hfull
  have Hby := Lib.hid hby
  clear h hlen hstep hle hfull hby
  obtain ⟨tk, htk⟩ : ∃ tk : Nat → List Int, (fun k => (ls.take k).flatten) = tk := ⟨_, rfl⟩
  have htk' : ∀ k, (ls.take k).flatten = tk k := fun k => by rw [← htk]
  have h0 : tk 0 = [] := by rw [← htk]; rfl
  simp only [htk'] at Hstep Hle Hfull
  clear htk htk' hfl
  go_enter Tryd.func31, Tryd.ntmps31
  go_wp2
  go_loopw [3, 4] (fun v i wr => ∃ (k : Nat) (a' : Option Addr) (c' : Nat), k ≤ n ∧ i = .int .i64 (k : Int) ∧ v = .slice a' (tk k).length c' ∧ wr.ownsRow w.heap.size 5 1 v (tk k).length (bv (tk k)) ∧ Ext w wr) (fun _ i _ => n - (intOf i).toNat)
  case atStart =>
    refine ⟨0, none, 0, Nat.zero_le _, rfl, by rw [h0]; rfl, ?_, Ext.refl _⟩
    rw [h0]
    exact World.ownsRow_nil _ _ _ _
  case round =>
    obtain ⟨k, a', c', hk, rfl, rfl, hown, hE⟩ := hrel
    have hsz := Below.size hE
    by_cases hlt : k < n
    · obtain ⟨b, off, rfl, hc⟩ := H.out.at_ (by omega)
      obtain ⟨pa, m, pc, h1, h2⟩ := hc k hlt
      have h3 := h1
      rw [← Ext.cell (p := ⟨b, off + k, none⟩) hE (World.block_lt_of_cell? w _ h1)] at h3
      have hst := Hstep.out k hlt
      obtain ⟨x, hx⟩ : ∃ x, ls.getD k [] = x := ⟨_, rfl⟩
      rw [hx] at h2 hst
      have H2 := Lib.hid (h2.ext hE)
      have hml := h2.len
      have hl1 := Hle.out (k + 1)
      rw [hst, List.length_append, hml] at hl1
      have hln : (tk (k + 1)).length = (tk k).length + m := by rw [hst, List.length_append, hml]
      have x1 : (k : Int) < (n : Int) := by omega
      have x3 : (0 : Int) ≤ (k : Int) := by omega
      have Hst := Lib.hid (And.intro hst hln)
      clear hst hml hc h1 h2 hln hx
      go_wp2_with (at_builtin; refine append_bs rfl _ _ rfl w.heap.size _ (tk k).length (tk k) rfl hown pa m pc _ rfl H2.out (by omega) hsz ?_)
      intro v' w3 hown3 hB3
      obtain ⟨ao2, cv2, rfl, _, _⟩ := owns_slice hown3
      rw [← Hst.out.1, ← Hst.out.2] at hown3
      have Hown := Lib.hid hown3
      have HE3 := Lib.hid (show Ext w w3 from Below.trans (B := w.heap.size) hE hB3)
      clear hown3 hown
      go_wp2
      go_roundw
      case rel => exact ⟨k + 1, ao2, cv2, by omega, by go_num, by rw [Hst.out.2], by rw [← Hst.out.2]; exact Hown.out, HE3.out⟩
      case measure => simp [intOf]; omega
    · obtain rfl : k = n := by omega
      rw [Hfull.out] at hown ⊢
      obtain ⟨_, _, he, hc1, hc2⟩ := owns_slice hown
      have hB := owns_bs hown Hby.out (by injection he; subst_vars; unfold maxLen at hc2; omega) hs
      have HB := Lib.hid hB
      clear hB hown he
      go_wp2
      go_ret
      exact ⟨_, _, rfl, HB.out, hE⟩

/-- SHA-256 as a list of 32 bytes. -/
def shaL (xs : List Int) : List Int := (List.range 32).map (shaF xs)
/-- HMAC's key, as it is padded. -/
def macKey (k : List Int) : List Int := if 64 < k.length then shaL k else k
def padK (m : Int) (k : List Int) : List Int := (List.range 64).map fun i => bits .xor .u8 (k.getD i 0) m
/-- Byte j of HMAC. -/
def macF (key xs : List Int) (j : Nat) : Int := shaF (padK 92 (macKey key) ++ shaL (padK 54 (macKey key) ++ xs)) j
def macL (key xs : List Int) : List Int := (List.range 32).map (macF key xs)

theorem shaF_byte (xs : List Int) (j : Nat) : 0 ≤ shaF xs j ∧ shaF xs j < 256 := by
  unfold shaF
  exact getD_byte (beB_byte _ _) _
theorem shaL_length (xs : List Int) : (shaL xs).length = 32 := by simp [shaL]
theorem shaL_byte (xs : List Int) : ∀ x ∈ shaL xs, 0 ≤ x ∧ x < 256 := by
  intro x hx
  obtain ⟨j, _, rfl⟩ := List.mem_map.1 hx
  exact shaF_byte xs j
theorem macL_length (k xs : List Int) : (macL k xs).length = 32 := by simp [macL]
theorem macF_byte (k xs : List Int) (j : Nat) : 0 ≤ macF k xs j ∧ macF k xs j < 256 := shaF_byte _ j
theorem macL_byte (k xs : List Int) : ∀ x ∈ macL k xs, 0 ≤ x ∧ x < 256 := by
  intro x hx
  obtain ⟨j, _, rfl⟩ := List.mem_map.1 hx
  exact macF_byte k xs j
theorem padK_length (m : Int) (k : List Int) : (padK m k).length = 64 := by simp [padK]
theorem padK_byte (m : Int) (k : List Int) : ∀ x ∈ padK m k, 0 ≤ x ∧ x < 256 := by
  intro x hx
  obtain ⟨j, _, rfl⟩ := List.mem_map.1 hx
  have h1 := bits_lo_u8 .xor (k.getD j 0) m
  have h2 := bits_hi_u8 .xor (k.getD j 0) m
  omega
theorem macKey_length (k : List Int) : (macKey k).length ≤ 64 := by
  unfold macKey
  split
  · rw [shaL_length]; omega
  · omega
theorem macKey_short {k : List Int} (h : k.length ≤ 64) : macKey k = k := by unfold macKey; rw [if_neg (by omega)]
theorem macKey_long {k : List Int} (h : 64 < k.length) : macKey k = shaL k := by unfold macKey; rw [if_pos h]

theorem bs_sha {w : World} {g : Nat} {T : TypeId} {xs : List Int} (h : w.rowIs g T 32 (fun j => .int .u8 (shaF xs j))) : BsAt w (some ⟨g, 0, none⟩) 32 32 (shaL xs) :=
  bs_row h (fun j _ => shaF_byte xs j) (by omega)
theorem bs_mac {w : World} {g : Nat} {T : TypeId} {k xs : List Int} (h : w.rowIs g T 32 (fun j => .int .u8 (macF k xs j))) : BsAt w (some ⟨g, 0, none⟩) 32 32 (macL k xs) :=
  bs_row h (fun j _ => macF_byte k xs j) (by omega)

theorem info_sl : (Tryd.prog.info? 40).map (fun i => (i.zero, i.size, i.bytes)) = some (some (.slice none 0 0), 1, 24) := by kernel_rfl

/-- The cells of slices of bytes. -/
def PsV (w : World) (n : Nat) (vs : List Value) (ls : List (List Int)) : Prop :=
  vs.length = n ∧ ls.length = n ∧ ∀ i, i < n → ∃ pa m pc, vs[i]? = some (.slice pa m pc) ∧ BsAt w pa m pc (ls.getD i [])

theorem PsV.ext {w w' : World} {n : Nat} {vs : List Value} {ls : List (List Int)} (h : PsV w n vs ls) (he : Ext w w') : PsV w' n vs ls :=
  ⟨h.1, h.2.1, fun i hi => by obtain ⟨pa, m, pc, h1, h2⟩ := h.2.2 i hi; exact ⟨pa, m, pc, h1, h2.ext he⟩⟩

theorem PsV.drewN {w : World} {n : Nat} {vs : List Value} {ls : List (List Int)} (h : PsV w n vs ls) (k : Nat) : PsV (w.drewN k) n vs ls := h.ext ((Ext.refl w).drewN' k)

theorem PsV.append {w : World} {n m : Nat} {vs us : List Value} {ls ks : List (List Int)} (h : PsV w n vs ls) (k : PsV w m us ks) : PsV w (n + m) (vs ++ us) (ls ++ ks) := by
  refine ⟨by rw [List.length_append, h.1, k.1], by rw [List.length_append, h.2.1, k.2.1], fun i hi => ?_⟩
  by_cases c : i < n
  · obtain ⟨pa, q, pc, h1, h2⟩ := h.2.2 i c
    refine ⟨pa, q, pc, by rw [List.getElem?_append_left (by rw [h.1]; exact c)]; exact h1, ?_⟩
    rw [List.getD_eq_getElem?_getD, List.getElem?_append_left (by rw [h.2.1]; exact c), ← List.getD_eq_getElem?_getD]
    exact h2
  · obtain ⟨pa, q, pc, h1, h2⟩ := k.2.2 (i - n) (by omega)
    refine ⟨pa, q, pc, by rw [List.getElem?_append_right (by rw [h.1]; omega), h.1]; exact h1, ?_⟩
    rw [List.getD_eq_getElem?_getD, List.getElem?_append_right (by rw [h.2.1]; omega), h.2.1, ← List.getD_eq_getElem?_getD]
    exact h2

theorem PsV.one {w : World} {pa : Option Addr} {m pc : Nat} {xs : List Int} (h : BsAt w pa m pc xs) : PsV w 1 [.slice pa m pc] [xs] :=
  ⟨rfl, rfl, fun i hi => by
    obtain rfl : i = 0 := by omega
    exact ⟨pa, m, pc, rfl, h⟩⟩

theorem PsV.oneCell {w : World} {n : Nat} {vs : List Value} {ls : List (List Int)} (h : PsV w n vs ls) : ∀ u ∈ vs, u.oneCell' = true := by
  intro u hu
  obtain ⟨i, hi, rfl⟩ := List.mem_iff_getElem.1 hu
  obtain ⟨pa, m, pc, h1, _⟩ := h.2.2 i (by rw [← h.1]; exact hi)
  rw [List.getElem?_eq_getElem hi] at h1
  rw [Option.some.inj h1]
  rfl

/-- What the cells of a slice of slices hold. -/
theorem PsAt.vals {w : World} {a : Option Addr} {n c : Nat} {ls : List (List Int)} (h : PsAt w a n c ls) : ∃ vs, PsV w n vs ls ∧ ∀ ad, a = some ad → ∀ j u, vs[j]? = some u → w.cell? (ad.add j) = some u := by
  by_cases hn : n = 0
  · subst hn
    exact ⟨[], ⟨rfl, h.len, fun i hi => by omega⟩, fun _ _ j u hu => by simp at hu⟩
  · obtain ⟨b, off, rfl, hc⟩ := h.at_ (by omega)
    refine ⟨(List.range n).map fun i => (w.cell? ⟨b, off + i, none⟩).getD undef, ⟨by simp, h.len, fun i hi => ?_⟩, fun ad ha j u hu => ?_⟩
    · obtain ⟨pa, m, pc, h1, h2⟩ := hc i hi
      exact ⟨pa, m, pc, by simp [hi, h1], h2⟩
    · cases ha
      have hj : j < n := by
        have := (List.getElem?_eq_some_iff.1 hu).1
        simpa using this
      obtain ⟨pa, m, pc, h1, h2⟩ := hc j hj
      rw [addr_add, h1]
      simp [hj, h1] at hu
      rw [hu]

theorem owns_ps {w : World} {base n c : Nat} {a : Option Addr} {vs : List Value} {ls : List (List Int)} (h : w.ownsRow base 40 1 (.slice a n c) n vs) (hv : PsV w n vs ls) (hc : c ≤ 9223372036854775807) : PsAt w a n c ls := by
  have hl : vs.length = n := hv.1
  rcases h.2 with ⟨he, hn⟩ | ⟨g, cap, cur, he, _, hg, hnc, _, hcs, ht⟩
  · simp only [Value.slice.injEq] at he
    obtain ⟨rfl, rfl, rfl⟩ := he
    exact ⟨hv.2.1, Nat.le_refl _, by omega, fun h => by omega⟩
  · simp only [Value.slice.injEq] at he
    obtain ⟨rfl, _, rfl⟩ := he
    refine ⟨hv.2.1, hnc, hc, fun hn => ⟨g, 0, rfl, fun i hi => ?_⟩⟩
    obtain ⟨pa, m, pc, h1, h2⟩ := hv.2.2 i hi
    refine ⟨pa, m, pc, ?_, h2⟩
    rw [Nat.zero_add, cell_of_row w g i cur _ _ hg]
    rw [← ht, List.getElem?_take] at h1
    split at h1
    · simpa using h1
    · cases h1

theorem run_append_of_nil {P : Program} (w : World) (base : Nat) (t ty e : TypeId) (i : TypeInfo) (size : Nat) (ht : P.underlying t = some (.slice e)) (hi : P.info? e = some i)
    (v : Value) (n : Nat) (xs : List Value) (hown : w.ownsRow base e size v n xs) (c : Nat) : (Builtin.append_ #[t, t] ty #[v, .slice none 0 c]).run P w = .ok v w := by
  rcases hown.2 with ⟨rfl, rfl⟩ | ⟨g, cap, cur, rfl, _, _, hnc, _⟩
  · simp [Builtin.append_, run_underlying ht, sizeOf, typeInfo, hi, Builtin.lenOf, Builtin.firstCells]
  · simp [Builtin.append_, run_underlying ht, sizeOf, typeInfo, hi, Builtin.lenOf, Builtin.firstCells, hnc, storeCells]

theorem wpList_append_of_nil {P : Program} {w : World} {ops : Array Oper} {rest : List Oper} {o : Oper} {a : Act} {Q : Exit → Act → World → Prop} (hgd : o.guard = none) (s x : Operand) (t : TypeId)
    (ho : o.op = .call { callee := .builtin .append, args := #[s, x], argTypes := #[t, t] })
    (base : Nat) (e : TypeId) (i : TypeInfo) (size : Nat) (ht : P.underlying t = some (.slice e)) (hi : P.info? e = some i)
    (v : Value) (n : Nat) (xs : List Value) (hs : a.eval s = v) (hown : w.ownsRow base e size v n xs) (c : Nat) (hx : a.eval x = .slice none 0 c)
    (h : wpList P ops Q rest (a.put o.dst v) w) : wpList P ops Q (o :: rest) a w := by
  refine wpList_plain hgd fun K hK => ?_
  have hrun := run_append_of_nil (P := P) w base t o.type e i size ht hi v n xs hown c
  unfold Oper.wp
  simp [execOp, ho, resolve, invoke, builtin, hs, hx, hrun, Result.andThen]
  exact hK _ _ h

/-- Slices of bytes behind others that the call owns; what they are was known in an elder world 'w0'. -/
theorem append_ps {w : World} {ops : Array Oper} {rest : List Oper} {o : Oper} {a : Act} {Q : Exit → Act → World → Prop} (hgd : o.guard = none) (s x : Operand) (ho : o.op = .call { callee := .builtin .append, args := #[s, x], argTypes := #[69, 69] })
    (B : Nat) (v : Value) (n : Nat) (xs : List Value) (hs : a.eval s = v) (hown : w.ownsRow B 40 1 v n xs)
    (src : Option Addr) (m c : Nat) (ls : List (List Int)) (hx : a.eval x = .slice src m c) (w0 : World) (hb : PsAt w0 src m c ls) (hE : Ext w0 w) (hsz : n + m ≤ 1099511627776) (hB : B ≤ w.heap.size)
    (h : ∀ v' w' vs, PsV w0 m vs ls → w'.ownsRow B 40 1 v' (n + m) (xs ++ vs) → Below B w w' → wpList Tryd.prog ops Q rest (a.put o.dst v') w') : wpList Tryd.prog ops Q (o :: rest) a w := by
  obtain ⟨i0, hi, hz0, hz1, hz2⟩ := info_parts info_sl
  obtain ⟨vs, hV, hcell⟩ := hb.vals
  have hl := hb.len
  cases src with
  | none =>
    have hm : m = 0 := by
      rcases Nat.eq_zero_or_pos m with h0 | h0
      · exact h0
      · obtain ⟨_, _, h1, _⟩ := hb.at_ h0; cases h1
    subst hm
    obtain rfl : vs = [] := List.eq_nil_of_length_eq_zero hV.1
    refine wpList_append_of_nil hgd s x 69 ho B 40 i0 1 Tryd.underlying69 hi v n xs hs hown c hx ?_
    exact h v w [] hV (by simpa using hown) (Below.refl _ _)
  | some ad =>
    refine wpList_append_own w hgd s x 69 ho B 40 i0 (.slice none 0 0) 1 24 Tryd.underlying69 hi hz0 hz1 hz2 rfl (by decide) v n xs hs hown ad m c vs hx (by rw [hV.1, Nat.mul_one]) (fun j u hu => ?_) hV.oneCell (by unfold maxLen; omega) (by omega) hB ?_
    · have h1 := hcell ad rfl j u hu
      rw [Ext.cell (p := ad.add j) hE (World.block_lt_of_cell? w0 _ h1)]
      exact h1
    · intro v' w' hown' hgrow _
      exact h v' w' vs hV hown' ((Below.refl B w).grown hgrow hB (fun k hk => (hown.lt k hk).1))

theorem owns_slice' {w : World} {base e n : Nat} {v : Value} {xs : List Value} (h : w.ownsRow base e 1 v n xs) : ∃ ao c, v = .slice ao n c ∧ n ≤ c ∧ c ≤ maxLen := by
  rcases h.2 with ⟨rfl, rfl⟩ | ⟨g, cap, cur, rfl, _, _, h1, h2, _⟩
  · exact ⟨none, 0, rfl, Nat.le_refl _, by unfold maxLen; omega⟩
  · exact ⟨_, cap, rfl, h1, h2⟩

/-- Parts that the call has put together, at the head of a block. -/
theorem ps_new {w : World} {n : Nat} {vs : List Value} {ls : List (List Int)} (h : PsV w n vs ls) (T : TypeId) (hn : n ≤ 9223372036854775807) : PsAt (w.alloc (.cells vs.toArray T)) (some ⟨w.heap.size, 0, none⟩) n n ls := by
  refine ⟨h.2.1, Nat.le_refl _, hn, fun _ => ⟨w.heap.size, 0, rfl, fun i hi => ?_⟩⟩
  obtain ⟨pa, m, pc, h1, h2⟩ := h.2.2 i hi
  refine ⟨pa, m, pc, ?_, h2.ext ((Ext.refl w).alloc _)⟩
  rw [Nat.zero_add, cell_of_row _ w.heap.size i _ _ _ (heap_new w _ _ rfl)]
  simpa using h1

theorem KsAt.ext' {g : Nat} {w w' : World} (h : KsAt g w) (he : Ext w w') : KsAt g w' := fun i hi => by
  have hb := World.block_lt_of_cell? w _ (h i hi)
  rw [Ext.cell (p := ⟨g, i, none⟩) he hb]
  exact h i hi

theorem flat_one (xs : List Int) : [xs].flatten = xs := by simp
theorem flat_two (xs ys : List Int) : [xs, ys].flatten = xs ++ ys := by simp

theorem start_zero64b (T : TypeId) (w : World) : (w.alloc (.cells (Array.replicate 64 (.int .u8 0)) T)).rowIs w.heap.size T 64 (fun _ => .int .u8 0) :=
  World.rowIs_alloc w (Array.replicate 64 (.int .u8 0)) T (fun _ => .int .u8 0) (fun i hi => by
    simp at hi
    simp [hi])

/-- The key behind its first test. -/
def MacCut (key : List Int) (w : World) (H : Nat) (v : Value) (wc : World) : Prop :=
  ∃ ak nk ck, v = .slice ak nk ck ∧ nk ≤ 64 ∧ BsAt wc ak nk ck (macKey key) ∧ Ext w wc ∧ wc.rowIs H 23 32 (fun _ => .int .u8 0)

set_option maxHeartbeats 1000000 in
set_option maxRecDepth 100000 in
theorem mac_any (a : Option Addr) (n c : Nat) (key : List Int) (pa : Option Addr) (pn pc : Nat) (ls : List (List Int)) (w : World) (hkey : BsAt w a n c key) (h : PsAt w pa pn pc ls)
    (hs : ls.flatten.length ≤ 140737488352256) (hn : pn ≤ 549755813888) (hnk : n ≤ 140737488352256) (hk : KsAt 2 w) :
    Calls Tryd.prog 39 #[.slice a n c, .slice pa pn pc] w fun e w' => e = .returned (.agg (rowArr 32 fun j => .int .u8 (macF key ls.flatten j))) ∧ Ext w w' := by
  have hkl := hkey.len
  have hkc := hkey.cap
  have hkm := hkey.lim
  have hpc := h.cap
  have hpm := h.lim
  have HKey := Lib.hid hkey
  have H := Lib.hid h
  have HK := Lib.hid hk
  have Hkl := Lib.hid hkl
  clear hkey h hk hkl
  go_enter Tryd.func39, Tryd.ntmps39
  go_upto_if 12 with (fail)
  obtain ⟨wA, hwA⟩ : ∃ wA, w.alloc (.cells (Array.replicate 32 (.int .u8 0)) 23) = wA := ⟨_, rfl⟩
  have hEA : Ext w wA := by rw [← hwA]; exact (Ext.refl w).alloc _
  have hZA : wA.rowIs w.heap.size 23 32 (fun _ => .int .u8 0) := by rw [← hwA]; exact start_zero32 _ w
  have hsA : w.heap.size < wA.heap.size := by rw [← hwA]; simp
  refine wp_world (w' := wA) hwA ?_
  have hKA := (HKey.out.ext hEA)
  have HKA := Lib.hid hKA
  have HPA := Lib.hid (H.out.ext hEA)
  have HTA := Lib.hid (HK.out.ext' hEA)
  have HEA := Lib.hid hEA
  have HZA := Lib.hid hZA
  clear hwA hEA hZA hKA
  go_cut [0] from 10 (fun v wc => MacCut key w w.heap.size v wc)
  case first =>
    by_cases h64 : 64 < n
    · have x1 : (64 : Int) < (n : Int) := by omega
      have hP := ps_one HKA.out 40
      have hEP : Ext wA (wA.alloc (.cells #[.slice a n c] 40)) := (Ext.refl wA).alloc _
      have hsum := sum_any _ 1 1 [key] _ hP (by rw [flat_one, Hkl.out]; omega) (by decide) (HTA.out.ext' hEP)
      rw [flat_one] at hsum
      have HS := Lib.hid hsum
      have HEP := Lib.hid (HEA.out.trans hEP)
      clear hP hEP hsum
      go_wp2_with fail
      refine HS.out.mono ?_
      rintro e w1 ⟨rfl, hE1⟩
      have HE1 := Lib.hid hE1
      clear hE1
      go_wp2_with (refine wpList_store_row rfl 23 _ _ rfl w1.heap.size _ rfl rfl _ _ (heap_new w1 _ _ rfl) (by kernel_rfl) (by rw [rowArr_size]; rfl) (rowArr_one fun _ _ => rfl) ?_; rw [setRow_new w1 _ _ _ _ rfl])
      go_meet
      case rel =>
        refine ⟨_, _, _, rfl, by omega, ?_, (HEP.out.trans HE1.out).alloc _, ?_⟩
        · rw [macKey_long (by rw [Hkl.out]; exact h64)]
          exact bs_sha (rowIs_of (heap_new w1 _ _ rfl))
        · exact (HZA.out.of_block ((((Ext.refl wA).alloc _).trans HE1.out).block hsA)).alloc _
    · have x1 : ¬ (64 : Int) < (n : Int) := by omega
      go_wp2_with fail
      go_meet
      case rel => exact ⟨_, _, _, rfl, by omega, by rw [macKey_short (by rw [Hkl.out]; omega)]; exact HKA.out, HEA.out, HZA.out⟩
  case rest =>
    obtain ⟨ak, nk, ck, rfl, hnk64, hB, hE, hZ⟩ := hcut
    have hbc := hB.cap
    have hbl := hB.lim
    have hbd := hB.byte
    obtain ⟨kk, hkk⟩ : ∃ kk, macKey key = kk := ⟨_, rfl⟩
    have hmac : ∀ j, macF key ls.flatten j = shaF (padK 92 kk ++ shaL (padK 54 kk ++ ls.flatten)) j := fun j => by rw [← hkk]; rfl
    rw [hkk] at hB hbd
    have Hmac := Lib.hid hmac
    have hPc := H.out.ext hE
    have hTc := HK.out.ext' hE
    have hsc := Below.size hE
    have hlt0 : w.heap.size < wc.heap.size := hZ.lt
    clear hmac hkk HKA HPA HTA HEA HZA hsA
    go_upto_region 5 with (fail)
    obtain ⟨w1, hw1⟩ : ∃ w1, (wc.alloc (.cells (Array.replicate 64 (.int .u8 0)) 106)).alloc (.cells (Array.replicate 64 (.int .u8 0)) 106) = w1 := ⟨_, rfl⟩
    have hE1 : Ext wc w1 := by rw [← hw1]; exact ((Ext.refl wc).alloc _).alloc _
    have hI1 : w1.rowIs wc.heap.size 106 64 (fun _ => .int .u8 0) := by rw [← hw1]; exact (start_zero64b _ wc).alloc _
    have hO1 : w1.rowIs (wc.heap.size + 1) 106 64 (fun _ => .int .u8 0) := by
      rw [← hw1]
      have := start_zero64b 106 (wc.alloc (.cells (Array.replicate 64 (.int .u8 0)) 106))
      rwa [show (wc.alloc (.cells (Array.replicate 64 (.int .u8 0)) 106)).heap.size = wc.heap.size + 1 by simp] at this
    have hs1 : wc.heap.size + 1 < w1.heap.size := hO1.lt
    refine wp_world (w' := w1) hw1 ?_
    obtain ⟨g, hg⟩ : ∃ g, wc.heap.size = g := ⟨_, rfl⟩
    rw [hg] at hI1 hO1 hs1 hlt0 hsc ⊢
    have hsg : ∀ x, Ext wc x → g ≤ x.heap.size := fun x hx => by rw [← hg]; exact Below.size hx
    have Hsg := Lib.hid hsg
    have HE := Lib.hid hE
    have HE1 := Lib.hid hE1
    have HPc := Lib.hid hPc
    have HTc := Lib.hid hTc
    have HZ1 := Lib.hid (hZ.of_block (hE1.block (by omega)))
    have HB := Lib.hid (hB.ext hE1)
    have HBc := Lib.hid hB
    have Hg := Lib.hid hg
    have HI1 := Lib.hid hI1
    have HO1 := Lib.hid hO1
    clear hw1 hg hsg hE hE1 hPc hTc hZ hB hI1 hO1 hbd
    go_wp2_with (refine copy_bs rfl (.tmp 17) (.tmp 18) rfl g 0 64 64 64 106 (fun _ => .int .u8 0) rfl HI1.out (by omega) ak nk ck kk rfl HB.out nk (show nk = min nk 64 by omega) ?_)
    intro w2 hI2 hG2
    have hkl := HB.out.len
    have hI2' : w2.rowIs g 106 64 (fun j => .int .u8 (kk.getD j 0)) := hI2.congr fun j _ => by
      by_cases hj : j < nk
      · rw [if_pos (by omega)]
        simp [List.getD_eq_getElem?_getD]
      · rw [if_neg (by omega), List.getD_eq_getElem?_getD, List.getElem?_eq_none (by omega)]
        rfl
    have hO2 : w2.rowIs (g + 1) 106 64 (fun _ => .int .u8 0) := HO1.out.of_block (hG2.block _ (by omega) (fun e => by injection e with e; omega))
    have HI2 := Lib.hid hI2'
    have HO2 := Lib.hid hO2
    have HE2 := Lib.hid (ext_grown HE1.out hG2 (Nat.le_of_eq Hg.out))
    have HZ2 := Lib.hid (HZ1.out.of_block (hG2.block _ (by omega) (fun e => by injection e with e; omega)))
    have HB2 := Lib.hid (HBc.out.ext HE2.out)
    clear hI2 hI2' hO2 hG2 HI1 HO1 HZ1 HB HE1 hkl
    go_wp2_with (refine copy_bs rfl (.tmp 20) (.tmp 21) rfl (g + 1) 0 64 64 64 106 (fun _ => .int .u8 0) rfl HO2.out (by omega) ak nk ck kk rfl HB2.out nk (show nk = min nk 64 by omega) ?_)
    intro w3 hO3 hG3
    have hkl := HB2.out.len
    have hO3' : w3.rowIs (g + 1) 106 64 (fun j => .int .u8 (kk.getD j 0)) := hO3.congr fun j _ => by
      by_cases hj : j < nk
      · rw [if_pos (by omega)]
        simp [List.getD_eq_getElem?_getD]
      · rw [if_neg (by omega), List.getD_eq_getElem?_getD, List.getElem?_eq_none (by omega)]
        rfl
    have hs2 := HO2.out.lt
    have HI3 := Lib.hid (HI2.out.of_block (hG3.block _ (by omega) (fun e => by injection e with e; omega)))
    have HO3 := Lib.hid hO3'
    have HE3 := Lib.hid (ext_grown HE2.out hG3 (by have := Hg.out; omega))
    have HZ3 := Lib.hid (HZ2.out.of_block (hG3.block _ (by omega) (fun e => by injection e with e; omega)))
    clear hO3 hO3' hG3 HI2 HO2 HZ2 HE2 HB2 hkl hs2
    have hsW := Hsg.out _ HE3.out
    go_wp2
    go_loopw [23] (fun i wr => ∃ k : Nat, k ≤ 64 ∧ i = .int .i64 (k : Int) ∧ wr.rowIs g 106 64 (fun j => .int .u8 (if j < k then bits .xor .u8 (kk.getD j 0) 54 else kk.getD j 0)) ∧ wr.rowIs (g + 1) 106 64 (fun j => .int .u8 (if j < k then bits .xor .u8 (kk.getD j 0) 92 else kk.getD j 0)) ∧ wr.rowIs w.heap.size 23 32 (fun _ => .int .u8 0) ∧ Ext wc wr) (fun i _ => 64 - (intOf i).toNat)
    case atStart => exact ⟨0, Nat.zero_le _, rfl, HI3.out.congr fun j _ => by simp, HO3.out.congr fun j _ => by simp, HZ3.out, HE3.out⟩
    case round =>
      obtain ⟨k, hk, rfl, hI, hO, hZ, hE⟩ := hrel
      by_cases hlt : k < 64
      · have c1 := hI.cell hlt
        have f1 := hI.frozen k
        have c2 := hO.cell hlt
        have f2 := hO.frozen k
        simp only [Nat.lt_irrefl, if_false] at c1 c2
        have HI := Lib.hid hI
        have HO := Lib.hid hO
        have HZ := Lib.hid hZ
        have HE := Lib.hid hE
        clear hI hO hZ hE
        go_wp2
        go_roundw
        case rel =>
          have hszr := Hsg.out _ HE.out
          refine ⟨k + 1, by omega, by go_num, ?_, ?_, (HZ.out.setOther (by show w.heap.size ≠ g; omega) _).setOther (by show w.heap.size ≠ g + 1; omega) _, ?_⟩
          · refine ((HI.out.set k _).setOther (by show g ≠ g + 1; omega) _).congr fun j hj => ?_
            by_cases hjk : j = k
            · subst hjk
              rw [if_pos rfl, if_pos (by omega), List.getD_eq_getElem?_getD]
            · rw [if_neg hjk]
              by_cases h2 : j < k
              · rw [if_pos h2, if_pos (by omega)]
              · rw [if_neg h2, if_neg (by omega)]
          · refine ((HO.out.setOther (by show g + 1 ≠ g; omega) _).set k _).congr fun j hj => ?_
            by_cases hjk : j = k
            · subst hjk
              rw [if_pos rfl, if_pos (by omega), List.getD_eq_getElem?_getD]
            · rw [if_neg hjk]
              by_cases h2 : j < k
              · rw [if_pos h2, if_pos (by omega)]
              · rw [if_neg h2, if_neg (by omega)]
          · have hg0 := Hg.out
            have hb1 : wc.heap.size ≤ (⟨g, k, none⟩ : Addr).block := by show wc.heap.size ≤ g; omega
            have hb2 : wc.heap.size ≤ (⟨g + 1, k, none⟩ : Addr).block := by show wc.heap.size ≤ g + 1; omega
            exact (Below.setCell HE.out hb1 _).setCell hb2 _
        case measure => simp [intOf]; omega
      · obtain rfl : k = 64 := by omega
        have hszr := Hsg.out _ hE
        have hin : BsAt wr (some ⟨g, 0, none⟩) 64 64 (padK 54 kk) := by
          refine bs_row (f := fun j => bits .xor .u8 (kk.getD j 0) 54) (hI.congr fun j hj => by rw [if_pos hj]) (fun j _ => ?_) (by omega)
          have h1 := bits_lo_u8 .xor (kk.getD j 0) 54
          have h2 := bits_hi_u8 .xor (kk.getD j 0) 54
          omega
        have hou : BsAt wr (some ⟨g + 1, 0, none⟩) 64 64 (padK 92 kk) := by
          refine bs_row (f := fun j => bits .xor .u8 (kk.getD j 0) 92) (hO.congr fun j hj => by rw [if_pos hj]) (fun j _ => ?_) (by omega)
          have h1 := bits_lo_u8 .xor (kk.getD j 0) 92
          have h2 := bits_hi_u8 .xor (kk.getD j 0) 92
          omega
        have hltw := hZ.lt
        have hEq : Ext wr (wr.alloc (.cells #[.slice (some ⟨g, 0, none⟩) 64 64] 40)) := (Ext.refl wr).alloc _
        have hown := World.ownsRow_lit (base := wr.heap.size) (e := 40) (size := 1) wr #[.slice (some ⟨g, 0, none⟩) 64 64] 1 (Nat.le_refl _) (by unfold maxLen; omega) rfl
        have Hin := Lib.hid hin
        have Hou := Lib.hid hou
        have HEr := Lib.hid hE
        have HEq := Lib.hid (hE.trans hEq)
        have HZr := Lib.hid hZ
        have Hown := Lib.hid hown
        clear hI hO hZ hE hin hou hEq hown
        rw [show ((64 : Nat) : Int) = 64 from rfl]
        go_wp2_with (at_builtin; refine append_ps rfl (.tmp 38) (.tmp 39) rfl wr.heap.size _ 1 _ rfl Hown.out pa pn pc ls rfl wc HPc.out HEq.out (by omega) (by simp) ?_)
        intro v' w4 vs hV hown4 hB4
        obtain ⟨ao, co, rfl, hco1, hco2⟩ := owns_slice' hown4
        have hE4 : Ext wr w4 := ((Ext.refl wr).alloc _).trans' hB4
        have hEc4 := HEr.out.trans hE4
        have hps := owns_ps hown4 (((PsV.one Hin.out).ext hE4).append (hV.ext hEc4)) (by unfold maxLen at hco2; omega)
        have hfl : ([padK 54 kk] ++ ls).flatten = padK 54 kk ++ ls.flatten := by simp
        have hsum := sum_any ao (1 + pn) co _ w4 hps (by rw [hfl, List.length_append, padK_length]; omega) (by omega) (HTc.out.ext' hEc4)
        rw [hfl] at hsum
        have HS := Lib.hid hsum
        have HE4 := Lib.hid hE4
        have HEc4 := Lib.hid hEc4
        clear hsum hps hfl hown4 hB4 hE4 hEc4 Hown HEq hV
        go_wp2_with fail
        refine HS.out.mono ?_
        rintro e w5 ⟨rfl, hE5⟩
        obtain ⟨xi, hxi⟩ : ∃ xi, padK 54 kk ++ ls.flatten = xi := ⟨_, rfl⟩
        rw [hxi] at Hmac ⊢
        have hE45 := HE4.out.trans hE5
        have HOu5 := Lib.hid (Hou.out.ext hE45)
        have HT5 := Lib.hid (HTc.out.ext' (HEr.out.trans hE45))
        have HZ5 := Lib.hid (HZr.out.of_block (hE45.block hltw))
        have HE5 := Lib.hid (HE.out.trans (HEr.out.trans hE45))
        have hlt5 : w.heap.size < w5.heap.size := HZ5.out.lt
        clear hE5 hE45 hxi HS HE4 HEc4 Hou HZr Hin
        go_wp2_with (refine wpList_store_row rfl 23 _ _ rfl w5.heap.size _ rfl rfl _ _ (heap_new w5 _ _ rfl) (by kernel_rfl) (by rw [rowArr_size]; rfl) (rowArr_one fun _ _ => rfl) ?_; rw [setRow_new w5 _ _ _ _ rfl])
        obtain ⟨w6, hw6⟩ : ∃ w6, w5.alloc (.cells (rowArr 32 fun j => .int .u8 (shaF xi j)) 23) = w6 := ⟨_, rfl⟩
        have hE6 : Ext w5 w6 := by rw [← hw6]; exact (Ext.refl w5).alloc _
        have hR6 : w6.rowIs w5.heap.size 23 32 (fun j => .int .u8 (shaF xi j)) := by rw [← hw6]; exact rowIs_of (heap_new w5 _ _ rfl)
        refine wp_world (w' := w6) hw6 ?_
        have hV6 := (PsV.one (HOu5.out.ext hE6)).append (PsV.one (bs_sha hR6))
        have HV6 := Lib.hid hV6
        have HT6 := Lib.hid (HT5.out.ext' hE6)
        have HZ6 := Lib.hid (HZ5.out.of_block (hE6.block hlt5))
        have HE6 := Lib.hid (HE5.out.trans hE6)
        have hlt6 : w.heap.size < w6.heap.size := HZ6.out.lt
        clear hw6 hE6 hR6 hV6 HOu5 HT5 HZ5 HE5
        simp only [Act.put]
        refine wp_region_quietT 2 (by kernel_rfl) (by kernel_rfl) ?_
        simp only [List.take_succ_cons, List.take_zero, List.drop_succ_cons, List.drop_zero]
        repeat (go_big_quiet_step (fail))
        refine wpQuiet_nil ?_
        intro _ hw'
        obtain ⟨nq, hw''⟩ := hw'
        subst hw''
        have hP7 := ps_new (w := w6.drewN nq) (vs := [.slice (some ⟨g + 1, 0, none⟩) 64 64, .slice (some ⟨w5.heap.size, 0, none⟩) 32 32]) (HV6.out.drewN nq) 40 (by omega)
        have hE7 : Ext w6 ((w6.drewN nq).alloc (.cells #[.slice (some ⟨g + 1, 0, none⟩) 64 64, .slice (some ⟨w5.heap.size, 0, none⟩) 32 32] 40)) := ((Ext.refl w6).drewN' nq).alloc _
        have hsum := sum_any _ 2 2 _ _ hP7 (by simp [padK_length, shaL_length]) (by omega) (HT6.out.ext' hE7)
        rw [show ([padK 92 kk] ++ [shaL xi]).flatten = padK 92 kk ++ shaL xi by simp] at hsum
        have HS := Lib.hid hsum
        have HE7 := Lib.hid hE7
        clear hP7 hE7 hsum HV6 HT6
        go_wp2_with fail
        refine HS.out.mono ?_
        rintro e w8 ⟨rfl, hE8⟩
        have hE8' := HE7.out.trans hE8
        have hz := rowIs_cells (HZ6.out.of_block (hE8'.block hlt6))
        have Hz := Lib.hid hz
        have HE8 := Lib.hid (HE6.out.trans hE8')
        clear hz hE8 hE8' HS HE7 HZ6 HE6
        go_wp2_with (refine wpList_store_row rfl 23 _ _ rfl _ _ rfl rfl _ _ Hz.out (by kernel_rfl) (by rw [rowArr_size, rowArr_size]) (rowArr_one fun _ _ => rfl) ?_)
        refine bodyPost_ret (results_cell_row rfl _ _ w.heap.size _ _ _ _ rfl (setRow_heap w8 w.heap.size _ _ _ _ Hz.out) Tryd.underlying23 rfl (by kernel_rfl)) rfl ⟨?_, ?_⟩
        · simp only [Hmac.out]
        · exact below_setRow HE8.out (Nat.le_refl _) _

end Go.Proofs.YtdgbcieopkilcaaDoor
