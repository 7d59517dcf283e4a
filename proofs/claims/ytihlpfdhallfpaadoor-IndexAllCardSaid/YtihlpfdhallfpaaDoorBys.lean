/-
  Bytes: rows of one's own, appends, copies, strings. No conditions.
-/
import Derived.Test.YtihlpfdhallfpaaDoorRows
import Derived.WalkKit
import Derived.ProofKit
import Derived.OpenShut
import Derived.Below
import Derived.WalkLawsBesides
import Derived.WalkSpells
import Derived.Lib.Bytes
import Derived.Maps.AppendAt
import Derived.Test.YtihlpfdhallfpaaDoorBase
import Derived.Lib.ConvBytes
import Derived.Laws.IdiomStrings
import Derived.Laws.AppendOwnNone
import Derived.Laws.CopyOwn
import Derived.Deep.Cut
import Derived.StillTailTactics
import Derived.Deep.Heap
import Derived.Lib.Hide
namespace Go.Proofs.YtihlpfdhallfpaaDoor
open Go.ChangeShapes Go.WideShapes Go.ChangeAt Go.RowKit

theorem info_u8 : (Tryd.prog.info? 5).map (fun i => (i.zero, i.size, i.bytes)) = some (some (.int .u8 0), 1, 1) := by kernel_rfl

/-- The cells of some bytes. -/
def bv (xs : List Int) : List Value := xs.map (Value.int .u8)

theorem bv_length (xs : List Int) : (bv xs).length = xs.length := by simp [bv]

theorem bv_one (xs : List Int) : ∀ u ∈ bv xs, u.oneCell' = true := by
  intro u hu
  unfold bv at hu
  obtain ⟨x, _, rfl⟩ := List.mem_map.1 hu
  rfl

theorem bv_append (xs ys : List Int) : bv (xs ++ ys) = bv xs ++ bv ys := by simp [bv]

theorem bv_get (xs : List Int) (i : Nat) (u : Value) (h : (bv xs)[i]? = some u) : i < xs.length ∧ u = .int .u8 (xs.getD i 0) := by
  unfold bv at h
  rw [List.getElem?_map] at h
  cases hx : xs[i]? with
  | none => rw [hx] at h; cases h
  | some x =>
    rw [hx] at h
    simp only [Option.map_some, Option.some.injEq] at h
    refine ⟨(List.getElem?_eq_some_iff.1 hx).1, ?_⟩
    rw [← h, List.getD_eq_getElem?_getD, hx]
    rfl

theorem addr_add (b o i : Nat) : (⟨b, o, none⟩ : Addr).add i = ⟨b, o + i, none⟩ := Addr.add_mid b o i

theorem BsAt.news {w : World} {ad : Addr} {n c : Nat} {xs : List Int} (h : BsAt w (some ad) n c xs) : ∀ j u, (bv xs)[j]? = some u → w.cell? (ad.add j) = some u := by
  intro j u hu
  obtain ⟨hj, rfl⟩ := bv_get xs j u hu
  have hl := h.len
  obtain ⟨b', off', ha, hc⟩ := h.at_ (by omega)
  simp only [Option.some.injEq] at ha
  subst ha
  rw [addr_add]
  exact hc j (by omega)

/-- What the call owns reads as bytes. -/
theorem owns_bs {w : World} {base n c : Nat} {a : Option Addr} {xs : List Int} (h : w.ownsRow base 5 1 (.slice a n c) n (bv xs)) (hb : ∀ x ∈ xs, 0 ≤ x ∧ x < 256) (hc : c ≤ 9223372036854775807) (hsm : n ≤ 140737488355328) : BsAt w a n c xs := by
  have hl : xs.length = n := by have := h.1; rw [bv_length] at this; omega
  rcases h.2 with ⟨hv, hn⟩ | ⟨g, cap, cur, hv, _, hg, hnc, _, hcs, ht⟩
  · simp only [Value.slice.injEq] at hv
    obtain ⟨rfl, rfl, rfl⟩ := hv
    exact ⟨hl, Nat.le_refl _, by omega, by omega, hb, fun h => by omega, fun _ => rfl⟩
  · simp only [Value.slice.injEq] at hv
    obtain ⟨rfl, _, rfl⟩ := hv
    refine ⟨hl, hnc, hc, hsm, hb, fun hn => ⟨g, 0, rfl, fun i hi => ?_⟩, fun h => by cases h⟩
    rw [Nat.zero_add, cell_of_row w g i cur _ _ hg]
    have h1 : (bv xs)[i]? = some (.int .u8 (xs.getD i 0)) := by
      unfold bv
      rw [List.getElem?_map, List.getD_eq_getElem?_getD, List.getElem?_eq_getElem (by omega : i < xs.length)]
      rfl
    rw [← ht, List.getElem?_take] at h1
    split at h1
    · simpa using h1
    · cases h1

theorem owns_slice {w : World} {base n : Nat} {v : Value} {xs : List Value} (h : w.ownsRow base 5 1 v n xs) : ∃ ao c, v = .slice ao n c ∧ n ≤ c ∧ c ≤ maxLen := by
  rcases h.2 with ⟨rfl, rfl⟩ | ⟨g, cap, cur, rfl, _, _, h1, h2, _⟩
  · exact ⟨none, 0, rfl, Nat.le_refl _, by unfold maxLen; omega⟩
  · exact ⟨_, cap, rfl, h1, h2⟩

theorem bv_snoc (xs : List Int) (x : Int) : bv xs ++ [Value.int .u8 x] = bv (xs ++ [x]) := by simp [bv]

/-- The bytes as the shelf tells them. -/
def u8s (xs : List Int) : List UInt8 := Lib.bytesOf xs

theorem u8s_length (xs : List Int) : (u8s xs).length = xs.length := by simp [u8s, Lib.bytesOf]

theorem u8s_get (xs : List Int) (h : ∀ x ∈ xs, 0 ≤ x ∧ x < 256) (i : Nat) (x : UInt8) (hx : (u8s xs)[i]? = some x) : i < xs.length ∧ xs.getD i 0 = (x.toNat : Int) := by
  unfold u8s Lib.bytesOf at hx
  rw [List.getElem?_map] at hx
  cases hy : xs[i]? with
  | none => rw [hy] at hx; cases hx
  | some y =>
    rw [hy] at hx
    simp only [Option.map_some, Option.some.injEq] at hx
    have hi := (List.getElem?_eq_some_iff.1 hy).1
    have h1 := getD_byte h i
    refine ⟨hi, ?_⟩
    rw [List.getD_eq_getElem?_getD, hy] at h1 ⊢
    simp only [Option.getD_some] at h1 ⊢
    rw [← hx, UInt8.toNat_ofNat']
    omega

theorem u8s_inj {xs ys : List Int} (h1 : ∀ x ∈ xs, 0 ≤ x ∧ x < 256) (h2 : ∀ x ∈ ys, 0 ≤ x ∧ x < 256) (h : u8s xs = u8s ys) : xs = ys := by
  have hl : xs.length = ys.length := by rw [← u8s_length xs, ← u8s_length ys, h]
  refine List.ext_getElem hl fun i hi hj => ?_
  have hk : i < (u8s xs).length := by rw [u8s_length]; exact hi
  have a1 : (u8s xs)[i]? = some (u8s xs)[i] := List.getElem?_eq_getElem hk
  have b1 := (u8s_get xs h1 i _ a1).2
  have a2 : (u8s ys)[i]? = some (u8s xs)[i] := by rw [← a1, h]
  have b2 := (u8s_get ys h2 i _ a2).2
  rw [List.getD_eq_getElem?_getD, List.getElem?_eq_getElem hi] at b1
  rw [List.getD_eq_getElem?_getD, List.getElem?_eq_getElem hj] at b2
  simp only [Option.getD_some] at b1 b2
  rw [b1, b2]

theorem BsAt.grown {w w' : World} {a : Option Addr} {n c g : Nat} {xs : List Int} (h : BsAt w a n c xs) (hg : w.grownBy w' (some g)) (hne : 0 < n → ∀ b off, a = some ⟨b, off, none⟩ → b ≠ g) : BsAt w' a n c xs := by
  refine ⟨h.len, h.cap, h.lim, h.small, h.byte, fun hn => ?_, h.nil_⟩
  obtain ⟨b, off, ha, hc⟩ := h.at_ hn
  refine ⟨b, off, ha, fun i hi => ?_⟩
  exact World.grownBy.cell hg (hc i hi) (fun e => hne hn b off ha (Option.some.inj e))

theorem ext_grown {a b c : World} (h : Ext a b) {g : Nat} (k : b.grownBy c (some g)) (hg : a.heap.size ≤ g) : Ext a c := by
  have h1 := Below.size h
  have h2 := k.size
  refine Below.trans (B := a.heap.size) h ⟨k.os, k.tape, k.output, by omega, fun i hi => k.block i (by omega) (fun e => ?_)⟩
  injection e with e
  omega

theorem index_row {P : Program} (T E : TypeId) (n : Nat) (f : Nat → Value) (k : Nat) (hk : k < n) (hu : P.underlying T = some (.array n E)) (w : World) (hs : (sizeOf E).run P w = .ok 1 w) (hagg : (isAgg E).run P w = .ok false w) :
    (Instr.index T (.agg (rowArr n f)) (.int .i64 (k : Int))).run P w = .ok (f k) w := by
  have hg := rowArr_get n f k hk
  have h1 : (0 : Int) ≤ (k : Int) := by omega
  simp [Instr.index, run_underlying hu, asIntOf, h1, hs, hagg, hk, part, hg]

theorem start_zero32 (T : TypeId) (w : World) : (w.alloc (.cells (Array.replicate 32 (.int .u8 0)) T)).rowIs w.heap.size T 32 (fun _ => .int .u8 0) :=
  World.rowIs_alloc w (Array.replicate 32 (.int .u8 0)) T (fun _ => .int .u8 0) (fun i hi => by
    simp at hi
    simp [hi])

theorem new_cell (w : World) (v : Value) (t : TypeId) : (w.alloc (.cells #[v] t)).cell? ⟨w.heap.size, 0, none⟩ = some v := cell_one_new w v t 0 v rfl

theorem append_bs {w : World} {ops : Array Oper} {rest : List Oper} {o : Oper} {a : Act} {Q : Exit → Act → World → Prop} (hgd : o.guard = none) (s x : Operand) (ho : o.op = .call { callee := .builtin .append, args := #[s, x], argTypes := #[35, 35] })
    (B : Nat) (v : Value) (n : Nat) (xs : List Int) (hs : a.eval s = v) (hown : w.ownsRow B 5 1 v n (bv xs))
    (src : Option Addr) (m c : Nat) (ys : List Int) (hx : a.eval x = .slice src m c) (hb : BsAt w src m c ys) (hsz : n + m ≤ 140737488355328) (hB : B ≤ w.heap.size)
    (h : ∀ v' w', w'.ownsRow B 5 1 v' (n + m) (bv (xs ++ ys)) → Below B w w' → wpList Tryd.prog ops Q rest (a.put o.dst v') w') : wpList Tryd.prog ops Q (o :: rest) a w := by
  obtain ⟨i0, hi, hz0, hz1, hz2⟩ := info_parts info_u8
  have hl := hb.len
  cases src with
  | none =>
    obtain rfl : c = 0 := hb.nil_ rfl
    have hc := hb.cap
    obtain rfl : m = 0 := by omega
    obtain rfl : ys = [] := List.eq_nil_of_length_eq_zero hl
    refine wpList_append_own_none hgd s x 35 ho B 5 i0 1 Tryd.underlying35 hi v n (bv xs) hs hown hx ?_
    exact h v w (by simpa using hown) (Below.refl _ _)
  | some ad =>
    refine wpList_append_own w hgd s x 35 ho B 5 i0 (.int .u8 0) 1 1 Tryd.underlying35 hi hz0 hz1 hz2 rfl (by decide) v n (bv xs) hs hown ad m c (bv ys) hx (by rw [bv_length, hl, Nat.mul_one]) hb.news (bv_one ys) (by unfold maxLen; omega) (by omega) hB ?_
    intro v' w' hown' hgrow _
    refine h v' w' (by rw [bv_append]; exact hown') ?_
    exact (Below.refl B w).grown hgrow hB (fun k hk => (hown.lt k hk).1)

theorem append_byte {w : World} {ops : Array Oper} {rest : List Oper} {o : Oper} {a : Act} {Q : Exit → Act → World → Prop} (hgd : o.guard = none) (s x : Operand) (ho : o.op = .call { callee := .builtin .append, args := #[s, x], argTypes := #[35, 35] })
    (B : Nat) (v : Value) (n : Nat) (xs : List Int) (hs : a.eval s = v) (hown : w.ownsRow B 5 1 v n (bv xs))
    (g : Nat) (y : Int) (hx : a.eval x = .slice (some ⟨g, 0, none⟩) 1 1) (hc : w.cell? ⟨g, 0, none⟩ = some (.int .u8 y)) (hsz : n + 1 ≤ 140737488355328) (hB : B ≤ w.heap.size)
    (h : ∀ v' w', w'.ownsRow B 5 1 v' (n + 1) (bv (xs ++ [y])) → Below B w w' → wpList Tryd.prog ops Q rest (a.put o.dst v') w') : wpList Tryd.prog ops Q (o :: rest) a w := by
  obtain ⟨i0, hi, hz0, hz1, hz2⟩ := info_parts info_u8
  refine wpList_append_own w hgd s x 35 ho B 5 i0 (.int .u8 0) 1 1 Tryd.underlying35 hi hz0 hz1 hz2 rfl (by decide) v n (bv xs) hs hown ⟨g, 0, none⟩ 1 1 (bv [y]) hx rfl (fun j u hu => ?_) (bv_one [y]) (by unfold maxLen; omega) (by omega) hB ?_
  · obtain ⟨hj, rfl⟩ := bv_get [y] j u hu
    obtain rfl : j = 0 := by simp at hj; omega
    rw [addr_add]
    exact hc
  · intro v' w' hown' hgrow _
    refine h v' w' (by rw [bv_append]; exact hown') ?_
    exact (Below.refl B w).grown hgrow hB (fun k hk => (hown.lt k hk).1)

/-- Bytes that lie at the head of a block. -/
theorem bs_new (w : World) (xs : List Int) (cs : Array Value) (T : TypeId) (fr : Nat × Nat) (hcs : cs = ⟨bv xs⟩) (hb : ∀ x ∈ xs, 0 ≤ x ∧ x < 256) (hs : xs.length ≤ 140737488355328) : BsAt (w.alloc (.cells cs T fr)) (some ⟨w.heap.size, 0, none⟩) xs.length xs.length xs := by
  subst hcs
  refine ⟨rfl, Nat.le_refl _, by omega, hs, hb, fun _ => ⟨w.heap.size, 0, rfl, fun i hi => ?_⟩, fun h => by cases h⟩
  rw [Nat.zero_add, cell_of_row _ w.heap.size i _ _ _ (heap_new w _ _ rfl)]
  unfold bv
  simp [List.getD, List.getElem?_eq_getElem hi]

/-- A row of bytes, read as a slice. -/
theorem bs_row {w : World} {g N : Nat} {T : TypeId} {f : Nat → Int} (h : w.rowIs g T N (fun j => .int .u8 (f j))) (hb : ∀ j, j < N → 0 ≤ f j ∧ f j < 256) (hN : N ≤ 140737488355328) :
    BsAt w (some ⟨g, 0, none⟩) N N ((List.range N).map f) := by
  refine ⟨by simp, Nat.le_refl _, by omega, hN, fun x hx => ?_, fun _ => ⟨g, 0, rfl, fun i hi => ?_⟩, fun h => by cases h⟩
  · obtain ⟨j, hj, rfl⟩ := List.mem_map.1 hx
    exact hb j (List.mem_range.1 hj)
  · rw [Nat.zero_add, h.cell hi]
    simp [List.getD_eq_getElem?_getD, hi]

/-- A row of N bytes, a part of it read as a slice. -/
theorem bs_row_sub {w : World} {g N : Nat} {T : TypeId} {f : Nat → Int} (h : w.rowIs g T N (fun j => .int .u8 (f j))) (hb : ∀ j, j < N → 0 ≤ f j ∧ f j < 256) (hN : N ≤ 140737488355328) (off n : Nat) (hn : off + n ≤ N) :
    BsAt w (some ⟨g, off, none⟩) n (N - off) ((List.range n).map fun j => f (off + j)) := by
  have h1 := (bs_row h hb hN).sub off n hn
  rw [Nat.zero_add] at h1
  have e : (List.drop off (List.map f (List.range N))).take n = (List.range n).map fun j => f (off + j) := by
    refine List.ext_getElem (by simp; omega) fun i h1 h2 => ?_
    simp
  rw [← e]
  exact h1

theorem info1_u8 : (Tryd.prog.info? 5).map (·.size) = some 1 := by kernel_rfl

theorem grown_setRow (w : World) (g : Nat) (cs : Array Value) : w.grownBy (w.setRow g cs) (some g) :=
  ⟨rfl, rfl, rfl, by simp [World.setRow], fun k _ hne => setRow_other w g k cs (fun e => hne (by rw [e]))⟩

/-- copy into a row of the call's own, out of whatever bytes. -/
theorem copy_bs {w : World} {ops : Array Oper} {rest : List Oper} {o : Oper} {a : Act} {Q : Exit → Act → World → Prop} (hgd : o.guard = none) (d s : Operand)
    (ho : o.op = .call { callee := .builtin .copy, args := #[d, s], argTypes := #[35, 35] })
    (g off dLen dCap N : Nat) (T : TypeId) (f : Nat → Value) (hd : a.eval d = .slice (some ⟨g, off, none⟩) dLen dCap) (hr : w.rowIs g T N f) (hfit : off + dLen ≤ N)
    (src : Option Addr) (m c : Nat) (ys : List Int) (hs : a.eval s = .slice src m c) (hb : BsAt w src m c ys) (k : Nat) (hk : k = Nat.min m dLen)
    (h : ∀ w', w'.rowIs g T N (fun j => if off ≤ j ∧ j < off + k then .int .u8 (ys.getD (j - off) 0) else f j) → w.grownBy w' (some g) →
      wpList Tryd.prog ops Q rest (a.put o.dst (.int .i64 (k : Int))) w') : wpList Tryd.prog ops Q (o :: rest) a w := by
  have hl := hb.len
  by_cases h0 : k = 0
  · subst h0
    refine wpList_copy_nothing hgd d s 35 35 ho 5 Tryd.underlying35 info1_u8 _ _ _ _ _ _ hd hs (by omega) ?_
    exact h w (hr.congr fun j _ => by rw [if_neg (by omega)]) (grown_ext (Ext.refl w) _)
  · have hmk : k ≤ m := by rw [hk]; exact Nat.min_le_left _ _
    have hdk : k ≤ dLen := by rw [hk]; exact Nat.min_le_right _ _
    obtain ⟨b, so, rfl, hc⟩ := hb.at_ (by omega)
    have hlen : (bv (ys.take k)).length = k := by rw [bv_length, List.length_take]; omega
    refine wpList_copy_own hgd d s 35 35 ho 5 Tryd.underlying35 info1_u8 g off dLen dCap ⟨b, so, none⟩ m c hd hs (rowArr N f) T (rowIs_cells hr) (bv (ys.take k)) (by rw [hlen, hk]) (fun j v hv => ?_) (by rw [hlen, rowArr_size]; omega) (bv_one _) ?_
    · obtain ⟨hj, rfl⟩ := bv_get _ j v hv
      rw [List.length_take] at hj
      rw [addr_add, hc j (by omega), List.getD_eq_getElem?_getD, List.getD_eq_getElem?_getD, List.getElem?_take, if_pos (by omega)]
    · have e : ((rowArr N f).toList.take off ++ (bv (ys.take k) ++ (rowArr N f).toList.drop (off + (bv (ys.take k)).length))).toArray = rowArr N (fun j => if off ≤ j ∧ j < off + k then .int .u8 (ys.getD (j - off) 0) else f j) := by
        rw [hlen]
        unfold rowArr
        congr 1
        refine List.ext_getElem (by simp [bv]; omega) fun i h1 h2 => ?_
        have hi : i < N := by simpa using h2
        simp only [List.getElem_map, List.getElem_range]
        by_cases c1 : i < off
        · rw [List.getElem_append_left (by simp; omega), if_neg (by omega)]
          simp
        · rw [List.getElem_append_right (by simp; omega)]
          by_cases c2 : i < off + k
          · rw [List.getElem_append_left (by simp [bv]; omega), if_pos (by omega)]
            have e2 : i - min off N = i - off := by rw [Nat.min_eq_left (by omega)]
            simp only [bv, List.getElem_map, List.getElem_take, List.length_take, List.length_map, List.length_range, e2]
            rw [List.getD_eq_getElem?_getD, List.getElem?_eq_getElem (by omega)]
            rfl
          · rw [List.getElem_append_right (by simp [bv]; omega), if_neg (by omega)]
            simp only [List.getElem_drop, List.getElem_map, List.getElem_range, List.length_take, List.length_map, List.length_range, bv]
            congr 1
            omega
      rw [e, hlen]
      exact h _ (rowIs_setRow hr) (grown_setRow _ _ _)

/-- 32 numbers as a list. -/
def l32 (f : Nat → Int) : List Int := (List.range 32).map f

theorem l32_length (f : Nat → Int) : (l32 f).length = 32 := by simp [l32]

theorem l32_byte {f : Nat → Int} (h : ∀ j, j < 32 → 0 ≤ f j ∧ f j < 256) : ∀ x ∈ l32 f, 0 ≤ x ∧ x < 256 := by
  intro x hx
  obtain ⟨j, hj, rfl⟩ := List.mem_map.1 hx
  exact h j (List.mem_range.1 hj)

theorem BsAt.grownO {w w' : World} {a : Option Addr} {n c : Nat} {row : Option Nat} {xs : List Int} (h : BsAt w a n c xs) (hg : w.grownBy w' row) (hne : 0 < n → ∀ b off, a = some ⟨b, off, none⟩ → some b ≠ row) : BsAt w' a n c xs := by
  refine ⟨h.len, h.cap, h.lim, h.small, h.byte, fun hn => ?_, h.nil_⟩
  obtain ⟨b, off, ha, hc⟩ := h.at_ hn
  refine ⟨b, off, ha, fun i hi => ?_⟩
  exact World.grownBy.cell hg (hc i hi) (hne hn b off ha)

/-- Two rows of unlike types don't lie in one block. -/
theorem own_row_ne {w : World} {base e size n m g : Nat} {t : TypeId} {v : Value} {xs : List Value} {f : Nat → Value} (h : w.ownsRow base e size v n xs) (hr : w.rowIs g t m f) (hne : e ≠ t) : some g ≠ v.ownBlock := by
  rcases h.2 with ⟨rfl, _⟩ | ⟨g', cap, cur, rfl, _, hh, _⟩
  · simp [Value.ownBlock]
  · intro he
    have : g' = g := by simpa [Value.ownBlock] using he.symm
    subst this
    obtain ⟨c, hb, _⟩ := hr
    rw [hb] at hh
    injection hh with hh
    injection hh with _ ht
    exact hne ht.symm

/-- append_bs, and what it leaves as it was. -/
theorem append_bsG {w : World} {ops : Array Oper} {rest : List Oper} {o : Oper} {a : Act} {Q : Exit → Act → World → Prop} (hgd : o.guard = none) (s x : Operand) (ho : o.op = .call { callee := .builtin .append, args := #[s, x], argTypes := #[35, 35] })
    (B : Nat) (v : Value) (n : Nat) (xs : List Int) (hs : a.eval s = v) (hown : w.ownsRow B 5 1 v n (bv xs))
    (src : Option Addr) (m c : Nat) (ys : List Int) (hx : a.eval x = .slice src m c) (hb : BsAt w src m c ys) (hsz : n + m ≤ 140737488355328) (hB : B ≤ w.heap.size)
    (h : ∀ v' w', w'.ownsRow B 5 1 v' (n + m) (bv (xs ++ ys)) → Below B w w' → w.grownBy w' v.ownBlock → wpList Tryd.prog ops Q rest (a.put o.dst v') w') : wpList Tryd.prog ops Q (o :: rest) a w := by
  obtain ⟨i0, hi, hz0, hz1, hz2⟩ := info_parts info_u8
  have hl := hb.len
  cases src with
  | none =>
    obtain rfl : c = 0 := hb.nil_ rfl
    have hc := hb.cap
    obtain rfl : m = 0 := by omega
    obtain rfl : ys = [] := List.eq_nil_of_length_eq_zero hl
    refine wpList_append_own_none hgd s x 35 ho B 5 i0 1 Tryd.underlying35 hi v n (bv xs) hs hown hx ?_
    exact h v w (by simpa using hown) (Below.refl _ _) (World.grownBy.refl w _)
  | some ad =>
    refine wpList_append_own w hgd s x 35 ho B 5 i0 (.int .u8 0) 1 1 Tryd.underlying35 hi hz0 hz1 hz2 rfl (by decide) v n (bv xs) hs hown ad m c (bv ys) hx (by rw [bv_length, hl, Nat.mul_one]) hb.news (bv_one ys) (by unfold maxLen; omega) (by omega) hB ?_
    intro v' w' hown' hgrow _
    refine h v' w' (by rw [bv_append]; exact hown') ?_ hgrow
    exact (Below.refl B w).grown hgrow hB (fun k hk => (hown.lt k hk).1)

/-- Bytes in a block that lies from block 'B' on, and that may be written. -/
def NewB (B : Nat) (w : World) (a : Option Addr) (n : Nat) : Prop := 0 < n → ∃ g cur, a = some ⟨g, 0, none⟩ ∧ B ≤ g ∧ w.heap[g]? = some (.cells cur 5 (0, 0))

theorem owns_new {B B' n m c : Nat} {w : World} {a : Option Addr} {xs : List Value} (h : w.ownsRow B 5 1 (.slice a n c) n xs) (hB : B' ≤ B) (hm : m ≤ n) : NewB B' w a m := by
  intro h0
  rcases h.2 with ⟨he, hn⟩ | ⟨g, cap, cur, he, hb, hg, _⟩
  · simp only [Value.slice.injEq] at he; omega
  · simp only [Value.slice.injEq] at he
    obtain ⟨rfl, _, _⟩ := he
    exact ⟨g, cur, rfl, by omega, hg⟩

theorem BsAt.cut {w : World} {a : Option Addr} {n c m c' : Nat} {xs : List Int} (h : BsAt w a n c xs) (hm : m ≤ n) (hc : m ≤ c') (hc' : c' ≤ c) : BsAt w a m c' (xs.take m) := by
  refine ⟨by rw [List.length_take, h.len]; omega, hc, by have := h.lim; omega, by have := h.small; omega, fun x hx => h.byte x (List.mem_of_mem_take hx), fun h0 => ?_, fun e => by have := h.nil_ e; omega⟩
  obtain ⟨b, off, ha, hcell⟩ := h.at_ (by omega)
  refine ⟨b, off, ha, fun i hi => ?_⟩
  rw [hcell i (by omega), List.getD_eq_getElem?_getD, List.getD_eq_getElem?_getD, List.getElem?_take, if_pos hi]

/-- A string's bytes, as numbers. -/
def strB (s : ByteArray) : List Int := s.data.toList.map fun b => (b.toNat : Int)

theorem strB_length (s : ByteArray) : (strB s).length = s.size := by simp [strB]

theorem strB_byte (s : ByteArray) : ∀ x ∈ strB s, 0 ≤ x ∧ x < 256 := by
  intro x hx
  obtain ⟨b, _, rfl⟩ := List.mem_map.1 hx
  have := b.toNat_lt
  omega

/-- The string of some bytes. -/
def strOf (xs : List Int) : ByteArray := ⟨(u8s xs).toArray⟩

theorem strB_strOf {xs : List Int} (h : ∀ x ∈ xs, 0 ≤ x ∧ x < 256) : strB (strOf xs) = xs := by
  unfold strB strOf u8s Lib.bytesOf
  refine List.ext_getElem (by simp) fun i h1 h2 => ?_
  simp only [List.getElem_map]
  have := h xs[i] (List.getElem_mem h2)
  rw [UInt8.toNat_ofNat']
  omega

theorem conv_bs {w : World} {ops : Array Oper} {rest : List Oper} {o : Oper} {a : Act} {Q : Exit → Act → World → Prop} (hgd : o.guard = none) (x : Operand) (ho : o.op = .convert 9 35 x)
    (s : ByteArray) (hx : a.eval x = .string s) (hsz : s.size ≤ 140737488351232)
    (h : ∀ c w', BsAt w' (some ⟨w.heap.size, 0, none⟩) s.size c (strB s) → Ext w w' → wpList Tryd.prog ops Q rest (a.put o.dst (.slice (some ⟨w.heap.size, 0, none⟩) s.size c)) w') : wpList Tryd.prog ops Q (o :: rest) a w := by
  refine wpList_plain hgd fun K hK => ?_
  have hrun := Lib.run_convert_string_bytes (P := Tryd.prog) w 9 35 5 s Tryd.underlying9 Tryd.underlying35 Tryd.underlying5
  unfold Oper.wp
  simp [execOp, ho, hx, hrun, Result.andThen]
  refine hK _ _ (h _ _ ?_ ?_)
  · have hc1 := grownCap_ge w s.size 0 5
    have hc2 := grownCap_le_maxLen w s.size 0 5 (by unfold maxLen; omega)
    refine ⟨strB_length s, hc1, by unfold maxLen at hc2; omega, by omega, strB_byte s, fun _ => ⟨w.heap.size, 0, rfl, fun i hi => ?_⟩, fun h => by cases h⟩
    rw [Nat.zero_add, Lib.bytesWorld_cell w 5 s i hi]
    have hi' : i < s.data.toList.length := by simpa using hi
    unfold strB
    rw [List.getD_eq_getElem?_getD, List.getD_eq_getElem?_getD, List.getElem?_map, List.getElem?_eq_getElem hi']
    rfl
  · exact ⟨rfl, rfl, rfl, by rw [Lib.bytesWorld_size]; omega, fun k hk => Lib.bytesWorld_at_old w _ s k hk⟩

theorem conv_str {w : World} {ops : Array Oper} {rest : List Oper} {o : Oper} {a : Act} {Q : Exit → Act → World → Prop} (hgd : o.guard = none) (x : Operand) (ho : o.op = .convert 35 9 x)
    (src : Option Addr) (n c : Nat) (xs : List Int) (hx : a.eval x = .slice src n c) (hb : BsAt w src n c xs)
    (h : wpList Tryd.prog ops Q rest (a.put o.dst (.string (strOf xs))) w) : wpList Tryd.prog ops Q (o :: rest) a w := by
  refine wpList_plain hgd fun K hK => ?_
  have hlen := hb.len
  have hrun : (convert 35 9 (.slice src n c)).run Tryd.prog w = .ok (.string (strOf xs)) w := by
    cases src with
    | none =>
      have h0 := hb.nil_ rfl
      have h1 := hb.cap
      obtain rfl : n = 0 := by omega
      obtain rfl : xs = [] := List.eq_nil_of_length_eq_zero hlen
      rw [run_convert_bytes_string w 35 9 5 none 0 c Tryd.underlying35 Tryd.underlying5 Tryd.underlying9]
      rfl
    | some ad =>
      have := run_convert_bytes_back (P := Tryd.prog) w 35 9 5 ad c (u8s xs) Tryd.underlying35 Tryd.underlying5 Tryd.underlying9 (fun j hj => by
        obtain ⟨hi, he⟩ := u8s_get xs hb.byte j _ (List.getElem?_eq_getElem hj)
        have h1 := hb.news j (.int .u8 (xs.getD j 0)) (by
          unfold bv
          rw [List.getElem?_map, List.getElem?_eq_getElem hi, List.getD_eq_getElem?_getD, List.getElem?_eq_getElem hi]
          rfl)
        rw [h1, he])
      rw [u8s_length, hlen] at this
      exact this
  unfold Oper.wp
  simp [execOp, ho, hx, hrun, Result.andThen]
  exact hK _ _ h

theorem rowArr_toList (n : Nat) (f : Nat → Value) : (rowArr n f).toList = (List.range n).map f := rfl

/-- An array loaded out of bytes. -/
theorem load_bs {w : World} {ops : Array Oper} {rest : List Oper} {o : Oper} {a : Act} {Q : Exit → Act → World → Prop} (hgd : o.guard = none) (T : TypeId) (N : Nat) (x : Operand) (ho : o.op = .load T x)
    (hu : Tryd.prog.underlying T = some (.array N 5)) (hi : (Tryd.prog.info? T).map (·.size) = some N)
    (ad : Addr) (n c : Nat) (xs : List Int) (hx : a.eval x = .pointer (some ad)) (hb : BsAt w (some ad) n c xs) (hn : N ≤ n)
    (h : wpList Tryd.prog ops Q rest (a.put o.dst (.agg (rowArr N fun j => .int .u8 (xs.getD j 0)))) w) : wpList Tryd.prog ops Q (o :: rest) a w := by
  refine wpList_plain hgd fun K hK => ?_
  have hlen := hb.len
  have hl : (loadCells ad N).run Tryd.prog w = .ok (rowArr N fun j => .int .u8 (xs.getD j 0)) w := by
    have h1 := run_loadCells_list (P := Tryd.prog) w ad ((List.range N).map fun j => Value.int .u8 (xs.getD j 0)) (fun j v hv => by
      have hj : j < N := by
        have := (List.getElem?_eq_some_iff.1 hv).1
        simpa using this
      rw [List.getElem?_map, List.getElem?_range hj] at hv
      obtain rfl := Option.some.inj hv
      refine hb.news j _ ?_
      unfold bv
      rw [List.getElem?_map, List.getElem?_eq_getElem (by omega)]
      simp [List.getD_eq_getElem?_getD, List.getElem?_eq_getElem (show j < xs.length by omega)])
    rw [List.length_map, List.length_range] at h1
    exact h1
  cases hq : Tryd.prog.info? T with
  | none => simp [hq] at hi
  | some i =>
    have hs : i.size = N := by simpa [hq] using hi
    have hagg : (isAgg T).run Tryd.prog w = .ok true w := by
      unfold isAgg
      rw [Sem.run_bind, run_underlying hu w]
      rfl
    have hv : (loadVar T ad).run Tryd.prog w = .ok (.agg (rowArr N fun j => .int .u8 (xs.getD j 0))) w := by
      simp [loadVar, Sem.run_bind, hagg, sizeOf, typeInfo, hq, hs, hl]
    unfold Oper.wp execOp
    simp only [ho, hx, Instr.loadAt, Instr.sureAddr, Sem.run_bind, Sem.run_pure, Result.andThen_ok, hv]
    exact hK _ _ h

theorem results_row_tmp {P : Program} {fn : Func} {p q : Tmp} {ty : TypeId} (h : fn.results = #[.cell p ty, .tmp q]) (tmps : Array Value) (w : World) (g : Nat) (t : TypeId) (cs : Array Value) (fr : Nat × Nat) (d : TypeDesc)
    (hp : tmps.getD p undef = .pointer (some ⟨g, 0, none⟩)) (hg : w.heap[g]? = some (.cells cs t fr))
    (hu : P.underlying ty = some d) (hd : (match d with | .struct _ | .array _ _ => true | _ => false) = true) (hi : (P.info? ty).map (·.size) = some cs.size) :
    (results fn tmps).run P w = .ok (.tuple #[.agg cs, tmps.getD q undef]) w := by
  have hp' : tmps[p]?.getD undef = .pointer (some ⟨g, 0, none⟩) := by simpa using hp
  simp [results, h, hp', asAddr, run_loadVar_row w g t ty cs fr d hg hu hd hi]

end Go.Proofs.YtihlpfdhallfpaaDoor
