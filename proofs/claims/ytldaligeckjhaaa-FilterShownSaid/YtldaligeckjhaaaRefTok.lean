/-
  The tokens of rows, rising, each once: plain laws, and the walk of jalousieref18.Tokens. No conditions but the length.
-/
import Derived.Test.YtldaligeckjhaaaTwP
import Derived.Test.YtldaligeckjhaaaInR
import Derived.Test.YtldaligeckjhaaaTkO
namespace Go.Proofs.Ytldaligeckjhaaa
open Go.ChangeAt Go.ChangeShapes Go.RowKit Go.WideShapes

def tokOf (r : Rw) : Nat → Int := r.hd.1.item
def tokAt (cs : List Rw) (i : Nat) : Nat → Int := tokOf (cs.getD i rwN)
theorem eqTok_iff (f g : Nat → Int) : eqTok f g = true ↔ tkK f = tkK g := tkK_iff f g
theorem inB_iff (ts : List (Nat → Int)) (t : Nat → Int) : inB ts t = true ↔ ∃ x ∈ ts, tkK x = tkK t := by
  unfold inB
  rw [List.any_eq_true]
  exact ⟨fun ⟨x, h1, h2⟩ => ⟨x, h1, (eqTok_iff _ _).1 h2⟩, fun ⟨x, h1, h2⟩ => ⟨x, h1, (eqTok_iff _ _).2 h2⟩⟩
theorem inB_app (ts : List (Nat → Int)) (u t : Nat → Int) : inB (ts ++ [u]) t = (inB ts t || eqTok u t) := by
  unfold inB
  rw [List.any_append]
  simp
theorem lenF_le {α : Type} {p q : α → Bool} : ∀ (l : List α), (∀ x ∈ l, q x = true → p x = true) → (l.filter q).length ≤ (l.filter p).length
  | [], _ => Nat.le_refl _
  | x :: l, h => by
    have ih := lenF_le l fun y hy => h y (List.mem_cons_of_mem _ hy)
    cases hq : q x with
    | true =>
      rw [List.filter_cons_of_pos hq, List.filter_cons_of_pos (h x List.mem_cons_self hq), List.length_cons, List.length_cons]
      omega
    | false =>
      rw [List.filter_cons_of_neg (by rw [hq]; exact Bool.false_ne_true)]
      cases hp : p x with
      | true => rw [List.filter_cons_of_pos hp, List.length_cons]; omega
      | false => rw [List.filter_cons_of_neg (by rw [hp]; exact Bool.false_ne_true)]; exact ih
theorem lenF_lt {α : Type} {p q : α → Bool} : ∀ (l : List α) (b : α), (∀ x ∈ l, q x = true → p x = true) → b ∈ l → p b = true → q b = false → (l.filter q).length < (l.filter p).length
  | x :: l, b, h, hb, h1, h2 => by
    have hl := fun y hy => h y (List.mem_cons_of_mem _ hy)
    rcases List.mem_cons.1 hb with e | e
    · subst e
      have ih := lenF_le l hl
      rw [List.filter_cons_of_pos h1, List.filter_cons_of_neg (by rw [h2]; exact Bool.false_ne_true), List.length_cons]
      omega
    · have ih := lenF_lt l b hl e h1 h2
      cases hq : q x with
      | true =>
        rw [List.filter_cons_of_pos hq, List.filter_cons_of_pos (h x List.mem_cons_self hq), List.length_cons, List.length_cons]
        omega
      | false =>
        rw [List.filter_cons_of_neg (by rw [hq]; exact Bool.false_ne_true)]
        cases hp : p x with
        | true => rw [List.filter_cons_of_pos hp, List.length_cons]; omega
        | false => rw [List.filter_cons_of_neg (by rw [hp]; exact Bool.false_ne_true)]; exact ih
/-- The tokens of rows behind k rounds. -/
structure TkS (cs : List Rw) (k : Nat) (ts : List (Nat → Int)) : Prop where
  rise : (ts.map tkK).Pairwise (fun a b => cmpI a b < 0)
  mem : ∀ t ∈ ts, ∃ r ∈ cs, t = tokOf r
  down : ∀ r ∈ cs, inB ts (tokOf r) = true ∨ ∀ t ∈ ts, cmpI (tkK t) (tkK (tokOf r)) < 0
  cnt : (cs.filter fun r => !inB ts (tokOf r)).length ≤ cs.length - k
  len : ts.length ≤ k
theorem TkS.start (cs : List Rw) : TkS cs 0 [] := ⟨List.Pairwise.nil, (fun t h => by cases h), (fun r _ => Or.inr (fun t h => by cases h)), by rw [Nat.sub_zero]; exact List.length_filter_le _ _, Nat.le_refl _⟩
/-- The least of the first j that isn't there. -/
def BestIs (cs : List Rw) (ts : List (Nat → Int)) (j : Nat) (z : Int) : Prop :=
  (z = -1 ∧ ∀ i, i < j → inB ts (tokAt cs i) = true) ∨ ∃ m : Nat, z = (m : Int) ∧ m < j ∧ inB ts (tokAt cs m) = false ∧ ∀ i, i < j → inB ts (tokAt cs i) = true ∨ ¬ cmpI (tkK (tokAt cs i)) (tkK (tokAt cs m)) < 0
theorem BestIs.start (cs : List Rw) (ts : List (Nat → Int)) : BestIs cs ts 0 (-1) := .inl ⟨rfl, fun i h => by omega⟩
theorem BestIs.skip {cs : List Rw} {ts : List (Nat → Int)} {j : Nat} {z : Int} (h : BestIs cs ts j z) (k : inB ts (tokAt cs j) = true) : BestIs cs ts (j + 1) z := by
  rcases h with ⟨h1, h2⟩ | ⟨m, h1, h2, h3, h4⟩
  · refine .inl ⟨h1, fun i hi => ?_⟩
    by_cases e : i = j
    · rw [e]; exact k
    · exact h2 i (by omega)
  · refine .inr ⟨m, h1, by omega, h3, fun i hi => ?_⟩
    by_cases e : i = j
    · rw [e]; exact .inl k
    · exact h4 i (by omega)
theorem BestIs.first {cs : List Rw} {ts : List (Nat → Int)} {j : Nat} (h : BestIs cs ts j (-1)) (k : inB ts (tokAt cs j) = false) : BestIs cs ts (j + 1) (j : Int) := by
  rcases h with ⟨_, h2⟩ | ⟨m, h1, _⟩
  · refine .inr ⟨j, rfl, by omega, k, fun i hi => ?_⟩
    by_cases e : i = j
    · rw [e, cmpI_self]; exact .inr (by omega)
    · exact .inl (h2 i (by omega))
  · omega
theorem BestIs.less {cs : List Rw} {ts : List (Nat → Int)} {j m : Nat} (h : BestIs cs ts j (m : Int)) (k : inB ts (tokAt cs j) = false) (l : cmpI (tkK (tokAt cs j)) (tkK (tokAt cs m)) < 0) : BestIs cs ts (j + 1) (j : Int) := by
  rcases h with ⟨h1, _⟩ | ⟨m', h1, h2, h3, h4⟩
  · omega
  · obtain rfl : m' = m := by omega
    refine .inr ⟨j, rfl, by omega, k, fun i hi => ?_⟩
    by_cases e : i = j
    · rw [e, cmpI_self]; exact .inr (by omega)
    · rcases h4 i (by omega) with h5 | h5
      · exact .inl h5
      · refine .inr fun h6 => h5 ?_
        exact cmpI_lt _ _ _ (by rw [tkK_len, tkK_len]) (by rw [tkK_len, tkK_len]) h6 l
theorem BestIs.keep {cs : List Rw} {ts : List (Nat → Int)} {j m : Nat} (h : BestIs cs ts j (m : Int)) (l : ¬ cmpI (tkK (tokAt cs j)) (tkK (tokAt cs m)) < 0) : BestIs cs ts (j + 1) (m : Int) := by
  rcases h with ⟨h1, _⟩ | ⟨m', h1, h2, h3, h4⟩
  · omega
  · obtain rfl : m' = m := by omega
    refine .inr ⟨m', rfl, by omega, h3, fun i hi => ?_⟩
    by_cases e : i = j
    · rw [e]; exact .inr l
    · exact h4 i (by omega)
theorem tokAt_mem {cs : List Rw} {i : Nat} (h : i < cs.length) : cs.getD i rwN ∈ cs := by
  rw [List.getD_eq_getElem?_getD, List.getElem?_eq_getElem h]
  exact List.getElem_mem _
theorem mem_tokAt {cs : List Rw} {r : Rw} (h : r ∈ cs) : ∃ i, i < cs.length ∧ cs.getD i rwN = r := by
  obtain ⟨i, hi⟩ := List.getElem?_of_mem h
  exact ⟨i, (List.getElem?_eq_some_iff.1 hi).1, by rw [List.getD_eq_getElem?_getD, hi]; rfl⟩
theorem TkS.push {cs : List Rw} {k m : Nat} {ts : List (Nat → Int)} (h : TkS cs k ts) (hb : BestIs cs ts cs.length (m : Int)) : TkS cs (k + 1) (ts ++ [tokAt cs m]) ∧ m < cs.length := by
  rcases hb with ⟨h1, _⟩ | ⟨m', h1, h2, h3, h4⟩
  · omega
  · obtain rfl : m' = m := by omega
    have hm := tokAt_mem h2
    have hlt : ∀ t ∈ ts, cmpI (tkK t) (tkK (tokAt cs m')) < 0 := by
      rcases h.down _ hm with h5 | h5
      · rw [show tokOf (cs.getD m' rwN) = tokAt cs m' from rfl, h3] at h5
        cases h5
      · exact h5
    refine ⟨⟨?_, fun t ht => ?_, fun r hr => ?_, ?_, by rw [List.length_append, List.length_singleton]; have := h.len; omega⟩, h2⟩
    · rw [List.map_append, List.pairwise_append]
      refine ⟨h.rise, by simp, fun a ha b hb => ?_⟩
      obtain ⟨t, ht, rfl⟩ := List.mem_map.1 ha
      simp only [List.map_cons, List.map_nil, List.mem_singleton] at hb
      rw [hb]
      exact hlt t ht
    · rcases List.mem_append.1 ht with h5 | h5
      · exact h.mem t h5
      · simp only [List.mem_singleton] at h5
        exact ⟨_, hm, h5⟩
    · obtain ⟨i, hi, rfl⟩ := mem_tokAt hr
      rcases h4 i hi with h5 | h5
      · left
        rw [inB_app, show tokOf (cs.getD i rwN) = tokAt cs i from rfl, h5]
        rfl
      · by_cases e : tkK (tokAt cs m') = tkK (tokAt cs i)
        · left
          rw [inB_app, show tokOf (cs.getD i rwN) = tokAt cs i from rfl, (eqTok_iff _ _).2 e, Bool.or_true]
        · rcases h.down _ hr with h6 | h6
          · left
            rw [inB_app, h6]
            rfl
          · right
            intro t ht
            rcases List.mem_append.1 ht with h7 | h7
            · exact h6 t h7
            · simp only [List.mem_singleton] at h7
              rw [h7]
              exact cmpI_tot _ _ (by rw [tkK_len, tkK_len]) e h5
    · have h5 := lenF_lt (p := fun r => !inB ts (tokOf r)) (q := fun r => !inB (ts ++ [tokAt cs m']) (tokOf r)) cs (cs.getD m' rwN) (fun x _ hx => by
        rw [inB_app] at hx
        simp only [Bool.not_or, Bool.and_eq_true] at hx
        exact hx.1) hm (by rw [show tokOf (cs.getD m' rwN) = tokAt cs m' from rfl, h3]; rfl) (by rw [inB_app, show tokOf (cs.getD m' rwN) = tokAt cs m' from rfl, (eqTok_iff _ _).2 rfl, Bool.or_true]; rfl)
      have h6 := h.cnt
      omega
theorem TkS.none {cs : List Rw} {k : Nat} {ts : List (Nat → Int)} (h : TkS cs k ts) (hb : BestIs cs ts cs.length (-1)) : TkS cs (k + 1) ts := by
  rcases hb with ⟨_, h2⟩ | ⟨m', h1, _⟩
  · refine ⟨h.rise, h.mem, h.down, ?_, by have := h.len; omega⟩
    have e : (cs.filter fun r => !inB ts (tokOf r)) = [] := by
      rw [List.filter_eq_nil_iff]
      intro r hr
      obtain ⟨i, hi, rfl⟩ := mem_tokAt hr
      have h3 := h2 i hi
      rw [show tokOf (cs.getD i rwN) = tokAt cs i from rfl, h3]
      exact Bool.false_ne_true
    rw [e]
    exact Nat.zero_le _
  · omega
/-- The tokens of rows. -/
structure TkIs (cs : List Rw) (ts : List (Nat → Int)) : Prop where
  rise : (ts.map tkK).Pairwise (fun a b => cmpI a b < 0)
  mem : ∀ t ∈ ts, ∃ r ∈ cs, t = tokOf r
  all : ∀ r ∈ cs, inB ts (tokOf r) = true
theorem TkS.fin {cs : List Rw} {ts : List (Nat → Int)} (h : TkS cs cs.length ts) : TkIs cs ts := by
  refine ⟨h.rise, h.mem, fun r hr => ?_⟩
  have h1 := h.cnt
  have h2 : (cs.filter fun r => !inB ts (tokOf r)) = [] := List.eq_nil_of_length_eq_zero (by omega)
  rw [List.filter_eq_nil_iff] at h2
  have h3 := h2 r hr
  simpa using h3
/-- They are the items' tokens. -/
theorem TkIs.fold {cs : List Rw} {ts : List (Nat → Int)} {its : List It} (h : TkIs cs ts) (k : FoldIs cs its) : ts.map tkK = its.map fun t => tkK t.tok := by
  refine keys_eq _ _ (fun x hx => by obtain ⟨t, _, rfl⟩ := List.mem_map.1 hx; exact tkK_len _) (fun x hx => by obtain ⟨t, _, rfl⟩ := List.mem_map.1 hx; exact tkK_len _) h.rise k.rise fun x => ?_
  rw [k.mem x]
  constructor
  · intro hx
    obtain ⟨t, ht, rfl⟩ := List.mem_map.1 hx
    obtain ⟨r, hr, e⟩ := h.mem t ht
    exact ⟨r, hr, by rw [e]; rfl⟩
  · rintro ⟨r, hr, rfl⟩
    obtain ⟨t, ht, e⟩ := (inB_iff _ _).1 (h.all r hr)
    exact List.mem_map.2 ⟨t, ht, e⟩

theorem tokL_rg {w : World} {b off : Nat} {r : Rw} (h : ∀ j, j < 130 → w.cell? ⟨b, off + j, none⟩ = some (rwC r j)) : w.rangeAt b (off + 37) (tokL (tokOf r)) := fun j v hv => by
  unfold tokL at hv
  have hj : j < 16 := by
    have := (List.getElem?_eq_some_iff.1 hv).1
    simpa using this
  rw [List.getElem?_map, List.getElem?_range hj] at hv
  obtain rfl := Option.some.inj hv
  have h1 := h (37 + j) (by omega)
  have e : rwC r (37 + j) = hdC r.hd.1 (37 + j) := by
    unfold rwC
    rw [if_pos (by omega)]
  rw [e, ← Nat.add_assoc] at h1
  rw [h1]
  exact hdC_item r.hd.1 j hj
set_option maxRecDepth 100000 in
theorem zero_tokR (w : World) : (zeroValue 27).run Try.prog w = .ok (.agg (rowArr 16 fun _ => .int .u8 0)) w := by kernel_rfl
set_option maxRecDepth 100000 in
theorem build_tkR (w : World) (f : Nat → Int) : (Instr.buildSlice 28 1 #[(0, .agg (rowArr 16 fun j => .int .u8 (f j)))]).run Try.prog w = .ok (.slice (some ⟨w.heap.size, 0, none⟩) 1 1) (w.alloc (.cells (rowArr 16 fun j => .int .u8 (f j)) 27)) := by
  kernel_rfl
theorem wp_build_tkR {ops : Array Oper} {Q : Exit → Act → World → Prop} {rest : List Oper} {o : Oper} {a : Act} {w : World} (hw : Region.wanted o (yielded ops a.tmps) = true) (x : Operand) (ho : o.op = .buildSlice 28 1 #[(0, x)])
    (f : Nat → Int) (F : Array Value) (hF : (rowArr 16 fun j => Value.int .u8 (f j)) = F) (hx : a.eval x = .agg F) (h : wpList Try.prog ops Q rest (a.put o.dst (.slice (some ⟨w.heap.size, 0, none⟩) 1 1)) (w.alloc (.cells F 27))) : wpList Try.prog ops Q (o :: rest) a w := by
  subst hF
  refine wpList_want hw fun K hK => ?_
  unfold Oper.wp execOp
  simp only [ho, List.map_toArray, List.map_cons, List.map_nil, hx, Sem.run_bind, build_tkR, Result.andThen_ok, Sem.run_pure]
  exact hK _ _ h

/-- What Tokens answers. -/
def TokensSays (w : World) (cs : List Rw) (e : Ending) (w' : World) : Prop := ∃ (v : Value) (ts : List (Nat → Int)), e = .returned v ∧ Ext w w' ∧ w'.ownsRow w.heap.size 27 16 v ts.length (tkC ts) ∧ TkIs cs ts
set_option maxHeartbeats 4000000 in
set_option maxRecDepth 100000 in
theorem refTokens_any (a : Option Addr) (n c : Nat) (cs : List Rw) (w : World) (h : RwsAt w a n c cs) (hs : n ≤ 100000) :
    Calls Try.prog 25 #[.slice a n c] w (TokensSays w cs) := by
  have hcap := h.cap
  have hlim := h.lim
  have H := Lib.hid h
  have HLen := Lib.hid h.len
  obtain ⟨S, hS⟩ : ∃ S, w.heap.size = S := ⟨_, rfl⟩
  have HS := Lib.hid hS
  clear h hS
  go_enter Try.func25, Try.ntmps25
  go_wp2_with fail
  go_loopw [3, 4] (fun o i y => ∃ (k N : Nat) (oa : Option Addr) (oc : Nat) (ts : List (Nat → Int)), k ≤ n ∧ i = .int .i64 (k : Int) ∧ o = .slice oa N oc ∧ Ext w y ∧ y.ownsRow S 27 16 (.slice oa N oc) N (tkC ts) ∧ TkS cs k ts) (fun _ i _ => n - (intOf i).toNat)
  case atStart => exact ⟨0, 0, none, 0, [], by omega, rfl, rfl, Ext.refl w, World.ownsRow_nil _ _ _ _, TkS.start cs⟩
  case round =>
    obtain ⟨k, N, oa, oc, ts, hk, rfl, rfl, hE, hown, hT⟩ := hrel
    rename World => y
    have hNl : ts.length = N := by
      have h1 := hown.1
      rw [tkC_length] at h1
      omega
    have HN := Lib.hid (show ts.length = N ∧ N ≤ k from ⟨hNl, by rw [← hNl]; exact hT.len⟩)
    have HE := Lib.hid hE
    have HO := Lib.hid hown
    have HT := Lib.hid hT
    clear hE hown hT hNl
    by_cases hlt : k < n
    · have x1 : (k : Int) < (n : Int) := by omega
      obtain ⟨b, off, rfl, hcell⟩ := (H.out.ext HE.out).at_ (by omega)
      have HCell := Lib.hid hcell
      have hbt : ∀ t ∈ ts, ∀ j, j < 16 → 0 ≤ t j ∧ t j < 256 := fun t ht => by
        obtain ⟨r, hr, rfl⟩ := HT.out.mem t ht
        exact (H.out.each r hr).hd.ok.item
      have HTs := Lib.hid (own_ts1 HO.out hbt (by have := HN.out; omega))
      clear hcell hbt
      go_upto_region 6 with (fail)
      go_wp2_with fail
      go_loopw [5, 6] (fun z i y' => ∃ (j : Nat) (q : Int), j ≤ n ∧ i = .int .i64 (j : Int) ∧ z = .int .i64 q ∧ BestIs cs ts j q ∧ Ext y y') (fun _ i _ => n - (intOf i).toNat)
      case atStart => exact ⟨0, -1, by omega, rfl, rfl, BestIs.start cs ts, Ext.refl y⟩
      case round =>
        obtain ⟨j, q, hj, rfl, rfl, hB, hE2⟩ := hrel
        rename World => z
        have HE2 := Lib.hid hE2
        have HB := Lib.hid hB
        clear hE2 hB
        by_cases hjn : j < n
        · have x2 : (j : Int) < (n : Int) := by omega
          have HC := Lib.hid (show ∀ i, i < n → ∀ u, Ext z u → u.rangeAt b (off + i * 130 + 37) (tokL (tokAt cs i)) from fun i hi u hu => tokL_rg fun p hp => by
            have h1 := HCell.out i hi p hp
            have h2 := (HE2.out.trans hu).cell (World.block_lt_of_cell? _ _ h1)
            exact h2.trans h1)
          obtain ⟨t, ht⟩ : ∃ x, tokAt cs j = x := ⟨_, rfl⟩
          have HTj := Lib.hid ht
          have HRg := Lib.hid (show z.rangeAt b (off + j * 130 + 37) (tokL t) by rw [← ht]; exact HC.out j hjn z (Ext.refl z))
          obtain ⟨X, hX⟩ : ∃ x, (rowArr 16 fun j => Value.int .u8 (t j)) = x := ⟨_, rfl⟩
          have HX := Lib.hid hX
          obtain ⟨LI, hLI⟩ : ∃ q, tokL t = q := ⟨_, rfl⟩
          have HLa := Lib.hid (show LI.toArray = X ∧ LI.length = 16 by rw [← hLI, ← hX]; exact ⟨rfl, tokL_length _⟩)
          have HXs := Lib.hid (show X.size = 16 ∧ X.all (·.oneCell') = true by rw [← hX]; exact ⟨rowArr_size _ _, rowArr_one fun _ _ => rfl⟩)
          have hzt := zero_tokR
          obtain ⟨ZT, hZT⟩ : ∃ z, (rowArr 16 fun _ => Value.int .u8 0) = z := ⟨_, rfl⟩
          have HZs := Lib.hid (show ZT.size = 16 by rw [← hZT]; exact rowArr_size _ _)
          rw [hZT] at hzt
          rw [hLI] at HRg
          clear ht hX hLI hZT
          go_upto_region 10 with (first | (refine wp_ridx rfl (.tmp 20) (.tmp 21) rfl b off n c j rfl rfl hjn ?_) | (refine wpList_load_mid rfl 27 (.tmp 24) rfl b _ rfl LI _ HRg.out Try.underlying27 rfl (by rw [HLa.out.2]; kernel_rfl) ?_; rw [HLa.out.1]; simp only [Act.put, List.setIfInBounds_toArray, List.set_cons_zero, List.set_cons_succ]) | (refine wpList_store_row rfl 27 _ _ rfl z.heap.size _ rfl rfl _ _ (heap_new z _ _ rfl) (by rw [HXs.out.1]; kernel_rfl) (by rw [HXs.out.1, HZs.out]) HXs.out.2 ?_; rw [setRow_new z _ _ _ _ rfl]))
          obtain ⟨z1, hz1⟩ : ∃ u, z.alloc (.cells X 27) = u := ⟨_, rfl⟩
          obtain ⟨g, hg⟩ : ∃ u, z.heap.size = u := ⟨_, rfl⟩
          have HE3 := Lib.hid (show Ext z z1 by rw [← hz1]; exact (Ext.refl z).alloc _)
          have HBx := Lib.hid (show z1.heap[g]? = some (.cells X 27 (0, 0)) by rw [← hz1]; exact heap_new z _ _ hg.symm)
          rw [hg]
          refine wp_world (w' := z1) hz1 ?_
          clear hz1 hg hzt
          have HY := Lib.hid (show ∀ u, Ext z1.drew u → Ext z1 u from fun u hu => Ext.trans (Ext.refl z1).drew hu)
          have HIn := Lib.hid (show ∀ u, Ext z1 u → Calls Try.prog 48 #[.slice oa N oc, .agg X] u fun e w' => e = .returned (.bool (inB ts t)) ∧ Ext u w' from fun u hu => by
            have h1 := refIn_any oa N oc ts t u (HTs.out.ext (HE2.out.trans (HE3.out.trans hu)))
            rw [HX.out] at h1
            exact h1)
          obtain ⟨I, hI⟩ : ∃ u, inB ts t = u := ⟨_, rfl⟩
          have HI := Lib.hid hI
          rw [hI] at HIn
          clear hI
          cases I with
          | true =>
            refine wp_region_lexA (by kernel_rfl) (by kernel_rfl) ?_
            refine lx_e (.slice oa N oc) [] (by kernel_rfl) rfl (by rfl) (fun w1 hw1 => ?_) ?_
            · simp only [pk, lexVals]
              go_simp
              exact ⟨Ext.refl _, rfl⟩
            refine lx_e (.agg X) [] (by kernel_rfl) rfl (by rfl) (fun w1 hw1 => ?_) ?_
            · simp only [pk, lexVals]
              exact lu_row rfl rfl ((HY.out w1 hw1).keep HBx.out) Try.underlying27 rfl (by rw [HXs.out.1]; kernel_rfl)
            refine lx_e (.bool true) [(1, 26), (0, 27)] (by kernel_rfl) rfl (by rfl) (fun w1 hw1 => ?_) ?_
            · simp only [pk, nthSp, lexVals]
              have HM := Lib.hid (HIn.out w1 (HY.out w1 hw1))
              clear hw1
              go_simp
              refine HM.out.mono ?_
              rintro e w2 ⟨rfl, hE2⟩
              exact ⟨_, rfl, hE2, rfl⟩
            refine lx_e (.bool false) [(0, 28)] (by kernel_rfl) rfl (by rfl) (fun w1 hw1 => ?_) ?_
            · simp only [pk, nthSp, lexVals]
              clear hw1
              go_simp
              exact ⟨Ext.refl _, by first | rfl | simp | (simp; omega)⟩
            refine lx_e (.bool false) [(0, 29)] (by kernel_rfl) rfl (by rfl) (fun w1 hw1 => ?_) ?_
            · simp only [pk, nthSp, lexVals]
              go_simp
              exact ⟨Ext.refl _, rfl⟩
            refine lx_no [(0, 30)] 30 (by kernel_rfl) rfl (by kernel_rfl) (by rfl) (fun w1 => ?_) ?_
            · simp only [pk, nthSp, lexVals]
              first | (go_simp; done) | (go_simp; exact fun h => by cases h)
            refine lx_no [(0, 31), (1, 30)] 30 (by kernel_rfl) rfl (by kernel_rfl) (by rfl) (fun w1 => ?_) ?_
            · simp only [pk, nthSp, lexVals]
              first | (go_simp; done) | (go_simp; exact fun h => by cases h)
            refine lx_no [(0, 32), (2, 30)] 30 (by kernel_rfl) rfl (by kernel_rfl) (by rfl) (fun w1 => ?_) ?_
            · simp only [pk, nthSp, lexVals]
              first | (go_simp; done) | (go_simp; exact fun h => by cases h)
            refine lx_no [(0, 33)] 33 (by kernel_rfl) rfl (by kernel_rfl) (by rfl) (fun w1 => ?_) ?_
            · simp only [pk, nthSp, lexVals]
              first | (go_simp; done) | (go_simp; exact fun h => by cases h)
            refine lx_no [(1, 33)] 33 (by kernel_rfl) rfl (by kernel_rfl) (by rfl) (fun w1 => ?_) ?_
            · simp only [pk, nthSp, lexVals]
              first | (go_simp; done) | (go_simp; exact fun h => by cases h)
            refine lx_no [(2, 33)] 33 (by kernel_rfl) rfl (by kernel_rfl) (by rfl) (fun w1 => ?_) ?_
            · simp only [pk, nthSp, lexVals]
              first | (go_simp; done) | (go_simp; exact fun h => by cases h)
            refine lx_no [(1, 35), (0, 36), (3, 33)] 33 (by kernel_rfl) rfl (by kernel_rfl) (by rfl) (fun w1 => ?_) ?_
            · simp only [pk, nthSp, lexVals]
              first | (go_simp; done) | (go_simp; exact fun h => by cases h)
            refine lx_no [(0, 37), (4, 33)] 33 (by kernel_rfl) rfl (by kernel_rfl) (by rfl) (fun w1 => ?_) ?_
            · simp only [pk, nthSp, lexVals]
              first | (go_simp; done) | (go_simp; exact fun h => by cases h)
            refine lx_no [(0, 38), (5, 33)] 33 (by kernel_rfl) rfl (by kernel_rfl) (by rfl) (fun w1 => ?_) ?_
            · simp only [pk, nthSp, lexVals]
              first | (go_simp; done) | (go_simp; exact fun h => by cases h)
            refine lx_no [(0, 39), (6, 33)] 33 (by kernel_rfl) rfl (by kernel_rfl) (by rfl) (fun w1 => ?_) ?_
            · simp only [pk, nthSp, lexVals]
              first | (go_simp; done) | (go_simp; exact fun h => by cases h)
            refine lx_no [(6, 34), (0, 40), (7, 33)] 33 (by kernel_rfl) rfl (by kernel_rfl) (by rfl) (fun w1 => ?_) ?_
            · simp only [pk, nthSp, lexVals]
              first | (go_simp; done) | (go_simp; exact fun h => by cases h)
            refine lx_no [(8, 33), (0, 41), (11, 30)] 30 (by kernel_rfl) rfl (by kernel_rfl) (by rfl) (fun w1 => ?_) ?_
            · simp only [pk, nthSp, lexVals]
              first | (go_simp; done) | (go_simp; exact fun h => by cases h)
            refine lx_e (.bool false) [(12, 30), (0, 42)] (by kernel_rfl) rfl (by rfl) (fun w1 hw1 => ?_) ?_
            · simp only [pk, nthSp, lexVals]
              go_simp
              exact ⟨Ext.refl _, rfl⟩
            refine lx_stopA (by rfl) fun z3 hz3 => ?_
            have HE4 := Lib.hid (HE2.out.trans (HE3.out.trans (HY.out z3 hz3)))
            clear hz3
            simp only [rv, pf, lexVals]
            simp only [Act.put, List.setIfInBounds_toArray, List.set_cons_zero, List.set_cons_succ]
            go_wp2
            go_roundw
            case rel => exact ⟨j + 1, q, by omega, by go_num, rfl, HB.out.skip (by rw [HTj.out, HI.out]), HE4.out⟩
            case measure => simp [intOf]; omega
          | false =>
            have hq : q = -1 ∨ ∃ m : Nat, q = (m : Int) ∧ m < n := by
              rcases HB.out with ⟨h1, _⟩ | ⟨m, h1, h2, _⟩
              · exact .inl h1
              · exact .inr ⟨m, h1, by omega⟩
            rcases hq with rfl | ⟨m, rfl, hmn⟩
            · have hneg : (-1 : Int) < 0 := by omega
              refine wp_region_lexA (by kernel_rfl) (by kernel_rfl) ?_
              refine lx_e (.slice oa N oc) [] (by kernel_rfl) rfl (by rfl) (fun w1 hw1 => ?_) ?_
              · simp only [pk, lexVals]
                go_simp
                exact ⟨Ext.refl _, rfl⟩
              refine lx_e (.agg X) [] (by kernel_rfl) rfl (by rfl) (fun w1 hw1 => ?_) ?_
              · simp only [pk, lexVals]
                exact lu_row rfl rfl ((HY.out w1 hw1).keep HBx.out) Try.underlying27 rfl (by rw [HXs.out.1]; kernel_rfl)
              refine lx_e (.bool false) [(1, 26), (0, 27)] (by kernel_rfl) rfl (by rfl) (fun w1 hw1 => ?_) ?_
              · simp only [pk, nthSp, lexVals]
                have HM := Lib.hid (HIn.out w1 (HY.out w1 hw1))
                clear hw1
                go_simp
                refine HM.out.mono ?_
                rintro e w2 ⟨rfl, hE2⟩
                exact ⟨_, rfl, hE2, rfl⟩
              refine lx_e (.bool true) [(0, 28)] (by kernel_rfl) rfl (by rfl) (fun w1 hw1 => ?_) ?_
              · simp only [pk, nthSp, lexVals]
                clear hw1
                go_simp
                exact ⟨Ext.refl _, by first | rfl | simp | (simp; omega)⟩
              refine lx_e (.bool true) [(0, 29)] (by kernel_rfl) rfl (by rfl) (fun w1 hw1 => ?_) ?_
              · simp only [pk, nthSp, lexVals]
                go_simp
                exact ⟨Ext.refl _, rfl⟩
              refine lx_ge (.int .i64 (-1)) [(0, 30)] 30 (by kernel_rfl) rfl (by kernel_rfl) (by rfl) (fun w1 => ?_) (fun w1 hw1 => ?_) ?_
              · simp only [pk, nthSp, lexVals]
                rfl
              · simp only [pk, nthSp, lexVals]
                go_simp
                exact ⟨Ext.refl _, rfl⟩
              refine lx_ge (.bool true) [(0, 31), (1, 30)] 30 (by kernel_rfl) rfl (by kernel_rfl) (by rfl) (fun w1 => ?_) (fun w1 hw1 => ?_) ?_
              · simp only [pk, nthSp, lexVals]
                rfl
              · simp only [pk, nthSp, lexVals]
                clear hw1
                go_simp
                exact ⟨Ext.refl _, by first | rfl | simp | (simp; omega)⟩
              refine lx_ge (.bool true) [(0, 32), (2, 30)] 30 (by kernel_rfl) rfl (by kernel_rfl) (by rfl) (fun w1 => ?_) (fun w1 hw1 => ?_) ?_
              · simp only [pk, nthSp, lexVals]
                rfl
              · simp only [pk, nthSp, lexVals]
                go_simp
                exact ⟨Ext.refl _, rfl⟩
              refine lx_no [(0, 33)] 33 (by kernel_rfl) rfl (by kernel_rfl) (by rfl) (fun w1 => ?_) ?_
              · simp only [pk, nthSp, lexVals]
                first | (go_simp; done) | (go_simp; exact fun h => by cases h)
              refine lx_no [(1, 33)] 33 (by kernel_rfl) rfl (by kernel_rfl) (by rfl) (fun w1 => ?_) ?_
              · simp only [pk, nthSp, lexVals]
                first | (go_simp; done) | (go_simp; exact fun h => by cases h)
              refine lx_no [(2, 33)] 33 (by kernel_rfl) rfl (by kernel_rfl) (by rfl) (fun w1 => ?_) ?_
              · simp only [pk, nthSp, lexVals]
                first | (go_simp; done) | (go_simp; exact fun h => by cases h)
              refine lx_no [(1, 35), (0, 36), (3, 33)] 33 (by kernel_rfl) rfl (by kernel_rfl) (by rfl) (fun w1 => ?_) ?_
              · simp only [pk, nthSp, lexVals]
                first | (go_simp; done) | (go_simp; exact fun h => by cases h)
              refine lx_no [(0, 37), (4, 33)] 33 (by kernel_rfl) rfl (by kernel_rfl) (by rfl) (fun w1 => ?_) ?_
              · simp only [pk, nthSp, lexVals]
                first | (go_simp; done) | (go_simp; exact fun h => by cases h)
              refine lx_no [(0, 38), (5, 33)] 33 (by kernel_rfl) rfl (by kernel_rfl) (by rfl) (fun w1 => ?_) ?_
              · simp only [pk, nthSp, lexVals]
                first | (go_simp; done) | (go_simp; exact fun h => by cases h)
              refine lx_no [(0, 39), (6, 33)] 33 (by kernel_rfl) rfl (by kernel_rfl) (by rfl) (fun w1 => ?_) ?_
              · simp only [pk, nthSp, lexVals]
                first | (go_simp; done) | (go_simp; exact fun h => by cases h)
              refine lx_no [(6, 34), (0, 40), (7, 33)] 33 (by kernel_rfl) rfl (by kernel_rfl) (by rfl) (fun w1 => ?_) ?_
              · simp only [pk, nthSp, lexVals]
                first | (go_simp; done) | (go_simp; exact fun h => by cases h)
              refine lx_ge (.bool true) [(8, 33), (0, 41), (11, 30)] 30 (by kernel_rfl) rfl (by kernel_rfl) (by rfl) (fun w1 => ?_) (fun w1 hw1 => ?_) ?_
              · simp only [pk, nthSp, lexVals]
                rfl
              · simp only [pk, nthSp, lexVals]
                go_simp
                exact ⟨Ext.refl _, rfl⟩
              refine lx_e (.bool true) [(12, 30), (0, 42)] (by kernel_rfl) rfl (by rfl) (fun w1 hw1 => ?_) ?_
              · simp only [pk, nthSp, lexVals]
                go_simp
                exact ⟨Ext.refl _, rfl⟩
              refine lx_stopA (by rfl) fun z3 hz3 => ?_
              have HE4 := Lib.hid (HE2.out.trans (HE3.out.trans (HY.out z3 hz3)))
              clear hz3
              simp only [rv, pf, lexVals]
              simp only [Act.put, List.setIfInBounds_toArray, List.set_cons_zero, List.set_cons_succ]
              go_wp2
              go_roundw
              case rel => exact ⟨j + 1, (j : Int), by omega, by go_num, rfl, HB.out.first (by rw [HTj.out, HI.out]), HE4.out⟩
              case measure => simp [intOf]; omega
            · have hneg : ¬ (m : Int) < 0 := by omega
              obtain ⟨u, hu⟩ : ∃ x, tokAt cs m = x := ⟨_, rfl⟩
              have HTm := Lib.hid hu
              have hrm : ∀ v, Ext z1 v → v.rangeAt b (off + m * 130 + 37) (tokL u) := fun v hv => by
                rw [← hu]
                exact HC.out m hmn v (HE3.out.trans hv)
              obtain ⟨M, hM⟩ : ∃ x, (rowArr 16 fun j => Value.int .u8 (u j)) = x := ⟨_, rfl⟩
              obtain ⟨LM, hLM⟩ : ∃ q, tokL u = q := ⟨_, rfl⟩
              have HLm := Lib.hid (show LM.toArray = M ∧ LM.length = 16 by rw [← hLM, ← hM]; exact ⟨rfl, tokL_length _⟩)
              rw [hLM] at hrm
              have HRm := Lib.hid hrm
              have hls := fun v => refLess_any t u v
              rw [HX.out, hM] at hls
              obtain ⟨LB, hLB⟩ : ∃ q, decide (cmpTok t u < 0) = q := ⟨_, rfl⟩
              rw [hLB] at hls
              have HLs := Lib.hid hls
              have HLB := Lib.hid hLB
              clear hu hrm hM hLM hls hLB
              refine wp_region_lexA (by kernel_rfl) (by kernel_rfl) ?_
              refine lx_e (.slice oa N oc) [] (by kernel_rfl) rfl (by rfl) (fun w1 hw1 => ?_) ?_
              · simp only [pk, lexVals]
                go_simp
                exact ⟨Ext.refl _, rfl⟩
              refine lx_e (.agg X) [] (by kernel_rfl) rfl (by rfl) (fun w1 hw1 => ?_) ?_
              · simp only [pk, lexVals]
                exact lu_row rfl rfl ((HY.out w1 hw1).keep HBx.out) Try.underlying27 rfl (by rw [HXs.out.1]; kernel_rfl)
              refine lx_e (.bool false) [(1, 26), (0, 27)] (by kernel_rfl) rfl (by rfl) (fun w1 hw1 => ?_) ?_
              · simp only [pk, nthSp, lexVals]
                have HM := Lib.hid (HIn.out w1 (HY.out w1 hw1))
                clear hw1
                go_simp
                refine HM.out.mono ?_
                rintro e w2 ⟨rfl, hE2⟩
                exact ⟨_, rfl, hE2, rfl⟩
              refine lx_e (.bool true) [(0, 28)] (by kernel_rfl) rfl (by rfl) (fun w1 hw1 => ?_) ?_
              · simp only [pk, nthSp, lexVals]
                clear hw1
                go_simp
                exact ⟨Ext.refl _, by first | rfl | simp | (simp; omega)⟩
              refine lx_e (.bool true) [(0, 29)] (by kernel_rfl) rfl (by rfl) (fun w1 hw1 => ?_) ?_
              · simp only [pk, nthSp, lexVals]
                go_simp
                exact ⟨Ext.refl _, rfl⟩
              refine lx_ge (.int .i64 (m : Int)) [(0, 30)] 30 (by kernel_rfl) rfl (by kernel_rfl) (by rfl) (fun w1 => ?_) (fun w1 hw1 => ?_) ?_
              · simp only [pk, nthSp, lexVals]
                rfl
              · simp only [pk, nthSp, lexVals]
                go_simp
                exact ⟨Ext.refl _, rfl⟩
              refine lx_ge (.bool false) [(0, 31), (1, 30)] 30 (by kernel_rfl) rfl (by kernel_rfl) (by rfl) (fun w1 => ?_) (fun w1 hw1 => ?_) ?_
              · simp only [pk, nthSp, lexVals]
                rfl
              · simp only [pk, nthSp, lexVals]
                clear hw1
                go_simp
                exact ⟨Ext.refl _, by first | rfl | simp | (simp; omega)⟩
              refine lx_ge (.bool false) [(0, 32), (2, 30)] 30 (by kernel_rfl) rfl (by kernel_rfl) (by rfl) (fun w1 => ?_) (fun w1 hw1 => ?_) ?_
              · simp only [pk, nthSp, lexVals]
                rfl
              · simp only [pk, nthSp, lexVals]
                go_simp
                exact ⟨Ext.refl _, rfl⟩
              refine lx_ge (.agg X) [(0, 33)] 33 (by kernel_rfl) rfl (by kernel_rfl) (by rfl) (fun w1 => ?_) (fun w1 hw1 => ?_) ?_
              · simp only [pk, nthSp, lexVals]
                rfl
              · simp only [pk, nthSp, lexVals]
                exact lu_row rfl rfl ((HY.out w1 hw1).keep HBx.out) Try.underlying27 rfl (by rw [HXs.out.1]; kernel_rfl)
              refine lx_ge (.slice (some ⟨b, off, none⟩) n c) [(1, 33)] 33 (by kernel_rfl) rfl (by kernel_rfl) (by rfl) (fun w1 => ?_) (fun w1 hw1 => ?_) ?_
              · simp only [pk, nthSp, lexVals]
                rfl
              · simp only [pk, nthSp, lexVals]
                go_simp
                exact ⟨Ext.refl _, rfl⟩
              refine lx_ge (.int .i64 (m : Int)) [(2, 33)] 33 (by kernel_rfl) rfl (by kernel_rfl) (by rfl) (fun w1 => ?_) (fun w1 hw1 => ?_) ?_
              · simp only [pk, nthSp, lexVals]
                rfl
              · simp only [pk, nthSp, lexVals]
                go_simp
                exact ⟨Ext.refl _, rfl⟩
              refine lx_ge (.pointer (some ⟨b, off + m * 130, none⟩)) [(1, 35), (0, 36), (3, 33)] 33 (by kernel_rfl) rfl (by kernel_rfl) (by rfl) (fun w1 => ?_) (fun w1 hw1 => ?_) ?_
              · simp only [pk, nthSp, lexVals]
                rfl
              · simp only [pk, nthSp, lexVals]
                exact lu_ridx rfl rfl rfl hmn
              refine lx_ge (.pointer (some ⟨b, off + m * 130, none⟩)) [(0, 37), (4, 33)] 33 (by kernel_rfl) rfl (by kernel_rfl) (by rfl) (fun w1 => ?_) (fun w1 hw1 => ?_) ?_
              · simp only [pk, nthSp, lexVals]
                rfl
              · simp only [pk, nthSp, lexVals]
                go_simp
                exact ⟨Ext.refl _, rfl⟩
              refine lx_ge (.pointer (some ⟨b, off + m * 130 + 37, none⟩)) [(0, 38), (5, 33)] 33 (by kernel_rfl) rfl (by kernel_rfl) (by rfl) (fun w1 => ?_) (fun w1 hw1 => ?_) ?_
              · simp only [pk, nthSp, lexVals]
                rfl
              · simp only [pk, nthSp, lexVals]
                go_simp
                exact ⟨Ext.refl _, rfl⟩
              refine lx_ge (.agg M) [(0, 39), (6, 33)] 33 (by kernel_rfl) rfl (by kernel_rfl) (by rfl) (fun w1 => ?_) (fun w1 hw1 => ?_) ?_
              · simp only [pk, nthSp, lexVals]
                rfl
              · simp only [pk, nthSp, lexVals]
                exact lu_mid rfl rfl LM (HRm.out w1 (HY.out w1 hw1)) Try.underlying27 rfl (by rw [HLm.out.2]; kernel_rfl) M HLm.out.1
              refine lx_ge (.bool LB) [(6, 34), (0, 40), (7, 33)] 33 (by kernel_rfl) rfl (by kernel_rfl) (by rfl) (fun w1 => ?_) (fun w1 hw1 => ?_) ?_
              · simp only [pk, nthSp, lexVals]
                rfl
              · simp only [pk, nthSp, lexVals]
                have HM := Lib.hid (HLs.out w1)
                clear hw1
                go_simp
                refine HM.out.mono ?_
                rintro e w2 ⟨rfl, hE2⟩
                exact ⟨_, rfl, hE2, rfl⟩
              refine lx_ge (.bool LB) [(8, 33), (0, 41), (11, 30)] 30 (by kernel_rfl) rfl (by kernel_rfl) (by rfl) (fun w1 => ?_) (fun w1 hw1 => ?_) ?_
              · simp only [pk, nthSp, lexVals]
                rfl
              · simp only [pk, nthSp, lexVals]
                go_simp
                exact ⟨Ext.refl _, rfl⟩
              refine lx_e (.bool LB) [(12, 30), (0, 42)] (by kernel_rfl) rfl (by rfl) (fun w1 hw1 => ?_) ?_
              · simp only [pk, nthSp, lexVals]
                go_simp
                exact ⟨Ext.refl _, rfl⟩
              refine lx_stopA (by rfl) fun z3 hz3 => ?_
              have HE4 := Lib.hid (HE2.out.trans (HE3.out.trans (HY.out z3 hz3)))
              clear hz3
              simp only [rv, pf, lexVals]
              simp only [Act.put, List.setIfInBounds_toArray, List.set_cons_zero, List.set_cons_succ]
              cases LB with
              | true =>
                go_wp2
                go_roundw
                case rel => exact ⟨j + 1, (j : Int), by omega, by go_num, rfl, HB.out.less (by rw [HTj.out, HI.out]) (by rw [HTj.out, HTm.out]; exact of_decide_eq_true HLB.out), HE4.out⟩
                case measure => simp [intOf]; omega
              | false =>
                go_wp2
                go_roundw
                case rel => exact ⟨j + 1, (m : Int), by omega, by go_num, rfl, HB.out.keep (by rw [HTj.out, HTm.out]; exact of_decide_eq_false HLB.out), HE4.out⟩
                case measure => simp [intOf]; omega
        · obtain rfl : j = n := by omega
          have x2 : ¬ (j : Int) < (j : Int) := by omega
          have HBn := Lib.hid (show BestIs cs ts cs.length q by rw [HLen.out]; exact HB.out)
          have hq : q = -1 ∨ ∃ m : Nat, q = (m : Int) ∧ m < j := by
            rcases HB.out with ⟨h1, _⟩ | ⟨m, h1, h2, _⟩
            · exact .inl h1
            · exact .inr ⟨m, h1, by omega⟩
          rcases hq with rfl | ⟨m, rfl, hmn⟩
          · have x3 : ¬ (0 : Int) ≤ -1 := by omega
            go_wp2
            go_roundw
            case rel => exact ⟨k + 1, N, oa, oc, ts, by omega, by go_num, rfl, HE.out.trans HE2.out, own_extM HO.out HE2.out, HT.out.none HBn.out⟩
            case measure => simp [intOf]; omega
          · have x3 : (0 : Int) ≤ (m : Int) := by omega
            obtain ⟨t, ht⟩ : ∃ x, tokAt cs m = x := ⟨_, rfl⟩
            have HTj := Lib.hid ht
            have HRg := Lib.hid (show z.rangeAt b (off + m * 130 + 37) (tokL t) by
              rw [← ht]
              exact tokL_rg fun p hp => by
                have h1 := HCell.out m hmn p hp
                exact (HE2.out.cell (World.block_lt_of_cell? _ _ h1)).trans h1)
            obtain ⟨X, hX⟩ : ∃ x, (rowArr 16 fun j => Value.int .u8 (t j)) = x := ⟨_, rfl⟩
            have HX := Lib.hid hX
            obtain ⟨LI, hLI⟩ : ∃ q, tokL t = q := ⟨_, rfl⟩
            have HLa := Lib.hid (show LI.toArray = X ∧ LI.length = 16 by rw [← hLI, ← hX]; exact ⟨rfl, tokL_length _⟩)
            rw [hLI] at HRg
            clear ht hX hLI
            have HO2 := Lib.hid (own_extM HO.out HE2.out)
            have HSz := Lib.hid (show S ≤ z.heap.size by rw [← HS.out]; exact Below.size (HE.out.trans HE2.out))
            have HNs := Lib.hid (show N ≤ 1000000 by have := HN.out; omega)
            go_upto_region 13 with (fail)
            go_upto_region 4 with (first | (refine wp_ridx rfl (.tmp 48) (.tmp 49) rfl b off j c m rfl rfl hmn ?_) | (refine wpList_load_mid rfl 27 (.tmp 52) rfl b _ rfl LI _ HRg.out Try.underlying27 rfl (by rw [HLa.out.2]; kernel_rfl) ?_; rw [HLa.out.1]; simp only [Act.put, List.setIfInBounds_toArray, List.set_cons_zero, List.set_cons_succ]; refine wp_build_tkR rfl (.tmp 53) rfl t X HX.out rfl ?_; simp only [Act.put, List.setIfInBounds_toArray, List.set_cons_zero, List.set_cons_succ]; refine append_tk rfl (.tmp 47) (.tmp 54) rfl S _ N ts rfl (own_extM HO2.out ((Ext.refl z).alloc _)) z.heap.size 1 t rfl (fun p hp => row_cell (show (z.alloc (.cells X 27)).heap[z.heap.size]? = some (.cells (rowArr 16 fun j => Value.int .u8 (t j)) 27 (0, 0)) by rw [HX.out]; exact heap_new z _ _ rfl) p hp) HNs.out (Nat.le_trans HSz.out (by simp)) ?_; intro v5 y5 ho5 hg5; have HO5 := Lib.hid ho5; have HG5 := Lib.hid hg5; clear ho5 hg5; simp only [Act.put, List.setIfInBounds_toArray, List.set_cons_zero, List.set_cons_succ]))
            have HE5 := Lib.hid (show Ext w y5 from by
              have h1 : Ext w (z.alloc (.cells X 27)) := (HE.out.trans HE2.out).trans ((Ext.refl z).alloc _)
              have h2 : Below S (z.alloc (.cells X 27)) y5 := (Below.refl S _).grown HG5.out (Nat.le_trans HSz.out (by simp)) (fun b hb => (HO2.out.lt b hb).1)
              rw [← HS.out] at h2
              exact Below.trans h1 h2)
            obtain ⟨oa5, oc5, hv5⟩ : ∃ p d, v5 = .slice p (N + 1) d := by
              rcases HO5.out.2 with ⟨h1, h2⟩ | ⟨g', cap', cur', h1, _⟩
              · omega
              · exact ⟨_, _, h1⟩
            subst hv5
            go_wp2
            go_roundw
            case rel => exact ⟨k + 1, N + 1, oa5, oc5, ts ++ [t], by omega, by go_num, rfl, HE5.out, HO5.out, by rw [← HTj.out]; exact (HT.out.push HBn.out).1⟩
            case measure => simp [intOf]; omega
    · obtain rfl : k = n := by omega
      have x1 : ¬ (k : Int) < (k : Int) := by omega
      go_wp2
      go_ret
      exact ⟨_, ts, rfl, HE.out, by rw [HS.out, HN.out.1]; exact HO.out, TkS.fin (by rw [HLen.out]; exact HT.out)⟩

end Go.Proofs.Ytldaligeckjhaaa
