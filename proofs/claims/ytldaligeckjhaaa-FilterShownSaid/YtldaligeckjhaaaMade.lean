/-
  The walk of slices.Clone at tokens. No conditions but the length.
  An item by value: 146 cells; the walk of slices.Clone of strings. No conditions but the length.
  The walk of item.made. No conditions but the length.
-/
import Derived.Test.YtldaligeckjhaaaTkO
import Derived.Test.YtldaligeckjhaaaRwA
import Derived.Test.YtldaligeckjhaaaRwT
import Derived.Test.YtldaligeckjhaaaLexP
namespace Go.Proofs.Ytldaligeckjhaaa
open Go.ChangeAt Go.ChangeShapes Go.RowKit Go.WideShapes

theorem tkC_one : ∀ (ts : List (Nat → Int)), ∀ v ∈ tkC ts, v.oneCell' = true := by
  intro ts
  induction ts with
  | nil => intro v hv; simp [tkC] at hv
  | cons t ts ih =>
    intro v hv
    rcases List.mem_append.1 (by simpa [tkC] using hv) with h | h
    · obtain ⟨j, _, rfl⟩ := List.mem_map.1 h
      rfl
    · exact ih v h
theorem tkC_cells {w : World} {b off n c : Nat} {ts : List (Nat → Int)} (h : TsAt w (some ⟨b, off, none⟩) n c ts) : ∀ j u, (tkC ts)[j]? = some u → w.cell? ((⟨b, off, none⟩ : Addr).add j) = some u := by
  intro j u hu
  have hl := h.len
  have hj : j < ts.length * 16 := by
    have := (List.getElem?_eq_some_iff.1 hu).1
    rwa [tkC_length] at this
  obtain ⟨b', off', ha, hc⟩ := h.at_ (by omega)
  simp only [Option.some.injEq, Addr.mk.injEq, and_true] at ha
  obtain ⟨rfl, rfl⟩ := ha
  have h1 := tkC_get ts (j / 16) (j % 16) (by omega) (by omega)
  rw [show j / 16 * 16 + j % 16 = j by omega, hu] at h1
  rw [Option.some.inj h1, addr_add, show off + j = off + j / 16 * 16 + j % 16 by omega]
  exact hc (j / 16) (by omega) (j % 16) (by omega)

set_option maxHeartbeats 1000000 in
set_option maxRecDepth 100000 in
theorem tsClone_any (a : Option Addr) (n c : Nat) (ts : List (Nat → Int)) (w : World) (h : TsAt w a n c ts) (hs : n ≤ 1000000) :
    Calls Try.prog 62 #[.slice a n c] w fun e w' => ∃ v, e = .returned v ∧ w'.ownsRow w.heap.size 27 16 v n (tkC ts) ∧ Ext w w' := by
  have hl := h.len
  have hcap := h.cap
  obtain ⟨i0, hi, hz0, hz1, hz2⟩ := info_parts info_tok
  have H := Lib.hid h
  clear h
  have q22 : ∀ (w : World) (a : Option Addr) (n c n' c' : Nat), (binOp .eql 28 (.slice a n c) (.slice none n' c')).run Try.prog w = .ok (.bool a.isNone) w := fun w a n c n' c' => Lib.run_eql_slice_nil w _ _ a n c n' c' Try.underlying28
  cases a with
  | none =>
    obtain rfl : c = 0 := H.out.nil_ rfl
    obtain rfl : n = 0 := by omega
    obtain rfl : ts = [] := List.eq_nil_of_length_eq_zero hl
    go_enter Try.func62, Try.ntmps62
    go_wp2
    go_ret
    exact ⟨_, rfl, World.ownsRow_nil _ _ _ _, Ext.refl _⟩
  | some ad =>
    have hcell : ∀ j u, (tkC ts)[j]? = some u → (w.alloc (.cells #[] 27)).cell? (ad.add j) = some u := by
      by_cases h0 : n = 0
      · subst h0
        obtain rfl : ts = [] := List.eq_nil_of_length_eq_zero hl
        intro j u hu
        simp [tkC] at hu
      · obtain ⟨b, off, ha, _⟩ := H.out.at_ (by omega)
        obtain rfl := Option.some.inj ha
        exact tkC_cells (H.out.ext ((Ext.refl w).alloc _))
    have Hcell := Lib.hid hcell
    clear hcell
    go_enter Try.func62, Try.ntmps62
    go_wp2_with (at_builtin; refine wpList_append_own _ rfl _ _ 28 rfl w.heap.size 27 i0 (.agg (rowArr 16 fun _ => .int .u8 0)) 16 16 Try.underlying28 hi hz0 hz1 hz2 (by kernel_rfl) (by decide) _ 0 [] rfl (World.ownsRow_made w #[] 0 (Nat.le_refl _) (by unfold maxLen; omega) rfl) ad n c (tkC ts) rfl ?c1 Hcell.out (tkC_one ts) ?c4 ?c5 ?c6 ?_)
    case c1 => rw [tkC_length, hl]
    case c4 => unfold maxLen; omega
    case c5 => omega
    case c6 => simp
    intro v' w1 hown hgrow _
    go_wp2
    go_ret
    refine ⟨v', rfl, ?_, ?_⟩
    · exact hown
    · exact ((Below.refl _ _).alloc (Nat.le_refl _) _).grown hgrow (by simp) (fun k hk => by simp [Value.ownBlock] at hk; omega)

/-- An item. -/
structure It where
  tok : Nat → Int
  hd : HT
  kn : Bool
  al : Bool
  name : ByteArray
  ta : Option Addr
  tc : Nat
  tags : List ByteArray
  val : ByteArray
/-- An item's cells. -/
def itC (t : It) (i : Nat) : Value :=
  if i < 16 then .int .u8 (t.tok i) else if i < 141 then hdC t.hd.1 (i - 16) else if i < 142 then .bool t.kn else if i < 143 then .bool t.al else if i < 144 then .string t.name
  else if i < 145 then .slice t.ta t.tags.length t.tc else .string t.val
def itV (t : It) : Array Value := rowArr 146 (itC t)
theorem itV_size (t : It) : (itV t).size = 146 := rowArr_size _ _
theorem itC_one (t : It) (i : Nat) : (itC t i).oneCell' = true := by
  unfold itC
  split
  · rfl
  · split
    · exact hdC_one _ _
    · repeat (split; rfl)
      rfl
theorem itV_one (t : It) : (itV t).all (·.oneCell') = true := rowArr_one fun i _ => itC_one t i
def itN : It := ⟨fun _ => 0, htN, false, false, ⟨#[]⟩, none, 0, [], ⟨#[]⟩⟩
set_option maxRecDepth 100000 in
theorem it_zero (w : World) : (zeroValue 41).run Try.prog w = .ok (.agg (itV itN)) w := by kernel_rfl
/-- An item that may stand in memory. -/
structure ItAt (w : World) (t : It) : Prop where
  hd : HtAt w t.hd
  tags : SrAt w t.ta t.tags.length t.tc t.tags
  name : t.name.size ≤ 140737488351232
  val : t.val.size ≤ 140737488351232
theorem ItAt.ext {w w' : World} {t : It} (h : ItAt w t) (he : Ext w w') : ItAt w' t := ⟨h.hd.ext he, h.tags.ext he, h.name, h.val⟩

/-- Strings' cells. -/
def srC (ss : List ByteArray) : List Value := ss.map .string
theorem srC_one (ss : List ByteArray) : ∀ u ∈ srC ss, u.oneCell' = true := fun u hu => by
  obtain ⟨s, _, rfl⟩ := List.mem_map.1 hu
  rfl
set_option maxRecDepth 100000 in
theorem info_str : (Try.prog.info? 9).map (fun i => (i.zero, i.size, i.bytes)) = some (some (.string ⟨#[]⟩), 1, 16) := by kernel_rfl
theorem srC_cells {w : World} {b off n c : Nat} {ss : List ByteArray} (h : SrAt w (some ⟨b, off, none⟩) n c ss) : ∀ j u, (srC ss)[j]? = some u → w.cell? ((⟨b, off, none⟩ : Addr).add j) = some u := fun j u hu => by
  unfold srC at hu
  rw [List.getElem?_map] at hu
  cases hs : ss[j]? with
  | none => rw [hs] at hu; cases hu
  | some s =>
    rw [hs] at hu
    obtain rfl := Option.some.inj hu
    have hj : j < n := by
      have := (List.getElem?_eq_some_iff.1 hs).1
      have := h.len
      omega
    obtain ⟨b', off', he, hc⟩ := h.at_ (by omega)
    have he := Option.some.inj he
    simp only [Addr.mk.injEq] at he
    obtain ⟨rfl, rfl, -⟩ := he
    rw [addr_add, hc j hj, List.getD_eq_getElem?_getD, hs]
    rfl
set_option maxHeartbeats 1000000 in
set_option maxRecDepth 100000 in
theorem srClone_any (a : Option Addr) (n c : Nat) (ss : List ByteArray) (w : World) (h : SrAt w a n c ss) (hs : n ≤ 1000000) :
    Calls Try.prog 63 #[.slice a n c] w fun e w' => ∃ v, e = .returned v ∧ w'.ownsRow w.heap.size 9 1 v n (srC ss) ∧ Ext w w' := by
  have hl := h.len
  have hcap := h.cap
  obtain ⟨i0, hi, hz0, hz1, hz2⟩ := info_parts info_str
  have H := Lib.hid h
  clear h
  have q22 : ∀ (w : World) (a : Option Addr) (n c n' c' : Nat), (binOp .eql 32 (.slice a n c) (.slice none n' c')).run Try.prog w = .ok (.bool a.isNone) w := fun w a n c n' c' => Lib.run_eql_slice_nil w _ _ a n c n' c' Try.underlying32
  cases a with
  | none =>
    have h0 : n = 0 := by
      rcases Nat.eq_zero_or_pos n with q | q
      · exact q
      · obtain ⟨b, off, ha, _⟩ := H.out.at_ q
        cases ha
    subst h0
    obtain rfl : ss = [] := List.eq_nil_of_length_eq_zero hl
    go_enter Try.func63, Try.ntmps63
    go_wp2
    go_ret
    exact ⟨_, rfl, World.ownsRow_nil _ _ _ _, Ext.refl _⟩
  | some ad =>
    have hcell : ∀ j u, (srC ss)[j]? = some u → (w.alloc (.cells #[] 9)).cell? (ad.add j) = some u := by
      by_cases h0 : n = 0
      · subst h0
        obtain rfl : ss = [] := List.eq_nil_of_length_eq_zero hl
        intro j u hu
        simp [srC] at hu
      · obtain ⟨b, off, ha, _⟩ := H.out.at_ (by omega)
        obtain rfl := Option.some.inj ha
        exact srC_cells (H.out.ext ((Ext.refl w).alloc _))
    have Hcell := Lib.hid hcell
    clear hcell
    go_enter Try.func63, Try.ntmps63
    go_wp2_with (at_builtin; refine wpList_append_own _ rfl _ _ 32 rfl w.heap.size 9 i0 (.string ⟨#[]⟩) 1 16 Try.underlying32 hi hz0 hz1 hz2 (by kernel_rfl) (by decide) _ 0 [] rfl (World.ownsRow_made w #[] 0 (Nat.le_refl _) (by unfold maxLen; omega) rfl) ad n c (srC ss) rfl ?c1 Hcell.out (srC_one ss) ?c4 ?c5 ?c6 ?_)
    case c1 => unfold srC; rw [List.length_map, hl]; omega
    case c4 => unfold maxLen; omega
    case c5 => omega
    case c6 => simp
    intro v' w1 hown hgrow _
    go_wp2
    go_ret
    refine ⟨v', rfl, ?_, ?_⟩
    · simpa using hown
    · exact ((Below.refl _ _).alloc (Nat.le_refl _) _).grown hgrow (by simp) (fun k hk => by simp [Value.ownBlock] at hk; omega)

set_option maxRecDepth 100000 in
theorem says_any : Says 59 (fun _ => true) := ⟨fun _ _ => rfl, any_any⟩
set_option maxRecDepth 100000 in
theorem says_known : Says 60 (fun r => r.kn) := ⟨fun _ _ => rfl, known_any⟩
set_option maxRecDepth 100000 in
theorem says_valued : Says 61 valB := ⟨fun _ _ => rfl, valued_any⟩
/-- The latest of rows. -/
def topR (p : Rw → Bool) (l : List Rw) : Rw := maxN (l.filter p) (l.filter p).length
/-- Whether a made item lives. -/
def livB (l : List Rw) : Bool := decide (0 < (l.filter valB).length) && (topR valB l).op == 1
/-- The item of rows. -/
structure IsMade (x : Nat → Int) (l : List Rw) (t : It) : Prop where
  tok : t.tok = x
  hd : ∃ a c, t.hd = ({ (topR (fun _ => true) l).hd.1 with ta := a, tc := c }, (topR (fun _ => true) l).hd.2)
  kn : t.kn = (topR (fun _ => true) l).kn
  name : t.name = (topR (fun r => r.kn) l).name
  al : t.al = livB l
  tags : t.tags = (if livB l = true then (topR (fun r => r.kn) l).tags else [])
  val : t.val = (if livB l = true then (topR valB l).val else ⟨#[]⟩)
/-- An item whose rows are its own, from B on. -/
structure ItOwn (B : Nat) (w : World) (t : It) : Prop where
  ts : w.ownsRow B 27 16 (.slice t.hd.1.ta t.hd.1.tn t.hd.1.tc) t.hd.1.tn (tkC t.hd.2)
  sr : w.ownsRow B 9 1 (.slice t.ta t.tags.length t.tc) t.tags.length (srC t.tags)
  ok : HdOk t.hd.1
  byte : ∀ u ∈ t.hd.2, ∀ j, j < 16 → 0 ≤ u j ∧ u j < 256
  small : t.hd.1.tn ≤ 140737488355328
  size : ∀ s ∈ t.tags, s.size ≤ 140737488351232
  name : t.name.size ≤ 140737488351232
  val : t.val.size ≤ 140737488351232
/-- What made answers. -/
def MadeSays (w : World) (x : Nat → Int) (l : List Rw) (e : Ending) (w' : World) : Prop :=
  ∃ t : It, e = .returned (.agg (itV t)) ∧ Ext w w' ∧ ItOwn w.heap.size w' t ∧ IsMade x l t
set_option maxRecDepth 100000 in
theorem build_it (w : World) (x : Nat → Int) (h : HT) (k : Bool) (s : ByteArray) : (Instr.build 41 #[(0, .agg (rowArr 16 fun j => .int .u8 (x j))), (1, .agg (hdV h.1)), (2, .bool k), (4, .string s)]).run Try.prog w = .ok (.agg (itV ⟨x, h, k, false, s, none, 0, [], ⟨#[]⟩⟩)) w := by kernel_rfl
theorem wp_build_it {ops : Array Oper} {Q : Exit → Act → World → Prop} {rest : List Oper} {o : Oper} {a : Act} {w : World} (hw : Region.wanted o (yielded ops a.tmps) = true) (p q r t : Operand) (ho : o.op = .build 41 #[(0, p), (1, q), (2, r), (4, t)]) (x : Nat → Int) (h : HT) (k : Bool) (s : ByteArray)
    (X H I : Array Value) (hX : (rowArr 16 fun j => Value.int .u8 (x j)) = X) (hH : hdV h.1 = H) (hI : itV ⟨x, h, k, false, s, none, 0, [], ⟨#[]⟩⟩ = I) (hp : a.eval p = .agg X) (hq : a.eval q = .agg H) (hr : a.eval r = .bool k) (ht : a.eval t = .string s)
    (hk : wpList Try.prog ops Q rest (a.put o.dst (.agg I)) w) : wpList Try.prog ops Q (o :: rest) a w := by
  subst hX hH hI
  refine wpList_want hw fun K hK => ?_
  unfold Oper.wp execOp
  simp only [ho, List.map_toArray, List.map_cons, List.map_nil, hp, hq, hr, ht, Sem.run_bind, build_it, Result.andThen_ok, Sem.run_pure]
  exact hK _ _ hk
/-- An item's header with tokens elsewhere. -/
def reI (t : It) (a : Option Addr) (c : Nat) : It := { t with hd := ({ t.hd.1 with ta := a, tc := c }, t.hd.2) }
theorem itC_setT (t : It) (a : Option Addr) (n c : Nat) (hn : t.hd.1.tn = n) : ∀ i, i < 146 → (if i = 69 then Value.slice a n c else itC t i) = itC (reI t a c) i := fun i hi => by
  subst hn
  by_cases h : i = 69
  · subst h
    rfl
  · rw [if_neg h]
    unfold reI itC
    by_cases h1 : i < 16
    · rw [if_pos h1, if_pos h1]
    · rw [if_neg h1, if_neg h1]
      by_cases h2 : i < 141
      · rw [if_pos h2, if_pos h2]
        unfold hdC
        by_cases h3 : i - 16 < 53
        · simp only [h3, if_true]
        · have h4 : ¬ i - 16 < 54 := by omega
          simp only [h3, h4, if_false]
      · rw [if_neg h2, if_neg h2]
theorem own_srC {w : World} {B n c : Nat} {a : Option Addr} {ss : List ByteArray} (h : w.ownsRow B 9 1 (.slice a n c) n (srC ss)) (hs : ∀ x ∈ ss, x.size ≤ 140737488351232) : SrAt w a n c ss := by
  have hl : ss.length = n := by
    have := h.1
    rw [srC, List.length_map] at this
    omega
  have hc : n ≤ c ∧ c ≤ 9223372036854775807 := by
    rcases h.2 with ⟨e, h0⟩ | ⟨g, cap, cur, e, _, _, h1, h2, _⟩
    · simp only [Value.slice.injEq] at e
      omega
    · simp only [Value.slice.injEq] at e
      unfold maxLen at h2
      omega
  refine ⟨hl, hc.1, hc.2, hs, fun h0 => ?_⟩
  rcases h.2 with ⟨_, h1⟩ | ⟨g, cap, cur, e, _⟩
  · omega
  · simp only [Value.slice.injEq] at e
    obtain ⟨rfl, _⟩ := e
    refine ⟨g, 0, rfl, fun i hi => ?_⟩
    have h2 := h.cells (g := g) rfl i (.string (ss.getD i ⟨#[]⟩)) (by
      unfold srC
      rw [List.getElem?_map, List.getElem?_eq_getElem (by omega), List.getD_eq_getElem?_getD, List.getElem?_eq_getElem (by omega)]
      rfl)
    rw [addr_add] at h2
    exact h2
theorem own_monoM {w : World} {B B' : Nat} {e : TypeId} {size : Nat} {v : Value} {n : Nat} {xs : List Value} (h : w.ownsRow B e size v n xs) (hB : B' ≤ B) : w.ownsRow B' e size v n xs := by
  refine ⟨h.1, ?_⟩
  rcases h.2 with hn | ⟨g, cap, cur, h1, h2, h3⟩
  · exact .inl hn
  · exact .inr ⟨g, cap, cur, h1, by omega, h3⟩
/-- A row's bytes as a slice of bytes. -/
theorem own_extM {w w' : World} {B e size n : Nat} {v : Value} {xs : List Value} (h : w.ownsRow B e size v n xs) (hE : Ext w w') : w'.ownsRow B e size v n xs :=
  h.kept (grown_ext hE none) (by generalize v.ownBlock = o; cases o <;> simp)
theorem ItOwn.at {B : Nat} {w : World} {t : It} (h : ItOwn B w t) : ItAt w t := ⟨⟨h.ok, own_ts1 h.ts h.byte h.small⟩, own_srC h.sr h.size, h.name, h.val⟩
theorem ItOwn.kept {B b : Nat} {w w' : World} {t : It} (h : ItOwn B w t) (hb : b < B) (hg : w.grownBy w' (some b)) : ItOwn B w' t :=
  ⟨h.ts.kept hg (Or.inr fun e => by have := (h.ts.lt b e).1; omega), h.sr.kept hg (Or.inr fun e => by have := (h.sr.lt b e).1; omega), h.ok, h.byte, h.small, h.size, h.name, h.val⟩
theorem ItOwn.ext {B : Nat} {w w' : World} {t : It} (h : ItOwn B w t) (he : Ext w w') : ItOwn B w' t := ⟨own_extM h.ts he, own_extM h.sr he, h.ok, h.byte, h.small, h.size, h.name, h.val⟩
theorem ItOwn.mono {B B' : Nat} {w : World} {t : It} (h : ItOwn B w t) (hb : B' ≤ B) : ItOwn B' w t := ⟨own_monoM h.ts hb, own_monoM h.sr hb, h.ok, h.byte, h.small, h.size, h.name, h.val⟩
/-- What is made, once its cells are known. -/
theorem made_fin {w w' : World} {x : Nat → Int} {l : List Rw} {nw la : Rw} (hnw : topR (fun _ => true) l = nw) (hla : topR (fun r => r.kn) l = la) (hn : RwAt w nw) (hl : RwAt w la) (hE : Ext w w') {B : Nat} {a : Option Addr} {n c : Nat} (hB : w.heap.size ≤ B) (hnn : nw.hd.1.tn = n)
    (ho : w'.ownsRow B 27 16 (.slice a n c) n (tkC nw.hd.2)) {al : Bool} {ta : Option Addr} {tc : Nat} {tags : List ByteArray} {val : ByteArray} (hal : al = livB l) (htags : tags = if al = true then la.tags else [])
    (hval : val = if al = true then (topR valB l).val else ⟨#[]⟩) (hs : w'.ownsRow w.heap.size 9 1 (.slice ta tags.length tc) tags.length (srC tags)) (hv : val.size ≤ 140737488351232) {e : Ending} (he : e = .returned (.agg (itV ⟨x, ({ nw.hd.1 with ta := a, tc := c }, nw.hd.2), nw.kn, al, la.name, ta, tc, tags, val⟩))) : MadeSays w x l e w' := by
  subst hnw hla hal hnn he
  have k := hn.hd.ok
  refine ⟨_, rfl, hE, ⟨own_monoM ho hB, hs, ⟨k.1, k.2, k.3, k.4, k.5, k.6, k.7, k.8, k.9, k.10⟩, hn.hd.toks.byte, hn.hd.toks.small, fun s h => ?_, hl.name, hv⟩, ⟨rfl, ⟨a, c, rfl⟩, rfl, rfl, rfl, htags, hval⟩⟩
  have h : s ∈ tags := h
  rw [htags] at h
  split at h
  · exact hl.tags.size s h
  · cases h
theorem ext_gn {a b c : World} (h : Ext a b) {g : Nat} (hg : a.heap.size ≤ g) (k : b.grownBy c (some g)) : Ext a c :=
  h.trans' ⟨k.os, k.tape, k.output, k.size, fun i hi => k.block i (by have := Below.size h; omega) fun e => by have := Option.some.inj e; omega⟩
theorem own_slM {w : World} {B size n : Nat} {e : TypeId} {v : Value} {xs : List Value} (h : w.ownsRow B e size v n xs) : ∃ a c, v = .slice a n c := by
  rcases h.2 with ⟨rfl, rfl⟩ | ⟨g, cap, cur, rfl, _⟩
  · exact ⟨none, 0, rfl⟩
  · exact ⟨_, cap, rfl⟩
theorem itC_set3 (t : It) (a : Option Addr) (n c : Nat) (ss : List ByteArray) (v : ByteArray) (hn : ss.length = n) : ∀ i, i < 146 → (if i = 144 then Value.slice a n c else if i = 145 then .string v else if i = 142 then .bool true else itC t i) = itC { t with al := true, ta := a, tc := c, tags := ss, val := v } i := fun i hi => by
  subst hn
  by_cases h : i = 144
  · subst h; rfl
  · rw [if_neg h]
    by_cases h1 : i = 145
    · subst h1; rfl
    · rw [if_neg h1]
      by_cases h2 : i = 142
      · subst h2; rfl
      · rw [if_neg h2]
        unfold itC
        by_cases k1 : i < 16
        · rw [if_pos k1, if_pos k1]
        · rw [if_neg k1, if_neg k1]
          by_cases k2 : i < 141
          · rw [if_pos k2, if_pos k2]
          · rw [if_neg k2, if_neg k2]
            by_cases k3 : i < 142
            · rw [if_pos k3, if_pos k3]
            · have k4 : ¬ i < 143 := by omega
              have k5 : i < 144 := by omega
              simp only [k3, k4, k5, if_true, if_false]
theorem made_box (w : World) (X : Array Value) : ∃ w2, (w.alloc (.cells X 27)).alloc (.cells (itV itN) 41) = w2 ∧ Ext w w2 ∧ w2.heap[w.heap.size]? = some (.cells X 27 (0, 0)) ∧ w2.heap[w.heap.size + 1]? = some (.cells (itV itN) 41 (0, 0)) := by
  refine ⟨_, rfl, ((Ext.refl w).alloc _).alloc _, ?_, ?_⟩
  · exact Ext.keep ((Ext.refl (w.alloc (.cells X 27))).alloc _) (heap_new w _ _ rfl)
  · exact heap_new _ _ _ (by simp)
/-- What holds while the item's cells are written: memory has grown but for its block, whose cells are told. -/
structure MdC (v : World) (t4 : Nat) (t : It) (ph : Bool) (w : World) : Prop where
  grown : v.grownBy w (some t4)
  row : w.rowIs t4 41 146 (fun i => if ph = true ∧ i = 142 then .bool true else itC t i)
theorem MdC.ext {v : World} {t4 : Nat} {t : It} {ph : Bool} {w w' : World} (h : MdC v t4 t ph w) (he : Ext w w') : MdC v t4 t ph w' ∧ w.grownBy w' (some t4) :=
  ⟨⟨h.grown.trans (grown_ext he _), rowIs_of (he.keep (rowIs_cells h.row))⟩, grown_ext he _⟩
theorem MdC.put {v : World} {t4 : Nat} {t : It} {w : World} (h : MdC v t4 t false w) : MdC v t4 t true (w.setCell ⟨t4, 142, none⟩ (.bool true)) ∧ w.grownBy (w.setCell ⟨t4, 142, none⟩ (.bool true)) (some t4) := by
  refine ⟨⟨grown_setCell h.grown rfl _, (h.row.set 142 _).congr fun i hi => ?_⟩, grown_setCell (World.grownBy.refl w _) rfl _⟩
  by_cases e : i = 142 <;> simp [e]
theorem grown_cellM {v w : World} {g b o : Nat} {u : Value} (h : v.grownBy w (some g)) (hc : v.cell? ⟨b, o, none⟩ = some u) (hne : b ≠ g) : w.cell? ⟨b, o, none⟩ = some u := by
  have h1 := h.block b (World.block_lt_of_cell? _ _ hc) (fun e => hne (Option.some.inj e))
  rw [← hc]
  unfold World.cell?
  rw [h1]
set_option maxHeartbeats 4000000 in
set_option maxRecDepth 100000 in
theorem made_any (x : Nat → Int) (a : Option Addr) (n c : Nat) (l : List Rw) (w : World) (h : RwsAt w a n c l) (hs : n ≤ 100000) (htn : (topR (fun _ => true) l).hd.1.tn ≤ 1000000) (htg : (topR (fun r => r.kn) l).tags.length ≤ 1000000) :
    Calls Try.prog 34 #[.agg (rowArr 16 fun j => .int .u8 (x j)), .slice a n c] w (MadeSays w x l) := by
  obtain ⟨M1, hM1⟩ : ∃ z, rwV (topR (fun _ => true) l) = z := ⟨_, rfl⟩
  obtain ⟨B1, hB1⟩ : ∃ z, decide (0 < (l.filter (fun _ => true)).length) = z := ⟨_, rfl⟩
  have HM1 := Lib.hid hM1
  have HBo1 := Lib.hid hB1
  have HMs1 := Lib.hid (show M1.size = 130 ∧ M1.all (·.oneCell') = true by rw [← hM1]; exact ⟨rwV_size _, rwV_one _⟩)
  have HLa := Lib.hid (show ∀ z, Ext w z → Calls Try.prog 58 #[.slice a n c, .func (.func 59) #[] #[]] z fun e w' => Ext z w' ∧ e = .returned (.tuple #[.agg M1, .bool B1]) from fun z hz => (latest_any _ _ says_any a n c l z (h.ext hz) hs).mono fun e w' h => ⟨h.1, by rw [h.2, ← hM1, ← hB1]; rfl⟩)
  obtain ⟨M2, hM2⟩ : ∃ z, rwV (topR (fun r => r.kn) l) = z := ⟨_, rfl⟩
  obtain ⟨B2, hB2⟩ : ∃ z, decide (0 < (l.filter (fun r => r.kn)).length) = z := ⟨_, rfl⟩
  have HM2 := Lib.hid hM2
  have HBo2 := Lib.hid hB2
  have HMs2 := Lib.hid (show M2.size = 130 ∧ M2.all (·.oneCell') = true by rw [← hM2]; exact ⟨rwV_size _, rwV_one _⟩)
  have HLk := Lib.hid (show ∀ z, Ext w z → Calls Try.prog 58 #[.slice a n c, .func (.func 60) #[] #[]] z fun e w' => Ext z w' ∧ e = .returned (.tuple #[.agg M2, .bool B2]) from fun z hz => (latest_any _ _ says_known a n c l z (h.ext hz) hs).mono fun e w' h => ⟨h.1, by rw [h.2, ← hM2, ← hB2]; rfl⟩)
  obtain ⟨M3, hM3⟩ : ∃ z, rwV (topR valB l) = z := ⟨_, rfl⟩
  obtain ⟨B3, hB3⟩ : ∃ z, decide (0 < (l.filter valB).length) = z := ⟨_, rfl⟩
  have HM3 := Lib.hid hM3
  have HBo3 := Lib.hid hB3
  have HMs3 := Lib.hid (show M3.size = 130 ∧ M3.all (·.oneCell') = true by rw [← hM3]; exact ⟨rwV_size _, rwV_one _⟩)
  have HLv := Lib.hid (show ∀ z, Ext w z → Calls Try.prog 58 #[.slice a n c, .func (.func 61) #[] #[]] z fun e w' => Ext z w' ∧ e = .returned (.tuple #[.agg M3, .bool B3]) from fun z hz => (latest_any _ _ says_valued a n c l z (h.ext hz) hs).mono fun e w' h => ⟨h.1, by rw [h.2, ← hM3, ← hB3]; rfl⟩)
  have hzr := rw_zero
  obtain ⟨ZR, hZR⟩ : ∃ Z, rwV rwN = Z := ⟨_, rfl⟩
  have HZRs := Lib.hid (show ZR.size = 130 by rw [← hZR]; exact rwV_size _)
  rw [hZR] at hzr
  clear hM1 hB1 hM2 hB2 hM3 hB3 hZR
  have H := Lib.hid h
  have HTop := Lib.hid (maxN_at h.each (fun _ => true))
  have HTn := Lib.hid htn
  have HTg := Lib.hid htg
  have hzi := it_zero
  have HZi := Lib.hid it_zero
  obtain ⟨X, hX⟩ : ∃ z, (rowArr 16 fun j => Value.int .u8 (x j)) = z := ⟨_, rfl⟩
  have HX := Lib.hid hX
  have HXs := Lib.hid (show X.size = 16 ∧ X.all (·.oneCell') = true by rw [← hX]; exact ⟨rowArr_size _ _, rowArr_one fun _ _ => rfl⟩)
  obtain ⟨w2, hw2, hE2, hb2, hZ2⟩ := made_box w X
  obtain ⟨S, hS⟩ : ∃ S, w.heap.size = S := ⟨_, rfl⟩
  have HS := Lib.hid hS
  rw [hS] at hb2 hZ2
  obtain ⟨ZI, hZI⟩ : ∃ z, itV itN = z := ⟨_, rfl⟩
  have HZI := Lib.hid hZI
  rw [hZI] at hw2 hZ2 hzi
  have HZs := Lib.hid (show ZI.size = 146 by rw [← hZI]; exact itV_size _)
  have Hw2 := Lib.hid hw2
  have HE2 := Lib.hid hE2
  have HB2 := Lib.hid hb2
  have HZ2 := Lib.hid hZ2
  rw [hX]
  clear h htn htg hX hw2 hE2 hb2 hZ2 hS hZI
  go_enter Try.func34, Try.ntmps34
  go_upto_region 1 with (fail)
  rw [HS.out]
  refine wp_world (w' := w2) Hw2.out ?_
  clear Hw2 hzi
  go_upto_region 2 with (first | (go_at_call 58; refine (HLa.out w2 HE2.out).mono ?_; rintro e y1 ⟨hE, rfl⟩; have HEy1 := Lib.hid hE; clear hE) | (refine wpList_store_row rfl 36 _ _ rfl y1.heap.size _ rfl rfl _ _ (heap_new y1 _ _ rfl) (by rw [HMs1.out.1]; kernel_rfl) (by rw [HMs1.out.1, HZRs.out]) HMs1.out.2 ?_; rw [setRow_new y1 _ _ _ _ rfl]))
  obtain ⟨v1, hv1⟩ : ∃ z, y1.alloc (.cells M1 36) = z := ⟨_, rfl⟩
  obtain ⟨t1, ht1⟩ : ∃ z, y1.heap.size = z := ⟨_, rfl⟩
  have HV1 := Lib.hid (show Ext w2 v1 by rw [← hv1]; exact HEy1.out.alloc _)
  have HT1 := Lib.hid (show v1.heap[t1]? = some (.cells M1 36 (0, 0)) by rw [← hv1]; exact heap_new y1 _ _ ht1.symm)
  have HTs1 := Lib.hid (show S + 1 < t1 by rw [← ht1]; exact Nat.lt_of_lt_of_le (Array.getElem?_eq_some_iff.1 HZ2.out).1 (Below.size (HEy1.out)))
  rw [ht1]
  refine wp_world (w' := v1) hv1 ?_
  clear hv1 ht1
  go_upto_region 3 with (first | (go_at_call 58; refine (HLk.out v1 (HE2.out.trans HV1.out)).mono ?_; rintro e y2 ⟨hE, rfl⟩; have HEy2 := Lib.hid hE; clear hE) | (refine wpList_store_row rfl 36 _ _ rfl y2.heap.size _ rfl rfl _ _ (heap_new y2 _ _ rfl) (by rw [HMs2.out.1]; kernel_rfl) (by rw [HMs2.out.1, HZRs.out]) HMs2.out.2 ?_; rw [setRow_new y2 _ _ _ _ rfl]))
  obtain ⟨v2, hv2⟩ : ∃ z, y2.alloc (.cells M2 36) = z := ⟨_, rfl⟩
  obtain ⟨t2, ht2⟩ : ∃ z, y2.heap.size = z := ⟨_, rfl⟩
  have HV2 := Lib.hid (show Ext v1 v2 by rw [← hv2]; exact HEy2.out.alloc _)
  have HT2 := Lib.hid (show v2.heap[t2]? = some (.cells M2 36 (0, 0)) by rw [← hv2]; exact heap_new y2 _ _ ht2.symm)
  have HTs2 := Lib.hid (show S + 1 < t2 by rw [← ht2]; exact Nat.lt_of_lt_of_le (Array.getElem?_eq_some_iff.1 HZ2.out).1 (Below.size (HV1.out.trans HEy2.out)))
  rw [ht2]
  refine wp_world (w' := v2) hv2 ?_
  clear hv2 ht2
  go_upto_region 4 with (first | (go_at_call 58; refine (HLv.out v2 (HE2.out.trans (HV1.out.trans HV2.out))).mono ?_; rintro e y3 ⟨hE, rfl⟩; have HEy3 := Lib.hid hE; clear hE) | (refine wpList_store_row rfl 36 _ _ rfl y3.heap.size _ rfl rfl _ _ (heap_new y3 _ _ rfl) (by rw [HMs3.out.1]; kernel_rfl) (by rw [HMs3.out.1, HZRs.out]) HMs3.out.2 ?_; rw [setRow_new y3 _ _ _ _ rfl]))
  obtain ⟨v3, hv3⟩ : ∃ z, y3.alloc (.cells M3 36) = z := ⟨_, rfl⟩
  obtain ⟨t3, ht3⟩ : ∃ z, y3.heap.size = z := ⟨_, rfl⟩
  have HV3 := Lib.hid (show Ext v2 v3 by rw [← hv3]; exact HEy3.out.alloc _)
  have HT3 := Lib.hid (show v3.heap[t3]? = some (.cells M3 36 (0, 0)) by rw [← hv3]; exact heap_new y3 _ _ ht3.symm)
  have HTs3 := Lib.hid (show S + 1 < t3 by rw [← ht3]; exact Nat.lt_of_lt_of_le (Array.getElem?_eq_some_iff.1 HZ2.out).1 (Below.size ((HV1.out.trans HV2.out).trans HEy3.out)))
  rw [ht3]
  refine wp_world (w' := v3) hv3 ?_
  clear hv3 ht3
  have HA1 := Lib.hid ((HV2.out.trans HV3.out).keep HT1.out)
  have HA2 := Lib.hid (HV3.out.keep HT2.out)
  have HAX := Lib.hid ((HV1.out.trans (HV2.out.trans HV3.out)).keep HB2.out)
  obtain ⟨nw, hnw⟩ : ∃ z, topR (fun _ => true) l = z := ⟨_, rfl⟩
  obtain ⟨la, hla⟩ : ∃ z, topR (fun r => r.kn) l = z := ⟨_, rfl⟩
  have Hnw := Lib.hid hnw
  have Hla := Lib.hid hla
  rw [hnw] at HM1
  rw [hla] at HM2
  have hb1 : v3.heap[t1]? = some (.cells (rwV nw) 36 (0, 0)) := by rw [HM1.out]; exact HA1.out
  have hb2 : v3.heap[t2]? = some (.cells (rwV la) 36 (0, 0)) := by rw [HM2.out]; exact HA2.out
  have HRh := Lib.hid (rw_rh hb1)
  have hck := rw_kn hb1
  have hcn := rw_name hb2
  obtain ⟨HV, hHV⟩ : ∃ z, hdV nw.hd.1 = z := ⟨_, rfl⟩
  obtain ⟨HLs, hHL⟩ : ∃ z, hdL nw.hd.1 = z := ⟨_, rfl⟩
  have HHV := Lib.hid hHV
  have HHa := Lib.hid (show HLs.toArray = HV by rw [← hHL, ← hHV]; rfl)
  have HHl := Lib.hid (show HLs.length = 125 by rw [← hHL]; exact hdL_length _)
  rw [hHL] at HRh
  obtain ⟨kn, hkn⟩ : ∃ z, nw.kn = z := ⟨_, rfl⟩
  obtain ⟨nm, hnm⟩ : ∃ z, la.name = z := ⟨_, rfl⟩
  have Hkn := Lib.hid hkn
  have Hnm := Lib.hid hnm
  rw [hkn] at hck
  rw [hnm] at hcn
  obtain ⟨I0, hI0⟩ : ∃ z, itV ⟨x, nw.hd, kn, false, nm, none, 0, [], ⟨#[]⟩⟩ = z := ⟨_, rfl⟩
  have HI0 := Lib.hid hI0
  have HIs := Lib.hid (show I0.size = 146 ∧ I0.all (·.oneCell') = true by rw [← hI0]; exact ⟨itV_size _, itV_one _⟩)
  have hzi := HZi.out
  obtain ⟨ZJ, hZJ⟩ : ∃ z, itV itN = z := ⟨_, rfl⟩
  have HZJs := Lib.hid (show ZJ.size = 146 by rw [← hZJ]; exact itV_size _)
  rw [hZJ] at hzi
  clear hnw hla hb1 hb2 hHV hHL hkn hnm hI0 hZJ
  go_upto_region 5 with (first | (refine wpList_load_rowW rfl 27 (.tmp 2) rfl S rfl _ _ _ _ HAX.out Try.underlying27 rfl (by rw [HXs.out.1]; kernel_rfl) ?_; simp only [Act.put, List.setIfInBounds_toArray, List.set_cons_zero, List.set_cons_succ]) | (refine wpList_load_mid rfl 31 (.tmp 28) rfl t1 _ rfl HLs _ HRh.out Try.underlying31 rfl (by rw [HHl.out]; kernel_rfl) ?_; rw [HHa.out]; simp only [Act.put, List.setIfInBounds_toArray, List.set_cons_zero, List.set_cons_succ]) | (refine wp_build_it rfl (.tmp 27) (.tmp 29) (.tmp 31) (.tmp 34) rfl x nw.hd kn nm X HV I0 HX.out HHV.out HI0.out rfl rfl rfl rfl ?_; simp only [Act.put, List.setIfInBounds_toArray, List.set_cons_zero, List.set_cons_succ]) | (refine wpList_store_row rfl 41 _ _ rfl v3.heap.size _ rfl rfl _ _ (heap_new v3 _ _ rfl) (by rw [HIs.out.1]; kernel_rfl) (by rw [HIs.out.1, HZJs.out]) HIs.out.2 ?_; rw [setRow_new v3 _ _ _ _ rfl]))
  obtain ⟨v4, hv4⟩ : ∃ z, v3.alloc (.cells I0 41) = z := ⟨_, rfl⟩
  obtain ⟨t4, ht4⟩ : ∃ z, v3.heap.size = z := ⟨_, rfl⟩
  have HV4 := Lib.hid (show Ext v3 v4 by rw [← hv4]; exact (Ext.refl v3).alloc _)
  have hT4 : v4.heap[t4]? = some (.cells I0 41 (0, 0)) := by rw [← hv4]; exact heap_new v3 _ _ ht4.symm
  have HT4s := Lib.hid (show v3.heap.size = t4 from ht4)
  rw [ht4]
  refine wp_world (w' := v4) hv4 ?_
  have HE4 := Lib.hid (HE2.out.trans (HV1.out.trans (HV2.out.trans (HV3.out.trans HV4.out))))
  have hto := HTop.out.hd.toks.ext HE4.out
  have hnn : (maxN (l.filter fun _ => true) (l.filter fun _ => true).length) = nw := Hnw.out
  rw [hnn] at hto
  have htn := HTn.out
  rw [Hnw.out] at htn
  have HCl := Lib.hid (tsClone_any nw.hd.1.ta nw.hd.1.tn nw.hd.1.tc nw.hd.2 v4 hto htn)
  rw [← HI0.out] at hT4
  have hrI : v4.rowIs t4 41 146 (itC ⟨x, nw.hd, kn, false, nm, none, 0, [], ⟨#[]⟩⟩) := rowIs_of hT4
  have hc69 : v4.cell? ⟨t4, 69, none⟩ = some (.slice nw.hd.1.ta nw.hd.1.tn nw.hd.1.tc) := hrI.cell (i := 69) (by omega)
  have HrI := Lib.hid hrI
  have HT4 := Lib.hid hT4
  clear hv4 ht4 hto hnn htn hrI hT4 hzi hzr hck hcn
  obtain ⟨tn, htn⟩ : ∃ z, nw.hd.1.tn = z := ⟨_, rfl⟩
  have Htn := Lib.hid htn
  rw [htn] at hc69 HCl
  clear htn
  go_upto_region 6 with (go_at_call 62; refine HCl.out.mono ?_; rintro e v5 ⟨v, rfl, hown, hE5⟩; obtain ⟨a5, c5, rfl⟩ := own_slM hown; have HO5 := Lib.hid hown; have HE5 := Lib.hid hE5; have hT5 := rowIs_of (hE5.keep HT4.out); have hce5 := hT5.cell (i := 69) (by omega); have hfz5 := hT5.frozen 69; have HT5 := Lib.hid hT5; clear hown hE5 hT5)
  have hr6 : (v5.setCell ⟨t4, 69, none⟩ (.slice a5 tn c5)).rowIs t4 41 146 (itC (reI ⟨x, nw.hd, kn, false, nm, none, 0, [], ⟨#[]⟩⟩ a5 c5)) := (HT5.out.set 69 _).congr (itC_setT ⟨x, nw.hd, kn, false, nm, none, 0, [], ⟨#[]⟩⟩ a5 tn c5 Htn.out)
  have hG6 : v5.grownBy (v5.setCell ⟨t4, 69, none⟩ (.slice a5 tn c5)) (some t4) := grown_setCell (World.grownBy.refl v5 _) rfl _
  have h4s : w.heap.size ≤ t4 := by
    have h1 := HTs3.out
    have h2 := (Array.getElem?_eq_some_iff.1 HT3.out).1
    have h3 := HS.out
    have h4 := HT4s.out
    omega
  have hE6 : Ext w (v5.setCell ⟨t4, 69, none⟩ (.slice a5 tn c5)) := ext_gn (HE4.out.trans HE5.out) h4s hG6
  have ho6 := HO5.out.kept hG6 (Or.inr fun e => by have := (HO5.out.lt t4 e).1; have := (Array.getElem?_eq_some_iff.1 HT4.out).1; omega)
  have hb3 := (((HV4.out.trans HE5.out).keep HT3.out))
  have hb3 := (hG6.block t3 (Array.getElem?_eq_some_iff.1 hb3).1 (fun e => by have := Option.some.inj e; have := (Array.getElem?_eq_some_iff.1 HT3.out).1; have := HT4s.out; omega)).trans hb3
  have hz6 := (((HV1.out.trans (HV2.out.trans (HV3.out.trans (HV4.out.trans HE5.out)))).keep HZ2.out))
  have hz6 := (hG6.block (S + 1) (Array.getElem?_eq_some_iff.1 hz6).1 (fun e => by have := Option.some.inj e; have := (Array.getElem?_eq_some_iff.1 HT3.out).1; have := HTs3.out; have := HT4s.out; omega)).trans hz6
  have hb2 := (((HV3.out.trans (HV4.out.trans HE5.out)).keep HT2.out))
  have hb2 := (hG6.block t2 (Array.getElem?_eq_some_iff.1 hb2).1 (fun e => by have := Option.some.inj e; have := (Array.getElem?_eq_some_iff.1 HA2.out).1; have := HT4s.out; omega)).trans hb2
  obtain ⟨v6, hv6⟩ : ∃ z, v5.setCell ⟨t4, 69, none⟩ (.slice a5 tn c5) = z := ⟨_, rfl⟩
  rw [hv6] at hr6 hE6 ho6 hb3 hz6 hb2
  refine wp_world (w' := v6) hv6 ?_
  have HR6 := Lib.hid hr6
  have HE6 := Lib.hid hE6
  have H4s := Lib.hid h4s
  have HO6 := Lib.hid ho6
  have HB3 := Lib.hid hb3
  have HB2' := Lib.hid hb2
  have HZ6 := Lib.hid hz6
  clear hv6 hr6 hG6 h4s hE6 ho6 hb3 hz6 hb2 hce5 hfz5 hc69
  obtain ⟨J, hJ⟩ : ∃ z, itV (reI ⟨x, nw.hd, kn, false, nm, none, 0, [], ⟨#[]⟩⟩ a5 c5) = z := ⟨_, rfl⟩
  have HJ := Lib.hid hJ
  have HJs := Lib.hid (show J.size = 146 ∧ J.all (·.oneCell') = true by rw [← hJ]; exact ⟨itV_size _, itV_one _⟩)
  have HC6 := Lib.hid (show v6.heap[t4]? = some (.cells J 41 (0, 0)) by rw [← hJ]; exact rowIs_cells HR6.out)
  clear hJ
  cases B3 with
  | false =>
    go_upto_region 8 with (fail)
    go_wp2_with (first | (refine wpList_load_rowW rfl 41 (.tmp 11) rfl t4 rfl _ _ _ _ HC6.out Try.underlying41 rfl (by rw [HJs.out.1]; kernel_rfl) ?_) | (refine wpList_store_row rfl 41 (.tmp 4) (.tmp 59) rfl (S + 1) _ rfl rfl _ _ HZ6.out (by rw [HJs.out.1]; kernel_rfl) (by rw [HJs.out.1, HZs.out]) HJs.out.2 ?_))
    have hB4 := Below.size HE4.out
    have hE7 := below_setRow HE6.out (show w.heap.size ≤ S + 1 by rw [HS.out]; omega) J
    have hg7 : v6.grownBy (v6.setRow (S + 1) J) (some (S + 1)) := grown_setRow v6 _ J
    have ho7 := HO6.out.kept hg7 (Or.inr fun e => by have h1 := (HO6.out.lt (S + 1) e).1; have h2 := (Array.getElem?_eq_some_iff.1 HT3.out).1; have h3 := HTs3.out; have h4 := (Array.getElem?_eq_some_iff.1 HT4.out).1; have h5 := HT4s.out; omega)
    have hn : RwAt w nw := by rw [← Hnw.out]; exact HTop.out
    have hl : RwAt w la := by rw [← Hla.out]; exact maxN_at H.out.each _
    have hlv : livB l = false := by unfold livB; rw [HBo3.out]; rfl
    have hJ := HJ.out
    have hkn := Hkn.out
    have hnm := Hnm.out
    have hxn := Hnw.out
    have hxl := Hla.out
    have htn := Htn.out
    refine bodyPost_ret (results_cell_row rfl _ _ (S + 1) _ _ _ _ rfl (setRow_heap v6 (S + 1) _ _ _ _ HZ6.out) Try.underlying41 rfl (by rw [HJs.out.1]; kernel_rfl)) rfl ?_
    exact made_fin hxn hxl hn hl hE7 hB4 htn ho7 hlv.symm (by rw [if_neg (by decide)]) (by rw [if_neg (by decide)]) (World.ownsRow_nil _ _ _ _) (by show (0 : Nat) ≤ _; omega) (by rw [← hJ, ← hkn, ← hnm]; rfl)
  | true =>
    obtain ⟨vl, hvl⟩ : ∃ z, topR valB l = z := ⟨_, rfl⟩
    have Hvl := Lib.hid hvl
    rw [hvl] at HM3
    have hb3 : v6.heap[t3]? = some (.cells (rwV vl) 36 (0, 0)) := by rw [HM3.out]; exact HB3.out
    have hcop := rw_op hb3
    have hcvv := rw_val hb3
    obtain ⟨op, hop⟩ : ∃ z, vl.op = z := ⟨_, rfl⟩
    obtain ⟨vv, hvv⟩ : ∃ z, vl.val = z := ⟨_, rfl⟩
    have Hop := Lib.hid hop
    have Hvv := Lib.hid hvv
    rw [hop] at hcop
    rw [hvv] at hcvv
    have HcV := Lib.hid hcvv
    clear hvl hb3 hcvv hop hvv
    by_cases hop : op = 1
    · subst hop
      go_upto_region 7 with (fail)
      have hc2 : v6.heap[t2]? = some (.cells (rwV la) 36 (0, 0)) := by rw [HM2.out]; exact HB2'.out
      have hct := rw_tags hc2
      obtain ⟨ln, hln⟩ : ∃ z, la.tags.length = z := ⟨_, rfl⟩
      obtain ⟨lt, hlt⟩ : ∃ z, la.ta = z := ⟨_, rfl⟩
      obtain ⟨lc, hlc⟩ : ∃ z, la.tc = z := ⟨_, rfl⟩
      have hl : RwAt w la := by rw [← Hla.out]; exact maxN_at H.out.each _
      have hlv := hl.tags
      rw [hln, hlt, hlc] at hct hlv
      have HcT := Lib.hid hct
      have HlV := Lib.hid hlv
      have Hln := Lib.hid hln
      have hlb : ln ≤ 1000000 := by rw [← hln, ← Hla.out]; exact HTg.out
      have Hlb := Lib.hid hlb
      clear hc2 hct hln hlt hlc hl hlv hcop hlb
      obtain ⟨T0, hT0⟩ : ∃ z, reI ⟨x, nw.hd, kn, false, nm, none, 0, [], ⟨#[]⟩⟩ a5 c5 = z := ⟨_, rfl⟩
      have HT0 := Lib.hid hT0
      have hC0 : MdC v6 t4 T0 false v6.drew := ⟨grown_drewN (World.grownBy.refl v6 _) 1, (by
        have h := HR6.out
        rw [hT0] at h
        exact (rowIs_of (show v6.drew.heap[t4]? = _ from rowIs_cells h) : v6.drew.rowIs t4 41 146 (itC T0)).congr fun i _ => by rw [if_neg (fun k => by cases k.1)])⟩
      have HST := Lib.hid (show ∀ (ph : Bool) (w1 w' : World), MdC v6 t4 T0 ph w1 → Ext w1 w' → MdC v6 t4 T0 ph w' ∧ w1.grownBy w' (some t4) from fun ph w1 w' h he => h.ext he)
      have ht34 : t3 ≠ t4 := fun e => by have h1 := (Array.getElem?_eq_some_iff.1 HT3.out).1; have h2 := HT4s.out; omega
      have ht24 : t2 ≠ t4 := fun e => by have h1 := (Array.getElem?_eq_some_iff.1 HA2.out).1; have h2 := HT4s.out; omega
      have HCV := Lib.hid (show ∀ (ph : Bool) (w1 : World), MdC v6 t4 T0 ph w1 → w1.cell? ⟨t3, 129, none⟩ = some (.string vv) from fun ph w1 h => grown_cellM h.grown HcV.out ht34)
      have HCT := Lib.hid (show ∀ (ph : Bool) (w1 : World), MdC v6 t4 T0 ph w1 → w1.cell? ⟨t2, 128, none⟩ = some (.slice lt ln lc) from fun ph w1 h => grown_cellM h.grown HcT.out ht24)
      have HTL := Lib.hid (show ∀ (ph : Bool) (w1 : World), MdC v6 t4 T0 ph w1 → SrAt w1 lt ln lc la.tags ∧ v6.heap.size ≤ w1.heap.size from fun ph w1 h => ⟨(HlV.out.ext (ext_gn HE6.out H4s.out h.grown)), h.grown.size⟩)
      have ht4v := (Array.getElem?_eq_some_iff.1 HC6.out).1
      have Ht4v := Lib.hid ht4v
      clear hT0 ht34 ht24 ht4v
      refine lq_start (C := MdC v6 t4 T0) (E := fun _ w w' => w.grownBy w' (some t4)) 9 8 (by omega) (by kernel_rfl) (by kernel_rfl) (fun _ w => World.grownBy.refl w _) (fun _ _ h => h) hC0 ?_
      simp only [List.take_succ_cons, List.take_zero]
      refine lq_s (.ex (.pointer (some ⟨t3, 126, none⟩))) [] (by omega) (by kernel_rfl) rfl (by rfl) trivial HST.out (fun ph w1 hw1 => ?_) ?_
      · simp only [pk, lexVals]
        clear hw1
        go_simp
        exact ⟨Ext.refl _, by first | rfl | simp⟩
      refine lq_s (.ex (.pointer (some ⟨t3, 129, none⟩))) [(0, 49)] (by omega) (by kernel_rfl) rfl (by rfl) trivial HST.out (fun ph w1 hw1 => ?_) ?_
      · simp only [pk, nthSp, lexVals]
        clear hw1
        go_simp
        exact ⟨Ext.refl _, by first | rfl | simp⟩
      refine lq_s (.ex (.string vv)) [(0, 50)] (by omega) (by kernel_rfl) rfl (by rfl) trivial HST.out (fun ph w1 hw1 => ?_) ?_
      · simp only [pk, nthSp, lexVals]
        have hc := HCV.out ph w1 hw1
        clear hw1
        go_simp
        exact ⟨Ext.refl _, by first | rfl | simp⟩
      refine lq_s (.ex (.pointer (some ⟨t2, 126, none⟩))) [] (by omega) (by kernel_rfl) rfl (by rfl) trivial HST.out (fun ph w1 hw1 => ?_) ?_
      · simp only [pk, lexVals]
        clear hw1
        go_simp
        exact ⟨Ext.refl _, by first | rfl | simp⟩
      refine lq_s (.ex (.pointer (some ⟨t2, 128, none⟩))) [(0, 52)] (by omega) (by kernel_rfl) rfl (by rfl) trivial HST.out (fun ph w1 hw1 => ?_) ?_
      · simp only [pk, nthSp, lexVals]
        clear hw1
        go_simp
        exact ⟨Ext.refl _, by first | rfl | simp⟩
      refine lq_s (.ex (.slice lt ln lc)) [(0, 53)] (by omega) (by kernel_rfl) rfl (by rfl) trivial HST.out (fun ph w1 hw1 => ?_) ?_
      · simp only [pk, nthSp, lexVals]
        have hc := HCT.out ph w1 hw1
        clear hw1
        go_simp
        exact ⟨Ext.refl _, by first | rfl | simp⟩
      refine lq_s (.ab (fun u w => ∃ a c, u = .slice a ln c ∧ w.ownsRow v6.heap.size 9 1 (.slice a ln c) ln (srC la.tags))) [(0, 54)] (by omega) (by kernel_rfl) rfl (by rfl) (fun u w w' he ⟨a, c, h1, h2⟩ => ⟨a, c, h1, h2.kept he (Or.inr fun e => by have := (h2.lt t4 e).1; have := Ht4v.out; omega)⟩) HST.out (fun ph w1 hw1 => ?_) ?_
      · simp only [pk, nthSp, lexVals]
        have HM := Lib.hid (srClone_any lt ln lc la.tags w1 (HTL.out ph w1 hw1).1 Hlb.out)
        have hz := (HTL.out ph w1 hw1).2
        clear hw1
        go_simp
        refine HM.out.mono ?_
        rintro e w3 ⟨v, rfl, hs, hE3⟩
        obtain ⟨a, c, rfl⟩ := own_slM hs
        exact ⟨_, rfl, hE3, a, c, rfl, own_monoM hs hz⟩
      refine lq_s (.ex (.pointer (some ⟨t4, 142, none⟩))) [] (by omega) (by kernel_rfl) rfl (by rfl) trivial HST.out (fun ph w1 hw1 => ?_) ?_
      · simp only [pk, lexVals]
        clear hw1
        go_simp
        exact ⟨Ext.refl _, by first | rfl | simp⟩
      refine lq_m (.ex undef) [(0, 56)] rfl (by kernel_rfl) rfl (by rfl) trivial (fun w1 hw1 => ?_) ?_
      · simp only [pk, nthSp, lexVals]
        have hc := hw1.row.cell (i := 142) (by omega)
        have hf := hw1.row.frozen 142
        have HP := Lib.hid hw1.put
        clear hw1
        go_simp
        exact ⟨HP.out.1, HP.out.2, rfl⟩
      refine lq_stop (by rfl) (by decide) fun w7 hw7 => ?_
      have HG7 := Lib.hid hw7
      clear hw7 HST hC0 HCV HCT HTL
      simp only [rv, pf, lexVals, List.drop_succ_cons, List.drop_zero]
      rintro u55 ⟨a7, c7, rfl, h55⟩
      simp only [Act.put, List.setIfInBounds_toArray, List.set_cons_zero, List.set_cons_succ]
      have H55 := Lib.hid h55
      clear h55
      have hx2 := HG7.out.row.cell (i := 145) (by omega)
      have hf2 := HG7.out.row.frozen 145
      have hx3 := HG7.out.row.cell (i := 144) (by omega)
      have hf3 := HG7.out.row.frozen 144
      go_upto_region 8 with (fail)
      have hr8 : (((w7.setCell ⟨t4, 145, none⟩ (.string vv)).setCell ⟨t4, 144, none⟩ (.slice a7 ln c7))).rowIs t4 41 146 (itC { T0 with al := true, ta := a7, tc := c7, tags := la.tags, val := vv }) := ((HG7.out.row.set 145 _).set 144 _).congr fun i hi => by
        rw [← itC_set3 T0 a7 ln c7 la.tags vv Hln.out i hi]
        simp only [true_and]
      have hg8 : w7.grownBy ((w7.setCell ⟨t4, 145, none⟩ (.string vv)).setCell ⟨t4, 144, none⟩ (.slice a7 ln c7)) (some t4) := by
        have h0 : w7.grownBy (w7.setCell ⟨t4, 145, none⟩ (.string vv)) (some t4) := grown_setCell (World.grownBy.refl w7 _) rfl _
        exact grown_setCell h0 rfl _
      obtain ⟨w8, hw8⟩ : ∃ z, ((w7.setCell ⟨t4, 145, none⟩ (.string vv)).setCell ⟨t4, 144, none⟩ (.slice a7 ln c7)) = z := ⟨_, rfl⟩
      rw [hw8] at hr8 hg8
      refine wp_world (w' := w8) hw8 ?_
      have hG8 := HG7.out.grown.trans hg8
      have hE8 := ext_gn HE6.out H4s.out hG8
      have ho8 := HO6.out.kept hG8 (Or.inr fun e => by have h1 := (HO6.out.lt t4 e).1; have h2 := (Array.getElem?_eq_some_iff.1 HT4.out).1; omega)
      have hs8 := H55.out.kept hg8 (Or.inr fun e => by have h1 := (H55.out.lt t4 e).1; have h2 := Ht4v.out; omega)
      have hz8 := (hG8.block (S + 1) (Array.getElem?_eq_some_iff.1 HZ6.out).1 (fun e => by have := Option.some.inj e; have := (Array.getElem?_eq_some_iff.1 HT3.out).1; have := HTs3.out; have := HT4s.out; omega)).trans HZ6.out
      have hv4 := (Array.getElem?_eq_some_iff.1 ((HV3.out.trans HV4.out).keep HT2.out)).1
      have HE8 := Lib.hid hE8
      have HO8 := Lib.hid ho8
      have HS8 := Lib.hid hs8
      have HZ8 := Lib.hid hz8
      have HR8 := Lib.hid hr8
      clear hw8 hr8 hg8 hG8 hE8 ho8 hs8 hz8 hv4 hx2 hf2 hx3 hf3
      obtain ⟨J1, hJ1⟩ : ∃ z, itV { T0 with al := true, ta := a7, tc := c7, tags := la.tags, val := vv } = z := ⟨_, rfl⟩
      have HJ1 := Lib.hid hJ1
      have HJs1 := Lib.hid (show J1.size = 146 ∧ J1.all (·.oneCell') = true by rw [← hJ1]; exact ⟨itV_size _, itV_one _⟩)
      have HC8 := Lib.hid (show w8.heap[t4]? = some (.cells J1 41 (0, 0)) by rw [← hJ1]; exact rowIs_cells HR8.out)
      clear hJ1
      go_wp2_with (first | (refine wpList_load_rowW rfl 41 (.tmp 11) rfl t4 rfl _ _ _ _ HC8.out Try.underlying41 rfl (by rw [HJs1.out.1]; kernel_rfl) ?_) | (refine wpList_store_row rfl 41 (.tmp 4) (.tmp 59) rfl (S + 1) _ rfl rfl _ _ HZ8.out (by rw [HJs1.out.1]; kernel_rfl) (by rw [HJs1.out.1, HZs.out]) HJs1.out.2 ?_))
      have hB4 := Below.size HE4.out
      have hE9 := below_setRow HE8.out (show w.heap.size ≤ S + 1 by rw [HS.out]; omega) J1
      have hg9 : w8.grownBy (w8.setRow (S + 1) J1) (some (S + 1)) := grown_setRow w8 _ J1
      have hSt : S + 1 < v4.heap.size := by have h2 := (Array.getElem?_eq_some_iff.1 HT3.out).1; have h3 := HTs3.out; have h4 := (Array.getElem?_eq_some_iff.1 HT4.out).1; have h5 := HT4s.out; omega
      have ho9 := HO8.out.kept hg9 (Or.inr fun e => by have h1 := (HO8.out.lt (S + 1) e).1; omega)
      have hs9 := HS8.out.kept hg9 (Or.inr fun e => by have h1 := (HS8.out.lt (S + 1) e).1; have h2 := (Array.getElem?_eq_some_iff.1 HZ6.out).1; omega)
      have hn : RwAt w nw := by rw [← Hnw.out]; exact HTop.out
      have hl : RwAt w la := by rw [← Hla.out]; exact maxN_at H.out.each _
      have hlx : RwAt w vl := by rw [← Hvl.out]; exact maxN_at H.out.each _
      have hlv : livB l = true := by unfold livB; rw [HBo3.out, Hvl.out, Hop.out]; rfl
      have hJ := HJ1.out
      have hkn := Hkn.out
      have hnm := Hnm.out
      have hxn := Hnw.out
      have hxl := Hla.out
      have htn := Htn.out
      have hT0 := HT0.out
      refine bodyPost_ret (results_cell_row rfl _ _ (S + 1) _ _ _ _ rfl (setRow_heap w8 (S + 1) _ _ _ _ HZ8.out) Try.underlying41 rfl (by rw [HJs1.out.1]; kernel_rfl)) rfl ?_
      have hln := Hln.out
      have hvz : vv.size ≤ 140737488351232 := by rw [← Hvv.out]; exact hlx.val
      subst hln
      exact made_fin hxn hxl hn hl hE9 hB4 htn ho9 hlv.symm (by rw [if_pos rfl]) (by rw [if_pos rfl, Hvl.out, Hvv.out]) (own_monoM hs9 (Below.size HE6.out)) hvz (by rw [← hJ, ← hT0, ← hkn, ← hnm]; rfl)
    · have x1 : (op == 1) = false := beq_eq_false_iff_ne.2 hop
      go_upto_region 8 with (fail)
      go_wp2_with (first | (refine wpList_load_rowW rfl 41 (.tmp 11) rfl t4 rfl _ _ _ _ HC6.out Try.underlying41 rfl (by rw [HJs.out.1]; kernel_rfl) ?_) | (refine wpList_store_row rfl 41 (.tmp 4) (.tmp 59) rfl (S + 1) _ rfl rfl _ _ HZ6.out (by rw [HJs.out.1]; kernel_rfl) (by rw [HJs.out.1, HZs.out]) HJs.out.2 ?_))
      have hB4 := Below.size HE4.out
      have hE7 := below_setRow HE6.out (show w.heap.size ≤ S + 1 by rw [HS.out]; omega) J
      have hg7 : v6.grownBy (v6.setRow (S + 1) J) (some (S + 1)) := grown_setRow v6 _ J
      have ho7 := HO6.out.kept hg7 (Or.inr fun e => by have h1 := (HO6.out.lt (S + 1) e).1; have h2 := (Array.getElem?_eq_some_iff.1 HT3.out).1; have h3 := HTs3.out; have h4 := (Array.getElem?_eq_some_iff.1 HT4.out).1; have h5 := HT4s.out; omega)
      have hn : RwAt w nw := by rw [← Hnw.out]; exact HTop.out
      have hl : RwAt w la := by rw [← Hla.out]; exact maxN_at H.out.each _
      have hlv : livB l = false := by unfold livB; rw [HBo3.out, Hvl.out, beq_eq_false_iff_ne.2 (show vl.op ≠ 1 by rw [Hop.out]; exact hop)]; rfl
      have hJ := HJ.out
      have hkn := Hkn.out
      have hnm := Hnm.out
      have hxn := Hnw.out
      have hxl := Hla.out
      have htn := Htn.out
      refine bodyPost_ret (results_cell_row rfl _ _ (S + 1) _ _ _ _ rfl (setRow_heap v6 (S + 1) _ _ _ _ HZ6.out) Try.underlying41 rfl (by rw [HJs.out.1]; kernel_rfl)) rfl ?_
      exact made_fin hxn hxl hn hl hE7 hB4 htn ho7 hlv.symm (by rw [if_neg (by decide)]) (by rw [if_neg (by decide)]) (World.ownsRow_nil _ _ _ _) (by show (0 : Nat) ≤ _; omega) (by rw [← hJ, ← hkn, ← hnm]; rfl)

end Go.Proofs.Ytldaligeckjhaaa
