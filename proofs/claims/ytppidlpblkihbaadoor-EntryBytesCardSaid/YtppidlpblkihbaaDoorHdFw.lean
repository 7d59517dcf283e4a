/-
  A formed header's bytes are parsed as that header; equal bytes are the bytes of equal headers: plain laws. No conditions.
-/
import Derived.Test.YtppidlpblkihbaaDoorHdPk
import Derived.Test.YtppidlpblkihbaaDoorHdSame
namespace Go.Proofs.YtppidlpblkihbaaDoor
open Go.ChangeShapes Go.WideShapes Go.ChangeAt Go.RowKit

theorem rawP_fwd (L r : List Int) (k : Nat) (h : L.length = k) : rawP (L ++ r) false k = (L, r, false) := by
  unfold rawP
  rw [if_neg (by simp only [Bool.false_eq_true, false_or, List.length_append]; omega)]
  subst h
  simp
theorem flagP_fwd (f : Bool) (r : List Int) : flagP ([if f then 1 else 0] ++ r) false = (f, r, false) := by
  unfold flagP
  cases f <;> simp
theorem tokS_fwd (ts : List (Nat → Int)) : ∀ (k : Nat) (r : List Int), tokS (toksL ts k ++ r) false k = (r, false)
  | 0, r => rfl
  | k + 1, r => by
    have h1 := tokS_fwd ts k (ln 16 (ts.getD k fun _ => 0) ++ r)
    rw [tokS, toksL, List.append_assoc, h1]
    simp only
    rw [show (16 : Int) = ((16 : Nat) : Int) from rfl, rawP_fwd _ r 16 (ln_length _ _)]
theorem toksL_split (ts : List (Nat → Int)) (i : Nat) : ∀ d, ∃ m, toksL ts (i + d) = toksL ts i ++ m
  | 0 => ⟨[], by simp⟩
  | d + 1 => by
    obtain ⟨m, hm⟩ := toksL_split ts i d
    exact ⟨m ++ ln 16 (ts.getD (i + d) fun _ => 0), by rw [show i + (d + 1) = (i + d) + 1 by omega, toksL, hm, List.append_assoc]⟩
theorem ln_getD (n : Nat) (f : Nat → Int) (j : Nat) (h : j < n) : (ln n f).getD j 0 = f j := by
  unfold ln
  rw [List.getD_eq_getElem?_getD, List.getElem?_map, List.getElem?_range h]
  rfl
theorem tokX_fwd (ts : List (Nat → Int)) (K i : Nat) (hi : i < K) (r : List Int) (j : Nat) (hj : j < 16) : tokX (toksL ts K ++ r) false i j = (ts.getD i fun _ => 0) j := by
  obtain ⟨m, hm⟩ := toksL_split ts (i + 1) (K - (i + 1))
  rw [show i + 1 + (K - (i + 1)) = K by omega] at hm
  unfold tokX
  rw [hm, toksL, List.append_assoc, List.append_assoc, tokS_fwd ts i]
  simp only
  rw [show (16 : Int) = ((16 : Nat) : Int) from rfl, rawP_fwd _ _ 16 (ln_length _ _)]
  exact ln_getD 16 _ j hj
theorem knS_fwd (f : Nat → Int) : ∀ (k : Nat) (r : List Int), (∀ i, i < k → 0 ≤ f i ∧ f i ≤ 1048576) → knS (knL f k ++ r) false k = (r, false)
  | 0, r, _ => rfl
  | k + 1, r, h => by
    have h1 := knS_fwd f k (numL (f k) ++ r) (fun i hi => h i (by omega))
    have h2 := h k (by omega)
    rw [knS, knL, List.append_assoc, h1]
    simp only
    rw [numP_fwd (f k) 1048576 r h2.1 h2.2 (by omega)]
theorem knL_split (f : Nat → Int) (i : Nat) : ∀ d, ∃ m, knL f (i + d) = knL f i ++ m
  | 0 => ⟨[], by simp⟩
  | d + 1 => by
    obtain ⟨m, hm⟩ := knL_split f i d
    exact ⟨m ++ numL (f (i + d)), by rw [show i + (d + 1) = (i + d) + 1 by omega, knL, hm, List.append_assoc]⟩
theorem knX_fwd (f : Nat → Int) (K i : Nat) (hi : i < K) (r : List Int) (h : ∀ i, i < K → 0 ≤ f i ∧ f i ≤ 1048576) : knX (knL f K ++ r) false i = f i := by
  obtain ⟨m, hm⟩ := knL_split f (i + 1) (K - (i + 1))
  rw [show i + 1 + (K - (i + 1)) = K by omega] at hm
  have h2 := h i hi
  unfold knX
  rw [hm, knL, List.append_assoc, List.append_assoc, knS_fwd f i _ (fun j hj => h j (by omega))]
  simp only
  rw [numP_fwd (f i) 1048576 _ h2.1 h2.2 (by omega)]

/-- Two headers say the same. -/
structure HdEq (h g : Hd) (ts us : List (Nat → Int)) : Prop where
  writer : h.writer = g.writer
  seq : h.seq = g.seq
  prev : ∀ j, j < 32 → h.prev j = g.prev j
  epoch : h.epoch = g.epoch
  ctl : h.ctl = g.ctl
  time : h.time = g.time
  item : ∀ j, j < 16 → h.item j = g.item j
  tn : h.tn = g.tn
  toks : ∀ i, i < h.tn → ∀ j, j < 16 → (ts.getD i fun _ => 0) j = (us.getD i fun _ => 0) j
  knows : ∀ j, j < 6 → h.knows j = g.knows j
  sum : ∀ j, j < 32 → h.sum j = g.sum j
  size : h.size = g.size
  code : ∀ j, j < 32 → h.code j = g.code j

theorem HdEq.symm {h g : Hd} {ts us : List (Nat → Int)} (e : HdEq h g ts us) : HdEq g h us ts :=
  ⟨e.writer.symm, e.seq.symm, fun j hj => (e.prev j hj).symm, e.epoch.symm, e.ctl.symm, e.time.symm, fun j hj => (e.item j hj).symm, e.tn.symm, fun i hi j hj => (e.toks i (by rw [e.tn]; exact hi) j hj).symm, fun j hj => (e.knows j hj).symm, fun j hj => (e.sum j hj).symm, e.size.symm, fun j hj => (e.code j hj).symm⟩
theorem HdEq.trans {h g k : Hd} {ts us vs : List (Nat → Int)} (e : HdEq h g ts us) (f : HdEq g k us vs) : HdEq h k ts vs :=
  ⟨e.writer.trans f.writer, e.seq.trans f.seq, fun j hj => (e.prev j hj).trans (f.prev j hj), e.epoch.trans f.epoch, e.ctl.trans f.ctl, e.time.trans f.time, fun j hj => (e.item j hj).trans (f.item j hj), e.tn.trans f.tn, fun i hi j hj => (e.toks i hi j hj).trans (f.toks i (by rw [← e.tn]; exact hi) j hj), fun j hj => (e.knows j hj).trans (f.knows j hj), fun j hj => (e.sum j hj).trans (f.sum j hj), e.size.trans f.size, fun j hj => (e.code j hj).trans (f.code j hj)⟩
theorem HdEq.refl (h : Hd) (ts : List (Nat → Int)) : HdEq h h ts ts := ⟨rfl, rfl, fun _ _ => rfl, rfl, rfl, rfl, fun _ _ => rfl, rfl, fun _ _ _ _ => rfl, fun _ _ => rfl, fun _ _ => rfl, rfl, fun _ _ => rfl⟩

theorem sameB_iff {h g : Hd} {ts us : List (Nat → Int)} (h1 : ts.length = h.tn) (h2 : us.length = g.tn) : sameB h g ts us = true ↔ HdEq h g ts us := by
  unfold sameB sm10 sm9 sm8 sm7 sm6 sm5 sm4 sm3 sm2 sm1 sm0 tsB arrB
  simp only [Bool.and_eq_true, decide_eq_true_eq, beq_iff_eq]
  rw [tsFrom_iff]
  unfold arrB
  simp only [decide_eq_true_eq]
  constructor
  · rintro ⟨⟨a1, a2⟩, ⟨⟨⟨⟨⟨⟨⟨⟨⟨⟨b1, b2⟩, b3⟩, b4⟩, b5⟩, b6⟩, b7⟩, b8⟩, b9⟩, b10⟩, b11⟩⟩
    exact ⟨b1, b2, b3, b4, b5, b6, b7, by omega, fun i hi j hj => a2 i (by omega) (Nat.zero_le _) j hj, b8, b9, b10, b11⟩
  · intro e
    have := e.tn
    exact ⟨⟨by omega, fun i hi _ j hj => e.toks i (by omega) j hj⟩, ⟨⟨⟨⟨⟨⟨⟨⟨⟨⟨e.writer, e.seq⟩, e.prev⟩, e.epoch⟩, e.ctl⟩, e.time⟩, e.item⟩, e.knows⟩, e.sum⟩, e.size⟩, e.code⟩⟩

theorem ln_congr {n : Nat} {f g : Nat → Int} (h : ∀ j, j < n → f j = g j) : ln n f = ln n g := List.map_congr_left fun j hj => h j (List.mem_range.1 hj)
theorem toksL_congr {ts us : List (Nat → Int)} : ∀ k, (∀ i, i < k → ∀ j, j < 16 → (ts.getD i fun _ => 0) j = (us.getD i fun _ => 0) j) → toksL ts k = toksL us k
  | 0, _ => rfl
  | k + 1, h => by rw [toksL, toksL, toksL_congr k (fun i hi => h i (by omega)), ln_congr (h k (by omega))]
theorem knL_congr {f g : Nat → Int} : ∀ k, (∀ i, i < k → f i = g i) → knL f k = knL g k
  | 0, _ => rfl
  | k + 1, h => by rw [knL, knL, knL_congr k (fun i hi => h i (by omega)), h k (by omega)]
theorem cmpTok_congr {f g f' g' : Nat → Int} (h : ∀ j, j < 16 → f j = f' j) (k : ∀ j, j < 16 → g j = g' j) : cmpTok f g = cmpTok f' g' := by
  unfold cmpTok
  rw [List.map_congr_left fun j hj => h j (List.mem_range.1 hj), List.map_congr_left fun j hj => k j (List.mem_range.1 hj)]
theorem risesB_congr : ∀ {ts us : List (Nat → Int)}, ts.length = us.length → (∀ i, i < ts.length → ∀ j, j < 16 → (ts.getD i fun _ => 0) j = (us.getD i fun _ => 0) j) → risesB ts = risesB us
  | [], us, hl, _ => by
    obtain rfl : us = [] := List.eq_nil_of_length_eq_zero hl.symm
    rfl
  | [a], us, hl, _ => by
    obtain ⟨x, rfl⟩ := List.length_eq_one_iff.1 hl.symm
    rfl
  | a :: b :: l, us, hl, h => by
    match us, hl with
    | x :: y :: m, hl =>
      have h0 : ∀ j, j < 16 → a j = x j := h 0 (by simp)
      have h1 : ∀ j, j < 16 → b j = y j := h 1 (by simp)
      have h2 := risesB_congr (ts := b :: l) (us := y :: m) (by simpa using hl) (fun i hi => h (i + 1) (by simpa using hi))
      rw [risesB, risesB, h2, cmpTok_congr h0 h1]

theorem hdB_congr {h g : Hd} {ts us : List (Nat → Int)} (h1 : ts.length = h.tn) (h2 : us.length = g.tn) (e : HdEq h g ts us) (hf : hdB h ts = true) : hdB g us = true := by
  have hbd := hdB_bd hf
  unfold hdB placedB numsB knB zeroB at hf ⊢
  simp only [Bool.and_eq_true, Bool.or_eq_true, Bool.not_eq_true', decide_eq_true_eq, List.all_eq_true, List.mem_range] at hf ⊢
  obtain ⟨⟨⟨⟨⟨a1, a2, a3⟩, a4⟩, a5⟩, a6⟩, a7⟩ := hf
  have t := e.tn
  rw [← e.writer, ← e.seq, ← e.epoch, ← e.time, ← e.size, ← e.ctl, ← e.tn, ← risesB_congr (ts := ts) (us := us) (by omega) (fun i hi => e.toks i (by omega))]
  refine ⟨⟨⟨⟨⟨?_, fun i hi => ?_, ?_⟩, a4⟩, a5⟩, a6⟩, ?_⟩
  · rw [← e.knows _ (by omega)]; exact a1
  · rw [← e.knows i hi]; exact a2 i hi
  · rcases a3 with q | q
    · exact .inl q
    · exact .inr fun j hj => by rw [← e.prev j hj]; exact q j hj
  · rcases a7 with q | q
    · exact .inl q
    · exact .inr ⟨q.1, fun j hj => by rw [← e.item j hj]; exact q.2 j hj⟩
theorem bytesL_congr {h g : Hd} {ts us : List (Nat → Int)} (h1 : ts.length = h.tn) (h2 : us.length = g.tn) (e : HdEq h g ts us) : bytesL h ts = bytesL g us := by
  have hb : hdB h ts = hdB g us := by
    rw [Bool.eq_iff_iff]
    exact ⟨hdB_congr h1 h2 e, hdB_congr h2 h1 e.symm⟩
  unfold bytesL coreL
  rw [hb, e.writer, e.seq, ln_congr e.prev, e.epoch, e.ctl, e.time, ln_congr e.item, toksL_congr h.tn e.toks, e.tn, knL_congr 6 e.knows, ln_congr e.sum, e.size, ln_congr e.code]

/-- What is formed is parsed of its bytes. -/
theorem hd_fwd {h : Hd} {ts : List (Nat → Int)} (ho : HdOk h) (hl : ts.length = h.tn) (hf : hdB h ts = true) (a : Option Addr) (c : Nat) :
    hdTaken (bytesL h ts) = true ∧ (hq8 (bytesL h ts)).1.toNat = h.tn ∧ HdEq (hdOf (bytesL h ts) a c) h (tsOf (bytesL h ts)) ts := by
  obtain ⟨d1, d2, d3, d4, d5, d6, d7⟩ := hdB_bd hf
  have d8 := ho.time.1
  obtain ⟨b, hb⟩ : ∃ b, bytesL h ts = b := ⟨_, rfl⟩
  rw [hb]
  unfold bytesL at hb
  rw [if_pos hf] at hb
  unfold coreL at hb
  simp only [List.append_assoc] at hb
  obtain ⟨r11, h11⟩ : ∃ r, ln 32 h.code = r := ⟨_, rfl⟩
  rw [h11] at hb
  obtain ⟨r10, h10⟩ : ∃ r, numL h.size ++ r11 = r := ⟨_, rfl⟩
  rw [h10] at hb
  obtain ⟨r9, h9⟩ : ∃ r, ln 32 h.sum ++ r10 = r := ⟨_, rfl⟩
  rw [h9] at hb
  obtain ⟨rK, hK⟩ : ∃ r, knL h.knows 6 ++ r9 = r := ⟨_, rfl⟩
  rw [hK] at hb
  obtain ⟨rT, hT⟩ : ∃ r, toksL ts h.tn ++ rK = r := ⟨_, rfl⟩
  rw [hT] at hb
  obtain ⟨r8, h8⟩ : ∃ r, numL (h.tn : Int) ++ rT = r := ⟨_, rfl⟩
  rw [h8] at hb
  obtain ⟨r7, h7⟩ : ∃ r, ln 16 h.item ++ r8 = r := ⟨_, rfl⟩
  rw [h7] at hb
  obtain ⟨r6, h6⟩ : ∃ r, numL h.time ++ r7 = r := ⟨_, rfl⟩
  rw [h6] at hb
  obtain ⟨r5, h5⟩ : ∃ r, [if h.ctl then 1 else 0] ++ r6 = r := ⟨_, rfl⟩
  rw [h5] at hb
  obtain ⟨r4, h4⟩ : ∃ r, numL h.epoch ++ r5 = r := ⟨_, rfl⟩
  rw [h4] at hb
  obtain ⟨r3, h3⟩ : ∃ r, ln 32 h.prev ++ r4 = r := ⟨_, rfl⟩
  rw [h3] at hb
  obtain ⟨r2, h2⟩ : ∃ r, numL h.seq ++ r3 = r := ⟨_, rfl⟩
  rw [h2] at hb
  have q1 : hq1 b = (h.writer, r2, false) := by unfold hq1; rw [← hb]; exact numP_fwd _ 6 _ (by omega) (by omega) (by omega)
  have q2 : hq2 b = (h.seq, r3, false) := by unfold hq2; rw [q1, ← h2]; exact numP_fwd _ 1048576 _ (by omega) (by omega) (by omega)
  have q3 : hq3 b = (ln 32 h.prev, r4, false) := by unfold hq3; rw [q2, ← h3]; exact rawP_fwd _ _ 32 (ln_length _ _)
  have q4 : hq4 b = (h.epoch, r5, false) := by unfold hq4; rw [q3, ← h4]; exact numP_fwd _ 255 _ (by omega) (by omega) (by omega)
  have q5 : hq5 b = (h.ctl, r6, false) := by unfold hq5; rw [q4, ← h5]; exact flagP_fwd _ _
  have q6 : hq6 b = (h.time, r7, false) := by unfold hq6; rw [q5, ← h6]; exact numP_fwd _ 1099511627776 _ (by omega) (by omega) (by omega)
  have q7 : hq7 b = (ln 16 h.item, r8, false) := by unfold hq7; rw [q6, ← h7]; exact rawP_fwd _ _ 16 (ln_length _ _)
  have q8 : hq8 b = ((h.tn : Int), rT, false) := by unfold hq8; rw [q7, ← h8]; exact numP_fwd _ 8 _ (by omega) (by omega) (by omega)
  have qn : (hq8 b).1.toNat = h.tn := by rw [q8]; simp
  have qT : hqT b = (rK, false) := by unfold hqT; rw [qn, q8, ← hT]; exact tokS_fwd ts h.tn rK
  have hkn : ∀ i, i < 6 → 0 ≤ h.knows i ∧ h.knows i ≤ 1048576 := fun i hi => ⟨(ho.knows i hi).1, d7 i hi⟩
  have qK : hqK b = (r9, false) := by unfold hqK; rw [qT, ← hK]; exact knS_fwd h.knows 6 r9 hkn
  have q9 : hq9 b = (ln 32 h.sum, r10, false) := by unfold hq9; rw [qK, ← h9]; exact rawP_fwd _ _ 32 (ln_length _ _)
  have q10 : hq10 b = (h.size, r11, false) := by unfold hq10; rw [q9, ← h10]; exact numP_fwd _ 2064 _ (by omega) (by omega) (by omega)
  have q11 : hq11 b = (ln 32 h.code, [], false) := by unfold hq11; rw [q10, ← h11]; simpa using rawP_fwd (ln 32 h.code) [] 32 (ln_length _ _)
  have hts : ∀ i, i < h.tn → ∀ j, j < 16 → ((tsOf b).getD i fun _ => 0) j = (ts.getD i fun _ => 0) j := fun i hi j hj => by
    unfold tsOf
    rw [qn, List.getD_eq_getElem?_getD, List.getElem?_map, List.getElem?_range hi]
    show tokX (hq8 b).2.1 (hq8 b).2.2 i j = _
    rw [q8, ← hT]
    exact tokX_fwd ts h.tn i hi rK j hj
  have heq : ∀ a c, HdEq (hdOf b a c) h (tsOf b) ts := fun a c => by
    refine ⟨?_, ?_, fun j hj => ?_, ?_, ?_, ?_, fun j hj => ?_, ?_, fun i hi j hj => ?_, fun j hj => ?_, fun j hj => ?_, ?_, fun j hj => ?_⟩
    · show (hq1 b).1 = _; rw [q1]
    · show (hq2 b).1 = _; rw [q2]
    · show arF (hq3 b).1 j = _; rw [q3]; exact ln_getD 32 _ j hj
    · show (hq4 b).1 = _; rw [q4]
    · show (hq5 b).1 = _; rw [q5]
    · show (hq6 b).1 = _; rw [q6]
    · show arF (hq7 b).1 j = _; rw [q7]; exact ln_getD 16 _ j hj
    · exact qn
    · exact hts i (by rw [← qn]; exact hi) j hj
    · show (if j < 6 then knX (hqT b).1 (hqT b).2 j else 0) = _; rw [if_pos hj, qT, ← hK]; exact knX_fwd h.knows 6 j hj r9 hkn
    · show arF (hq9 b).1 j = _; rw [q9]; exact ln_getD 32 _ j hj
    · show (hq10 b).1 = _; rw [q10]
    · show arF (hq11 b).1 j = _; rw [q11]; exact ln_getD 32 _ j hj
  have hlen : (tsOf b).length = h.tn := by unfold tsOf; rw [List.length_map, List.length_range, qn]
  have hB : hdB (hdOf b none 0) (tsOf b) = true := hdB_congr (h := h) (ts := ts) hl (by rw [hlen]; exact qn.symm) (heq none 0).symm hf
  refine ⟨?_, qn, heq a c⟩
  unfold hdTaken
  rw [q11, hB]
  rfl

theorem tsOf_len (b : List Int) (a : Option Addr) (c : Nat) : (tsOf b).length = (hdOf b a c).tn := by
  unfold tsOf
  rw [List.length_map, List.length_range]
  rfl

/-- Two formed headers are the same if their bytes are. -/
theorem same_bytes {h g : Hd} {ts us : List (Nat → Int)} (ho : HdOk h) (go : HdOk g) (h1 : ts.length = h.tn) (h2 : us.length = g.tn) (hf : hdB h ts = true) (gf : hdB g us = true) : sameB h g ts us = decide (bytesL h ts = bytesL g us) := by
  rw [Bool.eq_iff_iff, sameB_iff h1 h2, decide_eq_true_eq]
  constructor
  · exact bytesL_congr h1 h2
  · intro e
    have e1 := (hd_fwd ho h1 hf none 0).2.2
    have e2 := (hd_fwd go h2 gf none 0).2.2
    rw [e] at e1
    exact e1.symm.trans e2

theorem taken_nil : hdTaken [] = false := by decide +kernel

end Go.Proofs.YtppidlpblkihbaaDoor
