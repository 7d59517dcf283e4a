/-
  What a proof's bytes are parsed as: plain; what is parsed was packed so, and the other way round. No conditions.
-/
import Derived.Test.YtdhbkjajhbfihaaPrL
import Derived.Test.YtdhbkjajhbfihaaHdQ
namespace Go.Proofs.Ytdhbkjajhbfihaa
open Go.ChangeShapes Go.WideShapes Go.ChangeAt Go.RowKit

/-- The header that a text is parsed as. -/
def hdTk (t : List Int) : HT := if hdTaken t = true then (hdOf t none 0, tsOf t) else htN
def pK (b : List Int) := numP b false 4
def pA (b : List Int) := textP (pK b).2.1 (pK b).2.2 4096
def pB (b : List Int) := textP (pA b).2.1 (pA b).2.2 4096
def pW (b : List Int) := numP (pK b).2.1 (pK b).2.2 6
def pF (b : List Int) := numP (pW b).2.1 (pW b).2.2 1048576
def pH (b : List Int) := numP (pF b).2.1 (pF b).2.2 1048576
def pN (b : List Int) := numP (pA b).2.1 (pA b).2.2 8
def pT (b : List Int) := tokS (pN b).2.1 (pN b).2.2 (pN b).1.toNat
/-- What is left, whether it has failed. -/
def prRest (b : List Int) : List Int × Bool := if (pK b).1 = 1 ∨ (pK b).1 = 2 then (pB b).2 else if (pK b).1 = 3 then (pH b).2 else if (pK b).1 = 4 then pT b else (pK b).2
def pWs (b : List Int) : List (Nat → Int) := (List.range (pN b).1.toNat).map (tokX (pN b).2.1 (pN b).2.2)
/-- The proof that is parsed, its tokens lying nowhere. -/
def prOf (b : List Int) : Pr :=
  if (pK b).1 = 1 ∨ (pK b).1 = 2 then ⟨(pK b).1, hdTk (pA b).1, hdTk (pB b).1, 0, 0, 0, none, 0, 0, []⟩
  else if (pK b).1 = 3 then ⟨3, htN, htN, (pW b).1, (pF b).1, (pH b).1, none, 0, 0, []⟩
  else if (pK b).1 = 4 then ⟨4, hdTk (pA b).1, htN, 0, 0, 0, none, (pN b).1.toNat, 0, pWs b⟩
  else prZ (pK b).1
/-- Whether a proof is taken of some bytes. -/
def prTk (b : List Int) : Bool := !(prRest b).2 && decide ((prRest b).1.length = 0) && prB (prOf b)

theorem hdB_htN : hdB htN.1 htN.2 = false := by decide +kernel
theorem hdTk_back {t : List Int} (hb : ∀ c ∈ t, 0 ≤ c ∧ c < 256) (h : hdB (hdTk t).1 (hdTk t).2 = true) : bytesL (hdTk t).1 (hdTk t).2 = t := by
  unfold hdTk at h ⊢
  by_cases hd : hdTaken t = true
  · rw [if_pos hd]
    exact (hd_back hb hd none 0).symm
  · rw [if_neg hd, hdB_htN] at h
    cases h

section
variable {b : List Int} (hb : ∀ c ∈ b, 0 ≤ c ∧ c < 256)
include hb
theorem pK_byte : ∀ c ∈ (pK b).2.1, 0 ≤ c ∧ c < 256 := numP_byte hb
theorem pA_byte : ∀ c ∈ (pA b).2.1, 0 ≤ c ∧ c < 256 := textP_byte (pK_byte hb)
theorem pA_byte1 : ∀ c ∈ (pA b).1, 0 ≤ c ∧ c < 256 := textP_byte1 (pK_byte hb)
theorem pB_byte : ∀ c ∈ (pB b).2.1, 0 ≤ c ∧ c < 256 := textP_byte (pA_byte hb)
theorem pB_byte1 : ∀ c ∈ (pB b).1, 0 ≤ c ∧ c < 256 := textP_byte1 (pA_byte hb)
theorem pW_byte : ∀ c ∈ (pW b).2.1, 0 ≤ c ∧ c < 256 := numP_byte (pK_byte hb)
theorem pF_byte : ∀ c ∈ (pF b).2.1, 0 ≤ c ∧ c < 256 := numP_byte (pW_byte hb)
theorem pN_byte : ∀ c ∈ (pN b).2.1, 0 ≤ c ∧ c < 256 := numP_byte (pA_byte hb)

/-- What is taken as a proof is its bytes. -/
theorem pr_back (h : prTk b = true) : prL (prOf b) = b := by
  unfold prTk at h
  simp only [Bool.and_eq_true, Bool.not_eq_true', decide_eq_true_eq] at h
  obtain ⟨⟨h0, h1⟩, hf⟩ := h
  have hk := prB_kind hf
  by_cases k12 : (pK b).1 = 1 ∨ (pK b).1 = 2
  · have ho : prOf b = ⟨(pK b).1, hdTk (pA b).1, hdTk (pB b).1, 0, 0, 0, none, 0, 0, []⟩ := by unfold prOf; rw [if_pos k12]
    have hr : prRest b = (pB b).2 := by unfold prRest; rw [if_pos k12]
    rw [hr] at h0 h1
    rw [ho] at hf ⊢
    have h2 : hdB (hdTk (pA b).1).1 (hdTk (pA b).1).2 = true ∧ hdB (hdTk (pB b).1).1 (hdTk (pB b).1).2 = true := by
      unfold prB at hf
      rw [if_pos k12] at hf
      simp only [Bool.and_eq_true] at hf
      exact ⟨hf.1.1.1, hf.1.1.2⟩
    have qB := textP_back (xs := (pA b).2.1) (bad := (pA b).2.2) (most := 4096) (t := (pB b).1) (ys := (pB b).2.1) (pA_byte hb) (Prod.ext rfl (Prod.ext rfl h0))
    have qA := textP_back (xs := (pK b).2.1) (bad := (pK b).2.2) (most := 4096) (t := (pA b).1) (ys := (pA b).2.1) (pK_byte hb) (Prod.ext rfl (Prod.ext rfl qB.1))
    have qK := numP_back (xs := b) (bad := false) (most := 4) (v := (pK b).1) (ys := (pK b).2.1) hb (Prod.ext rfl (Prod.ext rfl qA.1))
    have e0 : (pB b).2.1 = [] := List.eq_nil_of_length_eq_zero h1
    unfold prL
    show numL (pK b).1 ++ (if (pK b).1 = 3 then _ else textL (bytesL (hdTk (pA b).1).1 (hdTk (pA b).1).2) ++ (if (pK b).1 = 4 then _ else textL (bytesL (hdTk (pB b).1).1 (hdTk (pB b).1).2))) = b
    rw [if_neg (by omega), if_neg (by omega), hdTk_back (pA_byte1 hb) h2.1, hdTk_back (pB_byte1 hb) h2.2]
    have e1 := qB.2.1
    rw [e0, List.append_nil] at e1
    rw [← e1, ← qA.2.1]
    exact qK.2.1.symm
  · by_cases k3 : (pK b).1 = 3
    · have ho : prOf b = ⟨3, htN, htN, (pW b).1, (pF b).1, (pH b).1, none, 0, 0, []⟩ := by unfold prOf; rw [if_neg k12, if_pos k3]
      have hr : prRest b = (pH b).2 := by unfold prRest; rw [if_neg k12, if_pos k3]
      rw [hr] at h0 h1
      rw [ho]
      have qH := numP_back (xs := (pF b).2.1) (bad := (pF b).2.2) (most := 1048576) (v := (pH b).1) (ys := (pH b).2.1) (pF_byte hb) (Prod.ext rfl (Prod.ext rfl h0))
      have qF := numP_back (xs := (pW b).2.1) (bad := (pW b).2.2) (most := 1048576) (v := (pF b).1) (ys := (pF b).2.1) (pW_byte hb) (Prod.ext rfl (Prod.ext rfl qH.1))
      have qW := numP_back (xs := (pK b).2.1) (bad := (pK b).2.2) (most := 6) (v := (pW b).1) (ys := (pW b).2.1) (pK_byte hb) (Prod.ext rfl (Prod.ext rfl qF.1))
      have qK := numP_back (xs := b) (bad := false) (most := 4) (v := (pK b).1) (ys := (pK b).2.1) hb (Prod.ext rfl (Prod.ext rfl qW.1))
      have e0 : (pH b).2.1 = [] := List.eq_nil_of_length_eq_zero h1
      unfold prL
      show numL 3 ++ (if (3 : Int) = 3 then numL (pW b).1 ++ numL (pF b).1 ++ numL (pH b).1 else _) = b
      rw [if_pos rfl]
      have e1 := qH.2.1
      rw [e0, List.append_nil] at e1
      rw [List.append_assoc, ← e1, ← qF.2.1, ← qW.2.1]
      have e2 := qK.2.1
      rw [k3] at e2
      exact e2.symm
    · by_cases k4 : (pK b).1 = 4
      · have ho : prOf b = ⟨4, hdTk (pA b).1, htN, 0, 0, 0, none, (pN b).1.toNat, 0, pWs b⟩ := by unfold prOf; rw [if_neg k12, if_neg k3, if_pos k4]
        have hr : prRest b = pT b := by unfold prRest; rw [if_neg k12, if_neg k3, if_pos k4]
        rw [hr] at h0 h1
        rw [ho] at hf ⊢
        have h2 : hdB (hdTk (pA b).1).1 (hdTk (pA b).1).2 = true := by
          unfold prB at hf
          rw [if_neg (by show ¬((4 : Int) = 1 ∨ (4 : Int) = 2); omega), if_neg (by show ¬((4 : Int) = 3); omega)] at hf
          simp only [Bool.and_eq_true] at hf
          exact hf.1.1.1.1.2
        have qT := tokS_back (xs := (pN b).2.1) (bad := (pN b).2.2) (pN b).1.toNat h0
        have qN := numP_back (xs := (pA b).2.1) (bad := (pA b).2.2) (most := 8) (v := (pN b).1) (ys := (pN b).2.1) (pA_byte hb) (Prod.ext rfl (Prod.ext rfl qT.1))
        have qA := textP_back (xs := (pK b).2.1) (bad := (pK b).2.2) (most := 4096) (t := (pA b).1) (ys := (pA b).2.1) (pK_byte hb) (Prod.ext rfl (Prod.ext rfl qN.1))
        have qK := numP_back (xs := b) (bad := false) (most := 4) (v := (pK b).1) (ys := (pK b).2.1) hb (Prod.ext rfl (Prod.ext rfl qA.1))
        have e0 : (pT b).1 = [] := List.eq_nil_of_length_eq_zero h1
        have eT := qT.2 (pWs b) (fun i hi => by
          unfold pWs
          rw [List.getD_eq_getElem?_getD, List.getElem?_map, List.getElem?_range hi]
          rfl)
        unfold pT at e0
        rw [e0, List.append_nil] at eT
        unfold prL
        show numL 4 ++ (if (4 : Int) = 3 then _ else textL (bytesL (hdTk (pA b).1).1 (hdTk (pA b).1).2) ++ (if (4 : Int) = 4 then numL (((pN b).1.toNat : Nat) : Int) ++ toksL (pWs b) (pN b).1.toNat else _)) = b
        rw [if_neg (by omega), if_pos rfl, hdTk_back (pA_byte1 hb) h2, show (((pN b).1.toNat : Nat) : Int) = (pN b).1 by have := qN.2.2.1; omega, ← eT, ← qN.2.1, ← qA.2.1]
        have e2 := qK.2.1
        rw [k4] at e2
        exact e2.symm
      · exfalso
        have ho : prOf b = prZ (pK b).1 := by unfold prOf; rw [if_neg k12, if_neg k3, if_neg k4]
        rw [ho] at hk
        have : (pK b).1 = 1 ∨ (pK b).1 = 2 ∨ (pK b).1 = 3 ∨ (pK b).1 = 4 := hk
        omega
end

/-- Two proofs say the same. -/
structure PrEq (p q : Pr) : Prop where
  kind : p.kind = q.kind
  a : HdEq p.a.1 q.a.1 p.a.2 q.a.2
  b : HdEq p.b.1 q.b.1 p.b.2 q.b.2
  writer : p.writer = q.writer
  floor : p.floor = q.floor
  head : p.head = q.head
  wn : p.wn = q.wn
  toks : ∀ i, i < p.wn → ∀ j, j < 16 → (p.ws.getD i fun _ => 0) j = (q.ws.getD i fun _ => 0) j

theorem hdEq_blk {h : Hd} {ts : List (Nat → Int)} (hl : ts.length = h.tn) (hb : blkB h = true) : HdEq htN.1 h htN.2 ts := by
  rw [← blkB_same hl, sameB_iff hl rfl] at hb
  exact hb.symm
theorem blkB_htN : blkB htN.1 = true := by decide +kernel
theorem hdTk_fwd {h : Hd} {ts : List (Nat → Int)} (ho : HdOk h) (hl : ts.length = h.tn) (hf : hdB h ts = true) : HdEq (hdTk (bytesL h ts)).1 h (hdTk (bytesL h ts)).2 ts ∧ hdB (hdTk (bytesL h ts)).1 (hdTk (bytesL h ts)).2 = true := by
  obtain ⟨h1, h2, h3⟩ := hd_fwd ho hl hf none 0
  unfold hdTk
  rw [if_pos h1]
  refine ⟨h3, hdB_congr hl ?_ h3.symm hf⟩
  show (tsOf (bytesL h ts)).length = (hq8 (bytesL h ts)).1.toNat
  unfold tsOf
  rw [List.length_map, List.length_range]

/-- What is formed is parsed of its bytes. -/
theorem pr_fwd {w : World} {q : Pr} (hq : PrAt w q) (hf : prB q = true) : prTk (prL q) = true ∧ PrEq (prOf (prL q)) q := by
  have hk := prB_kind hf
  have hla := bytesL_le q.a.1 q.a.2
  have hlb := bytesL_le q.b.1 q.b.2
  obtain ⟨b, hb⟩ : ∃ b, prL q = b := ⟨_, rfl⟩
  rw [hb]
  unfold prL at hb
  by_cases k12 : q.kind = 1 ∨ q.kind = 2
  · rw [if_neg (by omega), if_neg (by omega)] at hb
    have h2 : hdB q.a.1 q.a.2 = true ∧ hdB q.b.1 q.b.2 = true ∧ noneB q = true ∧ q.wn = 0 := by
      unfold prB at hf
      rw [if_pos k12] at hf
      simp only [Bool.and_eq_true, decide_eq_true_eq] at hf
      exact ⟨hf.1.1.1, hf.1.1.2, hf.1.2, hf.2⟩
    obtain ⟨f1, f2, f3, f4⟩ := h2
    have q1 : pK b = (q.kind, textL (bytesL q.a.1 q.a.2) ++ textL (bytesL q.b.1 q.b.2), false) := by unfold pK; rw [← hb]; exact numP_fwd _ 4 _ (by omega) (by omega) (by omega)
    have q2 : pA b = (bytesL q.a.1 q.a.2, textL (bytesL q.b.1 q.b.2), false) := by unfold pA; rw [q1]; exact textP_fwd _ 4096 _ (by omega) (by omega)
    have q3 : pB b = (bytesL q.b.1 q.b.2, [], false) := by unfold pB; rw [q2]; simpa using textP_fwd (bytesL q.b.1 q.b.2) 4096 [] (by omega) (by omega)
    have ho : prOf b = ⟨q.kind, hdTk (bytesL q.a.1 q.a.2), hdTk (bytesL q.b.1 q.b.2), 0, 0, 0, none, 0, 0, []⟩ := by unfold prOf; rw [q1]; simp only; rw [if_pos k12, q2, q3]
    have g1 := hdTk_fwd hq.a.ok hq.a.toks.len f1
    have g2 := hdTk_fwd hq.b.ok hq.b.toks.len f2
    have f3' : q.writer = 0 ∧ q.floor = 0 ∧ q.head = 0 := by unfold noneB at f3; simpa using f3
    refine ⟨?_, ?_⟩
    · unfold prTk
      have hr : prRest b = ([], false) := by unfold prRest; rw [q1]; simp only; rw [if_pos k12, q3]
      rw [hr, ho]
      unfold prB noneB
      simp only
      rw [if_pos k12, g1.2, g2.2]
      rfl
    · rw [ho]
      exact ⟨rfl, g1.1, g2.1, f3'.1.symm, f3'.2.1.symm, f3'.2.2.symm, f4.symm, fun i hi => by have hi0 : i < 0 := hi; omega⟩
  · by_cases k3 : q.kind = 3
    · rw [if_pos k3] at hb
      have h2 : blkB q.a.1 = true ∧ blkB q.b.1 = true ∧ q.wn = 0 := by
        unfold prB at hf
        rw [if_neg k12, if_pos k3] at hf
        simp only [Bool.and_eq_true, decide_eq_true_eq] at hf
        exact ⟨hf.1.1.1.1.1.1, hf.1.1.1.1.1.2, hf.1.1.1.1.2⟩
      obtain ⟨f1, f2, f4⟩ := h2
      have h3 := prB_3 hf k3
      have h5 := hq.head
      rw [k3] at hb
      have q1 : pK b = (3, numL q.writer ++ numL q.floor ++ numL q.head, false) := by unfold pK; rw [← hb]; exact numP_fwd _ 4 _ (by omega) (by omega) (by omega)
      have q2 : pW b = (q.writer, numL q.floor ++ numL q.head, false) := by unfold pW; rw [q1]; simp only [List.append_assoc]; exact numP_fwd _ 6 _ (by omega) (by omega) (by omega)
      have q3 : pF b = (q.floor, numL q.head, false) := by unfold pF; rw [q2]; exact numP_fwd _ 1048576 _ (by omega) (by omega) (by omega)
      have q4 : pH b = (q.head, [], false) := by unfold pH; rw [q3]; simpa using numP_fwd q.head 1048576 [] (by omega) (by omega) (by omega)
      have ho : prOf b = ⟨3, htN, htN, q.writer, q.floor, q.head, none, 0, 0, []⟩ := by unfold prOf; rw [q1]; simp only; rw [if_neg (by omega), if_pos trivial, q2, q3, q4]
      refine ⟨?_, ?_⟩
      · unfold prTk
        have hr : prRest b = ([], false) := by unfold prRest; rw [q1]; simp only; rw [if_neg (by omega), if_pos trivial, q4]
        rw [hr, ho]
        unfold prB
        simp only
        rw [if_neg (by omega), if_pos trivial, blkB_htN, decide_eq_true h3.1, decide_eq_true h3.2.1, decide_eq_true h3.2.2.1, decide_eq_true h3.2.2.2]
        rfl
      · rw [ho]
        exact ⟨k3.symm, hdEq_blk hq.a.toks.len f1, hdEq_blk hq.b.toks.len f2, rfl, rfl, rfl, f4.symm, fun i hi => by have hi0 : i < 0 := hi; omega⟩
    · have k4 : q.kind = 4 := by omega
      rw [if_neg k3, if_pos k4] at hb
      have h2 : hdB q.a.1 q.a.2 = true ∧ blkB q.b.1 = true ∧ noneB q = true ∧ q.wn ≤ 8 ∧ risesB q.ws = true := by
        unfold prB at hf
        rw [if_neg k12, if_neg k3] at hf
        simp only [Bool.and_eq_true, decide_eq_true_eq] at hf
        exact ⟨hf.1.1.1.1.2, hf.1.1.1.2, hf.1.1.2, hf.1.2, hf.2⟩
      obtain ⟨f1, f2, f3, f4, f5⟩ := h2
      rw [k4] at hb
      have q1 : pK b = (4, textL (bytesL q.a.1 q.a.2) ++ (numL (q.wn : Int) ++ toksL q.ws q.wn), false) := by unfold pK; rw [← hb]; exact numP_fwd _ 4 _ (by omega) (by omega) (by omega)
      have q2 : pA b = (bytesL q.a.1 q.a.2, numL (q.wn : Int) ++ toksL q.ws q.wn, false) := by unfold pA; rw [q1]; exact textP_fwd _ 4096 _ (by omega) (by omega)
      have q3 : pN b = ((q.wn : Int), toksL q.ws q.wn, false) := by unfold pN; rw [q2]; exact numP_fwd _ 8 _ (by omega) (by omega) (by omega)
      have qn : (pN b).1.toNat = q.wn := by rw [q3]; simp
      have q4 : pT b = ([], false) := by unfold pT; rw [qn, q3]; simpa using tokS_fwd q.ws q.wn []
      have hts : ∀ i, i < q.wn → ∀ j, j < 16 → ((pWs b).getD i fun _ => 0) j = (q.ws.getD i fun _ => 0) j := fun i hi j hj => by
        unfold pWs
        rw [qn, List.getD_eq_getElem?_getD, List.getElem?_map, List.getElem?_range hi]
        show tokX (pN b).2.1 (pN b).2.2 i j = _
        rw [q3]
        simpa using tokX_fwd q.ws q.wn i hi [] j hj
      have hwl : (pWs b).length = q.wn := by unfold pWs; rw [List.length_map, List.length_range, qn]
      have ho : prOf b = ⟨4, hdTk (bytesL q.a.1 q.a.2), htN, 0, 0, 0, none, q.wn, 0, pWs b⟩ := by unfold prOf; rw [qn, q1]; simp only; rw [if_neg (by omega), if_neg (by omega), if_pos trivial, q2]
      have g1 := hdTk_fwd hq.a.ok hq.a.toks.len f1
      have f3' : q.writer = 0 ∧ q.floor = 0 ∧ q.head = 0 := by unfold noneB at f3; simpa using f3
      have hrs : risesB (pWs b) = true := by
        rw [risesB_congr (ts := pWs b) (us := q.ws) (by rw [hwl, hq.toks.len]) (fun i hi => hts i (by omega))]
        exact f5
      refine ⟨?_, ?_⟩
      · unfold prTk
        have hr : prRest b = ([], false) := by unfold prRest; rw [q1]; simp only; rw [if_neg (by omega), if_neg (by omega), if_pos trivial, q4]
        rw [hr, ho]
        unfold prB noneB
        simp only
        rw [if_neg (by omega), if_neg (by omega), g1.2, blkB_htN, decide_eq_true f4, hrs]
        rfl
      · rw [ho]
        exact ⟨k4.symm, g1.1, hdEq_blk hq.b.toks.len f2, f3'.1.symm, f3'.2.1.symm, f3'.2.2.symm, rfl, hts⟩

end Go.Proofs.Ytdhbkjajhbfihaa
