/-
  The walk of jalousielaw20.awake. Asked: the two tables.
-/
import Derived.Test.YtihlpfdhallfpaaDoorIxF
namespace Go.Proofs.YtihlpfdhallfpaaDoor
open Go.ChangeShapes Go.WideShapes Go.ChangeAt Go.RowKit

set_option maxRecDepth 100000 in
theorem build_pcZ (w : World) : (Instr.build 37 #[]).run Tryd.prog w = .ok (.agg (pcV pcZ)) w := by kernel_rfl
set_option maxRecDepth 100000 in
theorem pcZ_cells : pcV pcZ = Tryd.zeroCells37 := by kernel_rfl
theorem bsN_at (w : World) : BsAt w none 0 0 [] := ⟨rfl, Nat.le_refl _, by omega, by omega, fun x hx => (by cases hx), fun h => by omega, fun _ => rfl⟩
theorem pcZ_at (w : World) : PcAt w pcZ := ⟨htN_at w, bsN_at w, by show (0 : Nat) ≤ _; omega⟩
theorem pisN_at (w : World) : PisAt w none 0 0 [] := ⟨rfl, Nat.le_refl _, by omega, by omega, fun x hx => (by cases hx), fun h => by omega, fun _ => rfl⟩
theorem rep80_byte {x : Int} (h : 0 ≤ x ∧ x < 256) : ∀ y ∈ rep80 x, 0 ≤ y ∧ y < 256 := fun y hy => by
  obtain ⟨_, _, rfl⟩ := List.mem_map.1 hy
  exact h
theorem rgtP_at {w : World} {l : List HT} {wr : Int} {p : Pc} {x : Int} {q : Nat} (hl : l.length ≤ 100000) (hw : 1 ≤ wr ∧ wr ≤ 6) (hp : HtAt w p.hd) (hb : BsAt w (some ⟨q, 0, none⟩) 80 80 (rep80 x)) : PcAt w (rgtP l wr p x q) := by
  have h1 := bhd_at hp hl hw
  refine ⟨⟨⟨h1.ok.writer, h1.ok.seq, h1.ok.prev, h1.ok.epoch, h1.ok.time, h1.ok.item, h1.ok.knows, fun j _ => shaF_by _ _, ⟨by show (-9223372036854775808 : Int) ≤ 80; omega, by show (80 : Int) ≤ _; omega⟩, h1.ok.code⟩, h1.toks⟩, ?_, ?_⟩
  · show BsAt w (some ⟨q, 0, none⟩) (rep80 x).length 80 (rep80 x)
    rw [rep80_length]
    exact hb
  · show (rep80 x).length ≤ _
    rw [rep80_length]
    omega
theorem rgt_hd0 (x : Int) (q : Nat) : hdB (rgtP [] 1 pcZ x q).hd.1 (rgtP [] 1 pcZ x q).hd.2 = true :=
  hdB_plain _ ⟨by show (1 : Int) ≤ 1; omega, by show (1 : Int) ≤ 6; omega⟩ ⟨by show (1 : Int) ≤ 0 + 1; omega, by show (0 : Int) + 1 ≤ 1048576; omega⟩ ⟨by show (0 : Int) ≤ 0; omega, by show (0 : Int) ≤ 255; omega⟩ (by show (0 : Int) ≤ _; omega) rfl
    (fun j _ => by show (if j = ((1 : Int) - 1).toNat then ((0 : Nat) : Int) else 0) ≤ _; split <;> omega) (.inr fun j _ => rfl) rfl rfl rfl
theorem rgt_whole (l : List HT) (wr : Int) (p : Pc) (x : Int) (q : Nat) : wholeB (rgtP l wr p x q) = true := by
  unfold wholeB
  have h1 : (rgtP l wr p x q).hd.1.sum = shaF (rgtP l wr p x q).bd := rfl
  have h2 : (((rgtP l wr p x q).bd.length : Nat) : Int) = (rgtP l wr p x q).hd.1.size := by
    show (((rep80 x).length : Nat) : Int) = 80
    rw [rep80_length]
    rfl
  rw [h1, arrB_self, decide_eq_true h2]
  rfl
theorem rgt_ask0 (x : Int) (q : Nat) : ixAsk (fun _ => cst0) 0 (rgtP [] 1 pcZ x q) = 0 := by
  unfold ixAsk
  rw [rgt_hd0, rgt_whole]
  have h1 : askV (rgtP [] 1 pcZ x q).hd.1.writer [] (fun _ => 0) (rgtP [] 1 pcZ x q).hd = 0 := by
    unfold askV
    rw [rgt_hd0, if_neg (by simp)]
    rw [if_neg (fun h => by have h1 := h.1; have h2 := h.2; simp at h2; omega), if_neg (by show ¬ ((0 : Nat) : Int) + 1 < ((0 : Nat) : Int) + 1; omega)]
    have h2 : (rgtP [] 1 pcZ x q).hd.1.prev = fun _ => 0 := rfl
    rw [h2, arrB_self]
    rfl
  show (if true = true then if askV (rgtP [] 1 pcZ x q).hd.1.writer [] (fun _ => 0) (rgtP [] 1 pcZ x q).hd = 0 then _ else _ else _) = _
  rw [if_pos rfl, h1]
  rfl

set_option maxHeartbeats 4000000 in
set_option maxRecDepth 100000 in
theorem awake20_any (w : World) (hk : KsAt 1 w) (hkw : KsAt 0 w) : Calls Tryd.prog 9 #[] w fun e w' => e = .returned (.bool true) ∧ Ext w w' := by
  have hg0 : 1 < w.heap.size := World.block_lt_of_cell? w _ (hk 0 (by omega))
  have HK := Lib.hid hk
  have HKw := Lib.hid hkw
  have Hg0 := Lib.hid hg0
  clear hk hg0 hkw
  go_enter Tryd.func9, Tryd.ntmps9
  go_wp2_with fail
  refine (ixNew_any w.heap.size w (Nat.le_refl _)).mono ?_
  rintro e w1 ⟨gx, G, rfl, hI, hE⟩
  have HI := Lib.hid hI
  have HE1 := Lib.hid hE
  have HR := Lib.hid ((right_any none 0 0 [] 1 pcZ w1 (pisN_at w1) (by omega) (by omega) (pcZ_at w1) (hdKs_ext HKw.out hE)).mono (R' := fun e w' => ∃ A, e = .returned (.agg A) ∧ ∃ x q, pcV (rgtP [] 1 pcZ x q) = A ∧ (0 ≤ x ∧ x < 256) ∧ w1.heap.size ≤ q ∧ BsAt w' (some ⟨q, 0, none⟩) 80 80 (rep80 x) ∧ Ext w1 w')
    fun e w' ⟨x, q, h1, h2, h3, h4, h5⟩ => ⟨_, h1, x, q, rfl, h2, h3, h4, h5⟩)
  rw [pcZ_cells] at HR
  clear hI hE
  go_wp2_with fail
  refine HR.out.mono ?_
  rintro e w2 ⟨PP, rfl, x, q, hPP, hx, hq, hbs, hE⟩
  have HP := Lib.hid (ixPut_any (HI.out.ext hE) (fun i _ => ⟨Nat.zero_le _, Nat.zero_le _, fun x hx => (by cases hx)⟩) (by omega) (rgtP [] 1 pcZ x q) (rgtP_at (by simp) (by omega) (htN_at w2) hbs) (hdKs_ext HK.out (HE1.out.trans hE)) Hg0.out (Below.size (HE1.out.trans hE)) (fun h0 => absurd h0 (by show ¬ 0 < 0; omega))
    (fun _ b off e => (HI.out.fresh (by
      have h1 : (some ⟨q, 0, none⟩ : Option Addr) = some ⟨b, off, none⟩ := e
      simp only [Option.some.injEq, Addr.mk.injEq, and_true] at h1
      omega))))
  rw [rgt_ask0] at HP
  have HE2 := Lib.hid (HE1.out.trans hE)
  have HI2 := Lib.hid (HI.out.ext hE)
  clear hx hq hbs hE HR
  rw [hPP] at HP
  clear hPP
  go_wp2_with fail
  refine HP.out.mono ?_
  rintro e w3 ⟨rfl, -, hput⟩
  obtain ⟨S2, i, ta, tc, qa, qc, hin⟩ := (hput (by first | rfl | trivial)).open
  have HC := Lib.hid (ixCount_any hin.ix)
  have HE3 := Lib.hid (HE2.out.trans' (hin.kp.below HI2.out (Below.size HE2.out)))
  clear hput hin HP
  go_wp2_with fail
  refine HC.out.mono ?_
  rintro e w4 ⟨rfl, hE⟩
  have HE4 := Lib.hid hE
  clear hE
  go_wp2
  go_ret
  exact ⟨rfl, HE3.out.trans HE4.out⟩

end Go.Proofs.YtihlpfdhallfpaaDoor
