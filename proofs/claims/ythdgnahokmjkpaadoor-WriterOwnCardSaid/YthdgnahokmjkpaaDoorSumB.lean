/-
  The walk of hash.Sum: SHA-256 of the parts. Asked: the table of 64 words lies as the text lays it; the parts are not longer than 2^39 bytes together.
  Steps of the walk: bytes behind bytes that the call owns. No conditions but lengths.
-/
import Derived.Test.YthdgnahokmjkpaaDoorSum
import Derived.Laws.AppendOwnNone
namespace Go.Proofs.YthdgnahokmjkpaaDoor
open Go.ChangeAt Go.ChangeShapes Go.RowKit Go.WideShapes

attribute [local go_sem] U_xor U_and U_or U_addm U_subm U_not U_lo

/-- The words behind k blocks. -/
def sumS (p : List Int) : Nat → S8
  | 0 => start8
  | k + 1 => mixS ((p.drop (64 * k)).take 64) (sumS p k)

/-- Byte j of the sum. -/
def shaF (xs : List Int) (j : Nat) : Int := (beB (U ((sumS (padL xs) ((padL xs).length / 64)).get (j / 4))) 4).getD (j % 4) 0

theorem padL_blocks (xs : List Int) : 64 * ((padL xs).length / 64) = (padL xs).length := by
  rw [padL_length]
  unfold zpad
  omega

set_option maxHeartbeats 1000000 in
set_option maxRecDepth 100000 in
theorem sum_any (a : Option Addr) (n c : Nat) (ls : List (List Int)) (w : World) (h : PsAt w a n c ls) (hs : ls.flatten.length ≤ 549755813888) (hn : n ≤ 1099511627776) (hk : KsAt 1 w) :
    Calls Tryd.prog 37 #[.slice a n c] w fun e w' => e = .returned (.agg (rowArr 32 fun j => .int .u8 (shaF ls.flatten j))) ∧ Ext w w' := by
  have hg0 : 1 < w.heap.size := World.block_lt_of_cell? w _ (hk 0 (by omega))
  have H := Lib.hid h
  have HK := Lib.hid hk
  obtain ⟨fl, hfl⟩ : ∃ fl, ls.flatten = fl := ⟨_, rfl⟩
  have hjoin := fun wA hEA => join_any a n c ls wA (h.ext hEA) (by omega) hn
  rw [hfl] at hs hjoin ⊢
  have HJ := Lib.hid hjoin
  clear h hk hfl hjoin
  go_enter Tryd.func37, Tryd.ntmps37
  go_wp2_with fail
  refine (start_any _).mono ?_
  rintro e w1 ⟨rfl, hE1⟩
  have hEw1 : Ext w w1 := ((Ext.refl w).alloc _).trans hE1
  have hZ1 : w1.rowIs w.heap.size 29 32 (fun _ => .int .u8 0) := (start_zero32 _ w).of_block (hE1.block (by simp))
  have hs1 : w.heap.size + 1 ≤ w1.heap.size := by have := hE1.size; simpa using this
  go_wp2_with (refine wpList_store_row rfl 75 _ _ rfl w1.heap.size _ rfl rfl _ _ (heap_new w1 _ _ rfl) (by kernel_rfl) (by rw [rowArr_size]; rfl) (rowArr_one fun _ _ => rfl) ?_; rw [setRow_new w1 _ _ _ _ rfl])
  obtain ⟨wA, hwA⟩ : ∃ wA, w1.alloc (.cells (rowArr 8 fun i => .int .u32 (U (start8.get i))) 75) = wA := ⟨_, rfl⟩
  have hEA : Ext w wA := by rw [← hwA]; exact hEw1.alloc _
  have hZA : wA.rowIs w.heap.size 29 32 (fun _ => .int .u8 0) := by rw [← hwA]; exact hZ1.alloc _
  have hsA : wA.heap.size = w1.heap.size + 1 := by rw [← hwA]; simp
  have hSA : wA.rowIs w1.heap.size 75 8 (fun i => .int .u32 (U (start8.get i))) := by rw [← hwA]; exact rowIs_of (heap_new w1 _ _ rfl)
  rw [hwA]
  have HSA := Lib.hid hSA
  have HZA := Lib.hid hZA
  clear hSA hwA hZ1 hZA
  refine (HJ.out wA hEA).mono ?_
  rintro e w2 ⟨a2, c2, rfl, hB2, hE2⟩
  have hs2 := hE2.size
  have HB2 := Lib.hid hB2
  clear hB2
  go_wp2_with fail
  refine (padded_any a2 _ c2 fl w2 HB2.out (by omega)).mono ?_
  rintro e w3 ⟨v, rfl, hown, hE3⟩
  obtain ⟨a3, c3, rfl, hn3, hc3⟩ := owns_slice hown
  have hs3 := hE3.size
  have hby := padL_byte _ (HB2.out.byte)
  have hpl0 := padL_length fl
  have hzp : zpad fl.length < 64 := by unfold zpad; omega
  have hP3 : BsAt w3 a3 (padL fl).length c3 (padL fl) := owns_bs hown hby (by unfold maxLen at hc3; omega) (by omega)
  have hne : 0 < (padL fl).length → ∀ b off, a3 = some ⟨b, off, none⟩ → b ≠ w1.heap.size := fun _ b off e => by
    have := (hown.lt b (by rw [e]; rfl)).1
    omega
  have hS3 : w3.rowIs w1.heap.size 75 8 (fun i => .int .u32 (U (start8.get i))) := HSA.out.of_block ((hE2.trans hE3).block (by omega))
  have HZ3 := Lib.hid (HZA.out.of_block ((hE2.trans hE3).block (by omega)))
  have hpb := padL_blocks fl
  obtain ⟨p, hp⟩ : ∃ p, padL fl = p := ⟨_, rfl⟩
  have hres : ∀ j, shaF fl j = (beB (U ((sumS p (p.length / 64)).get (j / 4))) 4).getD (j % 4) 0 := fun j => by unfold shaF; rw [hp]
  rw [hp] at hP3 hne hn3 hpb hby hpl0 ⊢
  have HP3 := Lib.hid hP3
  have HS3 := Lib.hid hS3
  have Hres := Lib.hid hres
  have Hne := Lib.hid hne
  have hE03 : Ext w w3 := (hEA.trans hE2).trans hE3
  clear hP3 hS3 hp hown hres hne hby
  obtain ⟨N, hN⟩ : ∃ N, p.length = N := ⟨_, rfl⟩
  obtain ⟨M, hM⟩ : ∃ M, N / 64 = M := ⟨_, rfl⟩
  rw [hN] at HP3 Hres Hne hn3 hpb hpl0 ⊢
  rw [hM] at Hres hpb
  have HN := Lib.hid hN
  have hpos : 0 < N := by omega
  have hbig : N ≤ 549755814016 := by omega
  obtain ⟨b3, off3, rfl, -⟩ := HP3.out.at_ hpos
  have Hpb := Lib.hid hpb
  have Hpl := Lib.hid hpl0
  have hc3' : N ≤ c3 := HP3.out.cap
  have hc3l : c3 ≤ 9223372036854775807 := HP3.out.lim
  have hs3' : w1.heap.size < w3.heap.size := by omega
  have hHs : w.heap.size < w1.heap.size := by omega
  have Hsz := Lib.hid (And.intro hs3' hHs)
  have HE := Lib.hid hE03
  have Hg0 := Lib.hid hg0
  clear hN hM hpb hpl0 hzp hs1 hsA hs2 hs3 hc3 hE03 hs3' hHs hg0 hEw1 hEA hE1 hE2 hE3 hs
  go_wp2
  go_loopw [5] (fun i wr => ∃ k : Nat, k ≤ M ∧ i = .int .i64 (64 * (k : Int)) ∧ wr.rowIs w1.heap.size 75 8 (fun i => .int .u32 (U ((sumS p k).get i))) ∧ w3.grownBy wr (some w1.heap.size) ∧ wr.rowIs w.heap.size 29 32 (fun _ => .int .u8 0))
    (fun i _ => M - ((intOf i).toNat / 64))
  case atStart => exact ⟨0, Nat.zero_le _, rfl, HS3.out, grown_ext (Ext.refl w3) _, HZ3.out⟩
  case round =>
    obtain ⟨k, hk, rfl, hR, hG, hZ⟩ := hrel
    have HZ := Lib.hid hZ
    clear hZ
    have hpb := Hpb.out
    by_cases hlt : k < M
    · have hP := (HP3.out.grown hG Hne.out).sub (64 * k) 64 (by omega)
      have HP := Lib.hid hP
      have hK : KsAt 1 wr := fun i hi =>
        World.grownBy.cell hG (by rw [Ext.cell (p := ⟨1, i, none⟩) HE.out Hg0.out]; exact HK.out i hi) (fun e => by
          have h1 : 1 = w1.heap.size := Option.some.inj e
          have h2 := Hsz.out.2
          have h3 := Hg0.out
          omega)
      have HKr := Lib.hid hK
      have HR := Lib.hid hR
      have HG := Lib.hid hG
      have x1 : (0 : Int) ≤ 64 * (k : Int) := by omega
      have x2 : 64 * (k : Int) < (N : Int) := by omega
      have x3 : 64 * (k : Int) + 64 ≤ (N : Int) := by omega
      clear hP hK hR hG hpb
      go_wp2_with fail
      refine (mix_any w1.heap.size b3 (off3 + 64 * k) (c3 - 64 * k) _ (sumS p k) wr HP.out HR.out HKr.out).mono ?_
      rintro e w4 ⟨rfl, hG4, hR4⟩
      go_wp2
      go_roundw
      case rel =>
        exact ⟨k + 1, by omega, by go_num, hR4, grown_trans HG.out hG4, HZ.out.of_block (hG4.block _ (by have h1 := HG.out.size; have h2 := Hsz.out; omega) (fun e => by injection e with e; have h2 := Hsz.out; omega))⟩
      case measure => simp [intOf]; omega
    · obtain rfl : k = M := by omega
      have hS := rowIs_cells hR
      have HSr := Lib.hid hS
      have HR := Lib.hid hR
      have HG := Lib.hid hG
      have hszr : w1.heap.size < wr.heap.size := by
        have h1 := hG.size
        have h2 := Hsz.out.1
        omega
      have x3 : ¬ (64 * (k : Int) < (N : Int)) := by omega
      clear hS hR hG hpb
      go_wp2_with (first
        | (refine wpList_load_row rfl 75 _ rfl w1.heap.size rfl _ _ _ _ (by rw [Below.heap_alloc _ _ _ hszr]; exact HSr.out) Tryd.underlying75 rfl (by kernel_rfl) ?_))
      have hEr : Ext w wr := ext_grown HE.out HG.out (by have := Hsz.out.2; omega)
      obtain ⟨sf, hsf⟩ : ∃ sf, sumS p k = sf := ⟨_, rfl⟩
      rw [hsf] at Hres ⊢
      clear hsf HSr HR HG
      obtain ⟨wz, hwz⟩ : ∃ wz, wr.alloc (.cells (Array.replicate 32 (.int .u8 0)) 29) = wz := ⟨_, rfl⟩
      have hwz' : wr.alloc (.cells #[.int .u8 0, .int .u8 0, .int .u8 0, .int .u8 0, .int .u8 0, .int .u8 0, .int .u8 0, .int .u8 0, .int .u8 0, .int .u8 0, .int .u8 0, .int .u8 0, .int .u8 0, .int .u8 0, .int .u8 0, .int .u8 0, .int .u8 0, .int .u8 0, .int .u8 0, .int .u8 0, .int .u8 0, .int .u8 0, .int .u8 0, .int .u8 0, .int .u8 0, .int .u8 0, .int .u8 0, .int .u8 0, .int .u8 0, .int .u8 0, .int .u8 0, .int .u8 0] 29) = wz := hwz
      rw [hwz']
      have hEz : Ext w wz := by rw [← hwz]; exact hEr.alloc _
      have hZz : wz.rowIs w.heap.size 29 32 (fun _ => .int .u8 0) := by rw [← hwz]; exact HZ.out.alloc _
      have hsz : wr.heap.size < wz.heap.size := by rw [← hwz]; simp
      have hRz : wz.rowIs wr.heap.size 29 32 (fun _ => .int .u8 0) := by rw [← hwz]; exact start_zero32 _ wr
      have hEs := Below.size hEr
      have hEl : w.heap.size < wr.heap.size := by have h1 := Hsz.out.2; omega
      obtain ⟨g, hg⟩ : ∃ g, wr.heap.size = g := ⟨_, rfl⟩
      rw [hg] at hsz hRz hEs hEl ⊢
      clear hg hwz hwz' hEr
      have HEz := Lib.hid hEz
      have HRz := Lib.hid hRz
      have HZz := Lib.hid hZz
      clear hEz hRz hZz HZ
      go_loopw [26] (fun i wq => ∃ j : Nat, j ≤ 8 ∧ i = .int .i64 (j : Int) ∧ wq.rowIs g 29 32 (fun q => .int .u8 (if q < 4 * j then shaF fl q else 0)) ∧ Ext w wq ∧ g < wq.heap.size ∧ wq.rowIs w.heap.size 29 32 (fun _ => .int .u8 0))
        (fun i _ => 8 - (intOf i).toNat)
      case atStart => exact ⟨0, Nat.zero_le _, rfl, HRz.out.congr fun i _ => by simp, HEz.out, hsz, HZz.out⟩
      case round =>
        obtain ⟨j, hj, rfl, hR, hE, hsq, hZ⟩ := hrel
        have HZ := Lib.hid hZ
        clear hZ
        by_cases hlj : j < 8
        · have hix : ∀ w, (Instr.index 75 (.agg (rowArr 8 fun i => .int .u32 (U (sf.get i)))) (.int .i64 (j : Int))).run Tryd.prog w = .ok (.int .u32 (U (sf.get j))) w := fun w => index_row _ _ 8 _ j hlj Tryd.underlying75 w rfl rfl
          have hu : U (sf.get j) % 18446744073709551616 = U (sf.get j) := by
            have := U_hi (sf.get j)
            have := U_lo (sf.get j)
            omega
          have x1 : (0 : Int) ≤ (j : Int) := by omega
          have x2 : (j : Int) < 8 := by omega
          have x3 : (0 : Int) ≤ 4 * (j : Int) := by omega
          have x4 : 4 * (j : Int) + 4 ≤ 32 := by omega
          have x5 : (0 : Int) ≤ 4 * (j : Int) + 4 := by omega
          have x6 : 4 * (j : Int) ≤ 4 * (j : Int) + 4 := by omega
          have t1 : (4 * (j : Int)).toNat = 4 * j := by omega
          have t2 : (4 * (j : Int) + 4).toNat = 4 * j + 4 := by omega
          go_wp2_with fail
          have hE' := Lib.hid hE
          have hR' := Lib.hid hR
          clear hE hR
          refine (putBig_any g (4 * j) 4 _ 32 _ _ _ wr hR'.out (by omega) (by omega)).mono ?_
          rintro e w5 ⟨rfl, hG5, hR5⟩
          go_wp2
          go_roundw
          case rel =>
            refine ⟨j + 1, by omega, by go_num, hR5.congr fun q hq => ?_, ext_grown hE'.out hG5 hEs, by have := hG5.size; omega, HZ.out.of_block (hG5.block _ (by omega) (fun e => by injection e with e; omega))⟩
            by_cases h1 : 4 * j ≤ q ∧ q < 4 * j + 4
            · rw [if_pos h1, if_pos (by omega), Hres.out q, show q / 4 = j by omega, show q % 4 = q - 4 * j by omega]
            · rw [if_neg h1]
              by_cases h2 : q < 4 * j
              · rw [if_pos h2, if_pos (by omega)]
              · rw [if_neg h2, if_neg (by omega)]
          case measure => simp [intOf]; omega
        · obtain rfl : j = 8 := by omega
          have hR1 : wr.rowIs g 29 32 (fun q => .int .u8 (shaF fl q)) := hR.congr fun q hq => by rw [if_pos (by omega)]
          have hg := rowIs_cells hR1
          have Hg := Lib.hid hg
          clear hg hR hR1
          have hz := rowIs_cells HZ.out
          have Hz := Lib.hid hz
          have HE1 := Lib.hid hE
          clear hz hE
          go_wp2_with (first
            | (refine wpList_load_row rfl 29 _ rfl _ rfl _ _ _ _ Hg.out Tryd.underlying29 rfl (by kernel_rfl) ?_)
            | (refine wpList_store_row rfl 29 _ _ rfl _ _ rfl rfl _ _ Hz.out (by kernel_rfl) (by rw [rowArr_size, rowArr_size]) (rowArr_one fun _ _ => rfl) ?_))
          refine bodyPost_ret (results_cell_row rfl _ _ w.heap.size _ _ _ _ rfl (setRow_heap wr w.heap.size _ _ _ _ Hz.out) Tryd.underlying29 rfl (by kernel_rfl)) rfl ⟨rfl, ?_⟩
          exact below_setRow HE1.out (Nat.le_refl _) _

/-- Parts that lie at the head of a block. -/
theorem ps_one {w : World} {pa : Option Addr} {m pc : Nat} {xs : List Int} (h : BsAt w pa m pc xs) (T : TypeId) : PsAt (w.alloc (.cells #[.slice pa m pc] T)) (some ⟨w.heap.size, 0, none⟩) 1 1 [xs] := by
  refine ⟨rfl, Nat.le_refl _, by omega, fun _ => ⟨w.heap.size, 0, rfl, fun i hi => ⟨pa, m, pc, ?_, ?_⟩⟩⟩
  · obtain rfl : i = 0 := by omega
    rw [cell_of_row _ w.heap.size _ _ _ _ (heap_new w _ _ rfl)]
    rfl
  · obtain rfl : i = 0 := by omega
    exact h.ext ((Ext.refl w).alloc _)

end Go.Proofs.YthdgnahokmjkpaaDoor
