/-
  The walk of item.parted. No conditions but the length.
-/
import Derived.Test.YtldaligeckjhaaaPtC
namespace Go.Proofs.Ytldaligeckjhaaa
open Go.ChangeShapes Go.WideShapes Go.ChangeAt Go.RowKit

/-- What parted answers. -/
def PartSays (w : World) (l : List Rw) (n : Nat) (e : Ending) (w' : World) : Prop :=
  ∃ (ob : Nat) (G : List Gp), e = .returned (.map (some ob)) ∧ w.heap.size ≤ ob ∧ Ext w w' ∧ KvAt tokK w' ob (G.map gpE) ∧ GpAt w' (ob + 2) G ∧ GpSays G (cntN l n)
set_option maxRecDepth 100000 in
theorem zero_place (w : World) : (zeroValue 87).run Try.prog w = .ok (.agg #[.int .i64 0, .int .u64 0]) w := by kernel_rfl
set_option maxRecDepth 100000 in
theorem build_place (w : World) (a b : Int) : (Instr.build 87 #[(0, .int .i64 a), (1, .int .u64 b)]).run Try.prog w = .ok (.agg #[.int .i64 a, .int .u64 b]) w := by kernel_rfl
theorem wp_build_place {ops : Array Oper} {Q : Exit → Act → World → Prop} {rest : List Oper} {o : Oper} {a : Act} {w : World} (hw : Region.wanted o (yielded ops a.tmps) = true) (x y : Operand) (ho : o.op = .build 87 #[(0, x), (1, y)]) (p q : Int) (hx : a.eval x = .int .i64 p) (hy : a.eval y = .int .u64 q)
    (h : wpList Try.prog ops Q rest (a.put o.dst (.agg #[.int .i64 p, .int .u64 q])) w) : wpList Try.prog ops Q (o :: rest) a w := by
  refine wpList_want hw fun K hK => ?_
  unfold Oper.wp execOp
  simp only [ho, List.map_toArray, List.map_cons, List.map_nil, hx, hy, Sem.run_bind, build_place, Result.andThen_ok, Sem.run_pure]
  exact hK _ _ h
set_option maxHeartbeats 2000000 in
set_option maxRecDepth 100000 in
theorem parted_any (b off n c : Nat) (l : List Rw) (w : World) (h : RwsAt w (some ⟨b, off, none⟩) n c l) (hs : n ≤ 100000) :
    Calls Try.prog 33 #[.slice (some ⟨b, off, none⟩) n c] w (PartSays w l n) := by
  have hmm := @run_makeMap Try.prog
  have HR := Lib.hid h
  have HC := Lib.hid (show ∀ i, i < n → ∀ j, j < 130 → w.cell? ⟨b, off + i * 130 + j, none⟩ = some (rwC (rwAt l i) j) from fun i hi j hj => by
    obtain ⟨b', off', he, hc⟩ := h.at_ (by omega)
    have he := Option.some.inj he
    simp only [Addr.mk.injEq] at he
    obtain ⟨rfl, rfl, -⟩ := he
    exact hc i hi j hj)
  have HSt0 := Lib.hid (PtSt.start w l)
  obtain ⟨S, hS⟩ : ∃ S, w.heap.size = S := ⟨_, rfl⟩
  have HS := Lib.hid hS
  rw [hS] at HSt0
  clear h hS
  go_enter Try.func33, Try.ntmps33
  go_upto_region 3 with (fail)
  rw [HS.out]
  obtain ⟨w2, hw2⟩ : ∃ z, (w.alloc (.map #[] 0)).alloc (.map #[] 0) = z := ⟨_, rfl⟩
  rw [hw2] at HSt0
  refine wp_world (w' := w2) hw2 ?_
  clear hw2 hmm
  go_wp2
  go_loopw [12] (fun i wr => ∃ (k : Nat) (G : List Gp), k ≤ n ∧ i = .int .i64 (k : Int) ∧ PtSt w wr S l k G) (fun i _ => n - (intOf i).toNat)
  case atStart => exact ⟨0, [], Nat.zero_le _, rfl, HSt0.out⟩
  case round =>
    obtain ⟨k, G, hk, rfl, hE⟩ := hrel
    have HSt := Lib.hid hE
    rename World => y
    clear hE HSt0
    by_cases hlt : k < n
    · have x1 : (k : Int) < (n : Int) := by omega
      obtain ⟨x, hx⟩ : ∃ x, rwAt l k = x := ⟨_, rfl⟩
      have Hx := Lib.hid hx
      have HRg := Lib.hid (show y.rangeAt b (off + k * 130) (rwL x) from rwL_range fun j hj => by
        have h1 := HC.out k hlt j hj
        rw [HSt.out.ext.cell (World.block_lt_of_cell? _ _ h1), h1, hx])
      obtain ⟨X, hX⟩ : ∃ X, rwV x = X := ⟨_, rfl⟩
      have HX := Lib.hid hX
      have HXa := Lib.hid (show (rwL x).toArray = X by rw [rwL_arr, hX])
      have HXs := Lib.hid (show X.size = 130 by rw [← hX]; exact rwV_size x)
      have HXo := Lib.hid (show X.all (·.oneCell') = true by rw [← hX]; exact rwV_one x)
      have hzr := rw_zero
      obtain ⟨ZR, hZR⟩ : ∃ Z, rwV rwN = Z := ⟨_, rfl⟩
      have HZs := Lib.hid (show ZR.size = 130 by rw [← hZR]; exact rwV_size _)
      rw [hZR] at hzr
      clear hZR hx hX
      go_upto_region 6 with (first | (refine wp_ridx rfl _ _ rfl b off n c k rfl (by first | rfl | simp [Act.eval]) hlt ?_) | (refine wpList_load_mid rfl 36 (.tmp 14) rfl b _ rfl (rwL x) _ HRg.out Try.underlying36 rfl (by rw [rwL_length]; kernel_rfl) ?_; rw [HXa.out]) | (refine wpList_store_row rfl 36 _ _ rfl y.heap.size _ rfl rfl _ _ (heap_new y _ _ rfl) (by rw [HXs.out]; kernel_rfl) (by rw [HXs.out, HZs.out]) HXo.out ?_; rw [setRow_new y _ _ _ _ rfl]))
      obtain ⟨y2, hy2⟩ : ∃ z, y.alloc (.cells X 36) = z := ⟨_, rfl⟩
      obtain ⟨t, ht⟩ : ∃ t, y.heap.size = t := ⟨_, rfl⟩
      have hE2 : Ext y y2 := by rw [← hy2]; exact (Ext.refl y).alloc _
      have hB2 : y2.heap[t]? = some (.cells X 36 (0, 0)) := by rw [← hy2]; exact heap_new y _ _ ht.symm
      have HSlt := Lib.hid (show S + 1 < t by rw [← ht]; exact HSt.out.been.lt)
      have hs2 : y2.heap.size = t + 1 := by rw [← hy2, ← ht]; simp
      have HE2 := Lib.hid hE2
      have HB2 := Lib.hid hB2
      rw [ht]
      refine wp_world (w' := y2) hy2 ?_
      obtain ⟨p1, hp1⟩ : ∃ z, x.hd.1.writer = z := ⟨_, rfl⟩
      obtain ⟨p2, hp2⟩ : ∃ z, x.hd.1.seq = z := ⟨_, rfl⟩
      have HP1 := Lib.hid hp1
      have HP2 := Lib.hid hp2
      have hc0 : y2.cell? ⟨t, 0, none⟩ = some (.int .i64 p1) := by
        rw [← HX.out] at hB2
        rw [rw_hd hB2 0 (by omega), ← hp1]
        rfl
      have hc1 : y2.cell? ⟨t, 1, none⟩ = some (.int .u64 p2) := by
        rw [← HX.out] at hB2
        rw [rw_hd hB2 1 (by omega), ← hp2]
        rfl
      have hzp := zero_place
      clear hy2 hE2 hB2 hp1 hp2 ht hzr HRg
      go_upto_region 7 with (first | (refine wp_build_place rfl _ _ rfl p1 p2 rfl rfl ?_) | (refine wpList_store_row rfl 87 _ _ rfl y2.heap.size _ rfl rfl _ _ (heap_new y2 _ _ rfl) (by kernel_rfl) rfl rfl ?_; rw [setRow_new y2 _ _ _ _ rfl]))
      obtain ⟨y3, hy3⟩ : ∃ z, y2.alloc (.cells #[.int .i64 p1, .int .u64 p2] 87) = z := ⟨_, rfl⟩
      have HE3 := Lib.hid (show Ext y y3 by rw [← hy3]; exact HE2.out.alloc _)
      have HB3 := Lib.hid (show y3.heap[t]? = some (.cells X 36 (0, 0)) by rw [← hy3]; exact Ext.keep ((Ext.refl y2).alloc _) HB2.out)
      have HP3 := Lib.hid (show y3.heap[t + 1]? = some (.cells #[.int .i64 p1, .int .u64 p2] 87 (0, 0)) by rw [← hy3]; exact heap_new y2 _ _ hs2.symm)
      refine wp_world (w' := y3) hy3 ?_
      have hSt : S + 1 < t := HSlt.out
      clear hy3 hs2 hc0 hc1 hzp HE2 HB2
      have HSt3 := Lib.hid (show PtSt w y3 S l k G from ⟨HSt.out.ext.trans HE3.out, HSt.out.out.ext HE3.out, HSt.out.been.ext HE3.out, HSt.out.gps.ext HE3.out, HSt.out.says⟩)
      have HF := Lib.hid (rowFormed_any x y3 (by rw [← Hx.out]; exact (HR.out.get hlt).ext (HSt3.out.ext)))
      rw [HX.out] at HF
      obtain ⟨qf, hqf⟩ : ∃ q, rowB x = q := ⟨_, rfl⟩
      obtain ⟨qh, hqh⟩ : ∃ q, hasPl x (cntN l k) = q := ⟨_, rfl⟩
      rw [hqf] at HF
      have HQf := Lib.hid hqf
      have HQh := Lib.hid hqh
      have HL := Lib.hid (show ∀ z, Ext y3 z → (Instr.lookup 85 (.map (some (S + 1))) (.agg #[.int .i64 p1, .int .u64 p2]) false).run Try.prog z = .ok (.int .i64 (if qh = true then 1 else 0)) z from fun z hz => by
        have h1 := lookup_kv (K := plK) (HSt3.out.been.ext hz) Try.underlying85 (zero_i64 z) (rwPl x)
        rw [kvGet_has, hqh] at h1
        rw [← HP1.out, ← HP2.out]
        exact h1)
      clear hqf hqh HSt HE3
      cases qf with
      | false =>
        go_upto_region 10 with (first | (refine wpList_load_rowW rfl 36 _ rfl t rfl _ _ _ _ HB3.out Try.underlying36 rfl (by rw [HXs.out]; kernel_rfl) ?_) | (go_at_call 19; refine HF.out.mono ?_; rintro e y4 ⟨rfl, hE4⟩; have HE4 := Lib.hid hE4; clear hE4))
        go_wp2
        go_roundw
        case rel => exact ⟨k + 1, G, by omega, by go_num, HSt3.out.skip HE4.out (fun hb => by rw [Hx.out, HQf.out] at hb; cases hb.1)⟩
        case measure => simp [intOf]; omega
      | true =>
        cases qh with
        | true =>
          go_upto_region 10 with (first | (refine wpList_load_rowW rfl 36 _ rfl t rfl _ _ _ _ HB3.out Try.underlying36 rfl (by rw [HXs.out]; kernel_rfl) ?_) | (go_at_call 19; refine HF.out.mono ?_; rintro e y4 ⟨rfl, hE4⟩; have HE4 := Lib.hid hE4; have HP4 := Lib.hid (hE4.keep HP3.out); clear hE4) | (refine wpList_load_rowW rfl 87 _ rfl (t + 1) rfl _ _ _ _ HP4.out Try.underlying87 rfl (by kernel_rfl) ?_) | (refine wp_lookup0 rfl _ _ _ rfl _ _ _ rfl rfl (HL.out _ HE4.out) ?_))
          go_wp2
          go_roundw
          case rel => exact ⟨k + 1, G, by omega, by go_num, HSt3.out.skip HE4.out (fun hb => by rw [Hx.out, HQh.out] at hb; cases hb.2)⟩
          case measure => simp [intOf]; omega
        | false =>
          go_upto_region 8 with (first | (refine wpList_load_rowW rfl 36 _ rfl t rfl _ _ _ _ HB3.out Try.underlying36 rfl (by rw [HXs.out]; kernel_rfl) ?_) | (go_at_call 19; refine HF.out.mono ?_; rintro e y4 ⟨rfl, hE4⟩; have HE4 := Lib.hid hE4; have HP4 := Lib.hid (hE4.keep HP3.out); clear hE4) | (refine wpList_load_rowW rfl 87 _ rfl (t + 1) rfl _ _ _ _ HP4.out Try.underlying87 rfl (by kernel_rfl) ?_) | (refine wp_lookup0 rfl _ _ _ rfl _ _ _ rfl rfl (HL.out _ HE4.out) ?_))
          have HSt4 := Lib.hid (show PtSt w y4 S l k G from ⟨HSt3.out.ext.trans HE4.out, HSt3.out.out.ext HE4.out, HSt3.out.been.ext HE4.out, HSt3.out.gps.ext HE4.out, HSt3.out.says⟩)
          have HB4 := Lib.hid (HE4.out.keep HB3.out)
          have Hno := Lib.hid (show ∀ q ∈ (cntN l k).map bnE, plK.eq (p1, p2) q.1 = false from fun q hq => by
            obtain ⟨r, hr, rfl⟩ := List.mem_map.1 hq
            have h1 := HQh.out
            unfold hasPl at h1
            rw [List.any_eq_false] at h1
            have h2 := h1 r hr
            rw [← HP1.out, ← HP2.out]
            simpa [bnE, rwPl] using h2)
          have Hnx := Lib.hid (show cntN l (k + 1) = cntN l k ++ [x] by
            show (if _ then _ else _) = _
            rw [Hx.out, if_pos ⟨HQf.out, HQh.out⟩])
          have Hbx := Lib.hid (show bnE x = ((p1, p2), .int .i64 1) by rw [← HP1.out, ← HP2.out]; rfl)
          obtain ⟨bl, hbl⟩ : ∃ z, (cntN l k).map bnE = z := ⟨_, rfl⟩
          have Hbl := Lib.hid hbl
          rw [hbl] at Hno
          obtain ⟨N, hN⟩ : ∃ z, bl.length = z := ⟨_, rfl⟩
          have HN := Lib.hid hN
          have hC0 : PtC y4 (S + 1) bl (p1, p2) false y4.drew := ⟨grown_drewN (World.grownBy.refl y4 _) 1, by
            have h := HSt4.out.been
            rw [hbl] at h
            exact h.same rfl⟩
          have HST := Lib.hid (show ∀ (ph : Bool) (w1 w' : World), PtC y4 (S + 1) bl (p1, p2) ph w1 → Ext w1 w' → PtC y4 (S + 1) bl (p1, p2) ph w' ∧ True from fun ph w1 w' h1 h2 => ⟨h1.ext h2, trivial⟩)
          have HPp := Lib.hid (show ∀ (ph : Bool) (w1 : World), PtC y4 (S + 1) bl (p1, p2) ph w1 → w1.heap[t + 1]? = some (.cells #[.int .i64 p1, .int .u64 p2] 87 (0, 0)) from fun ph w1 h1 => (h1.grown.block (t + 1) (Array.getElem?_eq_some_iff.1 HP4.out).1 (fun e => by have := Option.some.inj e; omega)).trans HP4.out)
          have HLk := Lib.hid (show ∀ (ph : Bool) (w1 : World), PtC y4 (S + 1) bl (p1, p2) ph w1 → (Instr.lookup 85 (.map (some (S + 1))) (.agg #[.int .i64 p1, .int .u64 p2]) false).run Try.prog w1 = .ok (.int .i64 0) w1 from fun ph w1 h1 => h1.lookup Hno.out)
          have HEn := Lib.hid (show ∀ (w1 : World), PtC y4 (S + 1) bl (p1, p2) false w1 → ∃ w', (Instr.mapEntry 85 (.map (some (S + 1))) (.agg #[.int .i64 p1, .int .u64 p2])).run Try.prog w1 = .ok (.tuple #[.int .i64 0, .int .i64 (N : Int)]) w' ∧ PtC y4 (S + 1) bl (p1, p2) true w' from fun w1 h1 => by rw [← HN.out]; exact h1.entry Hno.out)
          clear hbl hN HL HF
          refine lq_start (C := PtC y4 (S + 1) bl (p1, p2)) (E := fun _ _ _ => True) 6 4 (by omega) (by kernel_rfl) (by kernel_rfl) (fun _ _ => trivial) (fun _ _ _ => trivial) hC0 ?_
          simp only [List.take_succ_cons, List.take_zero]
          refine lq_s (.ex (.map (some (S + 1)))) [] (by omega) (by kernel_rfl) rfl (by rfl) trivial HST.out (fun ph w1 hw1 => ?_) ?_
          · simp only [pk, lexVals]
            clear hw1
            go_simp
            exact ⟨Ext.refl _, by first | rfl | simp⟩
          refine lq_s (.ex (.agg #[.int .i64 p1, .int .u64 p2])) [] (by omega) (by kernel_rfl) rfl (by rfl) trivial HST.out (fun ph w1 hw1 => ?_) ?_
          · simp only [pk, lexVals]
            exact lx_row rfl rfl (HPp.out ph w1 hw1) Try.underlying87 rfl (by kernel_rfl)
          refine lq_s (.ex (.int .i64 0)) [(0, 33), (1, 32)] (by omega) (by kernel_rfl) rfl (by rfl) trivial HST.out (fun ph w1 hw1 => ?_) ?_
          · simp only [pk, nthSp, lexVals]
            exact lx_lookup rfl rfl rfl (HLk.out ph w1 hw1)
          refine lq_s (.ex (.int .i64 1)) [(0, 34)] (by omega) (by kernel_rfl) rfl (by rfl) trivial HST.out (fun ph w1 hw1 => ?_) ?_
          · simp only [pk, nthSp, lexVals]
            clear hw1
            go_simp
            exact ⟨Ext.refl _, by first | rfl | simp⟩
          refine lq_m (.ex (.tuple #[.int .i64 0, .int .i64 (N : Int)])) [(2, 33), (3, 32)] rfl (by kernel_rfl) rfl (by rfl) trivial (fun w1 hw1 => ?_) ?_
          · simp only [pk, nthSp, lexVals]
            exact lx_entry rfl rfl rfl (HEn.out w1 hw1)
          refine lq_s (.ex (.int .i64 (N : Int))) [(0, 36)] (by omega) (by kernel_rfl) rfl (by rfl) trivial HST.out (fun ph w1 hw1 => ?_) ?_
          · simp only [pk, nthSp, lexVals]
            clear hw1
            go_simp
            exact ⟨Ext.refl _, by first | rfl | simp⟩
          refine lq_stop (by rfl) (by decide) fun w7 hw7 => ?_
          obtain ⟨y8, hr8, hg8, hk8⟩ := hw7.store
          rw [HN.out] at hr8
          have HR8 := Lib.hid hr8
          clear hw7 HST hC0 HPp HLk HEn hr8
          simp only [rv, pf, lexVals, List.drop_succ_cons, List.drop_zero]
          simp only [Act.put, List.setIfInBounds_toArray, List.set_cons_zero, List.set_cons_succ]
          have hSw : w.heap.size ≤ S := by rw [HS.out]; exact Nat.le_refl _
          have h4s := (Array.getElem?_eq_some_iff.1 HB4.out).1
          have hB8 : y8.heap[t]? = some (.cells X 36 (0, 0)) := (hg8.block t h4s (fun e => by have := Option.some.inj e; omega)).trans HB4.out
          have hE8 : Ext w y8 := ext_grownNew HSt4.out.ext (by omega) hg8
          have ho8 : KvAt tokK y8 S (G.map gpE) := HSt4.out.out.same (hg8.block S (by omega) (fun e => by have := Option.some.inj e; omega))
          have hn8 : KvAt plK y8 (S + 1) ((cntN l (k + 1)).map bnE) := by
            rw [Hnx.out, List.map_append, Hbl.out, List.map_singleton, Hbx.out]
            exact hk8
          have hp8 : GpAt y8 (S + 2) G := HSt4.out.gps.kept (b := S + 1) (by omega) hg8
          obtain ⟨y9, hy9⟩ : ∃ z, y8.alloc (.cells X 36) = z := ⟨_, rfl⟩
          obtain ⟨q, hq⟩ : ∃ z, y8.heap.size = z := ⟨_, rfl⟩
          have hE9 : Ext y8 y9 := by rw [← hy9]; exact (Ext.refl y8).alloc _
          have hq9 : y9.heap[q]? = some (.cells X 36 (0, 0)) := by rw [← hy9]; exact heap_new y8 _ _ hq.symm
          have HPut := Lib.hid (put_row (hE8.trans hE9) hSw (ho8.ext hE9) (hn8.ext hE9) (hp8.ext hE9) HSt4.out.says Hnx.out (by rw [HX.out]; exact hq9) (by have := ho8.lt; omega) (by omega))
          obtain ⟨LI, hLI⟩ : ∃ z, ((List.range 16).map fun j => Value.int .u8 (x.hd.1.item j)) = z := ⟨_, rfl⟩
          obtain ⟨TK, hTK⟩ : ∃ z, (rowArr 16 fun j => Value.int .u8 (x.hd.1.item j)) = z := ⟨_, rfl⟩
          have HTV := Lib.hid (show tokV x.hd.1.item = .agg TK by rw [← hTK]; rfl)
          have HTa := Lib.hid (show LI.toArray = TK by rw [← hLI, ← hTK]; rfl)
          have HLl := Lib.hid (show LI.length = 16 by rw [← hLI]; simp)
          have HRi := Lib.hid (show y8.rangeAt t 37 LI from fun j v hv => by
            rw [← hLI, List.getElem?_map] at hv
            have hj : j < 16 := by
              cases hr : (List.range 16)[j]? with
              | none => rw [hr] at hv; cases hv
              | some z =>
                have := (List.getElem?_eq_some_iff.1 hr).1
                rwa [List.length_range] at this
            rw [List.getElem?_range hj] at hv
            obtain rfl := Option.some.inj hv
            have h9 := hB8
            rw [← HX.out] at h9
            rw [rw_hd h9 (37 + j) (by omega)]
            unfold hdC
            rw [if_neg (by omega), if_neg (by omega), if_neg (by omega), if_neg (by omega), if_neg (by omega), if_neg (by omega), if_pos (by omega), show 37 + j - 37 = j by omega])
          have HB8 := Lib.hid hB8
          have Hy9 := Lib.hid hy9
          have Hq := Lib.hid hq
          clear hSw h4s hB8 hE8 ho8 hn8 hp8 hE9 hq9 hLI hTK hy9 hg8 hk8
          go_upto_region 9 with (refine wp_estore rfl _ _ _ _ rfl (.map (some (S + 1))) (.int .i64 (N : Int)) (.int .i64 1) y8 rfl rfl rfl HR8.out ?_)
          obtain ⟨y10, j, g, hr10, hown, hcq, hgl, hsz10, hput⟩ := HPut.out
          rw [HTV.out] at hr10
          have HR10 := Lib.hid hr10
          have HOw := Lib.hid hown
          have HCq := Lib.hid hcq
          have HGl := Lib.hid hgl
          have HS10 := Lib.hid hsz10
          have HPt := Lib.hid hput
          clear hr10 hown hcq hgl hsz10 hput HPut hq
          obtain ⟨gk, ga, gc, gr⟩ := g
          obtain ⟨gn, hgn⟩ : ∃ z, gr.length = z := ⟨_, rfl⟩
          have eV : gpV ⟨gk, ga, gc, gr⟩ = .slice ga gn gc := by rw [← hgn]; rfl
          rw [eV] at HR10 HOw HPt
          simp only at HOw HGl HPt
          rw [hgn] at HOw HGl HPt
          clear hgn eV
          go_upto_region 10 with (first | (refine wpList_load_mid rfl 27 (.tmp 40) rfl t _ rfl LI _ HRi.out Try.underlying27 rfl (by rw [HLl.out]; kernel_rfl) ?_; rw [HTa.out]; simp only [Act.put, List.setIfInBounds_toArray, List.set_cons_zero, List.set_cons_succ]) | (refine wpList_load_rowW rfl 36 (.tmp 6) rfl t rfl _ _ _ _ HB8.out Try.underlying36 rfl (by rw [HXs.out]; kernel_rfl) ?_; simp only [Act.put, List.setIfInBounds_toArray, List.set_cons_zero, List.set_cons_succ]) | (refine wp_build_rw1 rfl (.tmp 43) rfl x X HX.out rfl ?_; rw [Hq.out]; refine wpList_world (w' := y9) Hy9.out ?_; simp only [Act.put, List.setIfInBounds_toArray, List.set_cons_zero, List.set_cons_succ]) | (refine wp_entry rfl 65 (.tmp 38) (.tmp 41) rfl (.map (some S)) (.agg TK) _ y10 rfl rfl HR10.out ?_; simp only [Act.put, List.setIfInBounds_toArray, List.set_cons_zero, List.set_cons_succ]) | (refine wp_extract rfl (.tmp 45) 0 rfl _ _ rfl rfl ?_; simp only [Act.put, List.setIfInBounds_toArray, List.set_cons_zero, List.set_cons_succ]) | (refine wp_extract rfl (.tmp 45) 1 rfl _ _ rfl rfl ?_; simp only [Act.put, List.setIfInBounds_toArray, List.set_cons_zero, List.set_cons_succ]) | (refine append_rw rfl (.tmp 42) (.tmp 44) rfl (S + 2) (.slice ga gn gc) gn gr rfl HOw.out q 1 x rfl HCq.out HGl.out HS10.out ?_; rintro v11 y11 h1 h2 h3; obtain ⟨y12, hr12, G', hst⟩ := HPt.out v11 y11 h1 h2 h3; have HR12 := Lib.hid hr12; have HSt12 := Lib.hid hst; clear h1 h2 h3 hr12 hst) | (refine wp_estore rfl 65 (.tmp 38) (.tmp 47) (.tmp 46) rfl (.map (some S)) (.int .i64 (j : Int)) _ y12 rfl rfl rfl HR12.out ?_))
          go_wp2
          go_roundw
          case rel => exact ⟨k + 1, G', by omega, by go_num, HSt12.out⟩
          case measure => simp [intOf]; omega
    · obtain rfl : k = n := by omega
      have x1 : ¬ (k : Int) < (k : Int) := by omega
      go_wp2_with fail
      go_ret
      exact ⟨S, G, rfl, by rw [HS.out]; exact Nat.le_refl _, HSt.out.ext, HSt.out.out, HSt.out.gps, HSt.out.says⟩

set_option maxRecDepth 100000 in
theorem parted_nil (a : Option Addr) (c : Nat) (l : List Rw) (w : World) :
    Calls Try.prog 33 #[.slice a 0 c] w (PartSays w l 0) := by
  have hmm := @run_makeMap Try.prog
  have HSt0 := Lib.hid (PtSt.start w l)
  obtain ⟨S, hS⟩ : ∃ S, w.heap.size = S := ⟨_, rfl⟩
  have HS := Lib.hid hS
  rw [hS] at HSt0
  clear hS
  go_enter Try.func33, Try.ntmps33
  go_upto_region 3 with (fail)
  rw [HS.out]
  obtain ⟨w2, hw2⟩ : ∃ z, (w.alloc (.map #[] 0)).alloc (.map #[] 0) = z := ⟨_, rfl⟩
  rw [hw2] at HSt0
  refine wp_world (w' := w2) hw2 ?_
  clear hw2 hmm
  go_wp2
  go_loopw [12] (fun i wr => i = .int .i64 0 ∧ wr = w2) (fun _ _ => 0)
  case atStart => exact ⟨rfl, rfl⟩
  case round =>
    obtain ⟨rfl, rfl⟩ := hrel
    go_wp2
    go_ret
    exact ⟨S, [], rfl, by rw [HS.out]; exact Nat.le_refl _, HSt0.out.ext, HSt0.out.out, HSt0.out.gps, HSt0.out.says⟩

end Go.Proofs.Ytldaligeckjhaaa
