/-
  The walk of jalousielaw20.filled. Asked: the two tables; few pieces, of small sizes.
-/
import Derived.Test.YtihlpfdhallfpaaDoorXs
namespace Go.Proofs.YtihlpfdhallfpaaDoor
open Go.ChangeShapes Go.WideShapes Go.ChangeAt Go.RowKit

theorem rxAsk0 {L : Nat → List Pc} {p : Pc} (h : rxAsk L p = 0) : hdB p.hd.1 p.hd.2 = true := by
  unfold rxAsk at h
  split at h
  · rename_i h1
    exact h1
  · cases h
theorem rxAsk0g {L : Nat → List Pc} {p : Pc} {i : Nat} (h : rxAsk L p = 0) (hw : p.hd.1.writer = (i : Int) + 1) : wholeB p = true ∧ p.hd.1.seq = ((L i).length : Int) + 1 := by
  have hF := rxAsk0 h
  have hb := hdB_bd hF
  unfold rxAsk at h
  rw [if_pos hF, show (p.hd.1.writer - 1).toNat = i by omega] at h
  split at h
  · rename_i ha
    split at h
    · rename_i hwh
      refine ⟨hwh, ?_⟩
      unfold askV at ha
      rw [List.length_map] at ha
      split at ha
      · cases ha
      · split at ha
        · split at ha <;> cases ha
        · rename_i h2
          split at ha
          · cases ha
          · rename_i h3
            omega
    · cases h
  · rename_i ha
    exact absurd h ha
theorem wp_pmidF {ops : Array Oper} {Q : Exit → Act → World → Prop} {rest : List Oper} {o : Oper} {a : Act} {w : World} (hw : Region.wanted o (yielded ops a.tmps) = true) (x : Operand) (ho : o.op = .load 37 x)
    (b off : Nat) (p : Pc) (hx : a.eval x = .pointer (some ⟨b, off, none⟩)) (hr : w.rangeAt b off (pcL p)) (k : wpList Tryd.prog ops Q rest (a.put o.dst (.agg (pcV p))) w) : wpList Tryd.prog ops Q (o :: rest) a w := by
  refine wpList_want hw fun K hK => ?_
  unfold Oper.wp execOp
  simp only [ho, hx, Instr.loadAt, Instr.sureAddr, Sem.run_bind, Sem.run_pure, Result.andThen_ok, run_loadVar_mid w b off 37 (pcL p) _ hr Tryd.underlying37 rfl (by rw [pcL_length]; kernel_rfl)]
  exact hK _ _ k
/-- What Right hands back. -/
def RgtA (y3 : World) (l : List Pc) (wv : Int) (p : Pc) (u : Value) (w : World) : Prop :=
  ∃ x q, u = .agg (pcV (rgtP (l.map (·.hd)) wv p x q)) ∧ (0 ≤ x ∧ x < 256) ∧ y3.heap.size ≤ q ∧ BsAt w (some ⟨q, 0, none⟩) 80 80 (rep80 x)
theorem RgtA.ext {y3 w w' : World} {l : List Pc} {wv : Int} {p : Pc} {u : Value} (h : RgtA y3 l wv p u w) (he : Ext w w') : RgtA y3 l wv p u w' := by
  obtain ⟨x, q, h1, h2, h3, h4⟩ := h
  exact ⟨x, q, h1, h2, h3, h4.ext he⟩
/-- The piece that is put in. -/
def PieceIn (y yc : World) (g gx : Nat) (G : Nat → Nat) (S : Nat → CSt) (gr : Nat) (R : Nat → Option Addr × Nat) (L : Nat → List Pc) : Prop :=
  ∃ p, yc.heap[g]? = some (.cells (pcV p) 37 (0, 0)) ∧ PcAt yc p ∧ p.hd.1.tn ≤ 20 ∧ p.bd.length ≤ 2100 ∧ (∀ b, PcBlk p b → ¬ IxOwns gx G S b ∧ ¬ ROwns gr R L b) ∧ Ext y yc
def FilledSays (w : World) (n : Nat) (e : Ending) (w' : World) : Prop :=
  ∃ (gx : Nat) (G : Nat → Nat) (S : Nat → CSt) (gr : Nat) (R : Nat → Option Addr × Nat) (L : Nat → List Pc) (cnt : Nat), e = .returned (.tuple #[.pointer (some ⟨gx, 0, none⟩), .pointer (some ⟨gr, 0, none⟩), .bool true]) ∧ XMem w w' gx G S gr R L cnt ∧ XRel S L cnt ∧ cnt ≤ n
def zero6s : Array Value := #[.slice none 0 0, .slice none 0 0, .slice none 0 0, .slice none 0 0, .slice none 0 0, .slice none 0 0]

theorem pis_rp {w : World} {b off n c : Nat} {l : List Pc} (h : PisAt w (some ⟨b, off, none⟩) n c l) (k : Nat) (hk : k < n) : w.rangeAt b (off + k * 126) (pcL (l.getD k pcN)) := by
  obtain ⟨b', off', ha, hc⟩ := h.at_ (by omega)
  simp only [Option.some.injEq, Addr.mk.injEq, and_true] at ha
  obtain ⟨rfl, rfl⟩ := ha
  intro j v hv
  have hj : j < 126 := by
    have := (List.getElem?_eq_some_iff.1 hv).1
    rwa [pcL_length] at this
  rw [pcL_get _ j hj] at hv
  rw [← Option.some.inj hv]
  exact hc k hk j hj

set_option maxHeartbeats 16000000 in
set_option maxRecDepth 100000 in
theorem filled_any (a : Option Addr) (n c : Nat) (l : List Pc) (ra : Option Addr) (rn rc : Nat) (rs : List Int) (w : World) (h : PisAt w a n c l) (hn : n ≤ 30) (hsz : ∀ j, j < n → (l.getD j pcN).hd.1.tn ≤ 20 ∧ (l.getD j pcN).bd.length ≤ 2100) (hb : BsAt w ra rn rc rs) (hk : KsAt 1 w) (hkw : KsAt 0 w) :
    Calls Tryd.prog 15 #[.slice a n c, .slice ra rn rc] w fun e w' => FilledSays w n e w' := by
  have hg0 : 1 < w.heap.size := World.block_lt_of_cell? w _ (hk 0 (by omega))
  have Hg0 := Lib.hid hg0
  have HRg := Lib.hid (show ∀ x, Ext w x → KsAt 1 x from fun x hx => hdKs_ext hk hx)
  have HRw := Lib.hid (show ∀ x, Ext w x → KsAt 0 x from fun x hx => hdKs_ext hkw hx)
  have H := Lib.hid h
  have HB := Lib.hid hb
  have Hsz := Lib.hid hsz
  have hrs := hb.small
  have hz := pcZ0
  clear hk hkw h hb hsz hg0
  go_enter Tryd.func15, Tryd.ntmps15
  go_wp2_with fail
  refine (ixNew_any w.heap.size w (Nat.le_refl _)).mono ?_
  rintro e w1 ⟨gx, G, rfl, hI, hE⟩
  obtain ⟨gr, hgr⟩ : ∃ g, w1.heap.size = g := ⟨_, rfl⟩
  obtain ⟨w2, hw2⟩ : ∃ x, w1.alloc (.cells zero6s 54) = x := ⟨_, rfl⟩
  have hE2 : Ext w1 w2 := by rw [← hw2]; exact (Ext.refl w1).alloc _
  have hR2 : w2.rowIs gr 54 6 (fun _ => .slice none 0 0) := by
    rw [← hw2]
    exact rowIs_of (heap_new w1 _ _ hgr.symm)
  have HM := Lib.hid (XMem.begin (w := w) (hI.ext hE2) hR2 (by have := Below.size hE; omega) (fun s hs e => by have := (hI.lt s hs gr e).2; omega) (hE.trans hE2))
  have Hw2 := Lib.hid hw2
  have Hgr := Lib.hid hgr
  clear hI hE hE2 hR2 hw2 hgr
  go_upto_region 2 with (fail)
  refine wp_world (w' := w2) Hw2.out ?_
  rw [Hgr.out]
  clear Hw2
  go_wp2
  go_loopw [9] (fun i y => ∃ (k : Nat) (S : Nat → CSt) (R : Nat → Option Addr × Nat) (L : Nat → List Pc) (cnt : Nat), k ≤ n ∧ i = .int .i64 (k : Int) ∧ XMem w y gx G S gr R L cnt ∧ XRel S L cnt ∧ cnt ≤ k) (fun i _ => n - (intOf i).toNat)
  case atStart => exact ⟨0, _, _, _, 0, Nat.zero_le _, rfl, HM.out, XRel.begin, Nat.le_refl _⟩
  case round =>
    obtain ⟨k, S, R, L, cnt, hk, rfl, hM, hR, hc⟩ := hrel
    have HM1 := Lib.hid hM
    have HRl := Lib.hid hR
    rename World => y
    clear hM hR HM Hgr
    by_cases hlt : k < n
    · have x1 : (k : Int) < (n : Int) := by omega
      have x2 : (0 : Int) ≤ (k : Int) := by omega
      have hpi := H.out.ext HM1.out.ext
      have hp := hpi.get k hlt
      obtain ⟨b, off, hab, -⟩ := hpi.at_ (by omega)
      subst hab
      have hr := pis_rp hpi k hlt
      obtain ⟨p, hpe⟩ : ∃ p, l.getD k pcN = p := ⟨_, rfl⟩
      have hps := Hsz.out k hlt
      have hp0 := H.out.get k hlt
      rw [hpe] at hp hr hps hp0
      obtain ⟨A0, hA0⟩ : ∃ A, pcV p = A := ⟨_, rfl⟩
      obtain ⟨g, hg⟩ : ∃ g, y.heap.size = g := ⟨_, rfl⟩
      obtain ⟨y3, hy3⟩ : ∃ x, y.alloc (.cells A0 37) = x := ⟨_, rfl⟩
      have hE3 : Ext y y3 := by rw [← hy3]; exact (Ext.refl y).alloc _
      have hB3 : y3.heap[g]? = some (.cells A0 37 (0, 0)) := by rw [← hy3]; exact heap_new y _ _ hg.symm
      have HAs := Lib.hid (show A0.size = 126 by rw [← hA0]; exact pcV_size _)
      have HAo := Lib.hid (show A0.all (·.oneCell') = true by rw [← hA0]; exact pcV_one _)
      have HA0 := Lib.hid hA0
      have Hr := Lib.hid hr
      have Hps := Lib.hid hps
      have Hp0 := Lib.hid hp0
      have Hp := Lib.hid hp
      have Hg := Lib.hid hg
      have HE3 := Lib.hid hE3
      have HB3 := Lib.hid hB3
      have Hy3 := Lib.hid hy3
      have Hc := Lib.hid hc
      have Hk := Lib.hid hlt
      have Hold := Lib.hid (show ∀ b, PcBlk p b → b < w.heap.size from fun b hb => PcBlk.lt hp0 hb)
      clear hpi hp hr hpe hps hp0 hA0 hg hy3 hE3 hB3 hc hk hlt
      go_upto_region 6 with (first
        | (refine wp_pmidF rfl _ rfl b (off + k * 126) p rfl Hr.out ?_; rw [HA0.out])
        | (refine wpList_store_row rfl 37 _ _ rfl _ _ rfl rfl _ _ (heap_new _ _ y.heap.size rfl) (by rw [HAs.out]; kernel_rfl) (by rw [HAs.out, pcV_size]) HAo.out ?_; rw [setRow_new _ _ _ _ _ rfl]))
      simp only [Act.put]
      refine wp_world (w' := y3) Hy3.out ?_
      rw [Hg.out]
      clear Hy3 Hr
      have hEw3 := HM1.out.ext.trans HE3.out
      have hbs := HB.out.ext hEw3
      go_cut [37] (fun v yc => ∃ B, v = .bool B ∧ (B = true → k < rn) ∧ yc = y3)
      case first =>
        by_cases h0 : k < rn
        · obtain ⟨b2, o2, hra, hc2⟩ := hbs.at_ (by omega)
          have c2 := hc2 k h0
          rw [hra]
          obtain ⟨u, hu⟩ : ∃ u, rs.getD k 0 = u := ⟨_, rfl⟩
          rw [hu] at c2
          have x3 : (k : Int) < (rn : Int) := by omega
          have Hh0 := Lib.hid h0
          have Hra := Lib.hid hra
          clear hbs hc2 hu h0
          go_wp2
          rw [← Hra.out]
          go_meet
          case rel => exact ⟨_, rfl, fun _ => Hh0.out, rfl⟩
        · have x3 : ¬ (k : Int) < (rn : Int) := by omega
          clear hbs
          go_wp2
          go_meet
          case rel => exact ⟨false, rfl, fun e => (by cases e), rfl⟩
      case rest =>
        obtain ⟨B6, rfl, hB6, hyc⟩ := hcut
        subst hyc
        have HB6 := Lib.hid hB6
        clear hB6
        go_upto_if 37 with (fail)
        go_cut [11] (fun v yd => PieceIn y yd g gx G S gr R L)
        case first =>
          cases B6 with
          | false =>
            have HPi := Lib.hid (show PieceIn y wc g gx G S gr R L from ⟨p, by rw [HA0.out]; exact HB3.out, Hp.out.ext HE3.out, Hps.out.1, Hps.out.2, fun b hb => ⟨HM1.out.oldI (Hold.out b hb), HM1.out.oldR (Hold.out b hb)⟩, HE3.out⟩)
            clear hbs
            go_wp2
            go_meet
            case rel => exact HPi.out
          | true =>
            have h0 := HB6.out rfl
            obtain ⟨b2, o2, hra, hc2⟩ := hbs.at_ (by omega)
            have c2 := hc2 k h0
            have hub := getD_byte hbs.byte k
            rw [hra]
            obtain ⟨u, hu⟩ : ∃ u, rs.getD k 0 = u := ⟨_, rfl⟩
            rw [hu] at c2 hub
            have x3 : (k : Int) < (rn : Int) := by omega
            obtain ⟨r6, hr6, hr0, hr5⟩ : ∃ r, u.tmod 6 = r ∧ 0 ≤ r ∧ r < 6 := ⟨_, rfl, by rw [Int.tmod_eq_emod_of_nonneg hub.1]; omega, by rw [Int.tmod_eq_emod_of_nonneg hub.1]; omega⟩
            have hr6' : u % 6 = r6 := by rw [← hr6, Int.tmod_eq_emod_of_nonneg hub.1]
            have wR8 : IntKind.u8.wrap r6 = r6 := by rw [IntKind.wrap_u8]; omega
            have wR : IntKind.i64.wrap r6 = r6 := by rw [IntKind.wrap_i64]; omega
            have wR1 : IntKind.i64.wrap (1 + r6) = 1 + r6 := by rw [IntKind.wrap_i64]; omega
            obtain ⟨wv, hwv⟩ : ∃ wv, 1 + r6 = wv := ⟨_, rfl⟩
            obtain ⟨i, hwi, hi6⟩ : ∃ i : Nat, wv = (i : Int) + 1 ∧ i < 6 := ⟨r6.toNat, by omega, by omega⟩
            have Hwi := Lib.hid hwi
            have Hi := Lib.hid hi6
            have Hwb := Lib.hid (show 1 ≤ wv ∧ wv ≤ 6 by omega)
            have hM3 := HM1.out.more HE3.out
            have hln := HRl.out.small (by have := Hc.out; have := Hk.out; omega) i hi6
            have hpis := hM3.ri.pis i hi6 (by omega)
            obtain ⟨sa, hsa⟩ : ∃ x, (R i).1 = x := ⟨_, rfl⟩
            obtain ⟨sc, hsc⟩ : ∃ x, (R i).2 = x := ⟨_, rfl⟩
            obtain ⟨N, hN⟩ : ∃ x, (L i).length = x := ⟨_, rfl⟩
            have hcr : wc.cell? ⟨gr, i, none⟩ = some (.slice sa N sc) := by
              have h1 := hM3.ri.row.cell (i := i) (by omega)
              unfold rsl at h1
              rw [hsa, hsc, hN] at h1
              exact h1
            rw [hsa, hsc, hN] at hpis
            have HCr := Lib.hid (show ∀ x, Ext wc x → x.cell? ⟨gr, i, none⟩ = some (.slice sa N sc) from fun x hx => by rw [Ext.cell hx (World.block_lt_of_cell? _ _ hcr)]; exact hcr)
            have HRi := Lib.hid (show ∀ x, Ext wc x → Calls Tryd.prog 24 #[.slice sa N sc, .int .i64 wv, .agg A0] x fun e w' => ∃ v, e = .returned v ∧ RgtA wc (L i) wv p v w' ∧ Ext x w' from fun x hx => by
              have h1 := right_any sa N sc (L i) wv p x (hpis.ext hx) (by omega) Hwb.out (Hp.out.ext (HE3.out.trans hx)) (HRw.out x (hM3.ext.trans hx))
              rw [HA0.out] at h1
              refine h1.mono fun e w' ⟨x5, q5, e1, e2, e3, e4, e5⟩ => ⟨_, e1, ⟨x5, q5, rfl, e2, by have := Below.size hx; omega, e4⟩, e5⟩)
            have HX := Lib.hid (show ∀ x, Ext wc.drew x → Ext wc x from fun x hx => Ext.trans (Ext.refl wc).drew hx)
            have Hra := Lib.hid hra
            clear hbs hc2 hu h0 hub hr0 hr5 hwi hi6 hM3 hln hpis hsa hsc hN hcr hra hEw3 wR1
            have wR1 : IntKind.i64.wrap (1 + r6) = wv := by rw [IntKind.wrap_i64]; have := Hwb.out; omega
            clear hwv
            go_upto_region 8 with (fail)
            rw [← Hra.out]
            clear hr6 hr6' wR8 wR wR1 c2 x3
            refine wp_region_lexT 10 (by kernel_rfl) (by kernel_rfl) ?_
            simp only [List.take_succ_cons, List.take_zero, List.drop_succ_cons, List.drop_zero]
            refine lx_e (.pointer (some ⟨gr, 0, none⟩)) [] (by kernel_rfl) rfl (by rfl) (fun w1 hw1 => ?_) ?_
            · simp only [pk, lexVals]
              clear hw1
              go_simp
              exact ⟨Ext.refl _, by first | rfl | simp⟩
            refine lx_e (.int .i64 wv) [] (by kernel_rfl) rfl (by rfl) (fun w1 hw1 => ?_) ?_
            · simp only [pk, lexVals]
              clear hw1
              go_simp
              exact ⟨Ext.refl _, by first | rfl | simp⟩
            refine lx_e (.int .i64 (i : Int)) [(0, 46)] (by kernel_rfl) rfl (by rfl) (fun w1 hw1 => ?_) ?_
            · simp only [pk, nthSp, lexVals]
              have hi := Hwi.out
              have hi2 := Hi.out
              clear hw1
              go_simp
              exact ⟨Ext.refl _, by first | rfl | (show Value.int .i64 _ = Value.int .i64 _; congr 1; first | omega | (rw [IntKind.wrap_i64]; omega))⟩
            refine lx_e (.pointer (some ⟨gr, 0, none⟩)) [(2, 45)] (by kernel_rfl) rfl (by rfl) (fun w1 hw1 => ?_) ?_
            · simp only [pk, nthSp, lexVals]
              clear hw1
              go_simp
              exact ⟨Ext.refl _, by first | rfl | simp⟩
            refine lx_e (.pointer (some ⟨gr, 0, none⟩)) [(0, 48)] (by kernel_rfl) rfl (by rfl) (fun w1 hw1 => ?_) ?_
            · simp only [pk, nthSp, lexVals]
              clear hw1
              go_simp
              exact ⟨Ext.refl _, by first | rfl | simp⟩
            refine lx_e (.pointer (some ⟨gr, i, none⟩)) [(2, 47), (0, 49)] (by kernel_rfl) rfl (by rfl) (fun w1 hw1 => ?_) ?_
            · simp only [pk, nthSp, lexVals]
              have hi : (i : Int) < 6 := by have := Hi.out; omega
              clear hw1
              go_simp
              exact ⟨Ext.refl _, by first | rfl | simp⟩
            refine lx_e (.slice sa N sc) [(0, 50)] (by kernel_rfl) rfl (by rfl) (fun w1 hw1 => ?_) ?_
            · simp only [pk, nthSp, lexVals]
              have hc := HCr.out w1 (HX.out w1 hw1)
              clear hw1
              go_simp
              exact ⟨Ext.refl _, by first | rfl | simp⟩
            refine lx_e (.int .i64 wv) [] (by kernel_rfl) rfl (by rfl) (fun w1 hw1 => ?_) ?_
            · simp only [pk, lexVals]
              clear hw1
              go_simp
              exact ⟨Ext.refl _, by first | rfl | simp⟩
            refine lx_e (.agg A0) [] (by kernel_rfl) rfl (by rfl) (fun w1 hw1 => ?_) ?_
            · simp only [pk, lexVals]
              exact lu_row rfl rfl ((HX.out w1 hw1).keep HB3.out) Tryd.underlying37 rfl (by rw [HAs.out]; kernel_rfl)
            refine lx_a (RgtA wc (L i) wv p) [(2, 51), (1, 52), (0, 53)] (by kernel_rfl) rfl (by rfl) (fun u w w' he h => h.ext he) (fun w1 hw1 => ?_) ?_
            · simp only [pk, nthSp, lexVals]
              have HM := Lib.hid (HRi.out w1 (HX.out w1 hw1))
              clear hw1
              go_simp
              refine HM.out.mono ?_
              rintro e w3 ⟨v, rfl, hs, hE3⟩
              exact ⟨_, rfl, hE3, hs⟩
            refine lx_stopT (by rfl) (by decide) fun z hz => ?_
            have HEz := Lib.hid (HX.out z hz)
            clear hz HX HCr HRi
            simp only [rv, pf, lexVals, List.drop_succ_cons, List.drop_zero]
            rintro u54 ⟨x5, q5, rfl, hx5, hq5, hb5⟩
            simp only [Act.put, List.setIfInBounds_toArray, List.set_cons_zero, List.set_cons_succ]
            obtain ⟨p2, hp2⟩ : ∃ p2, rgtP ((L i).map (·.hd)) wv p x5 q5 = p2 := ⟨_, rfl⟩
            have hM4 := HM1.out.more (HE3.out.trans HEz.out)
            have hat2 : PcAt z p2 := by
              rw [← hp2]
              exact rgtP_at (by rw [List.length_map]; have := HRl.out.small (by have := Hc.out; have := Hk.out; omega) i Hi.out; omega) Hwb.out (Hp.out.ext (HE3.out.trans HEz.out)).hd hb5
            have hblk : ∀ b, PcBlk p2 b → (¬ IxOwns gx G S b ∧ ¬ ROwns gr R L b) ∧ b ≠ g := fun b hb => by
              rw [← hp2] at hb
              have hgg := Hg.out
              have hz3 := Below.size HE3.out
              have hz4 := Below.size HM1.out.ext
              rcases hb with ⟨h0, off, e⟩ | ⟨h0, off, e⟩
              · have := Hold.out b (.inl ⟨h0, off, e⟩)
                exact ⟨⟨HM1.out.oldI this, HM1.out.oldR this⟩, by omega⟩
              · have e' : (some ⟨q5, 0, none⟩ : Option Addr) = some ⟨b, off, none⟩ := e
                simp only [Option.some.injEq, Addr.mk.injEq, and_true] at e'
                obtain ⟨rfl, _⟩ := e'
                have hz5 : g < wc.heap.size := (Array.getElem?_eq_some_iff.1 HB3.out).1
                exact ⟨⟨HM1.out.newI (by omega), HM1.out.newR (by omega)⟩, by omega⟩
            have ht2 : p2.hd.1.tn ≤ 20 := by rw [← hp2]; exact Hps.out.1
            have hd2 : p2.bd.length ≤ 2100 := by
              rw [← hp2]
              show (rep80 x5).length ≤ 2100
              rw [rep80_length]
              omega
            obtain ⟨A2, hA2⟩ : ∃ A, pcV p2 = A := ⟨_, rfl⟩
            have HAs2 := Lib.hid (show A2.size = 126 by rw [← hA2]; exact pcV_size _)
            have HAo2 := Lib.hid (show A2.all (·.oneCell') = true by rw [← hA2]; exact pcV_one _)
            have HBz := Lib.hid (HEz.out.keep HB3.out)
            have HPi := Lib.hid (show PieceIn y (z.setRow g A2) g gx G S gr R L from ⟨p2, by rw [hA2]; exact setRow_heap _ g _ _ _ _ HBz.out, hat2.keep fun b hb _ => setRow_other z g b _ (hblk b hb).2, ht2, hd2, fun b hb => (hblk b hb).1, below_setRow (HE3.out.trans HEz.out) (by have := Hg.out; omega) _⟩)
            rw [hp2, hA2]
            clear hp2 hM4 hat2 hblk ht2 hd2 hA2 hx5 hq5 hb5
            go_wp2_with (refine wpList_store_row rfl 37 _ _ rfl g _ rfl rfl _ _ HBz.out (by rw [HAs2.out]; kernel_rfl) (by rw [HAs2.out, HAs.out]) HAo2.out ?_)
            go_meet
            case rel => exact HPi.out
        case rest =>
          rename World => yd
          obtain ⟨p2, hB, hpa, ht2, hd2, hbk, hE⟩ := hcut
          have hM5 := HM1.out.more hE
          have hcn : cnt ≤ 30 := by have := Hc.out; have := Hk.out; omega
          have hask := HRl.out.ask hM5 p2 hpa.hd.toks.len
          obtain ⟨A, hA⟩ : ∃ A, pcV p2 = A := ⟨_, rfl⟩
          have HA := Lib.hid hA
          have HAz := Lib.hid (show A.size = 126 by rw [← hA]; exact pcV_size _)
          rw [hA] at hB
          obtain ⟨V, hV⟩ : ∃ V, rxAsk L p2 = V := ⟨_, rfl⟩
          rw [hV] at hask
          have HCn := Lib.hid (ixCount_any hM5.ix)
          have HM5 := Lib.hid hM5
          have HBd := Lib.hid hB
          have Hpa := Lib.hid hpa
          have Hbk := Lib.hid hbk
          have HV := Lib.hid hV
          have Hask := Lib.hid hask
          have Hcn := Lib.hid hcn
          have HEd := Lib.hid hE
          have Ht2 := Lib.hid ht2
          have Hd2 := Lib.hid hd2
          have Hgs := Lib.hid (show g < yd.heap.size from (Array.getElem?_eq_some_iff.1 hB).1)
          obtain ⟨cw, hcw⟩ : ∃ cw : Int, (cnt : Int) = cw := ⟨_, rfl⟩
          have Hcw := Lib.hid hcw
          rw [hcw] at HCn
          clear hM5 hask hA hB hV hpa hbk hE ht2 hd2 hcn hcw HB3 HE3 HB6 Hp Hp0 Hps Hold hEw3 HAo HAs HA0 hbs
          go_wp2_with fail
          refine HCn.out.mono ?_
          rintro e y5 ⟨rfl, hE5⟩
          have hM5' := HM5.out.more hE5
          have HPr := Lib.hid (rxPut_any hM5'.ri (HRl.out.small (by have := Hcn.out; omega)) HRl.out.form p2 (Hpa.out.ext hE5) (fun b hb => (Hbk.out b hb).2) (HRw.out y5 hM5'.ext) (Below.size hM5'.ext))
          rw [HV.out, HA.out] at HPr
          have HB5 := Lib.hid (hE5.keep HBd.out)
          have HM5' := Lib.hid hM5'
          have HE5 := Lib.hid hE5
          clear hM5' hE5 HCn
          go_wp2_with (refine wpList_load_rowW rfl 37 _ rfl g rfl _ _ _ _ HB5.out Tryd.underlying37 rfl (by rw [HAz.out]; kernel_rfl) ?_)
          refine HPr.out.mono ?_
          rintro e y6 ⟨rfl, hsay⟩
          by_cases hv : V = 0
          · subst hv
            obtain ⟨i, s, hi, hw, hM6, hK6⟩ := HM5'.out.rput (Hpa.out.ext HE5.out) (fun b hb => (Hbk.out b hb).1) (hsay.2 rfl)
            have HB6 := Lib.hid (show y6.heap[g]? = some (.cells A 37 (0, 0)) by
              rw [hK6.block g (by have := Hgs.out; have := Below.size HE5.out; omega) (HM1.out.newR (by have := Hg.out; omega))]
              exact HB5.out)
            have hp6 : PcAt y6 p2 := (Hpa.out.ext HE5.out).keep fun b hb hl => hK6.block b hl (Hbk.out b hb).2
            have hF := rxAsk0 HV.out
            have HAs := Lib.hid (ixAsk_any hM6.ix (HRl.out.modest (by have := Hcn.out; omega)) (by have := Hcn.out; omega) p2 hp6 (HRg.out y6 hM6.ext))
            rw [Hask.out, HA.out] at HAs
            have HM6 := Lib.hid hM6
            have Hp6 := Lib.hid hp6
            have HFd := Lib.hid hF
            have Hw := Lib.hid hw
            have Hi := Lib.hid hi
            clear hi hw hM6 hK6 hp6 hF hsay HPr
            go_wp2_with (refine wpList_load_rowW rfl 37 _ rfl g rfl _ _ _ _ HB6.out Tryd.underlying37 rfl (by rw [HAz.out]; kernel_rfl) ?_)
            refine HAs.out.mono ?_
            rintro e y7 ⟨rfl, hE7⟩
            have HC7 := Lib.hid (ixCount_any (HM6.out.more hE7).ix)
            rw [Hcw.out] at HC7
            have HE7 := Lib.hid hE7
            clear hE7 HAs
            go_wp2_with fail
            refine HC7.out.mono ?_
            rintro e y8 ⟨rfl, hE8⟩
            have hE68 := HE7.out.trans hE8
            have hM8 := HM6.out.more hE68
            have HPu := Lib.hid ((ixPut_any hM8.ix (HRl.out.modest (by have := Hcn.out; omega)) (by have := Hcn.out; omega) p2 (Hp6.out.ext hE68) (HRg.out y8 hM8.ext) Hg0.out (Below.size hM8.ext) (fun h0 b off e => IxOwns.far (Hbk.out b (.inl ⟨h0, off, e⟩)).1) (fun h0 b off e => IxOwns.far (Hbk.out b (.inr ⟨h0, off, e⟩)).1)).mono
              (R' := fun e y' => e = .returned (.int .i64 0) ∧ ∃ S2 j ta tc qa qc, PutIn y8 y' w.heap.size gx G S S2 (cnt : Int) p2 j ta tc qa qc) fun e y' ⟨h1, _, h3⟩ => ⟨by rw [h1, Hask.out], (h3 Hask.out).open⟩)
            rw [HA.out] at HPu
            have HB8 := Lib.hid (hE68.keep HB6.out)
            have HM8 := Lib.hid hM8
            clear hE8 hE68 hM8 HC7 HE7
            go_wp2_with (refine wpList_load_rowW rfl 37 _ rfl g rfl _ _ _ _ HB8.out Tryd.underlying37 rfl (by rw [HAz.out]; kernel_rfl) ?_)
            refine HPu.out.mono ?_
            rintro e y9 ⟨rfl, S2, j, ta, tc, qa, qc, hin⟩
            have hji : j = i := by
              have h1 := hin.wr
              have h2 := Hw.out
              omega
            subst hji
            have hM9 := HM8.out.xput hin
            have hR9 := HRl.out.put hin HFd.out (by have := Ht2.out; omega) (by have := Hd2.out; omega) (rxAsk0g HV.out hin.wr)
            obtain ⟨cv, hcv⟩ : ∃ cv : Int, ((cnt + 1 : Nat) : Int) = cv := ⟨_, rfl⟩
            have HC9 := Lib.hid (ixCount_any hM9.ix)
            rw [hcv] at HC9
            have HM9 := Lib.hid hM9
            have HR9 := Lib.hid hR9
            have Hcv := Lib.hid hcv
            clear hin hM9 hR9 hcv HPu
            go_wp2_with fail
            refine HC9.out.mono ?_
            rintro e y10 ⟨rfl, hE10⟩
            have hM10 := HM9.out.more hE10
            have HC10 := Lib.hid (rxCount_any hM10.ri (HR9.out.small (by have := Hcn.out; omega)))
            rw [HR9.out.cnt, Hcv.out] at HC10
            have HM10 := Lib.hid hM10
            clear hE10 hM10 HC9 HM9
            go_wp2_with fail
            refine HC10.out.mono ?_
            rintro e y11 ⟨rfl, hE11⟩
            have HM11 := Lib.hid (HM10.out.more hE11)
            clear hE11 HC10
            go_wp2
            go_roundw
            case rel => exact ⟨k + 1, S2, _, _, cnt + 1, by have := Hk.out; omega, by go_num, HM11.out, HR9.out, by have := Hc.out; omega⟩
            case measure => have := Hk.out; simp [intOf]; omega
          · have hE6 := hsay.1 hv
            have hM6 := HM5'.out.more hE6
            have hE56 := HE5.out.trans hE6
            have HAs := Lib.hid (ixAsk_any hM6.ix (HRl.out.modest (by have := Hcn.out; omega)) (by have := Hcn.out; omega) p2 (Hpa.out.ext hE56) (HRg.out y6 hM6.ext))
            rw [Hask.out, HA.out] at HAs
            have HB6 := Lib.hid (hE6.keep HB5.out)
            have HM6 := Lib.hid hM6
            have HE56 := Lib.hid hE56
            have Hv := Lib.hid hv
            have y1 : (V == 0) = false := by simpa using hv
            clear hsay hE6 hM6 hE56 HPr hv
            go_wp2_with (refine wpList_load_rowW rfl 37 _ rfl g rfl _ _ _ _ HB6.out Tryd.underlying37 rfl (by rw [HAz.out]; kernel_rfl) ?_)
            refine HAs.out.mono ?_
            rintro e y7 ⟨rfl, hE7⟩
            have HC7 := Lib.hid (ixCount_any (HM6.out.more hE7).ix)
            rw [Hcw.out] at HC7
            have HE7 := Lib.hid hE7
            clear hE7 HAs
            go_wp2_with fail
            refine HC7.out.mono ?_
            rintro e y8 ⟨rfl, hE8⟩
            have hE68 := HE7.out.trans hE8
            have hM8 := HM6.out.more hE68
            have HPu := Lib.hid ((ixPut_any hM8.ix (HRl.out.modest (by have := Hcn.out; omega)) (by have := Hcn.out; omega) p2 (Hpa.out.ext (HE56.out.trans hE68)) (HRg.out y8 hM8.ext) Hg0.out (Below.size hM8.ext) (fun h0 b off e => IxOwns.far (Hbk.out b (.inl ⟨h0, off, e⟩)).1) (fun h0 b off e => IxOwns.far (Hbk.out b (.inr ⟨h0, off, e⟩)).1)).mono
              (R' := fun e y' => e = .returned (.int .i64 V) ∧ Ext y8 y') fun e y' ⟨h1, h2, _⟩ => ⟨by rw [h1, Hask.out], h2 (by rw [Hask.out]; exact Hv.out)⟩)
            rw [HA.out] at HPu
            have HB8 := Lib.hid (hE68.keep HB6.out)
            have HM8 := Lib.hid hM8
            clear hE8 hE68 hM8 HC7 HE7
            go_wp2_with (refine wpList_load_rowW rfl 37 _ rfl g rfl _ _ _ _ HB8.out Tryd.underlying37 rfl (by rw [HAz.out]; kernel_rfl) ?_)
            refine HPu.out.mono ?_
            rintro e y9 ⟨rfl, hE9⟩
            have hM9 := HM8.out.more hE9
            have HC9 := Lib.hid (ixCount_any hM9.ix)
            rw [Hcw.out] at HC9
            have HM9 := Lib.hid hM9
            clear hE9 hM9 HPu
            go_wp2_with fail
            refine HC9.out.mono ?_
            rintro e y10 ⟨rfl, hE10⟩
            have hM10 := HM9.out.more hE10
            have HC10 := Lib.hid (rxCount_any hM10.ri (HRl.out.small (by have := Hcn.out; omega)))
            rw [HRl.out.cnt, Hcw.out] at HC10
            have HM10 := Lib.hid hM10
            clear hE10 hM10 HC9 HM9
            go_wp2_with fail
            refine HC10.out.mono ?_
            rintro e y11 ⟨rfl, hE11⟩
            have hM11 := HM10.out.more hE11
            have HC11 := Lib.hid (ixCount_any hM11.ix)
            rw [Hcw.out] at HC11
            have HM11 := Lib.hid hM11
            clear hE11 hM11 HC10
            go_wp2_with fail
            refine HC11.out.mono ?_
            rintro e y12 ⟨rfl, hE12⟩
            have HM12 := Lib.hid (HM11.out.more hE12)
            clear hE12 HC11
            go_wp2
            go_roundw
            case rel => exact ⟨k + 1, S, R, L, cnt, by have := Hk.out; omega, by go_num, HM12.out, HRl.out, by have := Hc.out; omega⟩
            case measure => have := Hk.out; simp [intOf]; omega
    · obtain rfl : k = n := by omega
      have x1 : ¬ (k : Int) < (k : Int) := by omega
      go_wp2
      refine bodyPost_ret (results_tmp3 rfl _ _ _) rfl ?_
      exact ⟨gx, G, S, gr, R, L, cnt, rfl, HM1.out, HRl.out, hc⟩

end Go.Proofs.YtihlpfdhallfpaaDoor
