/-
  The walk of jalousielaw15.few with a ring: what it answers. No conditions.
-/
import Derived.Test.YtpiebfhcfkncoaaDoorCoded
import Derived.Test.YtpiebfhcfkncoaaDoorHdR
import Derived.Test.YtpiebfhcfkncoaaDoorRefHdB
namespace Go.Proofs.YtpiebfhcfkncoaaDoor
open Go.ChangeShapes Go.WideShapes Go.ChangeAt Go.RowKit

/-- Whether a proof and a ring are of a size that is looked at. -/
def few15B (p : Pr) (r : Rg) : Bool := decide (p.a.1.tn ≤ 20) && (decide (p.b.1.tn ≤ 20) && (decide (p.wn ≤ 20) && decide (r.en ≤ 20)))

set_option maxHeartbeats 4000000 in
set_option maxRecDepth 100000 in
theorem few15x_any (p : Pr) (r : Rg) (w : World) (hp : PrAt w p) (hr : RgAt w r) : Calls Tryd.prog 7 #[.agg (prV p), .agg (rgV r)] w fun e w' => e = .returned (.bool (few15B p r)) ∧ Ext w w' := by
  obtain ⟨w2, hw2, hE2, hB2, hR2⟩ := tok_box' w (prV p) (rgV r) 35 26
  obtain ⟨g, hg⟩ : ∃ g, w.heap.size = g := ⟨_, rfl⟩
  rw [hg] at hB2 hR2
  have c54 := pr_atoks hB2
  have c179 := pr_btoks hB2
  have c254 := pr_toks hB2
  have c32 := rg_eps hR2
  have hs1 := hp.a.toks.small
  have hs2 := hp.b.toks.small
  have hs3 := hp.toks.small
  have hs4 := hr.eps.small
  have Hg := Lib.hid hg
  have Hw2 := Lib.hid hw2
  have HE := Lib.hid hE2
  obtain ⟨PV, hPV⟩ : ∃ PV, prV p = PV := ⟨_, rfl⟩
  rw [hPV] at Hw2 ⊢
  obtain ⟨RV, hRV⟩ : ∃ RV, rgV r = RV := ⟨_, rfl⟩
  rw [hRV] at Hw2 ⊢
  obtain ⟨n1, e1⟩ : ∃ n, p.a.1.tn = n := ⟨_, rfl⟩
  obtain ⟨n2, e2⟩ : ∃ n, p.b.1.tn = n := ⟨_, rfl⟩
  obtain ⟨n3, e3⟩ : ∃ n, p.wn = n := ⟨_, rfl⟩
  obtain ⟨n4, e4⟩ : ∃ n, r.en = n := ⟨_, rfl⟩
  unfold few15B
  rw [e1, e2, e3, e4]
  rw [e1] at c54 hs1
  rw [e2] at c179 hs2
  rw [e3] at c254 hs3
  rw [e4] at c32 hs4
  clear hw2 hE2 hB2 hR2 hg hp hPV hRV e1 e2 e3 e4 hr
  by_cases h1 : n1 ≤ 20
  case neg =>
    have x1 : ¬ (n1 : Int) ≤ 20 := by omega
    have y1 : decide (n1 ≤ 20) = false := decide_eq_false h1
    go_enter Tryd.func7, Tryd.ntmps7
    go_upto_region 1 with (fail)
    refine wp_world (w' := w2) Hw2.out ?_
    rw [Hg.out]
    clear Hw2 Hg
    go_wp2
    go_ret
    exact ⟨by first | rfl | (simp; done) | (simp [h1]; done), HE.out⟩
  have x1 : (n1 : Int) ≤ 20 := by omega
  by_cases h2 : n2 ≤ 20
  case neg =>
    have x2 : ¬ (n2 : Int) ≤ 20 := by omega
    have y2 : decide (n2 ≤ 20) = false := decide_eq_false h2
    go_enter Tryd.func7, Tryd.ntmps7
    go_upto_region 1 with (fail)
    refine wp_world (w' := w2) Hw2.out ?_
    rw [Hg.out]
    clear Hw2 Hg
    go_wp2
    go_ret
    exact ⟨by first | rfl | (simp; done) | (simp [h2]; done), HE.out⟩
  have x2 : (n2 : Int) ≤ 20 := by omega
  by_cases h3 : n3 ≤ 20
  case neg =>
    have x3 : ¬ (n3 : Int) ≤ 20 := by omega
    have y3 : decide (n3 ≤ 20) = false := decide_eq_false h3
    go_enter Tryd.func7, Tryd.ntmps7
    go_upto_region 1 with (fail)
    refine wp_world (w' := w2) Hw2.out ?_
    rw [Hg.out]
    clear Hw2 Hg
    go_wp2
    go_ret
    exact ⟨by first | rfl | (simp; done) | (simp [h3]; done), HE.out⟩
  have x3 : (n3 : Int) ≤ 20 := by omega
  by_cases h4 : n4 ≤ 20
  case neg =>
    have x4 : ¬ (n4 : Int) ≤ 20 := by omega
    have y4 : decide (n4 ≤ 20) = false := decide_eq_false h4
    go_enter Tryd.func7, Tryd.ntmps7
    go_upto_region 1 with (fail)
    refine wp_world (w' := w2) Hw2.out ?_
    rw [Hg.out]
    clear Hw2 Hg
    go_wp2
    go_ret
    exact ⟨by first | rfl | (simp; done) | (simp [h4]; done), HE.out⟩
  have x4 : (n4 : Int) ≤ 20 := by omega
  go_enter Tryd.func7, Tryd.ntmps7
  go_upto_region 1 with (fail)
  refine wp_world (w' := w2) Hw2.out ?_
  rw [Hg.out]
  clear Hw2 Hg
  go_wp2
  go_ret
  exact ⟨by first | rfl | (simp; done) | (simp [h1, h2, h3, h4]; done), HE.out⟩


end Go.Proofs.YtpiebfhcfkncoaaDoor
