/-
  Tokens sorted: slices.SortFunc by keys.compare, at rows of tokens of a call's own. No conditions.
-/
import Derived.Test.YtdgbcieopkilcaaDoorSort
import Derived.Test.YtdgbcieopkilcaaDoorTkO
import Derived.Sort.OwnSortedInts
import Derived.Deep.QuietTactic
import Derived.WalkKit
import Derived.ProofKit
import Derived.BigQuiet
namespace Go.Proofs.YtdgbcieopkilcaaDoor
open Go.ChangeShapes Go.WideShapes Go.ChangeAt Go.RowKit Go.Sort

theorem cmpI_self : ∀ a : List Int, cmpI a a = 0
  | [] => rfl
  | x :: a => by
    unfold cmpI
    rw [if_neg (by omega), if_neg (by omega)]
    exact cmpI_self a
theorem cmpI_lt : ∀ (a b c : List Int), a.length = b.length → b.length = c.length → cmpI a b < 0 → cmpI b c < 0 → cmpI a c < 0
  | [], [], [], _, _, h, _ => h
  | [], [], _ :: _, _, h, _, _ => by cases h
  | [], _ :: _, _, h, _, _, _ => by cases h
  | _ :: _, [], _, h, _, _, _ => by cases h
  | _ :: _, _ :: _, [], _, h, _, _ => by cases h
  | x :: a, y :: b, z :: c, h1, h2, h3, h4 => by
    unfold cmpI at h3 h4 ⊢
    have ih := cmpI_lt a b c (by simpa using h1) (by simpa using h2)
    by_cases e1 : x < y
    · by_cases e2 : y < z
      · rw [if_pos (by omega)]; omega
      · rw [if_neg e2] at h4
        by_cases e3 : z < y
        · rw [if_pos e3] at h4; omega
        · rw [if_pos (by omega)]; omega
    · rw [if_neg e1] at h3
      by_cases e2 : y < x
      · rw [if_pos e2] at h3; omega
      · rw [if_neg e2] at h3
        by_cases e3 : y < z
        · rw [if_pos (by omega)]; omega
        · rw [if_neg e3] at h4
          by_cases e4 : z < y
          · rw [if_pos e4] at h4; omega
          · rw [if_neg e4] at h4
            rw [if_neg (by omega), if_neg (by omega)]
            exact ih h3 h4
theorem cmpI_ge : ∀ (a b c : List Int), a.length = b.length → b.length = c.length → ¬ cmpI a b < 0 → ¬ cmpI b c < 0 → ¬ cmpI a c < 0
  | [], [], [], _, _, h, _ => h
  | [], [], _ :: _, _, h, _, _ => by cases h
  | [], _ :: _, _, h, _, _, _ => by cases h
  | _ :: _, [], _, h, _, _, _ => by cases h
  | _ :: _, _ :: _, [], _, h, _, _ => by cases h
  | x :: a, y :: b, z :: c, h1, h2, h3, h4 => by
    unfold cmpI at h3 h4 ⊢
    have ih := cmpI_ge a b c (by simpa using h1) (by simpa using h2)
    by_cases e1 : x < y
    · rw [if_pos e1] at h3; omega
    · rw [if_neg e1] at h3
      by_cases e3 : y < z
      · rw [if_pos e3] at h4; omega
      · rw [if_neg e3] at h4
        by_cases e2 : y < x
        · rw [if_neg (by omega), if_pos (by omega)]; omega
        · by_cases e4 : z < y
          · rw [if_neg (by omega), if_pos (by omega)]; omega
          · rw [if_neg e2] at h3
            rw [if_neg e4] at h4
            rw [if_neg (by omega), if_neg (by omega)]
            exact ih h3 h4

/-- A token of bytes. -/
abbrev Tk := { t : Nat → Int // ∀ j, j < 16 → 0 ≤ t j ∧ t j < 256 }
instance : Inhabited Tk := ⟨⟨fun _ => 0, fun _ _ => ⟨Int.le_refl 0, by show (0 : Int) < 256; omega⟩⟩⟩
def encT (t : Tk) : List Value := tk1 t.1
def cfT (a b : Tk) : Int := cmpTok a.1 b.1
theorem encT_length (t : Tk) : (encT t).length = 16 := tk1_length _
theorem encT_one (t : Tk) : ∀ v ∈ encT t, v.oneCell' = true := fun v hv => by
  obtain ⟨j, _, rfl⟩ := List.mem_map.1 hv
  rfl
theorem swoT : SWO (Go.Proofs.ltOf cfT) where
  irrefl x := by
    unfold Go.Proofs.ltOf cfT cmpTok
    rw [cmpI_self]
    rfl
  trans x y z h1 h2 := by
    unfold Go.Proofs.ltOf cfT cmpTok at *
    exact decide_eq_true (cmpI_lt _ _ _ (by simp) (by simp) (of_decide_eq_true h1) (of_decide_eq_true h2))
  ntrans x y z h1 h2 := by
    unfold Go.Proofs.ltOf cfT cmpTok at *
    exact decide_eq_false (cmpI_ge _ _ _ (by simp) (by simp) (of_decide_eq_false h1) (of_decide_eq_false h2))

theorem encT_arr (t : Tk) : (encT t).toArray = rowArr 16 fun j => .int .u8 (t.1 j) := rfl
set_option maxHeartbeats 1000000 in
set_option maxRecDepth 100000 in
theorem compareQ_any (f g : Tk) (w : World) :
    Calls Tryd.prog 26 #[.agg (encT f).toArray, .agg (encT g).toArray] w fun e w' => e = .returned (.int .i64 (cfT f g)) ∧ ∃ q os', w' = grow (w.drewN q) os' := by
  obtain ⟨w2, hw2⟩ : ∃ x, (w.alloc (.cells (encT f).toArray 35)).alloc (.cells (encT g).toArray 35) = x := ⟨_, rfl⟩
  have h1 : w2.heap[w.heap.size]? = some (.cells (rowArr 16 fun j => .int .u8 (f.1 j)) 35 (0, 0)) := by
    rw [← hw2, Below.heap_alloc _ _ _ (by simp)]
    exact heap_new w _ _ rfl
  have h2 : w2.heap[w.heap.size + 1]? = some (.cells (rowArr 16 fun j => .int .u8 (g.1 j)) 35 (0, 0)) := by
    rw [← hw2]
    exact heap_new _ _ _ (by simp)
  have HA := Lib.hid (bs_row (rowIs_of h1) f.2 (by omega))
  have HB := Lib.hid (bs_row (rowIs_of h2) g.2 (by omega))
  have hG : w2 = grow w #[.cells (encT f).toArray 35, .cells (encT g).toArray 35] := by
    rw [← hw2, alloc_eq_grow, alloc_eq_grow, grow_grow]
    rfl
  have HG := Lib.hid hG
  have Hw2 := Lib.hid hw2
  have hcf : cfT f g = cmpTok f.1 g.1 := rfl
  have HBC := Lib.hid (show ∀ n, Calls Tryd.prog 38 #[.slice (some ⟨w.heap.size, 0, none⟩) 16 16, .slice (some ⟨w.heap.size + 1, 0, none⟩) 16 16] (w2.drewN n) fun e w' => e = .returned (.int .i64 (cfT f g)) ∧ w' = w2.drewN n from fun n => by
    have e : Ext w2 (w2.drewN n) := (Ext.refl w2).drewN' n
    exact bytesCompare_any (HA.out.ext e) (HB.out.ext e))
  obtain ⟨V, hV⟩ : ∃ V, cfT f g = V := ⟨_, rfl⟩
  rw [hV] at HBC ⊢
  obtain ⟨FA, hFA⟩ : ∃ A, (encT f).toArray = A := ⟨_, rfl⟩
  obtain ⟨GA, hGA⟩ : ∃ A, (encT g).toArray = A := ⟨_, rfl⟩
  rw [hFA, hGA] at Hw2 HG ⊢
  clear hw2 h1 h2 HA HB hG hcf hV hFA hGA
  obtain ⟨k, hk⟩ : ∃ k, w.heap.size = k := ⟨_, rfl⟩
  have Hk := Lib.hid hk
  rw [hk] at HBC
  clear hk
  go_enter Tryd.func26, Tryd.ntmps26
  go_upto_region 1 with (fail)
  refine wp_world (w' := w2) Hw2.out ?_
  rw [Hk.out]
  clear Hw2 Hk
  go_quiet (first | (go_at_call 38; exact Calls.quiet_of_same (HBC.out _)))
  go_wp2
  go_ret
  exact ⟨rfl, _, _, by rw [HG.out]; rfl⟩

end Go.Proofs.YtdgbcieopkilcaaDoor
