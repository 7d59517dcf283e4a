/-
  The walk of hash.Expand. Asked: the table of 64 words lies as the text lays it; texts are not longer than 2^36 bytes.
  Steps of the walk: a string's bytes, bytes as a string, bytes as an array of 32. No conditions but lengths.
-/
import Derived.Test.YtdgbcieopkilcaaDoorMac
import Derived.Lib.ConvBytes
import Derived.Laws.IdiomStrings
namespace Go.Proofs.YtdgbcieopkilcaaDoor
open Go.ChangeAt Go.ChangeShapes Go.RowKit Go.WideShapes

/-- HKDF's blocks. -/
def hkT (key info : List Int) : Nat → List Int
  | 0 => []
  | i + 1 => macL key (hkT key info i ++ (info ++ [((i : Int) + 1) % 256]))
/-- HKDF's blocks, one behind the other. -/
def hkO (key info : List Int) : Nat → List Int
  | 0 => []
  | i + 1 => hkO key info i ++ hkT key info (i + 1)
def expandL (key info : List Int) (n : Nat) : List Int := (hkO key info ((n + 31) / 32)).take n

theorem hkT_length (key info : List Int) (i : Nat) : (hkT key info (i + 1)).length = 32 := macL_length _ _
theorem hkT_le (key info : List Int) : ∀ i, (hkT key info i).length ≤ 32
  | 0 => by simp [hkT]
  | i + 1 => by rw [hkT_length]; omega
theorem hkO_length (key info : List Int) : ∀ i, (hkO key info i).length = 32 * i
  | 0 => rfl
  | i + 1 => by rw [hkO, List.length_append, hkO_length key info i, hkT_length]; omega
theorem hkT_byte (key info : List Int) : ∀ i, ∀ x ∈ hkT key info i, 0 ≤ x ∧ x < 256
  | 0 => by simp [hkT]
  | i + 1 => macL_byte _ _
theorem hkO_byte (key info : List Int) : ∀ i, ∀ x ∈ hkO key info i, 0 ≤ x ∧ x < 256
  | 0 => by simp [hkO]
  | i + 1 => fun x hx => by
    rw [hkO] at hx
    rcases List.mem_append.1 hx with h | h
    · exact hkO_byte key info i x h
    · exact hkT_byte key info (i + 1) x h
theorem hkO_pre (key info : List Int) (i : Nat) : ∀ j, (hkO key info (i + j)).take (32 * i) = hkO key info i
  | 0 => by rw [Nat.add_zero]; exact List.take_of_length_le (by rw [hkO_length]; omega)
  | j + 1 => by
    rw [← Nat.add_assoc, hkO, List.take_append_of_le_length (by rw [hkO_length]; omega), hkO_pre key info i j]
theorem expandL_length (key info : List Int) (n : Nat) : (expandL key info n).length = n := by
  unfold expandL
  rw [List.length_take, hkO_length]
  omega
theorem expandL_byte (key info : List Int) (n : Nat) : ∀ x ∈ expandL key info n, 0 ≤ x ∧ x < 256 := fun x hx => hkO_byte _ _ _ x (List.mem_of_mem_take hx)
theorem expandL_pre (key info : List Int) (n m : Nat) (h : n ≤ m) : (expandL key info m).take n = expandL key info n := by
  unfold expandL
  rw [List.take_take, Nat.min_eq_left h]
  obtain ⟨d, hd⟩ : ∃ d, (m + 31) / 32 = (n + 31) / 32 + d := ⟨(m + 31) / 32 - (n + 31) / 32, by omega⟩
  rw [hd]
  have h1 := hkO_pre key info ((n + 31) / 32) d
  rw [← h1, List.take_take, Nat.min_eq_left (by omega)]

/-- What hash.Expand hands back. -/
def ExpSays (B : Nat) (key info : List Int) (n : Nat) (v : Value) (w : World) : Prop :=
  ∃ a, v = .tuple #[.slice a n n, .int .i64 0] ∧ BsAt w a n n (expandL key info n) ∧ NewB B w a n

set_option maxHeartbeats 1000000 in
set_option maxRecDepth 100000 in
theorem expand_any (f : Nat → Int) (hf : ∀ j, j < 32 → 0 ≤ f j ∧ f j < 256) (b : Option Addr) (m d : Nat) (info : List Int) (n : Nat) (w : World) (h : BsAt w b m d info)
    (hn : n ≤ 8160) (hm : m ≤ 68719476736) (hk : KsAt 2 w) :
    Calls Tryd.prog 35 #[.agg (rowArr 32 fun j => .int .u8 (f j)), .slice b m d, .int .i64 (n : Int)] w fun e w' => ∃ v, e = .returned v ∧ ExpSays w.heap.size (l32 f) info n v w' ∧ Ext w w' := by
  have hmc := h.cap
  have hml := h.lim
  have H := Lib.hid h
  have HK := Lib.hid hk
  have Hf := Lib.hid hf
  clear h hk hf
  have y1 : (0 : Int) ≤ (n : Int) := by omega
  have y2 : (n : Int) ≤ 8160 := by omega
  go_enter Tryd.func35, Tryd.ntmps35
  go_upto_region 4 with (fail)
  obtain ⟨wA, hwA⟩ : ∃ wA, w.alloc (.cells (rowArr 32 fun j => .int .u8 (f j)) 23) = wA := ⟨_, rfl⟩
  have hEA : Ext w wA := by rw [← hwA]; exact (Ext.refl w).alloc _
  have hRA : wA.rowIs w.heap.size 23 32 (fun j => .int .u8 (f j)) := by rw [← hwA]; exact rowIs_of (heap_new w _ _ rfl)
  have hsA : w.heap.size < wA.heap.size := by rw [← hwA]; simp
  refine wp_world (w' := wA) hwA ?_
  obtain ⟨key, hkey⟩ : ∃ key, l32 f = key := ⟨_, rfl⟩
  have hKey : BsAt wA (some ⟨w.heap.size, 0, none⟩) 32 32 key := by rw [← hkey]; exact bs_row hRA Hf.out (by omega)
  have HKey := Lib.hid hKey
  have Hkey := Lib.hid hkey
  have HI := Lib.hid (H.out.ext hEA)
  have HKA := Lib.hid (HK.out.ext' hEA)
  have HEA := Lib.hid hEA
  have Hil := Lib.hid H.out.len
  clear hwA hEA hRA hKey hkey
  obtain ⟨T, hT⟩ : ∃ T, hkT key info = T := ⟨_, rfl⟩
  obtain ⟨O, hO⟩ : ∃ O, hkO key info = O := ⟨_, rfl⟩
  have HT0 := Lib.hid (show T 0 = [] by rw [← hT]; rfl)
  have HO0 := Lib.hid (show O 0 = [] by rw [← hO]; rfl)
  have HTs := Lib.hid (show ∀ i : Nat, T (i + 1) = macL key (T i ++ (info ++ [((i : Int) + 1) % 256])) by intro i; rw [← hT]; rfl)
  have HOs := Lib.hid (show ∀ i : Nat, O (i + 1) = O i ++ T (i + 1) by intro i; rw [← hT, ← hO]; rfl)
  have HTl := Lib.hid (show ∀ i : Nat, (T i).length ≤ 32 by intro i; rw [← hT]; exact hkT_le key info i)
  have HOl := Lib.hid (show ∀ i : Nat, (O i).length = 32 * i by intro i; rw [← hO]; exact hkO_length key info i)
  have HOb := Lib.hid (show ∀ i : Nat, ∀ x ∈ O i, 0 ≤ x ∧ x < 256 by intro i; rw [← hO]; exact hkO_byte key info i)
  have HOe := Lib.hid (show (O ((n + 31) / 32)).take n = expandL key info n by rw [← hO]; rfl)
  clear hT hO
  go_wp2
  go_loopw [8, 9, 10] (fun o l i wr => ∃ (k : Nat) (ao : Option Addr) (co : Nat) (al : Option Addr) (cl : Nat), k ≤ (n + 31) / 32 ∧ i = .int .u8 (((k : Int) + 1) % 256) ∧ o = .slice ao (32 * k) co ∧ wr.ownsRow wA.heap.size 5 1 o (32 * k) (bv (O k)) ∧ l = .slice al (T k).length cl ∧ BsAt wr al (T k).length cl (T k) ∧ Ext wA wr) (fun o _ _ _ => match o with | .slice _ m _ => 8192 - m | _ => 0)
  case atStart => exact ⟨0, none, 0, none, 0, Nat.zero_le _, rfl, rfl, by rw [HO0.out]; exact World.ownsRow_nil _ _ _ _, by rw [HT0.out]; rfl, by rw [HT0.out]; exact ⟨rfl, Nat.le_refl _, by omega, by simp, by simp, fun h => by simp at h, fun _ => rfl⟩, Ext.refl _⟩
  case round =>
    obtain ⟨k, ao, co, al, cl, hk, rfl, rfl, hown, rfl, hB, hE⟩ := hrel
    by_cases hlt : 32 * k < n
    · obtain ⟨v, hv⟩ : ∃ v : Int, ((k : Int) + 1) % 256 = v := ⟨_, rfl⟩
      have hTk := HTs.out k
      rw [hv] at hTk ⊢
      obtain ⟨tk, htk⟩ : ∃ tk, T k = tk := ⟨_, rfl⟩
      have htl := HTl.out k
      rw [htk] at hB htl hTk ⊢
      have hv0 : 0 ≤ v := by omega
      have hv1 : v < 256 := by omega
      have x1 : 32 * (k : Int) < (n : Int) := by omega
      have h1 := bs_new wr [v] #[.int .u8 v] 5 (0, 0) rfl (by simp; omega) (by simp)
      have hE1 : Ext wr (wr.alloc (.cells #[.int .u8 v] 5)) := (Ext.refl wr).alloc _
      have hV := ((PsV.one (hB.ext hE1)).append (PsV.one (HI.out.ext (hE.trans hE1)))).append (PsV.one h1)
      have hP := ps_new hV 40 (by omega)
      have hsz : (wr.alloc (.cells #[.int .u8 v] 5)).heap.size = wr.heap.size + 1 := by simp
      rw [hsz] at hP
      have hE2 : Ext wr ((wr.alloc (.cells #[.int .u8 v] 5)).alloc (.cells #[.slice al tk.length cl, .slice b m d, .slice (some ⟨wr.heap.size, 0, none⟩) 1 1] 40)) := hE1.alloc _
      have hmac := mac_any _ _ _ key _ _ _ _ _ (HKey.out.ext (hE.trans hE2)) hP (by simp only [List.flatten_append, List.length_append, List.flatten_cons, List.flatten_nil, List.append_nil, Hil.out, List.length_singleton]; omega) (by omega) (by omega) (HKA.out.ext' (hE.trans hE2))
      rw [show (([tk] ++ [info]) ++ [[v]]).flatten = tk ++ (info ++ [v]) by simp] at hmac
      have HM := Lib.hid hmac
      have HE2 := Lib.hid hE2
      have HE := Lib.hid hE
      have Hown := Lib.hid hown
      have HTk := Lib.hid hTk
      have Hv := Lib.hid hv
      have hsA2 := Below.size hE
      clear h1 hE1 hV hP hsz hE2 hmac hE hown hTk hv hB htk
      go_wp2_with fail
      refine HM.out.mono ?_
      rintro e w5 ⟨rfl, hE5⟩
      obtain ⟨F, hF⟩ : ∃ F : Nat → Int, macF key (tk ++ (info ++ [v])) = F := ⟨_, rfl⟩
      have hTn : T (k + 1) = l32 F := by rw [HTk.out, ← hF]; rfl
      have hFb : ∀ j, j < 32 → 0 ≤ F j ∧ F j < 256 := fun j _ => by rw [← hF]; exact macF_byte _ _ j
      rw [hF]
      have HTn := Lib.hid hTn
      have HFb := Lib.hid hFb
      have HE5 := Lib.hid (HE2.out.trans hE5)
      clear hF hTn hFb hE5 HM HE2 HTk
      go_upto_region 9 with (refine wpList_store_row rfl 23 _ _ rfl w5.heap.size _ rfl rfl _ _ (heap_new w5 _ _ rfl) (by kernel_rfl) (by rw [rowArr_size]; rfl) (rowArr_one fun _ _ => rfl) ?_; rw [setRow_new w5 _ _ _ _ rfl])
      obtain ⟨w6, hw6⟩ : ∃ w6, w5.alloc (.cells (rowArr 32 fun j => .int .u8 (F j)) 23) = w6 := ⟨_, rfl⟩
      have hE6 : Ext wr w6 := by rw [← hw6]; exact HE5.out.alloc _
      have hR6 : w6.rowIs w5.heap.size 23 32 (fun j => .int .u8 (F j)) := by rw [← hw6]; exact rowIs_of (heap_new w5 _ _ rfl)
      have hB6 : BsAt w6 (some ⟨w5.heap.size, 0, none⟩) 32 32 (l32 F) := bs_row hR6 HFb.out (by omega)
      refine wp_world (w' := w6) hw6 ?_
      have hown6 : w6.ownsRow wA.heap.size 5 1 (.slice ao (32 * k) co) (32 * k) (bv (O k)) := Hown.out.kept (row := none) (grown_ext hE6 none) (by
        cases ao with
        | none => exact Or.inl rfl
        | some ad => right; simp [Value.ownBlock])
      have hne := own_row_ne hown6 hR6 (by decide)
      have Hown6 := Lib.hid hown6
      have HB6 := Lib.hid hB6
      have Hne := Lib.hid hne
      have HE6 := Lib.hid (HE.out.trans hE6)
      have hs6 := Below.size (HE.out.trans hE6)
      clear hw6 hE6 hR6 hB6 hown6 hne Hown HE HE5
      go_wp2_with (at_builtin; refine append_bsG rfl (.tmp 32) (.tmp 33) rfl wA.heap.size _ (32 * k) (O k) rfl Hown6.out _ 32 32 (l32 F) rfl HB6.out (by omega) (by omega) ?_)
      intro v7 w7 hown7 hB7 hG7
      obtain ⟨a7, c7, rfl, hc7a, hc7b⟩ := owns_slice hown7
      have hB7' : BsAt w7 (some ⟨w5.heap.size, 0, none⟩) 32 32 (l32 F) := HB6.out.grownO hG7 (fun _ b off e => by
        simp only [Option.some.injEq, Addr.mk.injEq, and_true] at e
        obtain ⟨rfl, rfl⟩ := e
        exact Hne.out)
      have hOk : bv (O k ++ l32 F) = bv (O (k + 1)) := by rw [HOs.out, HTn.out]
      rw [hOk] at hown7
      have Hown7 := Lib.hid hown7
      have HB7 := Lib.hid hB7'
      have HE7 := Lib.hid (HE6.out.trans' hB7)
      clear hown7 hB7 hG7 hB7' hOk Hown6 HB6 Hne HE6
      go_wp2
      go_roundw
      case rel =>
        have hl : (T (k + 1)).length = 32 := by rw [HTn.out, l32_length]
        refine ⟨k + 1, a7, c7, some ⟨w5.heap.size, 0, none⟩, 32, by omega, ?_, by rw [show 32 * (k + 1) = 32 * k + 32 by omega], ?_, by rw [hl], ?_, HE7.out⟩
        · have := Hv.out
          exact val_int (by omega)
        · exact Hown7.out
        · rw [hl, HTn.out]
          exact HB7.out
      case measure => simp; omega
    · obtain rfl : k = (n + 31) / 32 := by omega
      obtain ⟨_, _, he, hc1, hc2⟩ := owns_slice hown
      injection he with he1 he2 he3
      subst he1
      subst he3
      unfold maxLen at hc2
      have x1 : ¬ 32 * (((n + 31) / 32 : Nat) : Int) < (n : Int) := by omega
      have x2 : (n : Int) ≤ (co : Int) := by omega
      have x3 : (n : Int) ≤ 32 * (((n + 31) / 32 : Nat) : Int) := by omega
      obtain ⟨q, hq⟩ : ∃ q, (n + 31) / 32 = q := ⟨_, rfl⟩
      rw [hq] at hown HOe x1 x3 hc1 ⊢
      have Hq := Lib.hid hq
      have Hown := Lib.hid hown
      have HE := Lib.hid hE
      clear hown hE hB hq he2 hk hlt
      go_wp2
      go_ret2
      have hbs := owns_bs Hown.out (HOb.out q) (by omega) (by have := Hq.out; omega)
      have hcut := hbs.cut (m := n) (c' := n) (by omega) (Nat.le_refl _) (by omega)
      rw [HOe.out] at hcut
      rw [Hkey.out]
      exact ⟨_, rfl, ⟨ao, rfl, hcut, owns_new Hown.out (by omega) (by omega)⟩, HEA.out.trans HE.out⟩

set_option maxRecDepth 100000 in
theorem expand_bad (f : Nat → Int) (b : Option Addr) (m d : Nat) (n : Int) (w : World) (hn : n < 0 ∨ 8160 < n) :
    Calls Tryd.prog 35 #[.agg (rowArr 32 fun j => .int .u8 (f j)), .slice b m d, .int .i64 n] w fun e w' => e = .returned (.tuple #[.slice none 0 0, .int .i64 1]) ∧ Ext w w' := by
  by_cases h0 : n < 0
  · have hE : Ext w (w.alloc (.cells (rowArr 32 fun j => .int .u8 (f j)) 23)) := (Ext.refl w).alloc _
    have HE := Lib.hid hE
    clear hE hn
    go_enter Tryd.func35, Tryd.ntmps35
    go_wp2
    go_ret2
    exact ⟨rfl, HE.out⟩
  · have h1 : 8160 < n := by omega
    have h2 : 0 ≤ n := by omega
    have hE : Ext w (w.alloc (.cells (rowArr 32 fun j => .int .u8 (f j)) 23)) := (Ext.refl w).alloc _
    have HE := Lib.hid hE
    clear hE hn
    go_enter Tryd.func35, Tryd.ntmps35
    go_wp2
    go_ret2
    exact ⟨rfl, HE.out⟩

theorem run_arrayAt_hash (w : World) (a : Option Addr) (n c : Nat) (h : 32 ≤ n) : (Instr.arrayAt 23 (.slice a n c)).run Tryd.prog w = .ok (.pointer a) w := by
  have h' : ¬ n < 32 := by omega
  simp [Instr.arrayAt, run_underlying Tryd.underlying23, h']

set_option maxRecDepth 100000 in
theorem derive_any (f : Nat → Int) (hf : ∀ j, j < 32 → 0 ≤ f j ∧ f j < 256) (s : ByteArray) (w : World) (hs : s.size ≤ 17179869184) (hk : KsAt 2 w) :
    Calls Tryd.prog 24 #[.agg (rowArr 32 fun j => .int .u8 (f j)), .string s] w fun e w' => e = .returned (.agg (rowArr 32 fun j => .int .u8 ((expandL (l32 f) (strB s) 32).getD j 0))) ∧ Ext w w' := by
  have HK := Lib.hid hk
  have Hf := Lib.hid hf
  clear hk hf
  have karr := fun (w : World) (a : Option Addr) (c : Nat) => run_arrayAt_hash w a 32 c (Nat.le_refl _)
  go_enter Tryd.func24, Tryd.ntmps24
  go_upto_region 1 with (fail)
  obtain ⟨w1, hw1⟩ : ∃ w1, w.alloc (.cells (rowArr 32 fun j => .int .u8 (f j)) 23) = w1 := ⟨_, rfl⟩
  have hE1 : Ext w w1 := by rw [← hw1]; exact (Ext.refl w).alloc _
  have hR1 : w1.rowIs w.heap.size 23 32 (fun j => .int .u8 (f j)) := by rw [← hw1]; exact rowIs_of (heap_new w _ _ rfl)
  have hs1 : w1.heap.size = w.heap.size + 1 := by rw [← hw1]; simp
  obtain ⟨w2, hw2⟩ : ∃ w2, w1.alloc (.cells (Array.replicate 32 (.int .u8 0)) 23) = w2 := ⟨_, rfl⟩
  have hE2 : Ext w w2 := by rw [← hw2]; exact hE1.alloc _
  have hR2 : w2.rowIs w.heap.size 23 32 (fun j => .int .u8 (f j)) := by rw [← hw2]; exact hR1.alloc _
  have hZ2 : w2.rowIs (w.heap.size + 1) 23 32 (fun _ => .int .u8 0) := by
    have := start_zero32 23 w1
    rwa [hs1, hw2] at this
  have hs2 : w.heap.size + 1 < w2.heap.size := hZ2.lt
  refine wp_world (w' := w2) (by rw [← hw2, ← hw1]; rfl) ?_
  have HK2 := Lib.hid (HK.out.ext' hE2)
  have HE2 := Lib.hid hE2
  have HR2 := Lib.hid (rowIs_cells hR2)
  have HZ2 := Lib.hid hZ2
  clear hw1 hE1 hR1 hs1 hw2 hE2 hR2 hZ2
  go_wp2_with (first | (refine wpList_load_row rfl 23 _ rfl w.heap.size rfl _ _ _ _ HR2.out Tryd.underlying23 rfl (by kernel_rfl) ?_) | (refine conv_bs rfl (.tmp 9) rfl s rfl (by omega) ?_))
  intro c w3 hB3 hE3
  have hex := expand_any f Hf.out _ _ _ (strB s) 32 w3 hB3 (by omega) (by omega) (HK2.out.ext' hE3)
  rw [show ((32 : Nat) : Int) = 32 from rfl] at hex
  have HX := Lib.hid hex
  have HE3 := Lib.hid (HE2.out.trans hE3)
  have HZ3 := Lib.hid (HZ2.out.of_block (hE3.block hs2))
  have hs3 : w.heap.size + 1 < w3.heap.size := HZ3.out.lt
  clear hB3 hE3 hex HR2 HZ2 HE2 HK2
  go_wp2_with fail
  refine HX.out.mono ?_
  rintro e w4 ⟨v, rfl, hv, hE4⟩
  obtain ⟨a4, rfl, hB4, -⟩ := hv
  obtain ⟨g, off, rfl, -⟩ := hB4.at_ (by omega)
  obtain ⟨xs, hxs⟩ : ∃ xs, expandL (l32 f) (strB s) 32 = xs := ⟨_, rfl⟩
  rw [hxs] at hB4
  have Hxs := Lib.hid hxs
  have HB4 := Lib.hid hB4
  have HE4 := Lib.hid (HE3.out.trans hE4)
  have Hz := Lib.hid (rowIs_cells (HZ3.out.of_block (hE4.block hs3)))
  clear hB4 hE4 hxs HX HE3 HZ3
  go_wp2_with (first | (refine load_bs rfl 23 32 _ rfl Tryd.underlying23 (by kernel_rfl) ⟨g, off, none⟩ 32 32 xs rfl HB4.out (Nat.le_refl _) ?_) | (refine wpList_store_row rfl 23 _ _ rfl _ _ rfl rfl _ _ Hz.out (by kernel_rfl) (by rw [rowArr_size, rowArr_size]) (rowArr_one fun _ _ => rfl) ?_))
  refine bodyPost_ret (results_cell_row rfl _ _ (w.heap.size + 1) _ _ _ _ rfl (setRow_heap w4 (w.heap.size + 1) _ _ _ _ Hz.out) Tryd.underlying23 rfl (by kernel_rfl)) rfl ⟨by rw [Hxs.out], ?_⟩
  exact below_setRow HE4.out (by omega) _

end Go.Proofs.YtdgbcieopkilcaaDoor
