/-
  The walk of hash.Expand. Asked: the table of 64 words lies as the text lays it; texts are not longer than 2^36 bytes.
-/
import Derived.Test.YtppidlpblkihbaaDoorMac
namespace Go.Proofs.YtppidlpblkihbaaDoor
open Go.ChangeShapes Go.WideShapes Go.ChangeAt Go.RowKit

/-- HKDF's blocks. -/
def hkT (key info : List Int) : Nat → List Int
  | 0 => []
  | i + 1 => macL key (hkT key info i ++ (info ++ [((i : Int) + 1) % 256]))
/-- HKDF's blocks, one behind the other. -/
def hkO (key info : List Int) : Nat → List Int
  | 0 => []
  | i + 1 => hkO key info i ++ hkT key info (i + 1)
def expandL (key info : List Int) (n : Nat) : List Int := (hkO key info ((n + 31) / 32)).take n

theorem hkT_length (key info : List Int) (i : Nat) : (hkT key info (i + 1)).length = 32 := macL_length _ _
theorem hkT_le (key info : List Int) : ∀ i, (hkT key info i).length ≤ 32
  | 0 => by simp [hkT]
  | i + 1 => by rw [hkT_length]; omega
theorem hkO_length (key info : List Int) : ∀ i, (hkO key info i).length = 32 * i
  | 0 => rfl
  | i + 1 => by rw [hkO, List.length_append, hkO_length key info i, hkT_length]; omega
theorem hkT_byte (key info : List Int) : ∀ i, ∀ x ∈ hkT key info i, 0 ≤ x ∧ x < 256
  | 0 => by simp [hkT]
  | i + 1 => macL_byte _ _
theorem hkO_byte (key info : List Int) : ∀ i, ∀ x ∈ hkO key info i, 0 ≤ x ∧ x < 256
  | 0 => by simp [hkO]
  | i + 1 => fun x hx => by
    rw [hkO] at hx
    rcases List.mem_append.1 hx with h | h
    · exact hkO_byte key info i x h
    · exact hkT_byte key info (i + 1) x h
theorem hkO_pre (key info : List Int) (i : Nat) : ∀ j, (hkO key info (i + j)).take (32 * i) = hkO key info i
  | 0 => by rw [Nat.add_zero]; exact List.take_of_length_le (by rw [hkO_length]; omega)
  | j + 1 => by
    rw [← Nat.add_assoc, hkO, List.take_append_of_le_length (by rw [hkO_length]; omega), hkO_pre key info i j]
theorem expandL_length (key info : List Int) (n : Nat) : (expandL key info n).length = n := by
  unfold expandL
  rw [List.length_take, hkO_length]
  omega
theorem expandL_byte (key info : List Int) (n : Nat) : ∀ x ∈ expandL key info n, 0 ≤ x ∧ x < 256 := fun x hx => hkO_byte _ _ _ x (List.mem_of_mem_take hx)
theorem expandL_pre (key info : List Int) (n m : Nat) (h : n ≤ m) : (expandL key info m).take n = expandL key info n := by
  unfold expandL
  rw [List.take_take, Nat.min_eq_left h]
  obtain ⟨d, hd⟩ : ∃ d, (m + 31) / 32 = (n + 31) / 32 + d := ⟨(m + 31) / 32 - (n + 31) / 32, by omega⟩
  rw [hd]
  have h1 := hkO_pre key info ((n + 31) / 32) d
  rw [← h1, List.take_take, Nat.min_eq_left (by omega)]

/-- What hash.Expand hands back. -/
def ExpSays (B : Nat) (key info : List Int) (n : Nat) (v : Value) (w : World) : Prop :=
  ∃ a, v = .tuple #[.slice a n n, .int .i64 0] ∧ BsAt w a n n (expandL key info n) ∧ NewB B w a n

set_option maxHeartbeats 1000000 in
set_option maxRecDepth 100000 in
theorem expand_any (f : Nat → Int) (hf : ∀ j, j < 32 → 0 ≤ f j ∧ f j < 256) (b : Option Addr) (m d : Nat) (info : List Int) (n : Nat) (w : World) (h : BsAt w b m d info)
    (hn : n ≤ 8160) (hm : m ≤ 68719476736) (hk : KsAt 1 w) :
    Calls Tryd.prog 73 #[.agg (rowArr 32 fun j => .int .u8 (f j)), .slice b m d, .int .i64 (n : Int)] w fun e w' => ∃ v, e = .returned v ∧ ExpSays w.heap.size (l32 f) info n v w' ∧ Ext w w' := by
  have hmc := h.cap
  have hml := h.lim
  have H := Lib.hid h
  have HK := Lib.hid hk
  have Hf := Lib.hid hf
  clear h hk hf
  have y1 : (0 : Int) ≤ (n : Int) := by omega
  have y2 : (n : Int) ≤ 8160 := by omega
  go_enter Tryd.func73, Tryd.ntmps73
  go_upto_region 4 with (fail)
  obtain ⟨wA, hwA⟩ : ∃ wA, w.alloc (.cells (rowArr 32 fun j => .int .u8 (f j)) 23) = wA := ⟨_, rfl⟩
  have hEA : Ext w wA := by rw [← hwA]; exact (Ext.refl w).alloc _
  have hRA : wA.rowIs w.heap.size 23 32 (fun j => .int .u8 (f j)) := by rw [← hwA]; exact rowIs_of (heap_new w _ _ rfl)
  have hsA : w.heap.size < wA.heap.size := by rw [← hwA]; simp
  refine wp_world (w' := wA) hwA ?_
  obtain ⟨key, hkey⟩ : ∃ key, l32 f = key := ⟨_, rfl⟩
  have hKey : BsAt wA (some ⟨w.heap.size, 0, none⟩) 32 32 key := by rw [← hkey]; exact bs_row hRA Hf.out (by omega)
  have HKey := Lib.hid hKey
  have Hkey := Lib.hid hkey
  have HI := Lib.hid (H.out.ext hEA)
  have HKA := Lib.hid (HK.out.ext' hEA)
  have HEA := Lib.hid hEA
  have Hil := Lib.hid H.out.len
  clear hwA hEA hRA hKey hkey
  obtain ⟨T, hT⟩ : ∃ T, hkT key info = T := ⟨_, rfl⟩
  obtain ⟨O, hO⟩ : ∃ O, hkO key info = O := ⟨_, rfl⟩
  have HT0 := Lib.hid (show T 0 = [] by rw [← hT]; rfl)
  have HO0 := Lib.hid (show O 0 = [] by rw [← hO]; rfl)
  have HTs := Lib.hid (show ∀ i : Nat, T (i + 1) = macL key (T i ++ (info ++ [((i : Int) + 1) % 256])) by intro i; rw [← hT]; rfl)
  have HOs := Lib.hid (show ∀ i : Nat, O (i + 1) = O i ++ T (i + 1) by intro i; rw [← hT, ← hO]; rfl)
  have HTl := Lib.hid (show ∀ i : Nat, (T i).length ≤ 32 by intro i; rw [← hT]; exact hkT_le key info i)
  have HOl := Lib.hid (show ∀ i : Nat, (O i).length = 32 * i by intro i; rw [← hO]; exact hkO_length key info i)
  have HOb := Lib.hid (show ∀ i : Nat, ∀ x ∈ O i, 0 ≤ x ∧ x < 256 by intro i; rw [← hO]; exact hkO_byte key info i)
  have HOe := Lib.hid (show (O ((n + 31) / 32)).take n = expandL key info n by rw [← hO]; rfl)
  clear hT hO
  go_wp2
  go_loopw [8, 9, 10] (fun o l i wr => ∃ (k : Nat) (ao : Option Addr) (co : Nat) (al : Option Addr) (cl : Nat), k ≤ (n + 31) / 32 ∧ i = .int .u8 (((k : Int) + 1) % 256) ∧ o = .slice ao (32 * k) co ∧ wr.ownsRow wA.heap.size 5 1 o (32 * k) (bv (O k)) ∧ l = .slice al (T k).length cl ∧ BsAt wr al (T k).length cl (T k) ∧ Ext wA wr) (fun o _ _ _ => match o with | .slice _ m _ => 8192 - m | _ => 0)
  case atStart => exact ⟨0, none, 0, none, 0, Nat.zero_le _, rfl, rfl, by rw [HO0.out]; exact World.ownsRow_nil _ _ _ _, by rw [HT0.out]; rfl, by rw [HT0.out]; exact ⟨rfl, Nat.le_refl _, by omega, by simp, by simp, fun h => by simp at h, fun _ => rfl⟩, Ext.refl _⟩
  case round =>
    obtain ⟨k, ao, co, al, cl, hk, rfl, rfl, hown, rfl, hB, hE⟩ := hrel
    by_cases hlt : 32 * k < n
    · obtain ⟨v, hv⟩ : ∃ v : Int, ((k : Int) + 1) % 256 = v := ⟨_, rfl⟩
      have hTk := HTs.out k
      rw [hv] at hTk ⊢
      obtain ⟨tk, htk⟩ : ∃ tk, T k = tk := ⟨_, rfl⟩
      have htl := HTl.out k
      rw [htk] at hB htl hTk ⊢
      have hv0 : 0 ≤ v := by omega
      have hv1 : v < 256 := by omega
      have x1 : 32 * (k : Int) < (n : Int) := by omega
      have h1 := bs_new wr [v] #[.int .u8 v] 5 (0, 0) rfl (by simp; omega) (by simp)
      have hE1 : Ext wr (wr.alloc (.cells #[.int .u8 v] 5)) := (Ext.refl wr).alloc _
      have hV := ((PsV.one (hB.ext hE1)).append (PsV.one (HI.out.ext (hE.trans hE1)))).append (PsV.one h1)
      have hP := ps_new hV 41 (by omega)
      have hsz : (wr.alloc (.cells #[.int .u8 v] 5)).heap.size = wr.heap.size + 1 := by simp
      rw [hsz] at hP
      have hE2 : Ext wr ((wr.alloc (.cells #[.int .u8 v] 5)).alloc (.cells #[.slice al tk.length cl, .slice b m d, .slice (some ⟨wr.heap.size, 0, none⟩) 1 1] 41)) := hE1.alloc _
      have hmac := mac_any _ _ _ key _ _ _ _ _ (HKey.out.ext (hE.trans hE2)) hP (by simp only [List.flatten_append, List.length_append, List.flatten_cons, List.flatten_nil, List.append_nil, Hil.out, List.length_singleton]; omega) (by omega) (by omega) (HKA.out.ext' (hE.trans hE2))
      rw [show (([tk] ++ [info]) ++ [[v]]).flatten = tk ++ (info ++ [v]) by simp] at hmac
      have HM := Lib.hid hmac
      have HE2 := Lib.hid hE2
      have HE := Lib.hid hE
      have Hown := Lib.hid hown
      have HTk := Lib.hid hTk
      have Hv := Lib.hid hv
      have hsA2 := Below.size hE
      clear h1 hE1 hV hP hsz hE2 hmac hE hown hTk hv hB htk
      go_wp2_with fail
      refine HM.out.mono ?_
      rintro e w5 ⟨rfl, hE5⟩
      obtain ⟨F, hF⟩ : ∃ F : Nat → Int, macF key (tk ++ (info ++ [v])) = F := ⟨_, rfl⟩
      have hTn : T (k + 1) = l32 F := by rw [HTk.out, ← hF]; rfl
      have hFb : ∀ j, j < 32 → 0 ≤ F j ∧ F j < 256 := fun j _ => by rw [← hF]; exact macF_byte _ _ j
      rw [hF]
      have HTn := Lib.hid hTn
      have HFb := Lib.hid hFb
      have HE5 := Lib.hid (HE2.out.trans hE5)
      clear hF hTn hFb hE5 HM HE2 HTk
      go_upto_region 9 with (refine wpList_store_row rfl 23 _ _ rfl w5.heap.size _ rfl rfl _ _ (heap_new w5 _ _ rfl) (by kernel_rfl) (by rw [rowArr_size]; rfl) (rowArr_one fun _ _ => rfl) ?_; rw [setRow_new w5 _ _ _ _ rfl])
      obtain ⟨w6, hw6⟩ : ∃ w6, w5.alloc (.cells (rowArr 32 fun j => .int .u8 (F j)) 23) = w6 := ⟨_, rfl⟩
      have hE6 : Ext wr w6 := by rw [← hw6]; exact HE5.out.alloc _
      have hR6 : w6.rowIs w5.heap.size 23 32 (fun j => .int .u8 (F j)) := by rw [← hw6]; exact rowIs_of (heap_new w5 _ _ rfl)
      have hB6 : BsAt w6 (some ⟨w5.heap.size, 0, none⟩) 32 32 (l32 F) := bs_row hR6 HFb.out (by omega)
      refine wp_world (w' := w6) hw6 ?_
      have hown6 : w6.ownsRow wA.heap.size 5 1 (.slice ao (32 * k) co) (32 * k) (bv (O k)) := Hown.out.kept (row := none) (grown_ext hE6 none) (by
        cases ao with
        | none => exact Or.inl rfl
        | some ad => right; simp [Value.ownBlock])
      have hne := own_row_ne hown6 hR6 (by decide)
      have Hown6 := Lib.hid hown6
      have HB6 := Lib.hid hB6
      have Hne := Lib.hid hne
      have HE6 := Lib.hid (HE.out.trans hE6)
      have hs6 := Below.size (HE.out.trans hE6)
      clear hw6 hE6 hR6 hB6 hown6 hne Hown HE HE5
      go_wp2_with (at_builtin; refine append_bsG rfl (.tmp 32) (.tmp 33) rfl wA.heap.size _ (32 * k) (O k) rfl Hown6.out _ 32 32 (l32 F) rfl HB6.out (by omega) (by omega) ?_)
      intro v7 w7 hown7 hB7 hG7
      obtain ⟨a7, c7, rfl, hc7a, hc7b⟩ := owns_slice hown7
      have hB7' : BsAt w7 (some ⟨w5.heap.size, 0, none⟩) 32 32 (l32 F) := HB6.out.grownO hG7 (fun _ b off e => by
        simp only [Option.some.injEq, Addr.mk.injEq, and_true] at e
        obtain ⟨rfl, rfl⟩ := e
        exact Hne.out)
      have hOk : bv (O k ++ l32 F) = bv (O (k + 1)) := by rw [HOs.out, HTn.out]
      rw [hOk] at hown7
      have Hown7 := Lib.hid hown7
      have HB7 := Lib.hid hB7'
      have HE7 := Lib.hid (HE6.out.trans' hB7)
      clear hown7 hB7 hG7 hB7' hOk Hown6 HB6 Hne HE6
      go_wp2
      go_roundw
      case rel =>
        have hl : (T (k + 1)).length = 32 := by rw [HTn.out, l32_length]
        refine ⟨k + 1, a7, c7, some ⟨w5.heap.size, 0, none⟩, 32, by omega, ?_, by rw [show 32 * (k + 1) = 32 * k + 32 by omega], ?_, by rw [hl], ?_, HE7.out⟩
        · have := Hv.out
          exact val_int (by omega)
        · exact Hown7.out
        · rw [hl, HTn.out]
          exact HB7.out
      case measure => simp; omega
    · obtain rfl : k = (n + 31) / 32 := by omega
      obtain ⟨_, _, he, hc1, hc2⟩ := owns_slice hown
      injection he with he1 he2 he3
      subst he1
      subst he3
      unfold maxLen at hc2
      have x1 : ¬ 32 * (((n + 31) / 32 : Nat) : Int) < (n : Int) := by omega
      have x2 : (n : Int) ≤ (co : Int) := by omega
      have x3 : (n : Int) ≤ 32 * (((n + 31) / 32 : Nat) : Int) := by omega
      obtain ⟨q, hq⟩ : ∃ q, (n + 31) / 32 = q := ⟨_, rfl⟩
      rw [hq] at hown HOe x1 x3 hc1 ⊢
      have Hq := Lib.hid hq
      have Hown := Lib.hid hown
      have HE := Lib.hid hE
      clear hown hE hB hq he2 hk hlt
      go_wp2
      go_ret2
      have hbs := owns_bs Hown.out (HOb.out q) (by omega) (by have := Hq.out; omega)
      have hcut := hbs.cut (m := n) (c' := n) (by omega) (Nat.le_refl _) (by omega)
      rw [HOe.out] at hcut
      rw [Hkey.out]
      exact ⟨_, rfl, ⟨ao, rfl, hcut, owns_new Hown.out (by omega) (by omega)⟩, HEA.out.trans HE.out⟩

set_option maxRecDepth 100000 in
theorem expand_bad (f : Nat → Int) (b : Option Addr) (m d : Nat) (n : Int) (w : World) (hn : n < 0 ∨ 8160 < n) :
    Calls Tryd.prog 73 #[.agg (rowArr 32 fun j => .int .u8 (f j)), .slice b m d, .int .i64 n] w fun e w' => e = .returned (.tuple #[.slice none 0 0, .int .i64 1]) ∧ Ext w w' := by
  by_cases h0 : n < 0
  · have hE : Ext w (w.alloc (.cells (rowArr 32 fun j => .int .u8 (f j)) 23)) := (Ext.refl w).alloc _
    have HE := Lib.hid hE
    clear hE hn
    go_enter Tryd.func73, Tryd.ntmps73
    go_wp2
    go_ret2
    exact ⟨rfl, HE.out⟩
  · have h1 : 8160 < n := by omega
    have h2 : 0 ≤ n := by omega
    have hE : Ext w (w.alloc (.cells (rowArr 32 fun j => .int .u8 (f j)) 23)) := (Ext.refl w).alloc _
    have HE := Lib.hid hE
    clear hE hn
    go_enter Tryd.func73, Tryd.ntmps73
    go_wp2
    go_ret2
    exact ⟨rfl, HE.out⟩

end Go.Proofs.YtppidlpblkihbaaDoor
