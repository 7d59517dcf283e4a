/-
  What SHA-256 computes, in plain Lean: the words of a block, the rounds. No conditions.
-/
import Derived.Test.YthdgnahokmjkpaaDoorLeaf
namespace Go.Proofs.YthdgnahokmjkpaaDoor

/-- The word at place i of a block of bytes. -/
def wordAt (xs : List Int) (i : Nat) : BitVec 32 := BitVec.ofInt 32 (beI ((xs.drop (4 * i)).take 4))
def s0 (x : BitVec 32) : BitVec 32 := rr x 7 ^^^ rr x 18 ^^^ x >>> 3
def s1 (x : BitVec 32) : BitVec 32 := rr x 17 ^^^ rr x 19 ^^^ x >>> 10
def wnext (xs : List Int) (l : List (BitVec 32)) : BitVec 32 :=
  if l.length < 16 then wordAt xs l.length
  else l.getD (l.length - 16) 0 + s0 (l.getD (l.length - 15) 0) + l.getD (l.length - 7) 0 + s1 (l.getD (l.length - 2) 0)
def wl (xs : List Int) : Nat → List (BitVec 32)
  | 0 => []
  | n + 1 => wl xs n ++ [wnext xs (wl xs n)]

theorem wl_length (xs : List Int) : ∀ n, (wl xs n).length = n
  | 0 => rfl
  | n + 1 => by rw [wl, List.length_append, wl_length xs n]; rfl

theorem wl_get (xs : List Int) (i : Nat) : ∀ n, i < n → (wl xs n).getD i 0 = wnext xs (wl xs i)
  | 0, h => by omega
  | n + 1, h => by
    rw [wl]
    by_cases hi : i < n
    · rw [← wl_get xs i n hi, List.getD_eq_getElem?_getD, List.getD_eq_getElem?_getD, List.getElem?_append_left (by rw [wl_length]; exact hi)]
    · obtain rfl : i = n := by omega
      rw [List.getD_eq_getElem?_getD, List.getElem?_append_right (by rw [wl_length]; omega), wl_length]
      simp

/-- The 64 words of a block. -/
def W (xs : List Int) (i : Nat) : BitVec 32 := wnext xs (wl xs i)

theorem W_low (xs : List Int) (i : Nat) (h : i < 16) : W xs i = wordAt xs i := by
  unfold W wnext
  rw [wl_length, if_pos h]
theorem W_high (xs : List Int) (i : Nat) (h : 16 ≤ i) : W xs i = W xs (i - 16) + s0 (W xs (i - 15)) + W xs (i - 7) + s1 (W xs (i - 2)) := by
  conv => lhs; unfold W wnext
  rw [wl_length, if_neg (by omega), wl_get xs (i - 16) i (by omega), wl_get xs (i - 15) i (by omega), wl_get xs (i - 7) i (by omega), wl_get xs (i - 2) i (by omega)]
  rfl

theorem U_wordAt (xs : List Int) (i : Nat) (h : ∀ x ∈ xs, 0 ≤ x ∧ x < 256) : U (wordAt xs i) = beI ((xs.drop (4 * i)).take 4) := by
  have h1 : ∀ x ∈ (xs.drop (4 * i)).take 4, 0 ≤ x ∧ x < 256 := fun x hx => h x (List.mem_of_mem_drop (List.mem_of_mem_take hx))
  obtain ⟨h2, h3⟩ := beI_bd _ h1
  have h4 : (256 : Int) ^ ((xs.drop (4 * i)).take 4).length ≤ 4294967296 := by
    have hl : ((xs.drop (4 * i)).take 4).length ≤ 4 := List.length_take_le _ _
    generalize ((xs.drop (4 * i)).take 4).length = k at hl
    rcases (by omega : k = 0 ∨ k = 1 ∨ k = 2 ∨ k = 3 ∨ k = 4) with rfl | rfl | rfl | rfl | rfl <;> decide
  unfold wordAt U
  rw [BitVec.toNat_ofInt]
  omega

/-- The eight words. -/
structure S8 where
  a : BitVec 32
  b : BitVec 32
  c : BitVec 32
  d : BitVec 32
  e : BitVec 32
  f : BitVec 32
  g : BitVec 32
  h : BitVec 32

def S8.get (s : S8) : Nat → BitVec 32
  | 0 => s.a
  | 1 => s.b
  | 2 => s.c
  | 3 => s.d
  | 4 => s.e
  | 5 => s.f
  | 6 => s.g
  | _ => s.h

def rT (k x : BitVec 32) (s : S8) : BitVec 32 := s.h + (rr s.e 6 ^^^ rr s.e 11 ^^^ rr s.e 25) + (s.e &&& s.f ^^^ ~~~s.e &&& s.g) + k + x
def rU (s : S8) : BitVec 32 := (rr s.a 2 ^^^ rr s.a 13 ^^^ rr s.a 22) + (s.a &&& s.b ^^^ s.a &&& s.c ^^^ s.b &&& s.c)
/-- One round. -/
def rnd (k x : BitVec 32) (s : S8) : S8 := ⟨rT k x s + rU s, s.a, s.b, s.c, s.d + rT k x s, s.e, s.f, s.g⟩

/-- The table of 64 words. -/
def ks : List Nat := [1116352408, 1899447441, 3049323471, 3921009573, 961987163, 1508970993, 2453635748, 2870763221, 3624381080, 310598401, 607225278, 1426881987, 1925078388, 2162078206, 2614888103, 3248222580, 3835390401, 4022224774, 264347078, 604807628, 770255983, 1249150122, 1555081692, 1996064986, 2554220882, 2821834349, 2952996808, 3210313671, 3336571891, 3584528711, 113926993, 338241895, 666307205, 773529912, 1294757372, 1396182291, 1695183700, 1986661051, 2177026350, 2456956037, 2730485921, 2820302411, 3259730800, 3345764771, 3516065817, 3600352804, 4094571909, 275423344, 430227734, 506948616, 659060556, 883997877, 958139571, 1322822218, 1537002063, 1747873779, 1955562222, 2024104815, 2227730452, 2361852424, 2428436474, 2756734187, 3204031479, 3329325298]
def K (i : Nat) : BitVec 32 := BitVec.ofNat 32 (ks.getD i 0)

def rnds (xs : List Int) (s : S8) : Nat → S8
  | 0 => s
  | n + 1 => rnd (K n) (W xs n) (rnds xs s n)

/-- A block taken in. -/
def mixS (xs : List Int) (s : S8) : S8 :=
  let r := rnds xs s 64
  ⟨s.a + r.a, s.b + r.b, s.c + r.c, s.d + r.d, s.e + r.e, s.f + r.f, s.g + r.g, s.h + r.h⟩

theorem mixS_get (xs : List Int) (s : S8) (i : Nat) (h : i < 8) : (mixS xs s).get i = s.get i + (rnds xs s 64).get i := by
  rcases (by omega : i = 0 ∨ i = 1 ∨ i = 2 ∨ i = 3 ∨ i = 4 ∨ i = 5 ∨ i = 6 ∨ i = 7) with rfl | rfl | rfl | rfl | rfl | rfl | rfl | rfl <;> rfl

end Go.Proofs.YthdgnahokmjkpaaDoor
