/-
  The first bytes of two keys, as they come out. Closed facts.
-/
import Derived.Test.YtdgbcieopkilcaaDoorKeys
namespace Go.Proofs.YtdgbcieopkilcaaDoor

def oneF : Nat → Int := fun j => if j = 0 then 1 else 0
def inner0 : List Int := [205, 193, 237, 88, 103, 99, 90, 113, 149, 207, 121, 106, 226, 154, 58, 192, 141, 81, 81, 30, 13, 254, 57, 21, 114, 69, 171, 153, 19, 131, 204, 140]
def inner1 : List Int := [74, 204, 113, 95, 6, 130, 137, 45, 255, 82, 121, 23, 129, 138, 137, 253, 174, 138, 224, 102, 138, 219, 112, 17, 95, 25, 91, 38, 70, 178, 235, 245]

theorem in0 : shaL (padK 54 (macKey (l32 zeroF)) ++ (strB labBody ++ [1])) = inner0 := by kernel_rfl
theorem in1 : shaL (padK 54 (macKey (l32 oneF)) ++ (strB labBody ++ [1])) = inner1 := by kernel_rfl
theorem out0 : shaF (padK 92 (macKey (l32 zeroF)) ++ inner0) 0 = 241 := by kernel_rfl
theorem out1 : shaF (padK 92 (macKey (l32 oneF)) ++ inner1) 0 = 17 := by kernel_rfl

theorem dv_first (f : Nat → Int) (lab : List Int) : dvF f lab 0 = macF (l32 f) (lab ++ [1]) 0 := rfl
theorem body0 : dvF zeroF (strB labBody) 0 = 241 := by
  rw [dv_first]
  unfold macF
  rw [in0]
  exact out0
theorem body1 : dvF oneF (strB labBody) 0 = 17 := by
  rw [dv_first]
  unfold macF
  rw [in1]
  exact out1

end Go.Proofs.YtdgbcieopkilcaaDoor
