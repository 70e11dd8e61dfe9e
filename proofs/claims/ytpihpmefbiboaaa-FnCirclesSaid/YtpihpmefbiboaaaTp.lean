/-
The tenths of decibels of the powers that the law of circles draws, and of their products: for each pair the tenths of the product are those of both, but for one. Plain, no program in sight. Conditions: none.
-/
import Derived.Test.YtpihpmefbiboaaaLg
namespace Fl
open Ieee Go

def MT : List Int := [-90, -60, -43, -30, -20, -12, -6, 0, 5, 10, 14, 18, 21, 24, 27, 30, 33, 35, 38, 40, 42, 44, 46, 48, 49, 51, 53, 54, 56, 57, 59, 60, 62, 63, 64, 65, 67, 68, 69, 70, 71, 72, 73, 74, 75, 76, 77, 78, 79, 80, 80, 81, 82, 83, 84, 85, 85, 86, 87, 88, 88, 89, 90, 90, 91, 92, 92, 93, 94, 94, 95, 95, 96, 97, 97, 98, 98, 99, 99, 100, 101, 101, 102, 102, 103, 103, 104, 104, 105, 105, 106, 106, 107, 107, 107, 108, 108, 109, 109, 110, 110, 111, 111, 111, 112, 112, 113, 113, 113, 114, 114, 115, 115, 115, 116, 116, 117, 117, 117, 118, 118, 118, 119, 119, 119, 120, 120, 120, 121, 121, 121, 122, 122, 122, 123, 123, 123, 124, 124, 124, 125, 125, 125, 126, 126, 126, 126, 127, 127, 127, 128, 128, 128, 128, 129, 129, 129, 130, 130, 130, 130, 131, 131, 131, 131, 132, 132, 132, 132, 133, 133, 133, 133, 134, 134, 134, 134, 135, 135, 135, 135, 136, 136, 136, 136, 137, 137, 137, 137, 138, 138, 138, 138, 138, 139, 139, 139, 139, 140, 140]
def mt (u : Nat) : Int := MT.getD u 0
def okU (u : Nat) : Bool := okK (8 * (u + 1)) && decide (mt u ≤ loT (8 * (u + 1))) && decide (hiT (8 * (u + 1)) ≤ mt u)
def okT (m n : Int) (k : Nat) : Bool := okK k && decide (m + n - loT k ≤ 1) && decide (hiT k - m - n ≤ 1)
def okRow (lo n : Nat) : Bool := (List.range n).all fun d => (List.range (lo + d + 1)).all fun v => okT (mt (lo + d)) (mt v) ((lo + d + 1) * (v + 1))
theorem allU : ((List.range 200).all okU) = true := by decide +kernel
theorem row0 : okRow 0 60 = true := by decide +kernel
theorem row1 : okRow 60 25 = true := by decide +kernel
theorem row2 : okRow 85 20 = true := by decide +kernel
theorem row3 : okRow 105 16 = true := by decide +kernel
theorem row4 : okRow 121 14 = true := by decide +kernel
theorem row5 : okRow 135 13 = true := by decide +kernel
theorem row6 : okRow 148 12 = true := by decide +kernel
theorem row7 : okRow 160 11 = true := by decide +kernel
theorem row8 : okRow 171 10 = true := by decide +kernel
theorem row9 : okRow 181 10 = true := by decide +kernel
theorem row10 : okRow 191 9 = true := by decide +kernel
theorem okRow_at {lo n u v : Nat} (h : okRow lo n = true) (h1 : lo ≤ u) (h2 : u < lo + n) (h3 : v ≤ u) : okT (mt u) (mt v) ((u + 1) * (v + 1)) = true := by
  have a := List.all_eq_true.1 h (u - lo) (List.mem_range.2 (by omega))
  have e : lo + (u - lo) = u := by omega
  rw [e] at a
  exact List.all_eq_true.1 a v (List.mem_range.2 (by omega))
theorem okT_all (u v : Nat) (h1 : u < 200) (h2 : v ≤ u) : okT (mt u) (mt v) ((u + 1) * (v + 1)) = true := by
  by_cases c0 : u < 60
  · exact okRow_at row0 (by omega) (by omega) h2
  by_cases c1 : u < 85
  · exact okRow_at row1 (by omega) (by omega) h2
  by_cases c2 : u < 105
  · exact okRow_at row2 (by omega) (by omega) h2
  by_cases c3 : u < 121
  · exact okRow_at row3 (by omega) (by omega) h2
  by_cases c4 : u < 135
  · exact okRow_at row4 (by omega) (by omega) h2
  by_cases c5 : u < 148
  · exact okRow_at row5 (by omega) (by omega) h2
  by_cases c6 : u < 160
  · exact okRow_at row6 (by omega) (by omega) h2
  by_cases c7 : u < 171
  · exact okRow_at row7 (by omega) (by omega) h2
  by_cases c8 : u < 181
  · exact okRow_at row8 (by omega) (by omega) h2
  by_cases c9 : u < 191
  · exact okRow_at row9 (by omega) (by omega) h2
  exact okRow_at row10 (by omega) (by omega) h2
end Fl
