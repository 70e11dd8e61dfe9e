/-
What the program's angle of a complex number gives, and the power and the product of such numbers, as words; the checks under which every operation has an answer. Plain, no program in sight. Conditions: none.
-/
import Derived.Test.YtpihpmefbiboaaaFt
namespace Fl
open Ieee Go

def C8 : Nat := 4620693217682128896
/-- every operation has an answer -/
def o1 (op : BinOp) (x y : Nat) : Bool := (floatBits op .f64 x y).isSome
def sq (x : Nat) : Nat := (double.sqrt x).getD 0
def lt32 (x y : Nat) : Bool := single.order x y == some .lt
/-- half of an angle's tangent -/
def hT (t : Nat) : Nat := fo .quo t (fo .add C1 (sq (fo .add C1 (fo .mul t t))))
def okH (t : Nat) : Bool := o1 .mul t t && o1 .add C1 (fo .mul t t) && (double.sqrt (fo .add C1 (fo .mul t t))).isSome && o1 .add C1 (sq (fo .add C1 (fo .mul t t))) && o1 .quo t (fo .add C1 (sq (fo .add C1 (fo .mul t t))))
def aH (t : Nat) : Nat → Nat
  | 0 => t
  | r + 1 => hT (aH t r)
def aP (u : Nat) : Nat → Nat
  | 0 => 0
  | r + 1 => fo .sub (inv (8 - r)) (fo .mul u (aP u r))
def okP (u : Nat) : Nat → Bool
  | 0 => true
  | r + 1 => okP u r && o1 .mul u (aP u r) && o1 .sub (inv (8 - r)) (fo .mul u (aP u r))
def aA (y : Nat) : Nat := absw (wid y)
def aB (x : Nat) : Nat := absw (wid x)
def aT0 (y x : Nat) : Nat := if gt (aA y) (aB x) then fo .quo (aB x) (aA y) else fo .quo (aA y) (aB x)
def aT (y x : Nat) : Nat := aH (aT0 y x) 3
def aU (y x : Nat) : Nat := fo .mul (aT y x) (aT y x)
def aM (y x : Nat) : Nat := fo .mul (aT y x) (aP (aU y x) 8)
def a0 (y x : Nat) : Nat := fo .quo (fo .mul C8 (aM y x)) TP
def a1 (y x : Nat) : Nat := if gt (aA y) (aB x) then fo .sub C025 (a0 y x) else a0 y x
def a2 (y x : Nat) : Nat := if lt32 x 0 then fo .sub C05 (a1 y x) else a1 y x
def a3 (y x : Nat) : Nat := if lt32 y 0 then negw (a2 y x) else a2 y x
def angF (y x : Nat) : Nat := nar (a3 y x)
def fin32 (x : Nat) : Bool := match floatBits .sub .f32 x x with
  | some r => single.order r 0 == some .eq
  | none => false
def okW (x : Nat) : Bool := (floatToFloatBits .f32 x .f64).isSome && decide (wid x < 18446744073709551616)
def okAg (y x : Nat) : Bool :=
  fin32 x && fin32 y && !(single.order x 0 == some .eq && single.order y 0 == some .eq) && okW y && okW x
  && o1 .quo (aA y) (aB x) && o1 .quo (aB x) (aA y)
  && okH (aH (aT0 y x) 0) && okH (aH (aT0 y x) 1) && okH (aH (aT0 y x) 2)
  && o1 .mul (aT y x) (aT y x) && okP (aU y x) 8 && o1 .mul (aT y x) (aP (aU y x) 8) && o1 .mul C8 (aM y x) && o1 .quo (fo .mul C8 (aM y x)) TP
  && o1 .sub C025 (a0 y x) && o1 .sub C05 (a1 y x) && (floatToFloatBits .f64 (a3 y x) .f32).isSome
/-! ### power and product -/
def pwF (x y : Nat) : Nat := nar (fo .add (fo .mul (wid x) (wid x)) (fo .mul (wid y) (wid y)))
def okPw (x y : Nat) : Bool := okW x && okW y && o1 .mul (wid x) (wid x) && o1 .mul (wid y) (wid y) && o1 .add (fo .mul (wid x) (wid x)) (fo .mul (wid y) (wid y)) && (floatToFloatBits .f64 (fo .add (fo .mul (wid x) (wid x)) (fo .mul (wid y) (wid y))) .f32).isSome
def muU (a b c d : Nat) : Nat := fo .sub (fo .mul (wid a) (wid c)) (fo .mul (wid b) (wid d))
def muV (a b c d : Nat) : Nat := fo .add (fo .mul (wid a) (wid d)) (fo .mul (wid b) (wid c))
def okMu (a b c d : Nat) : Bool := okW a && okW b && okW c && okW d && o1 .mul (wid a) (wid c) && o1 .mul (wid b) (wid d) && o1 .mul (wid a) (wid d) && o1 .mul (wid b) (wid c)
  && o1 .sub (fo .mul (wid a) (wid c)) (fo .mul (wid b) (wid d)) && o1 .add (fo .mul (wid a) (wid d)) (fo .mul (wid b) (wid c))
  && (floatToFloatBits .f64 (muU a b c d) .f32).isSome && (floatToFloatBits .f64 (muV a b c d) .f32).isSome
def gapF (a b : Nat) : Nat := if lt a b then fo .sub b a else fo .sub a b
def okG (a b : Nat) : Bool := o1 .sub b a && o1 .sub a b
end Fl
