/-
What the law of circles asks of two numbers of 64ths of turns and of two powers, as checks on words. Plain, no program in sight. Conditions: none.
-/
import Derived.Test.YtpihpmefbiboaaaAg
namespace Fl
open Ieee Go

def C64 : Nat := 4634204016564240384
def C100 : Nat := 4666723447345250304
def E4 : Nat := 4547007122018943789
def E3 : Nat := 4562254508917369340
def le (x y : Nat) : Bool := double.order x y == some .lt || double.order x y == some .eq
def qt (n : Int) : Nat := fo .quo (ofI n) C64
def ciP (n : Int) : Nat × Nat := if big (qt n) = true then (1065353216, 0) else (phRe (qt n), phIm (qt n))
/-! ### one phasor -/
def anF (p : Nat × Nat) : Nat := angF p.2 p.1
def an64 (p : Nat × Nat) : Nat := fo .mul (wid (anF p)) C64
def tuF (n : Nat) (a : Int) : Nat := fo .sub n (ofI a)
def t100 (n : Nat) (a : Int) : Nat := fo .add (tuF n a) C100
def whF (n : Nat) (a : Int) : Int := toI (t100 n a)
def okA1 (p : Nat × Nat) : Bool :=
  okAg p.2 p.1 && okW (anF p) && o1 .mul (wid (anF p)) C64
  && okPw p.1 p.2 && okW (pwF p.1 p.2) && okG (wid (pwF p.1 p.2)) C1 && !gt (gapF (wid (pwF p.1 p.2)) C1) E4
def okA2 (n : Nat) (a : Int) : Bool :=
  o1 .sub n (ofI a) && o1 .add (tuF n a) C100 && (floatToIntVal .f64 (t100 n a) .i64).isSome && decide (0 ≤ whF n a) && decide (whF n a ≤ 100000)
  && okG (tuF n a) (ofI (whF n a - 10000)) && !gt (gapF (tuF n a) (ofI (whF n a - 10000))) E3 && decide (Int.tmod (whF n a - 10000) 64 = 0)
def okA3 (p : Nat × Nat) : Bool := okW p.1 && okG (wid p.1) 0 && (double.order (gapF (wid p.1) 0) 0 == some .eq || double.order (gapF (wid p.1) 0) C1 == some .eq)
/-! ### two phasors -/
def okN (a b : Nat) : Bool := okW a && okW b && okG (wid a) (wid b) && le (gapF (wid a) (wid b)) E4
def okAB (p q r : Nat × Nat) : Bool :=
  okMu p.1 p.2 q.1 q.2 && okN (nar (muU p.1 p.2 q.1 q.2)) r.1 && okN (nar (muV p.1 p.2 q.1 q.2)) r.2
/-! ### powers -/
def C8s : Nat := 1090519040
def xw (i : Int) : Nat := (floatBits .quo .f32 (floatOfInt .f32 (1 + i)) C8s).getD 0
def xy (i j : Int) : Nat := (floatBits .mul .f32 (xw i) (xw j)).getD 0
def okX (x : Nat) : Bool := decide (rung single x < single.infRung) && !le32 x 0
end Fl
