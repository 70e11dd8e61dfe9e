/-
Products of the phasors of 64ths of turns: by reckoning, each pair once. Plain, no program in sight. Conditions: none.
-/
import Derived.Test.YtpihpmefbiboaaaPt
namespace Fl
theorem rw38 : okRw 38 = true := by decide +kernel
theorem rw39 : okRw 39 = true := by decide +kernel
theorem rw40 : okRw 40 = true := by decide +kernel
theorem rw41 : okRw 41 = true := by decide +kernel
theorem rw42 : okRw 42 = true := by decide +kernel
theorem rw43 : okRw 43 = true := by decide +kernel
theorem rw44 : okRw 44 = true := by decide +kernel
theorem rw45 : okRw 45 = true := by decide +kernel
theorem rw46 : okRw 46 = true := by decide +kernel
theorem rw47 : okRw 47 = true := by decide +kernel
theorem rw48 : okRw 48 = true := by decide +kernel
theorem rw49 : okRw 49 = true := by decide +kernel
theorem rw50 : okRw 50 = true := by decide +kernel
theorem rw51 : okRw 51 = true := by decide +kernel
theorem rw52 : okRw 52 = true := by decide +kernel
end Fl
