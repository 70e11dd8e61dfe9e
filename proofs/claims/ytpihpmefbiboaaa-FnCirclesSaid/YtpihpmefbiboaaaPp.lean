/-
Products of the phasors of 64ths of turns: by reckoning, each pair once. Plain, no program in sight. Conditions: none.
-/
import Derived.Test.YtpihpmefbiboaaaPt
namespace Fl
theorem rw0 : okRw 0 = true := by decide +kernel
theorem rw1 : okRw 1 = true := by decide +kernel
theorem rw2 : okRw 2 = true := by decide +kernel
theorem rw3 : okRw 3 = true := by decide +kernel
theorem rw4 : okRw 4 = true := by decide +kernel
theorem rw5 : okRw 5 = true := by decide +kernel
theorem rw6 : okRw 6 = true := by decide +kernel
theorem rw7 : okRw 7 = true := by decide +kernel
theorem rw8 : okRw 8 = true := by decide +kernel
theorem rw9 : okRw 9 = true := by decide +kernel
theorem rw10 : okRw 10 = true := by decide +kernel
theorem rw11 : okRw 11 = true := by decide +kernel
theorem rw12 : okRw 12 = true := by decide +kernel
theorem rw13 : okRw 13 = true := by decide +kernel
theorem rw14 : okRw 14 = true := by decide +kernel
theorem rw15 : okRw 15 = true := by decide +kernel
theorem rw16 : okRw 16 = true := by decide +kernel
theorem rw17 : okRw 17 = true := by decide +kernel
theorem rw18 : okRw 18 = true := by decide +kernel
theorem rw19 : okRw 19 = true := by decide +kernel
theorem rw20 : okRw 20 = true := by decide +kernel
theorem rw21 : okRw 21 = true := by decide +kernel
theorem rw22 : okRw 22 = true := by decide +kernel
theorem rw23 : okRw 23 = true := by decide +kernel
theorem rw24 : okRw 24 = true := by decide +kernel
theorem rw25 : okRw 25 = true := by decide +kernel
theorem rw26 : okRw 26 = true := by decide +kernel
theorem rw27 : okRw 27 = true := by decide +kernel
theorem rw28 : okRw 28 = true := by decide +kernel
theorem rw29 : okRw 29 = true := by decide +kernel
theorem rw30 : okRw 30 = true := by decide +kernel
theorem rw31 : okRw 31 = true := by decide +kernel
theorem rw32 : okRw 32 = true := by decide +kernel
theorem rw33 : okRw 33 = true := by decide +kernel
theorem rw34 : okRw 34 = true := by decide +kernel
theorem rw35 : okRw 35 = true := by decide +kernel
theorem rw36 : okRw 36 = true := by decide +kernel
theorem rw37 : okRw 37 = true := by decide +kernel
end Fl
