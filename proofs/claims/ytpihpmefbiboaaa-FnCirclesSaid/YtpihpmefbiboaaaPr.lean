/-
Products of the phasors of 64ths of turns: by reckoning, each pair once. Plain, no program in sight. Conditions: none.
-/
import Derived.Test.YtpihpmefbiboaaaPt
namespace Fl
theorem rw53 : okRw 53 = true := by decide +kernel
theorem rw54 : okRw 54 = true := by decide +kernel
theorem rw55 : okRw 55 = true := by decide +kernel
theorem rw56 : okRw 56 = true := by decide +kernel
theorem rw57 : okRw 57 = true := by decide +kernel
theorem rw58 : okRw 58 = true := by decide +kernel
theorem rw59 : okRw 59 = true := by decide +kernel
theorem rw60 : okRw 60 = true := by decide +kernel
theorem rw61 : okRw 61 = true := by decide +kernel
theorem rw62 : okRw 62 = true := by decide +kernel
theorem rw63 : okRw 63 = true := by decide +kernel
end Fl
