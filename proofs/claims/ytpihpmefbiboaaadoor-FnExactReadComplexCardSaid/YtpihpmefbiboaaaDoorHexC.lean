/-
strconv.FormatInt at base 16, for numbers below 2 to the 32nd.
-/
import Derived.Test.YtpihpmefbiboaaaDoorHexB
namespace Go.Proofs.YtpihpmefbiboaaaDoor
open Go.RowKit Go.Proofs.YtpihpmefbiboaaaDoorW.PrintWords Go.Proofs.YtpihpmefbiboaaaDoorW.PrintLast Go.Proofs.YtpihpmefbiboaaaDoorW.PrintMore

set_option maxRecDepth 100000 in
theorem format41 (u : Nat) (hu : u < 4294967296) (w : World) (h : w.cell? ⟨8, 15, none⟩ = some (.int .u8 4)) :
    Calls Tryd.prog 41 #[.int .i64 u, .int .i64 16] w fun e w' => e = .returned (.string ⟨(hexF 7 u).toArray⟩) ∧ Below w.heap.size w w' := by
  have H0 := Lib.hid h
  have hw : IntKind.u64.wrap (u : Int) = (u : Int) := by rw [IntKind.wrap_u64]; omega
  have g1 : decide ((u : Int) < 0) = false := decide_eq_false (by omega)
  have HU := Lib.hid hu
  clear h hu
  go_enter Tryd.func41, Tryd.ntmps41
  go_wp2_with (first | (go_at_call 58; refine (bits16 u HU.out _ H0.out).mono ?_; rintro e w' ⟨rfl, hb⟩) | go_in)
  go_ret
  exact ⟨rfl, hb⟩

set_option maxRecDepth 100000 in
theorem format27 (u : Nat) (hu : u < 4294967296) (w : World) (h : w.cell? ⟨8, 15, none⟩ = some (.int .u8 4)) :
    Calls Tryd.prog 27 #[.int .i64 u, .int .i64 16] w fun e w' => e = .returned (.string ⟨(hexF 7 u).toArray⟩) ∧ Below w.heap.size w w' := by
  have H0 := Lib.hid h
  have HU := Lib.hid hu
  clear h hu
  go_enter Tryd.func27, Tryd.ntmps27
  go_wp2_with (first | (go_at_call 41; refine (format41 u HU.out _ H0.out).mono ?_; rintro e w' ⟨rfl, hb⟩) | go_in)
  go_ret
  exact ⟨rfl, hb⟩
end Go.Proofs.YtpihpmefbiboaaaDoor
