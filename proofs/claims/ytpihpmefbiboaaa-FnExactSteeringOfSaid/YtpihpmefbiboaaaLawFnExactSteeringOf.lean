/-
The row of FnExactSteeringOf. Conditions: none.
-/
import Derived.Test.YtpihpmefbiboaaaRows
import Derived.Test.YtpihpmefbiboaaaStPure
import Derived.WalkKit
import Derived.ProofKit
import Derived.OpenShut
import Derived.ShutString
import Derived.ChangeOld
import Derived.Below
import Derived.SizedLaws
import Derived.Laws.Cover2
import Derived.Lib.SmallJoins
import Derived.Deep.Slices
import Derived.Carry
namespace Go.Proofs.Ytpihpmefbiboaaa.fnExactSteeringOf
open Go.ChangeShapes Go.WideShapes Go.ChangeAt Go.RowKit
open Go.ChangeMaps (open_string shut_string)
open Go.Proofs.YtpihpmefbiboaaaW.PrintWords Go.Proofs.YtpihpmefbiboaaaW.PrintLast Go.Proofs.YtpihpmefbiboaaaW.PrintMore
set_option linter.unusedVariables false
theorem own : ownKnob Try.prog.godebug = none := by kernel_rfl
theorem laidOut : laidOutB Try.prog = true := by kernel_rfl

set_option maxRecDepth 100000 in
/-- A slice of structs of two integers that came in, opened: the list that it reads as. -/
theorem opened_rows {H : Type} {enc : TypeId × Value → H} {W : World} {A : Option Addr} {n c : Nat} {d : DataW H} {p : List MemPlace}
    (h : DataW.Trod enc Try.prog W 0 (fun _ => true) true 45 (.slice A n c) d p) : ∃ xs : List PFnExactSteeringOf.S86, xs.length = n ∧ Kd.C PFnExactSteeringOf.k86 W A xs.length xs ∧ xs.length ≤ c := by
  obtain ⟨fuel, hf⟩ := h
  rcases Deep.open_slice Try.underlying45 hf with ⟨hcs, _⟩ | ⟨a, len, cap, m, k, D, Pl, hcs, _, hl, hm, hmm, _, hel⟩
  · simp [Value.cells] at hcs
    obtain ⟨rfl, rfl, rfl⟩ := hcs
    exact ⟨[], rfl, ⟨rfl, by simp, fun h0 => absurd h0 (by simp)⟩, Nat.le_refl _⟩
  · simp [Value.cells] at hcs
    obtain ⟨rfl, rfl, rfl⟩ := hcs
    have hlm : n ≤ m := by rw [hmm]; simp; exact hl
    have c2 : Try.prog.cellsOf 86 = 2 := by kernel_rfl
    have c1 : Try.prog.cellsOf 2 = 1 := by kernel_rfl
    have each : ∀ i, i < n → ∃ x : PFnExactSteeringOf.S86, W.cell? (a.add (i * 2)) = some (.int .i64 x.f0) ∧ W.cell? (a.add (i * 2 + 1)) = some (.int .i64 x.f1) := by
      intro i hi
      obtain ⟨cs', hc, ht⟩ := hel i (by omega)
      rw [c2] at hc
      obtain ⟨y0, y1, k', _, hlen, e0, e1⟩ := trod_struct2 Try.underlying86 ht
      rw [c2] at hlen
      match cs', hlen with
      | [u0, u1], _ =>
        have o0 : ([u0, u1].drop 0).take (Try.prog.cellsOf 2) = [u0] := by rw [c1]; rfl
        have o1 : ([u0, u1].drop 1).take (Try.prog.cellsOf 2) = [u1] := by rw [c1]; rfl
        have e0' : DataW.trod enc Try.prog W 0 (fun _ => true) true k' 2 [u0] = some y0 := by rw [← o0]; exact e0
        have e1' : DataW.trod enc Try.prog W 0 (fun _ => true) true k' 2 [u1] = some y1 := by rw [← o1]; exact e1
        obtain ⟨x0, q0, _, _⟩ := DataW.trod_int Try.underlying2 e0'
        obtain ⟨x1, q1, _, _⟩ := DataW.trod_int Try.underlying2 e1'
        simp only [List.cons.injEq, and_true] at q0 q1
        subst q0 q1
        have hg := (World.cells?_some hc).2.2
        refine ⟨⟨x0, x1⟩, ?_, ?_⟩
        · have := hg 0 (by omega)
          simpa [Deep.add_add] using this
        · have := hg 1 (by omega)
          simpa [Deep.add_add] using this
    have : Inhabited PFnExactSteeringOf.S86 := ⟨⟨0, 0⟩⟩
    obtain ⟨f, hf'⟩ := Deep.choose_lt each
    refine ⟨(List.range n).map f, by simp, ⟨by simp, ?_, fun _ => ⟨a, rfl, fun j p hj => ?_⟩⟩, by simpa using hl⟩
    · simp; unfold maxLen at hm; omega
    · rw [List.getElem?_map, Option.map_eq_some_iff] at hj
      obtain ⟨j', hj', rfl⟩ := hj
      have hj2 := List.getElem?_eq_some_iff.1 hj'
      obtain ⟨hlt, hval⟩ := hj2
      simp at hval hlt
      subst hval
      obtain ⟨g0, g1⟩ := hf' j hlt
      refine ⟨[.int .i64 (f j).f0, .int .i64 (f j).f1], rfl, PFnExactSteeringOf.k86_mk W (f j), fun i u hu => ?_⟩
      match i, hu with
      | 0, hu => simp at hu; subst hu; exact g0
      | 1, hu => simp at hu; subst hu; exact g1

theorem walk (A : Option Addr) (c : Nat) (xs : List PFnExactSteeringOf.S86) (x y : Int) (W : World) (hR : Kd.C PFnExactSteeringOf.k86 W A xs.length xs) (hc : xs.length ≤ c) :
    Calls Try.prog 11 #[.slice A xs.length c, .agg #[.int .i64 x, .int .i64 y]] W fun e w' => e = .returned (.bool true) ∧ Below W.heap.size W w' := by
  obtain ⟨k, h⟩ := Pure.FnExactSteeringOf xs x y hR.2.1
  exact PFnExactSteeringOf.laws_FnExactSteeringOf.calls k A c xs x y true W hR hc h
set_option maxRecDepth 100000 in
theorem lifted (os : Os) (started : os.Started) (H : Type) (enc : TypeId × Value → H) :
    ReturnsInHanded {} Try.checked os 11 .any (Rows.fnExactSteeringOfSpec.pre6 enc Try.prog Try.f11 Rows.fnExactSteeringOfRow.domain false) (Rows.fnExactSteeringOfSpec.post enc Try.prog Try.f11 false true false false) := by
  refine returnsInHanded_of_change_sized (C := Try.checked) own started (by kernel_rfl) Try.func11
    (ChangeSpec.witness6 (enc := enc) (C := Try.checked) false ⟨#[], #[.slice none 0 0, .agg #[.int .i64 0, .int .i64 0]], []⟩ 8 (by kernel_rfl) (by kernel_rfl) (by kernel_rfl) (by kernel_rfl)) ?_
  intro W base args ds gs before hval0 hW hcnd hsz0 _
  have hsz : (DataW.weightsEach Try.prog (Try.f11.params.toList ++ Rows.fnExactSteeringOfSpec.plain.varTypes Try.prog) (ds ++ gs)).all (· ≤ reachBytes) = true := hsz0
  have hval : ∀ (j : Nat) t v, Try.f11.params[j]? = some t → args[j]? = some v → Value.okWide Try.prog W .any base t v := hval0
  have hW' := hW
  obtain ⟨p, q, hA0, hV, rfl, hfz, hnd⟩ := hW
  have hA : DataW.TrodAll enc Try.prog W 0 (fun _ => true) true Try.f11.params.toList args.toList ds p := hA0
  rw [Try.params11] at hA hval hsz
  obtain ⟨v0, vs0, d0, ds0, p0, q0, hargs, rfl, rfl, h0, r0⟩ := trodAll_cons hA
  obtain ⟨v1, vs1, d1, ds1, p1, q1, rfl, rfl, rfl, h1, r1⟩ := trodAll_cons r0
  obtain ⟨rfl, rfl, rfl⟩ := trodAll_nil r1
  obtain rfl : args = #[v0, v1] := by cases args; simp_all
  obtain ⟨rfl, rfl⟩ := trodVars_none hV
  have k0 := h0
  have lt0 : ∀ x ∈ p0, x.block < W.heap.size := by obtain ⟨m, hm⟩ := k0; exact DataW.trod_lt m _ _ _ hm
  obtain ⟨A0, n0, c0, rfl⟩ := okWide_slice Try.underlying45 (hval 0 45 v0 rfl rfl)
  obtain ⟨xs0, hn0, R0, C0⟩ := opened_rows h0
  subst hn0
  have k1 := h1
  have lt1 : ∀ x ∈ p1, x.block < W.heap.size := by obtain ⟨m, hm⟩ := k1; exact DataW.trod_lt m _ _ _ hm
  obtain ⟨c10, c11, y10, y11, m1, rfl, rfl, rfl, e10, e11⟩ := Joins.open_agg2 Try.underlying47 (by kernel_rfl) (by kernel_rfl) (hval 1 47 v1 rfl rfl) h1
  obtain ⟨a1, q10, rfl, wa1⟩ := DataW.trod_int Try.underlying2 e10
  obtain ⟨b1, q11, rfl, wb1⟩ := DataW.trod_int Try.underlying2 e11
  simp only [List.cons.injEq, and_true] at q10 q11
  subst q10 q11
  clear hA0 hval0 hsz0 hsz
  refine (walk A0 c0 xs0 a1 b1 W R0 C0).mono fun e W' ⟨he, bel⟩ => ?_
  subst he
  exact ⟨_, rfl, _, _, _, [], _, [], hW', trodAll_mk1 (shut_bool Try.underlying4 _), (trodAll_cons_mk (Below.trod laidOut (by kernel_rfl) (of_decide_eq_true (by kernel_rfl)) k0 bel lt0) (trodAll_cons_mk (Below.trod laidOut (by kernel_rfl) (of_decide_eq_true (by kernel_rfl)) k1 bel lt1) trodAll_mk0)), rfl, bel.frame _, fun h => by cases h⟩
theorem over : Rows.fnExactSteeringOfRow.holds Try.pinned (OpenSpec.ofChange Rows.fnExactSteeringOfSpec) :=
  OpenClaim.holds_of_wide 11 Try.f11 rfl rfl rfl rfl rfl rfl rfl ⟨rfl, rfl, rfl, rfl, rfl⟩ rfl rfl rfl rfl rfl (by kernel_rfl) Try.func11 (by kernel_rfl)
    (of_decide_eq_true (by kernel_rfl)) (by unfold Func.isWrapper; first | (rw [if_pos (by decide +kernel)]; kernel_rfl) | (rw [if_neg (by decide +kernel)]; exact ⟨rfl, rfl⟩))
    (fun os started H enc _ => lifted os started H enc)
theorem proved : Rows.FnExactSteeringOfSaid := over
#print axioms proved
end Go.Proofs.Ytpihpmefbiboaaa.fnExactSteeringOf
namespace Go.Proofs.Ytpihpmefbiboaaa
/-- The row, under a short name, for the claim. -/
theorem fnExactSteeringOf_holds : Rows.FnExactSteeringOfSaid := fnExactSteeringOf.proved
end Go.Proofs.Ytpihpmefbiboaaa
