/-
From what the row of ReadComplex lays, and from the world's shape, to what its walk asks; a lift for rows that lay variables and use the world's shape; a world in which the pinned table lies. Conditions: none.
-/
import Derived.Test.YtpihpmefbiboaaaDoorRows
import Derived.Test.YtpihpmefbiboaaaDoorRcE
import Derived.Stop.LaidErr
import Derived.MakeChecks
import Derived.Lib.LaidTab
import Derived.Shelf.Vars
import Derived.HandedShaped
import Derived.LaidMore
import Derived.ProofKit
namespace Go.Proofs.YtpihpmefbiboaaaDoor
open Go.RowKit Go.ChangeShapes Go.WideShapes Go.ChangeAt

theorem star : "*" ++ "errors.errorString" = "*errors.errorString" := by decide
theorem rowErr (u : TypeId) (h : Tryd.prog.typeName? 3 u = some "*errors.errorString") : u = 100 :=
  typeName_ptr_named (nm := "errors.errorString") (by rw [star]; kernel_rfl) (by kernel_rfl) (by decide) u (by rw [star]; exact h)
theorem syn_of {W : World} {rest : List (String × DataW Unit)} (h : laidMet Tryd.prog (("strconv.ErrSyntax", Rows.laid_strconv_ErrSyntax) :: rest) W) : ∃ t p, W.cell? ⟨1, 0, none⟩ = some (.iface t p) := by
  obtain ⟨a, s, hv, -, -, -⟩ := laid_sentinel (g := 1) (ti := 44) (tp := 100) (te := 102) (ts := 9) h (by kernel_rfl) (by kernel_rfl) Tryd.underlying44 rowErr Tryd.underlying100 Tryd.underlying102 rfl rfl Tryd.underlying9 (by kernel_rfl) (by kernel_rfl)
  have h0 := World.var?_cell (g := 1) (by kernel_rfl) hv 0
  exact ⟨_, _, by simpa using h0⟩
def tz64 : List Int := [0, 1, 56, 2, 57, 49, 28, 3, 61, 58, 42, 50, 38, 29, 17, 4, 62, 47, 59, 36, 45, 43, 51, 22, 53, 39, 33, 30, 24, 18, 12, 5, 63, 55, 48, 27, 60, 41, 37, 16, 46, 35, 44, 21, 52, 32, 23, 11, 54, 26, 40, 15, 34, 20, 31, 10, 25, 14, 19, 9, 13, 8, 7, 6]
theorem tz_data : (Rows.laid_math_bits_deBruijn64tab : DataW Unit) = Lib.tabData .u8 tz64 := by kernel_rfl
theorem tz_of {W : World} {rest : List (String × DataW Unit)} (h : laidMet Tryd.prog (("math/bits.deBruijn64tab", Rows.laid_math_bits_deBruijn64tab) :: rest) W) : W.cell? ⟨8, 15, none⟩ = some (.int .u8 4) := by
  rw [tz_data] at h
  have ht := Lib.tabIs_of_head (g := 8) (t := 118) (e := 5) (n := 64) (by kernel_rfl) (by kernel_rfl) Tryd.underlying118 Tryd.underlying5 (by kernel_rfl) (by kernel_rfl) h
  exact ht.cell (g := 8) (by kernel_rfl) 15 (by decide)
theorem max_of {W : World} (h : W.ShapedOpen Tryd.prog) : ∃ m, W.cell? ⟨3, 0, none⟩ = some (.int .i64 m) :=
  cell_of_shapedOpen_int (P := Tryd.prog) (g := 3) (t := 3) (zero := #[.int .i64 0]) h (of_decide_eq_true (by kernel_rfl)) (by kernel_rfl) rfl (by kernel_rfl) (by kernel_rfl) Tryd.underlying3
theorem env4_of {W : World} (h : laidMetH Tryd.prog Rows.fnExactReadComplexRow.laid W) (hs : W.ShapedOpen Tryd.prog) : Env4 W := by
  rw [MakeChecks.laidMetH_plain _ _ _ (by kernel_rfl)] at h
  have h2 := laidMet.tail h
  have h6 := laidMet.tail (laidMet.tail (laidMet.tail (laidMet.tail h2)))
  exact ⟨syn_of h6, max_of hs, tz_of h2⟩

/-- The lift of a row that lays variables, with the world's shape at hand. -/
theorem lift_shaped {H : Type} {enc : TypeId × Value → H} {a : Assume} {C : Checked} {os : Os} {f : FuncId} {fn : Func} {s : ChangeSpec} {cs : List PathCond} {ap fr ho ag : Bool} {X : World → Array Value → Prop}
    (hX : ∀ (w w' : World) (xs : Array Value), w.heap = w'.heap → X w xs → X w' xs)
    (own : ownKnob C.prog.godebug = none) (started : os.Started) (hi : C.prog.inits.idxOf? f = none) (hf : C.prog.funcs[f]? = some fn)
    (wit : ∃ (w : World) (tape : Tape) (i : Input), w.os = os ∧ (w.forCall tape i).Shaped C.prog ∧ i.vars = [] ∧ Input.okWide C.prog (w.forCall tape i) .any w.heap.size f i ∧
      ((s.pre enc C.prog fn cs ap (w.forCall tape i).memory i.args ∧ X (w.forCall tape i).memory i.args) ∧ sizedMet enc C.prog fn (OpenSpec.ofChange s) ap (w.forCall tape i).memory i.args) ∧ a.holds C.prog (lone (Frame.enter C.prog f i.args .normal) [] (w.forCall tape i)))
    (k : ∀ (W : World) (base : Nat) (xs : Array Value) (ds gs : List (DataW H)) (before : List MemPlace),
      (∀ (j : Nat) t v, fn.params[j]? = some t → xs[j]? = some v → Value.okWide C.prog W .any base t v) →
      DataW.Whole enc C.prog fn.params.toList s.vars ap W xs.toList ds gs before →
      cs.all (PathCond.test C.prog ⟨fn.params.toList, ds, s.plain.varTypes C.prog, gs⟩) = true →
      (DataW.weightsEach C.prog (fn.params.toList ++ s.plain.varTypes C.prog) (ds ++ gs)).all (· ≤ reachBytes) = true → X W xs → W.ShapedOpen C.prog →
      a.holds C.prog (lone (Frame.enter C.prog f xs .normal) [] W) →
      Calls C.prog f xs W fun e W' => ∃ v, e = .returned v ∧ s.post enc C.prog fn ap fr ho ag W xs v W') :
    ReturnsInHanded a C os f .any (fun w xs => (s.pre enc C.prog fn cs ap w xs ∧ X w xs) ∧ sizedMet enc C.prog fn (OpenSpec.ofChange s) ap w xs) (s.post enc C.prog fn ap fr ho ag) := by
  refine returnsInHanded_of_calls own started hi wit ?_
  intro w tape i _ hsh _ hok hpre hh
  obtain ⟨_, _, _, fn', hfn', _, _, _, _, hval⟩ := hok
  obtain rfl : fn' = fn := Option.some.inj (hfn'.symm.trans hf)
  obtain ⟨⟨⟨ds, gs, before, hw, hc⟩, hx⟩, hz⟩ := hpre
  have hw' := DataW.Whole.of_heap (w' := w.forCall tape i) (by rfl) hw
  refine (k (w.forCall tape i) w.heap.size i.args ds gs before hval hw' hc (hz.weights hw) (hX _ _ _ (by rfl) hx) hsh hh).mono fun e W' ⟨v, he, hp⟩ => ?_
  subst he
  exact ChangeSpec.post_blind hp

/-- The cells of the pinned table. -/
def litCell : DataW Unit → Value
  | .lit (.int k n) => .int k n
  | _ => .bool false
def firstCells : Array Value := match Pinned.utf8First with
  | .agg l => (l.map litCell).toArray
  | _ => #[]
noncomputable def pinWorld (os : Os) : World := { World.doorLaid Tryd.prog 72 os with heap := (World.doorLaid Tryd.prog 72 os).heap.modify 5 fun o => match o with
  | .cells _ t r => .cells firstCells t r
  | o => o }
theorem pin_met (os : Os) (args : Array Value) : laidMetH Tryd.prog Rows.fnExactReadComplexRow.laid ((pinWorld os).forCall (fun _ _ => 0) ⟨#[], args, []⟩).memory :=
  laidMetH_of_parts3 (fuel := 8) (laidMet_of_run' 8 (by kernel_rfl) (by kernel_rfl)) (by kernel_rfl) (by kernel_rfl)
end Go.Proofs.YtpihpmefbiboaaaDoor
