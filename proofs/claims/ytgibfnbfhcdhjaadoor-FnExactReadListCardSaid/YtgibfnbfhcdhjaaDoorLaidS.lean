/-
From what the row of ReadList lays, and from the world's shape, to what its walk asks; a lift for rows that lay variables and use the world's shape; a world in which the pinned table lies. Conditions: none.
-/
import Derived.Test.YtgibfnbfhcdhjaaDoorLaidR
import Derived.Test.YtgibfnbfhcdhjaaDoorEnvS
import Derived.Shelf.Vars
import Derived.HandedShaped
import Derived.LaidMore
import Derived.ProofKit
namespace Go.Proofs.YtgibfnbfhcdhjaaDoor
open Go.RowKit Go.ChangeShapes Go.WideShapes Go.ChangeAt

theorem max_of {W : World} (h : W.ShapedOpen Tryd.prog) : ∃ m, W.cell? ⟨5, 0, none⟩ = some (.int .i64 m) :=
  cell_of_shapedOpen_int (P := Tryd.prog) (g := 5) (t := 3) (zero := #[.int .i64 0]) h (of_decide_eq_true (by kernel_rfl)) (by kernel_rfl) rfl (by kernel_rfl) (by kernel_rfl) Tryd.underlying3
theorem env3_of {W : World} (h : laidMetH Tryd.prog Rows.fnExactReadListRow.laid W) (hs : W.ShapedOpen Tryd.prog) : Env3 W := by
  rw [MakeChecks.laidMetH_plain _ _ _ (by kernel_rfl)] at h
  have h3 := laidMet.tail (laidMet.tail h)
  have h5 := laidMet.tail (laidMet.tail h3)
  exact ⟨tab_of h3, ⟨syn_of (laidMet.tail h5), rng_of h5⟩, max_of hs⟩

/-- The lift of a row that lays variables, with the world's shape at hand. -/
theorem lift_shaped {H : Type} {enc : TypeId × Value → H} {a : Assume} {C : Checked} {os : Os} {f : FuncId} {fn : Func} {s : ChangeSpec} {cs : List PathCond} {ap fr ho ag : Bool} {X : World → Array Value → Prop}
    (hX : ∀ (w w' : World) (xs : Array Value), w.heap = w'.heap → X w xs → X w' xs)
    (own : ownKnob C.prog.godebug = none) (started : os.Started) (hi : C.prog.inits.idxOf? f = none) (hf : C.prog.funcs[f]? = some fn)
    (wit : ∃ (w : World) (tape : Tape) (i : Input), w.os = os ∧ (w.forCall tape i).Shaped C.prog ∧ i.vars = [] ∧ Input.okWide C.prog (w.forCall tape i) .any w.heap.size f i ∧
      ((s.pre enc C.prog fn cs ap (w.forCall tape i).memory i.args ∧ X (w.forCall tape i).memory i.args) ∧ sizedMet enc C.prog fn (OpenSpec.ofChange s) ap (w.forCall tape i).memory i.args) ∧ a.holds C.prog (lone (Frame.enter C.prog f i.args .normal) [] (w.forCall tape i)))
    (k : ∀ (W : World) (base : Nat) (xs : Array Value) (ds gs : List (DataW H)) (before : List MemPlace),
      (∀ (j : Nat) t v, fn.params[j]? = some t → xs[j]? = some v → Value.okWide C.prog W .any base t v) →
      DataW.Whole enc C.prog fn.params.toList s.vars ap W xs.toList ds gs before →
      cs.all (PathCond.test C.prog ⟨fn.params.toList, ds, s.plain.varTypes C.prog, gs⟩) = true →
      (DataW.weightsEach C.prog (fn.params.toList ++ s.plain.varTypes C.prog) (ds ++ gs)).all (· ≤ reachBytes) = true → X W xs → W.ShapedOpen C.prog →
      a.holds C.prog (lone (Frame.enter C.prog f xs .normal) [] W) →
      Calls C.prog f xs W fun e W' => ∃ v, e = .returned v ∧ s.post enc C.prog fn ap fr ho ag W xs v W') :
    ReturnsInHanded a C os f .any (fun w xs => (s.pre enc C.prog fn cs ap w xs ∧ X w xs) ∧ sizedMet enc C.prog fn (OpenSpec.ofChange s) ap w xs) (s.post enc C.prog fn ap fr ho ag) := by
  refine returnsInHanded_of_calls own started hi wit ?_
  intro w tape i _ hsh _ hok hpre hh
  obtain ⟨_, _, _, fn', hfn', _, _, _, _, hval⟩ := hok
  obtain rfl : fn' = fn := Option.some.inj (hfn'.symm.trans hf)
  obtain ⟨⟨⟨ds, gs, before, hw, hc⟩, hx⟩, hz⟩ := hpre
  have hw' := DataW.Whole.of_heap (w' := w.forCall tape i) (by rfl) hw
  refine (k (w.forCall tape i) w.heap.size i.args ds gs before hval hw' hc (hz.weights hw) (hX _ _ _ (by rfl) hx) hsh hh).mono fun e W' ⟨v, he, hp⟩ => ?_
  subst he
  exact ChangeSpec.post_blind hp

/-- The cells of the pinned table. -/
def litCell : DataW Unit → Value
  | .lit (.int k n) => .int k n
  | _ => .bool false
def firstCells : Array Value := match Pinned.utf8First with
  | .agg l => (l.map litCell).toArray
  | _ => #[]
noncomputable def pinWorld (os : Os) : World := { World.doorLaid Tryd.prog 72 os with heap := (World.doorLaid Tryd.prog 72 os).heap.modify 6 fun o => match o with
  | .cells _ t r => .cells firstCells t r
  | o => o }
theorem pin_met (os : Os) (args : Array Value) : laidMetH Tryd.prog Rows.fnExactReadListRow.laid ((pinWorld os).forCall (fun _ _ => 0) ⟨#[], args, []⟩).memory :=
  laidMetH_of_parts3 (fuel := 8) (laidMet_of_run' 8 (by kernel_rfl) (by kernel_rfl)) (by kernel_rfl) (by kernel_rfl)
end Go.Proofs.YtgibfnbfhcdhjaaDoor
