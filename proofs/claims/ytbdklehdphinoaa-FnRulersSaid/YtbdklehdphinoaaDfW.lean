/-
The program's list of all differences, sorted and compacted: its loops' walk is as printed, its two last statements go by the shelf's contracts of slices.Sort and slices.Compact. Conditions: at least one difference, and no more than a million.
-/
import Derived.Test.YtbdklehdphinoaaPFnExactIsRulerx0
import Derived.Test.YtbdklehdphinoaaDfP
import Derived.Test.YtbdklehdphinoaaShelf
import Derived.Sort.OwnSortedInts
import Derived.Lib.OwnBridge
namespace Go.Proofs.Ytbdklehdphinoaa.Df
open Go.RowKit Go.Proofs.YtbdklehdphinoaaW.PrintWords Go.Proofs.YtbdklehdphinoaaW.PrintLast Go.Proofs.YtbdklehdphinoaaW.PrintMore Go.Proofs.Ytbdklehdphinoaa.PFnExactIsRuler
set_option linter.unusedVariables false
set_option linter.unusedSimpArgs false

theorem sort_own (w0 w : World) (A : Option Addr) (c : Nat) (xs : List Int) (hne : 0 < xs.length) (hbig : xs.length ≤ 1000000) (HO : Kd.R (Kd.int .i64) 2 w w0.heap.size (fun _ => True) (.slice A xs.length c) xs) (HB : RowKit.Below w0.heap.size w0 w) :
    Calls Try.prog 39 #[.slice A xs.length c] w fun e w' => e = .returned (.tuple #[]) ∧ Kd.R (Kd.int .i64) 2 w' w0.heap.size (fun _ => True) (.slice A xs.length c) (xs.mergeSort fun x y => decide (x ≤ y)) ∧ RowKit.Below w0.heap.size w0 w' := by
  have ho := Kd.own_of_R HO
  rcases ho.2 with ⟨h0, h1⟩ | ⟨g, cap, cur, hv, hbase, hb, h1, h2, h3, h4⟩
  · omega
  cases hv
  have hlt : g < w.heap.size := by
    rcases Nat.lt_or_ge g w.heap.size with h | h
    · exact h
    · rw [Array.getElem?_eq_none h] at hb; cases hb
  obtain ⟨g', cap', e1, _, _, _, _, _, hH⟩ := Lib.holds_of_ownsRow (enc := Value.int .i64) (zs := xs) (show w.ownsRow w0.heap.size 2 1 (.slice (some ⟨g, 0, none⟩) xs.length c) xs.length (xs.map (Value.int .i64)) from ho) (by intro h; cases h)
  cases e1
  have hc := AnyM.slices_Sort_int Try.laysSort g 0 c xs w hH hlt (by omega)
  refine Calls.mono (show Calls Try.prog 39 _ w _ from hc) ?_
  rintro e w' ⟨rfl, n, os, rfl⟩
  have hs := ownsRow_sortedI (n := n) (os := os) (ts := xs.mergeSort fun x y => decide (x ≤ y)) (List.length_mergeSort xs) hbase hb h1 h2 h3
  refine ⟨rfl, ?_, HB.grown (grownBy_sortedI _) HB.size (fun j hj => by cases hj; exact hbase)⟩
  refine Kd.R_of_own (h1 := fun _ => rfl) ?_ (fun _ _ => trivial)
  rw [List.length_mergeSort]
  exact hs

theorem compact_own (w0 w : World) (A : Option Addr) (c : Nat) (xs : List Int) (hne : 0 < xs.length) (hbig : xs.length ≤ 1000000) {m : Nat} (HO : Kd.R (Kd.int .i64) 2 w w0.heap.size (fun _ => True) (.slice A m c) xs) (HB : RowKit.Below w0.heap.size w0 w) (hm : m = xs.length) :
    Calls Try.prog 40 #[.slice A m c] w fun e w' => ∃ v', e = .returned v' ∧ Kd.R (Kd.int .i64) 2 w' w0.heap.size (fun _ => True) v' (Lib.compact xs) ∧ RowKit.Below w0.heap.size w0 w' := by
  subst hm
  have ho := Kd.own_of_R HO
  have hle := Lib.compact_length_le xs
  rcases ho.2 with ⟨h0, h1⟩ | ⟨g, cap, cur, hv, hbase, hb, h1, h2, h3, h4⟩
  · omega
  cases hv
  have ho' : w.ownsRow w0.heap.size 2 1 (.slice (some ⟨g, 0, none⟩) xs.length c) xs.length (xs.map (Value.int .i64)) := ho
  obtain ⟨g', cap', e1, _, _, _, _, _, hH⟩ := Lib.holds_of_ownsRow (enc := Value.int .i64) (zs := xs) ho' (by intro h; cases h)
  cases e1
  have hc := AnyG.slices_Compact_int Try.laysCompact g 0 c xs w hH (by omega) h1
  refine Calls.mono (show Calls Try.prog 40 _ w _ from hc) ?_
  rintro e w' ⟨rfl, q, rfl⟩
  have hcc := Lib.ownsRow_putRow (q := q) (k := (Lib.compact xs).length) (ys := Lib.compact xs ++ List.replicate (xs.length - (Lib.compact xs).length) 0) ho' (by simp; omega) hle
  rw [List.take_left] at hcc
  exact ⟨_, rfl, Kd.R_of_own (h1 := fun _ => rfl) hcc (fun _ _ => trivial), Lib.below_putRow HB hbase⟩

/-! ### loops: function 28 -/
mutual
def loops.l0 : Nat → List Int → List Int → List Int → Int → Int → Option (List Int)
  | 0, _, _, _, _, _ => none
  | k + 1, x0, x3, x9, x10, x11 => if x11 < x10 then (if 0 ≤ x11 then (if x11 < (x9.length : Int) then (if 0 ≤ (wrap64 (x11 + 1)) then (if (wrap64 (x11 + 1)) ≤ (x0.length : Int) then (loops.l1 k x0 x3 (rd x9 x11) x9 x10 x11 (x0.take ((wrap64 (x11 + 1)) : Int).toNat) ((x0.take ((wrap64 (x11 + 1)) : Int).toNat).length : Int) 0) else (none)) else (none)) else (none)) else (none)) else (some x3)
def loops.l1 : Nat → List Int → List Int → Int → List Int → Int → Int → List Int → Int → Int → Option (List Int)
  | 0, _, _, _, _, _, _, _, _, _ => none
  | k + 1, x0, x3, x5, x9, x10, x11, x19, x20, x21 => if x21 < x20 then (if 0 ≤ x21 then (if x21 < (x19.length : Int) then (if x3.length < 17592186044416 then (loops.l1 k x0 (x3 ++ [wrap64 (x5 - (rd x19 x21))]) x5 x9 x10 x11 x19 x20 (wrap64 (x21 + 1))) else (none)) else (none)) else (none)) else (loops.l0 k x0 x3 x9 x10 (wrap64 (x11 + 1)))
end
def loops.f (k : Nat) (l0 : List Int) : Option (List Int) := loops.l0 k l0 (([] : List Int)) l0 (l0.length : Int) 0
theorem loops.mono_l : ∀ k, (∀ y0 y1 y2 y3 y4, LeO (loops.l0 k y0 y1 y2 y3 y4) (loops.l0 (k + 1) y0 y1 y2 y3 y4)) ∧ (∀ y0 y1 y2 y3 y4 y5 y6 y7 y8, LeO (loops.l1 k y0 y1 y2 y3 y4 y5 y6 y7 y8) (loops.l1 (k + 1) y0 y1 y2 y3 y4 y5 y6 y7 y8))
  | 0 => ⟨fun _ _ _ _ _ r h => by simp [loops.l0] at h, fun _ _ _ _ _ _ _ _ _ r h => by simp [loops.l1] at h⟩
  | k + 1 => by
    obtain ⟨ih0, ih1⟩ := loops.mono_l k
    refine ⟨?_, ?_⟩
    · intro y0 y1 y2 y3 y4
      unfold loops.l0
      repeat' first
      | (with_reducible exact ih0 _ _ _ _ _)
      | (with_reducible exact ih1 _ _ _ _ _ _ _ _ _)
      | (with_reducible exact LeO.refl _)
      | (with_reducible exact LeO.none _)
      | (with_reducible refine LeO.ite ?_ ?_)
      | (with_reducible refine LeO.bind ?_ (fun _ => ?_))
      | exact ih0 _ _ _ _ _
      | exact ih1 _ _ _ _ _ _ _ _ _
      | exact LeO.none _
      | refine LeO.ite ?_ ?_
      | refine LeO.bind ?_ (fun _ => ?_)
    · intro y0 y1 y2 y3 y4 y5 y6 y7 y8
      unfold loops.l1
      repeat' first
      | (with_reducible exact ih0 _ _ _ _ _)
      | (with_reducible exact ih1 _ _ _ _ _ _ _ _ _)
      | (with_reducible exact LeO.refl _)
      | (with_reducible exact LeO.none _)
      | (with_reducible refine LeO.ite ?_ ?_)
      | (with_reducible refine LeO.bind ?_ (fun _ => ?_))
      | exact ih0 _ _ _ _ _
      | exact ih1 _ _ _ _ _ _ _ _ _
      | exact LeO.none _
      | refine LeO.ite ?_ ?_
      | refine LeO.bind ?_ (fun _ => ?_)
theorem loops.mono : ∀ a0 k, LeO (loops.f k a0) (loops.f (k + 1) a0) := by
  intro a0 k
  obtain ⟨ih0, ih1⟩ := loops.mono_l k
  unfold loops.f
  repeat' first
      | (with_reducible exact ih0 _ _ _ _ _)
      | (with_reducible exact ih1 _ _ _ _ _ _ _ _ _)
      | (with_reducible exact LeO.refl _)
      | (with_reducible exact LeO.none _)
      | (with_reducible refine LeO.ite ?_ ?_)
      | (with_reducible refine LeO.bind ?_ (fun _ => ?_))
      | exact ih0 _ _ _ _ _
      | exact ih1 _ _ _ _ _ _ _ _ _
      | exact LeO.none _
      | refine LeO.ite ?_ ?_
      | refine LeO.bind ?_ (fun _ => ?_)
set_option maxHeartbeats 8000000 in
set_option maxRecDepth 100000 in
theorem loops.calls_all (k : Nat) (A0 : Option Addr) (c0 : Nat) (l0 : List Int) (r : List Int) (w : World) (hr0 : Kd.C (Kd.int .i64) w A0 l0.length l0) (hc0 : l0.length ≤ c0) (h : loops.f k l0 = some r) (hne : 0 < r.length) (hbig : r.length ≤ 1000000) :
    Calls Try.prog 28 #[.slice A0 l0.length c0] w fun e w' => ∃ v0_ : Value, e = .returned (v0_) ∧ Kd.R (Kd.int .i64) 2 w' w.heap.size (fun _ => True) v0_ (Df.dset r) ∧ Below w.heap.size w w' := by
  have HR0 := Aside0.mk hr0
  have HC0 := Aside0.mk hc0
  clear hr0 hc0
  have HB := Aside0.mk (Below.refl w.heap.size w)
  have H : (loops.l0 k l0 (([] : List Int)) l0 (l0.length : Int) 0) = some r := h
  clear h
  obtain ⟨y287, hy287⟩ : ∃ y_ : List Int, y_ = (([] : List Int)) := ⟨_, rfl⟩
  replace H : (loops.l0 k l0 y287 l0 (l0.length : Int) 0) = some r := by first | (rw [hy287]; with_reducible exact H) | (have H2_ := (Option.bind_some _ _).symm.trans H; rw [hy287]; with_reducible exact H2_) | (have H2_ := (Option.bind_some _ _).symm.trans H; with_reducible exact H2_) | with_reducible exact H | (rw [hy287]; exact H) | exact H
  have Ny287 := Aside0.mk hy287
  clear hy287
  have H' := Aside0.mk H
  clear H
  go_enter Try.func28, Try.ntmps28
  go_wp2_with (first | ((with_reducible refine gate_dst (N := 8) rfl ?_); refine Kd.R_lit (Kd.int .i64) _ 2 ?hg (N := 8) ?hd (xs := ([] : List Int)) (inner := []) (ok := fun _ => True) (okp := fun _ => True) ?hr ?hp (fun _ hk => hk) trivial (Below.refl _ _) (Nat.le_refl _) (by simp) ?_; (case hd => rfl); (case hg => rfl); (case hr => first | (go_simp; done) | (go_simp; rfl)); (case hp => exact (Reps.none _ _)); intro v288 w2 ho3 hb hg_ hnew_; clear hg_ hnew_; (first | rw [← Ny287.out] at ho3 | (simp only [Int.reduceToNat] at ho3; rw [← Ny287.out] at ho3)); have n0_ := Aside0.mk (Kd.R_lower ho3 (below_size (by repeat (first | (with_reducible first | exact HB.out | apply below_alloc | apply pw_below_drewN | apply below_drew1) | exact HB.out)))); have n1_ := Aside0.mk (below_step (by repeat (first | (with_reducible first | exact HB.out | apply below_alloc | apply pw_below_drewN | apply below_drew1) | exact HB.out)) hb); clear HB; have HO289 := n0_; have HB := n1_; clear n0_ n1_; clear hb ho3))
  go_loopg [3, 11] k (fun kq v3 v11 w' => ∃ (x3_1 : List Int) (x11_1 : Int), v11 = .int .i64 x11_1 ∧ Aside0 (loops.l0 kq l0 x3_1 l0 (l0.length : Int) x11_1 = some r) ∧ Aside0 (kq ≤ k) ∧ Aside0 (Kd.R (Kd.int .i64) 2 w' w.heap.size (fun _ => True) v3 x3_1) ∧ Aside0 (Below w.heap.size w w'))
  case atStart => exact ⟨(y287), (0), (by first | rfl | (simp; done) | (simp [*]; done)), H', ⟨Nat.le_refl _⟩, ⟨by (with_reducible repeat (first | apply Kd.R_alloc | apply Kd.R_drewN | apply Kd.R_drew)); exact HO289.out⟩, ⟨by repeat (first | (with_reducible first | exact HB.out | apply below_alloc | apply pw_below_drewN | apply below_drew1) | exact HB.out)⟩⟩
  case round =>
    clear H'
    try clear c2
    try clear p2
    obtain ⟨x3_1, x11_1, rfl, HA, HK1, HO_3, HB⟩ := hrel
    cases gk with
    | zero => exact absurd HA.out (by simp [loops.l0])
    | succ k1 =>
      have H := HA.out
      clear HA
      simp only [loops.l0] at H
      by_cases c4 : x11_1 < (l0.length : Int)
      · rw [if_pos c4] at H
        have c4b0 : decide (x11_1 < (l0.length : Int)) = true := decide_eq_true c4
        clear c4
        by_cases c5 : 0 ≤ x11_1
        · rw [if_pos c5] at H
          have c5b0 : decide (0 ≤ x11_1) = true := decide_eq_true c5
          clear c5
          by_cases c6 : x11_1 < (l0.length : Int)
          · rw [if_pos c6] at H
            have c6b0 : decide (x11_1 < (l0.length : Int)) = true := decide_eq_true c6
            clear c6
            obtain ⟨ji7, hji7⟩ : ∃ j_ : Int, (wrap64 (x11_1 + 1)) = j_ := ⟨_, rfl⟩
            replace H : (if 0 ≤ (ji7) then (if (ji7) ≤ (l0.length : Int) then (loops.l1 k1 l0 x3_1 (rd l0 x11_1) l0 (l0.length : Int) x11_1 (l0.take ((ji7) : Int).toNat) ((l0.take ((ji7) : Int).toNat).length : Int) 0) else (none)) else (none)) = some r := by first | (rw [hji7] at H; exact H) | (simp only [hji7] at H ⊢; exact H)
            have hji7w : (IntKind.i64.wrap (x11_1 + 1)) = ji7 := (i64_w _).trans hji7
            by_cases c8 : 0 ≤ (ji7)
            · rw [if_pos c8] at H
              have c8b0 := eq_true c8
              have c8b1 : decide (0 ≤ (ji7)) = true := decide_eq_true c8
              clear c8
              by_cases c9 : (ji7) ≤ (l0.length : Int)
              · rw [if_pos c9] at H
                have c9b0 := eq_true c9
                have c9b1 : decide ((ji7) ≤ (l0.length : Int)) = true := decide_eq_true c9
                clear c9
                have H' := Aside0.mk H
                clear H
                have p290 : 0 ≤ (x11_1 : Int) := of_decide_eq_true (by first | (with_reducible assumption) | assumption)
                have q290 : x11_1 < (l0.length : Int) := of_decide_eq_true (by first | (with_reducible assumption) | assumption)
                obtain ⟨ad290, e290, hx290_0⟩ := Kd.at_int HR0.out x11_1 p290 q290
                cases e290
                replace hx290_0 := (HB.out.cell (World.block_lt_of_cell? w _ hx290_0)).trans hx290_0
                replace p290 := eq_true p290
                replace q290 := eq_true q290
                obtain ⟨i010, hi010, _, hsz10, _⟩ := info_parts info2
                obtain ⟨hcut10, hA10, hC10⟩ := print_take_of (P := Try.prog) (Value.int .i64) 0 22 2 .i64 Try.underlying22 hi010 hsz10 (some ad290) c0 l0 (ji7) (of_decide_eq_true (by first | (with_reducible assumption) | assumption)) (of_decide_eq_true (by first | (with_reducible assumption) | assumption)) HC0.out
                have HR291 := Aside0.mk (Kd.C_of_reads (h1 := fun _ => rfl) (hA10 _ (Kd.reads_of_C HR0.out)))
                have HC291 := Aside0.mk hC10
                clear hA10 hC10 hi010 hsz10
                obtain ⟨tk, htk⟩ : ∃ t, l0.take ((ji7) : Int).toNat = t := ⟨_, rfl⟩
                simp only [htk] at hcut10
                have HRa := HR291.out
                rw [htk] at HRa
                have HCa := HC291.out
                rw [htk] at HCa
                have Ha := H'.out
                rw [htk] at Ha
                clear HR291 HC291 H'
                have HR291 := Aside0.mk HRa
                have HC291 := Aside0.mk HCa
                have H' := Aside0.mk Ha
                clear HRa HCa Ha htk
                go_wp2
                go_loopg [3, 21] k1 (fun kq v3 v21 w' => ∃ (x3_2 : List Int) (x21_2 : Int), v21 = .int .i64 x21_2 ∧ Aside0 (loops.l1 kq l0 x3_2 (rd l0 x11_1) l0 (l0.length : Int) x11_1 tk (tk.length : Int) x21_2 = some r) ∧ Aside0 (kq ≤ k1) ∧ Aside0 (Kd.R (Kd.int .i64) 2 w' w.heap.size (fun _ => True) v3 x3_2) ∧ Aside0 (Below w.heap.size w w'))
                case atStart => exact ⟨(x3_1), (0), (by first | rfl | (simp; done) | (simp [*]; done)), H', ⟨Nat.le_refl _⟩, ⟨by (with_reducible repeat (first | apply Kd.R_alloc | apply Kd.R_drewN | apply Kd.R_drew)); exact HO_3.out⟩, ⟨by repeat (first | (with_reducible first | exact HB.out | apply below_alloc | apply pw_below_drewN | apply below_drew1) | exact HB.out)⟩⟩
                case round =>
                  clear H'
                  try clear c2
                  try clear p2
                  try clear q2
                  try clear hx2
                  try clear c4
                  try clear c4b0
                  try clear c5
                  try clear c5b0
                  try clear c6
                  try clear c6b0
                  try clear p6
                  try clear c8
                  try clear c8b0
                  try clear c8b1
                  try clear c9
                  try clear c9b0
                  try clear c9b1
                  try clear hx290_0
                  try clear p2
                  try clear p290
                  try clear q290
                  obtain ⟨x3_2, x21_2, rfl, HA, HK2, HO_3, HB⟩ := hrel
                  cases gk with
                  | zero => exact absurd HA.out (by simp [loops.l1])
                  | succ k2 =>
                    have H := HA.out
                    clear HA
                    simp only [loops.l1] at H
                    by_cases c11 : x21_2 < (tk.length : Int)
                    · rw [if_pos c11] at H
                      have c11b0 : decide (x21_2 < (tk.length : Int)) = true := decide_eq_true c11
                      clear c11
                      by_cases c12 : 0 ≤ x21_2
                      · rw [if_pos c12] at H
                        have c12b0 : decide (0 ≤ x21_2) = true := decide_eq_true c12
                        clear c12
                        by_cases c13 : x21_2 < (tk.length : Int)
                        · rw [if_pos c13] at H
                          have c13b0 : decide (x21_2 < (tk.length : Int)) = true := decide_eq_true c13
                          clear c13
                          by_cases c14 : x3_2.length < 17592186044416
                          · rw [if_pos c14] at H
                            have LMc14 := Aside0.mk c14
                            clear c14
                            obtain ⟨y293, hy293⟩ : ∃ y_ : List Int, y_ = (x3_2 ++ [wrap64 ((rd l0 x11_1) - (rd tk x21_2))]) := ⟨_, rfl⟩
                            replace H : (loops.l1 k2 l0 y293 (rd l0 x11_1) l0 (l0.length : Int) x11_1 tk (tk.length : Int) (wrap64 (x21_2 + 1))) = some r := by first | (rw [hy293]; with_reducible exact H) | (have H2_ := (Option.bind_some _ _).symm.trans H; rw [hy293]; with_reducible exact H2_) | (have H2_ := (Option.bind_some _ _).symm.trans H; with_reducible exact H2_) | with_reducible exact H | (rw [hy293]; exact H) | exact H
                            have Ny293 := Aside0.mk hy293
                            clear hy293
                            have H' := Aside0.mk H
                            clear H
                            have p292 : 0 ≤ (x21_2 : Int) := of_decide_eq_true (by first | (with_reducible assumption) | assumption)
                            have q292 : x21_2 < (tk.length : Int) := of_decide_eq_true (by first | (with_reducible assumption) | assumption)
                            obtain ⟨ad292, e292, hx292_0⟩ := Kd.at_int HR291.out x21_2 p292 q292
                            obtain rfl : ad290 = ad292 := (by injection e292)
                            replace hx292_0 := (HB.out.cell (World.block_lt_of_cell? w _ hx292_0)).trans hx292_0
                            replace p292 := eq_true p292
                            replace q292 := eq_true q292
                            go_wp2_with (first | ((with_reducible refine gate_builtin (b := .append) (xs := #[.tmp 25, .tmp 29]) rfl ?_); at_builtin; refine Kd.R_append (Kd.int .i64) (w0 := w) w.heap.size rfl (.tmp 25) (.tmp 29) 22 2 (.int .i64 0) 8 rfl Try.underlying22 info2 rfl (by decide) (by omega) u3 x3_2 (wrap64 ((rd l0 x11_1) - (rd tk x21_2))) [.int .i64 (wrap64 ((rd l0 x11_1) - (rd tk x21_2)))] (fun _ => True) (fun _ => False) rfl rfl ?aP (fun _ hk => hk.elim) ?aF ?aO ?aB ?aS ?aL ?_; (case aP => exact rfl); (case aB => exact (by repeat (first | (with_reducible first | exact HB.out | apply below_alloc | apply pw_below_drewN | apply below_drew1) | exact HB.out))); (case aF => exact (fun _ _ => trivial)); (case aO => exact (by (with_reducible repeat (first | apply Kd.R_alloc | apply Kd.R_drewN | apply Kd.R_drew)); exact HO_3.out)); (case aS => exact (below_size (by repeat (first | (with_reducible first | exact HB.out | apply below_alloc | apply pw_below_drewN | apply below_drew1) | exact HB.out)))); (case aL => have := LMc14.out; omega); intro v294 w15 ho hb hg hat; rw [← Ny293.out] at ho; have n0_ := Aside0.mk (hb); have n1_ := Aside0.mk (ho); clear HB; clear HO_3; have HB := n0_; have HO295 := n1_; clear n0_ n1_; clear ho hb hg hat))
                            go_roundg k2
                            case measure => have := HK1.out; have := HK2.out; omega
                            case rel => exact ⟨(y293), (wrap64 (x21_2 + 1)), (by first | rfl | (simp; done) | (simp [*]; done)), H', ⟨by have := HK1.out; have := HK2.out; omega⟩, ⟨by (with_reducible repeat (first | apply Kd.R_alloc | apply Kd.R_drewN | apply Kd.R_drew)); exact HO295.out⟩, ⟨by repeat (first | (with_reducible first | exact HB.out | apply below_alloc | apply pw_below_drewN | apply below_drew1) | exact HB.out)⟩⟩
                          · rw [if_neg c14] at H
                            exact absurd H (by simp)
                        · rw [if_neg c13] at H
                          exact absurd H (by simp)
                      · rw [if_neg c12] at H
                        exact absurd H (by simp)
                    · rw [if_neg c11] at H
                      have c11b0 : decide (x21_2 < (tk.length : Int)) = false := decide_eq_false c11
                      clear c11
                      have H' := Aside0.mk H
                      clear H
                      go_wp2
                      go_roundg k2
                      case measure => have := HK1.out; have := HK2.out; omega
                      case rel => exact ⟨(x3_2), (wrap64 (x11_1 + 1)), (by first | rfl | (simp; done) | (simp [*]; done)), H', ⟨by have := HK1.out; have := HK2.out; omega⟩, ⟨by (with_reducible repeat (first | apply Kd.R_alloc | apply Kd.R_drewN | apply Kd.R_drew)); exact HO_3.out⟩, ⟨by repeat (first | (with_reducible first | exact HB.out | apply below_alloc | apply pw_below_drewN | apply below_drew1) | exact HB.out)⟩⟩
              · rw [if_neg c9] at H
                exact absurd H (by simp)
            · rw [if_neg c8] at H
              exact absurd H (by simp)
          · rw [if_neg c6] at H
            exact absurd H (by simp)
        · rw [if_neg c5] at H
          exact absurd H (by simp)
      · rw [if_neg c4] at H
        have c4b0 : decide (x11_1 < (l0.length : Int)) = false := decide_eq_false c4
        clear c4
        obtain rfl := Option.some.inj H
        have HO0 := HO_3
        obtain ⟨Ao21, co21, eo21⟩ := Kd.R_slice HO_3.out
        subst eo21
        have HX := Aside0.mk hne
        have HY := Aside0.mk hbig
        clear hne hbig
        go_wp2_with (first | (go_at_call 39; refine (sort_own w _ _ _ _ HX.out HY.out ?so ?sb).mono ?_; (case so => (with_reducible repeat (first | apply Kd.R_alloc | apply Kd.R_drewN | apply Kd.R_drew)); exact HO_3.out); (case sb => repeat (first | (with_reducible first | exact HB.out | apply below_alloc | apply pw_below_drewN | apply below_drew1) | exact HB.out)); rintro e w5 ⟨rfl, ho, hb⟩; have n0_ := Aside0.mk ho; have n1_ := Aside0.mk hb; clear HB HO_3 HO0; have HO_3 := n0_; have HB := n1_; clear n0_ n1_ ho hb) | (go_at_call 40; refine (compact_own w _ _ _ (x3_1.mergeSort fun x y => decide (x ≤ y)) (by rw [List.length_mergeSort]; exact HX.out) (by rw [List.length_mergeSort]; exact HY.out) ?so ?sb (List.length_mergeSort _).symm).mono ?_; (case so => (with_reducible repeat (first | apply Kd.R_alloc | apply Kd.R_drewN | apply Kd.R_drew)); exact HO_3.out); (case sb => repeat (first | (with_reducible first | exact HB.out | apply below_alloc | apply pw_below_drewN | apply below_drew1) | exact HB.out)); rintro e w5 ⟨v6, rfl, ho, hb⟩; rw [Df.compact_sorted] at ho; have n0_ := Aside0.mk ho; have n1_ := Aside0.mk hb; clear HB HO_3; have HO_3 := n0_; have HB := n1_; clear n0_ n1_ ho hb))
        go_ret
        exact ⟨_, rfl, by (with_reducible repeat (first | apply Kd.R_alloc | apply Kd.R_drewN | apply Kd.R_drew)); exact HO_3.out, by repeat (first | (with_reducible first | exact HB.out | apply below_alloc | apply pw_below_drewN | apply below_drew1) | exact HB.out)⟩

end Go.Proofs.Ytbdklehdphinoaa.Df
