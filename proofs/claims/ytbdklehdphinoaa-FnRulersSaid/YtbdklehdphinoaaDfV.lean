/-
What the loops of the program's list of differences give; its contract. Condition: from 1 to 16 marks from 0 to 4096.
-/
import Derived.Test.YtbdklehdphinoaaDfW
namespace Go.Proofs.Ytbdklehdphinoaa.Df
open Go.RowKit Go.Proofs.YtbdklehdphinoaaW.PrintWords Go.Proofs.YtbdklehdphinoaaW.PrintLast Go.Proofs.YtbdklehdphinoaaW.PrintMore

theorem wrap_id (x : Int) (h0 : -9223372036854775808 ≤ x) (h1 : x ≤ 9223372036854775807) : wrap64 x = x := by
  unfold wrap64
  omega
def fitB (l : List Int) : Bool := decide (0 < l.length) && decide (l.length ≤ 16) && l.all fun x => decide (0 ≤ x) && decide (x ≤ 4096)
theorem fit_len {l : List Int} (h : fitB l = true) : 0 < l.length ∧ l.length ≤ 16 := by
  unfold fitB at h
  simp only [Bool.and_eq_true, decide_eq_true_eq] at h
  exact h.1
theorem fit_at {l : List Int} (h : fitB l = true) (i : Nat) (hi : i < l.length) : 0 ≤ l.getD i 0 ∧ l.getD i 0 ≤ 4096 := by
  unfold fitB at h
  simp only [Bool.and_eq_true, List.all_eq_true, decide_eq_true_eq] at h
  have := h.2 (l.getD i 0) (by rw [List.getD_eq_getElem?_getD, List.getElem?_eq_getElem hi]; exact List.getElem_mem hi)
  exact this
theorem rd_nat (l : List Int) (i : Nat) : rd l (i : Int) = l.getD i 0 := by unfold rd; rw [Int.toNat_natCast]
theorem rd_take (l : List Int) (i j : Nat) (h : j < i) : rd (l.take i) (j : Int) = l.getD j 0 := by
  rw [rd_nat, List.getD_eq_getElem?_getD, List.getD_eq_getElem?_getD, List.getElem?_take_of_lt h]
theorem inner (l : List Int) (h : fitB l = true) (i : Nat) (hi : i < l.length) (r : List Int)
    (hout : Ev (fun k => loops.l0 k l (upto l (i + 1)) l (l.length : Int) ((i + 1 : Nat) : Int)) r) : ∀ (d j : Nat), j + d = i + 1 →
    Ev (fun k => loops.l1 k l (upto l i ++ row l i j 0) (rd l (i : Int)) l (l.length : Int) (i : Int) (l.take (i + 1)) ((i + 1 : Nat) : Int) (j : Int)) r
  | 0, j, hj => by
    obtain rfl : j = i + 1 := by omega
    have hl := fit_len h
    refine Ev.step (fun k => ?_) hout
    simp only [loops.l1]
    rw [if_neg (by omega), wrap_id _ (by omega) (by omega)]
    rfl
  | d + 1, j, hj => by
    have hl := fit_len h
    have htk : (l.take (i + 1)).length = i + 1 := by rw [List.length_take]; omega
    have ih := inner l h i hi r hout d (j + 1) (by omega)
    have e1 := fit_at h i hi
    have e2 := fit_at h j (by omega)
    have hlen : (upto l i ++ row l i j 0).length ≤ 1000 := by
      rw [List.length_append, row_len]
      have := upto_len l i (by omega)
      omega
    refine Ev.step (fun k => ?_) ih
    simp only [loops.l1]
    rw [if_pos (by omega), if_pos (by omega), if_pos (by rw [htk]; omega), if_pos (by omega), rd_take l (i + 1) j (by omega), rd_nat, wrap_id _ (by omega) (by omega), wrap_id _ (by omega) (by omega), row_succ, Nat.zero_add, List.append_assoc]
    rfl
theorem outer (l : List Int) (h : fitB l = true) : ∀ (d i : Nat), i + d = l.length → Ev (fun k => loops.l0 k l (upto l i) l (l.length : Int) (i : Int)) (alls l)
  | 0, i, hi => by
    obtain rfl : i = l.length := by omega
    refine ⟨1, fun k hk => ?_⟩
    obtain ⟨m, rfl⟩ : ∃ m, k = m + 1 := ⟨k - 1, by omega⟩
    simp only [loops.l0]
    rw [if_neg (by omega), alls_eq]
  | d + 1, i, hi => by
    have hl := fit_len h
    have ih := outer l h d (i + 1) (by omega)
    have hin := inner l h i (by omega) _ ih (i + 1) 0 (by omega)
    have e0 : row l i 0 0 = [] := rfl
    rw [e0, List.append_nil] at hin
    have htk : (l.take (i + 1)).length = i + 1 := by rw [List.length_take]; omega
    refine Ev.step (fun k => ?_) hin
    simp only [loops.l0]
    have e1 : wrap64 ((i : Int) + 1) = ((i + 1 : Nat) : Int) := by rw [wrap_id _ (by omega) (by omega)]; omega
    rw [if_pos (by omega), if_pos (by omega), if_pos (by omega), e1, if_pos (by omega), if_pos (by omega), Int.toNat_natCast, htk]
    rfl
theorem alls_bd (l : List Int) (h : fitB l = true) : 0 < (alls l).length ∧ (alls l).length ≤ 1000000 := by
  have hl := fit_len h
  rw [alls_eq]
  have h1 := upto_len l l.length hl.2
  refine ⟨?_, by omega⟩
  obtain ⟨m, hm⟩ : ∃ m, l.length = m + 1 := ⟨l.length - 1, by omega⟩
  rw [hm]
  unfold upto
  rw [List.length_append, row_len]
  omega
theorem calls (A0 : Option Addr) (c0 : Nat) (l0 : List Int) (w : World) (hr0 : Kd.C (Kd.int .i64) w A0 l0.length l0) (hc0 : l0.length ≤ c0) (h : fitB l0 = true) :
    Calls Try.prog 28 #[.slice A0 l0.length c0] w fun e w' => ∃ v0_ : Value, e = .returned (v0_) ∧ Kd.R (Kd.int .i64) 2 w' w.heap.size (fun _ => True) v0_ (diffs l0) ∧ Below w.heap.size w w' := by
  obtain ⟨k, hk⟩ := Ev.rounds (outer l0 h l0.length 0 (by omega))
  obtain ⟨h1, h2⟩ := alls_bd l0 h
  exact loops.calls_all k A0 c0 l0 (alls l0) w hr0 hc0 hk h1 h2
end Go.Proofs.Ytbdklehdphinoaa.Df
