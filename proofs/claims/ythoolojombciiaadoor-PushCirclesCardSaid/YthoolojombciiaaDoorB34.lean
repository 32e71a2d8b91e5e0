/- Lemmas on the way to the statement of this claim; no conditions. -/
import Derived.Test.YthoolojombciiaaDoorB33
namespace Go.V
open Go Go.RowKit
section
variable {P : Program} {o : Oper} {e : Env} {s : Sg} {ops : Array Oper} {Q : Exit → Env → Sg → Prop}
theorem vw_cut {id : Nat} (k : Nat) (hk : ops.size = k) (h : VL P ops Q (List.range' 0 k) e s) : VW P (.region id ops false) Q e s := by
  refine vw_region ?_
  rw [hk, List.range_eq_range']; exact h
theorem vl_env {l : List Nat} (h : ∀ e1, e1 = e → VL P ops Q l e1 s) : VL P ops Q l e s := h e rfl
theorem vl_chunk (md i n m : Nat) (gs : List (Nat × Nat)) (sc : List CallS) (hg : (gs.all fun p => decide (gtmp ops p.1 = some p.2)) = true) (hm : i + n ≤ ops.size)
    (h : ∀ (ops' : Array Oper) (K : Env → Sg → Prop), (∀ p ∈ gs, gtmp ops' p.1 = some p.2) → (∀ e s, VL P ops Q (List.range' (i + n) m) e s → K e s) → wocs md P ops' ((ops.toList.drop i).take n) sc K e s) :
    VL P ops Q (List.range' i (n + m)) e s := by
  have h1 := h ops (fun e s => VL P ops Q (List.range' (i + n) m) e s) (fun p hp => by simpa using List.all_eq_true.1 hg p hp) (fun _ _ h => h)
  have hl : ((ops.toList.drop i).take n).length = n := by rw [List.length_take, List.length_drop]; simp; omega
  have h2 := vl_of_wocs_then (List.range' (i + n) m) ((ops.toList.drop i).take n) sc i (fun j o hj => by
    rw [List.getElem?_take] at hj
    split at hj
    · rw [List.getElem?_drop] at hj; simpa using hj
    · cases hj) h1
  rw [hl] at h2
  have e1 : List.range' i (n + m) = List.range' i n ++ List.range' (i + n) m := by
    rw [List.range'_append_1]
  rw [e1]; exact h2
theorem phase_env {b : Nat} (h : ∀ e1, e1 = e → Phase P ops Q b e1 s) : Phase P ops Q b e s := h e rfl
end
end Go.V
