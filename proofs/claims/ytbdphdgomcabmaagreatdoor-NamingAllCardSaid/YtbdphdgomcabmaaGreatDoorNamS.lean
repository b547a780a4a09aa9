/- The table's names in order are the document's. Plain, closed. -/
import Derived.Test.YtbdphdgomcabmaaGreatDoorNa5
import Derived.Test.YtbdphdgomcabmaaGreatDoorNa7
namespace Go.Proofs.YtbdphdgomcabmaaGreatDoor
open Go.RowKit

def sortedB : List Q.Bt → Bool
  | x :: y :: r => decide (x ≤ y) && sortedB (y :: r)
  | _ => true
theorem ref_sorted : sortedB (refL.map (·.1)) = true := by kernel_rfl
theorem ref_perm : (refL.map (·.1)).isPerm (Q.tableL.map (·.1)) = true := by kernel_rfl
theorem sortedB_pair : ∀ {l : List Q.Bt}, sortedB l = true → l.Pairwise (fun x y => decide (x ≤ y) = true)
  | [], _ => List.Pairwise.nil
  | [_], _ => by simp
  | x :: y :: r, h => by
    simp only [sortedB, Bool.and_eq_true] at h
    have ih := sortedB_pair h.2
    refine List.pairwise_cons.2 ⟨fun z hz => ?_, ih⟩
    rcases List.mem_cons.1 hz with rfl | hz
    · exact h.1
    · have h1 := (List.pairwise_cons.1 ih).1 z hz
      simp only [decide_eq_true_eq] at h h1 ⊢
      exact List.le_trans h.1 h1
theorem namesS_ref : namesS = refL.map (·.1) := by
  unfold namesS
  rw [← mergeSort_of_perm (List.isPerm_iff.1 ref_perm), List.mergeSort_of_pairwise (sortedB_pair ref_sorted)]
/-- The name at a place of the order is the document's. -/
theorem namesS_at {k : Nat} (h : k < namesS.length) {r : ByteArray} (hr : rowsL[k]? = some r) : namesS[k] = (partL r 0).data.toList := by
  have h1 : (refL.map (·.1))[k]? = some namesS[k] := by rw [← namesS_ref]; exact List.getElem?_eq_getElem h
  unfold refL at h1
  simp only [List.map_map, List.getElem?_map, hr, Option.map_some, Option.some.injEq] at h1
  exact h1.symm
end Go.Proofs.YtbdphdgomcabmaaGreatDoor
