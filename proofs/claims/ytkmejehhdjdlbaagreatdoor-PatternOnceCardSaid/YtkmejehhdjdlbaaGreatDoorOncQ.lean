/- What count answers of a valid pattern. Plain. Condition: it is valid (checkL is 0). -/
import Derived.Test.YtkmejehhdjdlbaaGreatDoorCount
import Derived.Test.YtkmejehhdjdlbaaGreatDoorGc4
import Derived.Test.YtkmejehhdjdlbaaGreatDoorGc7
namespace Go.Proofs.YtkmejehhdjdlbaaGreatDoor
open Go.RowKit

theorem cLs_side {f : Int} (hf : ¬ f < 0) (t : Int) : ∀ ls : List Ln, cLs f t ls = (Q.flat ls).count (f, t)
  | [] => rfl
  | l :: r => by
    have h := cLs_side hf t r
    have e : Q.flat (l :: r) = l.2.map (fun t => (l.1, t)) ++ Q.flat r := by simp [Q.flat]
    rw [e, List.count_append, ← h]
    have e2 : (l.2.map (fun t => (l.1, t))).count (f, t) = cB f l.1 l.2 t := by
      unfold cB
      rw [List.count_eq_countP, List.countP_map]
      by_cases hq : f = l.1
      · rw [if_pos (.inr hq), List.count_eq_countP]
        refine List.countP_congr fun x _ => ?_
        simp [hq]
      · rw [if_neg (by rintro (h | h) <;> contradiction), List.countP_eq_zero]
        intro x _
        simp [Ne.symm hq]
    rw [e2]
    rfl
theorem cLs_any {f : Int} (hf : f < 0) (t : Int) : ∀ ls : List Ln, cLs f t ls = Q.cntT (Q.flat ls) t
  | [] => rfl
  | l :: r => by
    have h := cLs_any hf t r
    have e : Q.flat (l :: r) = l.2.map (fun t => (l.1, t)) ++ Q.flat r := by simp [Q.flat]
    unfold Q.cntT at h ⊢
    rw [e, List.countP_append, ← h, List.countP_map]
    have e2 : l.2.countP ((fun x : Int × Int => x.2 == t) ∘ fun t => (l.1, t)) = cB f l.1 l.2 t := by
      unfold cB
      rw [if_pos (.inl hf), List.count_eq_countP]
      rfl
    rw [e2]
    rfl
theorem okB_count {b : List Int} (h : okB b = true) {t : Int} (ht : t = 3 ∨ t = 4 ∨ t = 5 ∨ t = 6) : b.count t = 0 := by
  rcases Q.okB_cases h with rfl | rfl | rfl | rfl <;> rcases ht with rfl | rfl | rfl | rfl <;> decide
/-- What count answers of a valid pattern. -/
structure OncN (N : Int → Int → Nat) (one : Bool) : Prop where
  k01 : N 0 1 ≤ 1
  k02 : N 0 2 ≤ 1
  k11 : N 1 1 ≤ 1
  k12 : N 1 2 ≤ 1
  s3 : N (-1) 3 ≤ 1
  s4 : N (-1) 4 ≤ 1
  s5 : N (-1) 5 ≤ 1
  s6 : N (-1) 6 ≤ 1
  w3 : N (-1) 3 = 1 → N 0 1 = 1 ∧ N 1 1 = 1
  w4 : N (-1) 4 = 1 → N 0 1 = 1 ∧ N 1 2 = 1
  w5 : N (-1) 5 = 1 → N 0 2 = 1 ∧ N 1 1 = 1
  w6 : N (-1) 6 = 1 → N 0 2 = 1 ∧ N 1 2 = 1
  se : N (-1) 5 = 1 → N (-1) 3 = 1
  es : one = false → N (-1) 4 = 1 → N (-1) 3 = 1
  ss : N (-1) 6 = 1 → N (-1) 4 = 1 ∧ (one = false → N (-1) 5 = 1)
theorem onc_n {b0 b1 : List Int} {ls : List Ln} (h : checkL b0 b1 ls = 0) : OncN (cntF b0 b1 ls) (oneWay ls) := by
  have ho := Q.once_of h
  have hc := code0 h
  have e0 : ∀ t, cntF b0 b1 ls 0 t = Q.cntS b0 0 (Q.flat ls) t := fun t => by
    unfold cntF Q.cntS
    rw [cLs_side (by decide)]
    simp [cB]
  have e1 : ∀ t, cntF b0 b1 ls 1 t = Q.cntS b1 1 (Q.flat ls) t := fun t => by
    unfold cntF Q.cntS
    rw [cLs_side (by decide)]
    simp [cB]
  have em : ∀ t, (t = 3 ∨ t = 4 ∨ t = 5 ∨ t = 6) → cntF b0 b1 ls (-1) t = Q.cntT (Q.flat ls) t := fun t ht => by
    unfold cntF
    rw [cLs_any (by decide)]
    simp [cB, okB_count hc.1 ht, okB_count hc.2.1 ht]
  have h3 := em 3 (by simp)
  have h4 := em 4 (by simp)
  have h5 := em 5 (by simp)
  have h6 := em 6 (by simp)
  refine ⟨?_, ?_, ?_, ?_, ?_, ?_, ?_, ?_, ?_, ?_, ?_, ?_, ?_, ?_, ?_⟩
  · rw [e0]; exact ho.key0 1 (by simp)
  · rw [e0]; exact ho.key0 2 (by simp)
  · rw [e1]; exact ho.key1 1 (by simp)
  · rw [e1]; exact ho.key1 2 (by simp)
  · rw [h3]; exact (ho.sec 3 (by simp)).1
  · rw [h4]; exact (ho.sec 4 (by simp)).1
  · rw [h5]; exact (ho.sec 5 (by simp)).1
  · rw [h6]; exact (ho.sec 6 (by simp)).1
  · rw [h3, e0, e1]; exact (ho.sec 3 (by simp)).2
  · rw [h4, e0, e1]; exact (ho.sec 4 (by simp)).2
  · rw [h5, e0, e1]; exact (ho.sec 5 (by simp)).2
  · rw [h6, e0, e1]; exact (ho.sec 6 (by simp)).2
  · rw [h5, h3]; exact ho.se
  · rw [h4, h3]; exact ho.es
  · rw [h6, h4, h5]; exact ho.ss
end Go.Proofs.YtkmejehhdjdlbaaGreatDoor
