/- The document's check answers as the program's does: plain law. Condition: the pattern's shape is one's (shapedL) where it is asked. -/
import Derived.Test.YtpemfmjplejdiaaDoorRefTok
namespace Go.Proofs.YtpemfmjplejdiaaDoor
open Go.RowKit

def Rel (X S : Nat → Bool) : Prop := X 0 = S 1 ∧ X 1 = S 4 ∧ X 2 = S 2 ∧ X 3 = S 5 ∧ X 7 = S 9 ∧ X 8 = S 10 ∧ X 9 = S 11 ∧ X 10 = S 12 ∧ X 11 = S 13
theorem safe_rel {X S : Nat → Bool} (h : Rel X S) (f : Int) (hf : f = 0 ∨ f = 1) : safeR X f = safeL S f := by
  obtain ⟨h0, h1, h2, h3, h7, h8, h9, h10, h11⟩ := h
  rcases hf with rfl | rfl
  · show ((!X 11 || X 0) && ((!X 9 || X 7) && (!X 10 || X 8))) = ((!S 11 || S 9) && (!S 12 || S 10) && (!S 13 || S 1))
    rw [h0, h7, h8, h9, h10, h11]
    generalize S 1 = a, S 9 = b, S 10 = c, S 11 = d, S 12 = e, S 13 = g
    cases a <;> cases b <;> cases c <;> cases d <;> cases e <;> cases g <;> rfl
  · show ((!X 11 || X 1) && ((!X 8 || X 7) && (!X 10 || X 9))) = ((!S 10 || S 9) && (!S 12 || S 11) && (!S 13 || S 4))
    rw [h1, h7, h8, h9, h10, h11]
    generalize S 4 = a, S 9 = b, S 10 = c, S 11 = d, S 12 = e, S 13 = g
    cases a <;> cases b <;> cases c <;> cases d <;> cases e <;> cases g <;> rfl
theorem off_last (S : Nat → Bool) (f t : Int) : offL S f t true = if offL S f t false = 0 then (if safeL (tookL S f t) f then 0 else 12) else offL S f t false := by
  unfold offL
  generalize ((keyT t && S (3 * f + t).toNat) || (isSec t && S (6 + t).toNat)) = a
  generalize (isSec t && (!S (wantI t).toNat || !S (3 + wantR t).toNat)) = b
  generalize (t == 2 && !safeL S f) = c
  generalize safeL (tookL S f t) f = d
  cases a <;> cases b <;> cases c <;> cases d <;> rfl
theorem tok_rel {X S : Nat → Bool} (h : Rel X S) (f t : Int) (hf : f = 0 ∨ f = 1) (h1 : 1 ≤ t) (h7 : t ≤ 7) : (tokR X f t).2 = offL S f t false ∧ (offL S f t false = 0 → Rel (tokR X f t).1 (tookL S f t)) := by
  have hs := safe_rel h f hf
  obtain ⟨g0, g1, g2, g3, g7, g8, g9, g10, g11⟩ := h
  rcases hf with rfl | rfl <;> rcases (show t = 1 ∨ t = 2 ∨ t = 3 ∨ t = 4 ∨ t = 5 ∨ t = 6 ∨ t = 7 by omega) with rfl | rfl | rfl | rfl | rfl | rfl | rfl
  all_goals
    refine ⟨?_, fun ho => ?_⟩
    · simp only [tokR, offL, hasR, keyT, isSec, wantI, wantR, hs]
      simp [g0, g1, g2, g3, g7, g8, g9, g10, g11]
      try ((repeat' split) <;> simp_all)
    · simp only [tokR, offL, hasR, keyT, isSec, wantI, wantR, hs, tookL] at ho ⊢
      simp [g0, g1, g2, g3, g7, g8, g9, g10, g11] at ho ⊢
      try ((repeat' split at ho) <;> simp_all [Rel, upd])

def toksR (X : Nat → Bool) (f : Int) : List Int → Nat × (Nat → Bool)
  | [] => (0, X)
  | t :: r => if (tokR X f t).2 = 0 then toksR (tokR X f t).1 f r else ((tokR X f t).2, X)
def lsR (X : Nat → Bool) : List Ln → Nat × (Nat → Bool)
  | [] => (0, X)
  | l :: r => if (toksR X l.1 l.2).1 = 0 then (if safeR (toksR X l.1 l.2).2 l.1 then lsR (toksR X l.1 l.2).2 r else (12, X)) else ((toksR X l.1 l.2).1, X)
def begR (d : Nat) (X : Nat → Bool) (l : List Int) : Nat → Bool := l.foldl (fun X t => if t = 1 then upd X d true else upd X (2 + d) true) X
def begunR (b0 b1 : List Int) : Nat → Bool := begR 1 (begR 0 S0 b0) b1
/-- The document's number of the error. -/
def checkR (b0 b1 : List Int) (ls : List Ln) : Nat :=
  if shapedL b0 b1 ls then (if (lsR (begunR b0 b1) ls).1 = 0 then (if !safeR (lsR (begunR b0 b1) ls).2 0 || (!oneWay ls && !safeR (lsR (begunR b0 b1) ls).2 1) then 12 else 0) else (lsR (begunR b0 b1) ls).1) else 9

theorem toks_rel (f : Int) (hf : f = 0 ∨ f = 1) : ∀ (ts : List Int) (X S : Nat → Bool), ts ≠ [] → (∀ t ∈ ts, 1 ≤ t ∧ t ≤ 7) → Rel X S →
    (runToks S f ts).1 = (if (toksR X f ts).1 = 0 then (if safeR (toksR X f ts).2 f then 0 else 12) else (toksR X f ts).1) ∧ ((runToks S f ts).1 = 0 → Rel (toksR X f ts).2 (runToks S f ts).2)
  | [], _, _, h, _, _ => absurd rfl h
  | [t], X, S, _, ht, h => by
    obtain ⟨h1, h2⟩ := tok_rel h f t hf (ht t (by simp)).1 (ht t (by simp)).2
    unfold runToks toksR
    simp only [List.isEmpty_nil, runToks, toksR, h1]
    simp only [off_last]
    by_cases h0 : offL S f t false = 0
    · have hr := h2 h0
      have hs := safe_rel hr f hf
      simp only [h0, if_true, hs]
      cases hq : safeL (tookL S f t) f with
      | true => simp; exact hr
      | false => simp
    · simp [h0]
  | t :: u :: r, X, S, _, ht, h => by
    obtain ⟨h1, h2⟩ := tok_rel h f t hf (ht t (by simp)).1 (ht t (by simp)).2
    rw [runToks, toksR]
    simp only [List.isEmpty_cons, h1]
    by_cases h0 : offL S f t false = 0
    · have := toks_rel f hf (u :: r) _ _ (by simp) (fun x hx => ht x (by simp only [List.mem_cons] at hx ⊢; exact .inr hx)) (h2 h0)
      simp only [h0, if_true]
      exact this
    · simp [h0]
theorem ls_rel : ∀ (ls : List Ln) (X S : Nat → Bool), (∀ l ∈ ls, (l.1 = 0 ∨ l.1 = 1) ∧ l.2 ≠ [] ∧ ∀ t ∈ l.2, 1 ≤ t ∧ t ≤ 7) → Rel X S →
    (runLs S ls).1 = (lsR X ls).1 ∧ ((runLs S ls).1 = 0 → Rel (lsR X ls).2 (runLs S ls).2)
  | [], X, S, _, h => ⟨rfl, fun _ => h⟩
  | l :: r, X, S, hl, h => by
    obtain ⟨g1, g2, g3⟩ := hl l (by simp)
    obtain ⟨h1, h2⟩ := toks_rel l.1 g1 l.2 X S g2 g3 h
    rw [runLs, lsR]
    by_cases h0 : (toksR X l.1 l.2).1 = 0
    · rw [if_pos h0] at h1
      rw [if_pos h0]
      cases hs : safeR (toksR X l.1 l.2).2 l.1 with
      | true =>
        rw [hs, if_pos rfl] at h1
        rw [if_pos h1, if_pos rfl]
        exact ls_rel r _ _ (fun x hx => hl x (by simp [hx])) (h2 h1)
      | false =>
        rw [hs, if_neg (by simp)] at h1
        rw [if_neg (by omega), if_neg (by simp)]
        exact ⟨h1, fun h => by omega⟩
    · rw [if_neg h0] at h1
      rw [if_neg h0, if_neg (by omega)]
      exact ⟨h1, fun h => by omega⟩
theorem beg_rel0 : ∀ (l : List Int) (X S : Nat → Bool), (∀ t ∈ l, t = 1 ∨ t = 2) → Rel X S → Rel (begR 0 X l) (l.foldl (fun S t => upd S t.toNat true) S)
  | [], _, _, _, h => h
  | t :: r, X, S, ht, h => by
    unfold begR
    rw [List.foldl_cons, List.foldl_cons]
    refine beg_rel0 r _ _ (fun x hx => ht x (by simp [hx])) ?_
    obtain ⟨g0, g1, g2, g3, g7, g8, g9, g10, g11⟩ := h
    rcases ht t (by simp) with rfl | rfl <;> simp [Rel, upd, g0, g1, g2, g3, g7, g8, g9, g10, g11]
theorem beg_rel1 : ∀ (l : List Int) (X S : Nat → Bool), (∀ t ∈ l, t = 1 ∨ t = 2) → Rel X S → Rel (begR 1 X l) (l.foldl (fun S t => upd S (3 + t).toNat true) S)
  | [], _, _, _, h => h
  | t :: r, X, S, ht, h => by
    unfold begR
    rw [List.foldl_cons, List.foldl_cons]
    refine beg_rel1 r _ _ (fun x hx => ht x (by simp [hx])) ?_
    obtain ⟨g0, g1, g2, g3, g7, g8, g9, g10, g11⟩ := h
    rcases ht t (by simp) with rfl | rfl <;> simp [Rel, upd, g0, g1, g2, g3, g7, g8, g9, g10, g11]
theorem checkR_eq (b0 b1 : List Int) (ls : List Ln) : checkR b0 b1 ls = checkL b0 b1 ls := by
  unfold checkR checkL
  cases hs : shapedL b0 b1 ls with
  | false => rfl
  | true =>
    obtain ⟨h0, h1, _, hl⟩ := shapedL_mem hs
    have g0 : ∀ t ∈ b0, t = 1 ∨ t = 2 := fun t ht => by obtain ⟨j, hj, rfl⟩ := List.getElem_of_mem ht; exact okB_mem h0 j hj
    have g1 : ∀ t ∈ b1, t = 1 ∨ t = 2 := fun t ht => by obtain ⟨j, hj, rfl⟩ := List.getElem_of_mem ht; exact okB_mem h1 j hj
    have gl : ∀ l ∈ ls, (l.1 = 0 ∨ l.1 = 1) ∧ l.2 ≠ [] ∧ ∀ t ∈ l.2, 1 ≤ t ∧ t ≤ 7 := fun l hm => by
      obtain ⟨j, hj, rfl⟩ := List.getElem_of_mem hm
      obtain ⟨q1, q2, q3⟩ := hl j hj
      exact ⟨q1, fun h => by rw [h] at q2; simp at q2, fun t ht => by obtain ⟨i, hi, rfl⟩ := List.getElem_of_mem ht; exact q3 i hi⟩
    have hb : Rel (begunR b0 b1) (begunL b0 b1) := beg_rel1 b1 _ _ g1 (beg_rel0 b0 _ _ g0 ⟨rfl, rfl, rfl, rfl, rfl, rfl, rfl, rfl, rfl⟩)
    obtain ⟨q1, q2⟩ := ls_rel ls _ _ gl hb
    rw [if_pos rfl, if_pos rfl, ← q1]
    by_cases hz : (runLs (begunL b0 b1) ls).1 = 0
    · have hr := q2 hz
      rw [if_pos hz, if_pos hz, safe_rel hr 0 (.inl rfl), safe_rel hr 1 (.inr rfl)]
      rfl
    · rw [if_neg hz, if_neg hz]
end Go.Proofs.YtpemfmjplejdiaaDoor
