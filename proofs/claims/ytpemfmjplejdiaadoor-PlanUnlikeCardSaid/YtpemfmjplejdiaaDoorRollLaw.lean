/- A list of moves rolled up, as a plain function; the moves of a pattern roll up to it. Condition: the pattern's shape is one's (shapedL). -/
import Derived.Test.YtpemfmjplejdiaaDoorMirLaw
namespace Go.Proofs.YtpemfmjplejdiaaDoor
open Go.RowKit

/-- The token that a move stands for. -/
def backL (ini : Bool) (m : Mv) : Option Int :=
  if m = ⟨7, 1, 0⟩ ∨ m = ⟨8, 3, 0⟩ then some 1 else if m = ⟨9, 2, 0⟩ ∨ m = ⟨10, 4, 0⟩ then some 2 else if m = ⟨12, 0, 0⟩ then some 7
  else if m = ⟨11, 1, 3⟩ then some 3 else if m = ⟨11, 2, 4⟩ then some 6
  else if m = ⟨11, 1, 4⟩ then some (if ini then 4 else 5) else if m = ⟨11, 2, 3⟩ then some (if ini then 5 else 4) else none
/-- A token more in the last message. -/
def addT (ls : List Ln) (t : Int) : List Ln := ls.dropLast ++ (ls.getLast?.map fun l => (l.1, l.2 ++ [t])).toList
/-- What is known ahead of a side: one more. -/
def addB (s : List Int × List Int) (first : Bool) (t : Int) : List Int × List Int := if first then (s.1 ++ [t], s.2) else (s.1, s.2 ++ [t])
/-- One move. -/
def rollS (ini : Bool) (s : (List Int × List Int) × List Ln) (m : Mv) : (List Int × List Int) × List Ln :=
  if m.op = 5 then (s.1, s.2 ++ [(sideOf ini, [])])
  else if m.op = 6 then (s.1, s.2 ++ [(1 - sideOf ini, [])])
  else if s.2.isEmpty then
    (if m.op = 3 ∧ 3 ≤ m.key ∧ m.key ≤ 4 then (addB s.1 (!ini) (m.key - 2), s.2) else if m.op = 3 ∧ 1 ≤ m.key then (addB s.1 ini m.key, s.2) else s)
  else match backL ini m with
    | some t => (s.1, addT s.2 t)
    | none => s
def rollL (ini : Bool) (l : List Mv) : (List Int × List Int) × List Ln := l.foldl (rollS ini) (([], []), [])

theorem rollS_pub (ini : Bool) (p : List Int × List Int) (m : Mv) (h : m.op = 1 ∨ m.op = 2 ∨ m.op = 4) : rollS ini (p, []) m = (p, []) := by
  unfold rollS
  rw [if_neg (by omega), if_neg (by omega), if_pos (show ((p, ([] : List Ln)).2.isEmpty = true) from rfl), if_neg (by omega), if_neg (by omega)]
theorem roll_pub (ini : Bool) (p : List Int × List Int) : ∀ l : List Mv, (∀ m ∈ l, m.op = 1) → l.foldl (rollS ini) (p, []) = (p, [])
  | [], _ => rfl
  | m :: r, h => by rw [List.foldl_cons, rollS_pub ini p m (.inl (h m (by simp)))]; exact roll_pub ini p r (fun x hx => h x (by simp [hx]))
/-- What is known ahead: the initiator's, the responder's. -/
theorem roll_bef (ini o psk first : Bool) (hf : first = (ini != o)) : ∀ (l : List Int) (p : List Int × List Int), (∀ t ∈ l, t = 1 ∨ t = 2) → (l.flatMap (befM o psk)).foldl (rollS ini) (p, []) = ((if first then (p.1 ++ l, p.2) else (p.1, p.2 ++ l)), [])
  | [], p, _ => by cases first <;> simp
  | t :: r, p, h => by
    have h3 : rollS ini (p, []) ⟨3, if o then t + 2 else t, 0⟩ = (addB p first t, []) := by
      subst hf
      rcases h t (by simp) with rfl | rfl <;> cases ini <;> cases o <;> simp [rollS, addB]
    have h1 : (befM o psk t).foldl (rollS ini) (p, []) = (addB p first t, []) := by
      unfold befM
      rw [List.foldl_cons, h3]
      split
      · rw [List.foldl_cons, rollS_pub ini _ _ (.inr (.inr rfl))]; rfl
      · rfl
    rw [List.flatMap_cons, List.foldl_append, h1, roll_bef ini o psk first hf r _ (fun x hx => h x (by simp [hx]))]
    cases first <;> simp [addB]
theorem addT_concat (ls : List Ln) (f t : Int) (ts : List Int) : addT (ls ++ [(f, ts)]) t = ls ++ [(f, ts ++ [t])] := by
  unfold addT
  simp
theorem rollS_tok (ini : Bool) (p : List Int × List Int) (ls : List Ln) (f : Int) (ts : List Int) (m : Mv) (h : m.op ≠ 5 ∧ m.op ≠ 6) : rollS ini (p, ls ++ [(f, ts)]) m = (p, ls ++ [(f, ts ++ (backL ini m).toList)]) := by
  unfold rollS
  rw [if_neg h.1, if_neg h.2, if_neg (by simp)]
  cases hb : backL ini m with
  | none => simp
  | some t => simp only [addT_concat, Option.toList]
theorem roll_toks (ini : Bool) (p : List Int × List Int) (ls : List Ln) (f : Int) : ∀ (l : List Mv) (ts : List Int), (∀ m ∈ l, m.op ≠ 5 ∧ m.op ≠ 6) → l.foldl (rollS ini) (p, ls ++ [(f, ts)]) = (p, ls ++ [(f, ts ++ l.flatMap fun m => (backL ini m).toList)])
  | [], ts, _ => by simp
  | m :: r, ts, h => by
    rw [List.foldl_cons, rollS_tok ini p ls f ts m (h m (by simp)), roll_toks ini p ls f r _ (fun x hx => h x (by simp [hx])), List.flatMap_cons, List.append_assoc]
theorem tokM_back (ini s psk : Bool) (t : Int) (h1 : 1 ≤ t) (h7 : t ≤ 7) : (tokM ini s psk t).flatMap (fun m => (backL ini m).toList) = [t] ∧ ∀ m ∈ tokM ini s psk t, m.op ≠ 5 ∧ m.op ≠ 6 := by
  rcases (show t = 1 ∨ t = 2 ∨ t = 3 ∨ t = 4 ∨ t = 5 ∨ t = 6 ∨ t = 7 by omega) with rfl | rfl | rfl | rfl | rfl | rfl | rfl <;> cases s <;> cases ini <;> cases psk <;> exact ⟨rfl, by decide⟩
theorem toks_back (ini s psk : Bool) : ∀ (l : List Int), (∀ t ∈ l, 1 ≤ t ∧ t ≤ 7) → (l.flatMap (tokM ini s psk)).flatMap (fun m => (backL ini m).toList) = l ∧ ∀ m ∈ l.flatMap (tokM ini s psk), m.op ≠ 5 ∧ m.op ≠ 6
  | [], _ => ⟨rfl, by simp⟩
  | t :: r, h => by
    obtain ⟨g1, g2⟩ := toks_back ini s psk r (fun x hx => h x (by simp [hx]))
    obtain ⟨q1, q2⟩ := tokM_back ini s psk t (h t (by simp)).1 (h t (by simp)).2
    rw [List.flatMap_cons, List.flatMap_append, q1, g1]
    refine ⟨rfl, fun m hm => ?_⟩
    rcases List.mem_append.1 hm with hm | hm
    · exact q2 m hm
    · exact g2 m hm
theorem roll_line (ini psk : Bool) (p : List Int × List Int) (ls : List Ln) (l : Ln) (h : l.1 = 0 ∨ l.1 = 1) (ht : ∀ t ∈ l.2, 1 ≤ t ∧ t ≤ 7) : (lineM ini psk l).foldl (rollS ini) (p, ls) = (p, ls ++ [l]) := by
  obtain ⟨f, ts⟩ := l
  have h1 : rollS ini (p, ls) ⟨if f == sideOf ini then 5 else 6, 0, 0⟩ = (p, ls ++ [(f, [])]) := by
    have h : f = 0 ∨ f = 1 := h
    rcases h with rfl | rfl <;> cases ini <;> simp [rollS, sideOf]
  obtain ⟨g1, g2⟩ := toks_back ini (f == sideOf ini) psk ts ht
  unfold lineM
  rw [List.foldl_cons, h1, List.foldl_append, roll_toks ini p ls f _ _ g2, g1, List.foldl_cons, rollS_tok ini p ls f _ _ (by simp)]
  simp [backL]
theorem roll_lines (ini psk : Bool) (p : List Int × List Int) : ∀ (ms ls : List Ln), (∀ l ∈ ms, (l.1 = 0 ∨ l.1 = 1) ∧ ∀ t ∈ l.2, 1 ≤ t ∧ t ≤ 7) → (ms.flatMap (lineM ini psk)).foldl (rollS ini) (p, ls) = (p, ls ++ ms)
  | [], ls, _ => by simp
  | l :: r, ls, h => by
    rw [List.flatMap_cons, List.foldl_append, roll_line ini psk p ls l (h l (by simp)).1 (h l (by simp)).2, roll_lines ini psk p r _ (fun x hx => h x (by simp [hx])), List.append_assoc]
    rfl
/-- The moves of a pattern roll up to it. -/
theorem roll_unroll (ini : Bool) {b0 b1 : List Int} {ls : List Ln} (h : shapedL b0 b1 ls = true) : rollL ini (unrollL ini b0 b1 ls) = ((b0, b1), ls) := by
  obtain ⟨h0, h1, hpos, hl⟩ := shapedL_mem h
  have g0 : ∀ t ∈ b0, t = 1 ∨ t = 2 := fun t ht => by obtain ⟨j, hj, rfl⟩ := List.getElem_of_mem ht; exact okB_mem h0 j hj
  have g1 : ∀ t ∈ b1, t = 1 ∨ t = 2 := fun t ht => by obtain ⟨j, hj, rfl⟩ := List.getElem_of_mem ht; exact okB_mem h1 j hj
  have gl : ∀ l ∈ ls, (l.1 = 0 ∨ l.1 = 1) ∧ ∀ t ∈ l.2, 1 ≤ t ∧ t ≤ 7 := fun l hm => by
    obtain ⟨j, hj, rfl⟩ := List.getElem_of_mem hm
    obtain ⟨q1, _, q2⟩ := hl j hj
    exact ⟨q1, fun t ht => by obtain ⟨i, hi, rfl⟩ := List.getElem_of_mem ht; exact q2 i hi⟩
  unfold rollL
  rw [unrollL_split, List.foldl_append, roll_pub ini _ _ (pubL_op ini b0 b1 ls)]
  unfold restL
  rw [List.foldl_cons, rollS_pub ini _ _ (.inr (.inl rfl)), List.foldl_append, roll_bef ini (!ini) (pskL ls) true (by cases ini <;> rfl) b0 _ g0, List.foldl_append, roll_bef ini ini (pskL ls) false (by cases ini <;> rfl) b1 _ g1, List.foldl_append, roll_lines ini (pskL ls) _ ls _ gl]
  simp only [if_true, Bool.false_eq_true, if_false, List.nil_append, List.foldl_cons, List.foldl_nil]
  obtain ⟨l0, r, rfl⟩ : ∃ l0 r, ls = r ++ [l0] := by
    rcases List.eq_nil_or_concat ls with h | ⟨r, l0, h⟩
    · rw [h] at hpos; simp at hpos
    · exact ⟨l0, r, by rw [h]; simp⟩
  obtain ⟨f, ts⟩ := l0
  rw [rollS_tok ini _ r f ts _ (by simp)]
  simp [backL]
theorem unroll_inj (ini : Bool) {b0 b1 d0 d1 : List Int} {ls ms : List Ln} (h : shapedL b0 b1 ls = true) (h' : shapedL d0 d1 ms = true) : (unrollL ini b0 b1 ls == unrollL ini d0 d1 ms) = sameL b0 b1 ls d0 d1 ms := by
  rw [Bool.eq_iff_iff]
  unfold sameL
  simp only [Bool.and_eq_true, beq_iff_eq]
  constructor
  · intro he
    have := congrArg (rollL ini) he
    rw [roll_unroll ini h, roll_unroll ini h'] at this
    simp only [Prod.mk.injEq] at this
    exact ⟨this.1.1, this.1.2, this.2⟩
  · rintro ⟨rfl, rfl, rfl⟩; rfl
end Go.Proofs.YtpemfmjplejdiaaDoor
