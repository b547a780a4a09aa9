/- Parts of the walks and plain laws, merged: RefLaw, RefMem, RefBegin, RefDone, RefSrc. Each theorem bears its own conditions; no other. -/
import Derived.Test.YtjbjgpcldcpjmaaDoorRefTok
import Derived.Test.YtjbjgpcldcpjmaaDoorRefShaped
import Derived.Test.YtjbjgpcldcpjmaaDoorGa1
namespace Go.Proofs.YtjbjgpcldcpjmaaDoor
open Go.RowKit

def Rel (X S : Nat → Bool) : Prop := X 0 = S 1 ∧ X 1 = S 4 ∧ X 2 = S 2 ∧ X 3 = S 5 ∧ X 7 = S 9 ∧ X 8 = S 10 ∧ X 9 = S 11 ∧ X 10 = S 12 ∧ X 11 = S 13
theorem safe_rel {X S : Nat → Bool} (h : Rel X S) (f : Int) (hf : f = 0 ∨ f = 1) : safeR X f = safeL S f := by
  obtain ⟨h0, h1, h2, h3, h7, h8, h9, h10, h11⟩ := h
  rcases hf with rfl | rfl
  · show ((!X 11 || X 0) && ((!X 9 || X 7) && (!X 10 || X 8))) = ((!S 11 || S 9) && (!S 12 || S 10) && (!S 13 || S 1))
    rw [h0, h7, h8, h9, h10, h11]
    generalize S 1 = a, S 9 = b, S 10 = c, S 11 = d, S 12 = e, S 13 = g
    cases a <;> cases b <;> cases c <;> cases d <;> cases e <;> cases g <;> rfl
  · show ((!X 11 || X 1) && ((!X 8 || X 7) && (!X 10 || X 9))) = ((!S 10 || S 9) && (!S 12 || S 11) && (!S 13 || S 4))
    rw [h1, h7, h8, h9, h10, h11]
    generalize S 4 = a, S 9 = b, S 10 = c, S 11 = d, S 12 = e, S 13 = g
    cases a <;> cases b <;> cases c <;> cases d <;> cases e <;> cases g <;> rfl
theorem off_last (S : Nat → Bool) (f t : Int) : offL S f t true = if offL S f t false = 0 then (if safeL (tookL S f t) f then 0 else 12) else offL S f t false := by
  unfold offL
  generalize ((keyT t && S (3 * f + t).toNat) || (isSec t && S (6 + t).toNat)) = a
  generalize (isSec t && (!S (wantI t).toNat || !S (3 + wantR t).toNat)) = b
  generalize (t == 2 && !safeL S f) = c
  generalize safeL (tookL S f t) f = d
  cases a <;> cases b <;> cases c <;> cases d <;> rfl
theorem tok_rel {X S : Nat → Bool} (h : Rel X S) (f t : Int) (hf : f = 0 ∨ f = 1) (h1 : 1 ≤ t) (h7 : t ≤ 7) : (tokR X f t).2 = offL S f t false ∧ (offL S f t false = 0 → Rel (tokR X f t).1 (tookL S f t)) := by
  have hs := safe_rel h f hf
  obtain ⟨g0, g1, g2, g3, g7, g8, g9, g10, g11⟩ := h
  rcases hf with rfl | rfl <;> rcases (show t = 1 ∨ t = 2 ∨ t = 3 ∨ t = 4 ∨ t = 5 ∨ t = 6 ∨ t = 7 by omega) with rfl | rfl | rfl | rfl | rfl | rfl | rfl
  all_goals
    refine ⟨?_, fun ho => ?_⟩
    · simp only [tokR, offL, hasR, keyT, isSec, wantI, wantR, hs]
      simp [g0, g1, g2, g3, g7, g8, g9, g10]
      try ((repeat' split) <;> simp_all)
    · simp only [tokR, offL, hasR, keyT, isSec, wantI, wantR, hs, tookL] at ho ⊢
      simp [g0, g1, g2, g3, g7, g8, g9, g10] at ho ⊢
      try ((repeat' split at ho) <;> simp_all [Rel, upd])

def toksR (X : Nat → Bool) (f : Int) : List Int → Nat × (Nat → Bool)
  | [] => (0, X)
  | t :: r => if (tokR X f t).2 = 0 then toksR (tokR X f t).1 f r else ((tokR X f t).2, X)
def lsR (X : Nat → Bool) : List Ln → Nat × (Nat → Bool)
  | [] => (0, X)
  | l :: r => if (toksR X l.1 l.2).1 = 0 then (if safeR (toksR X l.1 l.2).2 l.1 then lsR (toksR X l.1 l.2).2 r else (12, X)) else ((toksR X l.1 l.2).1, X)
def begR (d : Nat) (X : Nat → Bool) (l : List Int) : Nat → Bool := l.foldl (fun X t => if t = 1 then upd X d true else upd X (2 + d) true) X
def begunR (b0 b1 : List Int) : Nat → Bool := begR 1 (begR 0 S0 b0) b1
/-- The document's number of the error. -/
def checkR (b0 b1 : List Int) (ls : List Ln) : Nat :=
  if shapedL b0 b1 ls then (if (lsR (begunR b0 b1) ls).1 = 0 then (if !safeR (lsR (begunR b0 b1) ls).2 0 || (!oneWay ls && !safeR (lsR (begunR b0 b1) ls).2 1) then 12 else 0) else (lsR (begunR b0 b1) ls).1) else 9

theorem toks_rel (f : Int) (hf : f = 0 ∨ f = 1) : ∀ (ts : List Int) (X S : Nat → Bool), ts ≠ [] → (∀ t ∈ ts, 1 ≤ t ∧ t ≤ 7) → Rel X S →
    (runToks S f ts).1 = (if (toksR X f ts).1 = 0 then (if safeR (toksR X f ts).2 f then 0 else 12) else (toksR X f ts).1) ∧ ((runToks S f ts).1 = 0 → Rel (toksR X f ts).2 (runToks S f ts).2)
  | [], _, _, h, _, _ => absurd rfl h
  | [t], X, S, _, ht, h => by
    obtain ⟨h1, h2⟩ := tok_rel h f t hf (ht t (by simp)).1 (ht t (by simp)).2
    unfold runToks toksR
    simp only [List.isEmpty_nil, runToks, toksR, h1]
    simp only [off_last]
    by_cases h0 : offL S f t false = 0
    · have hr := h2 h0
      have hs := safe_rel hr f hf
      simp only [h0, if_true, hs]
      cases hq : safeL (tookL S f t) f with
      | true => simp; exact hr
      | false => simp
    · simp [h0]
  | t :: u :: r, X, S, _, ht, h => by
    obtain ⟨h1, h2⟩ := tok_rel h f t hf (ht t (by simp)).1 (ht t (by simp)).2
    rw [runToks, toksR]
    simp only [List.isEmpty_cons, h1]
    by_cases h0 : offL S f t false = 0
    · have := toks_rel f hf (u :: r) _ _ (by simp) (fun x hx => ht x (by simp only [List.mem_cons] at hx ⊢; exact .inr hx)) (h2 h0)
      simp only [h0, if_true]
      exact this
    · simp [h0]
theorem ls_rel : ∀ (ls : List Ln) (X S : Nat → Bool), (∀ l ∈ ls, (l.1 = 0 ∨ l.1 = 1) ∧ l.2 ≠ [] ∧ ∀ t ∈ l.2, 1 ≤ t ∧ t ≤ 7) → Rel X S →
    (runLs S ls).1 = (lsR X ls).1 ∧ ((runLs S ls).1 = 0 → Rel (lsR X ls).2 (runLs S ls).2)
  | [], X, S, _, h => ⟨rfl, fun _ => h⟩
  | l :: r, X, S, hl, h => by
    obtain ⟨g1, g2, g3⟩ := hl l (by simp)
    obtain ⟨h1, h2⟩ := toks_rel l.1 g1 l.2 X S g2 g3 h
    rw [runLs, lsR]
    by_cases h0 : (toksR X l.1 l.2).1 = 0
    · rw [if_pos h0] at h1
      rw [if_pos h0]
      cases hs : safeR (toksR X l.1 l.2).2 l.1 with
      | true =>
        rw [hs, if_pos rfl] at h1
        rw [if_pos h1, if_pos rfl]
        exact ls_rel r _ _ (fun x hx => hl x (by simp [hx])) (h2 h1)
      | false =>
        rw [hs, if_neg (by simp)] at h1
        rw [if_neg (by omega), if_neg (by simp)]
        exact ⟨h1, fun h => by omega⟩
    · rw [if_neg h0] at h1
      rw [if_neg h0, if_neg (by omega)]
      exact ⟨h1, fun h => by omega⟩
theorem beg_rel0 : ∀ (l : List Int) (X S : Nat → Bool), (∀ t ∈ l, t = 1 ∨ t = 2) → Rel X S → Rel (begR 0 X l) (l.foldl (fun S t => upd S t.toNat true) S)
  | [], _, _, _, h => h
  | t :: r, X, S, ht, h => by
    unfold begR
    rw [List.foldl_cons, List.foldl_cons]
    refine beg_rel0 r _ _ (fun x hx => ht x (by simp [hx])) ?_
    obtain ⟨g0, g1, g2, g3, g7, g8, g9, g10, g11⟩ := h
    rcases ht t (by simp) with rfl | rfl <;> simp [Rel, upd, g0, g1, g2, g3, g7, g8, g9, g10, g11]
theorem beg_rel1 : ∀ (l : List Int) (X S : Nat → Bool), (∀ t ∈ l, t = 1 ∨ t = 2) → Rel X S → Rel (begR 1 X l) (l.foldl (fun S t => upd S (3 + t).toNat true) S)
  | [], _, _, _, h => h
  | t :: r, X, S, ht, h => by
    unfold begR
    rw [List.foldl_cons, List.foldl_cons]
    refine beg_rel1 r _ _ (fun x hx => ht x (by simp [hx])) ?_
    obtain ⟨g0, g1, g2, g3, g7, g8, g9, g10, g11⟩ := h
    rcases ht t (by simp) with rfl | rfl <;> simp [Rel, upd, g0, g1, g2, g3, g7, g8, g9, g10, g11]
theorem checkR_eq (b0 b1 : List Int) (ls : List Ln) : checkR b0 b1 ls = checkL b0 b1 ls := by
  unfold checkR checkL
  cases hs : shapedL b0 b1 ls with
  | false => rfl
  | true =>
    obtain ⟨h0, h1, _, hl⟩ := shapedL_mem hs
    have g0 : ∀ t ∈ b0, t = 1 ∨ t = 2 := fun t ht => by obtain ⟨j, hj, rfl⟩ := List.getElem_of_mem ht; exact okB_mem h0 j hj
    have g1 : ∀ t ∈ b1, t = 1 ∨ t = 2 := fun t ht => by obtain ⟨j, hj, rfl⟩ := List.getElem_of_mem ht; exact okB_mem h1 j hj
    have gl : ∀ l ∈ ls, (l.1 = 0 ∨ l.1 = 1) ∧ l.2 ≠ [] ∧ ∀ t ∈ l.2, 1 ≤ t ∧ t ≤ 7 := fun l hm => by
      obtain ⟨j, hj, rfl⟩ := List.getElem_of_mem hm
      obtain ⟨q1, q2, q3⟩ := hl j hj
      exact ⟨q1, fun h => by rw [h] at q2; simp at q2, fun t ht => by obtain ⟨i, hi, rfl⟩ := List.getElem_of_mem ht; exact q3 i hi⟩
    have hb : Rel (begunR b0 b1) (begunL b0 b1) := beg_rel1 b1 _ _ g1 (beg_rel0 b0 _ _ g0 ⟨rfl, rfl, rfl, rfl, rfl, rfl, rfl, rfl, rfl⟩)
    obtain ⟨q1, q2⟩ := ls_rel ls _ _ gl hb
    rw [if_pos rfl, if_pos rfl, ← q1]
    by_cases hz : (runLs (begunL b0 b1) ls).1 = 0
    · have hr := q2 hz
      rw [if_pos hz, if_pos hz, safe_rel hr 0 (.inl rfl), safe_rel hr 1 (.inr rfl)]
      rfl
    · rw [if_neg hz, if_neg hz]
end Go.Proofs.YtjbjgpcldcpjmaaDoor

namespace Go.Proofs.YtjbjgpcldcpjmaaDoor
open Go.RowKit

/-- It lies in block b. -/
def SnAt (w : World) (b : Nat) (X : Nat → Bool) : Prop := ∀ j, j < 12 → w.cell? ⟨b, j, none⟩ = some (.bool (X j)) ∧ w.frozen? ⟨b, j, none⟩ = false
theorem SnAt.fr {Z : List Nat} {w w' : World} {b : Nat} {X : Nat → Bool} (h : SnAt w b X) (k : Fr Z w w') (hb : b ∉ Z) : SnAt w' b X := fun j hj => ⟨k.cell (h j hj).1 hb, k.free (h j hj).1 (h j hj).2 hb⟩
theorem SnAt.kp {w w' : World} {b : Nat} {X : Nat → Bool} (h : SnAt w b X) (k : Kp w w') : SnAt w' b X := h.fr (Fr.of_kp k) (by simp)
theorem SnAt.cells {w : World} {b : Nat} {X : Nat → Bool} (h : SnAt w b X) : w.cell? ⟨b, 0, none⟩ = some (.bool (X 0)) ∧ w.cell? ⟨b, 1, none⟩ = some (.bool (X 1)) ∧ w.cell? ⟨b, 2, none⟩ = some (.bool (X 2)) ∧ w.cell? ⟨b, 3, none⟩ = some (.bool (X 3)) ∧ w.cell? ⟨b, 4, none⟩ = some (.bool (X 4)) ∧ w.cell? ⟨b, 5, none⟩ = some (.bool (X 5)) ∧ w.cell? ⟨b, 6, none⟩ = some (.bool (X 6)) ∧ w.cell? ⟨b, 7, none⟩ = some (.bool (X 7)) ∧ w.cell? ⟨b, 8, none⟩ = some (.bool (X 8)) ∧ w.cell? ⟨b, 9, none⟩ = some (.bool (X 9)) ∧ w.cell? ⟨b, 10, none⟩ = some (.bool (X 10)) ∧ w.cell? ⟨b, 11, none⟩ = some (.bool (X 11)) :=
  ⟨(h 0 (by omega)).1, (h 1 (by omega)).1, (h 2 (by omega)).1, (h 3 (by omega)).1, (h 4 (by omega)).1, (h 5 (by omega)).1, (h 6 (by omega)).1, (h 7 (by omega)).1, (h 8 (by omega)).1, (h 9 (by omega)).1, (h 10 (by omega)).1, (h 11 (by omega)).1⟩
theorem SnAt.free {w : World} {b : Nat} {X : Nat → Bool} (h : SnAt w b X) : w.frozen? ⟨b, 0, none⟩ = false ∧ w.frozen? ⟨b, 1, none⟩ = false ∧ w.frozen? ⟨b, 2, none⟩ = false ∧ w.frozen? ⟨b, 3, none⟩ = false ∧ w.frozen? ⟨b, 4, none⟩ = false ∧ w.frozen? ⟨b, 5, none⟩ = false ∧ w.frozen? ⟨b, 6, none⟩ = false ∧ w.frozen? ⟨b, 7, none⟩ = false ∧ w.frozen? ⟨b, 8, none⟩ = false ∧ w.frozen? ⟨b, 9, none⟩ = false ∧ w.frozen? ⟨b, 10, none⟩ = false ∧ w.frozen? ⟨b, 11, none⟩ = false :=
  ⟨(h 0 (by omega)).2, (h 1 (by omega)).2, (h 2 (by omega)).2, (h 3 (by omega)).2, (h 4 (by omega)).2, (h 5 (by omega)).2, (h 6 (by omega)).2, (h 7 (by omega)).2, (h 8 (by omega)).2, (h 9 (by omega)).2, (h 10 (by omega)).2, (h 11 (by omega)).2⟩
theorem SnAt.lt {w : World} {b : Nat} {X : Nat → Bool} (h : SnAt w b X) : b < w.heap.size := World.block_lt_of_cell? w _ (h 0 (by omega)).1
theorem SnAt.set {w : World} {b : Nat} {X : Nat → Bool} (h : SnAt w b X) (k : Nat) (hk : k < 12) (v : Bool) : SnAt (w.setCell ⟨b, k, none⟩ (.bool v)) b (upd X k v) := fun j hj => by
  constructor
  · by_cases hjk : j = k
    · subst hjk
      rw [World.cell?_setCell_same _ _ _ (h j hj).1]; simp only [upd, if_true]
    · rw [World.cell?_setCell_other _ _ _ _ (by simp <;> omega), (h j hj).1]; simp [upd, hjk]
  · rw [World.frozen?_setCell]; exact (h j hj).2
theorem lt12 {j : Nat} (h : j < 12) : j = 0 ∨ j = 1 ∨ j = 2 ∨ j = 3 ∨ j = 4 ∨ j = 5 ∨ j = 6 ∨ j = 7 ∨ j = 8 ∨ j = 9 ∨ j = 10 ∨ j = 11 := by omega
theorem SnAt.new (w : World) (Y : Nat → Bool) : SnAt (w.alloc (.cells #[.bool (Y 0), .bool (Y 1), .bool (Y 2), .bool (Y 3), .bool (Y 4), .bool (Y 5), .bool (Y 6), .bool (Y 7), .bool (Y 8), .bool (Y 9), .bool (Y 10), .bool (Y 11)] 80)) w.heap.size Y := fun j hj => by
  constructor
  · rw [World.cell?_alloc_at _ _ _ _ rfl]
    rcases lt12 hj with rfl | rfl | rfl | rfl | rfl | rfl | rfl | rfl | rfl | rfl | rfl | rfl <;> rfl
  · exact World.frozen?_alloc_at _ _ _ _ rfl
theorem SnAt.zero (w : World) : SnAt (w.alloc (.cells #[.bool false, .bool false, .bool false, .bool false, .bool false, .bool false, .bool false, .bool false, .bool false, .bool false, .bool false, .bool false] 80)) w.heap.size S0 := SnAt.new w S0
/-- All of it written over. -/
theorem SnAt.store {w : World} {b : Nat} {X : Nat → Bool} (h : SnAt w b X) (Y : Nat → Bool) :
    SnAt ((((((((((((w.setCell ⟨b, 0, none⟩ (.bool (Y 0))).setCell ⟨b, 1, none⟩ (.bool (Y 1))).setCell ⟨b, 2, none⟩ (.bool (Y 2))).setCell ⟨b, 3, none⟩ (.bool (Y 3))).setCell ⟨b, 4, none⟩ (.bool (Y 4))).setCell ⟨b, 5, none⟩ (.bool (Y 5))).setCell ⟨b, 6, none⟩ (.bool (Y 6))).setCell ⟨b, 7, none⟩ (.bool (Y 7))).setCell ⟨b, 8, none⟩ (.bool (Y 8))).setCell ⟨b, 9, none⟩ (.bool (Y 9))).setCell ⟨b, 10, none⟩ (.bool (Y 10))).setCell ⟨b, 11, none⟩ (.bool (Y 11))) b Y ∧
    Fr [b] w ((((((((((((w.setCell ⟨b, 0, none⟩ (.bool (Y 0))).setCell ⟨b, 1, none⟩ (.bool (Y 1))).setCell ⟨b, 2, none⟩ (.bool (Y 2))).setCell ⟨b, 3, none⟩ (.bool (Y 3))).setCell ⟨b, 4, none⟩ (.bool (Y 4))).setCell ⟨b, 5, none⟩ (.bool (Y 5))).setCell ⟨b, 6, none⟩ (.bool (Y 6))).setCell ⟨b, 7, none⟩ (.bool (Y 7))).setCell ⟨b, 8, none⟩ (.bool (Y 8))).setCell ⟨b, 9, none⟩ (.bool (Y 9))).setCell ⟨b, 10, none⟩ (.bool (Y 10))).setCell ⟨b, 11, none⟩ (.bool (Y 11))) := by
  constructor
  · have := ((((((((((((h.set 0 (by omega) (Y 0)).set 1 (by omega) (Y 1)).set 2 (by omega) (Y 2)).set 3 (by omega) (Y 3)).set 4 (by omega) (Y 4)).set 5 (by omega) (Y 5)).set 6 (by omega) (Y 6)).set 7 (by omega) (Y 7)).set 8 (by omega) (Y 8)).set 9 (by omega) (Y 9)).set 10 (by omega) (Y 10)).set 11 (by omega) (Y 11))
    intro j hj
    have h2 := this j hj
    refine ⟨h2.1.trans ?_, h2.2⟩
    congr 2
    rcases lt12 hj with rfl | rfl | rfl | rfl | rfl | rfl | rfl | rfl | rfl | rfl | rfl | rfl <;> rfl
  · exact ((((((((((((Fr.set w ⟨b, 0, none⟩ _).trans (Fr.set _ ⟨b, 1, none⟩ _)).trans (Fr.set _ ⟨b, 2, none⟩ _)).trans (Fr.set _ ⟨b, 3, none⟩ _)).trans (Fr.set _ ⟨b, 4, none⟩ _)).trans (Fr.set _ ⟨b, 5, none⟩ _)).trans (Fr.set _ ⟨b, 6, none⟩ _)).trans (Fr.set _ ⟨b, 7, none⟩ _)).trans (Fr.set _ ⟨b, 8, none⟩ _)).trans (Fr.set _ ⟨b, 9, none⟩ _)).trans (Fr.set _ ⟨b, 10, none⟩ _)).trans (Fr.set _ ⟨b, 11, none⟩ _))

/-- A pattern in a variable. -/
def Bx (w : World) (b : Nat) (nm : ByteArray) (a0 a1 al : Option Addr) (n0 c0 n1 c1 nl cl : Nat) : Prop :=
  w.cell? ⟨b, 0, none⟩ = some (.string nm) ∧ w.cell? ⟨b, 1, none⟩ = some (.slice a0 n0 c0) ∧ w.cell? ⟨b, 2, none⟩ = some (.slice a1 n1 c1) ∧ w.cell? ⟨b, 3, none⟩ = some (.slice al nl cl)
theorem Bx.new (w : World) (nm : ByteArray) (a0 a1 al : Option Addr) (n0 c0 n1 c1 nl cl : Nat) : Bx (w.alloc (.cells #[.string nm, .slice a0 n0 c0, .slice a1 n1 c1, .slice al nl cl] 26)) w.heap.size nm a0 a1 al n0 c0 n1 c1 nl cl := by
  refine ⟨?_, ?_, ?_, ?_⟩ <;> (rw [World.cell?_alloc_at _ _ _ _ rfl]; rfl)
theorem Bx.fr {Z : List Nat} {w w' : World} {b : Nat} {nm : ByteArray} {a0 a1 al : Option Addr} {n0 c0 n1 c1 nl cl : Nat} (h : Bx w b nm a0 a1 al n0 c0 n1 c1 nl cl) (k : Fr Z w w') (hb : b ∉ Z) : Bx w' b nm a0 a1 al n0 c0 n1 c1 nl cl := ⟨k.cell h.1 hb, k.cell h.2.1 hb, k.cell h.2.2.1 hb, k.cell h.2.2.2 hb⟩
theorem Bx.kp {w w' : World} {b : Nat} {nm : ByteArray} {a0 a1 al : Option Addr} {n0 c0 n1 c1 nl cl : Nat} (h : Bx w b nm a0 a1 al n0 c0 n1 c1 nl cl) (k : Kp w w') : Bx w' b nm a0 a1 al n0 c0 n1 c1 nl cl := h.fr (Fr.of_kp k) (by simp)
theorem Bx.lt {w : World} {b : Nat} {nm : ByteArray} {a0 a1 al : Option Addr} {n0 c0 n1 c1 nl cl : Nat} (h : Bx w b nm a0 a1 al n0 c0 n1 c1 nl cl) : b < w.heap.size := World.block_lt_of_cell? w _ h.1
end Go.Proofs.YtjbjgpcldcpjmaaDoor

namespace Go.Proofs.YtjbjgpcldcpjmaaDoor
open Go.RowKit

theorem begR_succ (d : Nat) (X : Nat → Bool) (l : List Int) (k : Nat) (h : k < l.length) : begR d X (l.take (k + 1)) = if l[k] = 1 then upd (begR d X (l.take k)) d true else upd (begR d X (l.take k)) (2 + d) true := by
  unfold begR
  rw [take_step l k h, List.foldl_append]; rfl

theorem begR_take (d : Nat) (X : Nat → Bool) (l : List Int) : begR d X (l.take l.length) = begR d X l := by rw [List.take_length]
theorem SnAt.of_eq {w : World} {b : Nat} {X Y : Nat → Bool} (h : SnAt w b X) (e : X = Y) : SnAt w b Y := e ▸ h

set_option maxRecDepth 100000 in
set_option maxHeartbeats 4000000 in
theorem begin_any (w : World) (nm : ByteArray) (a0 a1 al : Option Addr) (n0 c0 n1 c1 nl cl : Nat) (b0 b1 : List Int) (h0 : Is w a0 n0 b0) (h1 : Is w a1 n1 b1) :
    Calls Tryd.prog 37 #[.agg #[.string nm, .slice a0 n0 c0, .slice a1 n1 c1, .slice al nl cl]] w fun e w' => e = .returned (snV (begunR b0 b1)) ∧ Kp w w' := by
  have hm0 := h0.2.1
  have hm1 := h1.2.1
  unfold maxLen at hm0 hm1
  go_enter Tryd.func37, Tryd.ntmps37
  go_upto_region 2 with fail
  have hk1 := Kp.new w (.cells #[.string nm, .slice a0 n0 c0, .slice a1 n1 c1, .slice al nl cl] 26)
  have hB := Bx.new w nm a0 a1 al n0 c0 n1 c1 nl cl
  have hs1 : (w.alloc (.cells #[.string nm, .slice a0 n0 c0, .slice a1 n1 c1, .slice al nl cl] 26)).heap.size = w.heap.size + 1 := by simp
  generalize w.alloc (.cells #[.string nm, .slice a0 n0 c0, .slice a1 n1 c1, .slice al nl cl] 26) = wa at hk1 hB hs1 ⊢
  have hk2 := Kp.new wa (.cells #[.bool false, .bool false, .bool false, .bool false, .bool false, .bool false, .bool false, .bool false, .bool false, .bool false, .bool false, .bool false] 80)
  have hR := SnAt.zero wa
  have hs2 : (wa.alloc (.cells #[.bool false, .bool false, .bool false, .bool false, .bool false, .bool false, .bool false, .bool false, .bool false, .bool false, .bool false, .bool false] 80)).heap.size = wa.heap.size + 1 := by simp
  generalize wa.alloc (.cells #[.bool false, .bool false, .bool false, .bool false, .bool false, .bool false, .bool false, .bool false, .bool false, .bool false, .bool false, .bool false] 80) = wb at hk2 hR hs2 ⊢
  have hk3 := Kp.new wb (.cells #[.bool false, .bool false, .bool false, .bool false, .bool false, .bool false, .bool false, .bool false, .bool false, .bool false, .bool false, .bool false] 80)
  have hX := SnAt.zero wb
  have hs3 : (wb.alloc (.cells #[.bool false, .bool false, .bool false, .bool false, .bool false, .bool false, .bool false, .bool false, .bool false, .bool false, .bool false, .bool false] 80)).heap.size = wb.heap.size + 1 := by simp
  generalize wb.alloc (.cells #[.bool false, .bool false, .bool false, .bool false, .bool false, .bool false, .bool false, .bool false, .bool false, .bool false, .bool false, .bool false] 80) = wc at hk3 hX hs3 ⊢
  obtain ⟨bb, hbb⟩ : ∃ bb, bb = w.heap.size := ⟨_, rfl⟩
  have e1 : wa.heap.size = bb + 1 := by omega
  have e2 : wb.heap.size = bb + 2 := by omega
  rw [← hbb] at hB
  rw [e1] at hR
  rw [e2] at hX
  replace hB := (hB.kp hk2).kp hk3
  replace hR := hR.kp hk3
  have hkc := Kp.trans hk1 (Kp.trans hk2 hk3)
  have Hk := Lib.hid (And.intro hkc hbb)
  clear hk1 hk2 hk3 hs1 hs2 hs3 e1 e2 hkc
  rw [← hbb]
  clear hbb
  go_wp2_with fail
  go_loopw [4] (fun i wr => ∃ k : Nat, k ≤ 2 ∧ i = .int .i64 (k : Nat) ∧ Fr [bb + 2] wc wr ∧ SnAt wr (bb + 2) (if k = 0 then S0 else if k = 1 then begR 0 S0 b0 else begunR b0 b1)) (fun i _ => 2 - (intOf i).toNat)
  case atStart => exact ⟨0, by omega, rfl, Fr.refl _ _, hX⟩
  case round =>
    clear hX
    obtain ⟨k, hk, rfl, hF, hS⟩ := hrel
    rcases (show k = 0 ∨ k = 1 ∨ k = 2 by omega) with rfl | rfl | rfl
    · rw [if_pos rfl] at hS
      go_wp2_with fail
      go_loopw [5] (fun i wv => ∃ j : Nat, j ≤ n0 ∧ i = .int .i64 (j : Nat) ∧ Fr [bb + 2] wc wv ∧ SnAt wv (bb + 2) (begR 0 S0 (b0.take j))) (fun i _ => n0 - (intOf i).toNat)
      case atStart => exact ⟨0, by omega, rfl, hF, hS⟩
      case round =>
        clear hF hS
        obtain ⟨j, hj, rfl, hF, hS⟩ := hrel
        obtain ⟨y0, y1, y2, y3⟩ := hB.fr hF (by simp)
        by_cases hjn : j < n0
        · have hjl : j < b0.length := by rw [h0.1]; exact hjn
          obtain ⟨tb, toff, rfl, htl, hcc⟩ := h0.at j hjn
          have hck := hF.cell ((Hk.out.1).cell (hcc j hjn)) (by have := Hk.out.2; simp; omega)
          have hsu := begR_succ 0 S0 b0 j hjl
          clear hcc
          generalize b0[j]'hjl = t at hck hsu
          have Hsu := Lib.hid hsu; clear hsu
          by_cases ht : t = 1
          · subst ht
            have hS2 := hS.set 0 (by omega) true
            rw [if_pos rfl] at Hsu
            obtain ⟨q1, q2⟩ := hS 0 (by omega)
            have HS2 := Lib.hid hS2; clear hS2 hS
            go_wp2_with fail
            go_roundw
            case rel => exact ⟨j + 1, by omega, by go_num, hF.trans (Fr.set _ ⟨bb + 2, 0, none⟩ _), by rw [Hsu.out]; exact HS2.out⟩
            case measure => simp [intOf]; omega
          · have hb : (t == 1) = false := by simpa using ht
            rw [if_neg ht] at Hsu
            have hS2 := hS.set 2 (by omega) true
            obtain ⟨q1, q2⟩ := hS 2 (by omega)
            have HS2 := Lib.hid hS2; clear hS2 hS
            go_wp2_with fail
            go_roundw
            case rel => exact ⟨j + 1, by omega, by go_num, hF.trans (Fr.set _ ⟨bb + 2, 2, none⟩ _), by rw [Hsu.out]; exact HS2.out⟩
            case measure => simp [intOf]; omega
        · obtain rfl : j = n0 := by omega
          have hS' : SnAt wr (bb + 2) (begR 0 S0 b0) := hS.of_eq (by rw [← h0.1, List.take_length])
          clear hS
          go_wp2_with fail
          go_roundw
          case rel => exact ⟨1, by omega, by go_num, hF, hS'⟩
          case measure => simp [intOf]
    · rw [if_neg (by decide), if_pos rfl] at hS
      go_wp2_with fail
      go_loopw [5] (fun i wv => ∃ j : Nat, j ≤ n1 ∧ i = .int .i64 (j : Nat) ∧ Fr [bb + 2] wc wv ∧ SnAt wv (bb + 2) (begR 1 (begR 0 S0 b0) (b1.take j))) (fun i _ => n1 - (intOf i).toNat)
      case atStart => exact ⟨0, by omega, rfl, hF, hS⟩
      case round =>
        clear hF hS
        obtain ⟨j, hj, rfl, hF, hS⟩ := hrel
        obtain ⟨y0, y1, y2, y3⟩ := hB.fr hF (by simp)
        by_cases hjn : j < n1
        · have hjl : j < b1.length := by rw [h1.1]; exact hjn
          obtain ⟨tb, toff, rfl, htl, hcc⟩ := h1.at j hjn
          have hck := hF.cell ((Hk.out.1).cell (hcc j hjn)) (by have := Hk.out.2; simp; omega)
          have hsu := begR_succ 1 (begR 0 S0 b0) b1 j hjl
          clear hcc
          generalize b1[j]'hjl = t at hck hsu
          have Hsu := Lib.hid hsu; clear hsu
          by_cases ht : t = 1
          · subst ht
            have hS2 := hS.set 1 (by omega) true
            rw [if_pos rfl] at Hsu
            obtain ⟨q1, q2⟩ := hS 1 (by omega)
            have HS2 := Lib.hid hS2; clear hS2 hS
            go_wp2_with fail
            go_roundw
            case rel => exact ⟨j + 1, by omega, by go_num, hF.trans (Fr.set _ ⟨bb + 2, 1, none⟩ _), by rw [Hsu.out]; exact HS2.out⟩
            case measure => simp [intOf]; omega
          · have hb : (t == 1) = false := by simpa using ht
            rw [if_neg ht] at Hsu
            have hS2 := hS.set 3 (by omega) true
            obtain ⟨q1, q2⟩ := hS 3 (by omega)
            have HS2 := Lib.hid hS2; clear hS2 hS
            go_wp2_with fail
            go_roundw
            case rel => exact ⟨j + 1, by omega, by go_num, hF.trans (Fr.set _ ⟨bb + 2, 3, none⟩ _), by rw [Hsu.out]; exact HS2.out⟩
            case measure => simp [intOf]; omega
        · obtain rfl : j = n1 := by omega
          have hS' : SnAt wr (bb + 2) (begunR b0 b1) := hS.of_eq (by rw [← h1.1, List.take_length]; rfl)
          clear hS
          go_wp2_with fail
          go_roundw
          case rel => exact ⟨2, by omega, by go_num, hF, hS'⟩
          case measure => simp [intOf]
    · rw [if_neg (by decide), if_neg (by decide)] at hS
      have hR2 := hR.fr hF (by simp)
      have hst := (hR2.store (begunR b0 b1)).2
      have hkf : Kp w wr := ((Fr.of_kp Hk.out.1).step hF (fun i hi => .inr (by have := Hk.out.2; simp at hi; omega))).kp
      have Hfin := Lib.hid (((Fr.of_kp hkf).step hst (fun i hi => .inr (by have := Hk.out.2; simp at hi; omega))).kp)
      obtain ⟨x0, x1, x2, x3, x4, x5, x6, x7, x8, x9, x10, x11⟩ := hS.cells
      obtain ⟨z0, z1, z2, z3, z4, z5, z6, z7, z8, z9, z10, z11⟩ := hR2.cells
      obtain ⟨f0, f1, f2, f3, f4, f5, f6, f7, f8, f9, f10, f11⟩ := hR2.free
      clear hst hkf hR2 hS hF hR hB h0 h1
      go_wp2_with fail
      refine bodyPost_ret (v := snV (begunR b0 b1)) (by simp [results, Tryd.results37, go_sem, snV, *]) rfl ⟨rfl, Hfin.out⟩

set_option maxHeartbeats 2000000 in
theorem oneWay_any (w : World) (nm : ByteArray) (a0 a1 al : Option Addr) (n0 c0 n1 c1 nl cl : Nat) (ls : List Ln) (hl : Lns w al nl ls) :
    Calls Tryd.prog 40 #[.agg #[.string nm, .slice a0 n0 c0, .slice a1 n1 c1, .slice al nl cl]] w fun e w' => e = .returned (.bool (oneWay ls)) ∧ Kp w w' := by
  by_cases h1 : nl = 1
  · subst h1
    have hll : 0 < ls.length := by rw [hl.1]; omega
    obtain ⟨b, off, tp, tn, tc, rfl, hc1, _, _, _⟩ := hl.2.2 0 hll
    rw [Nat.zero_mul, Nat.add_zero] at hc1
    have Ho := Lib.hid (show oneWay ls = (ls[0].1 == 0) by unfold oneWay; rw [hl.1, List.getElem?_eq_getElem hll]; simp)
    generalize ls[0].1 = f at hc1 Ho
    have hc2 := fun o => Kp.cell (Kp.new w o) hc1
    clear hc1
    go_enter Tryd.func40, Tryd.ntmps40
    go_wp2_with fail
    go_ret
    exact ⟨by rw [Ho.out]; rfl, Kp.new _ _⟩
  · have hb : ((nl : Int) == 1) = false := by simp; omega
    have Ho := Lib.hid (show oneWay ls = false by unfold oneWay; rw [hl.1]; simp [h1])
    go_enter Tryd.func40, Tryd.ntmps40
    go_wp2_with fail
    go_ret
    exact ⟨by rw [Ho.out]; rfl, Kp.new _ _⟩
end Go.Proofs.YtjbjgpcldcpjmaaDoor

namespace Go.Proofs.YtjbjgpcldcpjmaaDoor
open Go.RowKit

abbrev patV (nm : ByteArray) (a0 a1 al : Option Addr) (n0 c0 n1 c1 nl cl : Nat) : Value := .agg #[.string nm, .slice a0 n0 c0, .slice a1 n1 c1, .slice al nl cl]
theorem oneWay_Q (ls : List Ln) : Q.oneWay ls = oneWay ls := by
  match ls with
  | [] => rfl
  | [l] =>
    show decide (l.1 = 0) = (true && (some l.1 == some (0 : Int)))
    rw [Bool.true_and, Bool.eq_iff_iff]
    simp
  | a :: b :: r => simp [Q.oneWay, oneWay]
theorem static_any (w : World) (s : Int) : Calls Tryd.prog 42 #[iv s] w fun e w' => e = .returned (iv (Q.staticT s)) ∧ w = w' := by
  unfold Q.staticT
  by_cases h : s = 0
  · subst h
    go_enter Tryd.func42, Tryd.ntmps42
    go_wp2_with fail
    go_ret
    exact ⟨rfl, rfl⟩
  · rw [if_neg h]
    go_enter Tryd.func42, Tryd.ntmps42
    go_wp2_with fail
    go_ret
    exact ⟨rfl, rfl⟩
/-- Not among the first k messages, nor the first j tokens of the next. -/
theorem hasT_step {ls : List Ln} {k : Nat} {t : Int} (h : k < ls.length) (h1 : Q.hasT (ls.take k) t = false) (h2 : ls[k].2.contains t = false) : Q.hasT (ls.take (k + 1)) t = false := by
  rw [Q.hasT_next ls k h, h1, h2]; rfl
theorem hasT_hit {ls : List Ln} {k m j : Nat} {t : Int} (h : k < ls.length) (hkm : k < m) (hj : j < ls[k].2.length) (he : ls[k].2[j] = t) : Q.hasT (ls.take m) t = true := by
  unfold Q.hasT
  rw [List.any_eq_true]
  refine ⟨ls[k], List.mem_take_iff_getElem.2 ⟨k, by omega, rfl⟩, ?_⟩
  rw [List.contains_iff_mem, ← he]
  exact List.getElem_mem _
theorem contains_snoc {ts : List Int} {j : Nat} {t : Int} (h : j < ts.length) (h1 : (ts.take j).contains t = false) (h2 : ts[j] ≠ t) : (ts.take (j + 1)).contains t = false := by
  rw [Q.contains_next ts j h, h1, beq_eq_false_iff_ne.2 h2]; rfl

set_option maxRecDepth 100000 in
set_option maxHeartbeats 4000000 in
theorem done_any (w : World) (nm : ByteArray) (a0 a1 al : Option Addr) (n0 c0 n1 c1 nl cl : Nat) (ls : List Ln) (hl : Lns w al nl ls) (k0 : Nat) (hk0 : k0 ≤ 100000) (t : Int) :
    Calls Tryd.prog 41 #[patV nm a0 a1 al n0 c0 n1 c1 nl cl, iv (k0 : Int), iv t] w fun e w' => e = .returned (.bool (Q.hasT (ls.take (k0 + 1)) t)) ∧ Kp w w' := by
  have hnl := hl.2.1
  have Hll := Lib.hid hl.1
  have hk1 := Kp.new w (.cells #[.string nm, .slice a0 n0 c0, .slice a1 n1 c1, .slice al nl cl] 26)
  have hnew : (w.alloc (.cells #[.string nm, .slice a0 n0 c0, .slice a1 n1 c1, .slice al nl cl] 26)).cell? ⟨w.heap.size, 3, none⟩ = some (.slice al nl cl) := by rw [World.cell?_alloc_at _ _ _ _ rfl]; rfl
  go_enter Tryd.func41, Tryd.ntmps41
  go_upto_region 1 with fail
  generalize w.alloc (.cells #[.string nm, .slice a0 n0 c0, .slice a1 n1 c1, .slice al nl cl] 26) = wb at *
  go_wp2_with fail
  go_loopw [7] (fun i wr => ∃ k : Nat, k ≤ nl ∧ k ≤ k0 + 1 ∧ i = .int .i64 (k : Nat) ∧ wb = wr ∧ Q.hasT (ls.take k) t = false) (fun i _ => nl - (intOf i).toNat)
  case atStart => exact ⟨0, by omega, by omega, rfl, rfl, by simp [Q.hasT]⟩
  case round =>
    obtain ⟨k, hk, hk2, rfl, rfl, hno⟩ := hrel
    have Hno := Lib.hid hno; clear hno
    by_cases hlt : k < nl ∧ k < k0 + 1
    · obtain ⟨hlt, hlt2⟩ := hlt
      have hkl : k < ls.length := by rw [Hll.out]; exact hlt
      obtain ⟨b, off, tp, tn, tc, rfl, hd1, hd2, hI, htn⟩ := hl.2.2 k hkl
      have hd2 := Kp.cell hk1 hd2
      have hI := hk1.is hI
      have Hhit := Lib.hid (fun j (hj : j < ls[k].2.length) (he : ls[k].2[j] = t) => hasT_hit hkl hlt2 hj he)
      have Hst := Lib.hid (hasT_step hkl Hno.out)
      have HI := Lib.hid hI
      generalize ls[k].2 = ts at Hhit Hst HI
      have Htl := Lib.hid HI.out.1
      clear hd1 hI
      go_wp2_with fail
      go_loopw [8] (fun i wr => ∃ j : Nat, j ≤ tn ∧ i = .int .i64 (j : Nat) ∧ wb = wr ∧ (ts.take j).contains t = false) (fun i _ => tn - (intOf i).toNat)
      case atStart => exact ⟨0, by omega, rfl, rfl, by simp⟩
      case round =>
        obtain ⟨j, hj, rfl, rfl, hnc⟩ := hrel
        have Hnc := Lib.hid hnc; clear hnc
        by_cases hjt : j < tn
        · have hjl : j < ts.length := by rw [Htl.out]; exact hjt
          obtain ⟨tb, toff, rfl, _, hcc⟩ := HI.out.at j hjt
          have hck := hcc j hjt
          have Hh := Lib.hid (Hhit.out j hjl)
          have Hs := Lib.hid (contains_snoc hjl Hnc.out)
          clear hcc
          generalize ts[j]'hjl = u at *
          by_cases hut : u = t
          · subst hut
            have Hh2 := Lib.hid (Hh.out rfl)
            clear Hh
            go_wp2_with fail
            go_ret
            exact ⟨by rw [Hh2.out]; rfl, hk1⟩
          · have Hs2 := Lib.hid (Hs.out hut)
            go_wp2_with fail
            go_roundw
            case rel => exact ⟨j + 1, by omega, by go_num, trivial, Hs2.out⟩
            case measure => simp [intOf]; omega
        · have Hf := Lib.hid (Hst.out (by have := Hnc.out; rwa [List.take_of_length_le (by rw [Htl.out]; omega)] at this))
          go_wp2_with fail
          go_roundw
          case rel => exact ⟨k + 1, by omega, by omega, by go_num, trivial, Hf.out⟩
          case measure => simp [intOf]; omega
    · have Hf := Lib.hid (show Q.hasT (ls.take (k0 + 1)) t = false by
        have := Hno.out
        rcases (show k = nl ∨ k = k0 + 1 by omega) with h | h
        · rw [List.take_of_length_le (by rw [Hll.out]; omega)] at this
          unfold Q.hasT at *
          rw [List.any_eq_false] at *
          exact fun x hx => this x (List.mem_of_mem_take hx)
        · rwa [h] at this)
      by_cases hkk : k < k0 + 1
      · have hkn : k = nl := by omega
        go_wp2_with fail
        go_ret
        exact ⟨by rw [Hf.out]; rfl, hk1⟩
      · have hkn : k = k0 + 1 := by omega
        go_wp2_with fail
        go_ret
        exact ⟨by rw [Hf.out]; rfl, hk1⟩

set_option maxRecDepth 100000 in
set_option maxHeartbeats 4000000 in
theorem sender_any (w : World) (nm : ByteArray) (a0 a1 al : Option Addr) (n0 c0 n1 c1 nl cl : Nat) (ls : List Ln) (hl : Lns w al nl ls) (h0 : 0 < ls.length) (hf : ∀ l ∈ ls, l.1 = 0 ∨ l.1 = 1) (k : Nat) (hk0 : k ≤ 100000) :
    Calls Tryd.prog 25 #[patV nm a0 a1 al n0 c0 n1 c1 nl cl, iv (k : Int)] w fun e w' => e = .returned (iv (Q.fromT ls k)) ∧ Kp w w' := by
  have hnl := hl.2.1
  have Hll := Lib.hid hl.1
  have hk1 := Kp.new w (.cells #[.string nm, .slice a0 n0 c0, .slice a1 n1 c1, .slice al nl cl] 26)
  have hB := Bx.new w nm a0 a1 al n0 c0 n1 c1 nl cl
  have hl1 := hk1.lns hl
  obtain ⟨wb, hwb⟩ : ∃ wb, wb = w.alloc (.cells #[.string nm, .slice a0 n0 c0, .slice a1 n1 c1, .slice al nl cl] 26) := ⟨_, rfl⟩
  obtain ⟨bx, hbx⟩ : ∃ bx, bx = w.heap.size := ⟨_, rfl⟩
  rw [← hwb] at hk1 hB hl1
  rw [← hbx] at hB
  obtain ⟨q0, q1, q2, q3⟩ := hB
  go_enter Tryd.func25, Tryd.ntmps25
  go_upto_region 1 with fail
  rw [← hwb, ← hbx]
  clear hwb hbx
  by_cases hlt : k < nl
  · have hkl : k < ls.length := by rw [Hll.out]; exact hlt
    obtain ⟨b, off, tp, tn, tc, rfl, hd1, hd2, hI, htn⟩ := hl1.2.2 k hkl
    have Hf := Lib.hid (show Q.fromT ls k = ls[k].1 by unfold Q.fromT; rw [List.getElem?_eq_getElem hkl])
    generalize ls[k].1 = f at hd1 Hf
    clear hd2 hI hl hl1 hf
    go_wp2_with fail
    go_ret
    exact ⟨by rw [Hf.out]; rfl, hk1⟩
  · have hkn : nl - 1 < ls.length := by rw [Hll.out]; have := Hll.out; omega
    obtain ⟨b, off, tp, tn, tc, rfl, hd1, hd2, hI, htn⟩ := hl1.2.2 (nl - 1) hkn
    have hnl0 : 0 < nl := by have := Hll.out; omega
    have How := Lib.hid (oneWay_any wb nm a0 a1 (some ⟨b, off, none⟩) n0 c0 n1 c1 nl cl ls hl1)
    have Hlast := Lib.hid (Q.lastOf_two hf)
    have HlastV := Lib.hid (show Q.lastOf ls = (ls[nl - 1]'hkn).1 by
      unfold Q.lastOf
      have := Hll.out
      rw [List.getLast?_eq_getElem?, List.getElem?_eq_getElem (by omega)]
      simp only [this])
    have Hf := Lib.hid (show Q.fromT ls k = if oneWay ls then Q.lastOf ls else if (k - nl) % 2 = 0 then 1 - Q.lastOf ls else Q.lastOf ls by
      unfold Q.fromT
      rw [List.getElem?_eq_none (by rw [Hll.out]; omega), Hll.out]
      unfold Q.senderT
      rw [oneWay_Q])
    have HowL := Lib.hid (show oneWay ls = true → Q.lastOf ls = 0 by
      intro h
      rw [← oneWay_Q] at h
      unfold Q.oneWay at h
      split at h
      · simpa [Q.lastOf] using h
      · cases h)
    rw [← HlastV.out] at hd1
    cases how : oneWay ls with
    | true =>
      have HF := Lib.hid (show Q.fromT ls k = 0 by rw [Hf.out, how, if_pos rfl]; exact HowL.out how)
      rw [how] at How
      have hn0 : ((nl : Int) == 0) = false := by simp; omega
      clear Hf HowL how hd2 hI hl hl1 hf hd1
      go_wp2_with fail
      (with_reducible refine How.out.mono ?_)
      rintro e w1 ⟨rfl, hk2⟩
      go_wp2_with fail
      go_ret
      exact ⟨by rw [HF.out]; rfl, Kp.trans hk1 hk2⟩
    | false =>
      have HF := Lib.hid (show Q.fromT ls k = if (k - nl) % 2 = 0 then 1 - Q.lastOf ls else Q.lastOf ls by rw [Hf.out, how, if_neg (by decide)])
      rw [how] at How
      have hn0 : ((nl : Int) == 0) = false := by simp; omega
      clear Hf HowL how
      have Hq := Lib.hid (fun w' (hk : Kp wb w') => And.intro (hk.cell q3) (hk.cell hd1))
      generalize Q.lastOf ls = z at *
      clear hd2 hI hl hl1 hf
      go_wp2_with fail
      (with_reducible refine How.out.mono ?_)
      rintro e w1 ⟨rfl, hk2⟩
      clear q0 q1 q2 q3 hd1
      obtain ⟨q3, hd1⟩ := Hq.out w1 hk2
      go_upto_region 6 with fail
      by_cases hm : (k - nl) % 2 = 0
      · have hc : ((k : Int) - (nl : Int)).tmod 2 = 0 := by rw [show ((k : Int) - (nl : Int)) = ((k - nl : Nat) : Int) by omega, Int.tmod_eq_emod_of_nonneg (by omega)]; omega
        have HF2 := Lib.hid (show Q.fromT ls k = 1 - z by rw [HF.out, if_pos hm])
        clear HF hm
        rcases Hlast.out with hz | hz
        · subst hz
          go_wp2_with fail
          go_ret
          exact ⟨by rw [HF2.out]; rfl, Kp.trans hk1 hk2⟩
        · subst hz
          go_wp2_with fail
          go_ret
          exact ⟨by rw [HF2.out]; rfl, Kp.trans hk1 hk2⟩
      · have hc : ((k : Int) - (nl : Int)).tmod 2 = 1 := by rw [show ((k : Int) - (nl : Int)) = ((k - nl : Nat) : Int) by omega, Int.tmod_eq_emod_of_nonneg (by omega)]; omega
        have HF2 := Lib.hid (show Q.fromT ls k = z by rw [HF.out, if_neg hm])
        clear HF hm
        go_wp2_with fail
        go_ret
        exact ⟨by rw [HF2.out]; rfl, Kp.trans hk1 hk2⟩
end Go.Proofs.YtjbjgpcldcpjmaaDoor

namespace Go.Proofs.YtjbjgpcldcpjmaaDoor
open Go.RowKit

set_option maxHeartbeats 2000000 in
theorem exec_loadB {w : World} {b : Nat} {s : ByteArray} {a0 a1 al : Option Addr} {n0 c0 n1 c1 nl cl : Nat} (h : Bx w b s a0 a1 al n0 c0 n1 c1 nl cl) {ρ : Operand → Value} {x : Operand} (hx : ρ x = .pointer (some ⟨b, 0, none⟩)) {o : Oper} (ho : o.op = .load 26 x) :
    (execOp ρ o).run Tryd.prog w = .ok (.value (patV s a0 a1 al n0 c0 n1 c1 nl cl)) w := by
  obtain ⟨x0, x1, x2, x3⟩ := h
  simp only [execOp, ho, hx]
  go_simp
theorem putsT {ops : Array Oper} : Puts ops (fun _ => True) := fun _ _ _ _ _ _ => trivial
/-- Messages of two sides, at least one. -/
structure Sided (ls : List Ln) : Prop where
  pos : 0 < ls.length
  two : ∀ l ∈ ls, l.1 = 0 ∨ l.1 = 1
set_option maxRecDepth 100000 in
set_option maxHeartbeats 4000000 in
theorem source_any (w : World) (nm : ByteArray) (a0 a1 al : Option Addr) (n0 c0 n1 c1 nl cl : Nat) (ls : List Ln) (hl : Lns w al nl ls) (h2 : Sided ls) (k : Nat) (hk0 : k ≤ 100000) :
    Calls Tryd.prog 26 #[patV nm a0 a1 al n0 c0 n1 c1 nl cl, iv (k : Int)] w fun e w' => e = .returned (iv (Q.srcT (ls.take (k + 1)) (Q.fromT ls k))) ∧ Kp w w' := by
  have hk1 := Kp.new w (.cells #[.string nm, .slice a0 n0 c0, .slice a1 n1 c1, .slice al nl cl] 26)
  have hB := Bx.new w nm a0 a1 al n0 c0 n1 c1 nl cl
  have hl1 := hk1.lns hl
  obtain ⟨wb, hwb⟩ : ∃ wb, wb = w.alloc (.cells #[.string nm, .slice a0 n0 c0, .slice a1 n1 c1, .slice al nl cl] 26) := ⟨_, rfl⟩
  obtain ⟨bx, hbx⟩ : ∃ bx, bx = w.heap.size := ⟨_, rfl⟩
  rw [← hwb] at hk1 hB hl1
  rw [← hbx] at hB
  have HD := Lib.hid (fun w' (h : Kp wb w') t => done_any w' nm a0 a1 al n0 c0 n1 c1 nl cl ls (h.lns hl1) k hk0 t)
  have HS := Lib.hid (fun w' (h : Kp wb w') => sender_any w' nm a0 a1 al n0 c0 n1 c1 nl cl ls (h.lns hl1) h2.pos h2.two k hk0)
  have HF := Lib.hid (show Q.srcT (ls.take (k + 1)) (Q.fromT ls k) = if Q.hasT (ls.take (k + 1)) (Q.staticT (Q.fromT ls k)) = true then 2 else if Q.hasT (ls.take (k + 1)) 6 = true then 1 else 0 from rfl)
  have HB := Lib.hid hB
  have Hk1 := Lib.hid hk1
  clear hl hl1 h2 hB
  generalize Q.fromT ls k = f at *
  generalize Q.srcT (ls.take (k + 1)) f = z at *
  go_enter Tryd.func26, Tryd.ntmps26
  go_upto_region 1 with fail
  rw [← hwb, ← hbx]
  clear hwb hbx
  refine anyH_start (fun w => Bx w bx nm a0 a1 al n0 c0 n1 c1 nl cl) (by kernel_rfl) ?_
  have hkd : Kp wb wb.drew := ⟨rfl, rfl, rfl, Nat.le_refl _, fun _ _ => rfl⟩
  generalize wb.drew = wd at *
  have hBd := HB.out.kp hkd
  refine anyH_load 0 5 (patV nm a0 a1 al n0 c0 n1 c1 nl cl) rfl rfl (by kernel_rfl) hBd (fun w h => exec_loadB h rfl rfl) ?_
  simp only [Act.put, List.setIfInBounds_toArray, List.set_cons_zero, List.set_cons_succ]
  refine anyH_load 2 7 (patV nm a0 a1 al n0 c0 n1 c1 nl cl) rfl rfl (by kernel_rfl) hBd (fun w h => exec_loadB h rfl rfl) ?_
  simp only [Act.put, List.setIfInBounds_toArray, List.set_cons_zero, List.set_cons_succ]
  refine anyH_take [1, 3] (by kernel_rfl) hBd ?_
  simp only [opsAt, List.getElem?_toArray, List.getElem?_cons_zero, List.getElem?_cons_succ]
  repeat (go_big_quiet_step (fail))
  refine wpQuiet_nil ?_
  refine anyH_one 4 (by kernel_rfl) ?_
  simp only [opsAt, List.getElem?_toArray, List.getElem?_cons_zero, List.getElem?_cons_succ]
  have HBd := Lib.hid hBd
  clear hBd
  go_wp2_with fail
  (with_reducible refine (HS.out wd hkd).mono ?_)
  rintro e w1 ⟨rfl, hk2⟩
  go_wp2_with fail
  refine ⟨HBd.out.kp hk2, ?_⟩
  refine anyH_one 5 (by kernel_rfl) ?_
  simp only [opsAt, List.getElem?_toArray, List.getElem?_cons_zero, List.getElem?_cons_succ]
  go_wp2_with fail
  (with_reducible refine (static_any w1 f).mono ?_)
  rintro e w2 ⟨rfl, rfl⟩
  go_wp2_with fail
  refine ⟨HBd.out.kp hk2, ?_⟩
  refine anyH_one 6 (by kernel_rfl) ?_
  simp only [opsAt, List.getElem?_toArray, List.getElem?_cons_zero, List.getElem?_cons_succ]
  have hkd2 := Kp.trans hkd hk2
  go_wp2_with fail
  (with_reducible refine (HD.out w1 hkd2 (Q.staticT f)).mono ?_)
  rintro e w3 ⟨rfl, hk3⟩
  go_wp2_with fail
  refine ⟨HBd.out.kp (Kp.trans hk2 hk3), ?_⟩
  refine anyH_end (by kernel_rfl) ?_
  have hkd3 := Kp.trans hkd2 hk3
  cases hq : Q.hasT (ls.take (k + 1)) (Q.staticT f) with
  | true =>
    have HF2 := Lib.hid (show z = 2 by rw [HF.out, hq]; rfl)
    clear HF hq
    go_wp2_with fail
    go_ret
    exact ⟨by rw [HF2.out]; rfl, Kp.trans Hk1.out hkd3⟩
  | false =>
    have HF2 := Lib.hid (show z = if Q.hasT (ls.take (k + 1)) 6 = true then 1 else 0 by rw [HF.out, hq]; rfl)
    clear HF hq
    obtain ⟨y0, y1, y2, y3⟩ := HB.out.kp hkd3
    go_wp2_with fail
    (with_reducible refine (HD.out w3 hkd3 6).mono ?_)
    rintro e w4 ⟨rfl, hk4⟩
    clear y0 y1 y2 y3
    cases hq : Q.hasT (ls.take (k + 1)) 6 with
    | true =>
      have HF3 := Lib.hid (show z = 1 by rw [HF2.out, hq]; rfl)
      clear HF2 hq
      go_wp2_with fail
      go_ret
      exact ⟨by rw [HF3.out]; rfl, Kp.trans Hk1.out (Kp.trans hkd3 hk4)⟩
    | false =>
      have HF3 := Lib.hid (show z = 0 by rw [HF2.out, hq]; rfl)
      clear HF2 hq
      go_wp2_with fail
      go_ret
      exact ⟨by rw [HF3.out]; rfl, Kp.trans Hk1.out (Kp.trans hkd3 hk4)⟩

theorem bestR_range (ls : List Ln) (f : Int) : ∀ k, 0 ≤ Q.bestR ls f k ∧ Q.bestR ls f k ≤ 2
  | 0 => by simp [Q.bestR]
  | k + 1 => by
    have ih := bestR_range ls f k
    have := Q.srcT_range (ls.take (k + 1)) (Q.fromT ls k)
    unfold Q.bestR
    split <;> omega
set_option maxRecDepth 100000 in
set_option maxHeartbeats 4000000 in
theorem dest_any (w : World) (nm : ByteArray) (a0 a1 al : Option Addr) (n0 c0 n1 c1 nl cl : Nat) (ls : List Ln) (hl : Lns w al nl ls) (h2 : Sided ls) (k : Nat) (hk0 : k ≤ 100000) :
    Calls Tryd.prog 27 #[patV nm a0 a1 al n0 c0 n1 c1 nl cl, iv (k : Int)] w fun e w' => e = .returned (iv (Q.dstR ls k (Q.fromT ls k))) ∧ Kp w w' := by
  have hk1 := Kp.new w (.cells #[.string nm, .slice a0 n0 c0, .slice a1 n1 c1, .slice al nl cl] 26)
  have hB := Bx.new w nm a0 a1 al n0 c0 n1 c1 nl cl
  have hl1 := hk1.lns hl
  obtain ⟨wb, hwb⟩ : ∃ wb, wb = w.alloc (.cells #[.string nm, .slice a0 n0 c0, .slice a1 n1 c1, .slice al nl cl] 26) := ⟨_, rfl⟩
  obtain ⟨bx, hbx⟩ : ∃ bx, bx = w.heap.size := ⟨_, rfl⟩
  rw [← hwb] at hk1 hB hl1
  rw [← hbx] at hB
  have HD := Lib.hid (fun w' (h : Kp wb w') t => done_any w' nm a0 a1 al n0 c0 n1 c1 nl cl ls (h.lns hl1) k hk0 t)
  have HS := Lib.hid (fun w' (h : Kp wb w') i (hi : i ≤ 100000) => sender_any w' nm a0 a1 al n0 c0 n1 c1 nl cl ls (h.lns hl1) h2.pos h2.two i hi)
  have HR := Lib.hid (fun w' (h : Kp wb w') i (hi : i ≤ 100000) => source_any w' nm a0 a1 al n0 c0 n1 c1 nl cl ls (h.lns hl1) h2 i hi)
  have h01 := Q.fromT_two h2.two k
  have HSk := Lib.hid (HS.out wb (Kp.refl _) k hk0)
  have HF := Lib.hid (show Q.dstR ls k (Q.fromT ls k) = if (!Q.hasT (ls.take (k + 1)) 3 && !Q.hasT (ls.take (k + 1)) (Q.staticT (1 - Q.fromT ls k))) = true then 0 else if (!Q.hasT (ls.take (k + 1)) (Q.staticT (1 - Q.fromT ls k))) = true then 1 else if (!Q.hasT (ls.take (k + 1)) 3) = true then 2 else 3 + Q.bestR ls (Q.fromT ls k) k from rfl)
  have HB := Lib.hid hB
  have Hk1 := Lib.hid hk1
  obtain ⟨y0, y1, y2, y3⟩ := hB
  clear hl hl1 h2
  generalize Q.fromT ls k = f at *
  generalize Q.dstR ls k f = z at *
  have hf1 : 0 ≤ f ∧ f ≤ 1 := by omega
  clear h01
  obtain ⟨hf0, hf1⟩ := hf1
  go_enter Tryd.func27, Tryd.ntmps27
  go_upto_region 1 with fail
  rw [← hwb, ← hbx]
  clear hwb hbx
  go_wp2_with fail
  (with_reducible refine HSk.out.mono ?_)
  rintro e w1 ⟨rfl, hk2⟩
  clear y0 y1 y2 y3 hk1
  obtain ⟨y0, y1, y2, y3⟩ := HB.out.kp hk2
  go_wp2_with fail
  (with_reducible refine (HD.out w1 hk2 3).mono ?_)
  rintro e w2 ⟨rfl, hk3⟩
  clear y0 y1 y2 y3
  have hk13 := Kp.trans hk2 hk3
  clear hk2 hk3
  generalize hA : Q.hasT (ls.take (k + 1)) 3 = A at *
  generalize hC : Q.hasT (ls.take (k + 1)) (Q.staticT (1 - f)) = C at *
  have HDc := Lib.hid (fun w' (h : Kp wb w') => HD.out w' h (Q.staticT (1 - f)))
  rw [hC] at HDc
  clear hA hC
  go_upto_region 3 with fail
  refine anyH_start (fun w => Bx w bx nm a0 a1 al n0 c0 n1 c1 nl cl) (by kernel_rfl) ?_
  have hkd : Kp w2 w2.drew := ⟨rfl, rfl, rfl, Nat.le_refl _, fun _ _ => rfl⟩
  generalize w2.drew = wd at *
  have hkd := Kp.trans hk13 hkd
  have hBd := HB.out.kp hkd
  refine anyH_load 0 16 (patV nm a0 a1 al n0 c0 n1 c1 nl cl) rfl rfl (by kernel_rfl) hBd (fun w h => exec_loadB h rfl rfl) ?_
  simp only [Act.put, List.setIfInBounds_toArray, List.set_cons_zero, List.set_cons_succ]
  refine anyH_take [1, 2, 3] (by kernel_rfl) hBd ?_
  simp only [opsAt, List.getElem?_toArray, List.getElem?_cons_zero, List.getElem?_cons_succ]
  repeat (go_big_quiet_step (fail))
  refine wpQuiet_nil ?_
  refine anyH_one 4 (by kernel_rfl) ?_
  simp only [opsAt, List.getElem?_toArray, List.getElem?_cons_zero, List.getElem?_cons_succ]
  have HBd := Lib.hid hBd
  clear hBd
  go_wp2_with fail
  (with_reducible refine (static_any wd (1 - f)).mono ?_)
  rintro e w3 ⟨rfl, rfl⟩
  go_wp2_with fail
  refine ⟨HBd.out, ?_⟩
  refine anyH_one 5 (by kernel_rfl) ?_
  simp only [opsAt, List.getElem?_toArray, List.getElem?_cons_zero, List.getElem?_cons_succ]
  go_wp2_with fail
  (with_reducible refine (HDc.out wd hkd).mono ?_)
  rintro e w4 ⟨rfl, hk4⟩
  go_wp2_with fail
  refine ⟨HBd.out.kp hk4, ?_⟩
  refine anyH_one 6 (by kernel_rfl) ?_
  simp only [opsAt, List.getElem?_toArray, List.getElem?_cons_zero, List.getElem?_cons_succ]
  go_wp2_with fail
  refine ⟨HBd.out.kp hk4, ?_⟩
  refine anyH_end (by kernel_rfl) ?_
  have hkw := Kp.trans hkd hk4
  clear hkd hk4 HDc HD hk13
  have HK := Lib.hid (Kp.trans Hk1.out hkw)
  cases C with
  | false =>
    cases A with
    | false =>
      have HF2 := Lib.hid (show z = 0 from HF.out)
      clear HF
      go_wp2_with fail
      go_ret
      exact ⟨by rw [HF2.out]; rfl, HK.out⟩
    | true =>
      have HF2 := Lib.hid (show z = 1 from HF.out)
      clear HF
      go_wp2_with fail
      go_ret
      exact ⟨by rw [HF2.out]; rfl, HK.out⟩
  | true =>
    cases A with
    | false =>
      have HF2 := Lib.hid (show z = 2 from HF.out)
      clear HF
      go_wp2_with fail
      go_ret
      exact ⟨by rw [HF2.out]; rfl, HK.out⟩
    | true =>
      have HF2 := Lib.hid (show z = 3 + Q.bestR ls f k from HF.out)
      clear HF
      go_wp2_with fail
      go_loopw [8, 9] (fun v i wr => ∃ j : Nat, j ≤ k ∧ i = .int .i64 (j : Nat) ∧ v = iv (Q.bestR ls f j) ∧ Kp wb wr) (fun _ i _ => k - (intOf i).toNat)
      case atStart => exact ⟨0, by omega, rfl, rfl, hkw⟩
      case round =>
        obtain ⟨j, hj, rfl, rfl, hkr⟩ := hrel
        have hbr := bestR_range ls f j
        obtain ⟨hb0, hb1⟩ := hbr
        by_cases hlt : j < k
        · have Hbs := Lib.hid (show Q.bestR ls f (j + 1) = if Q.fromT ls j ≠ f ∧ Q.srcT (ls.take (j + 1)) (Q.fromT ls j) > Q.bestR ls f j then Q.srcT (ls.take (j + 1)) (Q.fromT ls j) else Q.bestR ls f j from rfl)
          have HSj := Lib.hid (HS.out wr hkr j (by omega))
          have HRj := Lib.hid (fun w' (h : Kp wb w') => HR.out w' h j (by omega))
          have hsr := Q.srcT_range (ls.take (j + 1)) (Q.fromT ls j)
          obtain ⟨hs0, hs1⟩ := hsr
          generalize Q.fromT ls j = g at *
          generalize Q.srcT (ls.take (j + 1)) g = s at *
          generalize Q.bestR ls f j = b at *
          obtain ⟨y0, y1, y2, y3⟩ := HB.out.kp hkr
          have Hkr := Lib.hid hkr
          clear hkr
          by_cases hgf : g = f
          · have Hb' := Lib.hid (show Q.bestR ls f (j + 1) = b by rw [Hbs.out, if_neg (fun h => h.1 hgf)])
            subst hgf
            clear Hbs
            go_wp2_with fail
            (with_reducible refine HSj.out.mono ?_)
            rintro e w5 ⟨rfl, hk5⟩
            clear y0 y1 y2 y3
            go_wp2_with fail
            go_roundw
            case rel => exact ⟨j + 1, by omega, by go_num, by rw [Hb'.out], Kp.trans Hkr.out hk5⟩
            case measure => simp [intOf]; omega
          · by_cases hsb : s > b
            · have Hb' := Lib.hid (show Q.bestR ls f (j + 1) = s by rw [Hbs.out, if_pos ⟨hgf, hsb⟩])
              clear Hbs
              go_wp2_with fail
              (with_reducible refine HSj.out.mono ?_)
              rintro e w5 ⟨rfl, hk5⟩
              clear y0 y1 y2 y3
              have hk5 := Kp.trans Hkr.out hk5
              obtain ⟨y0, y1, y2, y3⟩ := HB.out.kp hk5
              go_wp2_with fail
              (with_reducible refine (HRj.out w5 hk5).mono ?_)
              rintro e w6 ⟨rfl, hk6⟩
              clear y0 y1 y2 y3
              have hk6 := Kp.trans hk5 hk6
              obtain ⟨y0, y1, y2, y3⟩ := HB.out.kp hk6
              go_wp2_with fail
              (with_reducible refine (HRj.out w6 hk6).mono ?_)
              rintro e w7 ⟨rfl, hk7⟩
              clear y0 y1 y2 y3
              go_wp2_with fail
              go_roundw
              case rel => exact ⟨j + 1, by omega, by go_num, by rw [Hb'.out], Kp.trans hk6 hk7⟩
              case measure => simp [intOf]; omega
            · have Hb' := Lib.hid (show Q.bestR ls f (j + 1) = b by rw [Hbs.out, if_neg (fun h => hsb h.2)])
              clear Hbs
              go_wp2_with fail
              (with_reducible refine HSj.out.mono ?_)
              rintro e w5 ⟨rfl, hk5⟩
              clear y0 y1 y2 y3
              have hk5 := Kp.trans Hkr.out hk5
              obtain ⟨y0, y1, y2, y3⟩ := HB.out.kp hk5
              go_wp2_with fail
              (with_reducible refine (HRj.out w5 hk5).mono ?_)
              rintro e w6 ⟨rfl, hk6⟩
              clear y0 y1 y2 y3
              have hk6 := Kp.trans hk5 hk6
              go_wp2_with fail
              go_roundw
              case rel => exact ⟨j + 1, by omega, by go_num, by rw [Hb'.out], hk6⟩
              case measure => simp [intOf]; omega
        · obtain rfl : j = k := by omega
          have HK2 := Lib.hid (Kp.trans Hk1.out hkr)
          generalize Q.bestR ls f j = b at *
          go_wp2_with fail
          go_ret
          exact ⟨by rw [HF2.out]; rfl, HK2.out⟩
end Go.Proofs.YtjbjgpcldcpjmaaDoor
