/- Parts of the walks and plain laws, merged: RefLaw, RefMem, RefBegin, Loads, LentA, Room. Each theorem bears its own conditions; no other. -/
import Derived.Test.YtpemfmjplejdiaaDoorRefTok
import Derived.Test.YtpemfmjplejdiaaDoorGa2
import Derived.Test.YtpemfmjplejdiaaDoorGa4
import Derived.Test.YtpemfmjplejdiaaDoorGa3
namespace Go.Proofs.YtpemfmjplejdiaaDoor
open Go.RowKit

def Rel (X S : Nat → Bool) : Prop := X 0 = S 1 ∧ X 1 = S 4 ∧ X 2 = S 2 ∧ X 3 = S 5 ∧ X 7 = S 9 ∧ X 8 = S 10 ∧ X 9 = S 11 ∧ X 10 = S 12 ∧ X 11 = S 13
theorem safe_rel {X S : Nat → Bool} (h : Rel X S) (f : Int) (hf : f = 0 ∨ f = 1) : safeR X f = safeL S f := by
  obtain ⟨h0, h1, h2, h3, h7, h8, h9, h10, h11⟩ := h
  rcases hf with rfl | rfl
  · show ((!X 11 || X 0) && ((!X 9 || X 7) && (!X 10 || X 8))) = ((!S 11 || S 9) && (!S 12 || S 10) && (!S 13 || S 1))
    rw [h0, h7, h8, h9, h10, h11]
    generalize S 1 = a, S 9 = b, S 10 = c, S 11 = d, S 12 = e, S 13 = g
    cases a <;> cases b <;> cases c <;> cases d <;> cases e <;> cases g <;> rfl
  · show ((!X 11 || X 1) && ((!X 8 || X 7) && (!X 10 || X 9))) = ((!S 10 || S 9) && (!S 12 || S 11) && (!S 13 || S 4))
    rw [h1, h7, h8, h9, h10, h11]
    generalize S 4 = a, S 9 = b, S 10 = c, S 11 = d, S 12 = e, S 13 = g
    cases a <;> cases b <;> cases c <;> cases d <;> cases e <;> cases g <;> rfl
theorem off_last (S : Nat → Bool) (f t : Int) : offL S f t true = if offL S f t false = 0 then (if safeL (tookL S f t) f then 0 else 12) else offL S f t false := by
  unfold offL
  generalize ((keyT t && S (3 * f + t).toNat) || (isSec t && S (6 + t).toNat)) = a
  generalize (isSec t && (!S (wantI t).toNat || !S (3 + wantR t).toNat)) = b
  generalize (t == 2 && !safeL S f) = c
  generalize safeL (tookL S f t) f = d
  cases a <;> cases b <;> cases c <;> cases d <;> rfl
theorem tok_rel {X S : Nat → Bool} (h : Rel X S) (f t : Int) (hf : f = 0 ∨ f = 1) (h1 : 1 ≤ t) (h7 : t ≤ 7) : (tokR X f t).2 = offL S f t false ∧ (offL S f t false = 0 → Rel (tokR X f t).1 (tookL S f t)) := by
  have hs := safe_rel h f hf
  obtain ⟨g0, g1, g2, g3, g7, g8, g9, g10, g11⟩ := h
  rcases hf with rfl | rfl <;> rcases (show t = 1 ∨ t = 2 ∨ t = 3 ∨ t = 4 ∨ t = 5 ∨ t = 6 ∨ t = 7 by omega) with rfl | rfl | rfl | rfl | rfl | rfl | rfl
  all_goals
    refine ⟨?_, fun ho => ?_⟩
    · simp only [tokR, offL, hasR, keyT, isSec, wantI, wantR, hs]
      simp [g0, g1, g2, g3, g7, g8, g9, g10]
      try ((repeat' split) <;> simp_all)
    · simp only [tokR, offL, hasR, keyT, isSec, wantI, wantR, hs, tookL] at ho ⊢
      simp [g0, g1, g2, g3, g7, g8, g9, g10] at ho ⊢
      try ((repeat' split at ho) <;> simp_all [Rel, upd])

def toksR (X : Nat → Bool) (f : Int) : List Int → Nat × (Nat → Bool)
  | [] => (0, X)
  | t :: r => if (tokR X f t).2 = 0 then toksR (tokR X f t).1 f r else ((tokR X f t).2, X)
def lsR (X : Nat → Bool) : List Ln → Nat × (Nat → Bool)
  | [] => (0, X)
  | l :: r => if (toksR X l.1 l.2).1 = 0 then (if safeR (toksR X l.1 l.2).2 l.1 then lsR (toksR X l.1 l.2).2 r else (12, X)) else ((toksR X l.1 l.2).1, X)
def begR (d : Nat) (X : Nat → Bool) (l : List Int) : Nat → Bool := l.foldl (fun X t => if t = 1 then upd X d true else upd X (2 + d) true) X
def begunR (b0 b1 : List Int) : Nat → Bool := begR 1 (begR 0 S0 b0) b1
/-- The document's number of the error. -/
def checkR (b0 b1 : List Int) (ls : List Ln) : Nat :=
  if shapedL b0 b1 ls then (if (lsR (begunR b0 b1) ls).1 = 0 then (if !safeR (lsR (begunR b0 b1) ls).2 0 || (!oneWay ls && !safeR (lsR (begunR b0 b1) ls).2 1) then 12 else 0) else (lsR (begunR b0 b1) ls).1) else 9

theorem toks_rel (f : Int) (hf : f = 0 ∨ f = 1) : ∀ (ts : List Int) (X S : Nat → Bool), ts ≠ [] → (∀ t ∈ ts, 1 ≤ t ∧ t ≤ 7) → Rel X S →
    (runToks S f ts).1 = (if (toksR X f ts).1 = 0 then (if safeR (toksR X f ts).2 f then 0 else 12) else (toksR X f ts).1) ∧ ((runToks S f ts).1 = 0 → Rel (toksR X f ts).2 (runToks S f ts).2)
  | [], _, _, h, _, _ => absurd rfl h
  | [t], X, S, _, ht, h => by
    obtain ⟨h1, h2⟩ := tok_rel h f t hf (ht t (by simp)).1 (ht t (by simp)).2
    unfold runToks toksR
    simp only [List.isEmpty_nil, runToks, toksR, h1]
    simp only [off_last]
    by_cases h0 : offL S f t false = 0
    · have hr := h2 h0
      have hs := safe_rel hr f hf
      simp only [h0, if_true, hs]
      cases hq : safeL (tookL S f t) f with
      | true => simp; exact hr
      | false => simp
    · simp [h0]
  | t :: u :: r, X, S, _, ht, h => by
    obtain ⟨h1, h2⟩ := tok_rel h f t hf (ht t (by simp)).1 (ht t (by simp)).2
    rw [runToks, toksR]
    simp only [List.isEmpty_cons, h1]
    by_cases h0 : offL S f t false = 0
    · have := toks_rel f hf (u :: r) _ _ (by simp) (fun x hx => ht x (by simp only [List.mem_cons] at hx ⊢; exact .inr hx)) (h2 h0)
      simp only [h0, if_true]
      exact this
    · simp [h0]
theorem ls_rel : ∀ (ls : List Ln) (X S : Nat → Bool), (∀ l ∈ ls, (l.1 = 0 ∨ l.1 = 1) ∧ l.2 ≠ [] ∧ ∀ t ∈ l.2, 1 ≤ t ∧ t ≤ 7) → Rel X S →
    (runLs S ls).1 = (lsR X ls).1 ∧ ((runLs S ls).1 = 0 → Rel (lsR X ls).2 (runLs S ls).2)
  | [], X, S, _, h => ⟨rfl, fun _ => h⟩
  | l :: r, X, S, hl, h => by
    obtain ⟨g1, g2, g3⟩ := hl l (by simp)
    obtain ⟨h1, h2⟩ := toks_rel l.1 g1 l.2 X S g2 g3 h
    rw [runLs, lsR]
    by_cases h0 : (toksR X l.1 l.2).1 = 0
    · rw [if_pos h0] at h1
      rw [if_pos h0]
      cases hs : safeR (toksR X l.1 l.2).2 l.1 with
      | true =>
        rw [hs, if_pos rfl] at h1
        rw [if_pos h1, if_pos rfl]
        exact ls_rel r _ _ (fun x hx => hl x (by simp [hx])) (h2 h1)
      | false =>
        rw [hs, if_neg (by simp)] at h1
        rw [if_neg (by omega), if_neg (by simp)]
        exact ⟨h1, fun h => by omega⟩
    · rw [if_neg h0] at h1
      rw [if_neg h0, if_neg (by omega)]
      exact ⟨h1, fun h => by omega⟩
theorem beg_rel0 : ∀ (l : List Int) (X S : Nat → Bool), (∀ t ∈ l, t = 1 ∨ t = 2) → Rel X S → Rel (begR 0 X l) (l.foldl (fun S t => upd S t.toNat true) S)
  | [], _, _, _, h => h
  | t :: r, X, S, ht, h => by
    unfold begR
    rw [List.foldl_cons, List.foldl_cons]
    refine beg_rel0 r _ _ (fun x hx => ht x (by simp [hx])) ?_
    obtain ⟨g0, g1, g2, g3, g7, g8, g9, g10, g11⟩ := h
    rcases ht t (by simp) with rfl | rfl <;> simp [Rel, upd, g0, g1, g2, g3, g7, g8, g9, g10, g11]
theorem beg_rel1 : ∀ (l : List Int) (X S : Nat → Bool), (∀ t ∈ l, t = 1 ∨ t = 2) → Rel X S → Rel (begR 1 X l) (l.foldl (fun S t => upd S (3 + t).toNat true) S)
  | [], _, _, _, h => h
  | t :: r, X, S, ht, h => by
    unfold begR
    rw [List.foldl_cons, List.foldl_cons]
    refine beg_rel1 r _ _ (fun x hx => ht x (by simp [hx])) ?_
    obtain ⟨g0, g1, g2, g3, g7, g8, g9, g10, g11⟩ := h
    rcases ht t (by simp) with rfl | rfl <;> simp [Rel, upd, g0, g1, g2, g3, g7, g8, g9, g10, g11]
theorem checkR_eq (b0 b1 : List Int) (ls : List Ln) : checkR b0 b1 ls = checkL b0 b1 ls := by
  unfold checkR checkL
  cases hs : shapedL b0 b1 ls with
  | false => rfl
  | true =>
    obtain ⟨h0, h1, _, hl⟩ := shapedL_mem hs
    have g0 : ∀ t ∈ b0, t = 1 ∨ t = 2 := fun t ht => by obtain ⟨j, hj, rfl⟩ := List.getElem_of_mem ht; exact okB_mem h0 j hj
    have g1 : ∀ t ∈ b1, t = 1 ∨ t = 2 := fun t ht => by obtain ⟨j, hj, rfl⟩ := List.getElem_of_mem ht; exact okB_mem h1 j hj
    have gl : ∀ l ∈ ls, (l.1 = 0 ∨ l.1 = 1) ∧ l.2 ≠ [] ∧ ∀ t ∈ l.2, 1 ≤ t ∧ t ≤ 7 := fun l hm => by
      obtain ⟨j, hj, rfl⟩ := List.getElem_of_mem hm
      obtain ⟨q1, q2, q3⟩ := hl j hj
      exact ⟨q1, fun h => by rw [h] at q2; simp at q2, fun t ht => by obtain ⟨i, hi, rfl⟩ := List.getElem_of_mem ht; exact q3 i hi⟩
    have hb : Rel (begunR b0 b1) (begunL b0 b1) := beg_rel1 b1 _ _ g1 (beg_rel0 b0 _ _ g0 ⟨rfl, rfl, rfl, rfl, rfl, rfl, rfl, rfl, rfl⟩)
    obtain ⟨q1, q2⟩ := ls_rel ls _ _ gl hb
    rw [if_pos rfl, if_pos rfl, ← q1]
    by_cases hz : (runLs (begunL b0 b1) ls).1 = 0
    · have hr := q2 hz
      rw [if_pos hz, if_pos hz, safe_rel hr 0 (.inl rfl), safe_rel hr 1 (.inr rfl)]
      rfl
    · rw [if_neg hz, if_neg hz]
end Go.Proofs.YtpemfmjplejdiaaDoor

namespace Go.Proofs.YtpemfmjplejdiaaDoor
open Go.RowKit

/-- It lies in block b. -/
def SnAt (w : World) (b : Nat) (X : Nat → Bool) : Prop := ∀ j, j < 12 → w.cell? ⟨b, j, none⟩ = some (.bool (X j)) ∧ w.frozen? ⟨b, j, none⟩ = false
theorem SnAt.fr {Z : List Nat} {w w' : World} {b : Nat} {X : Nat → Bool} (h : SnAt w b X) (k : Fr Z w w') (hb : b ∉ Z) : SnAt w' b X := fun j hj => ⟨k.cell (h j hj).1 hb, k.free (h j hj).1 (h j hj).2 hb⟩
theorem SnAt.kp {w w' : World} {b : Nat} {X : Nat → Bool} (h : SnAt w b X) (k : Kp w w') : SnAt w' b X := h.fr (Fr.of_kp k) (by simp)
theorem SnAt.cells {w : World} {b : Nat} {X : Nat → Bool} (h : SnAt w b X) : w.cell? ⟨b, 0, none⟩ = some (.bool (X 0)) ∧ w.cell? ⟨b, 1, none⟩ = some (.bool (X 1)) ∧ w.cell? ⟨b, 2, none⟩ = some (.bool (X 2)) ∧ w.cell? ⟨b, 3, none⟩ = some (.bool (X 3)) ∧ w.cell? ⟨b, 4, none⟩ = some (.bool (X 4)) ∧ w.cell? ⟨b, 5, none⟩ = some (.bool (X 5)) ∧ w.cell? ⟨b, 6, none⟩ = some (.bool (X 6)) ∧ w.cell? ⟨b, 7, none⟩ = some (.bool (X 7)) ∧ w.cell? ⟨b, 8, none⟩ = some (.bool (X 8)) ∧ w.cell? ⟨b, 9, none⟩ = some (.bool (X 9)) ∧ w.cell? ⟨b, 10, none⟩ = some (.bool (X 10)) ∧ w.cell? ⟨b, 11, none⟩ = some (.bool (X 11)) :=
  ⟨(h 0 (by omega)).1, (h 1 (by omega)).1, (h 2 (by omega)).1, (h 3 (by omega)).1, (h 4 (by omega)).1, (h 5 (by omega)).1, (h 6 (by omega)).1, (h 7 (by omega)).1, (h 8 (by omega)).1, (h 9 (by omega)).1, (h 10 (by omega)).1, (h 11 (by omega)).1⟩
theorem SnAt.free {w : World} {b : Nat} {X : Nat → Bool} (h : SnAt w b X) : w.frozen? ⟨b, 0, none⟩ = false ∧ w.frozen? ⟨b, 1, none⟩ = false ∧ w.frozen? ⟨b, 2, none⟩ = false ∧ w.frozen? ⟨b, 3, none⟩ = false ∧ w.frozen? ⟨b, 4, none⟩ = false ∧ w.frozen? ⟨b, 5, none⟩ = false ∧ w.frozen? ⟨b, 6, none⟩ = false ∧ w.frozen? ⟨b, 7, none⟩ = false ∧ w.frozen? ⟨b, 8, none⟩ = false ∧ w.frozen? ⟨b, 9, none⟩ = false ∧ w.frozen? ⟨b, 10, none⟩ = false ∧ w.frozen? ⟨b, 11, none⟩ = false :=
  ⟨(h 0 (by omega)).2, (h 1 (by omega)).2, (h 2 (by omega)).2, (h 3 (by omega)).2, (h 4 (by omega)).2, (h 5 (by omega)).2, (h 6 (by omega)).2, (h 7 (by omega)).2, (h 8 (by omega)).2, (h 9 (by omega)).2, (h 10 (by omega)).2, (h 11 (by omega)).2⟩
theorem SnAt.lt {w : World} {b : Nat} {X : Nat → Bool} (h : SnAt w b X) : b < w.heap.size := World.block_lt_of_cell? w _ (h 0 (by omega)).1
theorem SnAt.set {w : World} {b : Nat} {X : Nat → Bool} (h : SnAt w b X) (k : Nat) (hk : k < 12) (v : Bool) : SnAt (w.setCell ⟨b, k, none⟩ (.bool v)) b (upd X k v) := fun j hj => by
  constructor
  · by_cases hjk : j = k
    · subst hjk
      rw [World.cell?_setCell_same _ _ _ (h j hj).1]; simp only [upd, if_true]
    · rw [World.cell?_setCell_other _ _ _ _ (by simp <;> omega), (h j hj).1]; simp [upd, hjk]
  · rw [World.frozen?_setCell]; exact (h j hj).2
theorem lt12 {j : Nat} (h : j < 12) : j = 0 ∨ j = 1 ∨ j = 2 ∨ j = 3 ∨ j = 4 ∨ j = 5 ∨ j = 6 ∨ j = 7 ∨ j = 8 ∨ j = 9 ∨ j = 10 ∨ j = 11 := by omega
theorem SnAt.new (w : World) (Y : Nat → Bool) : SnAt (w.alloc (.cells #[.bool (Y 0), .bool (Y 1), .bool (Y 2), .bool (Y 3), .bool (Y 4), .bool (Y 5), .bool (Y 6), .bool (Y 7), .bool (Y 8), .bool (Y 9), .bool (Y 10), .bool (Y 11)] 88)) w.heap.size Y := fun j hj => by
  constructor
  · rw [World.cell?_alloc_at _ _ _ _ rfl]
    rcases lt12 hj with rfl | rfl | rfl | rfl | rfl | rfl | rfl | rfl | rfl | rfl | rfl | rfl <;> rfl
  · exact World.frozen?_alloc_at _ _ _ _ rfl
theorem SnAt.zero (w : World) : SnAt (w.alloc (.cells #[.bool false, .bool false, .bool false, .bool false, .bool false, .bool false, .bool false, .bool false, .bool false, .bool false, .bool false, .bool false] 88)) w.heap.size S0 := SnAt.new w S0
/-- All of it written over. -/
theorem SnAt.store {w : World} {b : Nat} {X : Nat → Bool} (h : SnAt w b X) (Y : Nat → Bool) :
    SnAt ((((((((((((w.setCell ⟨b, 0, none⟩ (.bool (Y 0))).setCell ⟨b, 1, none⟩ (.bool (Y 1))).setCell ⟨b, 2, none⟩ (.bool (Y 2))).setCell ⟨b, 3, none⟩ (.bool (Y 3))).setCell ⟨b, 4, none⟩ (.bool (Y 4))).setCell ⟨b, 5, none⟩ (.bool (Y 5))).setCell ⟨b, 6, none⟩ (.bool (Y 6))).setCell ⟨b, 7, none⟩ (.bool (Y 7))).setCell ⟨b, 8, none⟩ (.bool (Y 8))).setCell ⟨b, 9, none⟩ (.bool (Y 9))).setCell ⟨b, 10, none⟩ (.bool (Y 10))).setCell ⟨b, 11, none⟩ (.bool (Y 11))) b Y ∧
    Fr [b] w ((((((((((((w.setCell ⟨b, 0, none⟩ (.bool (Y 0))).setCell ⟨b, 1, none⟩ (.bool (Y 1))).setCell ⟨b, 2, none⟩ (.bool (Y 2))).setCell ⟨b, 3, none⟩ (.bool (Y 3))).setCell ⟨b, 4, none⟩ (.bool (Y 4))).setCell ⟨b, 5, none⟩ (.bool (Y 5))).setCell ⟨b, 6, none⟩ (.bool (Y 6))).setCell ⟨b, 7, none⟩ (.bool (Y 7))).setCell ⟨b, 8, none⟩ (.bool (Y 8))).setCell ⟨b, 9, none⟩ (.bool (Y 9))).setCell ⟨b, 10, none⟩ (.bool (Y 10))).setCell ⟨b, 11, none⟩ (.bool (Y 11))) := by
  constructor
  · have := ((((((((((((h.set 0 (by omega) (Y 0)).set 1 (by omega) (Y 1)).set 2 (by omega) (Y 2)).set 3 (by omega) (Y 3)).set 4 (by omega) (Y 4)).set 5 (by omega) (Y 5)).set 6 (by omega) (Y 6)).set 7 (by omega) (Y 7)).set 8 (by omega) (Y 8)).set 9 (by omega) (Y 9)).set 10 (by omega) (Y 10)).set 11 (by omega) (Y 11))
    intro j hj
    have h2 := this j hj
    refine ⟨h2.1.trans ?_, h2.2⟩
    congr 2
    rcases lt12 hj with rfl | rfl | rfl | rfl | rfl | rfl | rfl | rfl | rfl | rfl | rfl | rfl <;> rfl
  · exact ((((((((((((Fr.set w ⟨b, 0, none⟩ _).trans (Fr.set _ ⟨b, 1, none⟩ _)).trans (Fr.set _ ⟨b, 2, none⟩ _)).trans (Fr.set _ ⟨b, 3, none⟩ _)).trans (Fr.set _ ⟨b, 4, none⟩ _)).trans (Fr.set _ ⟨b, 5, none⟩ _)).trans (Fr.set _ ⟨b, 6, none⟩ _)).trans (Fr.set _ ⟨b, 7, none⟩ _)).trans (Fr.set _ ⟨b, 8, none⟩ _)).trans (Fr.set _ ⟨b, 9, none⟩ _)).trans (Fr.set _ ⟨b, 10, none⟩ _)).trans (Fr.set _ ⟨b, 11, none⟩ _))

/-- A pattern in a variable. -/
def Bx (w : World) (b : Nat) (nm : ByteArray) (a0 a1 al : Option Addr) (n0 c0 n1 c1 nl cl : Nat) : Prop :=
  w.cell? ⟨b, 0, none⟩ = some (.string nm) ∧ w.cell? ⟨b, 1, none⟩ = some (.slice a0 n0 c0) ∧ w.cell? ⟨b, 2, none⟩ = some (.slice a1 n1 c1) ∧ w.cell? ⟨b, 3, none⟩ = some (.slice al nl cl)
theorem Bx.new (w : World) (nm : ByteArray) (a0 a1 al : Option Addr) (n0 c0 n1 c1 nl cl : Nat) : Bx (w.alloc (.cells #[.string nm, .slice a0 n0 c0, .slice a1 n1 c1, .slice al nl cl] 26)) w.heap.size nm a0 a1 al n0 c0 n1 c1 nl cl := by
  refine ⟨?_, ?_, ?_, ?_⟩ <;> (rw [World.cell?_alloc_at _ _ _ _ rfl]; rfl)
theorem Bx.fr {Z : List Nat} {w w' : World} {b : Nat} {nm : ByteArray} {a0 a1 al : Option Addr} {n0 c0 n1 c1 nl cl : Nat} (h : Bx w b nm a0 a1 al n0 c0 n1 c1 nl cl) (k : Fr Z w w') (hb : b ∉ Z) : Bx w' b nm a0 a1 al n0 c0 n1 c1 nl cl := ⟨k.cell h.1 hb, k.cell h.2.1 hb, k.cell h.2.2.1 hb, k.cell h.2.2.2 hb⟩
theorem Bx.kp {w w' : World} {b : Nat} {nm : ByteArray} {a0 a1 al : Option Addr} {n0 c0 n1 c1 nl cl : Nat} (h : Bx w b nm a0 a1 al n0 c0 n1 c1 nl cl) (k : Kp w w') : Bx w' b nm a0 a1 al n0 c0 n1 c1 nl cl := h.fr (Fr.of_kp k) (by simp)
theorem Bx.lt {w : World} {b : Nat} {nm : ByteArray} {a0 a1 al : Option Addr} {n0 c0 n1 c1 nl cl : Nat} (h : Bx w b nm a0 a1 al n0 c0 n1 c1 nl cl) : b < w.heap.size := World.block_lt_of_cell? w _ h.1
end Go.Proofs.YtpemfmjplejdiaaDoor

namespace Go.Proofs.YtpemfmjplejdiaaDoor
open Go.RowKit

theorem begR_succ (d : Nat) (X : Nat → Bool) (l : List Int) (k : Nat) (h : k < l.length) : begR d X (l.take (k + 1)) = if l[k] = 1 then upd (begR d X (l.take k)) d true else upd (begR d X (l.take k)) (2 + d) true := by
  unfold begR
  rw [take_step l k h, List.foldl_append]; rfl

theorem begR_take (d : Nat) (X : Nat → Bool) (l : List Int) : begR d X (l.take l.length) = begR d X l := by rw [List.take_length]
theorem SnAt.of_eq {w : World} {b : Nat} {X Y : Nat → Bool} (h : SnAt w b X) (e : X = Y) : SnAt w b Y := e ▸ h

set_option maxRecDepth 100000 in
set_option maxHeartbeats 4000000 in
theorem begin_any (w : World) (nm : ByteArray) (a0 a1 al : Option Addr) (n0 c0 n1 c1 nl cl : Nat) (b0 b1 : List Int) (h0 : Is w a0 n0 b0) (h1 : Is w a1 n1 b1) :
    Calls Tryd.prog 43 #[.agg #[.string nm, .slice a0 n0 c0, .slice a1 n1 c1, .slice al nl cl]] w fun e w' => e = .returned (snV (begunR b0 b1)) ∧ Kp w w' := by
  have hm0 := h0.2.1
  have hm1 := h1.2.1
  unfold maxLen at hm0 hm1
  go_enter Tryd.func43, Tryd.ntmps43
  go_upto_region 2 with fail
  have hk1 := Kp.new w (.cells #[.string nm, .slice a0 n0 c0, .slice a1 n1 c1, .slice al nl cl] 26)
  have hB := Bx.new w nm a0 a1 al n0 c0 n1 c1 nl cl
  have hs1 : (w.alloc (.cells #[.string nm, .slice a0 n0 c0, .slice a1 n1 c1, .slice al nl cl] 26)).heap.size = w.heap.size + 1 := by simp
  generalize w.alloc (.cells #[.string nm, .slice a0 n0 c0, .slice a1 n1 c1, .slice al nl cl] 26) = wa at hk1 hB hs1 ⊢
  have hk2 := Kp.new wa (.cells #[.bool false, .bool false, .bool false, .bool false, .bool false, .bool false, .bool false, .bool false, .bool false, .bool false, .bool false, .bool false] 88)
  have hR := SnAt.zero wa
  have hs2 : (wa.alloc (.cells #[.bool false, .bool false, .bool false, .bool false, .bool false, .bool false, .bool false, .bool false, .bool false, .bool false, .bool false, .bool false] 88)).heap.size = wa.heap.size + 1 := by simp
  generalize wa.alloc (.cells #[.bool false, .bool false, .bool false, .bool false, .bool false, .bool false, .bool false, .bool false, .bool false, .bool false, .bool false, .bool false] 88) = wb at hk2 hR hs2 ⊢
  have hk3 := Kp.new wb (.cells #[.bool false, .bool false, .bool false, .bool false, .bool false, .bool false, .bool false, .bool false, .bool false, .bool false, .bool false, .bool false] 88)
  have hX := SnAt.zero wb
  have hs3 : (wb.alloc (.cells #[.bool false, .bool false, .bool false, .bool false, .bool false, .bool false, .bool false, .bool false, .bool false, .bool false, .bool false, .bool false] 88)).heap.size = wb.heap.size + 1 := by simp
  generalize wb.alloc (.cells #[.bool false, .bool false, .bool false, .bool false, .bool false, .bool false, .bool false, .bool false, .bool false, .bool false, .bool false, .bool false] 88) = wc at hk3 hX hs3 ⊢
  obtain ⟨bb, hbb⟩ : ∃ bb, bb = w.heap.size := ⟨_, rfl⟩
  have e1 : wa.heap.size = bb + 1 := by omega
  have e2 : wb.heap.size = bb + 2 := by omega
  rw [← hbb] at hB
  rw [e1] at hR
  rw [e2] at hX
  replace hB := (hB.kp hk2).kp hk3
  replace hR := hR.kp hk3
  have hkc := Kp.trans hk1 (Kp.trans hk2 hk3)
  have Hk := Lib.hid (And.intro hkc hbb)
  clear hk1 hk2 hk3 hs1 hs2 hs3 e1 e2 hkc
  rw [← hbb]
  clear hbb
  go_wp2_with fail
  go_loopw [4] (fun i wr => ∃ k : Nat, k ≤ 2 ∧ i = .int .i64 (k : Nat) ∧ Fr [bb + 2] wc wr ∧ SnAt wr (bb + 2) (if k = 0 then S0 else if k = 1 then begR 0 S0 b0 else begunR b0 b1)) (fun i _ => 2 - (intOf i).toNat)
  case atStart => exact ⟨0, by omega, rfl, Fr.refl _ _, hX⟩
  case round =>
    clear hX
    obtain ⟨k, hk, rfl, hF, hS⟩ := hrel
    rcases (show k = 0 ∨ k = 1 ∨ k = 2 by omega) with rfl | rfl | rfl
    · rw [if_pos rfl] at hS
      go_wp2_with fail
      go_loopw [5] (fun i wv => ∃ j : Nat, j ≤ n0 ∧ i = .int .i64 (j : Nat) ∧ Fr [bb + 2] wc wv ∧ SnAt wv (bb + 2) (begR 0 S0 (b0.take j))) (fun i _ => n0 - (intOf i).toNat)
      case atStart => exact ⟨0, by omega, rfl, hF, hS⟩
      case round =>
        clear hF hS
        obtain ⟨j, hj, rfl, hF, hS⟩ := hrel
        obtain ⟨y0, y1, y2, y3⟩ := hB.fr hF (by simp)
        by_cases hjn : j < n0
        · have hjl : j < b0.length := by rw [h0.1]; exact hjn
          obtain ⟨tb, toff, rfl, htl, hcc⟩ := h0.at j hjn
          have hck := hF.cell ((Hk.out.1).cell (hcc j hjn)) (by have := Hk.out.2; simp; omega)
          have hsu := begR_succ 0 S0 b0 j hjl
          clear hcc
          generalize b0[j]'hjl = t at hck hsu
          have Hsu := Lib.hid hsu; clear hsu
          by_cases ht : t = 1
          · subst ht
            have hS2 := hS.set 0 (by omega) true
            rw [if_pos rfl] at Hsu
            obtain ⟨q1, q2⟩ := hS 0 (by omega)
            have HS2 := Lib.hid hS2; clear hS2 hS
            go_wp2_with fail
            go_roundw
            case rel => exact ⟨j + 1, by omega, by go_num, hF.trans (Fr.set _ ⟨bb + 2, 0, none⟩ _), by rw [Hsu.out]; exact HS2.out⟩
            case measure => simp [intOf]; omega
          · have hb : (t == 1) = false := by simpa using ht
            rw [if_neg ht] at Hsu
            have hS2 := hS.set 2 (by omega) true
            obtain ⟨q1, q2⟩ := hS 2 (by omega)
            have HS2 := Lib.hid hS2; clear hS2 hS
            go_wp2_with fail
            go_roundw
            case rel => exact ⟨j + 1, by omega, by go_num, hF.trans (Fr.set _ ⟨bb + 2, 2, none⟩ _), by rw [Hsu.out]; exact HS2.out⟩
            case measure => simp [intOf]; omega
        · obtain rfl : j = n0 := by omega
          have hS' : SnAt wr (bb + 2) (begR 0 S0 b0) := hS.of_eq (by rw [← h0.1, List.take_length])
          clear hS
          go_wp2_with fail
          go_roundw
          case rel => exact ⟨1, by omega, by go_num, hF, hS'⟩
          case measure => simp [intOf]
    · rw [if_neg (by decide), if_pos rfl] at hS
      go_wp2_with fail
      go_loopw [5] (fun i wv => ∃ j : Nat, j ≤ n1 ∧ i = .int .i64 (j : Nat) ∧ Fr [bb + 2] wc wv ∧ SnAt wv (bb + 2) (begR 1 (begR 0 S0 b0) (b1.take j))) (fun i _ => n1 - (intOf i).toNat)
      case atStart => exact ⟨0, by omega, rfl, hF, hS⟩
      case round =>
        clear hF hS
        obtain ⟨j, hj, rfl, hF, hS⟩ := hrel
        obtain ⟨y0, y1, y2, y3⟩ := hB.fr hF (by simp)
        by_cases hjn : j < n1
        · have hjl : j < b1.length := by rw [h1.1]; exact hjn
          obtain ⟨tb, toff, rfl, htl, hcc⟩ := h1.at j hjn
          have hck := hF.cell ((Hk.out.1).cell (hcc j hjn)) (by have := Hk.out.2; simp; omega)
          have hsu := begR_succ 1 (begR 0 S0 b0) b1 j hjl
          clear hcc
          generalize b1[j]'hjl = t at hck hsu
          have Hsu := Lib.hid hsu; clear hsu
          by_cases ht : t = 1
          · subst ht
            have hS2 := hS.set 1 (by omega) true
            rw [if_pos rfl] at Hsu
            obtain ⟨q1, q2⟩ := hS 1 (by omega)
            have HS2 := Lib.hid hS2; clear hS2 hS
            go_wp2_with fail
            go_roundw
            case rel => exact ⟨j + 1, by omega, by go_num, hF.trans (Fr.set _ ⟨bb + 2, 1, none⟩ _), by rw [Hsu.out]; exact HS2.out⟩
            case measure => simp [intOf]; omega
          · have hb : (t == 1) = false := by simpa using ht
            rw [if_neg ht] at Hsu
            have hS2 := hS.set 3 (by omega) true
            obtain ⟨q1, q2⟩ := hS 3 (by omega)
            have HS2 := Lib.hid hS2; clear hS2 hS
            go_wp2_with fail
            go_roundw
            case rel => exact ⟨j + 1, by omega, by go_num, hF.trans (Fr.set _ ⟨bb + 2, 3, none⟩ _), by rw [Hsu.out]; exact HS2.out⟩
            case measure => simp [intOf]; omega
        · obtain rfl : j = n1 := by omega
          have hS' : SnAt wr (bb + 2) (begunR b0 b1) := hS.of_eq (by rw [← h1.1, List.take_length]; rfl)
          clear hS
          go_wp2_with fail
          go_roundw
          case rel => exact ⟨2, by omega, by go_num, hF, hS'⟩
          case measure => simp [intOf]
    · rw [if_neg (by decide), if_neg (by decide)] at hS
      have hR2 := hR.fr hF (by simp)
      have hst := (hR2.store (begunR b0 b1)).2
      have hkf : Kp w wr := ((Fr.of_kp Hk.out.1).step hF (fun i hi => .inr (by have := Hk.out.2; simp at hi; omega))).kp
      have Hfin := Lib.hid (((Fr.of_kp hkf).step hst (fun i hi => .inr (by have := Hk.out.2; simp at hi; omega))).kp)
      obtain ⟨x0, x1, x2, x3, x4, x5, x6, x7, x8, x9, x10, x11⟩ := hS.cells
      obtain ⟨z0, z1, z2, z3, z4, z5, z6, z7, z8, z9, z10, z11⟩ := hR2.cells
      obtain ⟨f0, f1, f2, f3, f4, f5, f6, f7, f8, f9, f10, f11⟩ := hR2.free
      clear hst hkf hR2 hS hF hR hB h0 h1
      go_wp2_with fail
      refine bodyPost_ret (v := snV (begunR b0 b1)) (by simp [results, Tryd.results43, go_sem, snV, *]) rfl ⟨rfl, Hfin.out⟩

set_option maxHeartbeats 2000000 in
theorem oneWay_any (w : World) (nm : ByteArray) (a0 a1 al : Option Addr) (n0 c0 n1 c1 nl cl : Nat) (ls : List Ln) (hl : Lns w al nl ls) :
    Calls Tryd.prog 46 #[.agg #[.string nm, .slice a0 n0 c0, .slice a1 n1 c1, .slice al nl cl]] w fun e w' => e = .returned (.bool (oneWay ls)) ∧ Kp w w' := by
  by_cases h1 : nl = 1
  · subst h1
    have hll : 0 < ls.length := by rw [hl.1]; omega
    obtain ⟨b, off, tp, tn, tc, rfl, hc1, _, _, _⟩ := hl.2.2 0 hll
    rw [Nat.zero_mul, Nat.add_zero] at hc1
    have Ho := Lib.hid (show oneWay ls = (ls[0].1 == 0) by unfold oneWay; rw [hl.1, List.getElem?_eq_getElem hll]; simp)
    generalize ls[0].1 = f at hc1 Ho
    have hc2 := fun o => Kp.cell (Kp.new w o) hc1
    clear hc1
    go_enter Tryd.func46, Tryd.ntmps46
    go_wp2_with fail
    go_ret
    exact ⟨by rw [Ho.out]; rfl, Kp.new _ _⟩
  · have hb : ((nl : Int) == 1) = false := by simp; omega
    have Ho := Lib.hid (show oneWay ls = false by unfold oneWay; rw [hl.1]; simp [h1])
    go_enter Tryd.func46, Tryd.ntmps46
    go_wp2_with fail
    go_ret
    exact ⟨by rw [Ho.out]; rfl, Kp.new _ _⟩
end Go.Proofs.YtpemfmjplejdiaaDoor

namespace Go.Proofs.YtpemfmjplejdiaaDoor
open Go.RowKit

set_option maxHeartbeats 2000000 in
theorem exec_load3 {w : World} {p : Addr} {f : Int} (h : w.cell? p = some (iv f)) {ρ : Operand → Value} {x : Operand} (hx : ρ x = .pointer (some p)) {o : Oper} (ho : o.op = .load 3 x) : (execOp ρ o).run Tryd.prog w = .ok (.value (iv f)) w := by
  simp only [execOp, ho, hx]
  go_simp
set_option maxHeartbeats 2000000 in
theorem exec_load22 {w : World} {p : Addr} {a : Option Addr} {n c : Nat} (h : w.cell? p = some (.slice a n c)) {ρ : Operand → Value} {x : Operand} (hx : ρ x = .pointer (some p)) {o : Oper} (ho : o.op = .load 22 x) : (execOp ρ o).run Tryd.prog w = .ok (.value (.slice a n c)) w := by
  simp only [execOp, ho, hx]
  go_simp
set_option maxHeartbeats 2000000 in
theorem exec_load88 {w : World} {b : Nat} {X : Nat → Bool} (h : SnAt w b X) {ρ : Operand → Value} {x : Operand} (hx : ρ x = .pointer (some ⟨b, 0, none⟩)) {o : Oper} (ho : o.op = .load 88 x) : (execOp ρ o).run Tryd.prog w = .ok (.value (snV X)) w := by
  obtain ⟨x0, x1, x2, x3, x4, x5, x6, x7, x8, x9, x10, x11⟩ := h.cells
  clear h
  unfold snV
  simp only [execOp, ho, hx]
  go_simp
end Go.Proofs.YtpemfmjplejdiaaDoor

namespace Go.Proofs.YtpemfmjplejdiaaDoor
open Go.RowKit

/-- An empty slice that is not nil. -/
theorem Own.empty (w : World) (base : Nat) (e : TypeId) (size : Nat) (hb : base ≤ w.heap.size) : Own (w.alloc (.cells #[] e)) base e size (some ⟨w.heap.size, 0, none⟩) 0 0 [] := by
  refine ⟨by simp, .inr ⟨w.heap.size, 0, #[], rfl, hb, heap_alloc_new w _, Nat.le_refl _, Nat.zero_le _, by simp, by simp⟩⟩

/-- A list of numbers in a block from B on, with room behind it, where 77 stands. -/
def Rm (B : Nat) (w : World) (ao : Option Addr) (n cap : Nat) (xs : List Int) : Prop :=
  Is w ao n xs ∧ n + 1 ≤ cap ∧ ∃ g, ao = some ⟨g, 0, none⟩ ∧ B ≤ g ∧ w.cell? ⟨g, n, none⟩ = some (iv 77)
theorem Rm.fr {B : Nat} {Z : List Nat} {w w' : World} {ao : Option Addr} {n cap : Nat} {xs : List Int} (h : Rm B w ao n cap xs) (k : Fr Z w w') (hZ : ∀ j ∈ blkL ao, j ∉ Z) : Rm B w' ao n cap xs := by
  obtain ⟨h1, h2, g, rfl, h3, h4⟩ := h
  exact ⟨⟨h1.1, h1.2.1, k.cs h1.2.2 hZ⟩, h2, g, rfl, h3, k.cell h4 (hZ g (by simp [blkL, blk]))⟩
theorem Rm.kp {B : Nat} {w w' : World} {ao : Option Addr} {n cap : Nat} {xs : List Int} (h : Rm B w ao n cap xs) (k : Kp w w') : Rm B w' ao n cap xs := h.fr (Fr.of_kp k) (by simp)
theorem Rm.of_own {B : Nat} {w : World} {ao : Option Addr} {n cap : Nat} {xs : List Int} (h : Own w B 3 1 ao (n + 1) cap (xs.map iv ++ [iv 77])) (hl : xs.length = n) (hn : n ≤ 1000) : Rm B w ao n cap xs := by
  obtain ⟨g, cur, rfl, hg, _⟩ := h.block (by omega)
  have hc := h.cs
  have hx : ∀ j u, (xs.map iv ++ [iv 77])[j]? = some u → w.cell? ⟨g, j, none⟩ = some u := fun j u hu => by
    obtain ⟨b, off, e, q⟩ := hc j u hu
    simp only [Option.some.injEq, Addr.mk.injEq, and_true] at e
    obtain ⟨rfl, rfl⟩ := e
    rwa [Nat.zero_add] at q
  refine ⟨⟨hl, by unfold maxLen; omega, fun j u hu => ⟨g, 0, rfl, ?_⟩⟩, h.cap, g, rfl, hg, hx n _ ?_⟩
  · rw [Nat.zero_add]
    have hj : j < (xs.map iv).length := (List.getElem?_eq_some_iff.1 hu).1
    exact hx j u (by rw [List.getElem?_append_left hj]; exact hu)
  · rw [List.getElem?_append_right (by simp [hl])]; simp [hl]
theorem Rm.lt {B : Nat} {w : World} {ao : Option Addr} {n cap : Nat} {xs : List Int} (h : Rm B w ao n cap xs) : ∀ j ∈ blkL ao, B ≤ j ∧ j < w.heap.size := by
  obtain ⟨h1, h2, g, rfl, h3, h4⟩ := h
  intro j hj
  rw [mem_blkL_some] at hj
  subst hj
  exact ⟨h3, World.block_lt_of_cell? w _ h4⟩

/-- Messages of the call's own, each with a list of its own and room behind it; the blocks of X may change. -/
def LnW (w : World) (B : Nat) (X : List Nat) (ao : Option Addr) (n cap : Nat) (ls : List Ln) : Prop :=
  ls.length = n ∧ ∃ ts : List Tv, ts.length = ls.length ∧ Own w B 53 2 ao n cap (lnc ls ts) ∧ ∀ (j : Nat) (h : j < ls.length) (h' : j < ts.length), ts[j].n ≤ 1000 ∧ Sta w (blkL ao ++ X) (fun w => Rm B w ts[j].ao ts[j].n ts[j].c ls[j].2)
theorem LnW.nil (w : World) (B : Nat) (X : List Nat) : LnW w B X none 0 0 [] := ⟨rfl, [], rfl, Own.nil _ _ _ _, fun j h => by simp at h⟩
theorem Sta.rm {B : Nat} {w : World} {ao : Option Addr} {n cap : Nat} {xs : List Int} {X : List Nat} (h : Rm B w ao n cap xs) (hX : ∀ k ∈ blkL ao, k ∉ X) : Sta w X (fun w => Rm B w ao n cap xs) := fun _ k => h.fr k hX
theorem LnW.keep {w w' : World} {B : Nat} {X Y : List Nat} {ao : Option Addr} {n cap : Nat} {ls : List Ln} (h : LnW w B X ao n cap ls) (k : Fr Y w w') (hY : ∀ j ∈ Y, j ∈ X ∨ w.heap.size ≤ j) (hB : ∀ j ∈ Y, j ∉ blkL ao) : LnW w' B X ao n cap ls := by
  obtain ⟨h1, ts, h2, h3, h4⟩ := h
  exact ⟨h1, ts, h2, k.own h3 (fun j hj hj2 => hB j hj2 hj), fun j hj hj' => ⟨(h4 j hj hj').1, (h4 j hj hj').2.step k (fun i hi => (hY i hi).imp (fun q => List.mem_append.2 (.inr q)) id) (fun i hi => .inl hi)⟩⟩
/-- One more message. -/
theorem LnW.app {w w' : World} {B : Nat} {X : List Nat} {ao ao' : Option Addr} {n cap cap' N : Nat} {ls : List Ln} (h1 : ls.length = n) (ts : List Tv) (h2 : ts.length = ls.length) (h4 : ∀ (j : Nat) (h : j < ls.length) (h' : j < ts.length), ts[j].n ≤ 1000 ∧ Sta w (blkL ao ++ X) (fun w => Rm B w ts[j].ao ts[j].n ts[j].c ls[j].2))
    (l : Ln) (t : Tv) (ht : Sta w (blkL ao ++ X) (fun w => Rm B w t.ao t.n t.c l.2)) (htn : t.n ≤ 1000) (hN : N = n + 1)
    (ha : Appd w w' B 53 2 ao cap 1 N (lnc (ls ++ [l]) (ts ++ [t])) ao' cap') : LnW w' B X ao' N cap' (ls ++ [l]) := by
  have hf := ha.fr
  have hb' : ∀ j ∈ blkL ao', j ∈ blkL ao ∨ j = w.heap.size := fun j hj => by
    rcases ha.fresh j (mem_blkL.1 hj) with q | q
    · exact .inl (mem_blkL.2 q)
    · exact .inr q
  have hZ : ∀ i ∈ blkL ao' ++ X, i ∈ blkL ao ++ X ∨ w.heap.size ≤ i := fun i hi => by
    rcases List.mem_append.1 hi with q | q
    · rcases hb' i q with q | q
      · exact .inl (List.mem_append.2 (.inl q))
      · exact .inr (by omega)
    · exact .inl (List.mem_append.2 (.inr q))
  refine ⟨by rw [List.length_append, h1, hN]; rfl, ts ++ [t], by simp [h2], ha.own, fun j hj hj' => ?_⟩
  by_cases hlt : j < ls.length
  · rw [List.getElem_append_left hlt, List.getElem_append_left (by omega)]
    exact ⟨(h4 j hlt (by omega)).1, (h4 j hlt (by omega)).2.step hf (fun i hi => .inl (List.mem_append.2 (.inl hi))) hZ⟩
  · have hje : j = ls.length := by simp at hj; omega
    subst hje
    rw [List.getElem_concat_length rfl]
    have : (ts ++ [t])[ls.length]'hj' = t := by simp [← h2]
    rw [this]
    exact ⟨htn, ht.step hf (fun i hi => .inl (List.mem_append.2 (.inl hi))) hZ⟩

/-- The messages, each with room behind its list, and room behind them all, where 77 stands. -/
def LnR (B : Nat) (w : World) (ao : Option Addr) (n cap : Nat) (ls : List Ln) : Prop :=
  ls.length = n ∧ n ≤ 1000 ∧ n + 1 ≤ cap ∧ ∃ g, ao = some ⟨g, 0, none⟩ ∧ B ≤ g ∧ w.cell? ⟨g, n * 2, none⟩ = some (iv 77) ∧
    ∀ j (h : j < ls.length), ∃ t : Tv, t.n ≤ 1000 ∧ w.cell? ⟨g, j * 2, none⟩ = some (iv ls[j].1) ∧ w.cell? ⟨g, j * 2 + 1, none⟩ = some (tvv t) ∧ Rm B w t.ao t.n t.c ls[j].2
theorem LnR.kp {B : Nat} {w w' : World} {ao : Option Addr} {n cap : Nat} {ls : List Ln} (h : LnR B w ao n cap ls) (k : Kp w w') : LnR B w' ao n cap ls := by
  obtain ⟨h1, h2, h3, g, rfl, h4, h5, h6⟩ := h
  refine ⟨h1, h2, h3, g, rfl, h4, k.cell h5, fun j hj => ?_⟩
  obtain ⟨t, q1, q2, q3, q4⟩ := h6 j hj
  exact ⟨t, q1, k.cell q2, k.cell q3, q4.kp k⟩
theorem LnR.fr {B : Nat} {Z : List Nat} {w w' : World} {ao : Option Addr} {n cap : Nat} {ls : List Ln} (h : LnR B w ao n cap ls) (k : Fr Z w w') (hZ : ∀ j ∈ Z, j < B) : LnR B w' ao n cap ls := by
  obtain ⟨h1, h2, h3, g, rfl, h4, h5, h6⟩ := h
  have hg : g ∉ Z := fun h => by have := hZ g h; omega
  refine ⟨h1, h2, h3, g, rfl, h4, k.cell h5 hg, fun j hj => ?_⟩
  obtain ⟨t, q1, q2, q3, q4⟩ := h6 j hj
  exact ⟨t, q1, k.cell q2 hg, k.cell q3 hg, q4.fr k (fun i hi hz => by have := (q4.lt i hi).1; have := hZ i hz; omega)⟩
theorem LnR.lns {B : Nat} {w : World} {ao : Option Addr} {n cap : Nat} {ls : List Ln} (h : LnR B w ao n cap ls) : Lns w ao n ls := by
  obtain ⟨h1, h2, h3, g, rfl, h4, h5, h6⟩ := h
  refine ⟨h1, by omega, fun j hj => ?_⟩
  obtain ⟨t, q1, q2, q3, q4⟩ := h6 j hj
  exact ⟨g, 0, _, _, _, rfl, by rw [Nat.zero_add]; exact q2, by rw [Nat.zero_add]; exact q3, q4.1, by omega⟩
theorem LnR.of_own {B : Nat} {w : World} {ao : Option Addr} {n cap : Nat} {ls : List Ln} {ts : List Tv} (h1 : ls.length = n) (hn : n ≤ 1000) (h2 : ts.length = ls.length) (t : Tv) (h : Own w B 53 2 ao (n + 1) cap (lnc (ls ++ [(77, [])]) (ts ++ [t])))
    (h4 : ∀ (j : Nat) (h : j < ls.length) (h' : j < ts.length), ts[j].n ≤ 1000 ∧ Rm B w ts[j].ao ts[j].n ts[j].c ls[j].2) : LnR B w ao n cap ls := by
  obtain ⟨g, cur, rfl, hg, _⟩ := h.block (by omega)
  have hc := h.cs
  have hx : ∀ j u, (lnc (ls ++ [(77, [])]) (ts ++ [t]))[j]? = some u → w.cell? ⟨g, j, none⟩ = some u := fun j u hu => by
    obtain ⟨b, off, e, q⟩ := hc j u hu
    simp only [Option.some.injEq, Addr.mk.injEq, and_true] at e
    obtain ⟨rfl, rfl⟩ := e
    rwa [Nat.zero_add] at q
  have hg2 : ∀ j (hj : j < (ls ++ [((77 : Int), ([] : List Int))]).length), _ := fun j hj => lnc_get (ls := ls ++ [(77, [])]) (ts := ts ++ [t]) (by simp [h2]) j hj
  refine ⟨h1, hn, h.cap, g, rfl, hg, hx _ _ ?_, fun j hj => ?_⟩
  · have := (hg2 n (by simp [h1])).1
    rw [this]; simp [← h1]
  · obtain ⟨e0, e1⟩ := hg2 j (by simp; omega)
    rw [List.getElem_append_left hj] at e0
    rw [List.getElem_append_left (by omega)] at e1
    exact ⟨ts[j]'(by omega), (h4 j hj (by omega)).1, hx _ _ e0, hx _ _ e1, (h4 j hj (by omega)).2⟩

/-- What 'lent' answers. -/
def LentPost (w : World) (nm : ByteArray) (b0 b1 : List Int) (ls : List Ln) (n0 n1 nl : Nat) (e : Ending) (w' : World) : Prop := Kp w w' ∧ ∃ a0 c0 a1 c1 al cl,
  e = .returned (.agg #[.string nm, .slice a0 n0 c0, .slice a1 n1 c1, .slice al nl cl]) ∧ Rm w.heap.size w' a0 n0 c0 b0 ∧ Rm w.heap.size w' a1 n1 c1 b1 ∧ LnR w.heap.size w' al nl cl ls
end Go.Proofs.YtpemfmjplejdiaaDoor

namespace Go.Proofs.YtpemfmjplejdiaaDoor
open Go.RowKit

theorem eval_put_same {a : Act} {d : Nat} {v : Value} (h : d < a.tmps.size) : (a.put (some d) v).eval (.tmp d) = v := by
  simp [Act.put, Act.eval, h]
theorem eval_put_tmp {a : Act} {d k : Nat} {v : Value} (h : k ≠ d) : (a.put (some d) v).eval (.tmp k) = a.eval (.tmp k) := Act.eval_put (fun d' e => by cases e; simpa using h)
theorem eval_put_x {a : Act} {d : Nat} {v : Value} {x : Operand} (h : x ≠ .tmp d) : (a.put (some d) v).eval x = a.eval x := Act.eval_put (fun d' e => by cases e; exact h)
theorem put_comm {a : Act} {d k : Nat} {u v : Value} (h : d ≠ k) : (a.put (some d) u).put (some k) v = (a.put (some k) v).put (some d) u := by
  simp only [Act.put]
  rw [Array.setIfInBounds_comm _ _ h]
theorem size_put {a : Act} {d : Nat} {v : Value} : (a.put (some d) v).tmps.size = a.tmps.size := by simp [Act.put]

section
variable {P : Program}
theorem wp_bs {w : World} {o : Oper} {a : Act} {Kc : Act → World → Prop} {Q : Exit → Act → World → Prop} {t : TypeId} {n : Nat} {ps : Array (Nat × Operand)} (hop : o.op = .buildSlice t n ps) {vs : Array (Nat × Value)} (hvs : ps.map (fun p => (p.1, a.eval p.2)) = vs) {w' : World} {v : Value}
    (hr : (Instr.buildSlice t n vs).run P w = .ok v w') (hK : Kc (a.put o.dst v) w') : o.wp P a w Kc Q := by
  subst hvs
  unfold Oper.wp
  simp [execOp, hop, Result.andThen] at hr ⊢
  rw [hr]
  exact hK

/-- The four operations: a makes the empty slice, p appends the list, b makes the slice of the one thing, s appends it. -/
structure Room4 (ops : Array Oper) (t : TypeId) (a p b s da db dp ds : Nat) (src x : Operand) : Prop where
  a : ∃ o, ops[a]? = some o ∧ o.op = .buildSlice t 0 #[] ∧ o.dst = some da ∧ o.guard = none
  p : ∃ o, ops[p]? = some o ∧ o.op = .call { callee := .builtin .append, args := #[.tmp da, src], argTypes := #[t, t] } ∧ o.dst = some dp ∧ o.guard = none
  b : ∃ o, ops[b]? = some o ∧ o.op = .buildSlice t 1 #[(0, x)] ∧ o.dst = some db ∧ o.guard = none
  s : ∃ o, ops[s]? = some o ∧ o.op = .call { callee := .builtin .append, args := #[.tmp dp, .tmp db], argTypes := #[t, t] } ∧ o.dst = some ds ∧ o.guard = none
def rdyIn (md : Region.Mode) (ops : Array Oper) (listed : Array Bool) (l : List Nat) : Bool := !(Region.ready md ops listed).isEmpty && (Region.ready md ops listed).all (fun j => l.contains j)
def roomB (md : Region.Mode) (ops : Array Oper) (L : Array Bool) (a p b s : Nat) : Bool :=
  rdyIn md ops L [a, b] && rdyIn md ops (L.setIfInBounds a true) [p, b] && rdyIn md ops (L.setIfInBounds b true) [a] && rdyIn md ops ((L.setIfInBounds a true).setIfInBounds b true) [p] &&
  rdyIn md ops ((L.setIfInBounds a true).setIfInBounds p true) [b] && rdyIn md ops (((L.setIfInBounds a true).setIfInBounds b true).setIfInBounds p true) [s] && (a != b && a != p && b != p)
theorem rdy_step {ops : Array Oper} {md : Region.Mode} {S : World → Prop} {Q : Exit → Act → World → Prop} {n : Nat} {L : Array Bool} {a : Act} {w : World} {l : List Nat} (hr : rdyIn md ops L l = true)
    (h : ∀ i ∈ l, wpOp P ops (Qn Q) i (fun a' w' => S w' ∧ wpAnyH P md ops (Qn Q) S n (L.setIfInBounds i true) a' w') a w) : wpAnyH P md ops (Qn Q) S (n + 1) L a w := by
  simp only [rdyIn, Bool.and_eq_true, Bool.not_eq_true', List.all_eq_true, List.contains_iff_mem] at hr
  refine ⟨fun h0 => by rw [h0] at hr; simp at hr, fun i hi => h i (hr.2 i hi)⟩

def dstB (sz da db dp ds : Nat) : Bool := decide (da < sz) && decide (db < sz) && decide (dp < sz) && decide (ds < sz) && (da != db && da != dp && da != ds && db != dp && db != ds && dp != ds)

/-- What is left behind. -/
def RoomOut (w w' : World) (B : Nat) (e : TypeId) (size : Nat) (m : Nat) (xs : List Value) (ao : Option Addr) (cap : Nat) : Prop := Kp w w' ∧ Own w' B e size ao (m + 1) cap xs

theorem anyH_room {ops : Array Oper} {md : Region.Mode} {S : World → Prop} {Q : Exit → Act → World → Prop} {n : Nat} {L : Array Bool} {A : Act} {wd : World} (t : TypeId) {e : TypeId} {z : Value} {size bytes : Nat} (E : El P t e z size bytes)
    (a p b s da db dp ds : Nat) (src x : Operand) (h4 : Room4 ops t a p b s da db dp ds src x) (hrd : roomB md ops L a p b s = true) (hdst : dstB A.tmps.size da db dp ds = true)
    (hsrcO : ∀ k, k = da ∨ k = db → src ≠ .tmp k) (hxO : ∀ k, k = da ∨ k = dp → x ≠ .tmp k)
    {so : Option Addr} {m c : Nat} (hsrc : A.eval src = .slice so m c) {vx : Value} (hx : A.eval x = vx)
    (hr0 : ∀ w, (Instr.buildSlice t 0 #[]).run P w = .ok (.slice (some ⟨w.heap.size, 0, none⟩) 0 0) (w.alloc (.cells #[] e)))
    (ys : List Value) (hr1 : ∀ w, (Instr.buildSlice t 1 #[(0, vx)]).run P w = .ok (.slice (some ⟨w.heap.size, 0, none⟩) 1 1) (w.alloc (.cells ys.toArray e))) (hys : ys.length = size) (hys1 : ∀ u ∈ ys, u.oneCell' = true)
    (xs : List Value) (hxl : xs.length = m * size) (hxc : Cs wd so xs) (hx1 : ∀ u ∈ xs, u.oneCell' = true) (hbytes : (m + 1) * bytes ≤ 140737488355328)
    (hS : ∀ w', Kp wd w' → S w') (hn : 4 ≤ n)
    (h : ∀ va vb vp ao cap w', RoomOut wd w' wd.heap.size e size m (xs ++ ys) ao cap → wpAnyH P md ops (Qn Q) S (n - 4) ((((L.setIfInBounds a true).setIfInBounds b true).setIfInBounds p true).setIfInBounds s true) ((((A.put (some da) va).put (some db) vb).put (some dp) vp).put (some ds) (.slice ao (m + 1) cap)) w') :
    wpAnyH P md ops (Qn Q) S n L A wd := by
  obtain ⟨k, rfl⟩ : ∃ k, n = k + 4 := ⟨n - 4, by omega⟩
  rw [Nat.add_sub_cancel] at h
  simp only [roomB, Bool.and_eq_true, bne_iff_ne] at hrd
  obtain ⟨⟨⟨⟨⟨⟨r0, ra⟩, rb⟩, rab⟩, rap⟩, rabp⟩, ⟨nab, nap⟩, nbp⟩ := hrd
  simp only [dstB, Bool.and_eq_true, decide_eq_true_eq, bne_iff_ne] at hdst
  obtain ⟨⟨⟨⟨za, zb⟩, zp⟩, zs⟩, ⟨⟨⟨⟨q1, q2⟩, q3⟩, q4⟩, q5⟩, q6⟩ := hdst
  obtain ⟨⟨oa, ia, pa, fa, ga⟩, ⟨op, ip, pp, fp, gp⟩, ⟨ob, ib, pb, fb, gb⟩, ⟨os, is, ps, fs, gs⟩⟩ := h4
  have hm : m * bytes ≤ 140737488355328 := Nat.le_trans (Nat.mul_le_mul_right _ (Nat.le_succ m)) hbytes
  -- the last one
  have H4 : ∀ va vb vp (bb : Nat) (cp : Nat) (ap : Option Addr) w3, vb = .slice (some ⟨bb, 0, none⟩) 1 1 → vp = .slice ap m cp → Kp wd w3 → Own w3 wd.heap.size e size ap m cp xs → Cs w3 (some ⟨bb, 0, none⟩) ys →
      wpAnyH P md ops (Qn Q) S (k + 1) (((L.setIfInBounds a true).setIfInBounds b true).setIfInBounds p true) (((A.put (some da) va).put (some db) vb).put (some dp) vp) w3 := by
    rintro va vb vp bb cp ap w3 rfl rfl hk hO hB
    refine rdy_step rabp (fun i hi => ?_)
    obtain rfl : i = s := by simpa using hi
    refine wpOp_plain is gs ?_
    refine wp_app (.tmp dp) (.tmp db) t ps e z size bytes E wd.heap.size ap m cp xs (eval_put_same (by simpa [size_put] using zp)) hO (some ⟨bb, 0, none⟩) 1 1 ys ((eval_put_tmp q4).trans (eval_put_same (by simpa [size_put] using zb))) (by rw [hys, Nat.one_mul]) hB hys1 (m + 1) rfl (xs ++ ys) rfl hbytes hk.size ?_
    intro ao cap w4 ha
    have hk4 : Kp wd w4 := ((Fr.of_kp hk).step ha.fr (fun i hi => .inr (hO.lt i (mem_blkL.1 hi)).1)).kp
    rw [fs]
    exact ⟨hS _ hk4, h _ _ _ _ _ _ ⟨hk4, ha.own⟩⟩
  -- the list appended
  have HP : ∀ va (A' : Act) w (K : Act → World → Prop), A'.eval (.tmp da) = va → A'.eval src = .slice so m c → (∃ ba : Nat, va = .slice (some ⟨ba, 0, none⟩) 0 0 ∧ wd.heap.size ≤ ba ∧ Own w wd.heap.size e size (some ⟨ba, 0, none⟩) 0 0 []) → Kp wd w →
      (∀ ap cp w', Own w' wd.heap.size e size ap m cp xs → Kp wd w' → (∀ bb, wd.heap.size ≤ bb → va ≠ .slice (some ⟨bb, 0, none⟩) 0 0 → Cs w (some ⟨bb, 0, none⟩) ys → Cs w' (some ⟨bb, 0, none⟩) ys) → K (A'.put (some dp) (.slice ap m cp)) w') → wpOp P ops (Qn Q) p K A' w := by
    rintro va A' w K e1 e2 ⟨ba, rfl, hba, hO⟩ hk hK
    refine wpOp_plain ip gp ?_
    refine wp_app (.tmp da) src t pp e z size bytes E wd.heap.size (some ⟨ba, 0, none⟩) 0 0 [] e1 hO so m c xs e2 hxl (hk.cs hxc) hx1 m (by omega) xs rfl hm hk.size ?_
    intro ap cp w' ha
    rw [fp]
    refine hK _ _ _ ha.own ((Fr.of_kp hk).step ha.fr (fun i hi => .inr (by rw [mem_blkL_some] at hi; omega))).kp (fun bb _ hne hB => ha.fr.cs hB (fun i hi hj => hne ?_))
    rw [mem_blkL_some] at hi hj
    rw [← hi, hj]
  have wa : ∀ (A' : Act) w (K : Act → World → Prop), Kp wd w → (∀ w' ba, w'.heap.size = ba + 1 → w.heap.size = ba → Kp w w' → Own w' wd.heap.size e size (some ⟨ba, 0, none⟩) 0 0 [] → K (A'.put (some da) (.slice (some ⟨ba, 0, none⟩) 0 0)) w') → wpOp P ops (Qn Q) a K A' w := by
    intro A' w K hk hK
    refine wpOp_plain ia ga (wp_bs pa (vs := #[]) (by simp) (hr0 w) ?_)
    rw [fa]
    exact hK _ _ (by simp) rfl (Kp.new _ _) (Own.empty w _ e size hk.size)
  have wb : ∀ (A' : Act) w (K : Act → World → Prop), A'.eval x = vx → (∀ w' bb, w'.heap.size = bb + 1 → w.heap.size = bb → Kp w w' → Cs w' (some ⟨bb, 0, none⟩) ys → K (A'.put (some db) (.slice (some ⟨bb, 0, none⟩) 1 1)) w') → wpOp P ops (Qn Q) b K A' w := by
    intro A' w K hx' hK
    refine wpOp_plain ib gb (wp_bs pb (vs := #[(0, vx)]) (by simp [hx']) (hr1 w) ?_)
    rw [fb]
    exact hK _ _ (by simp) rfl (Kp.new _ _) (Cs.new w ys e (0, 0))
  refine rdy_step r0 (fun i hi => ?_)
  simp only [List.mem_cons, List.not_mem_nil, or_false] at hi
  rcases hi with rfl | rfl
  · -- a first
    refine wa _ _ _ (Kp.refl _) (fun w1 ba s1 s0 k1 hO => ⟨hS _ k1, ?_⟩)
    refine rdy_step ra (fun j hj => ?_)
    simp only [List.mem_cons, List.not_mem_nil, or_false] at hj
    rcases hj with rfl | rfl
    · -- then p
      refine HP _ _ _ _ (eval_put_same za) ((eval_put_x (hsrcO da (.inl rfl))).trans hsrc) ⟨ba, rfl, by omega, hO⟩ k1 (fun ap cp w2 hO2 k2 _ => ⟨hS _ k2, ?_⟩)
      refine rdy_step rap (fun l hl => ?_)
      obtain rfl : l = b := by simpa using hl
      refine wb _ _ _ ((eval_put_x (hxO dp (.inr rfl))).trans ((eval_put_x (hxO da (.inl rfl))).trans hx)) (fun w3 bb s3 s2 k3 hB => ⟨hS _ (Kp.trans k2 k3), ?_⟩)
      rw [put_comm (Ne.symm q4), Array.setIfInBounds_comm _ _ (Ne.symm nbp)]
      exact H4 _ _ _ _ _ _ _ rfl rfl (Kp.trans k2 k3) (hO2.keep k3) hB
    · -- then b
      refine wb _ _ _ ((eval_put_x (hxO da (.inl rfl))).trans hx) (fun w2 bb s2 s1' k2 hB => ⟨hS _ (Kp.trans k1 k2), ?_⟩)
      refine rdy_step rab (fun l hl => ?_)
      obtain rfl : l = p := by simpa using hl
      refine HP _ _ _ _ ((eval_put_tmp q1).trans (eval_put_same za)) ((eval_put_x (hsrcO db (.inr rfl))).trans ((eval_put_x (hsrcO da (.inl rfl))).trans hsrc)) ⟨ba, rfl, by omega, hO.keep k2⟩ (Kp.trans k1 k2) (fun ap cp w3 hO3 k3 hB3 => ⟨hS _ k3, ?_⟩)
      exact H4 _ _ _ _ _ _ _ rfl rfl k3 hO3 (hB3 bb (by have := k1.size; omega) (fun hh => by simp only [Value.slice.injEq, Option.some.injEq, Addr.mk.injEq, and_true] at hh; omega) hB)
  · -- b first
    refine wb _ _ _ hx (fun w1 bb s1 s0 k1 hB => ⟨hS _ k1, ?_⟩)
    refine rdy_step rb (fun j hj => ?_)
    obtain rfl : j = a := by simpa using hj
    refine wa _ _ _ k1 (fun w2 ba s2 s1' k2 hO => ⟨hS _ (Kp.trans k1 k2), ?_⟩)
    rw [Array.setIfInBounds_comm _ _ (Ne.symm nab), put_comm (Ne.symm q1)]
    refine rdy_step rab (fun l hl => ?_)
    obtain rfl : l = p := by simpa using hl
    refine HP _ _ _ _ ((eval_put_tmp q1).trans (eval_put_same za)) ((eval_put_x (hsrcO db (.inr rfl))).trans ((eval_put_x (hsrcO da (.inl rfl))).trans hsrc)) ⟨ba, rfl, by have := k1.size; omega, hO⟩ (Kp.trans k1 k2) (fun ap cp w3 hO3 k3 hB3 => ⟨hS _ k3, ?_⟩)
    exact H4 _ _ _ _ _ _ _ rfl rfl k3 hO3 (hB3 bb (by omega) (fun hh => by simp only [Value.slice.injEq, Option.some.injEq, Addr.mk.injEq, and_true] at hh; omega) (k2.cs hB))
end

/-- What is to be shown behind an operation: the condition, and that the rest goes on. -/
def NextH (P : Program) (md : Region.Mode) (ops : Array Oper) (Q : Exit → Act → World → Prop) (S : World → Prop) (n : Nat) (L : Array Bool) (a : Act) (w : World) : Prop := S w ∧ wpAnyH P md ops (Qn Q) S n L a w
theorem anyN_one {P : Program} {ops : Array Oper} {md : Region.Mode} {S : World → Prop} {w : World} {Q : Exit → Act → World → Prop} {a : Act} {listed : Array Bool} {n : Nat} (i : Nat) (hr : (decide (Region.ready md ops listed = [i]) && decide (i < ops.size) && decide (0 < n)) = true)
    (h : wpList P ops (fun e a2 w2 => match e with | .normal => NextH P md ops Q S (n - 1) (listed.setIfInBounds i true) a2 w2 | _ => False) (opsAt ops [i]) a w) : wpAnyH P md ops (Qn Q) S n listed a w := anyH_one i hr h
theorem anyN_two {P : Program} {ops : Array Oper} {md : Region.Mode} {S : World → Prop} {w : World} {Q : Exit → Act → World → Prop} {a : Act} {listed : Array Bool} {n : Nat} (i j : Nat) (hr : (decide (Region.ready md ops listed = [i, j]) && decide (i < ops.size) && decide (j < ops.size) && decide (0 < n)) = true)
    (h1 : wpList P ops (fun e a2 w2 => match e with | .normal => NextH P md ops Q S (n - 1) (listed.setIfInBounds i true) a2 w2 | _ => False) (opsAt ops [i]) a w)
    (h2 : wpList P ops (fun e a2 w2 => match e with | .normal => NextH P md ops Q S (n - 1) (listed.setIfInBounds j true) a2 w2 | _ => False) (opsAt ops [j]) a w) : wpAnyH P md ops (Qn Q) S n listed a w := anyH_two i j hr h1 h2

/-- A load beside the making of a slice: whichever comes first. -/
theorem anyH_load_bs {P : Program} {ops : Array Oper} {md : Region.Mode} {S : World → Prop} {Q : Exit → Act → World → Prop} {n : Nat} {L : Array Bool} {A : Act} {w w2 : World} (i j di dj : Nat) (v u : Value) {oi oj : Oper} {x : Operand} {tj : TypeId} {m : Nat} {ps : Array (Nat × Operand)} {vs : Array (Nat × Value)}
    (hrd : (rdyIn md ops L [i, j] && rdyIn md ops (L.setIfInBounds i true) [j] && rdyIn md ops (L.setIfInBounds j true) [i] && (i != j)) = true)
    (hi : ops[i]? = some oi) (fi : oi.dst = some di) (gi : oi.guard = none) (hj : ops[j]? = some oj) (pj : oj.op = .buildSlice tj m ps) (fj : oj.dst = some dj) (gj : oj.guard = none)
    (hd : di ≠ dj) (hx : x ≠ .tmp dj) (hps : ∀ p ∈ ps, p.2 ≠ .tmp di) (hvs : ps.map (fun p => (p.1, A.eval p.2)) = vs) (hr : (Instr.buildSlice tj m vs).run P w = .ok u w2)
    (hv : ∀ (w' : World), Kp w w' → ∀ ρ : Operand → Value, ρ x = A.eval x → (execOp ρ oi).run P w' = .ok (.value v) w') (hk : Kp w w2) (hS : S w) (hS2 : S w2) (hn : 2 ≤ n)
    (h : wpAnyH P md ops (Qn Q) S (n - 2) ((L.setIfInBounds i true).setIfInBounds j true) ((A.put (some di) v).put (some dj) u) w2) : wpAnyH P md ops (Qn Q) S n L A w := by
  obtain ⟨k, rfl⟩ : ∃ k, n = k + 2 := ⟨n - 2, by omega⟩
  rw [Nat.add_sub_cancel] at h
  simp only [Bool.and_eq_true, bne_iff_ne] at hrd
  obtain ⟨⟨⟨r0, r1⟩, r2⟩, nij⟩ := hrd
  refine rdy_step r0 (fun l hl => ?_)
  simp only [List.mem_cons, List.not_mem_nil, or_false] at hl
  have wpi : ∀ (K : Act → World → Prop) (A' : Act) (w' : World), Kp w w' → A'.eval x = A.eval x → K (A'.put (some di) v) w' → wpOp P ops (Qn Q) i K A' w' := fun K A' w' hk' e hK => by
    refine wpOp_plain hi gi ?_
    unfold Oper.wp
    rw [hv w' hk' A'.eval e]
    rw [← fi] at hK
    exact hK
  have wpj : ∀ (K : Act → World → Prop) (A' : Act), ps.map (fun p => (p.1, A'.eval p.2)) = vs → K (A'.put (some dj) u) w2 → wpOp P ops (Qn Q) j K A' w := fun K A' e hK => by
    refine wpOp_plain hj gj (wp_bs pj e hr ?_)
    rw [fj]; exact hK
  rcases hl with rfl | rfl
  · refine wpi _ _ _ (Kp.refl _) rfl ⟨hS, ?_⟩
    refine rdy_step r1 (fun l2 hl2 => ?_)
    obtain rfl : l2 = j := by simpa using hl2
    refine wpj _ _ ?_ ⟨hS2, h⟩
    rw [← hvs]
    refine Array.map_congr_left (fun p hp => ?_)
    rw [eval_put_x (hps p hp)]
  · refine wpj _ _ hvs ⟨hS2, ?_⟩
    refine rdy_step r2 (fun l2 hl2 => ?_)
    obtain rfl : l2 = i := by simpa using hl2
    refine wpi _ _ _ hk (eval_put_x hx) ⟨hS2, ?_⟩
    rw [put_comm (Ne.symm hd), Array.setIfInBounds_comm _ _ (Ne.symm nij)]
    exact h

theorem run_line24 (f : Int) (a : Option Addr) (n c : Nat) (w : World) : (Instr.buildSlice 24 1 #[(0, .agg #[iv f, .slice a n c])]).run Tryd.prog w = .ok (.slice (some ⟨w.heap.size, 0, none⟩) 1 1) (w.alloc (.cells #[iv f, .slice a n c] 53)) := by
  obtain ⟨i, hi, h⟩ := Option.map_eq_some_iff.1 (show (Tryd.prog.info? 53).map (fun i => (i.zero, i.size)) = some (some (.agg #[iv 0, .slice none 0 0]), 2) by kernel_rfl)
  simp only [Prod.mk.injEq] at h
  obtain ⟨h1, h2⟩ := h
  exact run_buildSlice w 24 53 1 _ _ i _ Tryd.underlying24 hi h1 (by rw [h2]; decide) (by rw [h2]; decide) (by rw [h2, show Array.range (1 * 2) = #[0, 1] by decide]; simp [Instr.fill, Value.cells])
theorem run_empty22 (w : World) : (Instr.buildSlice 22 0 #[]).run Tryd.prog w = .ok (.slice (some ⟨w.heap.size, 0, none⟩) 0 0) (w.alloc (.cells #[] 3)) := by
  obtain ⟨i, hi, h⟩ := Option.map_eq_some_iff.1 (show (Tryd.prog.info? 3).map (fun i => (i.zero, i.size)) = some (some (.int .i64 0), 1) by kernel_rfl)
  simp only [Prod.mk.injEq] at h
  obtain ⟨h1, h2⟩ := h
  simp [Instr.buildSlice, run_underlying Tryd.underlying22, sizeOf, typeInfo, hi, newRow, Instr.fill]
  rw [show Array.range 0 = (#[] : Array Nat) by decide, Array.map_empty]
theorem run_one22 (v : Int) (w : World) : (Instr.buildSlice 22 1 #[(0, iv v)]).run Tryd.prog w = .ok (.slice (some ⟨w.heap.size, 0, none⟩) 1 1) (w.alloc (.cells #[iv v] 3)) := by
  obtain ⟨i, hi, h⟩ := Option.map_eq_some_iff.1 (show (Tryd.prog.info? 3).map (fun i => (i.zero, i.size)) = some (some (iv 0), 1) by kernel_rfl)
  simp only [Prod.mk.injEq] at h
  obtain ⟨h1, h2⟩ := h
  exact run_buildSlice w 22 3 1 _ _ i _ Tryd.underlying22 hi h1 (by rw [h2]; decide) (by rw [h2]; decide) (by rw [h2, show Array.range (1 * 1) = #[0] by decide]; simp [Instr.fill, Value.cells])
end Go.Proofs.YtpemfmjplejdiaaDoor
