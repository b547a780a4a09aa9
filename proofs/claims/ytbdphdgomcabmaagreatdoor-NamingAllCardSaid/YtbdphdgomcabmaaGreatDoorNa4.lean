/- Parts of the walks and plain laws, merged: RefLaw, RefMem, RefBegin. Each theorem bears its own conditions; no other. -/
import Derived.Test.YtbdphdgomcabmaaGreatDoorRefTok
import Derived.Test.YtbdphdgomcabmaaGreatDoorRefShaped
namespace Go.Proofs.YtbdphdgomcabmaaGreatDoor
open Go.RowKit

def Rel (X S : Nat → Bool) : Prop := X 0 = S 1 ∧ X 1 = S 4 ∧ X 2 = S 2 ∧ X 3 = S 5 ∧ X 7 = S 9 ∧ X 8 = S 10 ∧ X 9 = S 11 ∧ X 10 = S 12 ∧ X 11 = S 13
theorem safe_rel {X S : Nat → Bool} (h : Rel X S) (f : Int) (hf : f = 0 ∨ f = 1) : safeR X f = safeL S f := by
  obtain ⟨h0, h1, h2, h3, h7, h8, h9, h10, h11⟩ := h
  rcases hf with rfl | rfl
  · show ((!X 11 || X 0) && ((!X 9 || X 7) && (!X 10 || X 8))) = ((!S 11 || S 9) && (!S 12 || S 10) && (!S 13 || S 1))
    rw [h0, h7, h8, h9, h10, h11]
    generalize S 1 = a, S 9 = b, S 10 = c, S 11 = d, S 12 = e, S 13 = g
    cases a <;> cases b <;> cases c <;> cases d <;> cases e <;> cases g <;> rfl
  · show ((!X 11 || X 1) && ((!X 8 || X 7) && (!X 10 || X 9))) = ((!S 10 || S 9) && (!S 12 || S 11) && (!S 13 || S 4))
    rw [h1, h7, h8, h9, h10, h11]
    generalize S 4 = a, S 9 = b, S 10 = c, S 11 = d, S 12 = e, S 13 = g
    cases a <;> cases b <;> cases c <;> cases d <;> cases e <;> cases g <;> rfl
theorem off_last (S : Nat → Bool) (f t : Int) : offL S f t true = if offL S f t false = 0 then (if safeL (tookL S f t) f then 0 else 12) else offL S f t false := by
  unfold offL
  generalize ((keyT t && S (3 * f + t).toNat) || (isSec t && S (6 + t).toNat)) = a
  generalize (isSec t && (!S (wantI t).toNat || !S (3 + wantR t).toNat)) = b
  generalize (t == 2 && !safeL S f) = c
  generalize safeL (tookL S f t) f = d
  cases a <;> cases b <;> cases c <;> cases d <;> rfl
theorem tok_rel {X S : Nat → Bool} (h : Rel X S) (f t : Int) (hf : f = 0 ∨ f = 1) (h1 : 1 ≤ t) (h7 : t ≤ 7) : (tokR X f t).2 = offL S f t false ∧ (offL S f t false = 0 → Rel (tokR X f t).1 (tookL S f t)) := by
  have hs := safe_rel h f hf
  obtain ⟨g0, g1, g2, g3, g7, g8, g9, g10, g11⟩ := h
  rcases hf with rfl | rfl <;> rcases (show t = 1 ∨ t = 2 ∨ t = 3 ∨ t = 4 ∨ t = 5 ∨ t = 6 ∨ t = 7 by omega) with rfl | rfl | rfl | rfl | rfl | rfl | rfl
  all_goals
    refine ⟨?_, fun ho => ?_⟩
    · simp only [tokR, offL, hasR, keyT, isSec, wantI, wantR, hs]
      simp [g0, g1, g2, g3, g7, g8, g9, g10]
      try ((repeat' split) <;> simp_all)
    · simp only [tokR, offL, hasR, keyT, isSec, wantI, wantR, hs, tookL] at ho ⊢
      simp [g0, g1, g2, g3, g7, g8, g9, g10] at ho ⊢
      try ((repeat' split at ho) <;> simp_all [Rel, upd])

def toksR (X : Nat → Bool) (f : Int) : List Int → Nat × (Nat → Bool)
  | [] => (0, X)
  | t :: r => if (tokR X f t).2 = 0 then toksR (tokR X f t).1 f r else ((tokR X f t).2, X)
def lsR (X : Nat → Bool) : List Ln → Nat × (Nat → Bool)
  | [] => (0, X)
  | l :: r => if (toksR X l.1 l.2).1 = 0 then (if safeR (toksR X l.1 l.2).2 l.1 then lsR (toksR X l.1 l.2).2 r else (12, X)) else ((toksR X l.1 l.2).1, X)
def begR (d : Nat) (X : Nat → Bool) (l : List Int) : Nat → Bool := l.foldl (fun X t => if t = 1 then upd X d true else upd X (2 + d) true) X
def begunR (b0 b1 : List Int) : Nat → Bool := begR 1 (begR 0 S0 b0) b1
/-- The document's number of the error. -/
def checkR (b0 b1 : List Int) (ls : List Ln) : Nat :=
  if shapedL b0 b1 ls then (if (lsR (begunR b0 b1) ls).1 = 0 then (if !safeR (lsR (begunR b0 b1) ls).2 0 || (!oneWay ls && !safeR (lsR (begunR b0 b1) ls).2 1) then 12 else 0) else (lsR (begunR b0 b1) ls).1) else 9

theorem toks_rel (f : Int) (hf : f = 0 ∨ f = 1) : ∀ (ts : List Int) (X S : Nat → Bool), ts ≠ [] → (∀ t ∈ ts, 1 ≤ t ∧ t ≤ 7) → Rel X S →
    (runToks S f ts).1 = (if (toksR X f ts).1 = 0 then (if safeR (toksR X f ts).2 f then 0 else 12) else (toksR X f ts).1) ∧ ((runToks S f ts).1 = 0 → Rel (toksR X f ts).2 (runToks S f ts).2)
  | [], _, _, h, _, _ => absurd rfl h
  | [t], X, S, _, ht, h => by
    obtain ⟨h1, h2⟩ := tok_rel h f t hf (ht t (by simp)).1 (ht t (by simp)).2
    unfold runToks toksR
    simp only [List.isEmpty_nil, runToks, toksR, h1]
    simp only [off_last]
    by_cases h0 : offL S f t false = 0
    · have hr := h2 h0
      have hs := safe_rel hr f hf
      simp only [h0, if_true, hs]
      cases hq : safeL (tookL S f t) f with
      | true => simp; exact hr
      | false => simp
    · simp [h0]
  | t :: u :: r, X, S, _, ht, h => by
    obtain ⟨h1, h2⟩ := tok_rel h f t hf (ht t (by simp)).1 (ht t (by simp)).2
    rw [runToks, toksR]
    simp only [List.isEmpty_cons, h1]
    by_cases h0 : offL S f t false = 0
    · have := toks_rel f hf (u :: r) _ _ (by simp) (fun x hx => ht x (by simp only [List.mem_cons] at hx ⊢; exact .inr hx)) (h2 h0)
      simp only [h0, if_true]
      exact this
    · simp [h0]
theorem ls_rel : ∀ (ls : List Ln) (X S : Nat → Bool), (∀ l ∈ ls, (l.1 = 0 ∨ l.1 = 1) ∧ l.2 ≠ [] ∧ ∀ t ∈ l.2, 1 ≤ t ∧ t ≤ 7) → Rel X S →
    (runLs S ls).1 = (lsR X ls).1 ∧ ((runLs S ls).1 = 0 → Rel (lsR X ls).2 (runLs S ls).2)
  | [], X, S, _, h => ⟨rfl, fun _ => h⟩
  | l :: r, X, S, hl, h => by
    obtain ⟨g1, g2, g3⟩ := hl l (by simp)
    obtain ⟨h1, h2⟩ := toks_rel l.1 g1 l.2 X S g2 g3 h
    rw [runLs, lsR]
    by_cases h0 : (toksR X l.1 l.2).1 = 0
    · rw [if_pos h0] at h1
      rw [if_pos h0]
      cases hs : safeR (toksR X l.1 l.2).2 l.1 with
      | true =>
        rw [hs, if_pos rfl] at h1
        rw [if_pos h1, if_pos rfl]
        exact ls_rel r _ _ (fun x hx => hl x (by simp [hx])) (h2 h1)
      | false =>
        rw [hs, if_neg (by simp)] at h1
        rw [if_neg (by omega), if_neg (by simp)]
        exact ⟨h1, fun h => by omega⟩
    · rw [if_neg h0] at h1
      rw [if_neg h0, if_neg (by omega)]
      exact ⟨h1, fun h => by omega⟩
theorem beg_rel0 : ∀ (l : List Int) (X S : Nat → Bool), (∀ t ∈ l, t = 1 ∨ t = 2) → Rel X S → Rel (begR 0 X l) (l.foldl (fun S t => upd S t.toNat true) S)
  | [], _, _, _, h => h
  | t :: r, X, S, ht, h => by
    unfold begR
    rw [List.foldl_cons, List.foldl_cons]
    refine beg_rel0 r _ _ (fun x hx => ht x (by simp [hx])) ?_
    obtain ⟨g0, g1, g2, g3, g7, g8, g9, g10, g11⟩ := h
    rcases ht t (by simp) with rfl | rfl <;> simp [Rel, upd, g0, g1, g2, g3, g7, g8, g9, g10, g11]
theorem beg_rel1 : ∀ (l : List Int) (X S : Nat → Bool), (∀ t ∈ l, t = 1 ∨ t = 2) → Rel X S → Rel (begR 1 X l) (l.foldl (fun S t => upd S (3 + t).toNat true) S)
  | [], _, _, _, h => h
  | t :: r, X, S, ht, h => by
    unfold begR
    rw [List.foldl_cons, List.foldl_cons]
    refine beg_rel1 r _ _ (fun x hx => ht x (by simp [hx])) ?_
    obtain ⟨g0, g1, g2, g3, g7, g8, g9, g10, g11⟩ := h
    rcases ht t (by simp) with rfl | rfl <;> simp [Rel, upd, g0, g1, g2, g3, g7, g8, g9, g10, g11]
theorem checkR_eq (b0 b1 : List Int) (ls : List Ln) : checkR b0 b1 ls = checkL b0 b1 ls := by
  unfold checkR checkL
  cases hs : shapedL b0 b1 ls with
  | false => rfl
  | true =>
    obtain ⟨h0, h1, _, hl⟩ := shapedL_mem hs
    have g0 : ∀ t ∈ b0, t = 1 ∨ t = 2 := fun t ht => by obtain ⟨j, hj, rfl⟩ := List.getElem_of_mem ht; exact okB_mem h0 j hj
    have g1 : ∀ t ∈ b1, t = 1 ∨ t = 2 := fun t ht => by obtain ⟨j, hj, rfl⟩ := List.getElem_of_mem ht; exact okB_mem h1 j hj
    have gl : ∀ l ∈ ls, (l.1 = 0 ∨ l.1 = 1) ∧ l.2 ≠ [] ∧ ∀ t ∈ l.2, 1 ≤ t ∧ t ≤ 7 := fun l hm => by
      obtain ⟨j, hj, rfl⟩ := List.getElem_of_mem hm
      obtain ⟨q1, q2, q3⟩ := hl j hj
      exact ⟨q1, fun h => by rw [h] at q2; simp at q2, fun t ht => by obtain ⟨i, hi, rfl⟩ := List.getElem_of_mem ht; exact q3 i hi⟩
    have hb : Rel (begunR b0 b1) (begunL b0 b1) := beg_rel1 b1 _ _ g1 (beg_rel0 b0 _ _ g0 ⟨rfl, rfl, rfl, rfl, rfl, rfl, rfl, rfl, rfl⟩)
    obtain ⟨q1, q2⟩ := ls_rel ls _ _ gl hb
    rw [if_pos rfl, if_pos rfl, ← q1]
    by_cases hz : (runLs (begunL b0 b1) ls).1 = 0
    · have hr := q2 hz
      rw [if_pos hz, if_pos hz, safe_rel hr 0 (.inl rfl), safe_rel hr 1 (.inr rfl)]
      rfl
    · rw [if_neg hz, if_neg hz]
end Go.Proofs.YtbdphdgomcabmaaGreatDoor

namespace Go.Proofs.YtbdphdgomcabmaaGreatDoor
open Go.RowKit

/-- It lies in block b. -/
def SnAt (w : World) (b : Nat) (X : Nat → Bool) : Prop := ∀ j, j < 12 → w.cell? ⟨b, j, none⟩ = some (.bool (X j)) ∧ w.frozen? ⟨b, j, none⟩ = false
theorem SnAt.fr {Z : List Nat} {w w' : World} {b : Nat} {X : Nat → Bool} (h : SnAt w b X) (k : Fr Z w w') (hb : b ∉ Z) : SnAt w' b X := fun j hj => ⟨k.cell (h j hj).1 hb, k.free (h j hj).1 (h j hj).2 hb⟩
theorem SnAt.kp {w w' : World} {b : Nat} {X : Nat → Bool} (h : SnAt w b X) (k : Kp w w') : SnAt w' b X := h.fr (Fr.of_kp k) (by simp)
theorem SnAt.cells {w : World} {b : Nat} {X : Nat → Bool} (h : SnAt w b X) : w.cell? ⟨b, 0, none⟩ = some (.bool (X 0)) ∧ w.cell? ⟨b, 1, none⟩ = some (.bool (X 1)) ∧ w.cell? ⟨b, 2, none⟩ = some (.bool (X 2)) ∧ w.cell? ⟨b, 3, none⟩ = some (.bool (X 3)) ∧ w.cell? ⟨b, 4, none⟩ = some (.bool (X 4)) ∧ w.cell? ⟨b, 5, none⟩ = some (.bool (X 5)) ∧ w.cell? ⟨b, 6, none⟩ = some (.bool (X 6)) ∧ w.cell? ⟨b, 7, none⟩ = some (.bool (X 7)) ∧ w.cell? ⟨b, 8, none⟩ = some (.bool (X 8)) ∧ w.cell? ⟨b, 9, none⟩ = some (.bool (X 9)) ∧ w.cell? ⟨b, 10, none⟩ = some (.bool (X 10)) ∧ w.cell? ⟨b, 11, none⟩ = some (.bool (X 11)) :=
  ⟨(h 0 (by omega)).1, (h 1 (by omega)).1, (h 2 (by omega)).1, (h 3 (by omega)).1, (h 4 (by omega)).1, (h 5 (by omega)).1, (h 6 (by omega)).1, (h 7 (by omega)).1, (h 8 (by omega)).1, (h 9 (by omega)).1, (h 10 (by omega)).1, (h 11 (by omega)).1⟩
theorem SnAt.free {w : World} {b : Nat} {X : Nat → Bool} (h : SnAt w b X) : w.frozen? ⟨b, 0, none⟩ = false ∧ w.frozen? ⟨b, 1, none⟩ = false ∧ w.frozen? ⟨b, 2, none⟩ = false ∧ w.frozen? ⟨b, 3, none⟩ = false ∧ w.frozen? ⟨b, 4, none⟩ = false ∧ w.frozen? ⟨b, 5, none⟩ = false ∧ w.frozen? ⟨b, 6, none⟩ = false ∧ w.frozen? ⟨b, 7, none⟩ = false ∧ w.frozen? ⟨b, 8, none⟩ = false ∧ w.frozen? ⟨b, 9, none⟩ = false ∧ w.frozen? ⟨b, 10, none⟩ = false ∧ w.frozen? ⟨b, 11, none⟩ = false :=
  ⟨(h 0 (by omega)).2, (h 1 (by omega)).2, (h 2 (by omega)).2, (h 3 (by omega)).2, (h 4 (by omega)).2, (h 5 (by omega)).2, (h 6 (by omega)).2, (h 7 (by omega)).2, (h 8 (by omega)).2, (h 9 (by omega)).2, (h 10 (by omega)).2, (h 11 (by omega)).2⟩
theorem SnAt.lt {w : World} {b : Nat} {X : Nat → Bool} (h : SnAt w b X) : b < w.heap.size := World.block_lt_of_cell? w _ (h 0 (by omega)).1
theorem SnAt.set {w : World} {b : Nat} {X : Nat → Bool} (h : SnAt w b X) (k : Nat) (hk : k < 12) (v : Bool) : SnAt (w.setCell ⟨b, k, none⟩ (.bool v)) b (upd X k v) := fun j hj => by
  constructor
  · by_cases hjk : j = k
    · subst hjk
      rw [World.cell?_setCell_same _ _ _ (h j hj).1]; simp only [upd, if_true]
    · rw [World.cell?_setCell_other _ _ _ _ (by simp <;> omega), (h j hj).1]; simp [upd, hjk]
  · rw [World.frozen?_setCell]; exact (h j hj).2
theorem lt12 {j : Nat} (h : j < 12) : j = 0 ∨ j = 1 ∨ j = 2 ∨ j = 3 ∨ j = 4 ∨ j = 5 ∨ j = 6 ∨ j = 7 ∨ j = 8 ∨ j = 9 ∨ j = 10 ∨ j = 11 := by omega
theorem SnAt.new (w : World) (Y : Nat → Bool) : SnAt (w.alloc (.cells #[.bool (Y 0), .bool (Y 1), .bool (Y 2), .bool (Y 3), .bool (Y 4), .bool (Y 5), .bool (Y 6), .bool (Y 7), .bool (Y 8), .bool (Y 9), .bool (Y 10), .bool (Y 11)] 117)) w.heap.size Y := fun j hj => by
  constructor
  · rw [World.cell?_alloc_at _ _ _ _ rfl]
    rcases lt12 hj with rfl | rfl | rfl | rfl | rfl | rfl | rfl | rfl | rfl | rfl | rfl | rfl <;> rfl
  · exact World.frozen?_alloc_at _ _ _ _ rfl
theorem SnAt.zero (w : World) : SnAt (w.alloc (.cells #[.bool false, .bool false, .bool false, .bool false, .bool false, .bool false, .bool false, .bool false, .bool false, .bool false, .bool false, .bool false] 117)) w.heap.size S0 := SnAt.new w S0
/-- All of it written over. -/
theorem SnAt.store {w : World} {b : Nat} {X : Nat → Bool} (h : SnAt w b X) (Y : Nat → Bool) :
    SnAt ((((((((((((w.setCell ⟨b, 0, none⟩ (.bool (Y 0))).setCell ⟨b, 1, none⟩ (.bool (Y 1))).setCell ⟨b, 2, none⟩ (.bool (Y 2))).setCell ⟨b, 3, none⟩ (.bool (Y 3))).setCell ⟨b, 4, none⟩ (.bool (Y 4))).setCell ⟨b, 5, none⟩ (.bool (Y 5))).setCell ⟨b, 6, none⟩ (.bool (Y 6))).setCell ⟨b, 7, none⟩ (.bool (Y 7))).setCell ⟨b, 8, none⟩ (.bool (Y 8))).setCell ⟨b, 9, none⟩ (.bool (Y 9))).setCell ⟨b, 10, none⟩ (.bool (Y 10))).setCell ⟨b, 11, none⟩ (.bool (Y 11))) b Y ∧
    Fr [b] w ((((((((((((w.setCell ⟨b, 0, none⟩ (.bool (Y 0))).setCell ⟨b, 1, none⟩ (.bool (Y 1))).setCell ⟨b, 2, none⟩ (.bool (Y 2))).setCell ⟨b, 3, none⟩ (.bool (Y 3))).setCell ⟨b, 4, none⟩ (.bool (Y 4))).setCell ⟨b, 5, none⟩ (.bool (Y 5))).setCell ⟨b, 6, none⟩ (.bool (Y 6))).setCell ⟨b, 7, none⟩ (.bool (Y 7))).setCell ⟨b, 8, none⟩ (.bool (Y 8))).setCell ⟨b, 9, none⟩ (.bool (Y 9))).setCell ⟨b, 10, none⟩ (.bool (Y 10))).setCell ⟨b, 11, none⟩ (.bool (Y 11))) := by
  constructor
  · have := ((((((((((((h.set 0 (by omega) (Y 0)).set 1 (by omega) (Y 1)).set 2 (by omega) (Y 2)).set 3 (by omega) (Y 3)).set 4 (by omega) (Y 4)).set 5 (by omega) (Y 5)).set 6 (by omega) (Y 6)).set 7 (by omega) (Y 7)).set 8 (by omega) (Y 8)).set 9 (by omega) (Y 9)).set 10 (by omega) (Y 10)).set 11 (by omega) (Y 11))
    intro j hj
    have h2 := this j hj
    refine ⟨h2.1.trans ?_, h2.2⟩
    congr 2
    rcases lt12 hj with rfl | rfl | rfl | rfl | rfl | rfl | rfl | rfl | rfl | rfl | rfl | rfl <;> rfl
  · exact ((((((((((((Fr.set w ⟨b, 0, none⟩ _).trans (Fr.set _ ⟨b, 1, none⟩ _)).trans (Fr.set _ ⟨b, 2, none⟩ _)).trans (Fr.set _ ⟨b, 3, none⟩ _)).trans (Fr.set _ ⟨b, 4, none⟩ _)).trans (Fr.set _ ⟨b, 5, none⟩ _)).trans (Fr.set _ ⟨b, 6, none⟩ _)).trans (Fr.set _ ⟨b, 7, none⟩ _)).trans (Fr.set _ ⟨b, 8, none⟩ _)).trans (Fr.set _ ⟨b, 9, none⟩ _)).trans (Fr.set _ ⟨b, 10, none⟩ _)).trans (Fr.set _ ⟨b, 11, none⟩ _))

/-- A pattern in a variable. -/
def Bx (w : World) (b : Nat) (nm : ByteArray) (a0 a1 al : Option Addr) (n0 c0 n1 c1 nl cl : Nat) : Prop :=
  w.cell? ⟨b, 0, none⟩ = some (.string nm) ∧ w.cell? ⟨b, 1, none⟩ = some (.slice a0 n0 c0) ∧ w.cell? ⟨b, 2, none⟩ = some (.slice a1 n1 c1) ∧ w.cell? ⟨b, 3, none⟩ = some (.slice al nl cl)
theorem Bx.new (w : World) (nm : ByteArray) (a0 a1 al : Option Addr) (n0 c0 n1 c1 nl cl : Nat) : Bx (w.alloc (.cells #[.string nm, .slice a0 n0 c0, .slice a1 n1 c1, .slice al nl cl] 26)) w.heap.size nm a0 a1 al n0 c0 n1 c1 nl cl := by
  refine ⟨?_, ?_, ?_, ?_⟩ <;> (rw [World.cell?_alloc_at _ _ _ _ rfl]; rfl)
theorem Bx.fr {Z : List Nat} {w w' : World} {b : Nat} {nm : ByteArray} {a0 a1 al : Option Addr} {n0 c0 n1 c1 nl cl : Nat} (h : Bx w b nm a0 a1 al n0 c0 n1 c1 nl cl) (k : Fr Z w w') (hb : b ∉ Z) : Bx w' b nm a0 a1 al n0 c0 n1 c1 nl cl := ⟨k.cell h.1 hb, k.cell h.2.1 hb, k.cell h.2.2.1 hb, k.cell h.2.2.2 hb⟩
theorem Bx.kp {w w' : World} {b : Nat} {nm : ByteArray} {a0 a1 al : Option Addr} {n0 c0 n1 c1 nl cl : Nat} (h : Bx w b nm a0 a1 al n0 c0 n1 c1 nl cl) (k : Kp w w') : Bx w' b nm a0 a1 al n0 c0 n1 c1 nl cl := h.fr (Fr.of_kp k) (by simp)
theorem Bx.lt {w : World} {b : Nat} {nm : ByteArray} {a0 a1 al : Option Addr} {n0 c0 n1 c1 nl cl : Nat} (h : Bx w b nm a0 a1 al n0 c0 n1 c1 nl cl) : b < w.heap.size := World.block_lt_of_cell? w _ h.1
end Go.Proofs.YtbdphdgomcabmaaGreatDoor

namespace Go.Proofs.YtbdphdgomcabmaaGreatDoor
open Go.RowKit

theorem begR_succ (d : Nat) (X : Nat → Bool) (l : List Int) (k : Nat) (h : k < l.length) : begR d X (l.take (k + 1)) = if l[k] = 1 then upd (begR d X (l.take k)) d true else upd (begR d X (l.take k)) (2 + d) true := by
  unfold begR
  rw [take_step l k h, List.foldl_append]; rfl

theorem begR_take (d : Nat) (X : Nat → Bool) (l : List Int) : begR d X (l.take l.length) = begR d X l := by rw [List.take_length]
theorem SnAt.of_eq {w : World} {b : Nat} {X Y : Nat → Bool} (h : SnAt w b X) (e : X = Y) : SnAt w b Y := e ▸ h

set_option maxRecDepth 100000 in
set_option maxHeartbeats 4000000 in
theorem begin_any (w : World) (nm : ByteArray) (a0 a1 al : Option Addr) (n0 c0 n1 c1 nl cl : Nat) (b0 b1 : List Int) (h0 : Is w a0 n0 b0) (h1 : Is w a1 n1 b1) :
    Calls Tryz.prog 74 #[.agg #[.string nm, .slice a0 n0 c0, .slice a1 n1 c1, .slice al nl cl]] w fun e w' => e = .returned (snV (begunR b0 b1)) ∧ Kp w w' := by
  have hm0 := h0.2.1
  have hm1 := h1.2.1
  unfold maxLen at hm0 hm1
  go_enter Tryz.func74, Tryz.ntmps74
  go_upto_region 2 with fail
  have hk1 := Kp.new w (.cells #[.string nm, .slice a0 n0 c0, .slice a1 n1 c1, .slice al nl cl] 26)
  have hB := Bx.new w nm a0 a1 al n0 c0 n1 c1 nl cl
  have hs1 : (w.alloc (.cells #[.string nm, .slice a0 n0 c0, .slice a1 n1 c1, .slice al nl cl] 26)).heap.size = w.heap.size + 1 := by simp
  generalize w.alloc (.cells #[.string nm, .slice a0 n0 c0, .slice a1 n1 c1, .slice al nl cl] 26) = wa at hk1 hB hs1 ⊢
  have hk2 := Kp.new wa (.cells #[.bool false, .bool false, .bool false, .bool false, .bool false, .bool false, .bool false, .bool false, .bool false, .bool false, .bool false, .bool false] 117)
  have hR := SnAt.zero wa
  have hs2 : (wa.alloc (.cells #[.bool false, .bool false, .bool false, .bool false, .bool false, .bool false, .bool false, .bool false, .bool false, .bool false, .bool false, .bool false] 117)).heap.size = wa.heap.size + 1 := by simp
  generalize wa.alloc (.cells #[.bool false, .bool false, .bool false, .bool false, .bool false, .bool false, .bool false, .bool false, .bool false, .bool false, .bool false, .bool false] 117) = wb at hk2 hR hs2 ⊢
  have hk3 := Kp.new wb (.cells #[.bool false, .bool false, .bool false, .bool false, .bool false, .bool false, .bool false, .bool false, .bool false, .bool false, .bool false, .bool false] 117)
  have hX := SnAt.zero wb
  have hs3 : (wb.alloc (.cells #[.bool false, .bool false, .bool false, .bool false, .bool false, .bool false, .bool false, .bool false, .bool false, .bool false, .bool false, .bool false] 117)).heap.size = wb.heap.size + 1 := by simp
  generalize wb.alloc (.cells #[.bool false, .bool false, .bool false, .bool false, .bool false, .bool false, .bool false, .bool false, .bool false, .bool false, .bool false, .bool false] 117) = wc at hk3 hX hs3 ⊢
  obtain ⟨bb, hbb⟩ : ∃ bb, bb = w.heap.size := ⟨_, rfl⟩
  have e1 : wa.heap.size = bb + 1 := by omega
  have e2 : wb.heap.size = bb + 2 := by omega
  rw [← hbb] at hB
  rw [e1] at hR
  rw [e2] at hX
  replace hB := (hB.kp hk2).kp hk3
  replace hR := hR.kp hk3
  have hkc := Kp.trans hk1 (Kp.trans hk2 hk3)
  have Hk := Lib.hid (And.intro hkc hbb)
  clear hk1 hk2 hk3 hs1 hs2 hs3 e1 e2 hkc
  rw [← hbb]
  clear hbb
  go_wp2_with fail
  go_loopw [4] (fun i wr => ∃ k : Nat, k ≤ 2 ∧ i = .int .i64 (k : Nat) ∧ Fr [bb + 2] wc wr ∧ SnAt wr (bb + 2) (if k = 0 then S0 else if k = 1 then begR 0 S0 b0 else begunR b0 b1)) (fun i _ => 2 - (intOf i).toNat)
  case atStart => exact ⟨0, by omega, rfl, Fr.refl _ _, hX⟩
  case round =>
    clear hX
    obtain ⟨k, hk, rfl, hF, hS⟩ := hrel
    rcases (show k = 0 ∨ k = 1 ∨ k = 2 by omega) with rfl | rfl | rfl
    · rw [if_pos rfl] at hS
      go_wp2_with fail
      go_loopw [5] (fun i wv => ∃ j : Nat, j ≤ n0 ∧ i = .int .i64 (j : Nat) ∧ Fr [bb + 2] wc wv ∧ SnAt wv (bb + 2) (begR 0 S0 (b0.take j))) (fun i _ => n0 - (intOf i).toNat)
      case atStart => exact ⟨0, by omega, rfl, hF, hS⟩
      case round =>
        clear hF hS
        obtain ⟨j, hj, rfl, hF, hS⟩ := hrel
        obtain ⟨y0, y1, y2, y3⟩ := hB.fr hF (by simp)
        by_cases hjn : j < n0
        · have hjl : j < b0.length := by rw [h0.1]; exact hjn
          obtain ⟨tb, toff, rfl, htl, hcc⟩ := h0.at j hjn
          have hck := hF.cell ((Hk.out.1).cell (hcc j hjn)) (by have := Hk.out.2; simp; omega)
          have hsu := begR_succ 0 S0 b0 j hjl
          clear hcc
          generalize b0[j]'hjl = t at hck hsu
          have Hsu := Lib.hid hsu; clear hsu
          by_cases ht : t = 1
          · subst ht
            have hS2 := hS.set 0 (by omega) true
            rw [if_pos rfl] at Hsu
            obtain ⟨q1, q2⟩ := hS 0 (by omega)
            have HS2 := Lib.hid hS2; clear hS2 hS
            go_wp2_with fail
            go_roundw
            case rel => exact ⟨j + 1, by omega, by go_num, hF.trans (Fr.set _ ⟨bb + 2, 0, none⟩ _), by rw [Hsu.out]; exact HS2.out⟩
            case measure => simp [intOf]; omega
          · have hb : (t == 1) = false := by simpa using ht
            rw [if_neg ht] at Hsu
            have hS2 := hS.set 2 (by omega) true
            obtain ⟨q1, q2⟩ := hS 2 (by omega)
            have HS2 := Lib.hid hS2; clear hS2 hS
            go_wp2_with fail
            go_roundw
            case rel => exact ⟨j + 1, by omega, by go_num, hF.trans (Fr.set _ ⟨bb + 2, 2, none⟩ _), by rw [Hsu.out]; exact HS2.out⟩
            case measure => simp [intOf]; omega
        · obtain rfl : j = n0 := by omega
          have hS' : SnAt wr (bb + 2) (begR 0 S0 b0) := hS.of_eq (by rw [← h0.1, List.take_length])
          clear hS
          go_wp2_with fail
          go_roundw
          case rel => exact ⟨1, by omega, by go_num, hF, hS'⟩
          case measure => simp [intOf]
    · rw [if_neg (by decide), if_pos rfl] at hS
      go_wp2_with fail
      go_loopw [5] (fun i wv => ∃ j : Nat, j ≤ n1 ∧ i = .int .i64 (j : Nat) ∧ Fr [bb + 2] wc wv ∧ SnAt wv (bb + 2) (begR 1 (begR 0 S0 b0) (b1.take j))) (fun i _ => n1 - (intOf i).toNat)
      case atStart => exact ⟨0, by omega, rfl, hF, hS⟩
      case round =>
        clear hF hS
        obtain ⟨j, hj, rfl, hF, hS⟩ := hrel
        obtain ⟨y0, y1, y2, y3⟩ := hB.fr hF (by simp)
        by_cases hjn : j < n1
        · have hjl : j < b1.length := by rw [h1.1]; exact hjn
          obtain ⟨tb, toff, rfl, htl, hcc⟩ := h1.at j hjn
          have hck := hF.cell ((Hk.out.1).cell (hcc j hjn)) (by have := Hk.out.2; simp; omega)
          have hsu := begR_succ 1 (begR 0 S0 b0) b1 j hjl
          clear hcc
          generalize b1[j]'hjl = t at hck hsu
          have Hsu := Lib.hid hsu; clear hsu
          by_cases ht : t = 1
          · subst ht
            have hS2 := hS.set 1 (by omega) true
            rw [if_pos rfl] at Hsu
            obtain ⟨q1, q2⟩ := hS 1 (by omega)
            have HS2 := Lib.hid hS2; clear hS2 hS
            go_wp2_with fail
            go_roundw
            case rel => exact ⟨j + 1, by omega, by go_num, hF.trans (Fr.set _ ⟨bb + 2, 1, none⟩ _), by rw [Hsu.out]; exact HS2.out⟩
            case measure => simp [intOf]; omega
          · have hb : (t == 1) = false := by simpa using ht
            rw [if_neg ht] at Hsu
            have hS2 := hS.set 3 (by omega) true
            obtain ⟨q1, q2⟩ := hS 3 (by omega)
            have HS2 := Lib.hid hS2; clear hS2 hS
            go_wp2_with fail
            go_roundw
            case rel => exact ⟨j + 1, by omega, by go_num, hF.trans (Fr.set _ ⟨bb + 2, 3, none⟩ _), by rw [Hsu.out]; exact HS2.out⟩
            case measure => simp [intOf]; omega
        · obtain rfl : j = n1 := by omega
          have hS' : SnAt wr (bb + 2) (begunR b0 b1) := hS.of_eq (by rw [← h1.1, List.take_length]; rfl)
          clear hS
          go_wp2_with fail
          go_roundw
          case rel => exact ⟨2, by omega, by go_num, hF, hS'⟩
          case measure => simp [intOf]
    · rw [if_neg (by decide), if_neg (by decide)] at hS
      have hR2 := hR.fr hF (by simp)
      have hst := (hR2.store (begunR b0 b1)).2
      have hkf : Kp w wr := ((Fr.of_kp Hk.out.1).step hF (fun i hi => .inr (by have := Hk.out.2; simp at hi; omega))).kp
      have Hfin := Lib.hid (((Fr.of_kp hkf).step hst (fun i hi => .inr (by have := Hk.out.2; simp at hi; omega))).kp)
      obtain ⟨x0, x1, x2, x3, x4, x5, x6, x7, x8, x9, x10, x11⟩ := hS.cells
      obtain ⟨z0, z1, z2, z3, z4, z5, z6, z7, z8, z9, z10, z11⟩ := hR2.cells
      obtain ⟨f0, f1, f2, f3, f4, f5, f6, f7, f8, f9, f10, f11⟩ := hR2.free
      clear hst hkf hR2 hS hF hR hB h0 h1
      go_wp2_with fail
      refine bodyPost_ret (v := snV (begunR b0 b1)) (by simp [results, Tryz.results74, go_sem, snV, *]) rfl ⟨rfl, Hfin.out⟩

set_option maxHeartbeats 2000000 in
theorem oneWay_any (w : World) (nm : ByteArray) (a0 a1 al : Option Addr) (n0 c0 n1 c1 nl cl : Nat) (ls : List Ln) (hl : Lns w al nl ls) :
    Calls Tryz.prog 77 #[.agg #[.string nm, .slice a0 n0 c0, .slice a1 n1 c1, .slice al nl cl]] w fun e w' => e = .returned (.bool (oneWay ls)) ∧ Kp w w' := by
  by_cases h1 : nl = 1
  · subst h1
    have hll : 0 < ls.length := by rw [hl.1]; omega
    obtain ⟨b, off, tp, tn, tc, rfl, hc1, _, _, _⟩ := hl.2.2 0 hll
    rw [Nat.zero_mul, Nat.add_zero] at hc1
    have Ho := Lib.hid (show oneWay ls = (ls[0].1 == 0) by unfold oneWay; rw [hl.1, List.getElem?_eq_getElem hll]; simp)
    generalize ls[0].1 = f at hc1 Ho
    have hc2 := fun o => Kp.cell (Kp.new w o) hc1
    clear hc1
    go_enter Tryz.func77, Tryz.ntmps77
    go_wp2_with fail
    go_ret
    exact ⟨by rw [Ho.out]; rfl, Kp.new _ _⟩
  · have hb : ((nl : Int) == 1) = false := by simp; omega
    have Ho := Lib.hid (show oneWay ls = false by unfold oneWay; rw [hl.1]; simp [h1])
    go_enter Tryz.func77, Tryz.ntmps77
    go_wp2_with fail
    go_ret
    exact ⟨by rw [Ho.out]; rfl, Kp.new _ _⟩
end Go.Proofs.YtbdphdgomcabmaaGreatDoor
