/- Parts of the walks and plain laws, merged: RefWordsP, RefWords, RefNum, RefMod, Mdf, RowsOf, RowLaw, AllA, All, Find, Fnd. Each theorem bears its own conditions; no other. -/
import Derived.Test.YtbdphdgomcabmaaGreatDoorNi7
import Derived.Test.YtbdphdgomcabmaaGreatDoorRefCheck
import Derived.Deep.CutBlock
import Derived.Test.YtbdphdgomcabmaaGreatDoorNi1
import Derived.Test.YtbdphdgomcabmaaGreatDoorNi6
namespace Go.Proofs.YtbdphdgomcabmaaGreatDoor
open Go.RowKit

/-- The words of a row, as the document reads them. -/
def wdR (s : Q.Bt) : Option (List Int) := Q.wordsR (s.length + 1) s
end Go.Proofs.YtbdphdgomcabmaaGreatDoor

namespace Go.Proofs.YtbdphdgomcabmaaGreatDoor
open Go.RowKit

/-- What is answered: the tokens in a list of the call's own, and whether they are of the form. -/
def RWordsPost (w : World) (s : Q.Bt) (e : Ending) (w' : World) : Prop := Kp w w' ∧ ∃ ao n cap, e = .returned (.tuple #[.slice ao n cap, .bool (wdR s).isSome]) ∧ ∀ l, wdR s = some l → Own w' w.heap.size 3 1 ao n cap (l.map iv) ∧ n ≤ s.length
theorem RWordsPost.no {w w' : World} {s : Q.Bt} (h : wdR s = none) (k : Kp w w') : RWordsPost w s (.returned (.tuple #[.slice none 0 0, .bool false])) w' := ⟨k, none, 0, 0, by rw [h]; rfl, fun l hl => by rw [h] at hl; cases hl⟩
theorem RWordsPost.yes {w w' : World} {s : Q.Bt} {l : List Int} {ao : Option Addr} {n cap : Nat} (h : wdR s = some l) (k : Kp w w') (ho : Own w' w.heap.size 3 1 ao n cap (l.map iv)) (hn : n ≤ s.length) : RWordsPost w s (.returned (.tuple #[.slice ao n cap, .bool true])) w' :=
  ⟨k, ao, n, cap, by rw [h]; rfl, fun l' hl => by rw [h] at hl; cases hl; exact ⟨ho, hn⟩⟩
end Go.Proofs.YtbdphdgomcabmaaGreatDoor

namespace Go.Proofs.YtbdphdgomcabmaaGreatDoor
open Go.RowKit

end Go.Proofs.YtbdphdgomcabmaaGreatDoor

namespace Go.Proofs.YtbdphdgomcabmaaGreatDoor
open Go.RowKit

/-- What is answered: an error's number, or a pattern in rows of the call's own. -/
def RModPost (w : World) (p : Q.Pn) (ws : List Q.Bt) (e : Ending) (w' : World) : Prop := Kp w w' ∧ match Q.modR p ws with
  | (some q, _) => ∃ t0 t1 tf td ts D, e = .returned (.tuple #[.agg #[.string (bs q.nm), tvv t0, tvv t1, tvv (subT tf D.length)], iv 0]) ∧ td.length = D.length ∧ D.length ≤ 1 ∧ ts.length = q.ls.length ∧ Sep w' w.heap.size (rowsP t0 t1 tf (td ++ ts) q.b0 q.b1 (D ++ q.ls))
  | (none, c) => e = .returned (.tuple #[zeroP, iv ((c : Nat) : Int)])
theorem RModPost.bad {w w' : World} {p : Q.Pn} {ws : List Q.Bt} {c : Nat} (h : Q.modR p ws = (none, c)) (hk : Kp w w') : RModPost w p ws (.returned (.tuple #[zeroP, iv ((c : Nat) : Int)])) w' := ⟨hk, by rw [h]⟩
theorem RModPost.fine {w w' : World} {p q : Q.Pn} {ws : List Q.Bt} {t0 t1 tf : Tv} {td ts : List Tv} {D : List Ln} {c : Nat} (h : Q.modR p ws = (some q, c)) (hk : Kp w w')
    (hd : td.length = D.length) (h1 : D.length ≤ 1) (hl : ts.length = q.ls.length) (hs : Sep w' w.heap.size (rowsP t0 t1 tf (td ++ ts) q.b0 q.b1 (D ++ q.ls))) :
    RModPost w p ws (.returned (.tuple #[.agg #[.string (bs q.nm), tvv t0, tvv t1, tvv (subT tf D.length)], iv 0])) w' := ⟨hk, by rw [h]; exact ⟨t0, t1, tf, td, ts, D, rfl, hd, h1, hl, hs⟩⟩
theorem goR_step {k least : Nat} {q : Q.Pn} {ws : List Q.Bt} (h : k < ws.length) : Q.goR k least q (ws.drop k) = match Q.wordR k least q ws[k] with
    | none => none
    | some (m, q') => Q.goR (k + 1) m q' (ws.drop (k + 1)) := by
  rw [List.drop_eq_getElem_cons h]
  rfl
/-- What a round looks at. -/
structure RMod (w0 wr : World) (B bx : Nat) (p : Q.Pn) (ws : List Q.Bt) (k least : Nat) (q : Q.Pn) : Prop where
  l : MdL w0 wr B bx k q
  g : Q.goR 0 0 p ws = Q.goR k least q (ws.drop k)
  n : q.nm = p.nm
  s : least ≤ 30000
theorem RMod.step {w0 wr w1 : World} {B bx : Nat} {p : Q.Pn} {ws : List Q.Bt} {k least least' : Nat} {q q1 : Q.Pn} (h : RMod w0 wr B bx p ws k least q) (hk : k < ws.length) (hw : Q.wordR k least q ws[k] = some (least', q1)) (hq : q1.nm = q.nm) (hs : least' ≤ 30000)
    (t0 t1 tf : Tv) (td ts : List Tv) (D : List Ln) (hm : MdS w1 B bx (bs q.nm) t0 t1 tf td ts D q1.ls q1.b0 q1.b1) (hK : Kept bx B wr w1) (hb : w0.heap.size ≤ bx) (hB : bx + 1 < B)
    (ln : ∀ l ∈ q1.ls, (l.1 = 0 ∨ l.1 = 1) ∧ l.2 ≠ [] ∧ l.2.length ≤ 24 + (k + 1)) (ll : q1.ls.length ≤ 24) (l0 : q1.b0.length ≤ 2 + 2 * (k + 1)) (l1 : q1.b1.length ≤ 2 + 2 * (k + 1)) : RMod w0 w1 B bx p ws (k + 1) least' q1 :=
  ⟨⟨⟨t0, t1, tf, td, ts, D, by rw [hq]; exact hm, fun h => by omega⟩, hK.keep h.l.kp hb (by omega), hK.four h.l.zero (by omega) hB, ln, ll, fun h => by omega, l0, l1⟩, by rw [h.g, goR_step hk, hw], by rw [hq, h.n], hs⟩
theorem RMod.stop {w0 wr : World} {B bx : Nat} {p : Q.Pn} {ws : List Q.Bt} {k least : Nat} {q : Q.Pn} (h : RMod w0 wr B bx p ws k least q) (hk : k < ws.length) (hw : Q.wordR k least q ws[k] = none) : Q.goR 0 0 p ws = none := by rw [h.g, goR_step hk, hw]
/-- The cells that a name's round looks at. -/
structure ClN (bx b o : Nat) (s x : ByteArray) (w : World) : Prop where
  p : w.cell? ⟨bx, 0, none⟩ = some (.string s)
  c : w.cell? ⟨b, o, none⟩ = some (.string x)
theorem ClN.kp {bx b o : Nat} {s x : ByteArray} {w w' : World} (h : ClN bx b o s x w) (k : Kp w w') : ClN bx b o s x w' := ⟨k.cell h.p, k.cell h.c⟩
end Go.Proofs.YtbdphdgomcabmaaGreatDoor

namespace Go.Proofs.YtbdphdgomcabmaaGreatDoor
open Go.RowKit

end Go.Proofs.YtbdphdgomcabmaaGreatDoor

namespace Go.Proofs.YtbdphdgomcabmaaGreatDoor
open Go.RowKit

/-- The rows of the table, as texts. -/
def rowsL : List ByteArray := [⟨#[73, 49, 75, 124, 124, 115, 124, 101, 32, 101, 115, 32, 115, 59, 101, 32, 101, 101, 59, 115, 101]⟩, ⟨#[73, 49, 75, 49, 124, 124, 115, 124, 101, 32, 115, 59, 101, 32, 101, 101, 32, 101, 115, 59, 115, 101]⟩, ⟨#[73, 49, 78, 124, 124, 124, 101, 32, 115, 59, 101, 32, 101, 101, 59, 115, 101]⟩, ⟨#[73, 49, 88, 124, 124, 124, 101, 32, 115, 59, 101, 32, 101, 101, 32, 115, 32, 101, 115, 59, 115, 101]⟩, ⟨#[73, 49, 88, 49, 124, 124, 124, 101, 32, 115, 59, 101, 32, 101, 101, 32, 115, 59, 115, 101, 32, 101, 115]⟩, ⟨#[73, 75, 124, 124, 115, 124, 101, 32, 101, 115, 32, 115, 32, 115, 115, 59, 101, 32, 101, 101, 32, 115, 101]⟩, ⟨#[73, 75, 49, 124, 124, 115, 124, 101, 32, 115, 59, 101, 32, 101, 101, 32, 115, 101, 32, 101, 115]⟩, ⟨#[73, 78, 124, 124, 124, 101, 32, 115, 59, 101, 32, 101, 101, 32, 115, 101]⟩, ⟨#[73, 88, 124, 124, 124, 101, 32, 115, 59, 101, 32, 101, 101, 32, 115, 101, 32, 115, 32, 101, 115]⟩, ⟨#[73, 88, 49, 124, 124, 124, 101, 32, 115, 59, 101, 32, 101, 101, 32, 115, 101, 32, 115, 59, 101, 115]⟩, ⟨#[75, 124, 115, 124, 115, 124, 101, 32, 101, 115, 32, 115, 115]⟩, ⟨#[75, 49, 75, 124, 115, 124, 115, 124, 101, 32, 101, 115, 59, 101, 32, 101, 101, 59, 115, 101]⟩, ⟨#[75, 49, 75, 49, 124, 115, 124, 115, 124, 101, 59, 101, 32, 101, 101, 32, 101, 115, 59, 115, 101]⟩, ⟨#[75, 49, 78, 124, 115, 124, 124, 101, 59, 101, 32, 101, 101, 59, 115, 101]⟩, ⟨#[75, 49, 88, 124, 115, 124, 124, 101, 59, 101, 32, 101, 101, 32, 115, 32, 101, 115, 59, 115, 101]⟩, ⟨#[75, 49, 88, 49, 124, 115, 124, 124, 101, 59, 101, 32, 101, 101, 32, 115, 59, 115, 101, 32, 101, 115]⟩, ⟨#[75, 75, 124, 115, 124, 115, 124, 101, 32, 101, 115, 32, 115, 115, 59, 101, 32, 101, 101, 32, 115, 101]⟩, ⟨#[75, 75, 49, 124, 115, 124, 115, 124, 101, 59, 101, 32, 101, 101, 32, 115, 101, 32, 101, 115]⟩, ⟨#[75, 78, 124, 115, 124, 124, 101, 59, 101, 32, 101, 101, 32, 115, 101]⟩, ⟨#[75, 88, 124, 115, 124, 124, 101, 59, 101, 32, 101, 101, 32, 115, 101, 32, 115, 32, 101, 115]⟩, ⟨#[75, 88, 49, 124, 115, 124, 124, 101, 59, 101, 32, 101, 101, 32, 115, 101, 32, 115, 59, 101, 115]⟩, ⟨#[78, 124, 124, 115, 124, 101, 32, 101, 115]⟩, ⟨#[78, 75, 124, 124, 115, 124, 101, 32, 101, 115, 59, 101, 32, 101, 101]⟩, ⟨#[78, 75, 49, 124, 124, 115, 124, 101, 59, 101, 32, 101, 101, 32, 101, 115]⟩, ⟨#[78, 78, 124, 124, 124, 101, 59, 101, 32, 101, 101]⟩, ⟨#[78, 88, 124, 124, 124, 101, 59, 101, 32, 101, 101, 32, 115, 32, 101, 115]⟩, ⟨#[78, 88, 49, 124, 124, 124, 101, 59, 101, 32, 101, 101, 32, 115, 59, 101, 115]⟩, ⟨#[88, 124, 124, 115, 124, 101, 32, 101, 115, 32, 115, 32, 115, 115]⟩, ⟨#[88, 49, 75, 124, 124, 115, 124, 101, 32, 101, 115, 59, 101, 32, 101, 101, 59, 115, 59, 115, 101]⟩, ⟨#[88, 49, 75, 49, 124, 124, 115, 124, 101, 59, 101, 32, 101, 101, 32, 101, 115, 59, 115, 59, 115, 101]⟩, ⟨#[88, 49, 78, 124, 124, 124, 101, 59, 101, 32, 101, 101, 59, 115, 59, 115, 101]⟩, ⟨#[88, 49, 88, 124, 124, 124, 101, 59, 101, 32, 101, 101, 32, 115, 32, 101, 115, 59, 115, 59, 115, 101]⟩, ⟨#[88, 49, 88, 49, 124, 124, 124, 101, 59, 101, 32, 101, 101, 32, 115, 59, 101, 115, 32, 115, 59, 115, 101]⟩, ⟨#[88, 75, 124, 124, 115, 124, 101, 32, 101, 115, 59, 101, 32, 101, 101, 59, 115, 32, 115, 101]⟩, ⟨#[88, 75, 49, 124, 124, 115, 124, 101, 59, 101, 32, 101, 101, 32, 101, 115, 59, 115, 32, 115, 101]⟩, ⟨#[88, 78, 124, 124, 124, 101, 59, 101, 32, 101, 101, 59, 115, 32, 115, 101]⟩, ⟨#[88, 88, 124, 124, 124, 101, 59, 101, 32, 101, 101, 32, 115, 32, 101, 115, 59, 115, 32, 115, 101]⟩, ⟨#[88, 88, 49, 124, 124, 124, 101, 59, 101, 32, 101, 101, 32, 115, 59, 101, 115, 32, 115, 32, 115, 101]⟩]
end Go.Proofs.YtbdphdgomcabmaaGreatDoor

namespace Go.Proofs.YtbdphdgomcabmaaGreatDoor
open Go.RowKit

/-- A text's parts, its lines, and what a row holds. -/
def partL (r : ByteArray) (j : Nat) : ByteArray := (splitL r 124).getD j ⟨#[]⟩
def lineL (l : List ByteArray) (k : Nat) : List Ln := l.mapIdx fun i x => (((k + i) % 2 : Nat), tokL x)
def rowLs (r : ByteArray) : List Ln := lineL (splitL (partL r 3) 59) 0
end Go.Proofs.YtbdphdgomcabmaaGreatDoor

namespace Go.Proofs.YtbdphdgomcabmaaGreatDoor
open Go.RowKit

/-- It holds, and goes on to hold when only the blocks of X change. -/
def Sta (w : World) (X : List Nat) (P : World → Prop) : Prop := ∀ w', Fr X w w' → P w'
theorem Sta.now {w : World} {X : List Nat} {P : World → Prop} (h : Sta w X P) : P w := h w (Fr.refl _ _)
theorem Sta.step {a b : World} {X Y Z : List Nat} {P : World → Prop} (h : Sta a X P) (k : Fr Y a b) (hY : ∀ j ∈ Y, j ∈ X ∨ a.heap.size ≤ j) (hZ : ∀ j ∈ Z, j ∈ X ∨ a.heap.size ≤ j) : Sta b Z P := fun w' k' =>
  h w' (((Fr.refl X a).step k hY).step k' hZ)
theorem Sta.kp {a b : World} {X : List Nat} {P : World → Prop} (h : Sta a X P) (k : Kp a b) : Sta b X P := h.step (Fr.of_kp k) (by simp) (fun _ hj => .inl hj)
theorem Sta.new {w : World} {ao : Option Addr} {n : Nat} {xs : List Int} {X : List Nat} (h : Is w ao n xs) (hX : ∀ k ∈ blkL ao, k ∉ X) : Sta w X (fun w => Is w ao n xs) := fun _ k => ⟨h.1, h.2.1, k.cs h.2.2 hX⟩
theorem Sta.sub {w : World} {X Y : List Nat} {P : World → Prop} (h : Sta w X P) (hs : ∀ j ∈ Y, j ∈ X) : Sta w Y P := fun w' k => h w' (k.mono hs)

/-- Messages of the call's own, each with a list of its own; the blocks of X may change. -/
def LnO (w : World) (B : Nat) (X : List Nat) (ao : Option Addr) (n cap : Nat) (ls : List Ln) : Prop :=
  ls.length = n ∧ ∃ ts : List Tv, ts.length = ls.length ∧ Own w B 45 2 ao n cap (lnc ls ts) ∧ ∀ (j : Nat) (h : j < ls.length) (h' : j < ts.length), ts[j].n ≤ 7007 ∧ Sta w (blkL ao ++ X) (fun w => Is w ts[j].ao ts[j].n ls[j].2)
theorem LnO.nil (w : World) (B : Nat) (X : List Nat) : LnO w B X none 0 0 [] := ⟨rfl, [], rfl, Own.nil _ _ _ _, fun j h => by simp at h⟩
theorem LnO.lns {w : World} {B : Nat} {X : List Nat} {ao : Option Addr} {n cap : Nat} {ls : List Ln} (h : LnO w B X ao n cap ls) (hn : n ≤ 140737488351232) : Lns w ao n ls := by
  obtain ⟨h1, ts, h2, h3, h4⟩ := h
  refine ⟨h1, hn, fun j hj => ?_⟩
  obtain ⟨b, off, rfl, hc⟩ := h3.cs.at (j * 2) (by rw [lnc_length h2]; omega)
  obtain ⟨g0, g1⟩ := lnc_get h2 j hj
  obtain ⟨q1, q2⟩ := h4 j hj (by omega)
  exact ⟨b, off, _, _, _, rfl, hc _ _ g0, by have := hc _ _ g1; rwa [← Nat.add_assoc] at this, q2.now, by omega⟩
theorem LnO.keep {w w' : World} {B : Nat} {X Y : List Nat} {ao : Option Addr} {n cap : Nat} {ls : List Ln} (h : LnO w B X ao n cap ls) (k : Fr Y w w') (hY : ∀ j ∈ Y, j ∈ X ∨ w.heap.size ≤ j) (hB : ∀ j ∈ Y, j ∉ blkL ao) : LnO w' B X ao n cap ls := by
  obtain ⟨h1, ts, h2, h3, h4⟩ := h
  exact ⟨h1, ts, h2, k.own h3 (fun j hj hj2 => hB j hj2 hj), fun j hj hj' => ⟨(h4 j hj hj').1, (h4 j hj hj').2.step k (fun i hi => (hY i hi).imp (fun q => List.mem_append.2 (.inr q)) id) (fun i hi => .inl hi)⟩⟩
/-- One more message. -/
theorem LnO.app {a w w' : World} {B : Nat} {X : List Nat} {ao ao' : Option Addr} {n cap cap' N : Nat} {ls : List Ln} (h : LnO a B X ao n cap ls) (ts : List Tv) (h2 : ts.length = ls.length) (h4 : ∀ (j : Nat) (h : j < ls.length) (h' : j < ts.length), ts[j].n ≤ 7007 ∧ Sta a (blkL ao ++ X) (fun w => Is w ts[j].ao ts[j].n ls[j].2))
    (k : Kp a w) (l : Ln) (t : Tv) (ht : Is w t.ao t.n l.2) (htn : t.n ≤ 7007) (hX : ∀ j ∈ blkL t.ao, j < w.heap.size ∧ j ∉ blkL ao ++ X) (hN : N = n + 1)
    (ha : Appd w w' B 45 2 ao cap 1 N (lnc (ls ++ [l]) (ts ++ [t])) ao' cap') : LnO w' B X ao' N cap' (ls ++ [l]) := by
  have hf := ha.fr
  have hb' : ∀ j ∈ blkL ao', j ∈ blkL ao ∨ j = w.heap.size := fun j hj => by
    rcases ha.fresh j (mem_blkL.1 hj) with q | q
    · exact .inl (mem_blkL.2 q)
    · exact .inr q
  have hsz := k.size
  refine ⟨by rw [List.length_append, h.1, hN]; rfl, ts ++ [t], by simp [h2], ha.own, fun j hj hj' => ?_⟩
  by_cases hlt : j < ls.length
  · rw [List.getElem_append_left hlt, List.getElem_append_left (by omega)]
    refine ⟨(h4 j hlt (by omega)).1, ((h4 j hlt (by omega)).2.kp k).step hf (fun i hi => .inl (List.mem_append.2 (.inl hi))) (fun i hi => ?_)⟩
    rcases List.mem_append.1 hi with q | q
    · rcases hb' i q with q | q
      · exact .inl (List.mem_append.2 (.inl q))
      · exact .inr (by omega)
    · exact .inl (List.mem_append.2 (.inr q))
  · have hje : j = ls.length := by simp at hj; omega
    subst hje
    rw [List.getElem_concat_length rfl]
    have : (ts ++ [t])[ls.length]'hj' = t := by simp [← h2]
    rw [this]
    refine ⟨htn, Sta.step (Sta.new ht (fun i hi => (hX i hi).2)) hf (fun i hi => .inl (List.mem_append.2 (.inl hi))) (fun i hi => ?_)⟩
    rcases List.mem_append.1 hi with q | q
    · rcases hb' i q with q | q
      · exact .inl (List.mem_append.2 (.inl q))
      · exact .inr (by omega)
    · exact .inl (List.mem_append.2 (.inr q))

/-- A pattern among the cells of a list. -/
structure Pv where
  nm : ByteArray
  b0 : Tv
  b1 : Tv
  ls : Tv
def pvc (p : Pv) : List Value := [.string p.nm, tvv p.b0, tvv p.b1, tvv p.ls]
/-- A pattern's lists read what its row says. -/
def PvR (r : ByteArray) (p : Pv) (w : World) : Prop := p.b0.n ≤ 7007 ∧ p.b1.n ≤ 7007 ∧ p.ls.n ≤ 7007 ∧ Is w p.b0.ao p.b0.n (tokL (partL r 1)) ∧ Is w p.b1.ao p.b1.n (tokL (partL r 2)) ∧ Lns w p.ls.ao p.ls.n (rowLs r)
/-- The first k patterns of the table, in a list of the call's own. -/
def PvO (w : World) (B : Nat) (X : List Nat) (ao : Option Addr) (n cap : Nat) (k : Nat) : Prop :=
  n = k ∧ ∃ ps : List Pv, ps.length = k ∧ Own w B 26 4 ao n cap (ps.flatMap pvc) ∧ ∀ (j : Nat) (h : j < ps.length) (r : ByteArray), rowsL[j]? = some r → ps[j].nm = partL r 0 ∧ Sta w (blkL ao ++ X) (PvR r ps[j])
theorem PvO.nil (w : World) (B : Nat) (X : List Nat) : PvO w B X none 0 0 0 := ⟨rfl, [], rfl, Own.nil _ _ _ _, fun j h => by simp at h⟩
theorem PvO.app {a w w' : World} {B : Nat} {X : List Nat} {ao ao' : Option Addr} {n cap cap' N k : Nat} (ps : List Pv) (h1 : n = k) (h2 : ps.length = k) (h4 : ∀ (j : Nat) (h : j < ps.length) (r : ByteArray), rowsL[j]? = some r → ps[j].nm = partL r 0 ∧ Sta a (blkL ao ++ X) (PvR r ps[j]))
    (hk : Kp a w) (p : Pv) (r : ByteArray) (hr : rowsL[k]? = some r) (hnm : p.nm = partL r 0) (hp : Sta w (blkL ao ++ X) (PvR r p)) (hN : N = n + 1)
    (ha : Appd w w' B 26 4 ao cap 1 N ((ps ++ [p]).flatMap pvc) ao' cap') : PvO w' B X ao' N cap' (k + 1) := by
  have hf := ha.fr
  have hb' : ∀ j ∈ blkL ao' ++ X, j ∈ blkL ao ++ X ∨ w.heap.size ≤ j := fun j hj => by
    rcases List.mem_append.1 hj with hj | hj
    · rcases ha.fresh j (mem_blkL.1 hj) with q | q
      · exact .inl (List.mem_append.2 (.inl (mem_blkL.2 q)))
      · exact .inr (by omega)
    · exact .inl (List.mem_append.2 (.inr hj))
  refine ⟨by omega, ps ++ [p], by simp [h2], ha.own, fun j hj r' hr' => ?_⟩
  by_cases hlt : j < ps.length
  · rw [List.getElem_append_left hlt]
    obtain ⟨q1, q2⟩ := h4 j hlt r' hr'
    exact ⟨q1, (q2.kp hk).step hf (fun i hi => .inl (List.mem_append.2 (.inl hi))) hb'⟩
  · have hje : j = ps.length := by simp at hj; omega
    subst hje
    rw [h2] at hr'
    rw [hr] at hr'
    cases hr'
    rw [List.getElem_concat_length rfl]
    exact ⟨hnm, hp.step hf (fun i hi => .inl (List.mem_append.2 (.inl hi))) hb'⟩
end Go.Proofs.YtbdphdgomcabmaaGreatDoor

namespace Go.Proofs.YtbdphdgomcabmaaGreatDoor
open Go.RowKit

/-- The variable that a row's pattern is made in. -/
def At4 (w : World) (b : Nat) (nm : ByteArray) (t0 t1 tl : Tv) : Prop :=
  (w.cell? ⟨b, 0, none⟩ = some (.string nm) ∧ w.cell? ⟨b, 1, none⟩ = some (tvv t0) ∧ w.cell? ⟨b, 2, none⟩ = some (tvv t1) ∧ w.cell? ⟨b, 3, none⟩ = some (tvv tl)) ∧ w.frozen? ⟨b, 1, none⟩ = false ∧ w.frozen? ⟨b, 2, none⟩ = false ∧ w.frozen? ⟨b, 3, none⟩ = false
theorem At4.new (w : World) (nm : ByteArray) : At4 (w.alloc (.cells #[.string nm, .slice none 0 0, .slice none 0 0, .slice none 0 0] 26)) w.heap.size nm ⟨none, 0, 0⟩ ⟨none, 0, 0⟩ ⟨none, 0, 0⟩ := by
  refine ⟨⟨?_, ?_, ?_, ?_⟩, ?_, ?_, ?_⟩
  · rw [World.cell?_alloc_at _ _ _ _ rfl]; rfl
  · rw [World.cell?_alloc_at _ _ _ _ rfl]; rfl
  · rw [World.cell?_alloc_at _ _ _ _ rfl]; rfl
  · rw [World.cell?_alloc_at _ _ _ _ rfl]; rfl
  · exact World.frozen?_alloc_at _ _ _ _ rfl
  · exact World.frozen?_alloc_at _ _ _ _ rfl
  · exact World.frozen?_alloc_at _ _ _ _ rfl
theorem At4.fr {X : List Nat} {w w' : World} {b : Nat} {nm : ByteArray} {t0 t1 tl : Tv} (h : At4 w b nm t0 t1 tl) (k : Fr X w w') (hb : b ∉ X) : At4 w' b nm t0 t1 tl := by
  obtain ⟨⟨h0, h1, h2, h3⟩, f1, f2, f3⟩ := h
  exact ⟨⟨k.cell h0 hb, k.cell h1 hb, k.cell h2 hb, k.cell h3 hb⟩, k.free h1 f1 hb, k.free h2 f2 hb, k.free h3 f3 hb⟩
theorem At4.kp {w w' : World} {b : Nat} {nm : ByteArray} {t0 t1 tl : Tv} (h : At4 w b nm t0 t1 tl) (k : Kp w w') : At4 w' b nm t0 t1 tl := h.fr (Fr.of_kp k) (by simp)
theorem At4.set1 {w : World} {b : Nat} {nm : ByteArray} {t0 t1 tl : Tv} (h : At4 w b nm t0 t1 tl) (t : Tv) : At4 (w.setCell ⟨b, 1, none⟩ (tvv t)) b nm t t1 tl := by
  obtain ⟨⟨h0, h1, h2, h3⟩, f1, f2, f3⟩ := h
  refine ⟨⟨?_, World.cell?_setCell_same _ _ _ h1, ?_, ?_⟩, ?_, ?_, ?_⟩
  · rw [World.cell?_setCell_other _ _ _ _ (by simp)]; exact h0
  · rw [World.cell?_setCell_other _ _ _ _ (by simp)]; exact h2
  · rw [World.cell?_setCell_other _ _ _ _ (by simp)]; exact h3
  · rw [World.frozen?_setCell]; exact f1
  · rw [World.frozen?_setCell]; exact f2
  · rw [World.frozen?_setCell]; exact f3
theorem At4.set2 {w : World} {b : Nat} {nm : ByteArray} {t0 t1 tl : Tv} (h : At4 w b nm t0 t1 tl) (t : Tv) : At4 (w.setCell ⟨b, 2, none⟩ (tvv t)) b nm t0 t tl := by
  obtain ⟨⟨h0, h1, h2, h3⟩, f1, f2, f3⟩ := h
  refine ⟨⟨?_, ?_, World.cell?_setCell_same _ _ _ h2, ?_⟩, ?_, ?_, ?_⟩
  · rw [World.cell?_setCell_other _ _ _ _ (by simp)]; exact h0
  · rw [World.cell?_setCell_other _ _ _ _ (by simp)]; exact h1
  · rw [World.cell?_setCell_other _ _ _ _ (by simp)]; exact h3
  · rw [World.frozen?_setCell]; exact f1
  · rw [World.frozen?_setCell]; exact f2
  · rw [World.frozen?_setCell]; exact f3
theorem At4.set3 {w : World} {b : Nat} {nm : ByteArray} {t0 t1 tl : Tv} (h : At4 w b nm t0 t1 tl) (t : Tv) : At4 (w.setCell ⟨b, 3, none⟩ (tvv t)) b nm t0 t1 t := by
  obtain ⟨⟨h0, h1, h2, h3⟩, f1, f2, f3⟩ := h
  refine ⟨⟨?_, ?_, ?_, World.cell?_setCell_same _ _ _ h3⟩, ?_, ?_, ?_⟩
  · rw [World.cell?_setCell_other _ _ _ _ (by simp)]; exact h0
  · rw [World.cell?_setCell_other _ _ _ _ (by simp)]; exact h1
  · rw [World.cell?_setCell_other _ _ _ _ (by simp)]; exact h2
  · rw [World.frozen?_setCell]; exact f1
  · rw [World.frozen?_setCell]; exact f2
  · rw [World.frozen?_setCell]; exact f3
theorem PvO.mono {w : World} {B B' : Nat} {X : List Nat} {ao : Option Addr} {n cap k : Nat} (h : PvO w B X ao n cap k) (hb : B' ≤ B) : PvO w B' X ao n cap k := by
  obtain ⟨h1, ps, h2, h3, h4⟩ := h
  exact ⟨h1, ps, h2, h3.mono (fun i hi => Nat.le_trans hb (h3.lt i hi).1), h4⟩
end Go.Proofs.YtbdphdgomcabmaaGreatDoor

namespace Go.Proofs.YtbdphdgomcabmaaGreatDoor
open Go.RowKit

/-- What the document's Find answers. -/
def RFindPost (w : World) (nm : Q.Bt) (e : Ending) (w' : World) : Prop := Kp w w' ∧ match rowOf nm with
  | none => e = .returned (.tuple #[zeroP, .bool false])
  | some y => ∃ t0 t1 tl : Tv, e = .returned (.tuple #[.agg #[.string (bs y.1), tvv t0, tvv t1, tvv tl], .bool true]) ∧ PatI w' t0.ao t1.ao tl.ao t0.n t1.n tl.n y.2.1.1 y.2.1.2 y.2.2.1
theorem RFindPost.no {w w' : World} {nm : Q.Bt} (hk : Kp w w') (h : rowOf nm = none) : RFindPost w nm (.returned (.tuple #[zeroP, .bool false])) w' := ⟨hk, by rw [h]⟩
theorem RFindPost.yes {w w' : World} {nm : Q.Bt} {y : Row} {t0 t1 tl : Tv} (hk : Kp w w') (h : rowOf nm = some y) (hp : PatI w' t0.ao t1.ao tl.ao t0.n t1.n tl.n y.2.1.1 y.2.1.2 y.2.2.1) :
    RFindPost w nm (.returned (.tuple #[.agg #[.string (bs y.1), tvv t0, tvv t1, tvv tl], .bool true])) w' := ⟨hk, by rw [h]; exact ⟨t0, t1, tl, rfl, hp⟩⟩
attribute [local irreducible] tblK tblP tblQ Q.piecesB Q.tableB Q.tableL rowOf rowsL
end Go.Proofs.YtbdphdgomcabmaaGreatDoor

namespace Go.Proofs.YtbdphdgomcabmaaGreatDoor
open Go.RowKit

/-- What is found: the name, what is known ahead, the messages; is there one? -/
def fnd (nm : Q.Bt) : ByteArray × List Int × List Int × List Ln × Bool := match rowOf nm with
  | none => (⟨#[]⟩, [], [], [], false)
  | some y => (bs y.1, y.2.1.1, y.2.1.2, y.2.2.1, true)
theorem row_small {nm : Q.Bt} {y : Row} (h : rowOf nm = some y) : y.2.2.1.length ≤ 5000 ∧ ∀ l ∈ y.2.2.1, l.2.length ≤ 5000 := by
  have hm := List.mem_of_find?_eq_some h
  have ht : (Q.tableL.all fun y => decide (y.2.2.1.length ≤ 5000) && y.2.2.1.all (fun l => decide (l.2.length ≤ 5000))) = true := by kernel_rfl
  have := List.all_eq_true.1 ht y hm
  simp only [Bool.and_eq_true, decide_eq_true_eq, List.all_eq_true] at this
  exact this
end Go.Proofs.YtbdphdgomcabmaaGreatDoor
