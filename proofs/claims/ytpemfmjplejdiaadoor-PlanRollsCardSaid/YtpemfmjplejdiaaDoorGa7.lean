/- Parts of the walks and plain laws, merged: RefRollA, RefRollB. Each theorem bears its own conditions; no other. -/
import Derived.Test.YtpemfmjplejdiaaDoorRollP
import Derived.Test.YtpemfmjplejdiaaDoorGa4
import Derived.Test.YtpemfmjplejdiaaDoorGa5
import Derived.Test.YtpemfmjplejdiaaDoorRefUnrollT
import Derived.Test.YtpemfmjplejdiaaDoorRefUnrollF
import Derived.Test.YtpemfmjplejdiaaDoorLent
namespace Go.Proofs.YtpemfmjplejdiaaDoor
open Go.RowKit

structure Mem20 (w0 w : World) (B br bp : Nat) (t0 t1 tl : Tv) (ts : List Tv) (p : Pt) : Prop where
  pat : PatO w B t0 t1 tl ts p.1.1 p.1.2 p.2
  at4 : At4 w bp ⟨#[]⟩ t0 t1 tl
  res : Free4 w br
  kp : Kp w0 w
  big : B ≤ w.heap.size
theorem Mem20.at0 {w0 w : World} {B br bp : Nat} {t0 t1 tl : Tv} {ts : List Tv} {p : Pt} (h : Mem20 w0 w B br bp t0 t1 tl ts p) : bp < w.heap.size := World.block_lt_of_cell? w _ h.at4.1.1
/-- How the blocks lie. -/
def Lay20 (w0 : World) (B br bp : Nat) : Prop := w0.heap.size ≤ br ∧ br < bp ∧ bp < B
section
variable {w0 w w' : World} {B br bp : Nat} {t0 t1 tl : Tv} {ts : List Tv} {p : Pt}
theorem Mem20.drawn (h : Mem20 w0 w B br bp t0 t1 tl ts p) (k : Kp w w') : Mem20 w0 w' B br bp t0 t1 tl ts p :=
  ⟨h.pat.kp k, h.at4.kp k, h.res.fr (Fr.of_kp k) (by simp), Kp.trans h.kp k, Nat.le_trans h.big k.size⟩
theorem Mem20.step {t0' t1' tl' : Tv} {ts' : List Tv} {p' : Pt} {X : List Nat} (h : Mem20 w0 w B br bp t0 t1 tl ts p) (hl : Lay20 w0 B br bp) (f : Fr X w w') (hX : ∀ x ∈ X, B ≤ x ∨ x = bp)
    (hp : PatO w' B t0' t1' tl' ts' p'.1.1 p'.1.2 p'.2) (ha : At4 w' bp ⟨#[]⟩ t0' t1' tl') : Mem20 w0 w' B br bp t0' t1' tl' ts' p' := by
  obtain ⟨l0, l1, l2⟩ := hl
  refine ⟨hp, ha, h.res.fr f (fun hx => ?_), ((Fr.of_kp h.kp).step f (fun j hj => .inr ?_)).kp, Nat.le_trans h.big f.size⟩
  · rcases hX _ hx with q | q <;> omega
  · rcases hX _ hj with q | q <;> omega
end
section
variable {w0 w wa w2 : World} {B br bp : Nat} {ta ao2 : Option Addr} {tn tc N cap2 : Nat} {tt t0 t1 tl : Tv} {ts : List Tv} {b0 b1 : List Int} {ls : List Ln} {x : Int}
theorem Mem20.app0 (h : Mem20 w0 w B br bp ⟨ta, tn, tc⟩ tt tl ts ((b0, b1), ls)) (hl : Lay20 w0 B br bp) (k : Kp w wa) (ha : Appd wa w2 B 3 1 ta tc 1 N ((b0 ++ [x]).map iv) ao2 cap2) :
    Mem20 w0 (w2.setCell ⟨bp, 1, none⟩ (.slice ao2 N cap2)) B br bp ⟨ao2, N, cap2⟩ tt tl ts ((b0 ++ [x], b1), ls) := by
  obtain ⟨l0, l1, l2⟩ := id hl
  have hO := h.pat.o0
  have hbt : bp ∉ blkL ta := fun hx => by have := (hO.lt bp (mem_blkL.1 hx)).1; omega
  have f1 : Fr (blkL ta) w w2 := ((Fr.of_kp k).mono (by simp)).trans ha.fr
  have hset := Fr.set w2 ⟨bp, 1, none⟩ (.slice ao2 N cap2)
  have f2 : Fr (blkL ta ++ [bp]) w (w2.setCell ⟨bp, 1, none⟩ (.slice ao2 N cap2)) := (f1.mono (fun x hx => List.mem_append.2 (.inl hx))).trans (hset.mono (fun x hx => List.mem_append.2 (.inr hx)))
  have hX : ∀ x ∈ blkL ta ++ [bp], B ≤ x ∨ x = bp := fun x hx => by
    rcases List.mem_append.1 hx with q | q
    · exact .inl (hO.lt x (mem_blkL.1 q)).1
    · right; simpa using q
  exact h.step hl f2 hX (((h.pat.kp k).app0 (t0 := ⟨ta, tn, tc⟩) x ha).fr hset (by simp; omega)) ((h.at4.fr f1 hbt).set1 ⟨ao2, N, cap2⟩)
theorem Mem20.app1 (h : Mem20 w0 w B br bp tt ⟨ta, tn, tc⟩ tl ts ((b0, b1), ls)) (hl : Lay20 w0 B br bp) (k : Kp w wa) (ha : Appd wa w2 B 3 1 ta tc 1 N ((b1 ++ [x]).map iv) ao2 cap2) :
    Mem20 w0 (w2.setCell ⟨bp, 2, none⟩ (.slice ao2 N cap2)) B br bp tt ⟨ao2, N, cap2⟩ tl ts ((b0, b1 ++ [x]), ls) := by
  obtain ⟨l0, l1, l2⟩ := id hl
  have hO := h.pat.o1
  have hbt : bp ∉ blkL ta := fun hx => by have := (hO.lt bp (mem_blkL.1 hx)).1; omega
  have f1 : Fr (blkL ta) w w2 := ((Fr.of_kp k).mono (by simp)).trans ha.fr
  have hset := Fr.set w2 ⟨bp, 2, none⟩ (.slice ao2 N cap2)
  have f2 : Fr (blkL ta ++ [bp]) w (w2.setCell ⟨bp, 2, none⟩ (.slice ao2 N cap2)) := (f1.mono (fun x hx => List.mem_append.2 (.inl hx))).trans (hset.mono (fun x hx => List.mem_append.2 (.inr hx)))
  have hX : ∀ x ∈ blkL ta ++ [bp], B ≤ x ∨ x = bp := fun x hx => by
    rcases List.mem_append.1 hx with q | q
    · exact .inl (hO.lt x (mem_blkL.1 q)).1
    · right; simpa using q
  exact h.step hl f2 hX (((h.pat.kp k).app1 (t1 := ⟨ta, tn, tc⟩) x ha).fr hset (by simp; omega)) ((h.at4.fr f1 hbt).set2 ⟨ao2, N, cap2⟩)
theorem Mem20.appl {f : Int} (h : Mem20 w0 w B br bp t0 t1 ⟨ta, tn, tc⟩ ts ((b0, b1), ls)) (hl : Lay20 w0 B br bp) (k : Kp w wa) (ha : Appd wa w2 B 53 2 ta tc 1 N (lnc (ls ++ [(f, [])]) (ts ++ [nilT])) ao2 cap2) :
    Mem20 w0 (w2.setCell ⟨bp, 3, none⟩ (.slice ao2 N cap2)) B br bp t0 t1 ⟨ao2, N, cap2⟩ (ts ++ [nilT]) ((b0, b1), ls ++ [(f, [])]) := by
  obtain ⟨l0, l1, l2⟩ := id hl
  have hO := h.pat.ol
  have hbt : bp ∉ blkL ta := fun hx => by have := (hO.lt bp (mem_blkL.1 hx)).1; omega
  have f1 : Fr (blkL ta) w w2 := ((Fr.of_kp k).mono (by simp)).trans ha.fr
  have hset := Fr.set w2 ⟨bp, 3, none⟩ (.slice ao2 N cap2)
  have f2 : Fr (blkL ta ++ [bp]) w (w2.setCell ⟨bp, 3, none⟩ (.slice ao2 N cap2)) := (f1.mono (fun x hx => List.mem_append.2 (.inl hx))).trans (hset.mono (fun x hx => List.mem_append.2 (.inr hx)))
  have hX : ∀ x ∈ blkL ta ++ [bp], B ≤ x ∨ x = bp := fun x hx => by
    rcases List.mem_append.1 hx with q | q
    · exact .inl (hO.lt x (mem_blkL.1 q)).1
    · right; simpa using q
  exact h.step hl f2 hX (((h.pat.kp k).appl (tl := ⟨ta, tn, tc⟩) f ha).fr hset (by simp; omega)) ((h.at4.fr f1 hbt).set3 ⟨ao2, N, cap2⟩)
theorem Mem20.appt {g nl cl : Nat} {r : List Ln} {f : Int} {tok : List Int} (h : Mem20 w0 w B br bp t0 t1 ⟨some ⟨g, 0, none⟩, nl, cl⟩ (ts ++ [⟨ta, tn, tc⟩]) ((b0, b1), r ++ [(f, tok)])) (hl : Lay20 w0 B br bp) (hg : B ≤ g) (hO : Own w B 3 1 ta tn tc (tok.map iv)) (k : Kp w wa) (ha : Appd wa w2 B 3 1 ta tc 1 N ((tok ++ [x]).map iv) ao2 cap2) :
    Mem20 w0 (w2.setCell ⟨g, r.length * 2 + 1, none⟩ (.slice ao2 N cap2)) B br bp t0 t1 ⟨some ⟨g, 0, none⟩, nl, cl⟩ (ts ++ [⟨ao2, N, cap2⟩]) ((b0, b1), r ++ [(f, tok ++ [x])]) := by
  obtain ⟨l0, l1, l2⟩ := id hl
  have f1 : Fr (blkL ta) w w2 := ((Fr.of_kp k).mono (by simp)).trans ha.fr
  have f2 : Fr (blkL ta ++ [g]) w (w2.setCell ⟨g, r.length * 2 + 1, none⟩ (.slice ao2 N cap2)) := (f1.mono (fun x hx => List.mem_append.2 (.inl hx))).trans ((Fr.set w2 ⟨g, r.length * 2 + 1, none⟩ _).mono (fun x hx => List.mem_append.2 (.inr hx)))
  have hX : ∀ x ∈ blkL ta ++ [g], B ≤ x ∨ x = bp := fun x hx => by
    rcases List.mem_append.1 hx with q | q
    · exact .inl (hO.lt x (mem_blkL.1 q)).1
    · left; simp at q; omega
  exact h.step hl f2 hX (PatO.appt (h.pat.kp k) x ha) (h.at4.fr f2 (fun hx => by
    rcases List.mem_append.1 hx with q | q
    · have := (hO.lt bp (mem_blkL.1 q)).1; omega
    · simp at q; omega))
end
theorem rollT_len (ini : Bool) (s : Pt) (m : Mv) : (rollT ini s m).1.1.length ≤ s.1.1.length + 1 ∧ (rollT ini s m).1.2.length ≤ s.1.2.length + 1 ∧ (rollT ini s m).2.length ≤ s.2.length + 1 := by
  unfold rollT
  split
  · simp
  · split
    · simp
    · split
      · split
        · split <;> (unfold addB; split <;> simp)
        · simp
      · split
        · unfold addT
          cases hg : s.2.getLast? <;> simp <;> omega
        · simp
theorem takeT_fold {ms : List Mv} {ini : Bool} {i : Nat} (hi : i < ms.length) : (ms.take (i + 1)).foldl (rollT ini) initP = rollT ini ((ms.take i).foldl (rollT ini) initP) ms[i] := by
  rw [take_step ms i hi, List.foldl_append]; rfl
theorem addT_len (ls : List Ln) (t : Int) (k : Nat) (h : ∀ l ∈ ls, l.2.length ≤ k) : ∀ l ∈ addT ls t, l.2.length ≤ k + 1 := by
  intro l hl
  unfold addT at hl
  rcases List.mem_append.1 hl with q | q
  · exact Nat.le_succ_of_le (h l (List.dropLast_subset _ q))
  · cases hg : ls.getLast? with
    | none => rw [hg] at q; simp at q
    | some x =>
      rw [hg] at q
      simp at q
      subst q
      have := h x (List.mem_of_getLast? hg)
      simp; omega
end Go.Proofs.YtpemfmjplejdiaaDoor

namespace Go.Proofs.YtpemfmjplejdiaaDoor
open Go.RowKit

def RefRollPost (w : World) (ini : Bool) (ms : List Mv) (e : Ending) (w' : World) : Prop := Kp w w' ∧ match rolledL ini ms with
  | some p => ∃ t0 t1 tl ts, e = .returned (.tuple #[.agg #[.string ⟨#[]⟩, tvv t0, tvv t1, tvv tl], iv 0]) ∧ PatO w' w.heap.size t0 t1 tl ts p.1.1 p.1.2 p.2
  | none => e = .returned (.tuple #[.agg #[.string ⟨#[]⟩, .slice none 0 0, .slice none 0 0, .slice none 0 0], iv 9])
end Go.Proofs.YtpemfmjplejdiaaDoor
