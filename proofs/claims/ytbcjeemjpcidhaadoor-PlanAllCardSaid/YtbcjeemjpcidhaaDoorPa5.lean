/- Parts of the walks and plain laws, merged: Backs, PaI. Each theorem bears its own conditions; no other. -/
import Derived.Test.YtbcjeemjpcidhaaDoorRollP
import Derived.Test.YtbcjeemjpcidhaaDoorPa4
import Derived.Test.YtbcjeemjpcidhaaDoorAwake
import Derived.Test.YtbcjeemjpcidhaaDoorPa1
import Derived.Test.YtbcjeemjpcidhaaDoorPa2
import Derived.Test.YtbcjeemjpcidhaaDoorTakes
import Derived.Test.YtbcjeemjpcidhaaDoorShaped
import Derived.Test.YtbcjeemjpcidhaaDoorPa3
namespace Go.Proofs.YtbcjeemjpcidhaaDoor
open Go.RowKit

def totL (ls : List Ln) : Nat := (ls.map (·.2.length)).sum
theorem linesOk_tot {ls : List Ln} : ∀ {prev : Option Int} {n : Nat}, linesOk prev n ls = true → n ≤ 24 → n + totL ls ≤ 24 := by
  induction ls with
  | nil => intro _ n _ h; simpa [totL] using h
  | cons l r ih =>
    intro prev n hl _
    simp only [linesOk, Bool.and_eq_true, decide_eq_true_eq] at hl
    obtain ⟨⟨⟨h1, h2⟩, h3⟩, h4⟩ := hl
    have := ih h4 h3
    simp only [totL, List.map_cons, List.sum_cons] at this ⊢
    omega
theorem flat_len {α β : Type} (f : α → List β) (k : Nat) : ∀ l : List α, (∀ x ∈ l, (f x).length ≤ k) → (l.flatMap f).length ≤ k * l.length
  | [], _ => by simp
  | x :: r, h => by
    have h1 := flat_len f k r (fun y hy => h y (by simp [hy]))
    have h2 := h x (by simp)
    rw [List.flatMap_cons, List.length_append, List.length_cons, Nat.mul_add]
    omega
theorem line_len (ini psk : Bool) : ∀ ls : List Ln, (ls.flatMap (lineM ini psk)).length ≤ 2 * ls.length + 3 * totL ls
  | [] => by simp
  | l :: r => by
    have h1 := line_len ini psk r
    have h2 := flat_len (tokM ini (l.1 == sideOf ini) psk) 3 l.2 (fun t _ => by
      have a := movesL_len ini t (l.1 == sideOf ini)
      have b := mixM_len (l.1 == sideOf ini) psk t
      unfold tokM; rw [List.length_append]; omega)
    rw [List.flatMap_cons, List.length_append]
    simp only [totL, List.map_cons, List.sum_cons, List.length_cons, lineM, List.length_append, List.length_nil] at h1 h2 ⊢
    omega
theorem unrollL_len (ini : Bool) {b0 b1 : List Int} {ls : List Ln} (h : checkL b0 b1 ls = 0) : (unrollL ini b0 b1 ls).length ≤ 1000 := by
  have hs := checkL_ok h
  obtain ⟨g0, g1, g2, _⟩ := shapedL_len hs
  have ht : totL ls ≤ 24 := by
    simp only [shapedL, Bool.and_eq_true] at hs
    have := linesOk_tot hs.2 (by omega); omega
  have e0 := flat_len (befM (!ini) (pskL ls)) 2 b0 (fun t _ => befM_len _ _ t)
  have e1 := flat_len (befM ini (pskL ls)) 2 b1 (fun t _ => befM_len _ _ t)
  have e2 := line_len ini (pskL ls) ls
  have e3 : (headM ini b0 b1 ls).length ≤ 3 := by
    have hi : ∀ (b : Bool) (x : Mv), (if b = true then [x] else []).length ≤ 1 := fun b x => by cases b <;> simp
    unfold headM
    rw [List.length_append, List.length_append]
    have h1 := hi (hasL ls (sideOf ini) 2 || inL (if ini then b0 else b1) 2) ⟨1, 2, 0⟩
    have h2 := hi (inL (if ini then b0 else b1) 1) ⟨1, 1, 0⟩
    simp only [List.length_cons, List.length_nil]
    omega
  unfold unrollL
  simp only [List.length_append, List.length_cons, List.length_nil]
  omega
theorem sameL_refl (b0 b1 : List Int) (ls : List Ln) : sameL b0 b1 ls b0 b1 ls = true := by unfold sameL; simp
theorem PatO.lnsK {w : World} {B : Nat} {t0 t1 tl : Tv} {ts : List Tv} {b0 b1 : List Int} {ls : List Ln} (h : PatO w B t0 t1 tl ts b0 b1 ls) (hc : checkL b0 b1 ls = 0) : Lns w tl.ao tl.n ls := by
  obtain ⟨_, _, h3, h4⟩ := shapedL_len (checkL_ok hc)
  refine h.lns (by omega) (fun l hl => ?_)
  obtain ⟨j, hj, rfl⟩ := List.getElem_of_mem hl
  have := h4 j hj; omega

end Go.Proofs.YtbcjeemjpcidhaaDoor

namespace Go.Proofs.YtbcjeemjpcidhaaDoor
open Go.RowKit

theorem Fr.put (w : World) (r : Nat) (o : Obj) : Fr [r] w (w.putObj r o) :=
  ⟨rfl, rfl, rfl, by simp, fun k _ hn => World.putObj_heap_other (by simpa using hn)⟩
theorem heap_lt {w : World} {k : Nat} {o : Obj} (h : w.heap[k]? = some o) : k < w.heap.size := (Array.getElem?_eq_some_iff.1 h).1
theorem tbl_check : (Q.tableL.all fun y => decide (checkL y.2.1.1 y.2.1.2 y.2.2.1 = 0)) = true := by kernel_rfl
theorem row_check {x : Q.Bt} {y : Row} (h : rowOf x = some y) : checkL y.2.1.1 y.2.1.2 y.2.2.1 = 0 := by
  have := List.all_eq_true.1 tbl_check y (List.mem_of_find?_eq_some h)
  simpa using this
structure PaI (w v : World) (ini : Bool) (r : Loop) (k : Nat) : Prop where
  kp : Kp w v
  sz : w.heap.size + 5 ≤ v.heap.size
  cb : One1 v w.heap.size (.bool ini)
  c0 : One1 v (w.heap.size + 1) (.bool false)
  c1 : One1 v (w.heap.size + 1 + 1) (iv (k : Nat))
  lr : v.heap[w.heap.size + 4]? = some (.loop r)
  dr : v.heap[w.heap.size + 3]? = some (.deferred (some []))
variable {w v v' : World} {ini : Bool} {r : Loop} {k : Nat}
theorem PaI.keep (h : PaI w v ini r k) (q : Kp v v') : PaI w v' ini r k :=
  ⟨Kp.trans h.kp q, Nat.le_trans h.sz q.size, h.cb.kp q, h.c0.kp q, h.c1.kp q, (q.block _ (heap_lt h.lr)).trans h.lr, (q.block _ (heap_lt h.dr)).trans h.dr⟩
theorem PaI.put (h : PaI w v ini r k) (r' : Loop) : PaI w (v.putObj (w.heap.size + 4) (.loop r')) ini r' k := by
  have q := Fr.put v (w.heap.size + 4) (.loop r')
  exact ⟨⟨h.kp.os, h.kp.tape, h.kp.output, by simpa using h.kp.size, fun j hj => (World.putObj_heap_other (by omega)).trans (h.kp.block j hj)⟩, by simpa using h.sz, h.cb.fr q (by simp), h.c0.fr q (by simp), h.c1.fr q (by simp), World.putObj_heap_same (heap_lt h.lr), (World.putObj_heap_other (by omega)).trans h.dr⟩
theorem PaI.next (h : PaI w v ini r k) : PaI w (v.setCell ⟨w.heap.size + 1 + 1, 0, none⟩ (iv ((k + 1 : Nat) : Int))) ini r (k + 1) := by
  have g := Fr.set v ⟨w.heap.size + 1 + 1, 0, none⟩ (iv ((k + 1 : Nat) : Int))
  exact ⟨Fr.kp ((Fr.of_kp h.kp).step g (fun j hj => .inr (by simp at hj; omega))), Nat.le_trans h.sz g.size, h.cb.fr g (by simp; omega), h.c0.fr g (by simp), h.c1.set _, (g.block _ (heap_lt h.lr) (by simp)).trans h.lr, (g.block _ (heap_lt h.dr) (by simp)).trans h.dr⟩
/-- A range over the table's iterator that no round leaves. -/
theorem range_wide {n : Nat} {g : Operand} {ps : Array Tmp} {asg bdy : Code} {Q : Exit → Act → World → Prop} {a : Act} {w : World} (hn : 1 ≤ n) (hg : a.eval g = .func (.func 9) #[] #[])
    (h : ∀ (fn : FuncId) (R : LoopState → Loop), (R = fun st => { state := st, pending := none, fn := fn, tmps := a.tmps, params := ps, assign := asg, body := bdy, defers := w.heap.size }) →
      Calls Tryd.prog 9 #[.func (.yield (w.heap.size + 1)) #[] #[]] ((w.alloc (.deferred (some []))).alloc (.loop (R .ready))) fun e w3 => (∃ v, e = .returned v) ∧ w3.heap[w.heap.size + 1]? = some (.loop (R .ready)) ∧
        Q .normal { a with defers := { target := .collected w.heap.size, args := #[] } :: a.defers } (w3.putObj (w.heap.size + 1) (.loop (R .exhausted)))) :
    (Code.rangeFunc g ps asg bdy).wpIn Fence.wide n Tryd.prog Q a w := by
  refine wpIn_rangeFunc ?_
  intro fn hfn
  obtain ⟨R, hR⟩ : ∃ R : LoopState → Loop, R = fun st => { state := st, pending := none, fn := fn, tmps := a.tmps, params := ps, assign := asg, body := bdy, defers := w.heap.size } := ⟨_, rfl⟩
  have h2 := h fn R hR
  refine ⟨w.heap.size + 1, [{ target := .collected w.heap.size, args := #[] }], (w.alloc (.deferred (some []))).alloc (.loop (R .ready)), { target := .fn (.func 9) #[], args := #[.func (.yield (w.heap.size + 1)) #[] #[]] },
    (w.alloc (.deferred (some []))).alloc (.loop (R .ready)), 9, #[.func (.yield (w.heap.size + 1)) #[] #[]], (w.alloc (.deferred (some []))).alloc (.loop (R .ready)), ?_, ?_, fun _ _ => trivial, ?_, fun _ => hn, ?_⟩
  · rw [hR]; exact run_enterLoop_outer _ _ _ _ _
  · simp only [resolve, hg]
    simp [go_sem]
  · simp [invoke, go_sem]
  · refine (callsIn_wide.2 h2).mono ?_
    rintro e w3 ⟨⟨v, rfl⟩, h3, h4⟩
    refine ⟨none, _, ?_, h4⟩
    have := run_endLoop (P := Tryd.prog) h3 (by rw [hR]; simp)
    rw [hR] at this ⊢
    exact this
end Go.Proofs.YtbcjeemjpcidhaaDoor
