/- What GradeOwn keeps as it was; marks in rows. Conditions: the rows lie there. -/
import Derived.Test.YtjbjgpcldcpjmaaDoorRises
import Derived.Test.YtjbjgpcldcpjmaaDoorOwnA
namespace Go.Proofs.YtjbjgpcldcpjmaaDoor
open Go.RowKit

def mk1 (j : Nat) : Gr := ⟨100 + (j : Int), 0, 0⟩
def mk2 (j : Nat) : Gr := ⟨200 + (j : Int), 0, 0⟩
/-- The rows, the first i of them marked; and all of them. -/
def cI (n i : Nat) (gs : List Gr) : Nat → List Gr := fun j => if j < i then List.replicate n (mk1 j) else gs
def cM (n : Nat) : Nat → List Gr := fun j => List.replicate n (mk1 j)
def cE (n i : Nat) : Nat → List Gr := fun j => List.replicate n (mk1 j) ++ (if j < i then List.replicate 70 (mk2 j) else [])
theorem updN_const {α : Type} (q : Nat) (v : α) : updN (fun _ => v) q v = fun _ => v := by
  funext j
  unfold updN
  split <;> rfl
theorem updN_self {α : Type} (f : Nat → α) (i : Nat) (v : α) (h : v = f i) : updN f i v = f := by
  funext j
  unfold updN
  split
  · rename_i e; rw [e, h]
  · rfl
theorem updN_again {α : Type} (f : Nat → α) (i : Nat) (u v : α) : updN (updN f i u) i v = updN f i v := by
  funext j
  unfold updN
  split <;> rfl
theorem cI_zero (n : Nat) (gs : List Gr) : cI n 0 gs = fun _ => gs := by funext j; simp [cI]
theorem cI_start (n i : Nat) (gs : List Gr) : updN (cI n i gs) i (List.replicate 0 (mk1 i) ++ gs.drop 0) = cI n i gs := updN_self _ _ _ (by simp [cI])
theorem cI_next {n : Nat} (i : Nat) {gs : List Gr} (h : gs.length = n) : updN (cI n i gs) i (List.replicate n (mk1 i) ++ gs.drop n) = cI n (i + 1) gs := by
  funext j
  unfold updN cI
  rw [List.drop_of_length_le (by omega), List.append_nil]
  by_cases e : j = i
  · subst e; simp
  · rw [if_neg e]
    by_cases h2 : j < i
    · rw [if_pos h2, if_pos (by omega)]
    · rw [if_neg h2, if_neg (by omega)]
theorem set_mark {gs : List Gr} {k : Nat} (h : k < gs.length) (u : Gr) : (List.replicate k u ++ gs.drop k).set k u = List.replicate (k + 1) u ++ gs.drop (k + 1) := by
  rw [List.set_append_right _ _ (by simp), List.length_replicate, Nat.sub_self, List.drop_eq_getElem_cons h, List.set_cons_zero, List.replicate_succ', List.append_assoc]
  rfl
theorem cI_all {n : Nat} {gs : List Gr} {j : Nat} (hj : j < 4) : cI n 4 gs j = cM n j := by simp [cI, cM, hj]
theorem cE_zero (n : Nat) : cE n 0 = cM n := by funext j; simp [cE, cM]
theorem cE_start (n i : Nat) : updN (cE n i) i (cM n i ++ List.replicate 0 (mk2 i)) = cE n i := updN_self _ _ _ (by simp [cE, cM])
theorem cE_next (n i : Nat) : updN (cE n i) i (cM n i ++ List.replicate 70 (mk2 i)) = cE n (i + 1) := by
  funext j
  unfold updN cE cM
  by_cases e : j = i
  · subst e; simp
  · rw [if_neg e]
    congr 1
    by_cases h2 : j < i
    · rw [if_pos h2, if_pos (by omega)]
    · rw [if_neg h2, if_neg (by omega)]
theorem Fam.congr {w : World} {B q : Nat} {f h : Nat → Tv} {cR cW cR' cW' : Nat → List Gr} {Z : List Nat} (F : Fam w B q f h cR cW Z) (h1 : ∀ j, j < q → cR j = cR' j) (h2 : ∀ j, j < q → cW j = cW' j) : Fam w B q f h cR' cW' Z :=
  ⟨fun j hj => h2 j hj ▸ F.own j hj, fun j hj => h1 j hj ▸ F.row j hj, fun j hj => h1 j hj ▸ h2 j hj ▸ F.pre j hj, F.dj, F.rel, F.sep⟩
theorem Own.empty (w : World) : Own (w.alloc (.cells #[] 48)) w.heap.size 48 3 (some ⟨w.heap.size, 0, none⟩) 0 0 [] :=
  ⟨rfl, .inr ⟨w.heap.size, 0, #[], rfl, Nat.le_refl _, heap_alloc_new w _, Nat.le_refl _, Nat.zero_le _, rfl, rfl⟩⟩
/-- What stays. -/
structure Stay (w : World) (wb : World) (bx : Nat) (nm : ByteArray) (a0 a1 al : Option Addr) (n0 c0 n1 c1 nl cl : Nat) (bR : Nat) (f : Nat → Tv) (Bs bS n cs : Nat) (gs : List Gr) : Prop where
  bx : Bx w bx nm a0 a1 al n0 c0 n1 c1 nl cl
  ar : Arr4 w bR 4 f
  wt : GrO w Bs (some ⟨bS, 0, none⟩) n cs gs
  kp : Kp wb w
theorem Stay.fr {X : List Nat} {w w' wb : World} {b : Nat} {nm : ByteArray} {a0 a1 al : Option Addr} {n0 c0 n1 c1 nl cl : Nat} {bR : Nat} {f : Nat → Tv} {Bs bS n cs : Nat} {gs : List Gr}
    (h : Stay w wb b nm a0 a1 al n0 c0 n1 c1 nl cl bR f Bs bS n cs gs) (k : Fr X w w') (hX : ∀ x ∈ X, x ∉ [bS, bR, b] ∧ wb.heap.size ≤ x) : Stay w' wb b nm a0 a1 al n0 c0 n1 c1 nl cl bR f Bs bS n cs gs :=
  ⟨h.bx.fr k (fun hq => (hX _ hq).1 (by simp)), h.ar.fr k (fun hq => (hX _ hq).1 (by simp)), h.wt.fr k (fun x hx hq => (hX _ hq).1 (by simp [blkL, blk] at hx; simp [hx])),
    ((Fr.of_kp h.kp).step k (fun x hx => .inr (hX x hx).2)).kp⟩
theorem Stay.keep {w w' wb : World} {b : Nat} {nm : ByteArray} {a0 a1 al : Option Addr} {n0 c0 n1 c1 nl cl : Nat} {bR : Nat} {f : Nat → Tv} {Bs bS n cs : Nat} {gs : List Gr}
    (h : Stay w wb b nm a0 a1 al n0 c0 n1 c1 nl cl bR f Bs bS n cs gs) (k : Kp w w') : Stay w' wb b nm a0 a1 al n0 c0 n1 c1 nl cl bR f Bs bS n cs gs := h.fr (Fr.of_kp k) (by simp)
/-- A place of a row that may be written. -/
theorem Fam.at {w : World} {B q : Nat} {f : Nat → Tv} {c : Nat → List Gr} {Z : List Nat} (F : Fam w B q f f c c Z) {i k : Nat} (hi : i < q) (hk : k < (f i).n) :
    ∃ g x y z, (f i).ao = some ⟨g, 0, none⟩ ∧ w.cell? ⟨g, k * 3, none⟩ = some x ∧ w.cell? ⟨g, k * 3 + 1, none⟩ = some y ∧ w.cell? ⟨g, k * 3 + 2, none⟩ = some z ∧
      w.frozen? ⟨g, k * 3, none⟩ = false ∧ w.frozen? ⟨g, k * 3 + 1, none⟩ = false ∧ w.frozen? ⟨g, k * 3 + 2, none⟩ = false := by
  have ho := F.own i hi
  obtain ⟨g, cur, he, _, _, _⟩ := ho.1.block (by omega)
  have h1 := ho.1
  rw [he] at h1
  have hl : ((c i).flatMap grc).length = (f i).n * 3 := h1.1
  have a0 : ((c i).flatMap grc)[k * 3]? = some (((c i).flatMap grc)[k * 3]'(by omega)) := List.getElem?_eq_getElem (by omega)
  have a1 : ((c i).flatMap grc)[k * 3 + 1]? = some (((c i).flatMap grc)[k * 3 + 1]'(by omega)) := List.getElem?_eq_getElem (by omega)
  have a2 : ((c i).flatMap grc)[k * 3 + 2]? = some (((c i).flatMap grc)[k * 3 + 2]'(by omega)) := List.getElem?_eq_getElem (by omega)
  exact ⟨g, _, _, _, he, (h1.cell (k * 3) (by omega)).trans a0, (h1.cell (k * 3 + 1) (by omega)).trans a1, (h1.cell (k * 3 + 2) (by omega)).trans a2, h1.free _, h1.free _, h1.free _⟩
theorem cE_get {n i q k : Nat} (hq : q < i) (hk : k < n + 70) : ∃ h : k < (cE n i q).length, (cE n i q)[k] = if k < n then mk1 q else mk2 q := by
  have hl : (cE n i q).length = n + 70 := by simp [cE, hq]
  refine ⟨by omega, ?_⟩
  by_cases h : k < n
  · rw [if_pos h]
    simp only [cE]
    rw [List.getElem_append_left (by simpa using h)]
    simp
  · rw [if_neg h]
    simp only [cE, hq, if_true]
    rw [List.getElem_append_right (by simp; omega), List.getElem_replicate]
theorem neqM (w : World) (z : Int) : (binOp .neq 48 (.agg #[iv z, iv 0, iv 0]) (.agg #[iv z, iv 0, iv 0])).run Tryd.prog w = .ok (.bool false) w := by
  have := neqG w ⟨z, 0, 0⟩ ⟨z, 0, 0⟩
  simpa using this
/-- What a row reads at a place. -/
theorem row_cell {w : World} {ao : Option Addr} {n : Nat} {gs : List Gr} (h : Grs w ao n gs) {k : Nat} (hk : k < n) {u : Gr} (hu : ∃ h : k < gs.length, gs[k] = u) :
    ∃ b off, ao = some ⟨b, off, none⟩ ∧ w.cell? ⟨b, off + k * 3, none⟩ = some (iv u.frm) ∧ w.cell? ⟨b, off + k * 3 + 1, none⟩ = some (iv u.src) ∧ w.cell? ⟨b, off + k * 3 + 2, none⟩ = some (iv u.dst) := by
  obtain ⟨b, off, e, _, hc⟩ := h.at k hk
  obtain ⟨hk', rfl⟩ := hu
  exact ⟨b, off, e, hc k hk'⟩
end Go.Proofs.YtjbjgpcldcpjmaaDoor
