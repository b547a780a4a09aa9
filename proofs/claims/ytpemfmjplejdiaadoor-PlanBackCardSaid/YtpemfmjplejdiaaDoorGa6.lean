/- Parts of the walks and plain laws, merged: RollA, RollJ, RollB, RollC, RollT, RollM. Each theorem bears its own conditions; no other. -/
import Derived.Test.YtpemfmjplejdiaaDoorGa4
import Derived.Test.YtpemfmjplejdiaaDoorGa2
import Derived.Test.YtpemfmjplejdiaaDoorLent
import Derived.Test.YtpemfmjplejdiaaDoorMoves
namespace Go.Proofs.YtpemfmjplejdiaaDoor
open Go.RowKit

/-- The code behind a label, in the scope that a function's body is but for its first region. -/
def restOf (f : Func) (l : Nat) : Code := match f.body with
  | some (.seq _ (.scope c)) => match findLabel c l with
    | some (.seq .skip r) => r
    | _ => .skip
  | _ => .skip

/-- Three cells that may be written. -/
def Free3 (w : World) (b : Nat) : Prop := ∃ x0 x1 x2, (w.cell? ⟨b, 0, none⟩ = some x0 ∧ w.cell? ⟨b, 1, none⟩ = some x1 ∧ w.cell? ⟨b, 2, none⟩ = some x2) ∧ w.frozen? ⟨b, 0, none⟩ = false ∧ w.frozen? ⟨b, 1, none⟩ = false ∧ w.frozen? ⟨b, 2, none⟩ = false
theorem Free3.of (w : World) (x0 x1 x2 : Value) (t : TypeId) : Free3 (w.alloc (.cells #[x0, x1, x2] t)) w.heap.size := by
  refine ⟨x0, x1, x2, ⟨?_, ?_, ?_⟩, ?_, ?_, ?_⟩
  · rw [World.cell?_alloc_at _ _ _ _ rfl]; rfl
  · rw [World.cell?_alloc_at _ _ _ _ rfl]; rfl
  · rw [World.cell?_alloc_at _ _ _ _ rfl]; rfl
  · exact World.frozen?_alloc_at _ _ _ _ rfl
  · exact World.frozen?_alloc_at _ _ _ _ rfl
  · exact World.frozen?_alloc_at _ _ _ _ rfl
theorem Free3.fr {X : List Nat} {w w' : World} {b : Nat} (h : Free3 w b) (k : Fr X w w') (hb : b ∉ X) : Free3 w' b := by
  obtain ⟨x0, x1, x2, ⟨h0, h1, h2⟩, f0, f1, f2⟩ := h
  exact ⟨x0, x1, x2, ⟨k.cell h0 hb, k.cell h1 hb, k.cell h2 hb⟩, k.free h0 f0 hb, k.free h1 f1 hb, k.free h2 f2 hb⟩
theorem Free3.set {w : World} {b : Nat} (h : Free3 w b) (y0 y1 y2 : Value) : Free3 (((w.setCell ⟨b, 0, none⟩ y0).setCell ⟨b, 1, none⟩ y1).setCell ⟨b, 2, none⟩ y2) b ∧ Fr [b] w (((w.setCell ⟨b, 0, none⟩ y0).setCell ⟨b, 1, none⟩ y1).setCell ⟨b, 2, none⟩ y2) ∧
    (((w.setCell ⟨b, 0, none⟩ y0).setCell ⟨b, 1, none⟩ y1).setCell ⟨b, 2, none⟩ y2).cell? ⟨b, 0, none⟩ = some y0 ∧ (((w.setCell ⟨b, 0, none⟩ y0).setCell ⟨b, 1, none⟩ y1).setCell ⟨b, 2, none⟩ y2).cell? ⟨b, 1, none⟩ = some y1 ∧ (((w.setCell ⟨b, 0, none⟩ y0).setCell ⟨b, 1, none⟩ y1).setCell ⟨b, 2, none⟩ y2).cell? ⟨b, 2, none⟩ = some y2 := by
  obtain ⟨x0, x1, x2, ⟨h0, h1, h2⟩, f0, f1, f2⟩ := h
  have a1 : (w.setCell ⟨b, 0, none⟩ y0).cell? ⟨b, 1, none⟩ = some x1 := by rw [World.cell?_setCell_other _ _ _ _ (by simp)]; exact h1
  have a2 : (w.setCell ⟨b, 0, none⟩ y0).cell? ⟨b, 2, none⟩ = some x2 := by rw [World.cell?_setCell_other _ _ _ _ (by simp)]; exact h2
  have b2 : ((w.setCell ⟨b, 0, none⟩ y0).setCell ⟨b, 1, none⟩ y1).cell? ⟨b, 2, none⟩ = some x2 := by rw [World.cell?_setCell_other _ _ _ _ (by simp)]; exact a2
  have c0 : (((w.setCell ⟨b, 0, none⟩ y0).setCell ⟨b, 1, none⟩ y1).setCell ⟨b, 2, none⟩ y2).cell? ⟨b, 0, none⟩ = some y0 := by
    rw [World.cell?_setCell_other _ _ _ _ (by simp), World.cell?_setCell_other _ _ _ _ (by simp)]; exact World.cell?_setCell_same _ _ _ h0
  have c1 : (((w.setCell ⟨b, 0, none⟩ y0).setCell ⟨b, 1, none⟩ y1).setCell ⟨b, 2, none⟩ y2).cell? ⟨b, 1, none⟩ = some y1 := by
    rw [World.cell?_setCell_other _ _ _ _ (by simp)]; exact World.cell?_setCell_same _ _ _ a1
  have c2 := World.cell?_setCell_same ((w.setCell ⟨b, 0, none⟩ y0).setCell ⟨b, 1, none⟩ y1) ⟨b, 2, none⟩ y2 b2
  refine ⟨⟨y0, y1, y2, ⟨c0, c1, c2⟩, ?_, ?_, ?_⟩, ((Fr.set w ⟨b, 0, none⟩ y0).trans (Fr.set _ ⟨b, 1, none⟩ y1)).trans (Fr.set _ ⟨b, 2, none⟩ y2), c0, c1, c2⟩
  · rw [World.frozen?_setCell, World.frozen?_setCell, World.frozen?_setCell]; exact f0
  · rw [World.frozen?_setCell, World.frozen?_setCell, World.frozen?_setCell]; exact f1
  · rw [World.frozen?_setCell, World.frozen?_setCell, World.frozen?_setCell]; exact f2

/-- The memory of 'Roll' under way. -/
structure Mem19 (w0 w : World) (B br bp bm rm : Nat) (ini : Bool) (t0 t1 tl : Tv) (ts : List Tv) (p : Pt) : Prop where
  pat : PatO w B t0 t1 tl ts p.1.1 p.1.2 p.2
  at4 : At4 w bp ⟨#[]⟩ t0 t1 tl
  mv : Free3 w bm
  bk : BkIn w rm (backL ini)
  res : Free4 w br
  kp : Kp w0 w
  big : B ≤ w.heap.size
theorem Mem19.at0 {w0 w : World} {B br bp bm rm : Nat} {ini : Bool} {t0 t1 tl : Tv} {ts : List Tv} {p : Pt} (h : Mem19 w0 w B br bp bm rm ini t0 t1 tl ts p) : bp < w.heap.size := World.block_lt_of_cell? w _ h.at4.1.1
/-- How the blocks lie. -/
def Lay (w0 : World) (B br bp bm rm : Nat) : Prop := w0.heap.size ≤ br ∧ br < bp ∧ bp < bm ∧ bm < rm ∧ rm < B
section
variable {w0 w w' : World} {B br bp bm rm : Nat} {ini : Bool} {t0 t1 tl : Tv} {ts : List Tv} {p : Pt}
/-- The variable m is written over. -/
theorem Mem19.setm (h : Mem19 w0 w B br bp bm rm ini t0 t1 tl ts p) (hl : Lay w0 B br bp bm rm) (f : Fr [bm] w w') (hf : Free3 w' bm) : Mem19 w0 w' B br bp bm rm ini t0 t1 tl ts p := by
  obtain ⟨l0, l1, l2, l3, l4⟩ := hl
  refine ⟨h.pat.fr f (by simp; omega), h.at4.fr f (by simp; omega), hf, h.bk.fr f (by simp; omega), h.res.fr f (by simp; omega), ?_, Nat.le_trans h.big f.size⟩
  exact ((Fr.of_kp h.kp).step f (fun j hj => .inr (by simp at hj; omega))).kp
theorem Mem19.drawn (h : Mem19 w0 w B br bp bm rm ini t0 t1 tl ts p) (k : Kp w w') : Mem19 w0 w' B br bp bm rm ini t0 t1 tl ts p :=
  ⟨h.pat.kp k, h.at4.kp k, h.mv.fr (Fr.of_kp k) (by simp), h.bk.kp k, h.res.fr (Fr.of_kp k) (by simp), Kp.trans h.kp k, Nat.le_trans h.big k.size⟩
theorem Mem19.step {t0' t1' tl' : Tv} {ts' : List Tv} {p' : Pt} {X : List Nat} (h : Mem19 w0 w B br bp bm rm ini t0 t1 tl ts p) (hl : Lay w0 B br bp bm rm) (f : Fr X w w') (hX : ∀ x ∈ X, B ≤ x ∨ x = bp)
    (hp : PatO w' B t0' t1' tl' ts' p'.1.1 p'.1.2 p'.2) (ha : At4 w' bp ⟨#[]⟩ t0' t1' tl') : Mem19 w0 w' B br bp bm rm ini t0' t1' tl' ts' p' := by
  obtain ⟨l0, l1, l2, l3, l4⟩ := hl
  refine ⟨hp, ha, h.mv.fr f (fun hx => ?_), h.bk.fr f (fun hx => ?_), h.res.fr f (fun hx => ?_), ((Fr.of_kp h.kp).step f (fun j hj => .inr ?_)).kp, Nat.le_trans h.big f.size⟩
  · rcases hX _ hx with q | q <;> omega
  · rcases hX _ hx with q | q <;> omega
  · rcases hX _ hx with q | q <;> omega
  · rcases hX _ hj with q | q <;> omega
end
/-- The last message's list of tokens, in memory. -/
theorem PatO.last {w : World} {B : Nat} {t0 t1 tl : Tv} {ts : List Tv} {b0 b1 : List Int} {r : List Ln} {f : Int} {tok : List Int} (h : PatO w B t0 t1 tl ts b0 b1 (r ++ [(f, tok)])) :
    ∃ (g cl : Nat) (ts' : List Tv) (t : Tv), tl = ⟨some ⟨g, 0, none⟩, r.length + 1, cl⟩ ∧ ts = ts' ++ [t] ∧ ts'.length = r.length ∧ B ≤ g ∧ g < w.heap.size ∧ g ∉ blkL t.ao ∧ t.n = tok.length ∧ Own w B 3 1 t.ao t.n t.c (tok.map iv) ∧
      w.cell? ⟨g, r.length * 2 + 1, none⟩ = some (.slice t.ao t.n t.c) ∧ w.frozen? ⟨g, r.length * 2 + 1, none⟩ = false := by
  have hnl := h.nl
  simp only [List.length_append, List.length_cons, List.length_nil] at hnl
  have hlen := h.len
  simp only [List.length_append, List.length_cons, List.length_nil] at hlen
  obtain ⟨g, cur, hg, hb, _⟩ := h.ol.block (by omega)
  obtain ⟨ts', t, rfl⟩ : ∃ ts' t, ts = ts' ++ [t] := by
    rcases List.eq_nil_or_concat ts with q | ⟨ts', t, q⟩
    · rw [q] at hlen; simp at hlen
    · exact ⟨ts', t, by rw [q]; simp⟩
  simp only [List.length_append, List.length_cons, List.length_nil] at hlen
  have hl2 : ts'.length = r.length := by omega
  obtain ⟨ao, n, cl⟩ := tl
  simp only at hg hnl
  subst hg; subst hnl
  have ho := h.ot ts'.length t (f, tok) (by simp) (by rw [hl2]; simp)
  have hgl := h.ol.lt g rfl
  have hc := h.ol.cell (r.length * 2 + 1) (by simp only; omega)
  rw [(lnc_append (f, tok) t hl2 : lnc (r ++ [(f, tok)]) (ts' ++ [t]) = _), List.getElem?_append_right (by rw [lnc_length hl2]; omega), lnc_length hl2, show r.length * 2 + 1 - r.length * 2 = 1 by omega] at hc
  have h1 := ho.1
  simp at h1
  refine ⟨g, cl, ts', t, rfl, rfl, hl2, hb, hgl.2, fun hx => ?_, by omega, ho, hc, h.ol.free _⟩
  have := h.dj 2 (ts'.length + 3) g (by simp [blkL, blk]) (by simpa using hx)
  omega
end Go.Proofs.YtpemfmjplejdiaaDoor

namespace Go.Proofs.YtpemfmjplejdiaaDoor
open Go.RowKit

def initP : Pt := (([], []), [])
/-- What has been rolled up at a label, the first i moves taken. -/
def St19 (ini : Bool) (ms : List Mv) (l i : Nat) (from' : Int) (p : Pt) : Prop :=
  if l = 0 then i = ms.length ∧ ms.foldl (rollS ini) initP = p
  else if l = 1 then (ms.take i).foldl (rollS ini) initP = p ∧ p.2 = []
  else if l = 2 then (ms.take i).foldl (rollS ini) initP = (p.1, p.2 ++ [(from', [])]) ∧ p.2.length < i
  else if l = 3 then (ms.take i).foldl (rollS ini) initP = p ∧ ∃ (r : List Ln) (f : Int) (ts : List Int), p.2 = r ++ [(f, ts)] ∧ r.length < i ∧ ts.length ≤ i
  else False
theorem St19.zero {ini : Bool} {ms : List Mv} {i : Nat} {f : Int} {p : Pt} : St19 ini ms 0 i f p ↔ i = ms.length ∧ ms.foldl (rollS ini) initP = p := Iff.rfl
theorem St19.one {ini : Bool} {ms : List Mv} {i : Nat} {f : Int} {p : Pt} : St19 ini ms 1 i f p ↔ (ms.take i).foldl (rollS ini) initP = p ∧ p.2 = [] := Iff.rfl
theorem St19.two {ini : Bool} {ms : List Mv} {i : Nat} {f : Int} {p : Pt} : St19 ini ms 2 i f p ↔ (ms.take i).foldl (rollS ini) initP = (p.1, p.2 ++ [(f, [])]) ∧ p.2.length < i := Iff.rfl
theorem St19.three {ini : Bool} {ms : List Mv} {i : Nat} {f : Int} {p : Pt} : St19 ini ms 3 i f p ↔ (ms.take i).foldl (rollS ini) initP = p ∧ ∃ (r : List Ln) (f : Int) (ts : List Int), p.2 = r ++ [(f, ts)] ∧ r.length < i ∧ ts.length ≤ i := Iff.rfl
abbrev pv (b : Nat) : Value := .pointer (some ⟨b, 0, none⟩)
def J19 (w0 : World) (B br bp bm rm : Nat) (ini : Bool) (lo : Option Addr) (n c : Nat) (ms : List Mv) (l : Nat) (a : Act) (w : World) : Prop :=
  ∃ (i : Nat) (from' : Int) (t0 t1 tl : Tv) (ts : List Tv) (p : Pt), i ≤ n ∧ F19 (.slice lo n c) (.bool ini) undef undef (pv br) .nilIface (pv bp) (iv (sideOf ini)) (iv (1 - sideOf ini)) (iv (i : Int)) (iv from') (pv bm) (.map (some rm)) a ∧
    Mem19 w0 w B br bp bm rm ini t0 t1 tl ts p ∧ St19 ini ms l i from' p ∧ p.1.1.length ≤ i ∧ p.1.2.length ≤ i ∧ p.2.length ≤ i
def mu19 (n : Nat) (l : Nat) (a : Act) (_w : World) : Nat := if l = 0 then 0 else n + 1 - (intOf (a.tmps.getD 9 undef)).toNat
/-- What a pass may end in: a jump that lowers the measure. -/
def K19 (w0 : World) (B br bp bm rm : Nat) (ini : Bool) (lo : Option Addr) (n c : Nat) (ms : List Mv) (m : Nat) : Nat → Act → World → Prop := fun l a w => J19 w0 B br bp bm rm ini lo n c ms l a w ∧ mu19 n l a w < m
theorem F19.nine {a0 a1 a2 a3 a4 a5 a6 a7 a8 a9 a10 a11 a12 : Value} {a : Act} (h : F19 a0 a1 a2 a3 a4 a5 a6 a7 a8 a9 a10 a11 a12 a) : a.tmps.getD 9 undef = a9 := by
  obtain ⟨u, rfl⟩ := h; rfl
section
variable {w0 w : World} {B br bp bm rm : Nat} {ini : Bool} {lo : Option Addr} {n c : Nat} {ms : List Mv} {a : Act}
theorem K19.mk {l k : Nat} (i : Nat) {z from' : Int} {t0 t1 tl : Tv} {ts : List Tv} {p : Pt} (hz : z = (i : Int)) (hi : i ≤ n) (hf : F19 (.slice lo n c) (.bool ini) undef undef (pv br) .nilIface (pv bp) (iv (sideOf ini)) (iv (1 - sideOf ini)) (iv z) (iv from') (pv bm) (.map (some rm)) a)
    (hm : Mem19 w0 w B br bp bm rm ini t0 t1 tl ts p) (hs : St19 ini ms l i from' p) (h0 : p.1.1.length ≤ i) (h1 : p.1.2.length ≤ i) (h2 : p.2.length ≤ i) (hk : (l = 0 ∧ 0 < k) ∨ n + 1 - i < k) : K19 w0 B br bp bm rm ini lo n c ms k l a w := by
  subst hz
  refine ⟨⟨i, from', t0, t1, tl, ts, p, hi, hf, hm, hs, h0, h1, h2⟩, ?_⟩
  unfold mu19
  rw [hf.nine]
  rcases hk with ⟨rfl, hk⟩ | hk
  · exact hk
  · split
    · omega
    · simp [intOf]; exact hk
end
theorem take_fold {ms : List Mv} {ini : Bool} {i : Nat} (hi : i < ms.length) : (ms.take (i + 1)).foldl (rollS ini) initP = rollS ini ((ms.take i).foldl (rollS ini) initP) ms[i] := by
  rw [take_step ms i hi, List.foldl_append]; rfl
end Go.Proofs.YtpemfmjplejdiaaDoor

namespace Go.Proofs.YtpemfmjplejdiaaDoor
open Go.RowKit

section
variable {w0 w wa w2 : World} {B br bp bm rm : Nat} {ini : Bool} {ta ao2 : Option Addr} {tn tc N cap2 : Nat} {tt tl : Tv} {ts : List Tv} {b0 b1 : List Int} {ls : List Ln} {x : Int}
theorem Mem19.app0 (h : Mem19 w0 w B br bp bm rm ini ⟨ta, tn, tc⟩ tt tl ts ((b0, b1), ls)) (hl : Lay w0 B br bp bm rm) (k : Kp w wa) (ha : Appd wa w2 B 3 1 ta tc 1 N ((b0 ++ [x]).map iv) ao2 cap2) :
    Mem19 w0 (w2.setCell ⟨bp, 1, none⟩ (.slice ao2 N cap2)) B br bp bm rm ini ⟨ao2, N, cap2⟩ tt tl ts ((b0 ++ [x], b1), ls) := by
  obtain ⟨l0, l1, l2, l3, l4⟩ := id hl
  have hO := h.pat.o0
  have hbt : bp ∉ blkL ta := fun hx => by have := (hO.lt bp (mem_blkL.1 hx)).1; omega
  have f1 : Fr (blkL ta) w w2 := ((Fr.of_kp k).mono (by simp)).trans ha.fr
  have hset := Fr.set w2 ⟨bp, 1, none⟩ (.slice ao2 N cap2)
  have f2 : Fr (blkL ta ++ [bp]) w (w2.setCell ⟨bp, 1, none⟩ (.slice ao2 N cap2)) := (f1.mono (fun x hx => List.mem_append.2 (.inl hx))).trans (hset.mono (fun x hx => List.mem_append.2 (.inr hx)))
  have hX : ∀ x ∈ blkL ta ++ [bp], B ≤ x ∨ x = bp := fun x hx => by
    rcases List.mem_append.1 hx with q | q
    · exact .inl (hO.lt x (mem_blkL.1 q)).1
    · right; simpa using q
  exact h.step hl f2 hX (((h.pat.kp k).app0 (t0 := ⟨ta, tn, tc⟩) x ha).fr hset (by simp; omega)) ((h.at4.fr f1 hbt).set1 ⟨ao2, N, cap2⟩)
theorem Mem19.app1 (h : Mem19 w0 w B br bp bm rm ini tt ⟨ta, tn, tc⟩ tl ts ((b0, b1), ls)) (hl : Lay w0 B br bp bm rm) (k : Kp w wa) (ha : Appd wa w2 B 3 1 ta tc 1 N ((b1 ++ [x]).map iv) ao2 cap2) :
    Mem19 w0 (w2.setCell ⟨bp, 2, none⟩ (.slice ao2 N cap2)) B br bp bm rm ini tt ⟨ao2, N, cap2⟩ tl ts ((b0, b1 ++ [x]), ls) := by
  obtain ⟨l0, l1, l2, l3, l4⟩ := id hl
  have hO := h.pat.o1
  have hbt : bp ∉ blkL ta := fun hx => by have := (hO.lt bp (mem_blkL.1 hx)).1; omega
  have f1 : Fr (blkL ta) w w2 := ((Fr.of_kp k).mono (by simp)).trans ha.fr
  have hset := Fr.set w2 ⟨bp, 2, none⟩ (.slice ao2 N cap2)
  have f2 : Fr (blkL ta ++ [bp]) w (w2.setCell ⟨bp, 2, none⟩ (.slice ao2 N cap2)) := (f1.mono (fun x hx => List.mem_append.2 (.inl hx))).trans (hset.mono (fun x hx => List.mem_append.2 (.inr hx)))
  have hX : ∀ x ∈ blkL ta ++ [bp], B ≤ x ∨ x = bp := fun x hx => by
    rcases List.mem_append.1 hx with q | q
    · exact .inl (hO.lt x (mem_blkL.1 q)).1
    · right; simpa using q
  exact h.step hl f2 hX (((h.pat.kp k).app1 (t1 := ⟨ta, tn, tc⟩) x ha).fr hset (by simp; omega)) ((h.at4.fr f1 hbt).set2 ⟨ao2, N, cap2⟩)
end
end Go.Proofs.YtpemfmjplejdiaaDoor

namespace Go.Proofs.YtpemfmjplejdiaaDoor
open Go.RowKit

/-- Block rm is a map from moves to tokens: it says nothing wrong, and all that S says. -/
def Bk (w : World) (rm : Nat) (ini : Bool) (S : Mv → Prop) : Prop := ∃ D, BkIn w rm D ∧ (∀ m t, D m = some t → backL ini m = some t) ∧ ∀ m, S m → D m = backL ini m
theorem Bk.fr {w w' : World} {rm : Nat} {ini : Bool} {S : Mv → Prop} (h : Bk w rm ini S) {X : List Nat} (k : Fr X w w') (hr : rm ∉ X) : Bk w' rm ini S := by
  obtain ⟨D, h1, h2⟩ := h
  exact ⟨D, h1.fr k hr, h2⟩
theorem Bk.mono {w : World} {rm : Nat} {ini : Bool} {S S' : Mv → Prop} (h : Bk w rm ini S) (hs : ∀ m, S' m → S m) : Bk w rm ini S' := by
  obtain ⟨D, h1, h2, h3⟩ := h
  exact ⟨D, h1, h2, fun m hm => h3 m (hs m hm)⟩
theorem Bk.new (w : World) (clock : Nat) (ini : Bool) : Bk (w.alloc (.map #[] clock)) w.heap.size ini (fun _ => False) := ⟨fun _ => none, BkIn.new w clock, fun m t h => (by cases h), fun m h => h.elim⟩
theorem Bk.all {w : World} {rm : Nat} {ini : Bool} {S : Mv → Prop} (h : Bk w rm ini S) (hs : ∀ m, backL ini m ≠ none → S m) : BkIn w rm (backL ini) := by
  obtain ⟨D, h1, h2, h3⟩ := h
  refine h1.congr (fun m => ?_)
  cases hb : backL ini m with
  | some t => rw [← hb]; exact h3 m (hs m (by rw [hb]; simp))
  | none =>
    cases hd : D m with
    | none => rfl
    | some t => rw [h2 m t hd] at hb; cases hb
theorem Bk.lt {w : World} {rm : Nat} {ini : Bool} {S : Mv → Prop} (h : Bk w rm ini S) : rm < w.heap.size := by
  obtain ⟨D, h1, _⟩ := h; exact h1.lt
theorem Bk.put {w : World} {rm : Nat} {ini : Bool} {S : Mv → Prop} (h : Bk w rm ini S) (m : Mv) (t : Int) (hb : backL ini m = some t) :
    ∃ w', (Instr.mapUpdate 68 (.map (some rm)) (mvv m) (iv t)).run Tryd.prog w = .ok () w' ∧ Bk w' rm ini (fun x => S x ∨ x = m) ∧ Fr [rm] w w' := by
  obtain ⟨D, h1, h2, h3⟩ := h
  have hD : D m = none ∨ D m = some t := by
    cases hd : D m with
    | none => exact .inl rfl
    | some t' => right; have := h2 m t' hd; rw [hb] at this; rw [this]
  obtain ⟨w', r1, r2, r3⟩ := h1.put m t hD
  refine ⟨w', r1, ⟨_, r2, fun x t' hx => ?_, fun x hx => ?_⟩, r3⟩
  · unfold updD at hx
    split at hx
    · rename_i he; subst he; rw [hb]; exact hx
    · exact h2 x t' hx
  · unfold updD
    split
    · rename_i he; subst he; exact hb.symm
    · rename_i he
      rcases hx with q | q
      · exact h3 x q
      · exact absurd q he
theorem wp_bkput {w : World} {o : Oper} {a : Act} {Kc : Act → World → Prop} {Q : Exit → Act → World → Prop} (m x v : Operand) (hop : o.op = .mapUpdate 68 m x v ∨ o.op = .insert 68 m x v) {rm : Nat} {ini : Bool} {S : Mv → Prop} (hm : a.eval m = .map (some rm)) (h : Bk w rm ini S) (k : Mv) (t : Int) (hb : backL ini k = some t)
    (hx : a.eval x = mvv k) (hv : a.eval v = iv t) (hK : ∀ w', Bk w' rm ini (fun y => S y ∨ y = k) → Fr [rm] w w' → Kc (a.put o.dst undef) w') : o.wp Tryd.prog a w Kc Q := by
  obtain ⟨w', hrun, r1, r2⟩ := h.put k t hb
  unfold Oper.wp
  rcases hop with hop | hop
  · simp only [execOp, hop, hm, hx, hv, Sem.run_bind, hrun, Result.andThen_ok, Sem.run_pure]
    exact hK w' r1 r2
  · simp only [execOp, hop, hm, hx, hv, Sem.run_bind, hrun, Result.andThen_ok, Sem.run_pure]
    exact hK w' r1 r2
theorem wpList_bkput {w : World} {ops : Array Oper} {rest : List Oper} {o : Oper} {a : Act} {Q : Exit → Act → World → Prop} (hg : o.guard = none) (m x v : Operand) (hop : o.op = .mapUpdate 68 m x v) {rm : Nat} {ini : Bool} {S : Mv → Prop} (hm : a.eval m = .map (some rm)) (h : Bk w rm ini S) (k : Mv) (t : Int) (hb : backL ini k = some t)
    (hx : a.eval x = mvv k) (hv : a.eval v = iv t) (hK : ∀ w', Bk w' rm ini (fun y => S y ∨ y = k) → Fr [rm] w w' → wpList Tryd.prog ops Q rest (a.put o.dst undef) w') : wpList Tryd.prog ops Q (o :: rest) a w :=
  wpList_plain hg fun _ hK' => wp_bkput m x v (.inl hop) hm h k t hb hx hv fun w' h1 h2 => hK' _ _ (hK w' h1 h2)

/-- What stands behind a token's one move, if it is a secret. -/
theorem back_share (ini : Bool) (k : TK) (hk : k ∈ KK 2) (m : Mv) (hm : movesL ini k.1 k.2 = [m]) (h11 : m.op = 11) : backL ini m = some k.1 := by
  have hd : ∀ k ∈ KK 2, ∀ ini : Bool, (match movesL ini k.1 k.2 with | [m] => m.op ≠ 11 ∨ backL ini m = some k.1 | _ => True) := by
    intro k hk
    replace hk : k ∈ ([(7, true), (6, true), (5, true), (4, true), (3, true), (7, false), (6, false), (5, false), (4, false), (3, false), (1, true), (1, false), (2, true), (2, false)] : List TK) := hk
    simp only [List.mem_cons, List.not_mem_nil, or_false] at hk
    rcases hk with rfl | rfl | rfl | rfl | rfl | rfl | rfl | rfl | rfl | rfl | rfl | rfl | rfl | rfl <;> intro ini <;> cases ini <;> simp [movesL, wantI, wantR, backL]
  have := hd k hk ini
  rw [hm] at this
  rcases this with h | h
  · exact absurd h11 h
  · exact h
/-- The moves that stand in the map from its making on. -/
def five (m : Mv) : Prop := m = ⟨7, 1, 0⟩ ∨ m = ⟨8, 3, 0⟩ ∨ m = ⟨9, 2, 0⟩ ∨ m = ⟨10, 4, 0⟩ ∨ m = ⟨12, 0, 0⟩
theorem back_some (ini : Bool) (m : Mv) (h : backL ini m ≠ none) : five m ∨ ∃ k ∈ KK 2, movesL ini k.1 k.2 = [m] ∧ m.op = 11 := by
  by_cases h5 : five m
  · exact .inl h5
  · right
    have h4 : m = ⟨11, 1, 3⟩ ∨ m = ⟨11, 2, 4⟩ ∨ m = ⟨11, 1, 4⟩ ∨ m = ⟨11, 2, 3⟩ := by
      unfold backL at h
      unfold five at h5
      by_cases a : m = ⟨11, 1, 3⟩
      · exact .inl a
      · by_cases b : m = ⟨11, 2, 4⟩
        · exact .inr (.inl b)
        · by_cases c : m = ⟨11, 1, 4⟩
          · exact .inr (.inr (.inl c))
          · by_cases d : m = ⟨11, 2, 3⟩
            · exact .inr (.inr (.inr d))
            · exfalso; apply h
              rw [if_neg (fun q => h5 (by rcases q with q | q <;> simp [q])), if_neg (fun q => h5 (by rcases q with q | q <;> simp [q])), if_neg (fun q => h5 (by simp [q])), if_neg a, if_neg b, if_neg c, if_neg d]
    rcases h4 with rfl | rfl | rfl | rfl <;> cases ini
    · exact ⟨(3, true), by decide, rfl, rfl⟩
    · exact ⟨(3, true), by decide, rfl, rfl⟩
    · exact ⟨(6, true), by decide, rfl, rfl⟩
    · exact ⟨(6, true), by decide, rfl, rfl⟩
    · exact ⟨(5, true), by decide, rfl, rfl⟩
    · exact ⟨(4, true), by decide, rfl, rfl⟩
    · exact ⟨(4, true), by decide, rfl, rfl⟩
    · exact ⟨(5, true), by decide, rfl, rfl⟩

/-! ### The map's making -/
def got (l : Array Bool) (m : Mv) : Prop := (l.getD 2 true = true ∧ m = ⟨7, 1, 0⟩) ∨ (l.getD 4 true = true ∧ m = ⟨8, 3, 0⟩) ∨ (l.getD 6 true = true ∧ m = ⟨9, 2, 0⟩) ∨ (l.getD 8 true = true ∧ m = ⟨10, 4, 0⟩) ∨ (l.getD 10 true = true ∧ m = ⟨12, 0, 0⟩)
def Inv7 (a0 : Act) (w1 : World) (rm : Nat) (ini : Bool) (l : Array Bool) (a : Act) (w : World) : Prop := l.size = 13 ∧
  (l.getD 11 true = false → l.getD 12 true = false ∧ a = a0) ∧ (l.getD 11 true = true → (∀ i, i ∈ [2, 4, 6, 8, 10] → l.getD i true = true) ∧ a = (if l.getD 12 true then (a0.put (some 30) (.map (some rm))).put (some 12) (.map (some rm)) else a0.put (some 30) (.map (some rm)))) ∧
  Fr [rm] w1 w ∧ Bk w rm ini (got l) ∧ (∀ i, i ∈ [0, 1, 3, 5, 7, 9] → l.getD i true = true)
theorem got_set (l : Array Bool) (i : Nat) (hs : i < l.size) (hi : i ∉ [2, 4, 6, 8, 10]) (m : Mv) : got (l.setIfInBounds i true) m → got l m := by
  unfold got
  simp only [List.mem_cons, List.not_mem_nil, or_false, not_or] at hi
  rw [set_getD l i 2 hs, set_getD l i 4 hs, set_getD l i 6 hs, set_getD l i 8 hs, set_getD l i 10 hs, if_neg (Ne.symm hi.1), if_neg (Ne.symm hi.2.1), if_neg (Ne.symm hi.2.2.1), if_neg (Ne.symm hi.2.2.2.1), if_neg (Ne.symm hi.2.2.2.2)]
  exact id
theorem got_all (l : Array Bool) (h : ∀ i, i < 13 → l.getD i true = true) (m : Mv) : five m → got l m := by
  unfold got five
  rw [h 2 (by omega), h 4 (by omega), h 6 (by omega), h 8 (by omega), h 10 (by omega)]
  simp
end Go.Proofs.YtpemfmjplejdiaaDoor

namespace Go.Proofs.YtpemfmjplejdiaaDoor
open Go.RowKit

set_option maxRecDepth 100000 in
set_option maxHeartbeats 4000000 in
theorem roll_token (w0 : World) (B br bp bm rm : Nat) (hL : Lay w0 B br bp bm rm) (ini : Bool) (lo : Option Addr) (n c : Nat) (ms : List Mv) (hms : Mvs w0 lo n ms) (hn : n ≤ 1000) (Q : Exit → Act → World → Prop) (a : Act) (w : World)
    (hJ : J19 w0 B br bp bm rm ini lo n c ms 3 a w) : (restOf Tryd.f19 3).wp Tryd.prog (Exit.jumps (K19 w0 B br bp bm rm ini lo n c ms (mu19 n 3 a w)) Q) a w := by
  obtain ⟨i, from', t0, t1, tl, ts, p, hi, hF, hM, hS, h0, h1, h2⟩ := hJ
  have hmu : mu19 n 3 a w = n + 1 - i := by
    unfold mu19; rw [hF.nine]; simp [intOf]
  rw [hmu]
  obtain ⟨u, rfl⟩ := hF
  obtain ⟨hS, r, f, tok, hp, hr, htk⟩ := St19.three.1 hS
  have hml := hms.1
  conv => enter [2]; whnf
  by_cases hlt : i < n
  · obtain ⟨b, off, rfl, hc⟩ := (Kp.mvs hM.kp hms).at i hlt
    obtain ⟨c1, c2, c3⟩ := hc i hlt
    clear hc
    have Hf := Lib.hid (take_fold (ini := ini) (show i < ms.length by omega))
    generalize ms[i] = m at c1 c2 c3 Hf
    obtain ⟨x0, x1, x2, ⟨d0, d1, d2⟩, f0, f1, f2⟩ := hM.mv
    have hne : ((i : Int) == (n : Int)) = false := by simp; omega
    go_upto_region 28 with fail
    obtain ⟨hv, hFr, e0, e1, e2⟩ := Free3.set hM.mv (iv m.op) (iv m.key) (iv m.wth)
    have hM1 := hM.setm hL hFr hv
    clear c1 c2 c3 d0 d1 d2 f0 f1 f2 hv hFr hM
    generalize ((w.setCell ⟨bm, 0, none⟩ (iv m.op)).setCell ⟨bm, 1, none⟩ (iv m.key)).setCell ⟨bm, 2, none⟩ (iv m.wth) = w1 at *
    have HM := Lib.hid hM1
    by_cases h5 : m.op = 5
    · have g5 : (m.op == 5) = true := by simp [h5]
      have Hf2 := Lib.hid (show (ms.take (i + 1)).foldl (rollS ini) initP = (p.1, p.2 ++ [(sideOf ini, [])]) by rw [Hf.out, hS]; unfold rollS; rw [if_pos h5])
      clear hM1 hS h5
      go_wp2_with fail
      go_step3
      show K19 w0 B br bp bm rm ini _ n c ms (n + 1 - i) 2 _ _
      exact K19.mk (i + 1) rfl (by omega) (F19.of ..) HM.out (St19.two.2 ⟨Hf2.out, by rw [hp]; simp; omega⟩) (by omega) (by omega) (by omega) (.inr (by omega))
    · by_cases h6 : m.op = 6
      · have g5 : (m.op == 5) = false := by simp [h5]
        have g6 : (m.op == 6) = true := by simp [h6]
        have Hf2 := Lib.hid (show (ms.take (i + 1)).foldl (rollS ini) initP = (p.1, p.2 ++ [(1 - sideOf ini, [])]) by rw [Hf.out, hS]; unfold rollS; rw [if_neg h5, if_pos h6])
        clear hM1 hS h5 h6
        go_wp2_with fail
        go_step3
        show K19 w0 B br bp bm rm ini _ n c ms (n + 1 - i) 2 _ _
        exact K19.mk (i + 1) rfl (by omega) (F19.of ..) HM.out (St19.two.2 ⟨Hf2.out, by rw [hp]; simp; omega⟩) (by omega) (by omega) (by omega) (.inr (by omega))
      · have g5 : (m.op == 5) = false := by simp [h5]
        have g6 : (m.op == 6) = false := by simp [h6]
        have hroll : rollS ini p m = (match backL ini m with | some t => (p.1, addT p.2 t) | none => p) := by
          unfold rollS
          rw [if_neg h5, if_neg h6, if_neg (by rw [hp]; simp)]
          cases backL ini m <;> rfl
        have hget := hM1.bk.get m
        unfold mvv at hget
        cases hb : backL ini m with
        | none =>
          rw [hb] at hget hroll
          simp only [Option.getD_none, Option.isSome_none] at hget
          have Hf2 := Lib.hid (show (ms.take (i + 1)).foldl (rollS ini) initP = p by rw [Hf.out, hS, hroll])
          clear hroll hM1 h5 h6 hS
          go_wp2_with fail
          go_step3
          show K19 w0 B br bp bm rm ini _ n c ms (n + 1 - i) 3 _ _
          exact K19.mk (i + 1) rfl (by omega) (F19.of ..) HM.out (St19.three.2 ⟨Hf2.out, r, f, tok, hp, by omega, by omega⟩) (by omega) (by omega) (by omega) (.inr (by omega))
        | some t =>
          rw [hb] at hget hroll
          simp only [Option.getD_some, Option.isSome_some] at hget
          obtain ⟨⟨b0, b1⟩, ls⟩ := p
          simp only at hp
          subst hp
          have Hf2 := Lib.hid (show (ms.take (i + 1)).foldl (rollS ini) initP = ((b0, b1), r ++ [(f, tok ++ [t])]) by rw [Hf.out, hS, hroll]; simp only [addT_concat])
          obtain ⟨g, cl, ts', t', rfl, rfl, hlt', hBg, hgw, hgt, htn, hO, hcell, hfree⟩ := hM1.pat.last
          have y3 := hM1.at4.1.2.2.2
          unfold tvv at y3
          have hbp := hM1.at0
          obtain ⟨l0, l1, l2, l3, l4⟩ := hL
          clear hroll h5 h6 hS hb Hf
          obtain ⟨ta, tn, tc⟩ := t'
          simp only at hgt htn hO hcell y3
          have hkn := Kp.new w1 (.cells #[iv t] 3)
          have hby : (tn + 1) * 8 ≤ 140737488355328 := by omega
          have hBw : B ≤ (w1.alloc (.cells #[iv t] 3)).heap.size := by simp; omega
          have Htn := Lib.hid htn
          clear htn
          go_wp2_with (at_builtin; refine wpList_app rfl (.tmp 166) (.tmp 168) 22 rfl el22 B rfl (hO.keep hkn) rfl [iv t] rfl (Cs.new w1 [iv t] 3 (0, 0)) (by simp [Value.oneCell']) (tn + 1) rfl ((tok ++ [t]).map iv) (by simp) hby hBw ?_; intro ao2 cap2 w2 ha; have z0 := Fr.cell ha.fr (Kp.cell hkn hcell) hgt; have z1 := Fr.free ha.fr (Kp.cell hkn hcell) ((Fr.of_kp hkn).free hcell hfree (by simp)) hgt)
          go_step3
          have f1 : Fr (blkL ta) w1 w2 := ((Fr.of_kp hkn).mono (by simp)).trans ha.fr
          have f2 : Fr (blkL ta ++ [g]) w1 (w2.setCell ⟨g, r.length * 2 + 1, none⟩ (.slice ao2 (tn + 1) cap2)) := (f1.mono (fun x hx => List.mem_append.2 (.inl hx))).trans ((Fr.set w2 ⟨g, r.length * 2 + 1, none⟩ _).mono (fun x hx => List.mem_append.2 (.inr hx)))
          have hX : ∀ x ∈ blkL ta ++ [g], B ≤ x ∨ x = bp := fun x hx => by
            rcases List.mem_append.1 hx with q | q
            · exact .inl (hO.lt x (mem_blkL.1 q)).1
            · left; simp at q; omega
          have hM2 : Mem19 w0 (w2.setCell ⟨g, r.length * 2 + 1, none⟩ (.slice ao2 (tn + 1) cap2)) B br bp bm rm ini t0 t1 ⟨some ⟨g, 0, none⟩, r.length + 1, cl⟩ (ts' ++ [⟨ao2, tn + 1, cap2⟩]) ((b0, b1), r ++ [(f, tok ++ [t])]) :=
            hM1.step ⟨l0, l1, l2, l3, l4⟩ f2 hX (PatO.appt (hM1.pat.kp hkn) t ha) (hM1.at4.fr f2 (fun hx => by
              rcases List.mem_append.1 hx with q | q
              · have := (hO.lt bp (mem_blkL.1 q)).1; omega
              · simp at q; omega))
          show K19 w0 B br bp bm rm ini _ n c ms (n + 1 - i) 3 _ _
          exact K19.mk (i + 1) rfl (by omega) (F19.of ..) hM2 (St19.three.2 ⟨Hf2.out, r, f, tok ++ [t], rfl, by omega, by simp; omega⟩) (by simp only; omega) (by simp only; omega) (by simp only [List.length_append, List.length_cons, List.length_nil] at h2 ⊢; omega) (.inr (by omega))
  · have heq : ((i : Int) == (n : Int)) = true := by simp; omega
    obtain rfl : i = n := by omega
    have Hf := Lib.hid (show ms.foldl (rollS ini) initP = p by rw [← hS, List.take_of_length_le (by omega)])
    go_wp2_with fail
    go_step3
    show K19 w0 B br bp bm rm ini _ i c ms (i + 1 - i) 0 _ _
    exact K19.mk i rfl (by omega) (F19.of ..) hM (St19.zero.2 ⟨hml.symm, Hf.out⟩) (by omega) (by omega) (by omega) (.inl ⟨rfl, by omega⟩)
end Go.Proofs.YtpemfmjplejdiaaDoor

namespace Go.Proofs.YtpemfmjplejdiaaDoor
open Go.RowKit

theorem jumps_rest {J J' : Nat → Act → World → Prop} {Q : Exit → Act → World → Prop} {c : Code} {a : Act} {w : World} (h : c.wp Tryd.prog (Exit.jumps J Q) a w) (hJ : ∀ l a w, J l a w → J' l a w) : c.wp Tryd.prog (Exit.jumps J' Q) a w := Code.wp_mono (jumps_mono hJ) h

set_option maxRecDepth 100000 in
set_option maxHeartbeats 4000000 in
theorem roll_message (w0 : World) (B br bp bm rm : Nat) (hL : Lay w0 B br bp bm rm) (ini : Bool) (lo : Option Addr) (n c : Nat) (ms : List Mv) (hms : Mvs w0 lo n ms) (hn : n ≤ 1000) (Q : Exit → Act → World → Prop) (a : Act) (w : World)
    (hJ : J19 w0 B br bp bm rm ini lo n c ms 2 a w) : (restOf Tryd.f19 2).wp Tryd.prog (Exit.jumps (K19 w0 B br bp bm rm ini lo n c ms (mu19 n 2 a w)) Q) a w := by
  obtain ⟨i, from', t0, t1, tl, ts, p, hi, hF, hM, hS, h0, h1, h2⟩ := hJ
  have hmu : mu19 n 2 a w = n + 1 - i := by
    unfold mu19; rw [hF.nine]; simp [intOf]
  rw [hmu]
  obtain ⟨u, rfl⟩ := hF
  obtain ⟨hS, hr⟩ := St19.two.1 hS
  have Hml := Lib.hid hms.1
  have HT := Lib.hid (fun a' w' i' (hi' : i' = i) (h : mu19 n 3 a' w' = n + 1 - i') (hJ : J19 w0 B br bp bm rm ini lo n c ms 3 a' w') => by
    have := roll_token w0 B br bp bm rm hL ini lo n c ms hms hn Q a' w' hJ
    rw [h, hi'] at this; exact this)
  conv => enter [2]; whnf
  obtain ⟨⟨b0, b1⟩, ls⟩ := p
  have hp := hM.pat
  have hnl := hp.nl
  obtain ⟨ta, tn, tc⟩ := tl
  have hO := hp.ol
  simp only at hnl hO hr h0 h1 h2
  have hby : (tn + 1) * 32 ≤ 140737488355328 := by omega
  obtain ⟨⟨y0, y1, y2, y3⟩, q1, q2, q3⟩ := hM.at4
  unfold tvv at y3
  simp only at y3
  have hbp := hM.at0
  obtain ⟨l0, l1, l2, l3, l4⟩ := id hL
  have hkn := Kp.new w (.cells #[iv from', .slice none 0 0] 53)
  have hBw : B ≤ (w.alloc (.cells #[iv from', .slice none 0 0] 53)).heap.size := Nat.le_trans hM.big hkn.size
  have hbt : bp ∉ blkL ta := fun hx => by have := (hO.lt bp (mem_blkL.1 hx)).1; omega
  have Hnl := Lib.hid hnl
  clear hnl
  go_wp2_with (at_builtin; refine wpList_app rfl (.tmp 122) (.tmp 125) 24 rfl el24 B rfl (hO.keep hkn) rfl [iv from', .slice none 0 0] rfl (Cs.new w [iv from', .slice none 0 0] 53 (0, 0)) (by simp [Value.oneCell']) (tn + 1) rfl (lnc (ls ++ [(from', [])]) (ts ++ [nilT])) (lnc_append _ _ hp.len) hby hBw ?_; intro ao2 cap2 w2 ha; have z0 := Fr.cell ha.fr (Kp.cell hkn y3) hbt; have z1 := Fr.free ha.fr (Kp.cell hkn y3) ((Fr.of_kp hkn).free y3 q3 (by simp)) hbt)
  go_step3
  rename_i hK
  refine hK _ _ ?_
  clear hK
  have f1 : Fr (blkL ta) w w2 := ((Fr.of_kp hkn).mono (by simp)).trans ha.fr
  have hPat := PatO.appl (hp.kp hkn) from' ha
  have hset := Fr.set w2 ⟨bp, 3, none⟩ (.slice ao2 (tn + 1) cap2)
  have f2 : Fr (blkL ta ++ [bp]) w (w2.setCell ⟨bp, 3, none⟩ (.slice ao2 (tn + 1) cap2)) := (f1.mono (fun x hx => List.mem_append.2 (.inl hx))).trans (hset.mono (fun x hx => List.mem_append.2 (.inr hx)))
  have hX : ∀ x ∈ blkL ta ++ [bp], B ≤ x ∨ x = bp := fun x hx => by
    rcases List.mem_append.1 hx with q | q
    · exact .inl (hO.lt x (mem_blkL.1 q)).1
    · right; simpa using q
  have hA2 : At4 w2 bp ⟨#[]⟩ t0 t1 ⟨ta, tn, tc⟩ := hM.at4.fr f1 hbt
  have hM2 : Mem19 w0 (w2.setCell ⟨bp, 3, none⟩ (.slice ao2 (tn + 1) cap2)) B br bp bm rm ini t0 t1 ⟨ao2, tn + 1, cap2⟩ (ts ++ [nilT]) ((b0, b1), ls ++ [(from', [])]) :=
    hM.step hL f2 hX (hPat.fr hset (by simp; omega)) (hA2.set3 ⟨ao2, tn + 1, cap2⟩)
  refine HT.out _ _ i rfl ?_ ⟨i, from', t0, t1, ⟨ao2, tn + 1, cap2⟩, ts ++ [nilT], ((b0, b1), ls ++ [(from', [])]), hi, F19.of .., hM2, St19.three.2 ⟨hS, ls, from', [], rfl, hr, by simp⟩, h0, h1, by simp; omega⟩
  unfold mu19; rw [F19.nine (F19.of ..)]; simp [intOf]
end Go.Proofs.YtpemfmjplejdiaaDoor
