/- Moves; a map from a token, and whether it is sent, to moves: its store and its look-up. No condition of their own. -/
import Derived.Test.YtpemfmjplejdiaaDoorCheck
import Derived.MapKept
import Derived.Maps.Own
namespace Go.Proofs.YtpemfmjplejdiaaDoor
open Go.RowKit

structure Mv where
  op : Int
  key : Int
  wth : Int
  deriving DecidableEq
def mvc (m : Mv) : List Value := [iv m.op, iv m.key, iv m.wth]
/-- A slice value's parts read a list of moves. -/
def Mvs (w : World) (ao : Option Addr) (n : Nat) (ms : List Mv) : Prop := ms.length = n ∧ n ≤ maxLen ∧ Cs w ao (ms.flatMap mvc)
theorem Kp.mvs {w w' : World} (h : Kp w w') {ao : Option Addr} {n : Nat} {ms : List Mv} (hx : Mvs w ao n ms) : Mvs w' ao n ms := ⟨hx.1, hx.2.1, h.cs hx.2.2⟩
theorem mvc_length (ms : List Mv) : (ms.flatMap mvc).length = ms.length * 3 := by
  induction ms with
  | nil => rfl
  | cons m r ih => simp only [List.flatMap_cons, List.length_append, ih, List.length_cons, mvc, List.length_nil]; omega
theorem mvc_get (ms : List Mv) (j : Nat) (h : j < ms.length) : (ms.flatMap mvc)[j * 3]? = some (iv ms[j].op) ∧ (ms.flatMap mvc)[j * 3 + 1]? = some (iv ms[j].key) ∧ (ms.flatMap mvc)[j * 3 + 2]? = some (iv ms[j].wth) := by
  induction ms generalizing j with
  | nil => simp at h
  | cons m r ih =>
    rcases j with _ | j
    · simp [mvc, List.flatMap_cons]
    · have := ih j (by simpa using h)
      have e : ∀ i, ((m :: r).flatMap mvc)[(j + 1) * 3 + i]? = (r.flatMap mvc)[j * 3 + i]? := fun i => by
        rw [List.flatMap_cons, List.getElem?_append_right (by simp [mvc]; omega)]
        congr 1
        simp [mvc]; omega
      have e0 := e 0
      simp only [Nat.add_zero] at e0
      simp only [List.getElem_cons_succ]
      exact ⟨by rw [e0]; exact this.1, by rw [e 1]; exact this.2.1, by rw [e 2]; exact this.2.2⟩

abbrev TK := Int × Bool
def keyV (k : TK) : Value := .agg #[.int .i64 k.1, .bool k.2]

theorem run_checkKey61_in (w : World) (b : Bool) (n : Nat) (k : TK) : (Instr.checkKey b (n + 2) 61 (keyV k)).run Tryd.prog w = .ok () w := by
  have p0 := part3 w #[.int .i64 k.1, .bool k.2] 0 (.int .i64 k.1) rfl
  have p1 := part4 w #[.int .i64 k.1, .bool k.2] 1 (.bool k.2) rfl
  unfold keyV
  simp [Instr.checkKey, run_underlying Tryd.underlying61, run_underlying Tryd.underlying3, run_underlying Tryd.underlying4, p0, p1]
theorem run_checkKey61 (w : World) (b : Bool) (k : TK) : (Instr.checkKey b 10000 61 (keyV k)).run Tryd.prog w = .ok () w := run_checkKey61_in w b 9998 k

theorem run_findAsking (w : World) (k : TK) : ∀ (es : List MapEntry) (i : Nat), (∀ e ∈ es, ∃ k' : TK, e.key = keyV k') →
    ((∀ e ∈ es, e.key ≠ keyV k) → (Instr.findAsking 61 (keyV k) es i).run Tryd.prog w = .ok none w) ∧
    ((∃ e ∈ es, e.key = keyV k) → ∃ j e, e ∈ es ∧ e.key = keyV k ∧ (Instr.findAsking 61 (keyV k) es i).run Tryd.prog w = .ok (some (j, e.val)) w)
  | [], i, _ => ⟨fun _ => by simp [Instr.findAsking], fun ⟨e, he, _⟩ => by simp at he⟩
  | x :: es, i, h => by
    obtain ⟨k', hk'⟩ := h x (by simp)
    have ih := run_findAsking w k es (i + 1) (fun e he => h e (by simp [he]))
    have he : (Op.equal 61 (keyV k) x.key).run Tryd.prog w = .ok (k.1 == k'.1 && k.2 == k'.2) w := by rw [hk']; exact eq61 w k.1 k'.1 k.2 k'.2
    by_cases hkk : k = k'
    · subst hkk
      refine ⟨fun hn => absurd hk' (hn x (by simp)), fun _ => ⟨i, x, by simp, hk', ?_⟩⟩
      simp [Instr.findAsking, he]
    · have hf : (k.1 == k'.1 && k.2 == k'.2) = false := by
        cases hq : (k.1 == k'.1 && k.2 == k'.2) with
        | false => rfl
        | true =>
          simp only [Bool.and_eq_true, beq_iff_eq] at hq
          exact absurd (Prod.ext hq.1 hq.2) hkk
      rw [hf] at he
      have hne : x.key ≠ keyV k := by
        rw [hk']
        intro hc
        simp only [keyV, Value.agg.injEq] at hc
        have := congrArg Array.toList hc
        simp at this
        exact hkk (Prod.ext this.1.symm this.2.symm)
      have hstep : (Instr.findAsking 61 (keyV k) (x :: es) i).run Tryd.prog w = (Instr.findAsking 61 (keyV k) es (i + 1)).run Tryd.prog w := by
        simp [Instr.findAsking, he]
      refine ⟨fun hn => by rw [hstep]; exact ih.1 (fun e he => hn e (by simp [he])), fun ⟨e, hm, hk2⟩ => ?_⟩
      rcases List.mem_cons.1 hm with rfl | hm
      · exact absurd hk2 hne
      · obtain ⟨j, e', h1, h2, h3⟩ := ih.2 ⟨e, hm, hk2⟩
        exact ⟨j, e', by simp [h1], h2, by rw [hstep]; exact h3⟩

theorem run_findKey61 (w : World) (k : TK) (es : List MapEntry) (h : ∀ e ∈ es, ∃ k' : TK, e.key = keyV k') :
    ((∀ e ∈ es, e.key ≠ keyV k) → (Instr.findKey 61 (keyV k) es).run Tryd.prog w = .ok none w) ∧
    ((∃ e ∈ es, e.key = keyV k) → ∃ j e, e ∈ es ∧ e.key = keyV k ∧ (Instr.findKey 61 (keyV k) es).run Tryd.prog w = .ok (some (j, e.val)) w) := by
  have hf := run_findAsking w k es 0 h
  cases es with
  | nil => exact ⟨fun _ => by simp [Instr.findKey, run_underlying Tryd.underlying61, Instr.findNow], fun ⟨e, he, _⟩ => by simp at he⟩
  | cons x es =>
    obtain ⟨k', hk'⟩ := h x (by simp)
    have hstep : (Instr.findKey 61 (keyV k) (x :: es)).run Tryd.prog w = (Instr.findAsking 61 (keyV k) (x :: es)).run Tryd.prog w := by
      simp [Instr.findKey, run_underlying Tryd.underlying61, Instr.findNow, Instr.sameNow]
    rw [hstep]
    exact hf

/-- The moves of a token, of a side. -/
def movesL (ini : Bool) (t : Int) (s : Bool) : List Mv :=
  if t = 1 then (if s then [⟨7, 1, 0⟩, ⟨3, 1, 0⟩] else [⟨8, 3, 0⟩, ⟨3, 3, 0⟩])
  else if t = 2 then (if s then [⟨9, 2, 0⟩] else [⟨10, 4, 0⟩])
  else if t = 7 then [⟨12, 0, 0⟩]
  else if ini then [⟨11, wantI t, wantR t + 2⟩] else [⟨11, wantR t, wantI t + 2⟩]

def MvsB (B : Nat) (w : World) (ao : Option Addr) (n : Nat) (ms : List Mv) : Prop := Mvs w ao n ms ∧ ∀ j ∈ blkL ao, B ≤ j
theorem Kp.mvsB {B : Nat} {w w' : World} (h : Kp w w') {ao : Option Addr} {n : Nat} {ms : List Mv} (hx : MvsB B w ao n ms) : MvsB B w' ao n ms := ⟨h.mvs hx.1, hx.2⟩
/-- The entries' stamps: below the clock, no two the same. -/
def Stp (arr : Array MapEntry) (clock : Nat) : Prop := (∀ e ∈ arr.toList, e.born < clock) ∧ (arr.toList.map (·.born)).Nodup
theorem Stp.nil (clock : Nat) : Stp #[] clock := ⟨fun e he => by simp at he, by simp⟩
theorem Stp.push {arr : Array MapEntry} {clock : Nat} (h : Stp arr clock) (key val : Value) : Stp (arr.push { key := key, val := val, born := clock }) (clock + 1) := by
  obtain ⟨h1, h2⟩ := h
  refine ⟨fun e he => ?_, ?_⟩
  · rw [Array.toList_push, List.mem_append, List.mem_singleton] at he
    rcases he with he | rfl
    · have := h1 e he; omega
    · exact Nat.lt_succ_self _
  · rw [Array.toList_push, List.map_append, List.nodup_append]
    refine ⟨h2, by simp, fun a ha b hb hab => ?_⟩
    obtain ⟨e, he, rfl⟩ := List.mem_map.1 ha
    simp only [List.map_cons, List.map_nil, List.mem_singleton] at hb
    have := h1 e he
    omega
/-- Block r is a map with these keys, and behind each its moves, in blocks from B on. -/
def MapIn (w : World) (r B : Nat) (ini : Bool) (K : List TK) : Prop := ∃ arr clock, w.heap[r]? = some (.map arr clock) ∧
  (∀ e ∈ arr.toList, ∃ k ∈ K, e.key = keyV k ∧ ∃ ao n cap, e.val = .slice ao n cap ∧ MvsB B w ao n (movesL ini k.1 k.2)) ∧ (∀ k ∈ K, ∃ e ∈ arr.toList, e.key = keyV k) ∧ Stp arr clock

theorem cell_map {w : World} {r : Nat} {arr : Array MapEntry} {clock : Nat} (h : w.heap[r]? = some (.map arr clock)) (j : Nat) : w.cell? ⟨r, j, none⟩ = none := by
  simp [World.cell?, h]
theorem Fr.cs_map {w w' : World} {r : Nat} {arr : Array MapEntry} {clock : Nat} (h : w.heap[r]? = some (.map arr clock)) (k : Fr [r] w w') {ao : Option Addr} {xs : List Value} (hx : Cs w ao xs) : Cs w' ao xs := fun j u hu => by
  obtain ⟨b, off, e, hc⟩ := hx j u hu
  refine ⟨b, off, e, k.cell hc ?_⟩
  simp only [List.mem_singleton]
  rintro rfl
  rw [cell_map h] at hc
  cases hc
theorem Fr.mvs_map {w w' : World} {r : Nat} {arr : Array MapEntry} {clock : Nat} (h : w.heap[r]? = some (.map arr clock)) (k : Fr [r] w w') {ao : Option Addr} {n : Nat} {ms : List Mv} (hx : Mvs w ao n ms) : Mvs w' ao n ms := ⟨hx.1, hx.2.1, Fr.cs_map h k hx.2.2⟩
theorem Fr.mvsB_map {B : Nat} {w w' : World} {r : Nat} {arr : Array MapEntry} {clock : Nat} (h : w.heap[r]? = some (.map arr clock)) (k : Fr [r] w w') {ao : Option Addr} {n : Nat} {ms : List Mv} (hx : MvsB B w ao n ms) : MvsB B w' ao n ms := ⟨Fr.mvs_map h k hx.1, hx.2⟩
theorem Kp.mapIn {w w' : World} (h : Kp w w') {r B : Nat} {ini : Bool} {K : List TK} (hx : MapIn w r B ini K) : MapIn w' r B ini K := by
  obtain ⟨arr, clock, h1, h2, h3⟩ := hx
  refine ⟨arr, clock, ?_, fun e he => ?_, h3⟩
  · rw [h.block r (Array.getElem?_eq_some_iff.1 h1).1]; exact h1
  · obtain ⟨k, hk, hkey, ao, n, cap, hv, hm⟩ := h2 e he
    exact ⟨k, hk, hkey, ao, n, cap, hv, h.mvsB hm⟩
theorem MapIn.new (w : World) (B : Nat) (ini : Bool) (clock : Nat) : MapIn (w.alloc (.map #[] clock)) w.heap.size B ini [] :=
  ⟨#[], clock, heap_alloc_new w _, fun e he => by simp at he, fun k hk => by simp at hk, Stp.nil _⟩

theorem getMap_run {w : World} {r : Nat} {arr : Array MapEntry} {clock : Nat} (h : w.heap[r]? = some (.map arr clock)) : (getObj r).run Tryd.prog w = .ok (.map arr clock) w := by
  simp [getObj, Sem.run, h]
theorem setMap_run {w : World} {r : Nat} {arr : Array MapEntry} {clock : Nat} (o : Obj) (h : w.heap[r]? = some (.map arr clock)) : (setObj r o).run Tryd.prog w = .ok () { w with heap := w.heap.setIfInBounds r o } := by
  simp [setObj, Sem.run, h]
theorem MapIn.low {w : World} {r B B' : Nat} (hB : B' ≤ B) {ini : Bool} {K : List TK} (h : MapIn w r B ini K) : MapIn w r B' ini K := by
  obtain ⟨arr, clock, h1, h2, h3⟩ := h
  refine ⟨arr, clock, h1, fun e he => ?_, h3⟩
  obtain ⟨k, hk, hkey, ao, n, cap, hv, hm, hb⟩ := h2 e he
  exact ⟨k, hk, hkey, ao, n, cap, hv, hm, fun j hj => Nat.le_trans hB (hb j hj)⟩
/-- The map is kept, where its own blocks are. -/
theorem MapIn.keep {w w' : World} {r B : Nat} {ini : Bool} {K : List TK} (h : MapIn w r B ini K) {X : List Nat} (k : Fr X w w') (hr : r ∉ X) (hX : ∀ j ∈ X, j < B ∨ w.heap.size ≤ j) : MapIn w' r B ini K := by
  obtain ⟨arr, clock, h1, h2, h3⟩ := h
  refine ⟨arr, clock, ?_, fun e he => ?_, h3⟩
  · rw [k.block r (Array.getElem?_eq_some_iff.1 h1).1 hr]; exact h1
  · obtain ⟨q, hq, hkey, ao, n, cap, hv, hm, hb⟩ := h2 e he
    refine ⟨q, hq, hkey, ao, n, cap, hv, ⟨hm.1, hm.2.1, fun j u hu => ?_⟩, hb⟩
    obtain ⟨b, off, e', hc⟩ := hm.2.2 j u hu
    refine ⟨b, off, e', k.cell hc (fun hx => ?_)⟩
    have h4 := hb b (by rw [e']; exact mem_blkL_some.2 rfl)
    have h5 := World.block_lt_of_cell? w _ hc
    have := hX b hx
    simp only at h5
    omega
theorem keyV_inj {k k' : TK} (h : keyV k = keyV k') : k = k' := by
  simp only [keyV, Value.agg.injEq] at h
  have := congrArg Array.toList h
  simp at this
  exact Prod.ext this.1 this.2

theorem MapIn.put {w : World} {r B : Nat} {ini : Bool} {K : List TK} (h : MapIn w r B ini K) (k : TK) (hk : k ∉ K) {ao : Option Addr} {n cap : Nat} (hm : MvsB B w ao n (movesL ini k.1 k.2)) :
    ∃ w', (Instr.mapUpdate 58 (.map (some r)) (keyV k) (.slice ao n cap)).run Tryd.prog w = .ok () w' ∧ MapIn w' r B ini (k :: K) ∧ Fr [r] w w' := by
  obtain ⟨arr, clock, h1, h2, h3⟩ := h
  have hkeys : ∀ e ∈ arr.toList, ∃ k' : TK, e.key = keyV k' := fun e he => by obtain ⟨k', _, h, _⟩ := h2 e he; exact ⟨k', h⟩
  have hnone := (run_findKey61 w k arr.toList hkeys).1 (fun e he hc => by
    obtain ⟨k', hk', h, _⟩ := h2 e he
    exact hk (by rw [keyV_inj (hc.symm.trans h)]; exact hk'))
  have hlt : r < w.heap.size := (Array.getElem?_eq_some_iff.1 h1).1
  have hFr : Fr [r] w { w with heap := w.heap.setIfInBounds r (.map (arr.push { key := keyV k, val := .slice ao n cap, born := clock }) (clock + 1)) } :=
    ⟨rfl, rfl, rfl, by simp, fun i _ hi => by
      simp only [List.mem_singleton] at hi
      simp [Ne.symm hi]⟩
  refine ⟨_, ?_, ⟨arr.push { key := keyV k, val := .slice ao n cap, born := clock }, clock + 1, by simp [hlt], fun e he => ?_, fun k' hk' => ?_, h3.2.push _ _⟩, hFr⟩
  · simp only [Instr.mapUpdate, Sem.run_bind, run_underlying Tryd.underlying58, Result.andThen_ok, getMap_run h1, run_checkKey61, hnone, setMap_run _ h1]
  · rw [Array.toList_push, List.mem_append, List.mem_singleton] at he
    rcases he with he | rfl
    · obtain ⟨k', hk', hkey, ao', n', cap', hv, hm'⟩ := h2 e he
      exact ⟨k', by simp [hk'], hkey, ao', n', cap', hv, Fr.mvsB_map h1 hFr hm'⟩
    · exact ⟨k, by simp, rfl, ao, n, cap, rfl, Fr.mvsB_map h1 hFr hm⟩
  · rcases List.mem_cons.1 hk' with rfl | hk'
    · exact ⟨_, by rw [Array.toList_push]; exact List.mem_append_right _ (List.mem_singleton.2 rfl), rfl⟩
    · obtain ⟨e, he, hke⟩ := h3.1 k' hk'
      exact ⟨e, by rw [Array.toList_push]; exact List.mem_append_left _ he, hke⟩

theorem MapIn.get {w : World} {r B : Nat} {ini : Bool} {K : List TK} (h : MapIn w r B ini K) (k : TK) (hk : k ∈ K) :
    ∃ ao n cap, (Instr.lookup 58 (.map (some r)) (keyV k) false).run Tryd.prog w = .ok (.slice ao n cap) w ∧ MvsB B w ao n (movesL ini k.1 k.2) := by
  obtain ⟨arr, clock, h1, h2, h3⟩ := h
  have hkeys : ∀ e ∈ arr.toList, ∃ k' : TK, e.key = keyV k' := fun e he => by obtain ⟨k', _, h, _⟩ := h2 e he; exact ⟨k', h⟩
  obtain ⟨j, e, he, hke, hrun⟩ := (run_findKey61 w k arr.toList hkeys).2 (h3.1 k hk)
  obtain ⟨k', _, hk', ao, n, cap, hv, hm⟩ := h2 e he
  obtain rfl : k = k' := keyV_inj (hke.symm.trans hk')
  rw [hv] at hrun
  refine ⟨ao, n, cap, ?_, hm⟩
  simp [Instr.lookup, run_underlying Tryd.underlying58, getMap_run h1, run_checkKey61, hrun]
end Go.Proofs.YtpemfmjplejdiaaDoor
