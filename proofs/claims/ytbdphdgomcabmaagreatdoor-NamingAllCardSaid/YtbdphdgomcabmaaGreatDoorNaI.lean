/- What holds between two rounds of NamingAll's loop. Conditions: said in the theorems. -/
import Derived.Test.YtbdphdgomcabmaaGreatDoorAllY
import Derived.Test.YtbdphdgomcabmaaGreatDoorNamS
import Derived.Test.YtbdphdgomcabmaaGreatDoorLawPl
namespace Go.Proofs.YtbdphdgomcabmaaGreatDoor
open Go.RowKit

theorem Fr.put (w : World) (r : Nat) (o : Obj) : Fr [r] w (w.putObj r o) :=
  ⟨rfl, rfl, rfl, by simp, fun k _ hn => World.putObj_heap_other (by simpa using hn)⟩
/-- A protocol's name. -/
def wholeN (x : Q.Bt) : ByteArray := ⟨#[78, 111, 105, 115, 101, 95]⟩ ++ bs x ++ ⟨#[95, 50, 53, 53, 49, 57, 95, 67, 104, 97, 67, 104, 97, 80, 111, 108, 121, 95, 66, 76, 65, 75, 69, 50, 115]⟩
theorem wholeN_list (x : Q.Bt) : (wholeN x).data.toList = Q.headN ++ x ++ Q.tailN := by unfold wholeN; rw [nm_list, bs_list]
theorem wholeN_inj {x y : Q.Bt} (h : wholeN x = wholeN y) : x = y := by
  have h2 := congrArg (fun z : ByteArray => z.data.toList) h
  simp only [wholeN_list] at h2
  exact List.append_cancel_left (List.append_cancel_right h2)
theorem namesS_nodup : namesS.Nodup := by
  unfold namesS
  refine (List.mergeSort_perm _ _).nodup_iff.2 ?_
  exact names_apart
/-- The names printed so far. -/
def nmV (k : Nat) : List Value := (namesS.take k).map fun x => .string (wholeN x)
theorem nmV_zero : nmV 0 = [] := rfl
theorem nmV_step {k : Nat} (h : k < namesS.length) : nmV (k + 1) = nmV k ++ [.string (wholeN namesS[k])] := by
  unfold nmV
  rw [take_step namesS k h, List.map_append]; rfl
theorem nmV_at {k i : Nat} (h : i < k) (hk : k ≤ namesS.length) : (nmV k)[i]? = some (.string (wholeN (namesS[i]'(by omega)))) := by
  unfold nmV
  rw [List.getElem?_map, List.getElem?_take_of_lt h, List.getElem?_eq_getElem (by omega)]; rfl
structure NaI (w v : World) (N0 : Nat) (r : Loop) (k : Nat) (ao : Option Addr) (cap : Nat) : Prop where
  kp : Kp w v
  nz : w.heap.size + 5 ≤ N0
  sz : N0 ≤ v.heap.size
  c0 : One1 v w.heap.size (.bool false)
  c1 : One1 v (w.heap.size + 1) (iv (k : Nat))
  c2 : One1 v (w.heap.size + 2) (.slice ao k cap)
  ow : Own v N0 9 1 ao k cap (nmV k)
  lr : v.heap[w.heap.size + 4]? = some (.loop r)
  dr : v.heap[w.heap.size + 3]? = some (.deferred (some []))
variable {w v v' : World} {N0 : Nat} {r : Loop} {k : Nat} {ao : Option Addr} {cap : Nat}
theorem heap_lt {w : World} {k : Nat} {o : Obj} (h : w.heap[k]? = some o) : k < w.heap.size := (Array.getElem?_eq_some_iff.1 h).1
theorem NaI.keep (h : NaI w v N0 r k ao cap) (q : Kp v v') : NaI w v' N0 r k ao cap :=
  ⟨Kp.trans h.kp q, h.nz, Nat.le_trans h.sz q.size, h.c0.kp q, h.c1.kp q, h.c2.kp q, h.ow.keep q, (q.block _ (heap_lt h.lr)).trans h.lr, (q.block _ (heap_lt h.dr)).trans h.dr⟩
theorem NaI.put (h : NaI w v N0 r k ao cap) (r' : Loop) : NaI w (v.putObj (w.heap.size + 4) (.loop r')) N0 r' k ao cap := by
  have q := Fr.put v (w.heap.size + 4) (.loop r')
  refine ⟨⟨h.kp.os, h.kp.tape, h.kp.output, by simpa using h.kp.size, fun j hj => (World.putObj_heap_other (by omega)).trans (h.kp.block j hj)⟩, h.nz, by simpa using h.sz, h.c0.fr q (by simp), h.c1.fr q (by simp), h.c2.fr q (by simp), q.own h.ow (fun j hj => ?_), World.putObj_heap_same (heap_lt h.lr), (World.putObj_heap_other (by omega)).trans h.dr⟩
  have := (h.ow.lt j (mem_blkL.1 hj)).1
  have := h.nz
  simp; omega
/-- A name appended, and the number counted on. -/
theorem NaI.next (h : NaI w v N0 r k ao cap) (hk : k < namesS.length) {v8 : World} {ao2 : Option Addr} {cap2 : Nat}
    (ha : Appd (v.alloc (.cells #[.string (wholeN namesS[k])] 9)) v8 N0 9 1 ao cap 1 (k + 1) (nmV (k + 1)) ao2 cap2) :
    NaI w ((v8.setCell ⟨w.heap.size + 2, 0, none⟩ (.slice ao2 (k + 1) cap2)).setCell ⟨w.heap.size + 1, 0, none⟩ (iv ((k + 1 : Nat) : Int))) N0 r (k + 1) ao2 cap2 ∧
      ∃ Y, Fr Y v ((v8.setCell ⟨w.heap.size + 2, 0, none⟩ (.slice ao2 (k + 1) cap2)).setCell ⟨w.heap.size + 1, 0, none⟩ (iv ((k + 1 : Nat) : Int))) ∧ ∀ j ∈ Y, j ∈ [w.heap.size + 1, w.heap.size + 2] ∨ N0 ≤ j := by
  have hlt := fun j hj => (h.ow.lt j (mem_blkL.1 hj)).1
  have hnz := h.nz
  have h7 := h.keep (Kp.new v (.cells #[.string (wholeN namesS[k])] 9))
  have f8 := ha.fr
  have hn : ∀ j, j ≤ w.heap.size + 4 → j ∉ blkL ao := fun j hj hq => by have := hlt j hq; omega
  have g2 := Fr.set v8 ⟨w.heap.size + 2, 0, none⟩ (.slice ao2 (k + 1) cap2)
  have g1 := Fr.set (v8.setCell ⟨w.heap.size + 2, 0, none⟩ (.slice ao2 (k + 1) cap2)) ⟨w.heap.size + 1, 0, none⟩ (iv ((k + 1 : Nat) : Int))
  have b2 : ∀ j, j ≠ w.heap.size + 2 → j ∉ [(⟨w.heap.size + 2, 0, none⟩ : Addr).block] := fun j hj => by simpa using hj
  have b1 : ∀ j, j ≠ w.heap.size + 1 → j ∉ [(⟨w.heap.size + 1, 0, none⟩ : Addr).block] := fun j hj => by simpa using hj
  have o2 : ∀ j ∈ blkL ao2, N0 ≤ j := fun j hj => (ha.own.lt j (mem_blkL.1 hj)).1
  have hall : Fr ([w.heap.size + 1, w.heap.size + 2] ++ blkL ao) v ((v8.setCell ⟨w.heap.size + 2, 0, none⟩ (.slice ao2 (k + 1) cap2)).setCell ⟨w.heap.size + 1, 0, none⟩ (iv ((k + 1 : Nat) : Int))) :=
    (((Fr.new _ v _).trans (f8.mono (fun j hj => by simp [hj]))).trans (g2.mono (fun j hj => by simp at hj; simp [hj]))).trans (g1.mono (fun j hj => by simp at hj; simp [hj]))
  refine ⟨⟨?_, hnz, ?_, ?_, ?_, ?_, ?_, ?_, ?_⟩, _, hall, fun j hj => ?_⟩
  · exact ⟨hall.os.trans h.kp.os, hall.tape.trans h.kp.tape, hall.output.trans h.kp.output, Nat.le_trans h.kp.size hall.size, fun j hj => (hall.block j (Nat.lt_of_lt_of_le hj h.kp.size) (by
      simp only [List.mem_append, List.mem_cons, List.not_mem_nil, or_false, not_or]
      exact ⟨⟨by omega, by omega⟩, hn j (by omega)⟩)).trans (h.kp.block j hj)⟩
  · exact Nat.le_trans h.sz hall.size
  · exact ((h7.c0.fr f8 (hn _ (by omega))).fr g2 (b2 _ (by omega))).fr g1 (b1 _ (by omega))
  · exact ((h7.c1.fr f8 (hn _ (by omega))).fr g2 (b2 _ (by omega))).set _
  · exact ((h7.c2.fr f8 (hn _ (by omega))).set _).fr g1 (b1 _ (by omega))
  · exact g1.own (g2.own ha.own (fun j hj => b2 _ (by have := o2 j hj; omega))) (fun j hj => b1 _ (by have := o2 j hj; omega))
  · exact (hall.block _ (heap_lt h.lr) (by simp only [List.mem_append, List.mem_cons, List.not_mem_nil, or_false, not_or]; exact ⟨⟨by omega, by omega⟩, hn _ (by omega)⟩)).trans h.lr
  · exact (hall.block _ (heap_lt h.dr) (by simp only [List.mem_append, List.mem_cons, List.not_mem_nil, or_false, not_or]; exact ⟨⟨by omega, by omega⟩, hn _ (by omega)⟩)).trans h.dr
  · rcases List.mem_append.1 hj with q | q
    · exact .inl q
    · exact .inr (hlt j q)
theorem NaI.mid (h : NaI w v N0 r k ao cap) {o : Obj} {zs : List Value} {v8 : World} {ao2 : Option Addr} {cap2 : Nat} (ha : Appd (v.alloc o) v8 N0 9 1 ao cap 1 (k + 1) zs ao2 cap2) :
    One1 v8 (w.heap.size + 1 + 1) (.slice ao k cap) ∧ One1 (v8.setCell ⟨w.heap.size + 1 + 1, 0, none⟩ (.slice ao2 (k + 1) cap2)) (w.heap.size + 1) (iv (k : Nat)) := by
  have hlt := fun j hj => (h.ow.lt j (mem_blkL.1 hj)).1
  have hnz := h.nz
  have hn : ∀ j, j ≤ w.heap.size + 4 → j ∉ blkL ao := fun j hj hq => by have := hlt j hq; omega
  have h7 := h.keep (Kp.new v o)
  exact ⟨h7.c2.fr ha.fr (hn _ (by omega)), (h7.c1.fr ha.fr (hn _ (by omega))).fr (Fr.set v8 ⟨w.heap.size + 1 + 1, 0, none⟩ _) (by simp)⟩
/-- An append in a round. -/
theorem wpListIn_app {F : Fence} {nF : Nat} {P : Program} {w : World} {ops : Array Oper} {rest : List Oper} {o : Oper} {a : Act} {Q : Exit → Act → World → Prop} (hgd : o.guard = none) (s x : Operand) (t : TypeId)
    (ho : o.op = .call { callee := .builtin .append, args := #[s, x], argTypes := #[t, t] })
    {e : TypeId} {z : Value} {size bytes : Nat} (E : El P t e z size bytes) (base : Nat)
    {ao : Option Addr} {n cap : Nat} {xs : List Value} (hs : a.eval s = .slice ao n cap) (hown : Own w base e size ao n cap xs)
    {bo : Option Addr} {m c : Nat} (hx : a.eval x = .slice bo m c) (news : List Value) (hl : news.length = m * size) (hnews : Cs w bo news) (h1 : ∀ u ∈ news, u.oneCell' = true)
    (N : Nat) (hN : N = n + m) (zs : List Value) (hzs : zs = xs ++ news) (hbytes : N * bytes ≤ 140737488355328) (hbase : base ≤ w.heap.size)
    (h : ∀ ao' cap' w', Appd w w' base e size ao cap m N zs ao' cap' → wpListIn F nF P ops Q rest (a.put o.dst (.slice ao' N cap')) w') : wpListIn F nF P ops Q (o :: rest) a w := by
  refine wpListIn_plain hgd fun K hK' => ?_
  obtain ⟨ao', cap', w', hrun, hA⟩ := run_app (P := P) w base t o.type e z size bytes E ao n cap xs hown bo m c news hl hnews h1 N hN zs hzs hbytes hbase
  unfold Oper.wpIn
  refine ⟨?_, ?_⟩
  · simp [Oper.about, ho, resolve, Target.leads, Sem.run_pure]
  · rw [Oper.semAt_plain F _ _ (by rw [ho]; intro c hc'; cases hc')]
    simp [execOp, ho, resolve, invoke, builtin, hs, hx, hrun, Result.andThen]
    exact hK' _ _ (h ao' cap' w' hA)
/-- A range over the table's iterator that no round leaves. -/
theorem range_wide {n : Nat} {g : Operand} {ps : Array Tmp} {asg bdy : Code} {Q : Exit → Act → World → Prop} {a : Act} {w : World} (hn : 1 ≤ n) (hg : a.eval g = .func (.func 40) #[] #[])
    (h : ∀ (fn : FuncId) (R : LoopState → Loop), (R = fun st => { state := st, pending := none, fn := fn, tmps := a.tmps, params := ps, assign := asg, body := bdy, defers := w.heap.size }) →
      Calls Tryz.prog 40 #[.func (.yield (w.heap.size + 1)) #[] #[]] ((w.alloc (.deferred (some []))).alloc (.loop (R .ready))) fun e w3 => (∃ v, e = .returned v) ∧ w3.heap[w.heap.size + 1]? = some (.loop (R .ready)) ∧
        Q .normal { a with defers := { target := .collected w.heap.size, args := #[] } :: a.defers } (w3.putObj (w.heap.size + 1) (.loop (R .exhausted)))) :
    (Code.rangeFunc g ps asg bdy).wpIn Fence.wide n Tryz.prog Q a w := by
  refine wpIn_rangeFunc ?_
  intro fn hfn
  obtain ⟨R, hR⟩ : ∃ R : LoopState → Loop, R = fun st => { state := st, pending := none, fn := fn, tmps := a.tmps, params := ps, assign := asg, body := bdy, defers := w.heap.size } := ⟨_, rfl⟩
  have h2 := h fn R hR
  refine ⟨w.heap.size + 1, [{ target := .collected w.heap.size, args := #[] }], (w.alloc (.deferred (some []))).alloc (.loop (R .ready)), { target := .fn (.func 40) #[], args := #[.func (.yield (w.heap.size + 1)) #[] #[]] },
    (w.alloc (.deferred (some []))).alloc (.loop (R .ready)), 40, #[.func (.yield (w.heap.size + 1)) #[] #[]], (w.alloc (.deferred (some []))).alloc (.loop (R .ready)), ?_, ?_, fun _ _ => trivial, ?_, fun _ => hn, ?_⟩
  · rw [hR]; exact run_enterLoop_outer _ _ _ _ _
  · simp only [resolve, hg]
    simp [go_sem]
  · simp [invoke, go_sem]
  · refine (callsIn_wide.2 h2).mono ?_
    rintro e w3 ⟨⟨v, rfl⟩, h3, h4⟩
    refine ⟨none, _, ?_, h4⟩
    have := run_endLoop (P := Tryz.prog) h3 (by rw [hR]; simp)
    rw [hR] at this ⊢
    exact this
end Go.Proofs.YtbdphdgomcabmaaGreatDoor
