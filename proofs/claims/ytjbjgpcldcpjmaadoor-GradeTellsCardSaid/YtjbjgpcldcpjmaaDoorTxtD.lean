/- What a reader's closure does when a text is given up, and when it is not. Conditions: its two variables lie there. -/
import Derived.Test.YtjbjgpcldcpjmaaDoorTxtC
import Derived.Tactics2
import Derived.Defers
import Derived.Recover
import Derived.Laws.Pointers
namespace Go.Proofs.YtjbjgpcldcpjmaaDoor
open Go.RowKit

theorem catch_idle (bP bK : Nat) (w : World) : CallsD Tryd.prog 56 #[.pointer (some ⟨bP, 0, none⟩), .pointer (some ⟨bK, 0, none⟩)] .returning w fun e u' w' => e = .returned (.tuple #[]) ∧ u' = .returning ∧ w' = w := by
  refine callsD_of_wpS Tryd.func56 rfl fun c₀ cs hu => ?_
  apply wpS_seq
  apply wpS_region
  simp [wpOpsS, go_sem, recoverD, hu, Tryd.ntmps56, Exit.thenS]
  apply wpS_seq
  apply wpS_region
  simp [wpOpsS, go_sem]
  refine wpS_cond (t := false) (by simp [Act.eval, Array.replicate]) ?_
  simp only [Bool.false_eq_true, if_false]
  refine wpS_of_wp (wp_skip ?_)
  cases c₀
  simp_all [bodyPostS, results, Tryd.results56]

/-- A pattern's four cells, which may be written. -/
structure Four (w : World) (b : Nat) (x y z u : Value) : Prop where
  c0 : w.cell? ⟨b, 0, none⟩ = some x
  c1 : w.cell? ⟨b, 1, none⟩ = some y
  c2 : w.cell? ⟨b, 2, none⟩ = some z
  c3 : w.cell? ⟨b, 3, none⟩ = some u
  f0 : w.frozen? ⟨b, 0, none⟩ = false
  f1 : w.frozen? ⟨b, 1, none⟩ = false
  f2 : w.frozen? ⟨b, 2, none⟩ = false
  f3 : w.frozen? ⟨b, 3, none⟩ = false
theorem Four.new (w : World) (x y z u : Value) (t : TypeId) : Four (w.alloc (.cells #[x, y, z, u] t)) w.heap.size x y z u := by
  refine ⟨?_, ?_, ?_, ?_, ?_, ?_, ?_, ?_⟩
  · rw [World.cell?_alloc_at _ _ _ _ rfl]; rfl
  · rw [World.cell?_alloc_at _ _ _ _ rfl]; rfl
  · rw [World.cell?_alloc_at _ _ _ _ rfl]; rfl
  · rw [World.cell?_alloc_at _ _ _ _ rfl]; rfl
  all_goals exact World.frozen?_alloc_at _ _ _ _ rfl
theorem Four.fr {X : List Nat} {w w' : World} {b : Nat} {x y z u : Value} (h : Four w b x y z u) (k : Fr X w w') (hb : b ∉ X) : Four w' b x y z u :=
  ⟨k.cell h.c0 hb, k.cell h.c1 hb, k.cell h.c2 hb, k.cell h.c3 hb, k.free h.c0 h.f0 hb, k.free h.c1 h.f1 hb, k.free h.c2 h.f2 hb, k.free h.c3 h.f3 hb⟩
theorem Four.kp {w w' : World} {b : Nat} {x y z u : Value} (h : Four w b x y z u) (k : Kp w w') : Four w' b x y z u := h.fr (Fr.of_kp k) (by simp)
/-- One cell, which may be written. -/
structure One1 (w : World) (b : Nat) (x : Value) : Prop where
  c : w.cell? ⟨b, 0, none⟩ = some x
  f : w.frozen? ⟨b, 0, none⟩ = false
theorem One1.new (w : World) (x : Value) (t : TypeId) : One1 (w.alloc (.cells #[x] t)) w.heap.size x := by
  refine ⟨?_, ?_⟩
  · rw [World.cell?_alloc_at _ _ _ _ rfl]; rfl
  · exact World.frozen?_alloc_at _ _ _ _ rfl
theorem One1.fr {X : List Nat} {w w' : World} {b : Nat} {x : Value} (h : One1 w b x) (k : Fr X w w') (hb : b ∉ X) : One1 w' b x := ⟨k.cell h.c hb, k.free h.c h.f hb⟩
theorem One1.kp {w w' : World} {b : Nat} {x : Value} (h : One1 w b x) (k : Kp w w') : One1 w' b x := h.fr (Fr.of_kp k) (by simp)
theorem Four.set {w : World} {b : Nat} {x y z u : Value} (h : Four w b x y z u) (x' y' z' u' : Value) : ∃ w', w' = (((w.setCell ⟨b, 0, none⟩ x').setCell ⟨b, 1, none⟩ y').setCell ⟨b, 2, none⟩ z').setCell ⟨b, 3, none⟩ u' ∧ Fr [b] w w' ∧ Four w' b x' y' z' u' := by
  refine ⟨_, rfl, (((Fr.set w ⟨b, 0, none⟩ x').trans (Fr.set _ ⟨b, 1, none⟩ y')).trans (Fr.set _ ⟨b, 2, none⟩ z')).trans (Fr.set _ ⟨b, 3, none⟩ u'), ⟨?_, ?_, ?_, ?_, ?_, ?_, ?_, ?_⟩⟩
  · rw [World.cell?_setCell_other _ _ _ _ (by simp), World.cell?_setCell_other _ _ _ _ (by simp), World.cell?_setCell_other _ _ _ _ (by simp)]
    exact World.cell?_setCell_same _ _ _ h.c0
  · rw [World.cell?_setCell_other _ _ _ _ (by simp), World.cell?_setCell_other _ _ _ _ (by simp)]
    exact World.cell?_setCell_same _ _ _ (by rw [World.cell?_setCell_other _ _ _ _ (by simp)]; exact h.c1)
  · rw [World.cell?_setCell_other _ _ _ _ (by simp)]
    exact World.cell?_setCell_same _ _ _ (by rw [World.cell?_setCell_other _ _ _ _ (by simp), World.cell?_setCell_other _ _ _ _ (by simp)]; exact h.c2)
  · exact World.cell?_setCell_same _ _ _ (by rw [World.cell?_setCell_other _ _ _ _ (by simp), World.cell?_setCell_other _ _ _ _ (by simp), World.cell?_setCell_other _ _ _ _ (by simp)]; exact h.c3)
  · simp only [World.frozen?_setCell]; exact h.f0
  · simp only [World.frozen?_setCell]; exact h.f1
  · simp only [World.frozen?_setCell]; exact h.f2
  · simp only [World.frozen?_setCell]; exact h.f3
theorem One1.set {w : World} {b : Nat} {x : Value} (h : One1 w b x) (y : Value) : One1 (w.setCell ⟨b, 0, none⟩ y) b y := ⟨World.cell?_setCell_same _ _ _ h.c, by rw [World.frozen?_setCell]; exact h.f⟩
set_option maxRecDepth 100000 in
set_option maxHeartbeats 2000000 in
theorem catch_bad (bP bK : Nat) (hne : bP ≠ bK) (w : World) (x y z u v : Value) (hP : Four w bP x y z u) (hK : One1 w bK v) :
    CallsD Tryd.prog 56 #[.pointer (some ⟨bP, 0, none⟩), .pointer (some ⟨bK, 0, none⟩)] (.panicking badC) w fun e u' w' =>
      e = .returned (.tuple #[]) ∧ u' = .panicking [{ v := .iface 107 (.agg #[]), recovered := true }] ∧ Fr [bP, bK] w w' ∧ Four w' bP (.string ⟨#[]⟩) (.slice none 0 0) (.slice none 0 0) (.slice none 0 0) ∧ One1 w' bK (.bool false) := by
  unfold badC
  refine callsD_of_wpS Tryd.func56 rfl fun c₀ cs hu => ?_
  apply wpS_seq
  apply wpS_region
  simp [wpOpsS, go_sem, recoverD, hu, Tryd.ntmps56, Exit.thenS]
  apply wpS_seq
  apply wpS_region
  simp [wpOpsS, go_sem]
  refine wpS_cond (t := true) (by simp [Act.eval, Array.replicate]) ?_
  simp only [if_true]
  obtain ⟨c0, c1, c2, c3, f0, f1, f2, f3⟩ := hP
  obtain ⟨k0, k1⟩ := hK
  have hk1 := Kp.new w (.cells #[] 107)
  have hP1 := Four.kp ⟨c0, c1, c2, c3, f0, f1, f2, f3⟩ hk1
  have hK1 := One1.kp ⟨k0, k1⟩ hk1
  clear c0 c1 c2 c3 f0 f1 f2 f3 k0 k1
  have hta : ∀ w, (Instr.typeAssert (.iface 107 (.agg #[])) 20 107 true).run Tryd.prog w = .ok (.tuple #[.agg #[], .bool true]) w := fun _ => by kernel_rfl
  refine wpS_of_wp ?_
  show Code.wp Tryd.prog _ _ { tmps := #[.pointer (some ⟨bP, 0, none⟩), .pointer (some ⟨bK, 0, none⟩), .iface 107 (.agg #[]), undef, undef, .iface 107 (.agg #[]), .iface 107 (.agg #[]), .bool true, undef, undef, undef, undef, undef, undef, undef, undef, undef], defers := [] } w
  go_upto_region 5 with fail
  generalize w.alloc (.cells #[] 107) = w1 at *
  obtain ⟨wf, hwf, hF, hP2⟩ := hP1.set (.string ⟨#[]⟩) (.slice none 0 0) (.slice none 0 0) (.slice none 0 0)
  have hK2 := hK1.fr hF (by simpa using fun h => hne h.symm)
  have hset := Fr.set wf ⟨bK, 0, none⟩ (.bool false)
  have hP3 := hP2.fr hset (by simpa using hne)
  have hK3 := hK2.set (.bool false)
  have hFF : Fr [bP, bK] w (wf.setCell ⟨bK, 0, none⟩ (.bool false)) := (((Fr.of_kp hk1).mono (by simp)).trans (hF.mono (by simp))).trans (hset.mono (by simp))
  rw [hwf] at hP3 hK3 hFF
  have Hfin := Lib.hid (And.intro hFF (And.intro hP3 hK3))
  obtain ⟨c0, c1, c2, c3, f0, f1, f2, f3⟩ := hP1
  obtain ⟨k0, k1⟩ := hK1
  clear hF hP2 hK2 hset hP3 hK3 hFF hk1 hwf
  go_wp2_with fail
  simp [bodyPostS, results, Tryd.results56]
  exact Hfin.out
end Go.Proofs.YtjbjgpcldcpjmaaDoor
