/- Lists of numbers; what 'known' and 'wants' answer. Condition: the list is one (Is). -/
import Derived.Test.YtpemfmjplejdiaaDoorEq
import Derived.WalkLawsBesides
namespace Go.Proofs.YtpemfmjplejdiaaDoor
open Go.RowKit

abbrev iv (z : Int) : Value := .int .i64 z
/-- A slice value's parts read a list of numbers. -/
def Is (w : World) (ao : Option Addr) (n : Nat) (xs : List Int) : Prop := xs.length = n ∧ n ≤ maxLen ∧ Cs w ao (xs.map iv)
theorem Is.zero (w : World) (ao : Option Addr) : Is w ao 0 [] := ⟨rfl, Nat.zero_le _, fun j u hu => by simp at hu⟩
theorem Is.at {w : World} {ao : Option Addr} {n : Nat} {xs : List Int} (h : Is w ao n xs) (k : Nat) (hk : k < n) :
    ∃ b off, ao = some ⟨b, off, none⟩ ∧ b < w.heap.size ∧ ∀ j, (hj : j < n) → w.cell? ⟨b, off + j, none⟩ = some (.int .i64 (xs[j]'(by rw [h.1]; exact hj))) := by
  obtain ⟨h1, _, h2⟩ := h
  obtain ⟨b, off, rfl, hc⟩ := h2.at k (by simp; omega)
  have hlt := World.block_lt_of_cell? w _ (hc k _ (List.getElem?_eq_getElem (by simp; omega)))
  exact ⟨b, off, rfl, hlt, fun j hj => hc j _ (by simp [show j < xs.length by omega])⟩
theorem Kp.is {w w' : World} (h : Kp w w') {ao : Option Addr} {n : Nat} {xs : List Int} (hx : Is w ao n xs) : Is w' ao n xs := ⟨hx.1, hx.2.1, h.cs hx.2.2⟩

/-- What may be known ahead of a side. -/
def okB : List Int → Bool
  | [] => true
  | [x] => x == 1 || x == 2
  | [x, y] => x == 1 && y == 2
  | _ => false

theorem el22 : El Tryd.prog 22 3 (.int .i64 0) 1 8 := ⟨Tryd.underlying22, by kernel_rfl, rfl, by decide, by decide⟩

theorem known_copy {w : World} {ao : Option Addr} {n : Nat} {xs : List Int} (hx : Is w ao n xs) (o : Obj) (j : 0 < ((xs.take 2).map iv).length) :
    some (⟨w.heap.size, 0, none⟩ : Addr) = some ⟨w.heap.size, 0, none⟩ ∧ ∃ ad, ao = some ad ∧ ∀ k v, ((xs.take 2).map iv)[k]? = some v → (w.alloc o).cell? (ad.add k) = some v := by
  have h1 := (Kp.cs (Kp.new w o) hx.2.2)
  obtain ⟨b, off, rfl, hc⟩ := h1.at 0 (by simp at j ⊢; omega)
  refine ⟨rfl, _, rfl, fun k v hv => ?_⟩
  rw [Addr.add_lit]
  refine hc k v ?_
  rw [List.map_take, List.getElem?_take] at hv
  split at hv
  · exact hv
  · cases hv

theorem cells2 {w : World} {g : Nat} {a b : Value} {t : TypeId} {mk : Nat × Nat} (h : w.heap[g]? = some (.cells #[a, b] t mk)) : w.cell? ⟨g, 0, none⟩ = some a ∧ w.cell? ⟨g, 1, none⟩ = some b := by
  constructor
  · rw [cell_of_row w g 0 #[a, b] t mk h]; rfl
  · rw [cell_of_row w g 1 #[a, b] t mk h]; rfl

set_option maxHeartbeats 1000000 in
set_option maxRecDepth 100000 in
theorem known_any (w : World) (ao : Option Addr) (n c : Nat) (xs : List Int) (hx : Is w ao n xs) :
    Calls Tryd.prog 48 #[.slice ao n c] w fun e w' => e = .returned (.bool (okB xs)) ∧ Kp w w' := by
  have hinfo : (Tryd.prog.info? 3).map (·.size) = some 1 := by kernel_rfl
  have hl := hx.1
  match xs, hx with
  | [], hx =>
    obtain rfl : n = 0 := hx.1.symm
    have hcp := known_copy hx (.cells #[iv 0, iv 0] 104)
    go_enter Tryd.func48, Tryd.ntmps48
    go_wp2_with (show wpList _ _ _ (Oper.mk (some 6) _ _ _ _ _ :: _) _ _; refine wpList_copy_splice (o := ⟨some 6, _, _, _, _, _⟩) (w := w.alloc (.cells #[iv 0, iv 0] 104)) rfl (.tmp 4) (.tmp 5) 22 22 rfl 3 Tryd.underlying22 hinfo (some ⟨w.heap.size, 0, none⟩) ao 2 2 0 c rfl rfl w.heap.size 0 [iv 0, iv 0] 104 (heap_alloc_new w _) [] rfl (fun h => by cases h) (by simp) (by simp) w.heap.size w (Kp.new w _) (Nat.le_refl _) ?_; intro w1 hh hk1)
    go_ret
    exact ⟨rfl, hk1⟩
  | [x], hx =>
    obtain rfl : n = 1 := hx.1.symm
    have hcp := Lib.hid (known_copy hx (.cells #[iv 0, iv 0] 104))
    have hq := eq104
    clear hx hl
    show Calls Tryd.prog 48 #[.slice ao 1 c] w fun e w' => e = .returned (.bool (x == 1 || x == 2)) ∧ Kp w w'
    by_cases h1 : (x == 1) = true
    · go_enter Tryd.func48, Tryd.ntmps48
      go_wp2_with (show wpList _ _ _ (Oper.mk (some 6) _ _ _ _ _ :: _) _ _; refine wpList_copy_splice (o := ⟨some 6, _, _, _, _, _⟩) (w := w.alloc (.cells #[iv 0, iv 0] 104)) rfl (.tmp 4) (.tmp 5) 22 22 rfl 3 Tryd.underlying22 hinfo (some ⟨w.heap.size, 0, none⟩) ao 2 2 1 c rfl rfl w.heap.size 0 [iv 0, iv 0] 104 (heap_alloc_new w _) [iv x] rfl hcp.out (by simp) (by simp [Value.oneCell']) w.heap.size w (Kp.new w _) (Nat.le_refl _) ?_; intro w1 hh hk1; obtain ⟨hc0, hc1⟩ := cells2 hh.out)
      go_ret
      exact ⟨rfl, hk1⟩
    · have h1 : (x == 1) = false := by simpa using h1
      go_enter Tryd.func48, Tryd.ntmps48
      go_wp2_with (show wpList _ _ _ (Oper.mk (some 6) _ _ _ _ _ :: _) _ _; refine wpList_copy_splice (o := ⟨some 6, _, _, _, _, _⟩) (w := w.alloc (.cells #[iv 0, iv 0] 104)) rfl (.tmp 4) (.tmp 5) 22 22 rfl 3 Tryd.underlying22 hinfo (some ⟨w.heap.size, 0, none⟩) ao 2 2 1 c rfl rfl w.heap.size 0 [iv 0, iv 0] 104 (heap_alloc_new w _) [iv x] rfl hcp.out (by simp) (by simp [Value.oneCell']) w.heap.size w (Kp.new w _) (Nat.le_refl _) ?_; intro w1 hh hk1; obtain ⟨hc0, hc1⟩ := cells2 hh.out)
      go_ret
      exact ⟨rfl, hk1⟩
  | [x, y], hx =>
    obtain rfl : n = 2 := hx.1.symm
    have hcp := Lib.hid (known_copy hx (.cells #[iv 0, iv 0] 104))
    have hq := eq104
    clear hx hl
    show Calls Tryd.prog 48 #[.slice ao 2 c] w fun e w' => e = .returned (.bool (x == 1 && y == 2)) ∧ Kp w w'
    go_enter Tryd.func48, Tryd.ntmps48
    go_wp2_with (show wpList _ _ _ (Oper.mk (some 6) _ _ _ _ _ :: _) _ _; refine wpList_copy_splice (o := ⟨some 6, _, _, _, _, _⟩) (w := w.alloc (.cells #[iv 0, iv 0] 104)) rfl (.tmp 4) (.tmp 5) 22 22 rfl 3 Tryd.underlying22 hinfo (some ⟨w.heap.size, 0, none⟩) ao 2 2 2 c rfl rfl w.heap.size 0 [iv 0, iv 0] 104 (heap_alloc_new w _) [iv x, iv y] rfl hcp.out (by simp) (by simp [Value.oneCell']) w.heap.size w (Kp.new w _) (Nat.le_refl _) ?_; intro w1 hh hk1; obtain ⟨hc0, hc1⟩ := cells2 hh.out)
    go_ret
    exact ⟨rfl, hk1⟩
  | x :: y :: z :: r, hx =>
    obtain ⟨m, rfl⟩ : ∃ m, n = m + 3 := ⟨r.length, by rw [← hx.1]; rfl⟩
    have hcp := Lib.hid (known_copy hx (.cells #[iv 0, iv 0] 104))
    have hm := hx.2.1
    unfold maxLen at hm
    clear hx hl
    have hmin : ([iv x, iv y] : List Value).length = Nat.min (m + 3) 2 := by show 2 = min (m + 3) 2; omega
    show Calls Tryd.prog 48 #[.slice ao (m + 3) c] w fun e w' => e = .returned (.bool false) ∧ Kp w w'
    go_enter Tryd.func48, Tryd.ntmps48
    go_wp2_with (show wpList _ _ _ (Oper.mk (some 6) _ _ _ _ _ :: _) _ _; refine wpList_copy_splice (o := ⟨some 6, _, _, _, _, _⟩) (w := w.alloc (.cells #[iv 0, iv 0] 104)) rfl (.tmp 4) (.tmp 5) 22 22 rfl 3 Tryd.underlying22 hinfo (some ⟨w.heap.size, 0, none⟩) ao 2 2 (m + 3) c rfl rfl w.heap.size 0 [iv 0, iv 0] 104 (heap_alloc_new w _) [iv x, iv y] hmin hcp.out (by simp) (by simp [Value.oneCell']) w.heap.size w (Kp.new w _) (Nat.le_refl _) ?_; intro w1 hh hk1; obtain ⟨hc0, hc1⟩ := cells2 hh.out)
    go_ret
    exact ⟨rfl, hk1⟩
end Go.Proofs.YtpemfmjplejdiaaDoor
