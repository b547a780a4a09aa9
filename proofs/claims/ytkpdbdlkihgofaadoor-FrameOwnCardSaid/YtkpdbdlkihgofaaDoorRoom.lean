/- The law file functions roomy and stands do what they say. Condition: the arguments read as lists of bytes. -/
import Derived.Test.YtkpdbdlkihgofaaDoorSame
namespace Go.Proofs.YtkpdbdlkihgofaaDoor
open Go.RowKit

theorem el22 : El Tryd.prog 22 5 (.int .u8 0) 1 1 := ⟨Tryd.underlying22, by kernel_rfl, rfl, by decide, by decide⟩

/-- The marks behind a list. -/
def mark (k : Nat) : UInt8 := UInt8.ofNat (161 + k % 7)
def roomyL (xs : List UInt8) : List UInt8 := xs ++ (List.range 70).map (fun j => mark (xs.length + j))

theorem mark_toNat (k : Nat) : (mark k).toNat = 161 + k % 7 := by
  unfold mark
  simp only [UInt8.toNat_ofNat']
  omega
theorem roomyL_length (xs : List UInt8) : (roomyL xs).length = xs.length + 70 := by simp [roomyL]
theorem roomyL_lo (xs : List UInt8) (k : Nat) (h : k < xs.length) : (roomyL xs)[k]? = some xs[k] := by
  simp [roomyL, List.getElem?_append_left h, h]
theorem roomyL_hi (xs : List UInt8) (k : Nat) (h : xs.length ≤ k) (h2 : k < xs.length + 70) : (roomyL xs)[k]? = some (mark k) := by
  rw [roomyL, List.getElem?_append_right h]
  simp [show k - xs.length < 70 by omega, show xs.length + (k - xs.length) = k by omega]

/-- The first k of R, then Z. -/
def halfway {α : Type} (R Z : List α) (k : Nat) : List α := R.take k ++ Z.drop k
theorem halfway_set {α : Type} (R Z : List α) (k : Nat) (hl : R.length = Z.length) (v : α) (h : R[k]? = some v) : (halfway R Z k).set k v = halfway R Z (k + 1) := by
  obtain ⟨hk, rfl⟩ := List.getElem?_eq_some_iff.1 h
  unfold halfway
  rw [List.set_append_right _ _ (by simp; omega)]
  simp only [List.length_take]
  rw [show k - min k R.length = 0 by omega, take_step R k hk, List.append_assoc]
  congr 1
  rw [List.drop_eq_getElem_cons (by omega : k < Z.length)]
  rfl
theorem halfway_end {α : Type} (R Z : List α) (k : Nat) (hl : R.length = Z.length) (hk : R.length ≤ k) : halfway R Z k = R := by
  unfold halfway; rw [List.take_of_length_le hk, List.drop_eq_nil_of_le (by omega)]; simp
theorem halfway_length {α : Type} (R Z : List α) (hl : R.length = Z.length) (k : Nat) : (halfway R Z k).length = R.length := by
  unfold halfway; simp; omega

theorem Own.store {w : World} {base : Nat} {e : TypeId} {size : Nat} {g : Nat} {n cap : Nat} {xs : List Value} (h : Own w base e size (some ⟨g, 0, none⟩) n cap xs) (j : Nat) (u : Value) :
    Own (w.setCell ⟨g, j, none⟩ u) base e size (some ⟨g, 0, none⟩) n cap (xs.set j u) := (World.ownsRow.stored h j u).1
theorem Own.cell {w : World} {base : Nat} {e : TypeId} {size : Nat} {g : Nat} {n cap : Nat} {xs : List Value} (h : Own w base e size (some ⟨g, 0, none⟩) n cap xs) (j : Nat) (hj : j < n * size) : w.cell? ⟨g, j, none⟩ = xs[j]? := World.ownsRow.cellAt h j hj
theorem Own.free {w : World} {base : Nat} {e : TypeId} {size : Nat} {g : Nat} {n cap : Nat} {xs : List Value} (h : Own w base e size (some ⟨g, 0, none⟩) n cap xs) (j : Nat) : w.frozen? ⟨g, j, none⟩ = false := World.ownsRow.frozenAt h j

set_option maxHeartbeats 400000 in
theorem roomy_any (w : World) (ao : Option Addr) (n c : Nat) (xs : List UInt8) (hx : Bs w ao n xs) (hn : n ≤ 1000000) :
    Calls Tryd.prog 9 #[.slice ao n c] w fun e w' => e = .returned (.slice (some ⟨w.heap.size, 0, none⟩) (n + 70) (n + 70)) ∧
      Own w' w.heap.size 5 1 (some ⟨w.heap.size, 0, none⟩) (n + 70) (n + 70) ((roomyL xs).map by8) ∧ Kp w w' := by
  have hxl := hx.1
  have Hxl := Lib.hid hxl; clear hxl
  go_enter Tryd.func9, Tryd.ntmps9
  go_wp2_with (at_make; go_loud (refine wpList_mk rfl _ _ 22 rfl el22 rfl (n + 70) rfl rfl (by omega) (by omega) (by omega) ?_); intro w1 hown hk1)
  have hown : Own w1 w.heap.size 5 1 (some ⟨w.heap.size, 0, none⟩) (n + 70) (n + 70) (halfway ((roomyL xs).map by8) (List.replicate (n + 70) (.int .u8 0)) 0) := by
    simpa [halfway] using hown
  go_loopw [4] (fun i wr => ∃ k : Nat, k ≤ n + 70 ∧ i = .int .i64 k ∧ Own wr w.heap.size 5 1 (some ⟨w.heap.size, 0, none⟩) (n + 70) (n + 70) (halfway ((roomyL xs).map by8) (List.replicate (n + 70) (.int .u8 0)) k) ∧ Kp w wr) (fun i _ => n + 70 - (intOf i).toNat)
  case atStart => exact ⟨0, by omega, rfl, hown, hk1⟩
  case round =>
    obtain ⟨k, hk, rfl, hro, hkr⟩ := hrel
    by_cases hlt : k < n + 70
    · obtain ⟨u, hu⟩ : ∃ u, wr.cell? ⟨w.heap.size, k, none⟩ = some u := by
        rw [hro.cell k (by omega)]
        exact ⟨_, List.getElem?_eq_getElem (by rw [halfway_length _ _ (by simp [roomyL_length, Hxl.out])]; simp [roomyL_length, Hxl.out]; omega)⟩
      have hf := hro.free k
      by_cases hin : k < n
      · obtain ⟨b, off, rfl, hbl, hc⟩ := hx.at k hin
        have hck := hkr.cell (hc k hin)
        have lx : k < xs.length := by rw [Hxl.out]; exact hin
        clear hc
        go_wp2
        go_roundw
        case rel =>
          refine ⟨k + 1, by omega, by go_num, ?_, ?_⟩
          · have h2 := (hro.store k (.int .u8 (161 + (k : Int) % 7))).store k (.int .u8 (xs[k].toNat : Int))
            rw [List.set_set, halfway_set _ _ k (by simp [roomyL_length, Hxl.out]) _ (by simp [roomyL_lo xs k (by rw [Hxl.out]; exact hin)])] at h2
            exact h2
          · exact (hkr.setCell (Nat.le_refl _) _).setCell (Nat.le_refl _) _
        case measure => simp [intOf]; omega
      · go_wp2
        go_roundw
        case rel =>
          refine ⟨k + 1, by omega, by go_num, ?_, ?_⟩
          · have h2 := hro.store k (.int .u8 (161 + (k : Int) % 7))
            rw [halfway_set _ _ k (by simp [roomyL_length, Hxl.out]) _ (by simp [roomyL_hi xs k (by rw [Hxl.out]; omega) (by rw [Hxl.out]; omega), mark_toNat])] at h2
            exact h2
          · exact hkr.setCell (Nat.le_refl _) _
        case measure => simp [intOf]; omega
    · go_wp2
      go_ret
      rw [halfway_end _ _ k (by simp [roomyL_length, Hxl.out]) (by simp [roomyL_length, Hxl.out]; omega)] at hro
      exact ⟨rfl, hro, hkr⟩

theorem bne_self {α : Type} [BEq α] [ReflBEq α] (a : α) : (a != a) = false := by simp [bne]

set_option maxHeartbeats 400000 in
theorem stands_yes (w : World) (ao bo : Option Addr) (n m c d : Nat) (xs : List UInt8) (hx : Bs w ao n (roomyL xs)) (hy : Bs w bo m xs) :
    Calls Tryd.prog 14 #[.slice ao n c, .slice bo m d] w fun e w' => e = .returned (.bool true) ∧ ∃ k, w' = w.drewN k := by
  have hn := hx.2.1
  have hm := hy.2.1
  have hnm : m + 70 = n := by have h1 := hx.1; have h2 := hy.1; rw [roomyL_length] at h1; omega
  have Hnm := Lib.hid hnm
  have hmn : m + 70 ≤ n ∧ n ≤ m + 70 := by omega
  obtain ⟨hmn1, hmn2⟩ := hmn
  clear hnm
  unfold maxLen at hn hm
  go_enter Tryd.func14, Tryd.ntmps14
  go_wp2
  go_loopw [5] (fun i wr => ∃ k q : Nat, k ≤ n ∧ i = .int .i64 k ∧ wr = w.drewN q) (fun i _ => n - (intOf i).toNat)
  case atStart => exact ⟨0, 0, by omega, rfl, rfl⟩
  case round =>
    obtain ⟨k, q, hk, rfl, rfl⟩ := hrel
    by_cases hlt : k < n
    · obtain ⟨b, off, rfl, _, hc⟩ := hx.at k hlt
      have hck := hc k hlt
      have lx : k < (roomyL xs).length := by rw [hx.1]; exact hlt
      clear hc
      by_cases hin : k < m
      · obtain ⟨b', off', rfl, _, hc'⟩ := hy.at k hin
        have hck' := hc' k hin
        have ly : k < xs.length := by rw [hy.1]; exact hin
        clear hc'
        have hval : (roomyL xs)[k] = xs[k] := by
          have := roomyL_lo xs k ly
          rw [List.getElem?_eq_getElem lx] at this
          exact Option.some.inj this
        rw [hval] at hck
        clear hval
        have hd1 : decide (k < m) = true := by simp; omega
        have hd2 : decide (m ≤ k) = false := by simp; omega
        have hne : ((xs[k].toNat : Int) != (xs[k].toNat : Int)) = false := by simp
        go_wp2
        go_quiet (fail)
        go_wp2
        go_roundw
        case rel => exact ⟨k + 1, _, by omega, by go_num, by first | rfl | exact World.drewN_drewN _ _ _⟩
        case measure => simp [intOf]; omega
      · have hval : ((roomyL xs)[k].toNat : Int) = 161 + (k : Int) % 7 := by
          have := roomyL_hi xs k (by rw [hy.1]; omega) (by rw [hy.1]; omega)
          rw [List.getElem?_eq_getElem lx] at this
          rw [Option.some.inj this, mark_toNat]; omega
        rw [hval] at hck
        clear hval
        have hd1 : decide (k < m) = false := by simp; omega
        have hd2 : decide (m ≤ k) = true := by simp; omega
        have hne : ((161 + (k : Int) % 7) != (161 + (k : Int) % 7)) = false := by simp
        go_wp2
        go_quiet (fail)
        go_wp2
        go_roundw
        case rel => exact ⟨k + 1, _, by omega, by go_num, by first | rfl | exact World.drewN_drewN _ _ _⟩
        case measure => simp [intOf]; omega
    · go_wp2
      go_ret
      exact ⟨rfl, _, rfl⟩
#print axioms stands_yes
end Go.Proofs.YtkpdbdlkihgofaaDoor
