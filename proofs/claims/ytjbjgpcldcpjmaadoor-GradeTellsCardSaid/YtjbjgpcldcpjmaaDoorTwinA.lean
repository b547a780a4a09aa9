/- Lists with room behind them. Conditions: the lists lie there (Is). -/
import Derived.Test.YtjbjgpcldcpjmaaDoorGa3
import Derived.Test.YtjbjgpcldcpjmaaDoorGa1
namespace Go.Proofs.YtjbjgpcldcpjmaaDoor
open Go.RowKit

/-- A list, and nine marks behind it. -/
def roomL (l : List Int) : List Int := l ++ (List.range 9).map (fun i => 700 + ((l.length + i : Nat) : Int))
theorem roomL_length (l : List Int) : (roomL l).length = l.length + 9 := by simp [roomL]
theorem roomL_lt (l : List Int) {i : Nat} (h : i < l.length) : (roomL l)[i]? = some l[i] := by
  unfold roomL
  rw [List.getElem?_append_left h, List.getElem?_eq_getElem h]
theorem roomL_ge (l : List Int) {i : Nat} (h : l.length ≤ i) (h9 : i < l.length + 9) : (roomL l)[i]? = some (700 + (i : Int)) := by
  unfold roomL
  rw [List.getElem?_append_right h]
  rw [List.getElem?_map, List.getElem?_range (by omega), Option.map_some]
  congr 2
  omega
def RoomPost (w : World) (n : Nat) (l : List Int) (e : Ending) (w' : World) : Prop := Kp w w' ∧ e = .returned (.slice (some ⟨w.heap.size, 0, none⟩) (n + 9) (n + 9)) ∧ Own w' w.heap.size 3 1 (some ⟨w.heap.size, 0, none⟩) (n + 9) (n + 9) ((roomL l).map iv)
set_option maxRecDepth 100000 in
set_option maxHeartbeats 4000000 in
theorem room_any (w : World) (ao : Option Addr) (n cap : Nat) (l : List Int) (hl : Is w ao n l) (hn : n ≤ 1000) : Calls Tryd.prog 20 #[.slice ao n cap] w (RoomPost w n l) := by
  have Hl := Lib.hid hl.1
  have hz : (n : Int) + 9 = ((n + 9 : Nat) : Int) := by omega
  have hby : 8 * (n + 9) ≤ 281474976710656 := by omega
  go_enter Tryd.func20, Tryd.ntmps20
  obtain ⟨N, hN⟩ : ∃ N, N = n + 9 := ⟨_, rfl⟩
  rw [← hN] at hz hby
  have HN := Lib.hid hN
  clear hN
  go_upto_region 2 with (at_make; go_loud (refine wpList_mk rfl (.tmp 7) (.tmp 7) 22 rfl el22 rfl N rfl rfl rfl rfl hby ?_); intro w1 hown hk1)
  obtain ⟨B, hB⟩ : ∃ B, B = w.heap.size := ⟨_, rfl⟩
  rw [← hB] at hown ⊢
  have HB := Lib.hid hB
  clear hB
  go_wp2_with fail
  obtain ⟨w10, hw10⟩ : ∃ w10 : World, w10 = w1 := ⟨_, rfl⟩
  rw [← hw10] at hk1
  have h0 : ∀ j, j < 0 → (List.replicate N (0 : Int))[j]? = (roomL l)[j]? := fun j hj => absurd hj (by omega)
  have hrp : List.replicate N (Value.int .i64 0) = (List.replicate N (0 : Int)).map iv := by simp
  rw [hrp] at hown
  go_loopw [4] (fun i wr => ∃ (k : Nat) (xs : List Int), k ≤ N ∧ i = .int .i64 (k : Nat) ∧ Own wr B 3 1 (some ⟨B, 0, none⟩) N N (xs.map iv) ∧ (∀ j, j < k → xs[j]? = (roomL l)[j]?) ∧ Fr [B] w10 wr) (fun i _ => N - (intOf i).toNat)
  case atStart => exact ⟨0, List.replicate N 0, by omega, rfl, hown, h0, hw10 ▸ Fr.refl _ _⟩
  case round =>
    clear hown h0 hrp hw10
    obtain ⟨k, xs, hk, rfl, hO, hxs, hF⟩ := hrel
    rename World => wr
    have hxl : xs.length = N := by have := hO.1; simpa using this
    by_cases hkN : k < N
    · have hx : (xs.map iv)[k]? = some (iv (xs[k]'(by omega))) := by simp [show k < xs.length by omega]
      have c00 := hO.cell k (by omega)
      rw [hx] at c00
      obtain ⟨u0, c0⟩ : ∃ u0, wr.cell? ⟨B, k, none⟩ = some (iv u0) := ⟨_, c00⟩
      clear c00
      have f0 := hO.free k
      have hO1 := hO.store k (iv (700 + (k : Int)))
      have hF1 := hF.trans (Fr.set wr ⟨B, k, none⟩ (iv (700 + (k : Int))))
      rw [← List.map_set] at hO1
      clear hx
      by_cases hkn : k < n
      · have hkl : k < l.length := by rw [Hl.out]; exact hkn
        obtain ⟨b, off, rfl, hbl, hcl⟩ := hl.at k hkn
        have hlk := roomL_lt l hkl
        have hck : w10.cell? ⟨b, off + k, none⟩ = some (iv l[k]) := hk1.cell (hcl k hkn)
        have hbB : b ∉ [B] := by have := HB.out; simp; omega
        generalize l[k]'hkl = v at *
        have hc1 := hF.cell hck hbB
        have hO2 := hO1.store k (iv v)
        rw [← List.map_set, List.set_set] at hO2
        have hF2 := hF1.trans (Fr.set _ ⟨B, k, none⟩ (iv v))
        have hd : decide ((k : Int) < (n : Int)) = true := by simp; omega
        have hc2 := (Fr.set wr ⟨B, k, none⟩ (iv (700 + (k : Int)))).cell hc1 (by simpa using hbB)
        have c2 : (wr.setCell ⟨B, k, none⟩ (iv (700 + (k : Int)))).cell? ⟨B, k, none⟩ = some (iv (700 + (k : Int))) := World.cell?_setCell_same _ _ _ c0
        have f2 : (wr.setCell ⟨B, k, none⟩ (iv (700 + (k : Int)))).frozen? ⟨B, k, none⟩ = false := by rw [World.frozen?_setCell]; exact f0
        have hnx : ∀ j, j < k + 1 → (xs.set k v)[j]? = (roomL l)[j]? := fun j hj => by
          by_cases e : j = k
          · subst e; rw [hlk, List.getElem?_set_self (by omega)]
          · rw [List.getElem?_set_ne (by omega)]; exact hxs j (by omega)
        have Hfin := Lib.hid (And.intro hO2 (And.intro hnx hF2))
        clear hO hO1 hO2 hF hF1 hF2 hnx hxs hck hlk hc1 hcl hxl
        go_wp2_with fail
        clear hc2 c2 f2 c0 f0 hd
        go_roundw
        case rel => exact ⟨k + 1, _, by omega, by go_num, Hfin.out⟩
        case measure => simp [intOf]; omega
      · have hd : decide ((k : Int) < (n : Int)) = false := by simp; omega
        have hnx : ∀ j, j < k + 1 → (xs.set k (700 + (k : Int)))[j]? = (roomL l)[j]? := fun j hj => by
          by_cases e : j = k
          · subst e; rw [roomL_ge l (by rw [Hl.out]; omega) (by rw [Hl.out]; have := HN.out; omega), List.getElem?_set_self (by omega)]
          · rw [List.getElem?_set_ne (by omega)]; exact hxs j (by omega)
        have Hfin := Lib.hid (And.intro hO1 (And.intro hnx hF1))
        clear hO hO1 hF hF1 hnx hxs hxl
        go_wp2_with fail
        clear c0 f0 hd
        go_roundw
        case rel => exact ⟨k + 1, _, by omega, by go_num, Hfin.out⟩
        case measure => simp [intOf]; omega
    · obtain rfl : k = N := by omega
      have hxe : xs = roomL l := by
        refine List.ext_getElem? fun j => ?_
        rcases Nat.lt_or_ge j k with h | h
        · exact hxs j h
        · rw [List.getElem?_eq_none (by omega), List.getElem?_eq_none (by rw [roomL_length, Hl.out]; have := HN.out; omega)]
      rw [hxe] at hO
      have hK := Lib.hid (((Fr.of_kp hk1).step hF (fun x hx => .inr (by simp only [List.mem_singleton] at hx; have := HB.out; omega))).kp)
      have HO := Lib.hid hO
      clear hO hF hxs hxe hxl
      go_wp2_with fail
      go_ret
      rw [HN.out] at HO
      rw [HB.out] at HO
      exact ⟨hK.out, by rw [HN.out, HB.out]; rfl, HO.out⟩
end Go.Proofs.YtjbjgpcldcpjmaaDoor
