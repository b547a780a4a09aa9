/- Messages one behind the other: the plain law of a stream that is read in pieces; lists of lists, and of numbers, as the arguments hold them; whether one is too long. Conditions: Lss, Zs. -/
import Derived.Test.YtkpdbdlkihgofaaDoorScript
namespace Go.Proofs.YtkpdbdlkihgofaaDoor
open Go.ChangeShapes Go.WideShapes Go.ChangeAt Go.RowKit Go.Deep

/-- The first k messages, each behind its length. -/
def lineK (ms : List (List UInt8)) (k : Nat) : List UInt8 := (ms.take k).foldl putL []
def offK (ms : List (List UInt8)) (k : Nat) : Nat := (lineK ms k).length
def totL (ms : List (List UInt8)) (k : Nat) : Nat := ((ms.take k).map List.length).sum

theorem lineK_zero (ms : List (List UInt8)) : lineK ms 0 = [] := by simp [lineK]
theorem lineK_succ (ms : List (List UInt8)) (k : Nat) (h : k < ms.length) : lineK ms (k + 1) = putL (lineK ms k) ms[k] := by
  unfold lineK
  rw [take_step ms k h, List.foldl_append]
  rfl
theorem offK_zero (ms : List (List UInt8)) : offK ms 0 = 0 := by simp [offK, lineK_zero]
theorem offK_succ (ms : List (List UInt8)) (k : Nat) (h : k < ms.length) : offK ms (k + 1) = offK ms k + 2 + ms[k].length := by
  unfold offK
  rw [lineK_succ ms k h, putL_length]
theorem totL_zero (ms : List (List UInt8)) : totL ms 0 = 0 := by simp [totL]
theorem totL_succ (ms : List (List UInt8)) (k : Nat) (h : k < ms.length) : totL ms (k + 1) = totL ms k + ms[k].length := by
  unfold totL
  rw [take_step ms k h]
  simp only [List.map_append, List.sum_append, List.map_cons, List.map_nil, List.sum_cons, List.sum_nil, Nat.add_zero]
theorem totL_mono (ms : List (List UInt8)) {k : Nat} (d : Nat) (h : k + d ≤ ms.length) : totL ms k ≤ totL ms (k + d) := by
  induction d with
  | zero => exact Nat.le_refl _
  | succ d ih => have := totL_succ ms (k + d) (by omega); have := ih (by omega); rw [← Nat.add_assoc]; omega
theorem offK_tot (ms : List (List UInt8)) (k : Nat) (h : k ≤ ms.length) : offK ms k = totL ms k + 2 * k := by
  induction k with
  | zero => rw [offK_zero, totL_zero]
  | succ k ih => rw [offK_succ ms k (by omega), totL_succ ms k (by omega), ih (by omega)]; omega
theorem offK_mono (ms : List (List UInt8)) {k j : Nat} (hk : k ≤ j) (h : j ≤ ms.length) : offK ms k ≤ offK ms j := by
  obtain ⟨d, rfl⟩ : ∃ d, j = k + d := ⟨j - k, by omega⟩
  have := totL_mono ms d h
  rw [offK_tot ms _ h, offK_tot ms k (by omega)]; omega

/-- What lies behind the first k messages. -/
theorem lineK_drop (ms : List (List UInt8)) : ∀ (d t : Nat), t + d = ms.length → t < ms.length → ∃ rest, (lineK ms ms.length).drop (offK ms t) = UInt8.ofNat ((ms.getD t []).length / 256) :: UInt8.ofNat ((ms.getD t []).length % 256) :: (ms.getD t [] ++ rest) ∧ (lineK ms ms.length).drop (offK ms (t + 1)) = rest := by
  have pre : ∀ (d k : Nat), k + d ≤ ms.length → ∃ r, lineK ms (k + d) = lineK ms k ++ r := by
    intro d
    induction d with
    | zero => intro k _; exact ⟨[], by simp⟩
    | succ d ih =>
      intro k hk
      obtain ⟨r, hr⟩ := ih k (by omega)
      exact ⟨r ++ ([UInt8.ofNat (ms[k + d].length / 256), UInt8.ofNat (ms[k + d].length % 256)] ++ ms[k + d]), by rw [← Nat.add_assoc, lineK_succ ms (k + d) (by omega), hr]; simp [putL]⟩
  intro d t htd ht
  obtain ⟨r, hr⟩ := pre (ms.length - (t + 1)) (t + 1) (by omega)
  rw [Nat.add_sub_cancel' (show t + 1 ≤ ms.length by omega)] at hr
  have hg : ms.getD t [] = ms[t] := by simp [List.getD, ht]
  refine ⟨r, ?_, ?_⟩
  · rw [hr, lineK_succ ms t ht, putL, hg]
    unfold offK
    simp
  · rw [hr]
    unfold offK
    simp

theorem nextL_cut (a b : UInt8) (m rest : List UInt8) (q : Nat) (h : headN a b = m.length) :
    nextL ((a :: b :: (m ++ rest)).take q) = if 2 + m.length ≤ q then some (m, rest.take (q - (2 + m.length))) else none := by
  match q with
  | 0 => simp [nextL]
  | 1 => simp only [List.take_succ_cons, List.take_zero, nextL]; rw [if_neg (by omega)]
  | q + 2 =>
    simp only [List.take_succ_cons, nextL, h]
    by_cases hq : 2 + m.length ≤ q + 2
    · rw [if_pos (by simp only [List.length_take, List.length_append]; omega), if_pos hq]
      congr 2
      · rw [List.take_take, Nat.min_eq_left (by omega), List.take_append_of_le_length (Nat.le_refl _), List.take_of_length_le (Nat.le_refl _)]
      · rw [List.drop_take, List.drop_append_of_le_length (Nat.le_refl _), List.drop_of_length_le (Nat.le_refl _), List.nil_append]
        congr 1
        omega
    · rw [if_neg (by simp only [List.length_take, List.length_append]; omega), if_neg hq]

theorem head_of (m : List UInt8) (h : m.length ≤ 65535) : headN (UInt8.ofNat (m.length / 256)) (UInt8.ofNat (m.length % 256)) = m.length := by
  unfold headN
  simp only [UInt8.toNat_ofNat']
  omega

/-- What is held, when t messages are told and p bytes are fed. -/
def heldAt (ms : List (List UInt8)) (t p : Nat) : List UInt8 := ((lineK ms ms.length).drop (offK ms t)).take (p - offK ms t)

theorem next_some (ms : List (List UInt8)) (t p : Nat) (ht : t < ms.length) (hm : (ms.getD t []).length ≤ 65535) (hp : offK ms (t + 1) ≤ p) : nextL (heldAt ms t p) = some (ms.getD t [], heldAt ms (t + 1) p) := by
  obtain ⟨rest, h1, h2⟩ := lineK_drop ms (ms.length - t) t (by omega) ht
  have h3 := offK_succ ms t ht
  have hg : ms.getD t [] = ms[t] := by simp [List.getD, ht]
  unfold heldAt
  rw [h1, nextL_cut _ _ _ _ _ (head_of _ hm), if_pos (by rw [hg]; omega), h2]
  congr 3
  rw [hg]; omega
theorem next_none (ms : List (List UInt8)) (t p : Nat) (ht : t < ms.length) (hm : (ms.getD t []).length ≤ 65535) (hp : p < offK ms (t + 1)) : nextL (heldAt ms t p) = none := by
  obtain ⟨rest, h1, h2⟩ := lineK_drop ms (ms.length - t) t (by omega) ht
  have h3 := offK_succ ms t ht
  have hg : ms.getD t [] = ms[t] := by simp [List.getD, ht]
  unfold heldAt
  rw [h1, nextL_cut _ _ _ _ _ (head_of _ hm), if_neg (by rw [hg]; omega)]
theorem next_end (ms : List (List UInt8)) (p : Nat) : nextL (heldAt ms ms.length p) = none := by
  have : (lineK ms ms.length).drop (offK ms ms.length) = [] := List.drop_of_length_le (Nat.le_refl _)
  unfold heldAt
  rw [this]
  simp [nextL]
theorem heldAt_length (ms : List (List UInt8)) (t p : Nat) (hp : p ≤ offK ms ms.length) : (heldAt ms t p).length = p - offK ms t := by
  unfold heldAt offK at *
  rw [List.length_take, List.length_drop]
  omega
theorem heldAt_feed (ms : List (List UInt8)) (t p d : Nat) (hp : offK ms t ≤ p) : heldAt ms t p ++ ((lineK ms ms.length).drop p).take d = heldAt ms t (p + d) := by
  unfold heldAt
  obtain ⟨q, rfl⟩ : ∃ q, p = offK ms t + q := ⟨p - offK ms t, by omega⟩
  rw [Nat.add_sub_cancel_left, show offK ms t + q + d - offK ms t = q + d by omega, ← List.drop_drop, List.take_add]

/-! ### Lists of lists, lists of numbers -/
def Lss (w : World) (ao : Option Addr) (n : Nat) (ms : List (List UInt8)) : Prop :=
  ms.length = n ∧ n ≤ maxLen ∧ ∀ j (h : j < ms.length), ∃ b off xo xn xc, ao = some ⟨b, off, none⟩ ∧ w.cell? ⟨b, off + j, none⟩ = some (.slice xo xn xc) ∧ Bs w xo xn ms[j] ∧ xn ≤ 140737488351232
def Zs (w : World) (ao : Option Addr) (n : Nat) (zs : List Int) : Prop :=
  zs.length = n ∧ n ≤ maxLen ∧ ∀ j (h : j < zs.length), ∃ b off, ao = some ⟨b, off, none⟩ ∧ w.cell? ⟨b, off + j, none⟩ = some (.int .i64 zs[j])

theorem Kp.lss {w w' : World} (h : Kp w w') {ao : Option Addr} {n : Nat} {ms : List (List UInt8)} (hs : Lss w ao n ms) : Lss w' ao n ms := by
  refine ⟨hs.1, hs.2.1, fun j hj => ?_⟩
  obtain ⟨b, off, xo, xn, xc, h1, h2, h4, h5⟩ := hs.2.2 j hj
  exact ⟨b, off, xo, xn, xc, h1, Kp.cell h h2, Kp.bs h h4, h5⟩
theorem Kp.zs {w w' : World} (h : Kp w w') {ao : Option Addr} {n : Nat} {zs : List Int} (hs : Zs w ao n zs) : Zs w' ao n zs := by
  refine ⟨hs.1, hs.2.1, fun j hj => ?_⟩
  obtain ⟨b, off, h1, h2⟩ := hs.2.2 j hj
  exact ⟨b, off, h1, Kp.cell h h2⟩

/-- No list that is played is longer. -/
def ShortL (ms : List (List UInt8)) : Prop := ms.length ≤ 400 ∧ totL ms ms.length ≤ 262144

set_option maxHeartbeats 1000000 in
theorem long_any (w : World) (ao : Option Addr) (n c : Nat) (ms : List (List UInt8)) (hs : Lss w ao n ms) :
    Calls Tryd.prog 22 #[.slice ao n c] w fun e w' => ∃ b, e = .returned (.bool b) ∧ Kp w w' ∧ (b = false → ShortL ms) := by
  have hl := hs.1
  have Hl := Lib.hid hl; clear hl
  have hn := hs.2.1
  unfold maxLen at hn
  go_enter Tryd.func22, Tryd.ntmps22
  by_cases h4 : n ≤ 400
  · go_wp2_with fail
    go_loopw [3, 4] (fun t i wr => ∃ k : Nat, k ≤ n ∧ i = .int .i64 k ∧ t = .int .i64 (totL ms k : Nat) ∧ totL ms k ≤ 262144 ∧ w = wr) (fun _ i _ => n - (intOf i).toNat)
    case atStart => exact ⟨0, by omega, rfl, by rw [totL_zero]; rfl, by rw [totL_zero]; omega, rfl⟩
    case round =>
      obtain ⟨k, hk, rfl, rfl, ht, rfl⟩ := hrel
      by_cases hlt : k < n
      · obtain ⟨b, off, xo, xn, xc, rfl, hc1, hB, hxn⟩ := hs.2.2 k (by rw [Hl.out]; exact hlt)
        have hx := hB.1
        have ht2 := totL_succ ms k (by rw [Hl.out]; exact hlt)
        rw [hx] at ht2
        clear hx hB
        have Ht2 := Lib.hid ht2; clear ht2
        by_cases hov : totL ms k + xn ≤ 262144
        · go_wp2_with fail
          go_roundw
          case rel => exact ⟨k + 1, by omega, by go_num, by rw [Ht2.out]; go_num, by rw [Ht2.out]; exact hov, trivial⟩
          case measure => simp [intOf]; omega
        · go_wp2_with fail
          go_ret
          exact ⟨true, rfl, Kp.refl _, by simp⟩
      · go_wp2_with fail
        go_ret
        exact ⟨false, rfl, Kp.refl _, fun _ => ⟨by rw [Hl.out]; exact h4, by rw [Hl.out, show n = k by omega]; exact ht⟩⟩
  · go_wp2_with fail
    go_ret
    exact ⟨true, rfl, Kp.refl _, by simp⟩

theorem lss_of_trod {H : Type} {enc : TypeId × Value → H} {W : World} {a0 : Option Addr} {len cap : Nat} {d : DataW H} {p : List MemPlace}
    (h : DataW.Trod enc Tryd.prog W 0 (fun _ => true) true 53 (.slice a0 len cap) d p) (hw : ∀ k ∈ d.weights Tryd.prog 53, k ≤ 140737488351232) : ∃ ms, Lss W a0 len ms := by
  obtain ⟨fuel, hf⟩ := h
  rcases open_slice1 Tryd.underlying53 (by kernel_rfl) hf with ⟨hcs, _⟩ | ⟨a, len', cap', m, n, V, D, Pl, hcs, _, hl, hm, hme, hx, hi⟩
  · simp [Value.cells] at hcs
    obtain ⟨rfl, rfl, rfl⟩ := hcs
    exact ⟨[], rfl, Nat.zero_le _, fun j hj => absurd hj (by simp)⟩
  · simp [Value.cells] at hcs
    obtain ⟨rfl, rfl, rfl⟩ := hcs
    have hml : len ≤ m := by rw [hme]; simp; exact hl
    obtain rfl : d = _ := (Prod.mk.inj hx).1
    simp only [DataW.weights, Tryd.underlying53, List.mem_cons, List.mem_append] at hw
    have hall : ∀ j, j < len → ∃ q : List UInt8, ∃ b off xo xn xc, some a = some ⟨b, off, none⟩ ∧ W.cell? ⟨b, off + j, none⟩ = some (.slice xo xn xc) ∧ Bs W xo xn q ∧ xn ≤ 140737488351232 := by
      intro j hj
      obtain ⟨h1, h4⟩ := hi j (by omega)
      obtain ⟨b, off, spot⟩ := a
      have hspot : spot = none := by
        simpa [Addr.add] using World.cell?_spot (hi 0 (by omega)).1
      subst hspot
      rw [Addr.add_lit] at h1
      obtain ⟨xo, xn, xc, xs, hv1, hB, hxn⟩ := bs_of_cells Tryd.underlying22 Tryd.underlying5 cells5 (by kernel_rfl) h4 (fun k hk => hw k (.inr (.inl (weights_of_mem (List.mem_map.2 ⟨j, List.mem_range.2 hj, rfl⟩) hk))))
      exact ⟨xs, b, off, xo, xn, xc, rfl, by rw [← hv1]; exact h1, hB, hxn⟩
    obtain ⟨f, hf⟩ := choose_lt hall
    refine ⟨(List.range len).map f, by simp, by omega, fun j hj => ?_⟩
    have hj' : j < len := by simpa using hj
    simpa using hf j hj'

theorem zs_of_trod {H : Type} {enc : TypeId × Value → H} {W : World} {a0 : Option Addr} {len cap : Nat} {d : DataW H} {p : List MemPlace}
    (h : DataW.Trod enc Tryd.prog W 0 (fun _ => true) true 54 (.slice a0 len cap) d p) : ∃ zs, Zs W a0 len zs := by
  obtain ⟨fuel, hf⟩ := h
  rcases open_ints Tryd.underlying54 Tryd.underlying3 (by kernel_rfl) hf with ⟨hcs, _⟩ | ⟨a, len', cap', zs, hcs, _, hl, hm, hz, _, hcell, hwz⟩
  · simp [Value.cells] at hcs
    obtain ⟨rfl, rfl, rfl⟩ := hcs
    exact ⟨[], rfl, Nat.zero_le _, fun j hj => absurd hj (by simp)⟩
  · simp [Value.cells] at hcs
    obtain ⟨rfl, rfl, rfl⟩ := hcs
    simp only [if_true] at hz
    refine ⟨zs.take len, by simp; omega, by omega, fun j hj => ?_⟩
    have hj' : j < len := by simp at hj; omega
    have h1 := hcell j (by omega)
    obtain ⟨b, off, spot⟩ := a
    have hspot : spot = none := by
      simpa [Addr.add] using World.cell?_spot (hcell 0 (by omega))
    subst hspot
    rw [Addr.add_lit] at h1
    refine ⟨b, off, rfl, ?_⟩
    rw [h1]
    simp [List.getD, show j < zs.length by omega]

theorem el54 : El Tryd.prog 54 3 (.int .i64 0) 1 8 := ⟨Tryd.underlying54, by kernel_rfl, rfl, by decide, by decide⟩
end Go.Proofs.YtkpdbdlkihgofaaDoor
