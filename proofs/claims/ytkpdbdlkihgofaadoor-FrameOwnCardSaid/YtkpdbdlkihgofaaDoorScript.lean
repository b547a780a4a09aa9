/- Scripts: a list of calls as the arguments hold it, and whether one is too long. Condition: the list is one (Sts). -/
import Derived.Test.YtkpdbdlkihgofaaDoorStep
import Derived.Test.YtkpdbdlkihgofaaDoorLaw
import Derived.Deep.SlicePairs
namespace Go.Proofs.YtkpdbdlkihgofaaDoor
open Go.ChangeShapes Go.WideShapes Go.ChangeAt Go.RowKit Go.Deep

/-- A list of calls: kinds and what is fed. -/
def Sts (w : World) (ao : Option Addr) (n : Nat) (ss : List (Int × List UInt8)) : Prop :=
  ss.length = n ∧ n ≤ maxLen ∧ ∀ j (h : j < ss.length), ∃ b off xo xn xc, ao = some ⟨b, off, none⟩ ∧ w.cell? ⟨b, off + j * 2, none⟩ = some (.int .i64 ss[j].1) ∧ w.cell? ⟨b, off + j * 2 + 1, none⟩ = some (.slice xo xn xc) ∧ Bs w xo xn ss[j].2 ∧ xn ≤ 140737488351232

theorem Kp.sts {w w' : World} (h : Kp w w') {ao : Option Addr} {n : Nat} {ss : List (Int × List UInt8)} (hs : Sts w ao n ss) : Sts w' ao n ss := by
  refine ⟨hs.1, hs.2.1, fun j hj => ?_⟩
  obtain ⟨b, off, xo, xn, xc, h1, h2, h3, h4, h5⟩ := hs.2.2 j hj
  exact ⟨b, off, xo, xn, xc, h1, Kp.cell h h2, Kp.cell h h3, Kp.bs h h4, h5⟩

/-- All that is fed by the first k calls. -/
def tot (ss : List (Int × List UInt8)) (k : Nat) : Nat := ((ss.take k).map (·.2.length)).sum
theorem tot_zero (ss : List (Int × List UInt8)) : tot ss 0 = 0 := by simp [tot]
theorem tot_succ (ss : List (Int × List UInt8)) (k : Nat) (h : k < ss.length) : tot ss (k + 1) = tot ss k + ss[k].2.length := by
  unfold tot
  rw [take_step ss k h]
  simp only [List.map_append, List.sum_append, List.map_cons, List.map_nil, List.sum_cons, List.sum_nil, Nat.add_zero]
theorem tot_mono (ss : List (Int × List UInt8)) {j k : Nat} (h : j ≤ k) : tot ss j ≤ tot ss k := by
  induction k with
  | zero => obtain rfl : j = 0 := by omega
            exact Nat.le_refl _
  | succ k ih =>
    rcases Nat.lt_or_ge j (k + 1) with h1 | h1
    · refine Nat.le_trans (ih (by omega)) ?_
      by_cases hk : k < ss.length
      · rw [tot_succ ss k hk]; omega
      · unfold tot; rw [List.take_of_length_le (by omega), List.take_of_length_le (by omega)]; exact Nat.le_refl _
    · obtain rfl : j = k + 1 := by omega
      exact Nat.le_refl _

/-- No script that is played is longer. -/
def Short (ss : List (Int × List UInt8)) : Prop := ss.length ≤ 400 ∧ tot ss ss.length ≤ 262144

set_option maxHeartbeats 1000000 in
theorem script_any (w : World) (ao : Option Addr) (n c : Nat) (ss : List (Int × List UInt8)) (hs : Sts w ao n ss) :
    Calls Tryd.prog 16 #[.slice ao n c] w fun e w' => ∃ b, e = .returned (.bool b) ∧ Kp w w' ∧ (b = false → Short ss) := by
  have hl := hs.1
  have Hl := Lib.hid hl; clear hl
  have hn := hs.2.1
  unfold maxLen at hn
  go_enter Tryd.func16, Tryd.ntmps16
  by_cases h4 : n ≤ 400
  · go_wp2_with fail
    go_loopw [3, 4] (fun t i wr => ∃ k : Nat, k ≤ n ∧ i = .int .i64 k ∧ t = .int .i64 (tot ss k : Nat) ∧ tot ss k ≤ 262144 ∧ w = wr) (fun _ i _ => n - (intOf i).toNat)
    case atStart => exact ⟨0, by omega, rfl, by rw [tot_zero]; rfl, by rw [tot_zero]; omega, rfl⟩
    case round =>
      obtain ⟨k, hk, rfl, rfl, ht, rfl⟩ := hrel
      by_cases hlt : k < n
      · obtain ⟨b, off, xo, xn, xc, rfl, hc0, hc1, hB, hxn⟩ := hs.2.2 k (by rw [Hl.out]; exact hlt)
        have hx := hB.1
        have ht2 := tot_succ ss k (by rw [Hl.out]; exact hlt)
        rw [hx] at ht2
        clear hx hB hc0
        have Ht2 := Lib.hid ht2; clear ht2
        by_cases hov : tot ss k + xn ≤ 262144
        · go_wp2_with fail
          go_roundw
          case rel => exact ⟨k + 1, by omega, by go_num, by rw [Ht2.out]; go_num, by rw [Ht2.out]; exact hov, trivial⟩
          case measure => simp [intOf]; omega
        · go_wp2_with fail
          go_ret
          exact ⟨true, rfl, Kp.refl _, by simp⟩
      · go_wp2_with fail
        go_ret
        exact ⟨false, rfl, Kp.refl _, fun _ => ⟨by rw [Hl.out]; exact h4, by rw [Hl.out, show n = k by omega]; exact ht⟩⟩
  · go_wp2_with fail
    go_ret
    exact ⟨true, rfl, Kp.refl _, by simp⟩

theorem weights_of_mem {H : Type} {P : Program} {e : TypeId} {x : Nat} : ∀ {l : List (DataW H)} {d : DataW H}, d ∈ l → x ∈ d.weights P e → x ∈ DataW.weightsAll P e l
  | d0 :: r, d, hd, hx => by
    simp only [DataW.weightsAll, List.mem_append]
    rcases List.mem_cons.1 hd with rfl | hd
    · exact .inl hx
    · exact .inr (weights_of_mem hd hx)

/-- A slice of bytes in a cell. -/
theorem bs_of_cells {H : Type} {enc : TypeId × Value → H} {P : Program} {W : World} {t e : TypeId} {v : Value} {fuel : Nat} {x : DataW H × List MemPlace} (ht : P.underlying t = some (.slice e)) (he : P.underlying e = some (.int .u8)) (hc : P.cellsOf e = 1) (hb : P.bytesOf e = 1)
    (h : DataW.trod enc P W 0 (fun _ => true) true fuel t [v] = some x) (hw : ∀ k ∈ x.1.weights P t, k ≤ 140737488351232) : ∃ xo xn xc xs, v = .slice xo xn xc ∧ Bs W xo xn xs ∧ xn ≤ 140737488351232 := by
  rcases open_ints ht he hc h with ⟨hcs, _⟩ | ⟨a, len', cap', zs, hcs, _, hl, _, hz, rfl, _⟩
  · obtain rfl : v = .slice none 0 0 := by simpa using hcs
    exact ⟨none, 0, 0, [], rfl, Bs.zero _ _, by omega⟩
  · obtain rfl : v = .slice (some a) len' cap' := by simpa using hcs
    obtain ⟨xs, hx⟩ := bs_of_trod (a0 := some a) (len := len') (cap := cap') ht he hc ⟨fuel, h⟩
    refine ⟨_, _, _, xs, rfl, hx, ?_⟩
    simp only [if_true] at hz
    simp only [DataW.weights, ht, List.mem_cons] at hw
    have := hw _ (.inl rfl)
    simp only [lits, List.length_map, List.length_take, List.length_drop, hb] at this
    omega

/-- A script among the arguments. -/
theorem sts_of_trod {H : Type} {enc : TypeId × Value → H} {W : World} {a0 : Option Addr} {len cap : Nat} {d : DataW H} {p : List MemPlace}
    (h : DataW.Trod enc Tryd.prog W 0 (fun _ => true) true 34 (.slice a0 len cap) d p) (hw : ∀ k ∈ d.weights Tryd.prog 34, k ≤ 140737488351232) : ∃ ss, Sts W a0 len ss := by
  obtain ⟨fuel, hf⟩ := h
  rcases open_slice_pairs Tryd.underlying34 Tryd.underlying46 (by kernel_rfl) rfl rfl (by kernel_rfl) (by kernel_rfl) hf with ⟨hcs, _⟩ | ⟨a, len', cap', m, n, V0, V1, D0, D1, P0, P1, hcs, _, hl, hm, hme, hx, hi⟩
  · simp [Value.cells] at hcs
    obtain ⟨rfl, rfl, rfl⟩ := hcs
    exact ⟨[], rfl, Nat.zero_le _, fun j hj => absurd hj (by simp)⟩
  · simp [Value.cells] at hcs
    obtain ⟨rfl, rfl, rfl⟩ := hcs
    have hml : len ≤ m := by rw [hme]; simp; exact hl
    obtain rfl : d = _ := (Prod.mk.inj hx).1
    simp only [DataW.weights, Tryd.underlying34, List.mem_cons, List.mem_append] at hw
    have hall : ∀ j, j < len → ∃ q : Int × List UInt8, ∃ b off xo xn xc, some a = some ⟨b, off, none⟩ ∧ W.cell? ⟨b, off + j * 2, none⟩ = some (.int .i64 q.1) ∧ W.cell? ⟨b, off + j * 2 + 1, none⟩ = some (.slice xo xn xc) ∧ Bs W xo xn q.2 ∧ xn ≤ 140737488351232 := by
      intro j hj
      obtain ⟨h1, h2, h3, h4⟩ := hi j (by omega)
      obtain ⟨b, off, spot⟩ := a
      have hspot : spot = none := by
        simpa [Addr.add] using World.cell?_spot (hi 0 (by omega)).1
      subst hspot
      rw [Addr.add_lit] at h1 h2
      obtain ⟨xo, xn, xc, xs, hv1, hB, hxn⟩ := bs_of_cells Tryd.underlying22 Tryd.underlying5 cells5 (by kernel_rfl) h4 (fun k hk => hw k (.inr (.inl (weights_of_mem (d := .agg [D0 j, D1 j]) (List.mem_map.2 ⟨j, List.mem_range.2 hj, rfl⟩) (by
        simp only [DataW.weights, Tryd.underlying46, List.map_cons, List.map_nil, DataW.weightsEach, List.mem_append]
        exact .inr (.inl hk))))))
      obtain ⟨z, hz, _⟩ := DataW.trod_int Tryd.underlying3 h3
      exact ⟨(z, xs), b, off, xo, xn, xc, rfl, by rw [h1]; simpa using hz, by rw [← hv1, ← h2, Nat.add_assoc], hB, hxn⟩
    obtain ⟨f, hf⟩ := choose_lt hall
    refine ⟨(List.range len).map f, by simp, by omega, fun j hj => ?_⟩
    have hj' : j < len := by simpa using hj
    simpa using hf j hj'
/-- What the row says of each argument's size. -/
theorem weights_at {H : Type} {P : Program} {gs : List (DataW H)} {t : TypeId} {d : DataW H} : ∀ {ts : List TypeId} {ds : List (DataW H)} {j : Nat}, (DataW.weightsEach P (ts ++ []) (ds ++ gs)).all (· ≤ reachBytes) = true → ts[j]? = some t → ds[j]? = some d → ∀ k ∈ d.weights P t, k ≤ 140737488351232
  | t0 :: ts, d0 :: ds, 0, h, ht, hd => by
    obtain rfl : t0 = t := by simpa using ht
    obtain rfl : d0 = d := by simpa using hd
    intro k hk
    simp only [List.cons_append, DataW.weightsEach, List.all_append, Bool.and_eq_true] at h
    have := of_decide_eq_true (List.all_eq_true.1 h.1 k hk)
    exact this
  | t0 :: ts, d0 :: ds, j + 1, h, ht, hd => by
    simp only [List.cons_append, DataW.weightsEach, List.all_append, Bool.and_eq_true] at h
    exact weights_at h.2 (by simpa using ht) (by simpa using hd)
  | [], _, _, _, ht, _ => by simp at ht
  | _ :: _, [], _, _, _, hd => by simp at hd
end Go.Proofs.YtkpdbdlkihgofaaDoor
