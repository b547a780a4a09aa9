/- A pattern among the arguments, opened. Condition: none. -/
import Derived.Test.YtpemfmjplejdiaaDoorShaped
import Derived.Deep.SlicePairs
import Derived.OpenShut
namespace Go.Proofs.YtpemfmjplejdiaaDoor
open Go.ChangeShapes Go.WideShapes Go.RowKit Go.Deep

theorem weights_of_mem {H : Type} {P : Program} {e : TypeId} {x : Nat} : ∀ {l : List (DataW H)} {d : DataW H}, d ∈ l → x ∈ d.weights P e → x ∈ DataW.weightsAll P e l
  | d0 :: r, d, hd, hx => by
    simp only [DataW.weightsAll, List.mem_append]
    rcases List.mem_cons.1 hd with rfl | hd
    · exact .inl hx
    · exact .inr (weights_of_mem hd hx)
/-- What the row says of each argument's size. -/
theorem weights_at {H : Type} {P : Program} {gs : List (DataW H)} {t : TypeId} {d : DataW H} : ∀ {ts : List TypeId} {ds : List (DataW H)} {j : Nat}, (DataW.weightsEach P (ts ++ []) (ds ++ gs)).all (· ≤ reachBytes) = true → ts[j]? = some t → ds[j]? = some d → ∀ k ∈ d.weights P t, k ≤ 140737488351232
  | t0 :: ts, d0 :: ds, 0, h, ht, hd => by
    obtain rfl : t0 = t := by simpa using ht
    obtain rfl : d0 = d := by simpa using hd
    intro k hk
    simp only [List.cons_append, DataW.weightsEach, List.all_append, Bool.and_eq_true] at h
    have := of_decide_eq_true (List.all_eq_true.1 h.1 k hk)
    exact this
  | t0 :: ts, d0 :: ds, j + 1, h, ht, hd => by
    simp only [List.cons_append, DataW.weightsEach, List.all_append, Bool.and_eq_true] at h
    exact weights_at h.2 (by simpa using ht) (by simpa using hd)
  | [], _, _, _, ht, _ => by simp at ht
  | _ :: _, [], _, _, _, hd => by simp at hd

/-- A slice of numbers in a cell. -/
theorem is_of_cells {H : Type} {enc : TypeId × Value → H} {W : World} {v : Value} {fuel : Nat} {x : DataW H × List MemPlace}
    (h : DataW.trod enc Tryd.prog W 0 (fun _ => true) true fuel 22 [v] = some x) (hw : ∀ k ∈ x.1.weights Tryd.prog 22, k ≤ 140737488351232) : ∃ xo xn xc xs, v = .slice xo xn xc ∧ Is W xo xn xs ∧ xn ≤ 140737488351232 := by
  rcases open_ints Tryd.underlying22 Tryd.underlying3 (by kernel_rfl) h with ⟨hcs, _⟩ | ⟨a, len, cap, zs, hcs, _, hl, hm, hz, rfl, hcell, _⟩
  · obtain rfl : v = .slice none 0 0 := by simpa using hcs
    exact ⟨none, 0, 0, [], rfl, Is.zero _ _, by omega⟩
  · obtain rfl : v = .slice (some a) len cap := by simpa using hcs
    simp only [if_true] at hz
    refine ⟨_, _, _, zs.take len, rfl, ⟨by simp; omega, Nat.le_trans hl hm, fun j u hu => ?_⟩, ?_⟩
    · have hj : j < len := by
        have := (List.getElem?_eq_some_iff.1 hu).1
        simp at this; omega
      have hc := hcell j (by omega)
      obtain ⟨b, off, spot⟩ := a
      have hspot : spot = none := by simpa [Addr.add] using World.cell?_spot (hcell 0 (by omega))
      subst hspot
      rw [Addr.add_lit] at hc
      refine ⟨b, off, rfl, ?_⟩
      rw [hc]
      have hzj : zs[j]? = some zs[j] := List.getElem?_eq_getElem (by omega)
      simp [List.getElem?_map, hj, hzj, List.getD_eq_getElem?_getD] at hu ⊢
      exact hu
    · simp only [DataW.weights, Tryd.underlying22, List.mem_cons] at hw
      have := hw _ (.inl rfl)
      simp only [lits, List.length_map, List.length_take, List.length_drop, show Tryd.prog.bytesOf 3 = 8 by kernel_rfl] at this
      omega

/-- A slice of lines in a cell. -/
theorem lns_of_cells {H : Type} {enc : TypeId × Value → H} {W : World} {v : Value} {fuel : Nat} {x : DataW H × List MemPlace}
    (h : DataW.trod enc Tryd.prog W 0 (fun _ => true) true fuel 24 [v] = some x) (hw : ∀ k ∈ x.1.weights Tryd.prog 24, k ≤ 140737488351232) : ∃ a0 len cap ls, v = .slice a0 len cap ∧ Lns W a0 len ls := by
  rcases open_slice_pairs Tryd.underlying24 Tryd.underlying53 (by kernel_rfl) rfl rfl (by kernel_rfl) (by kernel_rfl) h with ⟨hcs, _⟩ | ⟨a, len, cap, m, n, V0, V1, D0, D1, P0, P1, hcs, _, hl, hm, hme, hx, hi⟩
  · obtain rfl : v = .slice none 0 0 := by simpa using hcs
    exact ⟨_, _, _, [], rfl, rfl, Nat.zero_le _, fun j hj => absurd hj (by simp)⟩
  · obtain rfl : v = .slice (some a) len cap := by simpa using hcs
    have hml : len ≤ m := by rw [hme]; simp; exact hl
    obtain rfl : x = _ := hx
    simp only [DataW.weights, Tryd.underlying24, List.mem_cons, List.mem_append] at hw
    have hlen : len ≤ 140737488351232 := by
      have := hw _ (.inl rfl)
      simp only [List.length_map, List.length_range, show Tryd.prog.bytesOf 53 = 32 by kernel_rfl] at this
      omega
    have hall : ∀ j, j < len → ∃ q : Ln, ∃ b off xo xn xc, some a = some ⟨b, off, none⟩ ∧ W.cell? ⟨b, off + j * 2, none⟩ = some (iv q.1) ∧ W.cell? ⟨b, off + j * 2 + 1, none⟩ = some (.slice xo xn xc) ∧ Is W xo xn q.2 ∧ xn ≤ 140737488351232 := by
      intro j hj
      obtain ⟨h1, h2, h3, h4⟩ := hi j (by omega)
      obtain ⟨b, off, spot⟩ := a
      have hspot : spot = none := by
        simpa [Addr.add] using World.cell?_spot (hi 0 (by omega)).1
      subst hspot
      rw [Addr.add_lit] at h1 h2
      obtain ⟨xo, xn, xc, xs, hv1, hB, hxn⟩ := is_of_cells h4 (fun k hk => hw k (.inr (.inl (weights_of_mem (d := .agg [D0 j, D1 j]) (List.mem_map.2 ⟨j, List.mem_range.2 hj, rfl⟩) (by
        simp only [DataW.weights, Tryd.underlying53, List.map_cons, List.map_nil, DataW.weightsEach, List.mem_append]
        exact .inr (.inl hk))))))
      obtain ⟨z, hz, _⟩ := DataW.trod_int Tryd.underlying3 h3
      exact ⟨(z, xs), b, off, xo, xn, xc, rfl, by rw [h1]; simpa using hz, by rw [← hv1, ← h2, Nat.add_assoc], hB, hxn⟩
    obtain ⟨f, hf⟩ := choose_lt hall
    refine ⟨_, _, _, (List.range len).map f, rfl, by simp, hlen, fun j hj => ?_⟩
    have hj' : j < len := by simpa using hj
    simpa using hf j hj'

set_option maxRecDepth 100000 in
/-- A pattern among the arguments. -/
theorem pat_of_trod {H : Type} {enc : TypeId × Value → H} {W : World} {v : Value} {d : DataW H} {p : List MemPlace} {r : Reach} {base : Nat} (hv : Value.okWide Tryd.prog W r base 26 v)
    (h : DataW.Trod enc Tryd.prog W 0 (fun _ => true) true 26 v d p) (hw : ∀ k ∈ d.weights Tryd.prog 26, k ≤ 140737488351232) :
    ∃ nm a0 n0 c0 a1 n1 c1 al nl cl b0 b1 ls, v = .agg #[.string nm, .slice a0 n0 c0, .slice a1 n1 c1, .slice al nl cl] ∧ nm.size ≤ maxLen ∧ Is W a0 n0 b0 ∧ Is W a1 n1 b1 ∧ Lns W al nl ls ∧ n0 ≤ 140737488351232 ∧ n1 ≤ 140737488351232 := by
  obtain ⟨cs, hvc, hsz⟩ := okWide_struct (P := Tryd.prog) (w := W) (r := r) (base := base) (t := 26) (v := v) Tryd.underlying26 hv
  subst hvc
  have h26 : Tryd.prog.cellsOf 26 = 4 := by kernel_rfl
  rw [h26] at hsz
  obtain ⟨fuel, hf⟩ := h
  obtain ⟨l⟩ := cs
  simp at hsz
  obtain ⟨v0, v1, v2, v3, rfl⟩ : ∃ v0 v1 v2 v3, l = [v0, v1, v2, v3] := by
    match l, hsz with
    | [v0, v1, v2, v3], _ => exact ⟨_, _, _, _, rfl⟩
  simp only [Value.cells] at hf
  obtain ⟨xs, n, rfl, hx, _, hxl, hi⟩ := DataW.trod_struct Tryd.underlying26 hf
  obtain ⟨x0, x1, x2, rfl⟩ : ∃ x0 x1 x2, xs = [x0, x1, x2] := by
    match xs, hxl with
    | [x0, x1, x2], _ => exact ⟨_, _, _, rfl⟩
  have f0 := hi 0 { name := "Name", type := 9, offset := 0, embedded := false, tag := "", pkgPath := "", byteOffset := 0 } rfl
  have f1 := hi 1 { name := "Before", type := 23, offset := 1, embedded := false, tag := "", pkgPath := "", byteOffset := 16 } rfl
  have f2 := hi 2 { name := "Lines", type := 24, offset := 3, embedded := false, tag := "", pkgPath := "", byteOffset := 64 } rfl
  simp only [show Tryd.prog.cellsOf 9 = 1 by kernel_rfl, show Tryd.prog.cellsOf 23 = 2 by kernel_rfl, show Tryd.prog.cellsOf 24 = 1 by kernel_rfl, List.drop, List.take, List.getElem?_cons_zero, List.getElem?_cons_succ] at f0 f1 f2
  obtain rfl : d = _ := (Prod.mk.inj hx).1
  simp only [DataW.weights, Tryd.underlying26, List.map_cons, List.map_nil, DataW.weightsEach, List.mem_append] at hw
  obtain ⟨s, hs, _, hsm⟩ := DataW.trod_string Tryd.underlying9 f0
  obtain rfl : v0 = .string s := by simpa using hs
  obtain ⟨a0, n0, c0', ls, rfl, hls⟩ := lns_of_cells f2 (fun k hk => hw k (.inr (.inr (.inl hk))))
  obtain ⟨ys, m, rfl, hy, _, hyl, hj⟩ := DataW.trod_array Tryd.underlying23 f1
  obtain ⟨y0, y1, rfl⟩ : ∃ y0 y1, ys = [y0, y1] := by
    match ys, hyl with
    | [y0, y1], _ => exact ⟨_, _, rfl⟩
  have g0 := hj 0 (by decide)
  have g1 := hj 1 (by decide)
  simp only [show Tryd.prog.cellsOf 22 = 1 by kernel_rfl, List.drop, List.getElem?_cons_zero, List.getElem?_cons_succ, Nat.zero_mul, Nat.one_mul] at g0 g1
  obtain rfl : x1 = _ := hy
  simp only [DataW.weights, Tryd.underlying23, List.map_cons, List.map_nil, DataW.weightsAll, List.mem_append] at hw
  obtain ⟨p0, q0, r0, b0, rfl, hb0, hq0⟩ := is_of_cells g0 (fun k hk => hw k (.inr (.inl (.inl hk))))
  obtain ⟨p1, q1, r1, b1, rfl, hb1, hq1⟩ := is_of_cells g1 (fun k hk => hw k (.inr (.inl (.inr (.inl hk)))))
  exact ⟨s, p0, q0, r0, p1, q1, r1, a0, n0, c0', b0, b1, ls, rfl, hsm, hb0, hb1, hls, hq0, hq1⟩
end Go.Proofs.YtpemfmjplejdiaaDoor
