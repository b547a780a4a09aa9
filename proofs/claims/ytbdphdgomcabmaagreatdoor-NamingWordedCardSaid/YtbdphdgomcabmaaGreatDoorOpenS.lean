/- Words among the arguments, opened. Condition: none. -/
import Derived.Test.YtbdphdgomcabmaaGreatDoorNa3
import Derived.Test.YtbdphdgomcabmaaGreatDoorNa5
import Derived.SliceStrings
namespace Go.Proofs.YtbdphdgomcabmaaGreatDoor
open Go.ChangeShapes Go.WideShapes Go.RowKit Go.Deep

set_option maxRecDepth 100000 in
theorem strs_of_trod {H : Type} {enc : TypeId × Value → H} {W : World} {v : Value} {d : DataW H} {p : List MemPlace} {r : Reach} {base : Nat} (hv : Value.okWide Tryz.prog W r base 39 v)
    (h : DataW.Trod enc Tryz.prog W 0 (fun _ => true) true 39 v d p) (hw : ∀ k ∈ d.weights Tryz.prog 39, k ≤ 140737488351232) : ∃ ao n c ss, v = .slice ao n c ∧ Strs W ao n ss ∧ ∀ s ∈ ss, s.size ≤ 281474976710656 := by
  obtain ⟨a0, len0, cap0, rfl⟩ := okWide_slice Tryz.underlying39 hv
  obtain ⟨fuel, hf⟩ := h
  rcases open_strings Tryz.underlying39 Tryz.underlying9 (by kernel_rfl) hf with ⟨hcs, _⟩ | ⟨a, len, cap, ss, hcs, _, hl, hm, hz, hx, hcell, _⟩
  · simp [Value.cells] at hcs
    obtain ⟨rfl, rfl, rfl⟩ := hcs
    exact ⟨none, 0, 0, [], rfl, ⟨rfl, Nat.zero_le _, fun j u hu => by simp at hu⟩, by simp⟩
  · simp [Value.cells] at hcs
    obtain ⟨rfl, rfl, rfl⟩ := hcs
    simp only [if_true] at hz
    simp only [Prod.mk.injEq] at hx
    obtain ⟨rfl, _⟩ := hx
    refine ⟨_, _, _, ss.take len0, rfl, ⟨by simp; omega, Nat.le_trans hl hm, fun j u hu => ?_⟩, fun s hs => ?_⟩
    · have hj : j < len0 := by
        have := (List.getElem?_eq_some_iff.1 hu).1
        simp at this; omega
      have hc := hcell j (by omega)
      obtain ⟨b, off, spot⟩ := a
      have hspot : spot = none := by simpa [Addr.add] using World.cell?_spot (hcell 0 (by omega))
      subst hspot
      rw [Addr.add_lit] at hc
      refine ⟨b, off, rfl, ?_⟩
      rw [hc]
      have hzj : ss[j]? = some ss[j] := List.getElem?_eq_getElem (by omega)
      simp [List.getElem?_map, hj, hzj, List.getD_eq_getElem?_getD] at hu ⊢
      exact hu
    · have h1 : s.data.toList.length ∈ (DataW.slice (strs (ss.take len0)) (strs (ss.drop len0)) : DataW H).weights Tryz.prog 39 := by
        simp only [DataW.weights, Tryz.underlying39, List.mem_cons, List.mem_append]
        refine .inr (.inl (weights_of_mem (d := .lit (.string s.data.toList)) (List.mem_map.2 ⟨s, hs, rfl⟩) ?_))
        simp [DataW.weights]
      have h2 := hw _ h1
      have h3 : s.size = s.data.toList.length := Lib.size_eq s
      omega
end Go.Proofs.YtbdphdgomcabmaaGreatDoor
