/- The Reader of the program: Feed. Condition: the Reader is one (Rdr), the piece lies elsewhere. -/
import Derived.Test.YtkpdbdlkihgofaaDoorFirst
namespace Go.Proofs.YtkpdbdlkihgofaaDoor
open Go.RowKit

/-- What 'Feed' leaves. -/
def FeedPost (w : World) (base r : Nat) (ao : Option Addr) (held ys : List UInt8) (T : Nat) (e : Ending) (w' : World) : Prop :=
  e = .returned (.tuple #[]) ∧ ∃ ao', Rdr w' base r ao' (held ++ ys) (T + ys.length) ∧ Fr (r :: blkL ao) w w' ∧ (∀ k ∈ blkL ao', k ∈ blkL ao ∨ w.heap.size ≤ k)

/-- A Reader behind the append and the store of its row. -/
theorem rdr_appended {w1 w2 : World} {base r : Nat} {ao ao' : Option Addr} {n cap cap' fr : Nat} {all ys : List UInt8} {m N T : Nat} (hA : Appd w1 w2 base 5 1 ao cap m N ((all ++ ys).map by8) ao' cap') (hN : N = n + m) (hT : N ≤ T)
    (h0 : ∃ v, w1.cell? ⟨r, 0, none⟩ = some v) (h1 : w1.cell? ⟨r, 1, none⟩ = some (.int .i64 (fr : Nat))) (f0 : w1.frozen? ⟨r, 0, none⟩ = false) (f1 : w1.frozen? ⟨r, 1, none⟩ = false) (hfr : fr ≤ n) (hl : all.length = n) (hr : r ∉ blkL ao) :
    Rdr (w2.setCell ⟨r, 0, none⟩ (.slice ao' N cap')) base r ao' (all.drop fr ++ ys) T ∧ Fr (r :: blkL ao) w1 (w2.setCell ⟨r, 0, none⟩ (.slice ao' N cap')) ∧ (∀ k ∈ blkL ao', k ∈ blkL ao ∨ w1.heap.size ≤ k) := by
  obtain ⟨v, h0⟩ := h0
  have hrl : r < w1.heap.size := World.block_lt_of_cell? w1 _ h0
  have hF := hA.fr
  have hnew : ∀ k ∈ blkL ao', k ∈ blkL ao ∨ w1.heap.size ≤ k := by
    intro k hk
    rcases hA.fresh k (mem_blkL.1 hk) with h | h
    · exact .inl (mem_blkL.2 h)
    · exact .inr (by omega)
  have hr' : r ∉ blkL ao' := fun h => by
    rcases hnew r h with h1 | h1
    · exact hr h1
    · omega
  refine ⟨⟨N, cap', fr, all ++ ys, ?_, ?_, ?_, ?_, ?_, by omega, hT, ?_, hr'⟩, (hF.mono (by simp; exact fun k hk => .inr hk)).trans ((Fr.set w2 ⟨r, 0, none⟩ _).mono (by simp)), hnew⟩
  · exact World.cell?_setCell_same _ _ _ (hF.cell h0 hr)
  · rw [World.cell?_setCell_other _ _ _ _ (by simp)]; exact hF.cell h1 hr
  · rw [World.frozen?_setCell]; exact hF.free h0 f0 hr
  · rw [World.frozen?_setCell]; exact hF.free h1 f1 hr
  · exact (Fr.set w2 ⟨r, 0, none⟩ _).own hA.own (fun k hk hk2 => by simp only [List.mem_singleton] at hk2; subst hk2; exact hr' hk)
  · rw [List.drop_append_of_le_length (by omega)]

set_option maxHeartbeats 1000000 in
theorem Rdr.feed {w : World} {base r : Nat} {ao : Option Addr} {held : List UInt8} {T : Nat} (h : Rdr w base r ao held T) (hb : base ≤ w.heap.size) {bo : Option Addr} {m c : Nat} {ys : List UInt8} (hy : Bs w bo m ys)
    (hd : ∀ k ∈ blkL bo, k ∉ r :: blkL ao) (hT : T + ys.length ≤ 1000000000) :
    Calls Tryd.prog 19 #[.pointer (some ⟨r, 0, none⟩), .slice bo m c] w (FeedPost w base r ao held ys T) := by
  have hR := h
  obtain ⟨n, cap, fr, all, h0, h1, f0, f1, ho, r1, r2, r3, r4⟩ := h
  have hcap := ho.cap
  have hl := ho.bs.1
  have Hl := Lib.hid hl; clear hl
  have R3 := Lib.hid r3; clear r3
  have hym := hy.1
  have Hym := Lib.hid hym
  have hm2 : m ≤ ys.length := by omega
  have hm3 : ys.length ≤ m := by omega
  clear hym
  have hrlt := World.block_lt_of_cell? w _ h0
  by_cases hbig : n / 2 < fr
  · have hd1 : decide ((n : Int) / 2 < (fr : Int)) = true := by simp; omega
    have hcs : Cs w (if cap = fr then ao else ao.map (·.add fr)) ((all.drop fr).map by8) := by
      have := (ho.bs.cut fr (n - fr) (by omega) (cap = fr) (by omega)).2.2
      rwa [List.take_of_length_le (by simp; have := Hl.out; omega)] at this
    go_enter Tryd.func19, Tryd.ntmps19
    go_wp2
    go_quiet (fail)
    go_wp2
    refine region_tail 13 (by kernel_rfl) (by kernel_rfl) ?_
    simp only [List.take_succ_cons, List.take_zero, List.drop_succ_cons, List.drop_zero]
    repeat still_step
    refine wpStill_nil ?_
    refine wpList_cpy rfl (.tmp 21) (.tmp 30) 22 22 rfl el22 (by omega) ((Fr.drew [] _).own ((Fr.drewN [] w nq).own ho (by simp)) (by simp)) rfl rfl ((all.drop fr).map by8) (by simp [Hl.out]) (Nat.sub_le _ _) (Nat.le_refl _) ((Fr.drew [] _).cs ((Fr.drewN [] w nq).cs hcs (by simp)) (by simp)) (cells_map_one _ (fun _ => rfl) _) ?_
    intro w2 hc1 hc2
    have hfr : Fr (blkL ao) w w2 := (Fr.drewN (blkL ao) w nq).trans ((Fr.drew _ _).trans hc2)
    have g0 := hfr.cell h0 r4
    have g1 := hfr.cell h1 r4
    have k0 := hfr.free h0 f0 r4
    have k1 := hfr.free h1 f1 r4
    have hs2 := hc1.shrink (n - fr) (Nat.sub_le _ _)
    rw [Nat.mul_one, List.take_append_of_le_length (by simp [Hl.out]), List.take_of_length_le (by simp [Hl.out])] at hs2
    have hlen2 : (all.drop fr).length = n - fr := by simp [Hl.out]
    have Hlen2 := Lib.hid hlen2; clear hlen2
    have hset : ∀ X Y, Fr [r] w2 ((w2.setCell ⟨r, 0, none⟩ X).setCell ⟨r, 1, none⟩ Y) := fun X Y => (Fr.set w2 ⟨r, 0, none⟩ X).trans (Fr.set _ ⟨r, 1, none⟩ Y)
    have hr4 : ∀ k ∈ blkL ao, k ∉ [r] := fun k hk hk2 => by simp only [List.mem_singleton] at hk2; subst hk2; exact r4 hk
    have hy2 : ∀ X Y, Cs ((w2.setCell ⟨r, 0, none⟩ X).setCell ⟨r, 1, none⟩ Y) bo (ys.map by8) := fun X Y =>
      (hset X Y).cs (hfr.cs hy.2.2 (fun k hk hk2 => hd k hk (by simp [hk2]))) (fun k hk hk2 => by simp only [List.mem_singleton] at hk2; exact hd k hk (by simp [hk2]))
    go_wp2_with (at_builtin; go_loud (refine wpList_app rfl (.tmp 48) (.tmp 49) 22 rfl el22 base rfl ((hset _ _).own hs2 hr4) rfl (ys.map by8) (by simp [Hym.out]) (hy2 _ _) (cells_map_one _ (fun _ => rfl) _) (n - fr + m) rfl (((all.drop fr) ++ ys).map by8) (by simp) (by omega) (by have := hfr.size; simp [World.setCell]; omega) ?_); intro ao2 cap2 w3 ha2; have hA0 := ha2.fr.cell (p := ⟨r, 0, none⟩) (v := .slice ao (n - fr) cap) (by rw [World.cell?_setCell_other _ _ _ _ (by simp)]; exact World.cell?_setCell_same _ _ _ g0) r4; have hF0 := ha2.fr.free (p := ⟨r, 0, none⟩) (u := .slice ao (n - fr) cap) (by rw [World.cell?_setCell_other _ _ _ _ (by simp)]; exact World.cell?_setCell_same _ _ _ g0) (f := false) (by rw [World.frozen?_setCell, World.frozen?_setCell]; exact k0) r4)
    all_goals
      go_end0
      have e0 : ((w2.setCell ⟨r, 0, none⟩ (.slice ao (n - fr) cap)).setCell ⟨r, 1, none⟩ (.int .i64 0)).cell? ⟨r, 0, none⟩ = some (.slice ao (n - fr) cap) := by
        rw [World.cell?_setCell_other _ _ _ _ (by simp)]; exact World.cell?_setCell_same _ _ _ g0
      have e1 : ((w2.setCell ⟨r, 0, none⟩ (.slice ao (n - fr) cap)).setCell ⟨r, 1, none⟩ (.int .i64 0)).cell? ⟨r, 1, none⟩ = some (.int .i64 ((0 : Nat) : Int)) := by
        refine World.cell?_setCell_same _ _ _ (u := .int .i64 (fr : Int)) ?_
        rw [World.cell?_setCell_other _ _ _ _ (by simp)]; exact g1
      have hh := rdr_appended (fr := 0) (T := T + ys.length) ha2 rfl (by omega) ⟨_, e0⟩ e1 (by rw [World.frozen?_setCell, World.frozen?_setCell]; exact k0) (by rw [World.frozen?_setCell, World.frozen?_setCell]; exact k1) (Nat.zero_le _) Hlen2.out r4
      rw [List.drop_zero, ← R3.out] at hh
      refine ⟨rfl, _, hh.1, ?_, ?_⟩
      · exact ((hfr.mono (fun k hk => by simp [hk])).trans ((hset _ _).mono (by simp))).trans hh.2.1
      · intro k hk
        rcases hh.2.2 k hk with h | h
        · exact .inl h
        · right
          have := hfr.size
          simp [World.setCell] at h
          omega
  · have hd1 : decide ((n : Int) / 2 < (fr : Int)) = false := by simp; omega
    go_enter Tryd.func19, Tryd.ntmps19
    go_wp2
    go_quiet (fail)
    go_wp2_with (at_builtin; go_loud (refine wpList_app rfl (.tmp 48) (.tmp 49) 22 rfl el22 base rfl ((Fr.drewN [] w nq).own ho (by simp)) rfl (ys.map by8) (by simp [Hym.out]) ((Fr.drewN [] w nq).cs hy.2.2 (by simp)) (cells_map_one _ (fun _ => rfl) _) (n + m) rfl ((all ++ ys).map by8) (by simp) (by omega) (by simpa using hb) ?_); intro ao2 cap2 w2 ha2; have hA0 := ha2.fr.cell (p := ⟨r, 0, none⟩) h0 r4; have hF0 := ha2.fr.free (p := ⟨r, 0, none⟩) h0 f0 r4)
    go_end0
    have hh := rdr_appended (w1 := w.drewN nq) (T := T + ys.length) (fr := fr) ha2 rfl (by omega) ⟨_, h0⟩ h1 f0 f1 r1 Hl.out r4
    rw [← R3.out] at hh
    exact ⟨rfl, _, hh.1, (Fr.drewN _ w nq).trans hh.2.1, hh.2.2⟩
#print axioms Rdr.feed
end Go.Proofs.YtkpdbdlkihgofaaDoor
