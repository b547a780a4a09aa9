/- The reference's Reader: Feed and Next. Condition: the lists are lists of bytes. -/
import Derived.Test.YtkpdbdlkihgofaaDoorPuts
namespace Go.Proofs.YtkpdbdlkihgofaaDoor
open Go.RowKit

/-- The reference's Feed: a new list. -/
theorem refFeed_any (w : World) (ao bo : Option Addr) (n m c d : Nat) (xs ys : List UInt8) (hx : Bs w ao n xs) (hy : Bs w bo m ys) (hn : n ≤ 1000000000) (hm : m ≤ 1000000000) :
    Calls Tryd.prog 23 #[.agg #[.slice ao n c], .slice bo m d] w fun e w' => ∃ ro k cap, e = .returned (.agg #[.slice ro k cap]) ∧ Own w' w.heap.size 5 1 ro k cap ((xs ++ ys).map by8) ∧ Kp w w' := by
  have hxl : (xs.map by8).length = n * 1 := by simp [hx.1]
  have hyl : (ys.map by8).length = m * 1 := by simp [hy.1]
  have Hxl := Lib.hid hxl; clear hxl
  have Hyl := Lib.hid hyl; clear hyl
  have hF0 : Fr [] w ((w.alloc (.cells #[.slice ao n c] 41)).alloc (.cells #[.slice none 0 0] 41)) := Fr.of_kp ((Kp.new _ _).alloc (by simp) _)
  have ho1 := Own.nil ((w.alloc (.cells #[.slice ao n c] 41)).alloc (.cells #[.slice none 0 0] 41)) (w.heap.size + 2) 5 1
  have hsz : ((w.alloc (.cells #[.slice ao n c] 41)).alloc (.cells #[.slice none 0 0] 41)).heap.size = w.heap.size + 2 := by simp
  have Hsz := Lib.hid hsz; clear hsz
  have hc0 : ((w.alloc (.cells #[.slice ao n c] 41)).alloc (.cells #[.slice none 0 0] 41)).cell? ⟨w.heap.size + 1, 0, none⟩ = some (.slice none 0 0) := by
    rw [World.cell?_alloc_at _ _ _ _ (by simp)]; rfl
  have hf0 : ((w.alloc (.cells #[.slice ao n c] 41)).alloc (.cells #[.slice none 0 0] 41)).frozen? ⟨w.heap.size + 1, 0, none⟩ = false := World.frozen?_alloc_at _ _ _ _ (by simp)
  have Hc0 := Lib.hid hc0; clear hc0
  have Hf0 := Lib.hid hf0; clear hf0
  go_enter Tryd.func23, Tryd.ntmps23
  go_wp2_with (first
    | (at_builtin; refine wpList_app rfl (.tmp 6) (.tmp 8) 22 rfl el22 (w.heap.size + 2) rfl ho1 rfl (xs.map by8) Hxl.out (hF0.cs hx.2.2 (by simp)) (cells_map_one _ (fun _ => rfl) _) n (by omega) (xs.map by8) (by simp) (by omega) (by simp) ?_; intro ao2 cap2 w2 ha2; have hF2 := ha2.fr)
    | (at_builtin; refine wpList_app rfl (.tmp 10) (.tmp 11) 22 rfl el22 (w.heap.size + 2) rfl ha2.own rfl (ys.map by8) Hyl.out (hF2.cs (hF0.cs hy.2.2 (by simp)) (by simp [blkL, blk])) (cells_map_one _ (fun _ => rfl) _) (n + m) (by omega) ((xs ++ ys).map by8) (by simp) (by omega) (by have h1 := hF2.size; have h2 := Hsz.out; omega) ?_; intro ao3 cap3 w3 ha3; have hF3 : Fr [] ((w.alloc (.cells #[.slice ao n c] 41)).alloc (.cells #[.slice none 0 0] 41)) w3 := (hF2.mono (by simp [blkL, blk])).step ha3.fr (fun j hj => .inr (by have h1 := (ha2.own.lt j (mem_blkL.1 hj)).1; have h2 := Hsz.out; omega)); have hc3 := hF3.cell Hc0.out (by simp); have hf3 := hF3.free Hc0.out Hf0.out (by simp)))
  refine bodyPost_ret (v := .agg #[.slice ao3 (n + m) cap3]) (by simp [results, Tryd.results23, go_sem, hc3]) rfl ⟨ao3, n + m, cap3, rfl, ?_, ?_⟩
  · exact ((Fr.set w3 ⟨w.heap.size + 1, 0, none⟩ _).own ha3.own (fun k hk hk2 => by have h1 := (ha3.own.lt k (mem_blkL.1 hk)).1; simp only [List.mem_singleton] at hk2; omega)).mono (fun k hk => by have h1 := (ha3.own.lt k hk).1; omega)
  · exact ((hF0.trans hF3).step (Fr.set w3 ⟨w.heap.size + 1, 0, none⟩ _) (fun j hj => .inr (by simp only [List.mem_singleton] at hj; omega))).kp

/-- What the reference's Next answers. -/
def RefNextPost (w : World) (ao : Option Addr) (n c : Nat) (held : List UInt8) (e : Ending) (w' : World) : Prop :=
  Kp w w' ∧ match nextL held with
  | none => e = .returned (.tuple #[.slice none 0 0, .bool false, .agg #[.slice ao n c]])
  | some (m, rest) => ∃ ro cap bo k c2, e = .returned (.tuple #[.slice ro m.length cap, .bool true, .agg #[.slice bo k c2]]) ∧ Bs w' ro m.length m ∧ Bs w' bo k rest ∧ (∀ j ∈ blkL bo, j ∈ blkL ao) ∧ k ≤ c2 ∧ (∀ j ∈ blkL ro, w.heap.size ≤ j)

set_option maxHeartbeats 1000000 in
theorem refNext_short (w : World) (ao : Option Addr) (n c : Nat) (hn : n < 2) :
    Calls Tryd.prog 18 #[.agg #[.slice ao n c]] w fun e w' => e = .returned (.tuple #[.slice none 0 0, .bool false, .agg #[.slice ao n c]]) ∧ Kp w w' := by
  go_enter Tryd.func18, Tryd.ntmps18
  go_wp2
  go_region
  all_goals go_wp2
  refine bodyPost_ret (v := .tuple #[.slice none 0 0, .bool false, .agg #[.slice ao n c]]) (by simp [results, Tryd.results18, go_sem]) rfl ⟨rfl, ?_⟩
  exact (((Below.refl _ _).alloc (Nat.le_refl _) _).alloc (by simp) _).drew

theorem kp2set (w : World) (o1 o2 : Obj) (k : Nat) (u : Value) : Kp w ((((w.alloc o1).alloc o2).drewN k).setCell ⟨w.heap.size + 1, 0, none⟩ u) := by
  have h1 : Kp w (((w.alloc o1).alloc o2).drewN k) := Kp.trans ((Kp.new w o1).alloc (by simp) o2) (Kp.of_drewN _ _)
  exact h1.setCell (by simp) u

set_option maxHeartbeats 1000000 in
theorem refNext_no (w : World) (bb off : Nat) (n c h : Nat) (a b : UInt8) (hab : headN a b = h) (hh : h ≤ 65535) (hn : 2 ≤ n) (hfit : n < h + 2) (hn2 : n ≤ 9223372036854775807) (hbl : bb < w.heap.size)
    (h0 : w.cell? ⟨bb, off, none⟩ = some (by8 a)) (h1 : w.cell? ⟨bb, off + 1, none⟩ = some (by8 b)) :
    Calls Tryd.prog 18 #[.agg #[.slice (some ⟨bb, off, none⟩) n c]] w fun e w' => e = .returned (.tuple #[.slice none 0 0, .bool false, .agg #[.slice (some ⟨bb, off, none⟩) n c]]) ∧ Kp w w' := by
  have ha := a.toNat_lt
  have hb := b.toNat_lt
  have hbits : 256 * (a.toNat : Int) + (b.toNat : Int) = (h : Int) := by rw [← hab]; unfold headN; omega
  clear hab
  have Hb := Lib.hid hbits; clear hbits
  have hfit1 : (n : Int) < 2 + (256 * (a.toNat : Int) + (b.toNat : Int)) := by rw [Hb.out]; omega
  have hfit2 : (256 * (a.toNat : Int) + (b.toNat : Int)) ≤ 65535 := by rw [Hb.out]; omega
  go_enter Tryd.func18, Tryd.ntmps18
  go_wp2
  go_quiet (fail)
  go_wp2
  go_region
  all_goals go_wp2
  refine bodyPost_ret (v := .tuple #[.slice none 0 0, .bool false, .agg #[.slice (some ⟨bb, off, none⟩) n c]]) (by simp [results, Tryd.results18, go_sem]) rfl ⟨rfl, ?_⟩
  exact kp2set w _ _ _ _

def RefYes (w : World) (bb n L : Nat) (r : List UInt8) (e : Ending) (w' : World) : Prop :=
  ∃ ro cap bo c2, e = .returned (.tuple #[.slice ro L cap, .bool true, .agg #[.slice bo (n - (2 + L)) c2]]) ∧ Bs w' ro L (r.take L) ∧ Bs w' bo (n - (2 + L)) (r.drop L) ∧ ((∀ j ∈ blkL bo, j = bb) ∧ n - (2 + L) ≤ c2 ∧ (∀ j ∈ blkL ro, w.heap.size ≤ j)) ∧ Kp w w'

set_option maxHeartbeats 2000000 in
theorem refNext_yes (w : World) (bb off : Nat) (n c L : Nat) (a b : UInt8) (r : List UInt8) (hab : headN a b = L) (hh : L ≤ 65535) (hn : 2 ≤ n) (hfit : L + 2 ≤ n) (hn2 : n ≤ 9223372036854775807) (hnc : n ≤ c)
    (hx : Bs w (some ⟨bb, off, none⟩) n (a :: b :: r)) (hbl : bb < w.heap.size)
    (h0 : w.cell? ⟨bb, off, none⟩ = some (by8 a)) (h1 : w.cell? ⟨bb, off + 1, none⟩ = some (by8 b)) :
    Calls Tryd.prog 18 #[.agg #[.slice (some ⟨bb, off, none⟩) n c]] w (RefYes w bb n L r) := by
  have ha := a.toNat_lt
  have hb := b.toNat_lt
  have hbits : 256 * (a.toNat : Int) + (b.toNat : Int) = (L : Int) := by rw [← hab]; unfold headN; omega
  clear hab
  have hF0 : Fr [] w ((w.alloc (.cells #[.slice (some ⟨bb, off, none⟩) n c] 41)).alloc (.cells #[.slice none 0 0] 41)) := Fr.of_kp ((Kp.new _ _).alloc (by simp) _)
  have hr : r.length = n - 2 := by have := hx.1; simp at this; omega
  have Hr := Lib.hid hr; clear hr
  have Hx := Lib.hid hx; clear hx
  have hW : ∀ q, Fr [] w (((w.alloc (.cells #[.slice (some ⟨bb, off, none⟩) n c] 41)).alloc (.cells #[.slice none 0 0] 41)).drewN q) := fun q => hF0.trans (Fr.drewN _ _ _)
  have ho1 : ∀ q, Own (((w.alloc (.cells #[.slice (some ⟨bb, off, none⟩) n c] 41)).alloc (.cells #[.slice none 0 0] 41)).drewN q) (w.heap.size + 2) 5 1 none 0 0 [] := fun q => Own.nil _ _ _ _
  have hW0 : ∀ q, (((w.alloc (.cells #[.slice (some ⟨bb, off, none⟩) n c] 41)).alloc (.cells #[.slice none 0 0] 41)).drewN q).heap.size = w.heap.size + 2 := fun q => by simp [World.drewN]
  have hC0 : ∀ q, (((w.alloc (.cells #[.slice (some ⟨bb, off, none⟩) n c] 41)).alloc (.cells #[.slice none 0 0] 41)).drewN q).cell? ⟨w.heap.size, 0, none⟩ = some (.slice (some ⟨bb, off, none⟩) n c) := fun q => by
    show ((w.alloc (.cells #[.slice (some ⟨bb, off, none⟩) n c] 41)).alloc (.cells #[.slice none 0 0] 41)).cell? _ = _
    rw [World.cell?_alloc_past _ _ _ (by simp), World.cell?_alloc_at _ _ _ _ rfl]; rfl
  have hC1 : ∀ q, (((w.alloc (.cells #[.slice (some ⟨bb, off, none⟩) n c] 41)).alloc (.cells #[.slice none 0 0] 41)).drewN q).cell? ⟨w.heap.size + 1, 0, none⟩ = some (.slice none 0 0) := fun q => by
    show ((w.alloc (.cells #[.slice (some ⟨bb, off, none⟩) n c] 41)).alloc (.cells #[.slice none 0 0] 41)).cell? _ = _
    rw [World.cell?_alloc_at _ _ _ _ (by simp)]; rfl
  have hC2 : ∀ q, (((w.alloc (.cells #[.slice (some ⟨bb, off, none⟩) n c] 41)).alloc (.cells #[.slice none 0 0] 41)).drewN q).frozen? ⟨w.heap.size + 1, 0, none⟩ = false := fun q => by
    show ((w.alloc (.cells #[.slice (some ⟨bb, off, none⟩) n c] 41)).alloc (.cells #[.slice none 0 0] 41)).frozen? _ = _
    exact World.frozen?_alloc_at _ _ _ _ (by simp)
  have HW := Lib.hid hW; clear hW
  have HW0 := Lib.hid hW0; clear hW0
  have Ho1 := Lib.hid ho1; clear ho1
  have HC0 := Lib.hid hC0; clear hC0
  have HC1 := Lib.hid hC1; clear hC1
  have HC2 := Lib.hid hC2; clear hC2
  by_cases hc2 : c = 2
  · subst hc2
    obtain rfl : n = 2 := by omega
    obtain rfl : L = 0 := by omega
    have hsrc : Cs w (some ⟨bb, off, none⟩) ([] : List Value) := fun j u hu => by simp at hu
    go_enter Tryd.func18, Tryd.ntmps18
    go_wp2
    go_quiet (fail)
    go_wp2_with (at_builtin; go_loud (refine wpList_app rfl (.tmp 31) (.tmp 36) 22 rfl el22 (w.heap.size + 2) rfl (Ho1.out _) rfl ([] : List Value) rfl ((HW.out _).cs hsrc (by simp)) (by simp) 0 (by omega) ([] : List Value) (by simp) (by omega) (by rw [HW0.out]; exact Nat.le_refl _) ?_); intro ao2 cap2 w2 ha2; have hF2 := ha2.fr; have hc0 := hF2.cell (HC0.out nq) (by simp [blkL, blk]); have hc1 := hF2.cell (HC1.out nq) (by simp [blkL, blk]); have hf1 := hF2.free (HC1.out nq) (HC2.out nq) (by simp [blkL, blk]))
    have hfr : ∀ q u, Fr [] w ((w2.drewN q).setCell ⟨w.heap.size + 1, 0, none⟩ u) := fun q u => (((HW.out nq).trans (hF2.mono (by simp [blkL, blk]))).trans (Fr.drewN [] w2 q)).step (Fr.set _ ⟨w.heap.size + 1, 0, none⟩ u) (fun j hj => .inr (by simp only [List.mem_singleton] at hj; omega))
    have Hfr := Lib.hid hfr; clear hfr
    have hlo : ∀ j ∈ blkL ao2, w.heap.size ≤ j := fun j hj => by have h1 := (ha2.own.lt j (mem_blkL.1 hj)).1; omega
    have Hlo := Lib.hid hlo; clear hlo
    have e2 : r.drop 0 = [] := by rw [List.drop_zero]; exact List.eq_nil_of_length_eq_zero (by rw [Hr.out])
    have e3 : r.take 0 = [] := rfl
    have E2 := Lib.hid e2; clear e2
    have E3 := Lib.hid e3; clear e3
    go_region
    all_goals go_wp2
    refine bodyPost_ret (v := .tuple #[.slice ao2 0 cap2, .bool true, .agg #[.slice (some ⟨bb, off, none⟩) 0 0]]) (by simp [results, Tryd.results18, go_sem, hc1]) rfl ⟨ao2, cap2, some ⟨bb, off, none⟩, 0, rfl, ?_, ?_, ?_, Hfr.out 1 _ |>.kp⟩
    · rw [E3.out]; exact Bs.zero _ _
    · rw [E2.out]; exact Bs.zero _ _
    · exact ⟨fun j hj => by simpa [blkL, blk] using hj, Nat.le_refl _, Hlo.out⟩
  · have hsrc : Cs w (some ⟨bb, off + 2, none⟩) ((r.take L).map by8) := (Hx.out.sub 2 L (by omega)).2.2
    go_enter Tryd.func18, Tryd.ntmps18
    go_wp2
    go_quiet (fail)
    go_wp2_with (at_builtin; go_loud (refine wpList_app rfl (.tmp 31) (.tmp 36) 22 rfl el22 (w.heap.size + 2) rfl (Ho1.out _) rfl ((r.take L).map by8) (by simp [Hr.out]; omega) ((HW.out _).cs hsrc (by simp)) (cells_map_one _ (fun _ => rfl) _) L (by omega) ((r.take L).map by8) (by simp) (by omega) (by rw [HW0.out]; exact Nat.le_refl _) ?_); intro ao2 cap2 w2 ha2; have hF2 := ha2.fr; have hc0 := hF2.cell (HC0.out nq) (by simp [blkL, blk]); have hc1 := hF2.cell (HC1.out nq) (by simp [blkL, blk]); have hf1 := hF2.free (HC1.out nq) (HC2.out nq) (by simp [blkL, blk]))
    have hown := ha2.own
    have hfr : ∀ q u, Fr [] w ((w2.drewN q).setCell ⟨w.heap.size + 1, 0, none⟩ u) := fun q u => (((HW.out nq).trans (hF2.mono (by simp [blkL, blk]))).trans (Fr.drewN [] w2 q)).step (Fr.set _ ⟨w.heap.size + 1, 0, none⟩ u) (fun j hj => .inr (by simp only [List.mem_singleton] at hj; omega))
    have hro : ∀ q u, Bs ((w2.drewN q).setCell ⟨w.heap.size + 1, 0, none⟩ u) ao2 L (r.take L) := fun q u =>
      (Fr.set _ ⟨w.heap.size + 1, 0, none⟩ u).bs ((Fr.drewN [] w2 q).bs hown.bs (by simp)) (fun k hk hk2 => by have h1 := (hown.lt k (mem_blkL.1 hk)).1; simp only [List.mem_singleton] at hk2; omega)
    have Hfr := Lib.hid hfr; clear hfr
    have hlo : ∀ j ∈ blkL ao2, w.heap.size ≤ j := fun j hj => by have h1 := (hown.lt j (mem_blkL.1 hj)).1; omega
    have Hlo := Lib.hid hlo; clear hlo
    have Hro := Lib.hid hro; clear hro
    have hLn : L + 2 ≤ n ∧ n ≤ c := ⟨hfit, hnc⟩
    have HL := Lib.hid hLn; clear hLn hown ha2
    go_region
    all_goals go_wp2
    · have e1 : n - (2 + L) = 0 := by have := HL.out; omega
      have e2 : r.drop L = [] := List.drop_eq_nil_of_le (by rw [Hr.out]; omega)
      refine bodyPost_ret (v := .tuple #[.slice ao2 L cap2, .bool true, .agg #[.slice (some ⟨bb, off, none⟩) (n - (2 + L)) 0]]) (by simp [results, Tryd.results18, go_sem, hc1]) rfl ⟨ao2, cap2, some ⟨bb, off, none⟩, 0, rfl, Hro.out 1 _, ?_, ?_, Hfr.out 1 _ |>.kp⟩
      · rw [e1, e2]; exact Bs.zero _ _
      · exact ⟨fun j hj => by simpa [blkL, blk] using hj, by omega, Hlo.out⟩
    · refine bodyPost_ret (v := .tuple #[.slice ao2 L cap2, .bool true, .agg #[.slice (some ⟨bb, off + (2 + L), none⟩) (n - (2 + L)) (c - (2 + L))]]) (by simp [results, Tryd.results18, go_sem, hc1]) rfl ⟨ao2, cap2, some ⟨bb, off + (2 + L), none⟩, c - (2 + L), rfl, Hro.out 1 _, ?_, ?_, Hfr.out 1 _ |>.kp⟩
      · have h3 := Hx.out.sub (2 + L) (n - (2 + L)) (by omega)
        have e3 : ((a :: b :: r).drop (2 + L)).take (n - (2 + L)) = r.drop L := by
          rw [show 2 + L = L + 1 + 1 by omega]
          simp only [List.drop_succ_cons]
          exact List.take_of_length_le (by simp [Hr.out]; omega)
        rw [e3] at h3
        exact (Hfr.out 1 _).bs h3 (by simp)
      · exact ⟨fun j hj => by simpa [blkL, blk] using hj, by have := HL.out; omega, Hlo.out⟩

theorem refNext_any (w : World) (ao : Option Addr) (n c : Nat) (held : List UInt8) (hx : Bs w ao n held) (hnc : n ≤ c) : Calls Tryd.prog 18 #[.agg #[.slice ao n c]] w (RefNextPost w ao n c held) := by
  have hl := hx.1
  have hn2 := hx.2.1
  unfold maxLen at hn2
  match held, hx, hl with
  | [], hx, hl => exact (refNext_short w ao n c (by simp at hl; omega)).mono (fun e w' ⟨h1, h2⟩ => ⟨h2, h1⟩)
  | [x], hx, hl => exact (refNext_short w ao n c (by simp at hl; omega)).mono (fun e w' ⟨h1, h2⟩ => ⟨h2, h1⟩)
  | a :: b :: r, hx, hl =>
    simp only [List.length_cons] at hl
    have hx0 := hx
    obtain ⟨bb, off, rfl, hbl, hc⟩ := hx.at 0 (by omega)
    have h0 := hc 0 (by omega)
    have h1 := hc 1 (by omega)
    simp only [List.getElem_cons_zero, List.getElem_cons_succ, Nat.add_zero] at h0 h1
    have hh := headN_lt a b
    by_cases hfit : headN a b + 2 ≤ n
    · refine (refNext_yes w bb off n c (headN a b) a b r rfl hh (by omega) hfit (by omega) hnc hx0 hbl h0 h1).mono ?_
      rintro e w' ⟨ro, cap, bo, c2, rfl, hr1, hr2, ⟨hr3, hr4, hr5⟩, hk⟩
      refine ⟨hk, ?_⟩
      simp only [nextL, if_pos (show headN a b ≤ r.length by omega)]
      have hlen : (r.take (headN a b)).length = headN a b := by simp; omega
      rw [hlen]
      exact ⟨ro, cap, bo, _, c2, rfl, hr1, hr2, fun j hj => by rw [hr3 j hj]; simp [blkL, blk], hr4, hr5⟩
    · refine (refNext_no w bb off n c (headN a b) a b rfl hh (by omega) (by omega) (by omega) hbl h0 h1).mono ?_
      rintro e w' ⟨rfl, hk⟩
      refine ⟨hk, ?_⟩
      simp only [nextL, if_neg (show ¬ headN a b ≤ r.length by omega)]

end Go.Proofs.YtkpdbdlkihgofaaDoor
