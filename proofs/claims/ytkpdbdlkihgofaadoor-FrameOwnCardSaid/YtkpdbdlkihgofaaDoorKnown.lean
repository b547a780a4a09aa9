/- The law file function known answers true. Condition: the variable ErrLong holds an error. -/
import Derived.Test.YtkpdbdlkihgofaaDoorFeed
namespace Go.Proofs.YtkpdbdlkihgofaaDoor
open Go.RowKit

theorem Bs.lit (w : World) (cs : List Value) (e : TypeId) (mk : Nat × Nat) (b n : Nat) (xs : List UInt8) (hb : b = w.heap.size) (h : cs = xs.map by8) (hn : xs.length = n) (hm : n ≤ 1000) : Bs (w.alloc (.cells cs.toArray e mk)) (some ⟨b, 0, none⟩) n xs := by
  subst h; subst hb
  exact ⟨hn, by unfold maxLen; omega, Cs.new _ _ _ _⟩

theorem Rdr.next_no {w : World} {base r : Nat} {ao : Option Addr} {held : List UInt8} {T : Nat} (h : Rdr w base r ao held T) (hT : T ≤ 1000000000) (hn : nextL held = none) :
    Calls Tryd.prog 20 #[.pointer (some ⟨r, 0, none⟩)] w fun e w' => e = .returned (.tuple #[.slice none 0 0, .bool false]) ∧ Rdr w' base r ao held T ∧ Fr [] w w' :=
  (h.next hT).mono fun e w' hq => by unfold NextPost at hq; rw [hn] at hq; exact hq
theorem Rdr.next_yes {w : World} {base r : Nat} {ao : Option Addr} {held : List UInt8} {T : Nat} (h : Rdr w base r ao held T) (hT : T ≤ 1000000000) {m rest : List UInt8} (hn : nextL held = some (m, rest)) :
    Calls Tryd.prog 20 #[.pointer (some ⟨r, 0, none⟩)] w fun e w' => ∃ bo cap, e = .returned (.tuple #[.slice bo m.length cap, .bool true]) ∧ Own w' w.heap.size 5 1 bo m.length cap (m.map by8) ∧ Rdr w' base r ao rest T ∧ Fr [r] w w' :=
  (h.next hT).mono fun e w' hq => by unfold NextPost at hq; rw [hn] at hq; exact hq
theorem Rdr.new (w : World) (base b : Nat) (e : TypeId) (hb : b = w.heap.size) : Rdr (w.alloc (.cells #[.slice none 0 0, .int .i64 0] e)) base b none [] 0 := by
  subst hb
  exact ⟨0, 0, 0, [], by simp, by simp, by simp, by simp, Own.nil _ _ _ _, Nat.le_refl _, Nat.le_refl _, rfl, by simp [blkL, blk]⟩

set_option maxHeartbeats 1000000 in
theorem known_yes (w : World) (a : Addr) (h : HasErr w a) : Calls Tryd.prog 15 #[] w fun e w' => e = .returned (.bool true) ∧ Kp w w' := by
  have H := Lib.hid h
  unfold HasErr at h
  have hcv := Lib.run_convert_bytes_const (P := Tryd.prog) (w.alloc (.cells #[.int .u8 255] 5)) 22 5 #[.int .u8 107, .int .u8 101, .int .u8 101, .int .u8 108] 4 4 Tryd.underlying22 Tryd.underlying5
  simp only [World.size_alloc] at hcv
  go_enter Tryd.func15, Tryd.ntmps15
  go_wp2_with fail
  have hw0 : Kp w ((w.alloc (.cells #[.int .u8 255] 5)).alloc (.cells #[.int .u8 107, .int .u8 101, .int .u8 101, .int .u8 108] 5 (4, 5))) := ((Kp.new _ _).alloc (by simp) _)
  have hb1 : Bs ((w.alloc (.cells #[.int .u8 255] 5)).alloc (.cells #[.int .u8 107, .int .u8 101, .int .u8 101, .int .u8 108] 5 (4, 5))) (some ⟨w.heap.size, 0, none⟩) 1 [255] := Kp.bs (Kp.new _ _) (Bs.lit w [.int .u8 255] 5 (0, 0) _ 1 [255] rfl rfl rfl (by omega))
  have hb2 : Bs ((w.alloc (.cells #[.int .u8 255] 5)).alloc (.cells #[.int .u8 107, .int .u8 101, .int .u8 101, .int .u8 108] 5 (4, 5))) (some ⟨w.heap.size + 1, 0, none⟩) 4 [107, 101, 101, 108] := Bs.lit _ [.int .u8 107, .int .u8 101, .int .u8 101, .int .u8 108] 5 (4, 5) _ 4 _ (by simp) rfl rfl (by omega)
  (with_reducible refine (put_any _ _ _ 1 4 _ _ [255] [107, 101, 101, 108] hb1 hb2 (by omega) (by omega)).mono ?_)
  rintro e w1 ⟨g1, rfl, ho1, hk1⟩
  have hk1 := Kp.trans hw0 hk1
  have hB1 : Bs w1 (some ⟨g1, 0, none⟩) 7 [255, 0, 4, 107, 101, 101, 108] := ho1.bs
  clear hw0 hb1 hb2 hcv ho1
  go_wp2_with fail
  have hR : Rdr ((w1.alloc (.cells #[.slice none 0 0, .int .i64 0] 39)).alloc (.cells #[.int .u8 0, .int .u8 2, .int .u8 97] 5)) 0 w1.heap.size none [] 0 := (Rdr.new w1 0 _ 39 rfl).keep (Fr.new [] _ _) (by simp)
  have hs : Bs ((w1.alloc (.cells #[.slice none 0 0, .int .i64 0] 39)).alloc (.cells #[.int .u8 0, .int .u8 2, .int .u8 97] 5)) (some ⟨w1.heap.size + 1, 0, none⟩) 3 [0, 2, 97] := Bs.lit _ [.int .u8 0, .int .u8 2, .int .u8 97] 5 (0, 0) _ 3 _ (by simp) rfl rfl (by omega)
  have hkk : Kp w1 ((w1.alloc (.cells #[.slice none 0 0, .int .i64 0] 39)).alloc (.cells #[.int .u8 0, .int .u8 2, .int .u8 97] 5)) := ((Kp.new _ _).alloc (by simp) _)
  (with_reducible refine (hR.feed (Nat.zero_le _) hs (by simp [blkL, blk]) (by simp)).mono ?_)
  rintro e w2 ⟨rfl, ao2, hR2, hF2, hN2⟩
  have hF12 : Fr [] w1 w2 := Fr.step ((Fr.of_kp hkk)) hF2 (by simp [blkL, blk])
  have hr2 : w1.heap.size < w2.heap.size := by have := hR2.lt w1.heap.size (by simp); exact this
  clear hkk hs hR hF2
  go_wp2_with fail
  (with_reducible refine (hR2.next_no (by simp) rfl).mono ?_)
  rintro e w3 ⟨rfl, hR3, hF3⟩
  have hF13 := hF12.trans hF3
  clear hR2 hF3 hF12
  go_wp2_with fail
  have hs : Bs (w3.alloc (.cells #[.int .u8 98, .int .u8 0] 5)) (some ⟨w3.heap.size, 0, none⟩) 2 [98, 0] := Bs.lit _ [.int .u8 98, .int .u8 0] 5 (0, 0) _ 2 _ rfl rfl rfl (by omega)
  have hr3 : ∀ k ∈ w1.heap.size :: blkL ao2, k < w3.heap.size := hR3.lt
  (with_reducible refine ((hR3.keep (Fr.new [] _ _) (by simp)).feed (Nat.zero_le _) hs (fun k hk hk2 => by have := hr3 k hk2; simp [blkL, blk] at hk; omega) (by simp)).mono ?_)
  rintro e w4 ⟨rfl, ao4, hR4, hF4, hN4⟩
  have hge : ∀ j ∈ w1.heap.size :: blkL ao2, w1.heap.size ≤ j := by
    intro j hj
    rcases List.mem_cons.1 hj with rfl | hj
    · exact Nat.le_refl _
    · rcases hN2 j hj with h | h
      · simp [blkL, blk] at h
      · simp at h; omega
  have hF14 : Fr [] w1 w4 := (hF13.trans (Fr.new [] _ _)).step hF4 (fun j hj => .inr (hge j hj))
  clear hs hF4
  go_wp2_with fail
  (with_reducible refine (hR4.next_yes (by simp) (m := [97, 98]) (rest := [0]) rfl).mono ?_)
  rintro e w5 ⟨bo, cap5, rfl, ho5, hR5, hF5⟩
  have hF15 : Fr [] w1 w5 := hF14.step hF5 (fun j hj => .inr (hge j (by simp at hj; simp [hj])))
  have hB5 := hF15.bs hB1 (by simp)
  have hM5 := ho5.bs
  clear hF5 hF14 hF13 hB1 ho5
  go_wp2_with (at_make; refine wpList_mk rfl _ _ 22 rfl el22 rfl 65536 rfl rfl rfl rfl (by omega) ?_; intro w6 ho6 hk6)
  have hH6 : HasErr w6 a := Kp.err hk6 (Kp.err hF15.kp (Kp.err hk1 H.out))
  have hbig : Bs w6 (some ⟨w5.heap.size, 0, none⟩) 65536 (List.replicate 65536 (0 : UInt8)) := by
    have e : List.replicate 65536 (Value.int .u8 0) = (List.replicate 65536 (0 : UInt8)).map by8 := by rw [List.map_replicate]; rfl
    rw [e] at ho6
    exact ho6.bs
  (with_reducible refine (put_long _ a hH6 _ _ _ _ _ _ _ hbig (by omega)).mono ?_)
  rintro e w7 ⟨rfl, q7, rfl⟩
  have hF17 : Fr [] w5 (w6.drewN q7) := (Fr.of_kp hk6).trans (Fr.drewN [] _ _)
  have hB7 := hF17.bs hB5 (by simp)
  have hM7 := hF17.bs hM5 (by simp)
  have hR7 := hR5.keep hF17 (by simp)
  have hH7 : HasErr (w6.drewN q7) a := hH6
  have hK7 : Kp w (w6.drewN q7) := Kp.trans hk1 (hF15.trans hF17).kp
  clear hbig ho6 hk6 hR5 hR4 hM5 hB5 hF17 hF15 hH6
  go_wp2_with fail
  have hF78 : Fr [] (w6.drewN q7) ((w6.drewN q7).alloc (.cells #[.int .u8 255, .int .u8 0, .int .u8 4, .int .u8 107, .int .u8 101, .int .u8 101, .int .u8 108] 5)) := Fr.new _ _ _
  have hl8 : Bs ((w6.drewN q7).alloc (.cells #[.int .u8 255, .int .u8 0, .int .u8 4, .int .u8 107, .int .u8 101, .int .u8 101, .int .u8 108] 5)) (some ⟨w6.heap.size, 0, none⟩) 7 [255, 0, 4, 107, 101, 101, 108] := Bs.lit _ [.int .u8 255, .int .u8 0, .int .u8 4, .int .u8 107, .int .u8 101, .int .u8 101, .int .u8 108] 5 (0, 0) _ 7 _ rfl rfl rfl (by omega)
  (with_reducible refine (same_any _ _ _ _ _ _ _ [255, 0, 4, 107, 101, 101, 108] [255, 0, 4, 107, 101, 101, 108] (hF78.bs hB7 (by simp)) hl8).mono ?_)
  rintro e w8 ⟨rfl, q8, rfl⟩
  have hF8 := hF78.trans (Fr.drewN [] _ q8)
  generalize hw8 : ((w6.drewN q7).alloc (.cells #[.int .u8 255, .int .u8 0, .int .u8 4, .int .u8 107, .int .u8 101, .int .u8 101, .int .u8 108] 5)).drewN q8 = w8 at hF8 ⊢
  clear hw8 hF78 hl8 hB7
  have hM8 := hF8.bs hM7 (by simp)
  have hR8 := hR7.keep hF8 (by simp)
  have hH8 : w8.cell? ⟨0, 0, none⟩ = some (.iface 61 (.pointer (some a))) := Kp.err hF8.kp hH7
  have hK8 : Kp w w8 := Kp.trans hK7 hF8.kp
  clear hM7 hR7 hH7 hK7 hF8 H
  obtain ⟨bb, boff, rfl, _, hcm⟩ := hM8.at 0 (by simp)
  have hcv := run_convert_bytes_back (P := Tryd.prog) w8 22 9 5 ⟨bb, boff, none⟩ cap5 [97, 98] Tryd.underlying22 Tryd.underlying5 Tryd.underlying9 (fun j hj => by rw [Addr.add_lit]; exact hcm j hj)
  simp only [List.length_cons, List.length_nil, Nat.zero_add, Nat.reduceAdd] at hcv
  clear hcm
  obtain ⟨i, hi, hcmp⟩ := Option.map_eq_some_iff.1 Tryd.comp61
  obtain ⟨j, hj, _⟩ := Option.map_eq_some_iff.1 Tryd.size78
  have heq := fun w => run_eql_iface_ptr_same (P := Tryd.prog) w a Tryd.underlying25 Tryd.underlying61 hi hcmp hj
  have HK8 := Lib.hid hK8; clear hK8
  go_wp2_with fail
  (with_reducible refine (hR8.held (by simp)).mono ?_)
  rintro e w9 ⟨rfl, q9, rfl⟩
  simp only [List.length_cons, List.length_nil, Nat.zero_add]
  go_wp2
  go_ret
  exact ⟨rfl, Kp.trans HK8.out (Kp.of_drewN _ _)⟩
#print axioms known_yes
end Go.Proofs.YtkpdbdlkihgofaaDoor
