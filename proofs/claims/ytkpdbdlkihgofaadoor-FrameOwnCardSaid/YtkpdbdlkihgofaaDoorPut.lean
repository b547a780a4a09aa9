/- Put of the program and of the reference answer the same list, or the error. Condition: the arguments read as lists of bytes. -/
import Derived.Test.YtkpdbdlkihgofaaDoorRoom
import Derived.LaidEql
namespace Go.Proofs.YtkpdbdlkihgofaaDoor
open Go.RowKit

theorem Tryd.comp61 : (Tryd.prog.info? 61).map (·.comparable) = some true := by kernel_rfl
theorem Tryd.size78 : (Tryd.prog.info? 78).map (·.size) = some 1 := by kernel_rfl

/-- The variable ErrLong holds this error. -/
def HasErr (w : World) (a : Addr) : Prop := w.cell? ⟨0, 0, none⟩ = some (.iface 61 (.pointer (some a)))
theorem Kp.err {w w' : World} (h : Kp w w') {a : Addr} (he : HasErr w a) : HasErr w' a := Kp.cell h he

set_option maxHeartbeats 400000 in
theorem code_nil (w : World) : Calls Tryd.prog 12 #[.nilIface] w fun e w' => e = .returned (.int .i64 0) ∧ ∃ k, w' = w.drewN k := by
  go_enter Tryd.func12, Tryd.ntmps12
  go_wp2
  go_ret
  exact ⟨rfl, 0, rfl⟩
set_option maxHeartbeats 400000 in
theorem code_long (w : World) (a : Addr) (h : HasErr w a) : Calls Tryd.prog 12 #[.iface 61 (.pointer (some a))] w fun e w' => e = .returned (.int .i64 3) ∧ ∃ k, w' = w.drewN k := by
  unfold HasErr at h
  obtain ⟨i, hi, hcmp⟩ := Option.map_eq_some_iff.1 Tryd.comp61
  obtain ⟨j, hj, _⟩ := Option.map_eq_some_iff.1 Tryd.size78
  have he := fun w => run_eql_iface_ptr_same (P := Tryd.prog) w a Tryd.underlying25 Tryd.underlying61 hi hcmp hj
  go_enter Tryd.func12, Tryd.ntmps12
  go_wp2
  go_ret
  exact ⟨rfl, 0, rfl⟩

/-- What both Puts answer. -/
def putL (xs ys : List UInt8) : List UInt8 := xs ++ [UInt8.ofNat (ys.length / 256), UInt8.ofNat (ys.length % 256)] ++ ys

theorem put_cells (xs ys : List UInt8) (m : Nat) (hm : ys.length = m) (h : m ≤ 65535) :
    (putL xs ys).map by8 = xs.map by8 ++ [.int .u8 ((m : Int) / 256), .int .u8 ((m : Int) % 256)] ++ ys.map by8 := by
  subst hm
  have h1 : (UInt8.ofNat (ys.length / 256)).toNat = ys.length / 256 := by simp only [UInt8.toNat_ofNat']; omega
  have h2 : (UInt8.ofNat (ys.length % 256)).toNat = ys.length % 256 := by simp only [UInt8.toNat_ofNat']; omega
  simp only [putL, List.map_append, List.map_cons, List.map_nil, by8, h1, h2]
  simp

set_option maxHeartbeats 800000 in
theorem put_any (w : World) (ao bo : Option Addr) (n m c d : Nat) (xs ys : List UInt8) (hx : Bs w ao n xs) (hy : Bs w bo m ys) (hn : n ≤ 1000000000) (hm : m ≤ 65535) :
    Calls Tryd.prog 10 #[.slice ao n c, .slice bo m d] w fun e w' => ∃ g, e = .returned (.tuple #[.slice (some ⟨g, 0, none⟩) (n + 2 + m) (n + 2 + m), .nilIface]) ∧
      Own w' w.heap.size 5 1 (some ⟨g, 0, none⟩) (n + 2 + m) (n + 2 + m) ((putL xs ys).map by8) ∧ Kp w w' := by
  have hxl : (xs.map by8).length = n * 1 := by simp [hx.1]
  have hyl : (ys.map by8).length = m * 1 := by simp [hy.1]
  have Hxl := Lib.hid hxl; clear hxl
  have Hyl := Lib.hid hyl; clear hyl
  go_enter Tryd.func10, Tryd.ntmps10
  go_wp2_with (first
    | (at_make; refine wpList_mk0 rfl _ _ 22 rfl el22 (n + 2 + m) rfl rfl (by omega) (by omega) ?_; intro w1 ho1 hk1)
    | (at_builtin; refine wpList_app rfl (.tmp 20) (.tmp 21) 22 rfl el22 w.heap.size rfl ho1 rfl (xs.map by8) Hxl.out (hk1.cs hx.2.2) (cells_map_one _ (fun _ => rfl) _) n (by omega) (xs.map by8) (by simp) (by omega) hk1.size ?_; intro ao2 cap2 w2 ha2; have hk2 := ha2.below hk1 hk1.size (fun k hk => (ho1.lt k hk).1); obtain ⟨rfl, rfl⟩ := ha2.room (by omega) (by simp))
    | (at_builtin; (refine wpList_app rfl (.tmp 23) (.tmp 29) 22 rfl el22 w.heap.size rfl (ha2.own.keep (Kp.new _ _)) rfl [.int .u8 ((m : Int) / 256), .int .u8 ((m : Int) % 256)] rfl (Cs.new _ _ _ _) (by simp [Value.oneCell']) (n + 2) rfl (xs.map by8 ++ [.int .u8 ((m : Int) / 256), .int .u8 ((m : Int) % 256)]) rfl (by omega) (by have := hk2.size; simp; omega) ?_); intro ao3 cap3 w3 ha3; have hk3 := ha3.below (hk2.alloc hk2.size _) (by have := hk2.size; simp; omega) (fun k hk => (ha2.own.lt k hk).1); obtain ⟨rfl, rfl⟩ := ha3.room (by omega) (by simp))
    | (at_builtin; go_loud (refine wpList_app rfl (.tmp 31) (.tmp 32) 22 rfl el22 w.heap.size rfl ha3.own rfl (ys.map by8) Hyl.out (Kp.cs hk3 hy.2.2) (cells_map_one _ (fun _ => rfl) _) (n + 2 + m) rfl ((putL xs ys).map by8) (put_cells xs ys m hy.1 hm) (by omega) hk3.size ?_); intro ao4 cap4 w4 ha4; have hk4 := ha4.below hk3 hk3.size (fun k hk => (ha3.own.lt k hk).1); obtain ⟨rfl, rfl⟩ := ha4.room (by omega) (by simp))
   )
  go_ret2
  exact ⟨_, rfl, ha4.own, hk4⟩

set_option maxHeartbeats 400000 in
theorem put_long (w : World) (a : Addr) (h : HasErr w a) (ao bo : Option Addr) (n m c d : Nat) (ys : List UInt8) (hy : Bs w bo m ys) (hm : 65535 < m) :
    Calls Tryd.prog 10 #[.slice ao n c, .slice bo m d] w fun e w' => e = .returned (.tuple #[.slice none 0 0, .iface 61 (.pointer (some a))]) ∧ ∃ k, w' = w.drewN k := by
  unfold HasErr at h
  have hm2 := hy.2.1
  unfold maxLen at hm2
  go_enter Tryd.func10, Tryd.ntmps10
  go_wp2
  go_quiet (fail)
  go_wp2
  go_ret2
  exact ⟨rfl, _, rfl⟩

set_option maxHeartbeats 800000 in
theorem refPut_any (w : World) (ao bo : Option Addr) (n m c d : Nat) (xs ys : List UInt8) (hx : Bs w ao n xs) (hy : Bs w bo m ys) (hn : n ≤ 1000000000) (hm : m ≤ 65535) :
    Calls Tryd.prog 11 #[.slice ao n c, .slice bo m d] w fun e w' => ∃ ro cap, e = .returned (.tuple #[.slice ro (n + 2 + m) cap, .int .i64 0]) ∧
      Own w' w.heap.size 5 1 ro (n + 2 + m) cap ((putL xs ys).map by8) ∧ Kp w w' := by
  have hxl : (xs.map by8).length = n * 1 := by simp [hx.1]
  have hyl : (ys.map by8).length = m * 1 := by simp [hy.1]
  have Hxl := Lib.hid hxl; clear hxl
  have Hyl := Lib.hid hyl; clear hyl
  have ho1 := Own.nil w w.heap.size 5 1
  go_enter Tryd.func11, Tryd.ntmps11
  go_wp2_with (first
    | (at_builtin; refine wpList_app rfl (.tmp 10) (.tmp 11) 22 rfl el22 w.heap.size rfl ho1 rfl (xs.map by8) Hxl.out hx.2.2 (cells_map_one _ (fun _ => rfl) _) n (by omega) (xs.map by8) (by simp) (by omega) (Nat.le_refl _) ?_; intro ao2 cap2 w2 ha2; have hk2 := ha2.below (Kp.refl w) (Nat.le_refl _) (fun k hk => (ho1.lt k hk).1))
    | (at_builtin; refine wpList_app rfl (.tmp 13) (.tmp 22) 22 rfl el22 w.heap.size rfl (ha2.own.keep (Kp.new _ _)) rfl [.int .u8 ((m : Int) / 256), .int .u8 ((m : Int) % 256)] rfl (Cs.new _ _ _ _) (by simp [Value.oneCell']) (n + 2) rfl (xs.map by8 ++ [.int .u8 ((m : Int) / 256), .int .u8 ((m : Int) % 256)]) rfl (by omega) (by have := hk2.size; simp; omega) ?_; intro ao3 cap3 w3 ha3; have hk3 := ha3.below (hk2.alloc hk2.size _) (by have := hk2.size; simp; omega) (fun k hk => (ha2.own.lt k hk).1))
    | (at_builtin; refine wpList_app rfl (.tmp 24) (.tmp 25) 22 rfl el22 w.heap.size rfl ha3.own rfl (ys.map by8) Hyl.out (Kp.cs hk3 hy.2.2) (cells_map_one _ (fun _ => rfl) _) (n + 2 + m) rfl ((putL xs ys).map by8) (put_cells xs ys m hy.1 hm) (by omega) hk3.size ?_; intro ao4 cap4 w4 ha4; have hk4 := ha4.below hk3 hk3.size (fun k hk => (ha3.own.lt k hk).1))
   )
  go_ret2
  exact ⟨_, _, rfl, ha4.own, hk4⟩

set_option maxHeartbeats 400000 in
theorem refPut_long (w : World) (ao bo : Option Addr) (n m c d : Nat) (ys : List UInt8) (hy : Bs w bo m ys) (hm : 65535 < m) :
    Calls Tryd.prog 11 #[.slice ao n c, .slice bo m d] w fun e w' => e = .returned (.tuple #[.slice none 0 0, .int .i64 3]) ∧ ∃ k, w' = w.drewN k := by
  have hm2 := hy.2.1
  unfold maxLen at hm2
  go_enter Tryd.func11, Tryd.ntmps11
  go_wp2
  go_ret2
  exact ⟨rfl, 0, rfl⟩
#print axioms refPut_any
#print axioms put_long
end Go.Proofs.YtkpdbdlkihgofaaDoor
