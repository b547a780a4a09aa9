/- The first message taken back, as the document does it. Conditions: the pattern lies there. -/
import Derived.Test.YtkmejehhdjdlbaaGreatDoorGb7
import Derived.Test.YtkmejehhdjdlbaaGreatDoorRefShaped
namespace Go.Proofs.YtkmejehhdjdlbaaGreatDoor
open Go.RowKit

/-- What has been counted when k of the two lists have gone by. -/
def doneK (xs b : List Int) : Nat → List Int
  | 0 => []
  | 1 => xs
  | _ => xs ++ b
theorem cnt_le (l : List Int) : l.count 1 ≤ l.length ∧ l.countP (· != 1) ≤ l.length := ⟨List.count_le_length, List.countP_le_length⟩
theorem cnt_step (d m : List Int) (j : Nat) (h : j < m.length) : (d ++ m.take (j + 1)).count 1 = (if m[j] = 1 then (d ++ m.take j).count 1 + 1 else (d ++ m.take j).count 1) ∧
    (d ++ m.take (j + 1)).countP (· != 1) = (if m[j] = 1 then (d ++ m.take j).countP (· != 1) else (d ++ m.take j).countP (· != 1) + 1) := by
  rw [take_step m j h, ← List.append_assoc]
  generalize d ++ m.take j = l
  rw [List.count_append, List.countP_append]
  by_cases hx : m[j] = 1
  · rw [if_pos hx, if_pos hx, hx]; simp
  · rw [if_neg hx, if_neg hx]
    constructor
    · rw [List.count_singleton]; simp [hx]
    · simp [hx]
/-- What back answers, by what it counts. -/
theorem back_known (nm : Q.Bt) (b0 b1 : List Int) (l : Ln) (r : List Ln) : (okB l.2 = false → Q.backR ⟨nm, b0, b1, l :: r⟩ = none) ∧ (okB l.2 = true →
    (1 < (l.2 ++ Q.bef ⟨nm, b0, b1, l :: r⟩ l.1).count 1 ∨ 1 < (l.2 ++ Q.bef ⟨nm, b0, b1, l :: r⟩ l.1).countP (· != 1) → Q.backR ⟨nm, b0, b1, l :: r⟩ = none) ∧
    (∀ k, ¬ (1 < (l.2 ++ Q.bef ⟨nm, b0, b1, l :: r⟩ l.1).count 1 ∨ 1 < (l.2 ++ Q.bef ⟨nm, b0, b1, l :: r⟩ l.1).countP (· != 1)) →
      k = (if (l.2 ++ Q.bef ⟨nm, b0, b1, l :: r⟩ l.1).count 1 = 1 then [1] else []) ++ (if (l.2 ++ Q.bef ⟨nm, b0, b1, l :: r⟩ l.1).countP (· != 1) = 1 then [2] else []) →
      Q.backR ⟨nm, b0, b1, l :: r⟩ = some ⟨nm, if l.1 = 0 then k else b0, if l.1 = 0 then b1 else k, r⟩)) := by
  unfold Q.backR
  simp only
  refine ⟨fun h => by rw [h]; rfl, fun h => ⟨fun hc => by rw [if_pos h, if_pos hc], fun k hc hk => ?_⟩⟩
  rw [if_pos h, if_neg hc, ← hk]
  unfold Q.setBef
  split <;> rfl
theorem fresh_two {w3 w4 : World} {x : Nat} {ka : Option Addr} {o o' : Obj} (hs : (w3.alloc o).heap.size ≤ w4.heap.size) (ha : blk ka = some x → blk none = some x ∨ x = (w3.alloc o).heap.size) (hb : blk ka = some x ∨ x = (w4.alloc o').heap.size) : w3.heap.size ≤ x := by
  rw [World.size_alloc] at hs ha
  rw [World.size_alloc] at hb
  rcases hb with q | q
  · rcases ha q with q2 | q2
    · simp [blk] at q2
    · omega
  · omega
/-- What is answered: no, or the pattern with what is known ahead in a list of the call's own. -/
def RBackPost (w : World) (nm : ByteArray) (a0 a1 al : Option Addr) (n0 c0 n1 c1 nl cl : Nat) (b0 b1 : List Int) (l : Ln) (r : List Ln) (e : Ending) (w' : World) : Prop := Kp w w' ∧
  match Q.backR ⟨nm.data.toList, b0, b1, l :: r⟩ with
  | none => e = .returned (.tuple #[patV nm a0 a1 al n0 c0 n1 c1 nl cl, .bool false])
  | some q => ∃ t : Tv, e = .returned (.tuple #[.agg #[.string nm, if l.1 = 0 then tvv t else .slice a0 n0 c0, if l.1 = 0 then .slice a1 n1 c1 else tvv t, tvv (subT ⟨al, nl, cl⟩ 1)], .bool true]) ∧ Own w' w.heap.size 3 1 t.ao t.n t.c ((if l.1 = 0 then q.b0 else q.b1).map iv) ∧
      q.nm = nm.data.toList ∧ q.ls = r ∧ (if l.1 = 0 then q.b1 = b1 else q.b0 = b0) ∧ (if l.1 = 0 then q.b0 else q.b1).length ≤ 2
theorem RBackPost.no {w w' : World} {nm : ByteArray} {a0 a1 al : Option Addr} {n0 c0 n1 c1 nl cl : Nat} {b0 b1 : List Int} {l : Ln} {r : List Ln} (h : Q.backR ⟨nm.data.toList, b0, b1, l :: r⟩ = none) (k : Kp w w') : RBackPost w nm a0 a1 al n0 c0 n1 c1 nl cl b0 b1 l r (.returned (.tuple #[patV nm a0 a1 al n0 c0 n1 c1 nl cl, .bool false])) w' := ⟨k, by rw [h]⟩
theorem RBackPost.yes0 {w w' : World} {nm : ByteArray} {a0 a1 al : Option Addr} {n0 c0 n1 c1 nl cl : Nat} {b0 b1 xs k : List Int} {r : List Ln} (h : Q.backR ⟨nm.data.toList, b0, b1, (0, xs) :: r⟩ = some ⟨nm.data.toList, if ((0 : Int), xs).1 = 0 then k else b0, if ((0 : Int), xs).1 = 0 then b1 else k, r⟩) (hk : Kp w w') (t : Tv) (ho : Own w' w.heap.size 3 1 t.ao t.n t.c (k.map iv)) (hl : k.length ≤ 2) :
    RBackPost w nm a0 a1 al n0 c0 n1 c1 nl cl b0 b1 (0, xs) r (.returned (.tuple #[.agg #[.string nm, tvv t, .slice a1 n1 c1, tvv (subT ⟨al, nl, cl⟩ 1)], .bool true])) w' := ⟨hk, by rw [h]; exact ⟨t, by simp, by simpa using ho, rfl, rfl, by simp, by simpa using hl⟩⟩
theorem RBackPost.yes1 {w w' : World} {nm : ByteArray} {a0 a1 al : Option Addr} {n0 c0 n1 c1 nl cl : Nat} {b0 b1 xs k : List Int} {r : List Ln} (h : Q.backR ⟨nm.data.toList, b0, b1, (1, xs) :: r⟩ = some ⟨nm.data.toList, if ((1 : Int), xs).1 = 0 then k else b0, if ((1 : Int), xs).1 = 0 then b1 else k, r⟩) (hk : Kp w w') (t : Tv) (ho : Own w' w.heap.size 3 1 t.ao t.n t.c (k.map iv)) (hl : k.length ≤ 2) :
    RBackPost w nm a0 a1 al n0 c0 n1 c1 nl cl b0 b1 (1, xs) r (.returned (.tuple #[.agg #[.string nm, .slice a0 n0 c0, tvv t, tvv (subT ⟨al, nl, cl⟩ 1)], .bool true])) w' := ⟨hk, by rw [h]; exact ⟨t, by simp, by simpa using ho, rfl, rfl, by simp, by simpa using hl⟩⟩
set_option maxRecDepth 100000 in
set_option maxHeartbeats 16000000 in
theorem rback_0 (w : World) (nm : ByteArray) (a0 a1 al : Option Addr) (n0 c0 n1 c1 nl cl : Nat) (b0 b1 xs : List Int) (r : List Ln) (hP : PatI w a0 a1 al n0 n1 nl b0 b1 ((0, xs) :: r)) (hb : b0.length ≤ 10000) (hx : xs.length ≤ 10000) (hc : nl ≤ cl) (hl : nl ≤ 10000) :
    Calls Tryz.prog 83 #[patV nm a0 a1 al n0 c0 n1 c1 nl cl] w (RBackPost w nm a0 a1 al n0 c0 n1 c1 nl cl b0 b1 (0, xs) r) := by
  have hnl : nl = r.length + 1 := by have := hP.il.1; simp at this; omega
  have hpos : 0 < nl := by omega
  have Hnl := Lib.hid hnl
  obtain ⟨gq, go, tp, tn, tc, rfl, hd1, hd2, hI, htn⟩ := hP.il.2.2 0 (by simp)
  simp only [Nat.zero_mul, Nat.add_zero, List.getElem_cons_zero] at hd1 hd2 hI
  have hbk : (okB xs = false → Q.backR ⟨nm.data.toList, b0, b1, (0, xs) :: r⟩ = none) ∧ (okB xs = true →
    (1 < (xs ++ b0).count 1 ∨ 1 < (xs ++ b0).countP (· != 1) → Q.backR ⟨nm.data.toList, b0, b1, (0, xs) :: r⟩ = none) ∧
    (∀ k, ¬ (1 < (xs ++ b0).count 1 ∨ 1 < (xs ++ b0).countP (· != 1)) →
      k = (if (xs ++ b0).count 1 = 1 then [1] else []) ++ (if (xs ++ b0).countP (· != 1) = 1 then [2] else []) →
      Q.backR ⟨nm.data.toList, b0, b1, (0, xs) :: r⟩ = some ⟨nm.data.toList, if ((0 : Int), xs).1 = 0 then k else b0, if ((0 : Int), xs).1 = 0 then b1 else k, r⟩)) := back_known nm.data.toList b0 b1 (0, xs) r
  have Hbk := Lib.hid hbk
  clear hnl hbk
  have hkA := Kp.new w (.cells #[.string nm, .slice a0 n0 c0, .slice a1 n1 c1, .slice (some ⟨gq, go, none⟩) nl cl] 26)
  have hkB := Kp.new (w.alloc (.cells #[.string nm, .slice a0 n0 c0, .slice a1 n1 c1, .slice (some ⟨gq, go, none⟩) nl cl] 26)) (.cells #[.string ⟨#[]⟩, .slice none 0 0, .slice none 0 0, .slice none 0 0] 26)
  have hFA := (Four.new w (.string nm) (.slice a0 n0 c0) (.slice a1 n1 c1) (.slice (some ⟨gq, go, none⟩) nl cl) 26).kp hkB
  have hFB := Four.new (w.alloc (.cells #[.string nm, .slice a0 n0 c0, .slice a1 n1 c1, .slice (some ⟨gq, go, none⟩) nl cl] 26)) (.string ⟨#[]⟩) (.slice none 0 0) (.slice none 0 0) (.slice none 0 0) 26
  rw [World.size_alloc] at hFB
  have hkw := Kp.trans hkA hkB
  clear hkA hkB
  go_enter Tryz.func83, Tryz.ntmps83
  go_upto_region 1 with fail
  obtain ⟨bx, hbx⟩ : ∃ bx, bx = w.heap.size := ⟨_, rfl⟩
  rw [← hbx] at hFA hFB ⊢
  generalize (w.alloc (.cells #[.string nm, .slice a0 n0 c0, .slice a1 n1 c1, .slice (some ⟨gq, go, none⟩) nl cl] 26)).alloc (.cells #[.string ⟨#[]⟩, .slice none 0 0, .slice none 0 0, .slice none 0 0] 26) = wb at *
  have Hbx := Lib.hid hbx
  clear hbx
  have hP3 := hP.kp hkw
  replace hd1 := hkw.cell hd1
  replace hd2 := hkw.cell hd2
  have HF1 := Lib.hid hFA
  have HG1 := Lib.hid hFB
  have hk2 := Kp.new wb (.cells #[iv 0, .slice tp tn tc] 73)
  have hT2 := Two2.new wb (iv 0) (.slice tp tn tc) 73
  have HT2 := Lib.hid hT2
  have Hkw2 := Lib.hid (Kp.trans hkw hk2)
  have HF2 := Lib.hid (hFA.kp hk2)
  have HG2 := Lib.hid (hFB.kp hk2)
  have HI := Lib.hid hI
  have HPw := Lib.hid hP
  have hbxw : bx < wb.heap.size := by have := hFA.lt; omega
  have hbxw1 : bx + 1 < wb.heap.size := hFB.lt
  have hsg : bx + 2 ≤ wb.heap.size := by omega
  obtain ⟨y0, y1, y2, y3, _, _, _, _⟩ := hFA
  clear hk2 hkw hFB hP3 hI hP hT2
  go_upto_region 2 with fail
  clear y0 y1 y2 y3 hd1 hd2
  obtain ⟨bl, hbl⟩ : ∃ bl, bl = wb.heap.size := ⟨_, rfl⟩
  rw [← hbl] at HT2 ⊢
  have hbln : bx < bl ∧ bx + 1 < bl := by omega
  clear hbl
  generalize wb.alloc (.cells #[iv 0, .slice tp tn tc] 73) = w2 at *
  obtain ⟨t0, t1, _, _⟩ := HT2.out
  have HAh := Lib.hid (ahead_any w2 tp tn tc xs (Hkw2.out.is HI.out))
  go_wp2_with fail
  (with_reducible refine HAh.out.mono ?_)
  rintro e w3 ⟨rfl, hk3⟩
  have HK3 := Lib.hid (Kp.trans Hkw2.out hk3)
  have HF3 := Lib.hid (HF2.out.kp hk3)
  have HG3 := Lib.hid (HG2.out.kp hk3)
  have HT3 := Lib.hid (HT2.out.kp hk3)
  have Hsz := Lib.hid (show w.heap.size + 3 ≤ w3.heap.size by have := hk3.size; have := Hbx.out; have := World.block_lt_of_cell? _ _ HT2.out.c0; simp at this; omega)
  clear hk3 t0 t1
  cases hok : okB xs with
  | false =>
    have hno := Hbk.out.1 hok
    have Hno := Lib.hid hno
    obtain ⟨wf, hwf, hFf, h4⟩ := HG3.out.set (.string nm) (.slice a0 n0 c0) (.slice a1 n1 c1) (.slice (some ⟨gq, go, none⟩) nl cl)
    have HKf := Lib.hid (kp_step' HK3.out hFf (by intro j hj; simp at hj; have := Hbx.out; omega))
    have Hwf := Lib.hid hwf
    obtain ⟨q0, q1, q2, q3, _, _, _, _⟩ := h4
    obtain ⟨y0, y1, y2, y3, z0, z1, z2, z3⟩ := HF3.out
    obtain ⟨x0, x1, x2, x3, f0, f1, f2, f3⟩ := HG3.out
    clear hok hno hwf hFf
    go_wp2_with fail
    rw [← Hwf.out]
    refine bodyPost_ret (v := .tuple #[patV nm a0 a1 (some ⟨gq, go, none⟩) n0 c0 n1 c1 nl cl, .bool false]) (by simp [results, Tryz.results83, go_sem, q0, q1, q2, q3, patV]) rfl ?_
    exact RBackPost.no Hno.out HKf.out
  | true =>
    have hbk := Hbk.out.2 hok
    have Hbk2 := Lib.hid hbk
    have HI3 := Lib.hid (HK3.out.is HI.out)
    have HJ3 := Lib.hid (HK3.out.is HPw.out.i0)
    have hxn : tn ≤ 10000 := by rw [← HI.out.1]; exact hx
    have hbn : n0 ≤ 10000 := by rw [← HPw.out.i0.1]; exact hb
    clear hok hbk
    go_wp2_with fail
    go_loopw [5, 6, 7] (fun ev sv i wr => ∃ k : Nat, k ≤ 2 ∧ i = .int .i64 (k : Nat) ∧ ev = .int .i64 (((doneK xs b0 k).count 1 : Nat) : Int) ∧ sv = .int .i64 (((doneK xs b0 k).countP (· != 1) : Nat) : Int) ∧ w3 = wr) (fun _ _ i _ => 2 - (intOf i).toNat)
    case atStart => exact ⟨0, by omega, rfl, rfl, rfl, rfl⟩
    case round =>
      obtain ⟨k, hk, rfl, rfl, rfl, rfl⟩ := hrel
      obtain ⟨t0, t1, _, _⟩ := HT3.out
      obtain ⟨y0, y1, y2, y3, z0, z1, z2, z3⟩ := HF3.out
      obtain h | h | h : k = 0 ∨ k = 1 ∨ k = 2 := by omega
      · subst h
        rw [show ((0 : Nat) : Int) = 0 from rfl]
        rw [show doneK xs b0 0 = [] from rfl]
        go_wp2_with fail
        go_loopw [5, 6, 9] (fun ev sv i wr => ∃ j : Nat, j ≤ tn ∧ i = .int .i64 (j : Nat) ∧ ev = .int .i64 (((([]) ++ xs.take j).count 1 : Nat) : Int) ∧ sv = .int .i64 (((([]) ++ xs.take j).countP (· != 1) : Nat) : Int) ∧ w3 = wr) (fun _ _ i _ => tn - (intOf i).toNat)
        case atStart => exact ⟨0, by omega, rfl, by simp, by simp, rfl⟩
        case round =>
          obtain ⟨j, hj, rfl, rfl, rfl, rfl⟩ := hrel
          have hcle := cnt_le (([]) ++ xs.take j)
          have hlen : (([]) ++ xs.take j).length ≤ 20000 := by have := HI3.out.1; simp; omega
          by_cases hlt : j < tn
          · have hjl : j < xs.length := by rw [HI3.out.1]; exact hlt
            obtain ⟨g9, o9, e9, _, hc9⟩ := HI3.out.at j hlt
            have hce := hc9 j hlt
            have Hs1 := Lib.hid (cnt_step ([]) xs j hjl)
            clear hc9
            subst e9
            generalize xs[j] = x at *
            generalize hE : (([]) ++ xs.take j).count 1 = e at *
            generalize hS : (([]) ++ xs.take j).countP (· != 1) = s at *
            have HE := Lib.hid hE
            have HS := Lib.hid hS
            clear hE hS
            by_cases hx : x = 1
            · have Hx := Lib.hid hx
              subst hx
              go_wp2_with fail
              go_roundw
              case rel => exact ⟨j + 1, by omega, by go_num, by rw [Hs1.out.1, if_pos rfl]; go_num, by rw [Hs1.out.2, if_pos rfl], trivial⟩
              case measure => simp [intOf]; omega
            · have hb : (x == 1) = false := by simp [hx]
              have Hx := Lib.hid hx
              clear hx
              go_wp2_with fail
              go_roundw
              case rel => exact ⟨j + 1, by omega, by go_num, by rw [Hs1.out.1, if_neg Hx.out], by rw [Hs1.out.2, if_neg Hx.out]; go_num, trivial⟩
              case measure => simp [intOf]; omega
          · obtain rfl : j = tn := by omega
            have Hfin := Lib.hid (show ([]) ++ xs.take j = doneK xs b0 1 by rw [List.take_of_length_le (by rw [HI3.out.1]; exact Nat.le_refl _)]; rfl)
            go_wp2_with fail
            go_roundw
            case rel => exact ⟨1, by omega, rfl, by rw [← Hfin.out], by rw [← Hfin.out], trivial⟩
            case measure => simp [intOf]
      · subst h
        rw [show ((1 : Nat) : Int) = 1 from rfl]
        rw [show doneK xs b0 1 = xs from rfl]
        go_wp2_with fail
        go_loopw [5, 6, 9] (fun ev sv i wr => ∃ j : Nat, j ≤ n0 ∧ i = .int .i64 (j : Nat) ∧ ev = .int .i64 ((((xs) ++ b0.take j).count 1 : Nat) : Int) ∧ sv = .int .i64 ((((xs) ++ b0.take j).countP (· != 1) : Nat) : Int) ∧ w3 = wr) (fun _ _ i _ => n0 - (intOf i).toNat)
        case atStart => exact ⟨0, by omega, rfl, by simp, by simp, rfl⟩
        case round =>
          obtain ⟨j, hj, rfl, rfl, rfl, rfl⟩ := hrel
          have hcle := cnt_le ((xs) ++ b0.take j)
          have hlen : ((xs) ++ b0.take j).length ≤ 20000 := by have := HJ3.out.1; simp; omega
          by_cases hlt : j < n0
          · have hjl : j < b0.length := by rw [HJ3.out.1]; exact hlt
            obtain ⟨g9, o9, e9, _, hc9⟩ := HJ3.out.at j hlt
            have hce := hc9 j hlt
            have Hs1 := Lib.hid (cnt_step (xs) b0 j hjl)
            clear hc9
            subst e9
            generalize b0[j] = x at *
            generalize hE : ((xs) ++ b0.take j).count 1 = e at *
            generalize hS : ((xs) ++ b0.take j).countP (· != 1) = s at *
            have HE := Lib.hid hE
            have HS := Lib.hid hS
            clear hE hS
            by_cases hx : x = 1
            · have Hx := Lib.hid hx
              subst hx
              go_wp2_with fail
              go_roundw
              case rel => exact ⟨j + 1, by omega, by go_num, by rw [Hs1.out.1, if_pos rfl]; go_num, by rw [Hs1.out.2, if_pos rfl], trivial⟩
              case measure => simp [intOf]; omega
            · have hb : (x == 1) = false := by simp [hx]
              have Hx := Lib.hid hx
              clear hx
              go_wp2_with fail
              go_roundw
              case rel => exact ⟨j + 1, by omega, by go_num, by rw [Hs1.out.1, if_neg Hx.out], by rw [Hs1.out.2, if_neg Hx.out]; go_num, trivial⟩
              case measure => simp [intOf]; omega
          · obtain rfl : j = n0 := by omega
            have Hfin := Lib.hid (show (xs) ++ b0.take j = doneK xs b0 2 by rw [List.take_of_length_le (by rw [HJ3.out.1]; exact Nat.le_refl _)]; rfl)
            go_wp2_with fail
            go_roundw
            case rel => exact ⟨2, by omega, rfl, by rw [← Hfin.out], by rw [← Hfin.out], trivial⟩
            case measure => simp [intOf]
      · subst h
        rw [show ((2 : Nat) : Int) = 2 from rfl]
        rw [show doneK xs b0 2 = xs ++ b0 from rfl]
        clear y0 y1 y2 y3 z0 z1 z2 z3 t0 t1
        have Hc2 := Lib.hid (And.intro (Eq.refl ((xs ++ b0).count 1)) (Eq.refl ((xs ++ b0).countP (· != 1))))
        have hcle := cnt_le (xs ++ b0)
        have hlen : (xs ++ b0).length ≤ 20000 := by simp; omega
        generalize hE : (xs ++ b0).count 1 = e at *
        generalize hS : (xs ++ b0).countP (· != 1) = s at *
        replace Hc2 := Lib.hid (And.intro hE hS)
        clear hE hS
        by_cases hbad : 1 < e ∨ 1 < s
        · have Hno := Lib.hid (Hbk2.out.1 hbad)
          obtain ⟨wf, hwf, hFf, h4⟩ := HG3.out.set (.string nm) (.slice a0 n0 c0) (.slice a1 n1 c1) (.slice (some ⟨gq, go, none⟩) nl cl)
          have HKf := Lib.hid (kp_step' HK3.out hFf (by intro j hj; simp at hj; have := Hbx.out; omega))
          have Hwf := Lib.hid hwf
          obtain ⟨q0, q1, q2, q3, _, _, _, _⟩ := h4
          obtain ⟨y0, y1, y2, y3, z0, z1, z2, z3⟩ := HF3.out
          obtain ⟨x0, x1, x2, x3, f0, f1, f2, f3⟩ := HG3.out
          clear hwf hFf
          by_cases he1 : 1 < e
          · clear hbad
            go_wp2_with fail
            rw [← Hwf.out]
            refine bodyPost_ret (v := .tuple #[patV nm a0 a1 (some ⟨gq, go, none⟩) n0 c0 n1 c1 nl cl, .bool false]) (by simp [results, Tryz.results83, go_sem, q0, q1, q2, q3, patV]) rfl ?_
            exact RBackPost.no Hno.out HKf.out
          · have hs1 : 1 < s := by omega
            clear hbad
            go_wp2_with fail
            rw [← Hwf.out]
            refine bodyPost_ret (v := .tuple #[patV nm a0 a1 (some ⟨gq, go, none⟩) n0 c0 n1 c1 nl cl, .bool false]) (by simp [results, Tryz.results83, go_sem, q0, q1, q2, q3, patV]) rfl ?_
            exact RBackPost.no Hno.out HKf.out
        · obtain he | he : e = 0 ∨ e = 1 := by omega
          · obtain hs | hs : s = 0 ∨ s = 1 := by omega
            · subst he; subst hs
              clear hbad hcle
              go_upto_region 25 with fail
              have hk9 : Kp w3 w3 := Kp.refl _
              have hfresh9 : ∀ x ∈ blkL none, w3.heap.size ≤ x := fun x hx => by simp [blkL, blk] at hx
              have hO9 : Own w3 w.heap.size 3 1 none 0 0 (([] : List Int).map iv) := Own.nil _ _ _ _
              have Hback := Lib.hid (Hbk2.out.2 [] (by omega) rfl)
              have HF9 := Lib.hid (HF3.out.kp hk9)
              have HG9 := Lib.hid (HG3.out.kp hk9)
              have HT9 := Lib.hid (HT3.out.kp hk9)
              have Hk9 := Lib.hid hk9
              have Hfr9 := Lib.hid hfresh9
              have HO9 := Lib.hid hO9
              clear hk9 hfresh9 hO9
              obtain ⟨y0, y1, y2, y3, z0, z1, z2, z3⟩ := HF9.out
              obtain ⟨t0, t1, _, _⟩ := HT9.out
              by_cases hc1 : cl = 1
              · have hn1 : nl = 1 := by omega
                subst hc1; subst hn1
                have Hsub := Lib.hid (show tvv (subT ⟨some ⟨gq, go, none⟩, 1, 1⟩ 1) = (.slice (some ⟨gq, go, none⟩) 0 0) by unfold subT; simp [tvv])
                have hs1 := Fr.set w3 ⟨bx, 1, none⟩ (.slice none 0 0)
                have HF10 := Lib.hid (HF9.out.set1 (.slice none 0 0))
                have hs2 := Fr.set (w3.setCell ⟨bx, 1, none⟩ (.slice none 0 0)) ⟨bx, 3, none⟩ (.slice (some ⟨gq, go, none⟩) 0 0)
                have HF11 := Lib.hid (HF10.out.set3 (.slice (some ⟨gq, go, none⟩) 0 0))
                have HG11 := Lib.hid ((HG9.out.fr hs1 (by simp)).fr hs2 (by simp))
                obtain ⟨wf, hwf, hFf, h4⟩ := HG11.out.set (.string nm) (.slice none 0 0) (.slice a1 n1 c1) (.slice (some ⟨gq, go, none⟩) 0 0)
                have hfr : Fr [bx, bx + 1] w3 wf := ((hs1.mono (Y := [bx, bx + 1]) (by simp)).trans (hs2.mono (Y := [bx, bx + 1]) (by simp))).trans (hFf.mono (Y := [bx, bx + 1]) (by simp))
                have HKf := Lib.hid (kp_step' (Kp.trans HK3.out Hk9.out) hfr (by intro j hj; simp at hj; have := Hbx.out; omega))
                have HOf := Lib.hid (hfr.own HO9.out (fun x hx hq => by have := Hfr9.out x hx; have := Hsz.out; have := Hbx.out; simp at hq; omega))
                have Hwf := Lib.hid hwf
                obtain ⟨q0, q1, q2, q3, _, _, _, _⟩ := h4
                clear hwf hFf hfr hs1 hs2
                go_upto_region 26 with fail
                clear y0 y1 y2 y3 z0 z1 z2 z3
                obtain ⟨y0, y1, y2, y3, z0, z1, z2, z3⟩ := HF10.out
                go_upto_region 27 with fail
                clear y0 y1 y2 y3 z0 z1 z2 z3
                obtain ⟨y0, y1, y2, y3, z0, z1, z2, z3⟩ := HF11.out
                obtain ⟨x0, x1, x2, x3, f0, f1, f2, f3⟩ := HG11.out
                go_wp2_with fail
                rw [← Hwf.out]
                refine bodyPost_ret (v := .tuple #[.agg #[.string nm, .slice none 0 0, .slice a1 n1 c1, (.slice (some ⟨gq, go, none⟩) 0 0)], .bool true]) (by simp [results, Tryz.results83, go_sem, q0, q1, q2, q3]) rfl ?_
                rw [← Hsub.out]
                exact RBackPost.yes0 Hback.out HKf.out ⟨none, 0, 0⟩ HOf.out (by decide)
              · have hcl1 : cl ≠ 1 := hc1
                clear hc1
                have Hsub := Lib.hid (show tvv (subT ⟨some ⟨gq, go, none⟩, nl, cl⟩ 1) = (.slice (some ⟨gq, go + 2, none⟩) (nl - 1) (cl - 1)) by unfold subT; simp [tvv, Addr.add_lit, hcl1])
                have hs1 := Fr.set w3 ⟨bx, 1, none⟩ (.slice none 0 0)
                have HF10 := Lib.hid (HF9.out.set1 (.slice none 0 0))
                have hs2 := Fr.set (w3.setCell ⟨bx, 1, none⟩ (.slice none 0 0)) ⟨bx, 3, none⟩ (.slice (some ⟨gq, go + 2, none⟩) (nl - 1) (cl - 1))
                have HF11 := Lib.hid (HF10.out.set3 (.slice (some ⟨gq, go + 2, none⟩) (nl - 1) (cl - 1)))
                have HG11 := Lib.hid ((HG9.out.fr hs1 (by simp)).fr hs2 (by simp))
                obtain ⟨wf, hwf, hFf, h4⟩ := HG11.out.set (.string nm) (.slice none 0 0) (.slice a1 n1 c1) (.slice (some ⟨gq, go + 2, none⟩) (nl - 1) (cl - 1))
                have hfr : Fr [bx, bx + 1] w3 wf := ((hs1.mono (Y := [bx, bx + 1]) (by simp)).trans (hs2.mono (Y := [bx, bx + 1]) (by simp))).trans (hFf.mono (Y := [bx, bx + 1]) (by simp))
                have HKf := Lib.hid (kp_step' (Kp.trans HK3.out Hk9.out) hfr (by intro j hj; simp at hj; have := Hbx.out; omega))
                have HOf := Lib.hid (hfr.own HO9.out (fun x hx hq => by have := Hfr9.out x hx; have := Hsz.out; have := Hbx.out; simp at hq; omega))
                have Hwf := Lib.hid hwf
                obtain ⟨q0, q1, q2, q3, _, _, _, _⟩ := h4
                clear hwf hFf hfr hs1 hs2
                go_upto_region 26 with fail
                clear y0 y1 y2 y3 z0 z1 z2 z3
                obtain ⟨y0, y1, y2, y3, z0, z1, z2, z3⟩ := HF10.out
                go_upto_region 27 with fail
                clear y0 y1 y2 y3 z0 z1 z2 z3
                obtain ⟨y0, y1, y2, y3, z0, z1, z2, z3⟩ := HF11.out
                obtain ⟨x0, x1, x2, x3, f0, f1, f2, f3⟩ := HG11.out
                go_wp2_with fail
                rw [← Hwf.out]
                refine bodyPost_ret (v := .tuple #[.agg #[.string nm, .slice none 0 0, .slice a1 n1 c1, (.slice (some ⟨gq, go + 2, none⟩) (nl - 1) (cl - 1))], .bool true]) (by simp [results, Tryz.results83, go_sem, q0, q1, q2, q3]) rfl ?_
                rw [← Hsub.out]
                exact RBackPost.yes0 Hback.out HKf.out ⟨none, 0, 0⟩ HOf.out (by decide)
            · subst he; subst hs
              clear hbad hcle
              go_upto_region 25 with (first | (at_builtin; (refine wpList_app rfl (.tmp 62) (.tmp 63) 22 rfl el22 w.heap.size rfl (Own.nil _ _ _ _) rfl [iv 2] rfl (Cs.new w3 [iv 2] 3 (0, 0)) (by simp [Value.oneCell']) 1 rfl ([iv 2]) rfl (by omega) (by have := Hsz.out; simp; omega) ?_); intro ka kc w4 ha; have HA := Lib.hid ha; clear ha))
              have hk9 : Kp w3 w4 := kp_step' (Kp.new w3 (.cells #[iv 2] 3)) HA.out.fr (by simp [blkL, blk])
              have hfresh9 : ∀ x ∈ blkL ka, w3.heap.size ≤ x := fun x hx => by rcases HA.out.fresh x (mem_blkL.1 hx) with q | q <;> first | (simp [blk] at q; done) | (rw [q]; simp)
              have hO9 : Own w4 w.heap.size 3 1 ka 1 kc (([2] : List Int).map iv) := HA.out.own
              have Hback := Lib.hid (Hbk2.out.2 [2] (by omega) rfl)
              have HF9 := Lib.hid (HF3.out.kp hk9)
              have HG9 := Lib.hid (HG3.out.kp hk9)
              have HT9 := Lib.hid (HT3.out.kp hk9)
              have Hk9 := Lib.hid hk9
              have Hfr9 := Lib.hid hfresh9
              have HO9 := Lib.hid hO9
              clear hk9 hfresh9 hO9
              obtain ⟨y0, y1, y2, y3, z0, z1, z2, z3⟩ := HF9.out
              obtain ⟨t0, t1, _, _⟩ := HT9.out
              by_cases hc1 : cl = 1
              · have hn1 : nl = 1 := by omega
                subst hc1; subst hn1
                have Hsub := Lib.hid (show tvv (subT ⟨some ⟨gq, go, none⟩, 1, 1⟩ 1) = (.slice (some ⟨gq, go, none⟩) 0 0) by unfold subT; simp [tvv])
                have hs1 := Fr.set w4 ⟨bx, 1, none⟩ (.slice ka 1 kc)
                have HF10 := Lib.hid (HF9.out.set1 (.slice ka 1 kc))
                have hs2 := Fr.set (w4.setCell ⟨bx, 1, none⟩ (.slice ka 1 kc)) ⟨bx, 3, none⟩ (.slice (some ⟨gq, go, none⟩) 0 0)
                have HF11 := Lib.hid (HF10.out.set3 (.slice (some ⟨gq, go, none⟩) 0 0))
                have HG11 := Lib.hid ((HG9.out.fr hs1 (by simp)).fr hs2 (by simp))
                obtain ⟨wf, hwf, hFf, h4⟩ := HG11.out.set (.string nm) (.slice ka 1 kc) (.slice a1 n1 c1) (.slice (some ⟨gq, go, none⟩) 0 0)
                have hfr : Fr [bx, bx + 1] w4 wf := ((hs1.mono (Y := [bx, bx + 1]) (by simp)).trans (hs2.mono (Y := [bx, bx + 1]) (by simp))).trans (hFf.mono (Y := [bx, bx + 1]) (by simp))
                have HKf := Lib.hid (kp_step' (Kp.trans HK3.out Hk9.out) hfr (by intro j hj; simp at hj; have := Hbx.out; omega))
                have HOf := Lib.hid (hfr.own HO9.out (fun x hx hq => by have := Hfr9.out x hx; have := Hsz.out; have := Hbx.out; simp at hq; omega))
                have Hwf := Lib.hid hwf
                obtain ⟨q0, q1, q2, q3, _, _, _, _⟩ := h4
                clear hwf hFf hfr hs1 hs2
                go_upto_region 26 with fail
                clear y0 y1 y2 y3 z0 z1 z2 z3
                obtain ⟨y0, y1, y2, y3, z0, z1, z2, z3⟩ := HF10.out
                go_upto_region 27 with fail
                clear y0 y1 y2 y3 z0 z1 z2 z3
                obtain ⟨y0, y1, y2, y3, z0, z1, z2, z3⟩ := HF11.out
                obtain ⟨x0, x1, x2, x3, f0, f1, f2, f3⟩ := HG11.out
                go_wp2_with fail
                rw [← Hwf.out]
                refine bodyPost_ret (v := .tuple #[.agg #[.string nm, .slice ka 1 kc, .slice a1 n1 c1, (.slice (some ⟨gq, go, none⟩) 0 0)], .bool true]) (by simp [results, Tryz.results83, go_sem, q0, q1, q2, q3]) rfl ?_
                rw [← Hsub.out]
                exact RBackPost.yes0 Hback.out HKf.out ⟨ka, 1, kc⟩ HOf.out (by decide)
              · have hcl1 : cl ≠ 1 := hc1
                clear hc1
                have Hsub := Lib.hid (show tvv (subT ⟨some ⟨gq, go, none⟩, nl, cl⟩ 1) = (.slice (some ⟨gq, go + 2, none⟩) (nl - 1) (cl - 1)) by unfold subT; simp [tvv, Addr.add_lit, hcl1])
                have hs1 := Fr.set w4 ⟨bx, 1, none⟩ (.slice ka 1 kc)
                have HF10 := Lib.hid (HF9.out.set1 (.slice ka 1 kc))
                have hs2 := Fr.set (w4.setCell ⟨bx, 1, none⟩ (.slice ka 1 kc)) ⟨bx, 3, none⟩ (.slice (some ⟨gq, go + 2, none⟩) (nl - 1) (cl - 1))
                have HF11 := Lib.hid (HF10.out.set3 (.slice (some ⟨gq, go + 2, none⟩) (nl - 1) (cl - 1)))
                have HG11 := Lib.hid ((HG9.out.fr hs1 (by simp)).fr hs2 (by simp))
                obtain ⟨wf, hwf, hFf, h4⟩ := HG11.out.set (.string nm) (.slice ka 1 kc) (.slice a1 n1 c1) (.slice (some ⟨gq, go + 2, none⟩) (nl - 1) (cl - 1))
                have hfr : Fr [bx, bx + 1] w4 wf := ((hs1.mono (Y := [bx, bx + 1]) (by simp)).trans (hs2.mono (Y := [bx, bx + 1]) (by simp))).trans (hFf.mono (Y := [bx, bx + 1]) (by simp))
                have HKf := Lib.hid (kp_step' (Kp.trans HK3.out Hk9.out) hfr (by intro j hj; simp at hj; have := Hbx.out; omega))
                have HOf := Lib.hid (hfr.own HO9.out (fun x hx hq => by have := Hfr9.out x hx; have := Hsz.out; have := Hbx.out; simp at hq; omega))
                have Hwf := Lib.hid hwf
                obtain ⟨q0, q1, q2, q3, _, _, _, _⟩ := h4
                clear hwf hFf hfr hs1 hs2
                go_upto_region 26 with fail
                clear y0 y1 y2 y3 z0 z1 z2 z3
                obtain ⟨y0, y1, y2, y3, z0, z1, z2, z3⟩ := HF10.out
                go_upto_region 27 with fail
                clear y0 y1 y2 y3 z0 z1 z2 z3
                obtain ⟨y0, y1, y2, y3, z0, z1, z2, z3⟩ := HF11.out
                obtain ⟨x0, x1, x2, x3, f0, f1, f2, f3⟩ := HG11.out
                go_wp2_with fail
                rw [← Hwf.out]
                refine bodyPost_ret (v := .tuple #[.agg #[.string nm, .slice ka 1 kc, .slice a1 n1 c1, (.slice (some ⟨gq, go + 2, none⟩) (nl - 1) (cl - 1))], .bool true]) (by simp [results, Tryz.results83, go_sem, q0, q1, q2, q3]) rfl ?_
                rw [← Hsub.out]
                exact RBackPost.yes0 Hback.out HKf.out ⟨ka, 1, kc⟩ HOf.out (by decide)
          · obtain hs | hs : s = 0 ∨ s = 1 := by omega
            · subst he; subst hs
              clear hbad hcle
              go_upto_region 25 with (first | (at_builtin; (refine wpList_app rfl (.tmp 57) (.tmp 58) 22 rfl el22 w.heap.size rfl (Own.nil _ _ _ _) rfl [iv 1] rfl (Cs.new w3 [iv 1] 3 (0, 0)) (by simp [Value.oneCell']) 1 rfl ([iv 1]) rfl (by omega) (by have := Hsz.out; simp; omega) ?_); intro ka kc w4 ha; have HA := Lib.hid ha; clear ha))
              have hk9 : Kp w3 w4 := kp_step' (Kp.new w3 (.cells #[iv 1] 3)) HA.out.fr (by simp [blkL, blk])
              have hfresh9 : ∀ x ∈ blkL ka, w3.heap.size ≤ x := fun x hx => by rcases HA.out.fresh x (mem_blkL.1 hx) with q | q <;> first | (simp [blk] at q; done) | (rw [q]; simp)
              have hO9 : Own w4 w.heap.size 3 1 ka 1 kc (([1] : List Int).map iv) := HA.out.own
              have Hback := Lib.hid (Hbk2.out.2 [1] (by omega) rfl)
              have HF9 := Lib.hid (HF3.out.kp hk9)
              have HG9 := Lib.hid (HG3.out.kp hk9)
              have HT9 := Lib.hid (HT3.out.kp hk9)
              have Hk9 := Lib.hid hk9
              have Hfr9 := Lib.hid hfresh9
              have HO9 := Lib.hid hO9
              clear hk9 hfresh9 hO9
              obtain ⟨y0, y1, y2, y3, z0, z1, z2, z3⟩ := HF9.out
              obtain ⟨t0, t1, _, _⟩ := HT9.out
              by_cases hc1 : cl = 1
              · have hn1 : nl = 1 := by omega
                subst hc1; subst hn1
                have Hsub := Lib.hid (show tvv (subT ⟨some ⟨gq, go, none⟩, 1, 1⟩ 1) = (.slice (some ⟨gq, go, none⟩) 0 0) by unfold subT; simp [tvv])
                have hs1 := Fr.set w4 ⟨bx, 1, none⟩ (.slice ka 1 kc)
                have HF10 := Lib.hid (HF9.out.set1 (.slice ka 1 kc))
                have hs2 := Fr.set (w4.setCell ⟨bx, 1, none⟩ (.slice ka 1 kc)) ⟨bx, 3, none⟩ (.slice (some ⟨gq, go, none⟩) 0 0)
                have HF11 := Lib.hid (HF10.out.set3 (.slice (some ⟨gq, go, none⟩) 0 0))
                have HG11 := Lib.hid ((HG9.out.fr hs1 (by simp)).fr hs2 (by simp))
                obtain ⟨wf, hwf, hFf, h4⟩ := HG11.out.set (.string nm) (.slice ka 1 kc) (.slice a1 n1 c1) (.slice (some ⟨gq, go, none⟩) 0 0)
                have hfr : Fr [bx, bx + 1] w4 wf := ((hs1.mono (Y := [bx, bx + 1]) (by simp)).trans (hs2.mono (Y := [bx, bx + 1]) (by simp))).trans (hFf.mono (Y := [bx, bx + 1]) (by simp))
                have HKf := Lib.hid (kp_step' (Kp.trans HK3.out Hk9.out) hfr (by intro j hj; simp at hj; have := Hbx.out; omega))
                have HOf := Lib.hid (hfr.own HO9.out (fun x hx hq => by have := Hfr9.out x hx; have := Hsz.out; have := Hbx.out; simp at hq; omega))
                have Hwf := Lib.hid hwf
                obtain ⟨q0, q1, q2, q3, _, _, _, _⟩ := h4
                clear hwf hFf hfr hs1 hs2
                go_upto_region 26 with fail
                clear y0 y1 y2 y3 z0 z1 z2 z3
                obtain ⟨y0, y1, y2, y3, z0, z1, z2, z3⟩ := HF10.out
                go_upto_region 27 with fail
                clear y0 y1 y2 y3 z0 z1 z2 z3
                obtain ⟨y0, y1, y2, y3, z0, z1, z2, z3⟩ := HF11.out
                obtain ⟨x0, x1, x2, x3, f0, f1, f2, f3⟩ := HG11.out
                go_wp2_with fail
                rw [← Hwf.out]
                refine bodyPost_ret (v := .tuple #[.agg #[.string nm, .slice ka 1 kc, .slice a1 n1 c1, (.slice (some ⟨gq, go, none⟩) 0 0)], .bool true]) (by simp [results, Tryz.results83, go_sem, q0, q1, q2, q3]) rfl ?_
                rw [← Hsub.out]
                exact RBackPost.yes0 Hback.out HKf.out ⟨ka, 1, kc⟩ HOf.out (by decide)
              · have hcl1 : cl ≠ 1 := hc1
                clear hc1
                have Hsub := Lib.hid (show tvv (subT ⟨some ⟨gq, go, none⟩, nl, cl⟩ 1) = (.slice (some ⟨gq, go + 2, none⟩) (nl - 1) (cl - 1)) by unfold subT; simp [tvv, Addr.add_lit, hcl1])
                have hs1 := Fr.set w4 ⟨bx, 1, none⟩ (.slice ka 1 kc)
                have HF10 := Lib.hid (HF9.out.set1 (.slice ka 1 kc))
                have hs2 := Fr.set (w4.setCell ⟨bx, 1, none⟩ (.slice ka 1 kc)) ⟨bx, 3, none⟩ (.slice (some ⟨gq, go + 2, none⟩) (nl - 1) (cl - 1))
                have HF11 := Lib.hid (HF10.out.set3 (.slice (some ⟨gq, go + 2, none⟩) (nl - 1) (cl - 1)))
                have HG11 := Lib.hid ((HG9.out.fr hs1 (by simp)).fr hs2 (by simp))
                obtain ⟨wf, hwf, hFf, h4⟩ := HG11.out.set (.string nm) (.slice ka 1 kc) (.slice a1 n1 c1) (.slice (some ⟨gq, go + 2, none⟩) (nl - 1) (cl - 1))
                have hfr : Fr [bx, bx + 1] w4 wf := ((hs1.mono (Y := [bx, bx + 1]) (by simp)).trans (hs2.mono (Y := [bx, bx + 1]) (by simp))).trans (hFf.mono (Y := [bx, bx + 1]) (by simp))
                have HKf := Lib.hid (kp_step' (Kp.trans HK3.out Hk9.out) hfr (by intro j hj; simp at hj; have := Hbx.out; omega))
                have HOf := Lib.hid (hfr.own HO9.out (fun x hx hq => by have := Hfr9.out x hx; have := Hsz.out; have := Hbx.out; simp at hq; omega))
                have Hwf := Lib.hid hwf
                obtain ⟨q0, q1, q2, q3, _, _, _, _⟩ := h4
                clear hwf hFf hfr hs1 hs2
                go_upto_region 26 with fail
                clear y0 y1 y2 y3 z0 z1 z2 z3
                obtain ⟨y0, y1, y2, y3, z0, z1, z2, z3⟩ := HF10.out
                go_upto_region 27 with fail
                clear y0 y1 y2 y3 z0 z1 z2 z3
                obtain ⟨y0, y1, y2, y3, z0, z1, z2, z3⟩ := HF11.out
                obtain ⟨x0, x1, x2, x3, f0, f1, f2, f3⟩ := HG11.out
                go_wp2_with fail
                rw [← Hwf.out]
                refine bodyPost_ret (v := .tuple #[.agg #[.string nm, .slice ka 1 kc, .slice a1 n1 c1, (.slice (some ⟨gq, go + 2, none⟩) (nl - 1) (cl - 1))], .bool true]) (by simp [results, Tryz.results83, go_sem, q0, q1, q2, q3]) rfl ?_
                rw [← Hsub.out]
                exact RBackPost.yes0 Hback.out HKf.out ⟨ka, 1, kc⟩ HOf.out (by decide)
            · subst he; subst hs
              clear hbad hcle
              go_upto_region 25 with (first | (at_builtin; (refine wpList_app rfl (.tmp 57) (.tmp 58) 22 rfl el22 w.heap.size rfl (Own.nil _ _ _ _) rfl [iv 1] rfl (Cs.new w3 [iv 1] 3 (0, 0)) (by simp [Value.oneCell']) 1 rfl ([iv 1]) rfl (by omega) (by have := Hsz.out; simp; omega) ?_); intro ka kc w4 ha; have HA := Lib.hid ha; clear ha) | (at_builtin; (refine wpList_app rfl (.tmp 62) (.tmp 63) 22 rfl el22 w.heap.size rfl (Own.keep HA.out.own (Kp.new w4 (.cells #[iv 2] 3))) rfl [iv 2] rfl (Cs.new w4 [iv 2] 3 (0, 0)) (by simp [Value.oneCell']) 2 rfl ([iv 1, iv 2]) rfl (by omega) (by have := Hsz.out; have := HA.out.fr.size; simp at this ⊢; omega) ?_); intro kb kd w5 hb; have HB := Lib.hid hb; clear hb))
              have hk9 : Kp w3 w5 := kp_step' (Kp.trans (kp_step' (Kp.new w3 (.cells #[iv 1] 3)) HA.out.fr (by simp [blkL, blk])) (Kp.new w4 (.cells #[iv 2] 3))) HB.out.fr (fun j hj => by rcases HA.out.fresh j (mem_blkL.1 hj) with q | q <;> first | (simp [blk] at q; done) | (rw [q]; simp))
              have hfresh9 : ∀ x ∈ blkL kb, w3.heap.size ≤ x := fun x hx => fresh_two HA.out.fr.size (fun q => HA.out.fresh x q) (HB.out.fresh x (mem_blkL.1 hx))
              have hO9 : Own w5 w.heap.size 3 1 kb 2 kd (([1, 2] : List Int).map iv) := HB.out.own
              have Hback := Lib.hid (Hbk2.out.2 [1, 2] (by omega) rfl)
              have HF9 := Lib.hid (HF3.out.kp hk9)
              have HG9 := Lib.hid (HG3.out.kp hk9)
              have HT9 := Lib.hid (HT3.out.kp hk9)
              have Hk9 := Lib.hid hk9
              have Hfr9 := Lib.hid hfresh9
              have HO9 := Lib.hid hO9
              clear hk9 hfresh9 hO9
              obtain ⟨y0, y1, y2, y3, z0, z1, z2, z3⟩ := HF9.out
              obtain ⟨t0, t1, _, _⟩ := HT9.out
              by_cases hc1 : cl = 1
              · have hn1 : nl = 1 := by omega
                subst hc1; subst hn1
                have Hsub := Lib.hid (show tvv (subT ⟨some ⟨gq, go, none⟩, 1, 1⟩ 1) = (.slice (some ⟨gq, go, none⟩) 0 0) by unfold subT; simp [tvv])
                have hs1 := Fr.set w5 ⟨bx, 1, none⟩ (.slice kb 2 kd)
                have HF10 := Lib.hid (HF9.out.set1 (.slice kb 2 kd))
                have hs2 := Fr.set (w5.setCell ⟨bx, 1, none⟩ (.slice kb 2 kd)) ⟨bx, 3, none⟩ (.slice (some ⟨gq, go, none⟩) 0 0)
                have HF11 := Lib.hid (HF10.out.set3 (.slice (some ⟨gq, go, none⟩) 0 0))
                have HG11 := Lib.hid ((HG9.out.fr hs1 (by simp)).fr hs2 (by simp))
                obtain ⟨wf, hwf, hFf, h4⟩ := HG11.out.set (.string nm) (.slice kb 2 kd) (.slice a1 n1 c1) (.slice (some ⟨gq, go, none⟩) 0 0)
                have hfr : Fr [bx, bx + 1] w5 wf := ((hs1.mono (Y := [bx, bx + 1]) (by simp)).trans (hs2.mono (Y := [bx, bx + 1]) (by simp))).trans (hFf.mono (Y := [bx, bx + 1]) (by simp))
                have HKf := Lib.hid (kp_step' (Kp.trans HK3.out Hk9.out) hfr (by intro j hj; simp at hj; have := Hbx.out; omega))
                have HOf := Lib.hid (hfr.own HO9.out (fun x hx hq => by have := Hfr9.out x hx; have := Hsz.out; have := Hbx.out; simp at hq; omega))
                have Hwf := Lib.hid hwf
                obtain ⟨q0, q1, q2, q3, _, _, _, _⟩ := h4
                clear hwf hFf hfr hs1 hs2
                go_upto_region 26 with fail
                clear y0 y1 y2 y3 z0 z1 z2 z3
                obtain ⟨y0, y1, y2, y3, z0, z1, z2, z3⟩ := HF10.out
                go_upto_region 27 with fail
                clear y0 y1 y2 y3 z0 z1 z2 z3
                obtain ⟨y0, y1, y2, y3, z0, z1, z2, z3⟩ := HF11.out
                obtain ⟨x0, x1, x2, x3, f0, f1, f2, f3⟩ := HG11.out
                go_wp2_with fail
                rw [← Hwf.out]
                refine bodyPost_ret (v := .tuple #[.agg #[.string nm, .slice kb 2 kd, .slice a1 n1 c1, (.slice (some ⟨gq, go, none⟩) 0 0)], .bool true]) (by simp [results, Tryz.results83, go_sem, q0, q1, q2, q3]) rfl ?_
                rw [← Hsub.out]
                exact RBackPost.yes0 Hback.out HKf.out ⟨kb, 2, kd⟩ HOf.out (by decide)
              · have hcl1 : cl ≠ 1 := hc1
                clear hc1
                have Hsub := Lib.hid (show tvv (subT ⟨some ⟨gq, go, none⟩, nl, cl⟩ 1) = (.slice (some ⟨gq, go + 2, none⟩) (nl - 1) (cl - 1)) by unfold subT; simp [tvv, Addr.add_lit, hcl1])
                have hs1 := Fr.set w5 ⟨bx, 1, none⟩ (.slice kb 2 kd)
                have HF10 := Lib.hid (HF9.out.set1 (.slice kb 2 kd))
                have hs2 := Fr.set (w5.setCell ⟨bx, 1, none⟩ (.slice kb 2 kd)) ⟨bx, 3, none⟩ (.slice (some ⟨gq, go + 2, none⟩) (nl - 1) (cl - 1))
                have HF11 := Lib.hid (HF10.out.set3 (.slice (some ⟨gq, go + 2, none⟩) (nl - 1) (cl - 1)))
                have HG11 := Lib.hid ((HG9.out.fr hs1 (by simp)).fr hs2 (by simp))
                obtain ⟨wf, hwf, hFf, h4⟩ := HG11.out.set (.string nm) (.slice kb 2 kd) (.slice a1 n1 c1) (.slice (some ⟨gq, go + 2, none⟩) (nl - 1) (cl - 1))
                have hfr : Fr [bx, bx + 1] w5 wf := ((hs1.mono (Y := [bx, bx + 1]) (by simp)).trans (hs2.mono (Y := [bx, bx + 1]) (by simp))).trans (hFf.mono (Y := [bx, bx + 1]) (by simp))
                have HKf := Lib.hid (kp_step' (Kp.trans HK3.out Hk9.out) hfr (by intro j hj; simp at hj; have := Hbx.out; omega))
                have HOf := Lib.hid (hfr.own HO9.out (fun x hx hq => by have := Hfr9.out x hx; have := Hsz.out; have := Hbx.out; simp at hq; omega))
                have Hwf := Lib.hid hwf
                obtain ⟨q0, q1, q2, q3, _, _, _, _⟩ := h4
                clear hwf hFf hfr hs1 hs2
                go_upto_region 26 with fail
                clear y0 y1 y2 y3 z0 z1 z2 z3
                obtain ⟨y0, y1, y2, y3, z0, z1, z2, z3⟩ := HF10.out
                go_upto_region 27 with fail
                clear y0 y1 y2 y3 z0 z1 z2 z3
                obtain ⟨y0, y1, y2, y3, z0, z1, z2, z3⟩ := HF11.out
                obtain ⟨x0, x1, x2, x3, f0, f1, f2, f3⟩ := HG11.out
                go_wp2_with fail
                rw [← Hwf.out]
                refine bodyPost_ret (v := .tuple #[.agg #[.string nm, .slice kb 2 kd, .slice a1 n1 c1, (.slice (some ⟨gq, go + 2, none⟩) (nl - 1) (cl - 1))], .bool true]) (by simp [results, Tryz.results83, go_sem, q0, q1, q2, q3]) rfl ?_
                rw [← Hsub.out]
                exact RBackPost.yes0 Hback.out HKf.out ⟨kb, 2, kd⟩ HOf.out (by decide)
set_option maxRecDepth 100000 in
set_option maxHeartbeats 16000000 in
theorem rback_1 (w : World) (nm : ByteArray) (a0 a1 al : Option Addr) (n0 c0 n1 c1 nl cl : Nat) (b0 b1 xs : List Int) (r : List Ln) (hP : PatI w a0 a1 al n0 n1 nl b0 b1 ((1, xs) :: r)) (hb : b1.length ≤ 10000) (hx : xs.length ≤ 10000) (hc : nl ≤ cl) (hl : nl ≤ 10000) :
    Calls Tryz.prog 83 #[patV nm a0 a1 al n0 c0 n1 c1 nl cl] w (RBackPost w nm a0 a1 al n0 c0 n1 c1 nl cl b0 b1 (1, xs) r) := by
  have hnl : nl = r.length + 1 := by have := hP.il.1; simp at this; omega
  have hpos : 0 < nl := by omega
  have Hnl := Lib.hid hnl
  obtain ⟨gq, go, tp, tn, tc, rfl, hd1, hd2, hI, htn⟩ := hP.il.2.2 0 (by simp)
  simp only [Nat.zero_mul, Nat.add_zero, List.getElem_cons_zero] at hd1 hd2 hI
  have hbk : (okB xs = false → Q.backR ⟨nm.data.toList, b0, b1, (1, xs) :: r⟩ = none) ∧ (okB xs = true →
    (1 < (xs ++ b1).count 1 ∨ 1 < (xs ++ b1).countP (· != 1) → Q.backR ⟨nm.data.toList, b0, b1, (1, xs) :: r⟩ = none) ∧
    (∀ k, ¬ (1 < (xs ++ b1).count 1 ∨ 1 < (xs ++ b1).countP (· != 1)) →
      k = (if (xs ++ b1).count 1 = 1 then [1] else []) ++ (if (xs ++ b1).countP (· != 1) = 1 then [2] else []) →
      Q.backR ⟨nm.data.toList, b0, b1, (1, xs) :: r⟩ = some ⟨nm.data.toList, if ((1 : Int), xs).1 = 0 then k else b0, if ((1 : Int), xs).1 = 0 then b1 else k, r⟩)) := back_known nm.data.toList b0 b1 (1, xs) r
  have Hbk := Lib.hid hbk
  clear hnl hbk
  have hkA := Kp.new w (.cells #[.string nm, .slice a0 n0 c0, .slice a1 n1 c1, .slice (some ⟨gq, go, none⟩) nl cl] 26)
  have hkB := Kp.new (w.alloc (.cells #[.string nm, .slice a0 n0 c0, .slice a1 n1 c1, .slice (some ⟨gq, go, none⟩) nl cl] 26)) (.cells #[.string ⟨#[]⟩, .slice none 0 0, .slice none 0 0, .slice none 0 0] 26)
  have hFA := (Four.new w (.string nm) (.slice a0 n0 c0) (.slice a1 n1 c1) (.slice (some ⟨gq, go, none⟩) nl cl) 26).kp hkB
  have hFB := Four.new (w.alloc (.cells #[.string nm, .slice a0 n0 c0, .slice a1 n1 c1, .slice (some ⟨gq, go, none⟩) nl cl] 26)) (.string ⟨#[]⟩) (.slice none 0 0) (.slice none 0 0) (.slice none 0 0) 26
  rw [World.size_alloc] at hFB
  have hkw := Kp.trans hkA hkB
  clear hkA hkB
  go_enter Tryz.func83, Tryz.ntmps83
  go_upto_region 1 with fail
  obtain ⟨bx, hbx⟩ : ∃ bx, bx = w.heap.size := ⟨_, rfl⟩
  rw [← hbx] at hFA hFB ⊢
  generalize (w.alloc (.cells #[.string nm, .slice a0 n0 c0, .slice a1 n1 c1, .slice (some ⟨gq, go, none⟩) nl cl] 26)).alloc (.cells #[.string ⟨#[]⟩, .slice none 0 0, .slice none 0 0, .slice none 0 0] 26) = wb at *
  have Hbx := Lib.hid hbx
  clear hbx
  have hP3 := hP.kp hkw
  replace hd1 := hkw.cell hd1
  replace hd2 := hkw.cell hd2
  have HF1 := Lib.hid hFA
  have HG1 := Lib.hid hFB
  have hk2 := Kp.new wb (.cells #[iv 1, .slice tp tn tc] 73)
  have hT2 := Two2.new wb (iv 1) (.slice tp tn tc) 73
  have HT2 := Lib.hid hT2
  have Hkw2 := Lib.hid (Kp.trans hkw hk2)
  have HF2 := Lib.hid (hFA.kp hk2)
  have HG2 := Lib.hid (hFB.kp hk2)
  have HI := Lib.hid hI
  have HPw := Lib.hid hP
  have hbxw : bx < wb.heap.size := by have := hFA.lt; omega
  have hbxw1 : bx + 1 < wb.heap.size := hFB.lt
  have hsg : bx + 2 ≤ wb.heap.size := by omega
  obtain ⟨y0, y1, y2, y3, _, _, _, _⟩ := hFA
  clear hk2 hkw hFB hP3 hI hP hT2
  go_upto_region 2 with fail
  clear y0 y1 y2 y3 hd1 hd2
  obtain ⟨bl, hbl⟩ : ∃ bl, bl = wb.heap.size := ⟨_, rfl⟩
  rw [← hbl] at HT2 ⊢
  have hbln : bx < bl ∧ bx + 1 < bl := by omega
  clear hbl
  generalize wb.alloc (.cells #[iv 1, .slice tp tn tc] 73) = w2 at *
  obtain ⟨t0, t1, _, _⟩ := HT2.out
  have HAh := Lib.hid (ahead_any w2 tp tn tc xs (Hkw2.out.is HI.out))
  go_wp2_with fail
  (with_reducible refine HAh.out.mono ?_)
  rintro e w3 ⟨rfl, hk3⟩
  have HK3 := Lib.hid (Kp.trans Hkw2.out hk3)
  have HF3 := Lib.hid (HF2.out.kp hk3)
  have HG3 := Lib.hid (HG2.out.kp hk3)
  have HT3 := Lib.hid (HT2.out.kp hk3)
  have Hsz := Lib.hid (show w.heap.size + 3 ≤ w3.heap.size by have := hk3.size; have := Hbx.out; have := World.block_lt_of_cell? _ _ HT2.out.c0; simp at this; omega)
  clear hk3 t0 t1
  cases hok : okB xs with
  | false =>
    have hno := Hbk.out.1 hok
    have Hno := Lib.hid hno
    obtain ⟨wf, hwf, hFf, h4⟩ := HG3.out.set (.string nm) (.slice a0 n0 c0) (.slice a1 n1 c1) (.slice (some ⟨gq, go, none⟩) nl cl)
    have HKf := Lib.hid (kp_step' HK3.out hFf (by intro j hj; simp at hj; have := Hbx.out; omega))
    have Hwf := Lib.hid hwf
    obtain ⟨q0, q1, q2, q3, _, _, _, _⟩ := h4
    obtain ⟨y0, y1, y2, y3, z0, z1, z2, z3⟩ := HF3.out
    obtain ⟨x0, x1, x2, x3, f0, f1, f2, f3⟩ := HG3.out
    clear hok hno hwf hFf
    go_wp2_with fail
    rw [← Hwf.out]
    refine bodyPost_ret (v := .tuple #[patV nm a0 a1 (some ⟨gq, go, none⟩) n0 c0 n1 c1 nl cl, .bool false]) (by simp [results, Tryz.results83, go_sem, q0, q1, q2, q3, patV]) rfl ?_
    exact RBackPost.no Hno.out HKf.out
  | true =>
    have hbk := Hbk.out.2 hok
    have Hbk2 := Lib.hid hbk
    have HI3 := Lib.hid (HK3.out.is HI.out)
    have HJ3 := Lib.hid (HK3.out.is HPw.out.i1)
    have hxn : tn ≤ 10000 := by rw [← HI.out.1]; exact hx
    have hbn : n1 ≤ 10000 := by rw [← HPw.out.i1.1]; exact hb
    clear hok hbk
    go_wp2_with fail
    go_loopw [5, 6, 7] (fun ev sv i wr => ∃ k : Nat, k ≤ 2 ∧ i = .int .i64 (k : Nat) ∧ ev = .int .i64 (((doneK xs b1 k).count 1 : Nat) : Int) ∧ sv = .int .i64 (((doneK xs b1 k).countP (· != 1) : Nat) : Int) ∧ w3 = wr) (fun _ _ i _ => 2 - (intOf i).toNat)
    case atStart => exact ⟨0, by omega, rfl, rfl, rfl, rfl⟩
    case round =>
      obtain ⟨k, hk, rfl, rfl, rfl, rfl⟩ := hrel
      obtain ⟨t0, t1, _, _⟩ := HT3.out
      obtain ⟨y0, y1, y2, y3, z0, z1, z2, z3⟩ := HF3.out
      obtain h | h | h : k = 0 ∨ k = 1 ∨ k = 2 := by omega
      · subst h
        rw [show ((0 : Nat) : Int) = 0 from rfl]
        rw [show doneK xs b1 0 = [] from rfl]
        go_wp2_with fail
        go_loopw [5, 6, 9] (fun ev sv i wr => ∃ j : Nat, j ≤ tn ∧ i = .int .i64 (j : Nat) ∧ ev = .int .i64 (((([]) ++ xs.take j).count 1 : Nat) : Int) ∧ sv = .int .i64 (((([]) ++ xs.take j).countP (· != 1) : Nat) : Int) ∧ w3 = wr) (fun _ _ i _ => tn - (intOf i).toNat)
        case atStart => exact ⟨0, by omega, rfl, by simp, by simp, rfl⟩
        case round =>
          obtain ⟨j, hj, rfl, rfl, rfl, rfl⟩ := hrel
          have hcle := cnt_le (([]) ++ xs.take j)
          have hlen : (([]) ++ xs.take j).length ≤ 20000 := by have := HI3.out.1; simp; omega
          by_cases hlt : j < tn
          · have hjl : j < xs.length := by rw [HI3.out.1]; exact hlt
            obtain ⟨g9, o9, e9, _, hc9⟩ := HI3.out.at j hlt
            have hce := hc9 j hlt
            have Hs1 := Lib.hid (cnt_step ([]) xs j hjl)
            clear hc9
            subst e9
            generalize xs[j] = x at *
            generalize hE : (([]) ++ xs.take j).count 1 = e at *
            generalize hS : (([]) ++ xs.take j).countP (· != 1) = s at *
            have HE := Lib.hid hE
            have HS := Lib.hid hS
            clear hE hS
            by_cases hx : x = 1
            · have Hx := Lib.hid hx
              subst hx
              go_wp2_with fail
              go_roundw
              case rel => exact ⟨j + 1, by omega, by go_num, by rw [Hs1.out.1, if_pos rfl]; go_num, by rw [Hs1.out.2, if_pos rfl], trivial⟩
              case measure => simp [intOf]; omega
            · have hb : (x == 1) = false := by simp [hx]
              have Hx := Lib.hid hx
              clear hx
              go_wp2_with fail
              go_roundw
              case rel => exact ⟨j + 1, by omega, by go_num, by rw [Hs1.out.1, if_neg Hx.out], by rw [Hs1.out.2, if_neg Hx.out]; go_num, trivial⟩
              case measure => simp [intOf]; omega
          · obtain rfl : j = tn := by omega
            have Hfin := Lib.hid (show ([]) ++ xs.take j = doneK xs b1 1 by rw [List.take_of_length_le (by rw [HI3.out.1]; exact Nat.le_refl _)]; rfl)
            go_wp2_with fail
            go_roundw
            case rel => exact ⟨1, by omega, rfl, by rw [← Hfin.out], by rw [← Hfin.out], trivial⟩
            case measure => simp [intOf]
      · subst h
        rw [show ((1 : Nat) : Int) = 1 from rfl]
        rw [show doneK xs b1 1 = xs from rfl]
        go_wp2_with fail
        go_loopw [5, 6, 9] (fun ev sv i wr => ∃ j : Nat, j ≤ n1 ∧ i = .int .i64 (j : Nat) ∧ ev = .int .i64 ((((xs) ++ b1.take j).count 1 : Nat) : Int) ∧ sv = .int .i64 ((((xs) ++ b1.take j).countP (· != 1) : Nat) : Int) ∧ w3 = wr) (fun _ _ i _ => n1 - (intOf i).toNat)
        case atStart => exact ⟨0, by omega, rfl, by simp, by simp, rfl⟩
        case round =>
          obtain ⟨j, hj, rfl, rfl, rfl, rfl⟩ := hrel
          have hcle := cnt_le ((xs) ++ b1.take j)
          have hlen : ((xs) ++ b1.take j).length ≤ 20000 := by have := HJ3.out.1; simp; omega
          by_cases hlt : j < n1
          · have hjl : j < b1.length := by rw [HJ3.out.1]; exact hlt
            obtain ⟨g9, o9, e9, _, hc9⟩ := HJ3.out.at j hlt
            have hce := hc9 j hlt
            have Hs1 := Lib.hid (cnt_step (xs) b1 j hjl)
            clear hc9
            subst e9
            generalize b1[j] = x at *
            generalize hE : ((xs) ++ b1.take j).count 1 = e at *
            generalize hS : ((xs) ++ b1.take j).countP (· != 1) = s at *
            have HE := Lib.hid hE
            have HS := Lib.hid hS
            clear hE hS
            by_cases hx : x = 1
            · have Hx := Lib.hid hx
              subst hx
              go_wp2_with fail
              go_roundw
              case rel => exact ⟨j + 1, by omega, by go_num, by rw [Hs1.out.1, if_pos rfl]; go_num, by rw [Hs1.out.2, if_pos rfl], trivial⟩
              case measure => simp [intOf]; omega
            · have hb : (x == 1) = false := by simp [hx]
              have Hx := Lib.hid hx
              clear hx
              go_wp2_with fail
              go_roundw
              case rel => exact ⟨j + 1, by omega, by go_num, by rw [Hs1.out.1, if_neg Hx.out], by rw [Hs1.out.2, if_neg Hx.out]; go_num, trivial⟩
              case measure => simp [intOf]; omega
          · obtain rfl : j = n1 := by omega
            have Hfin := Lib.hid (show (xs) ++ b1.take j = doneK xs b1 2 by rw [List.take_of_length_le (by rw [HJ3.out.1]; exact Nat.le_refl _)]; rfl)
            go_wp2_with fail
            go_roundw
            case rel => exact ⟨2, by omega, rfl, by rw [← Hfin.out], by rw [← Hfin.out], trivial⟩
            case measure => simp [intOf]
      · subst h
        rw [show ((2 : Nat) : Int) = 2 from rfl]
        rw [show doneK xs b1 2 = xs ++ b1 from rfl]
        clear y0 y1 y2 y3 z0 z1 z2 z3 t0 t1
        have Hc2 := Lib.hid (And.intro (Eq.refl ((xs ++ b1).count 1)) (Eq.refl ((xs ++ b1).countP (· != 1))))
        have hcle := cnt_le (xs ++ b1)
        have hlen : (xs ++ b1).length ≤ 20000 := by simp; omega
        generalize hE : (xs ++ b1).count 1 = e at *
        generalize hS : (xs ++ b1).countP (· != 1) = s at *
        replace Hc2 := Lib.hid (And.intro hE hS)
        clear hE hS
        by_cases hbad : 1 < e ∨ 1 < s
        · have Hno := Lib.hid (Hbk2.out.1 hbad)
          obtain ⟨wf, hwf, hFf, h4⟩ := HG3.out.set (.string nm) (.slice a0 n0 c0) (.slice a1 n1 c1) (.slice (some ⟨gq, go, none⟩) nl cl)
          have HKf := Lib.hid (kp_step' HK3.out hFf (by intro j hj; simp at hj; have := Hbx.out; omega))
          have Hwf := Lib.hid hwf
          obtain ⟨q0, q1, q2, q3, _, _, _, _⟩ := h4
          obtain ⟨y0, y1, y2, y3, z0, z1, z2, z3⟩ := HF3.out
          obtain ⟨x0, x1, x2, x3, f0, f1, f2, f3⟩ := HG3.out
          clear hwf hFf
          by_cases he1 : 1 < e
          · clear hbad
            go_wp2_with fail
            rw [← Hwf.out]
            refine bodyPost_ret (v := .tuple #[patV nm a0 a1 (some ⟨gq, go, none⟩) n0 c0 n1 c1 nl cl, .bool false]) (by simp [results, Tryz.results83, go_sem, q0, q1, q2, q3, patV]) rfl ?_
            exact RBackPost.no Hno.out HKf.out
          · have hs1 : 1 < s := by omega
            clear hbad
            go_wp2_with fail
            rw [← Hwf.out]
            refine bodyPost_ret (v := .tuple #[patV nm a0 a1 (some ⟨gq, go, none⟩) n0 c0 n1 c1 nl cl, .bool false]) (by simp [results, Tryz.results83, go_sem, q0, q1, q2, q3, patV]) rfl ?_
            exact RBackPost.no Hno.out HKf.out
        · obtain he | he : e = 0 ∨ e = 1 := by omega
          · obtain hs | hs : s = 0 ∨ s = 1 := by omega
            · subst he; subst hs
              clear hbad hcle
              go_upto_region 25 with fail
              have hk9 : Kp w3 w3 := Kp.refl _
              have hfresh9 : ∀ x ∈ blkL none, w3.heap.size ≤ x := fun x hx => by simp [blkL, blk] at hx
              have hO9 : Own w3 w.heap.size 3 1 none 0 0 (([] : List Int).map iv) := Own.nil _ _ _ _
              have Hback := Lib.hid (Hbk2.out.2 [] (by omega) rfl)
              have HF9 := Lib.hid (HF3.out.kp hk9)
              have HG9 := Lib.hid (HG3.out.kp hk9)
              have HT9 := Lib.hid (HT3.out.kp hk9)
              have Hk9 := Lib.hid hk9
              have Hfr9 := Lib.hid hfresh9
              have HO9 := Lib.hid hO9
              clear hk9 hfresh9 hO9
              obtain ⟨y0, y1, y2, y3, z0, z1, z2, z3⟩ := HF9.out
              obtain ⟨t0, t1, _, _⟩ := HT9.out
              by_cases hc1 : cl = 1
              · have hn1 : nl = 1 := by omega
                subst hc1; subst hn1
                have Hsub := Lib.hid (show tvv (subT ⟨some ⟨gq, go, none⟩, 1, 1⟩ 1) = (.slice (some ⟨gq, go, none⟩) 0 0) by unfold subT; simp [tvv])
                have hs1 := Fr.set w3 ⟨bx, 2, none⟩ (.slice none 0 0)
                have HF10 := Lib.hid (HF9.out.set2 (.slice none 0 0))
                have hs2 := Fr.set (w3.setCell ⟨bx, 2, none⟩ (.slice none 0 0)) ⟨bx, 3, none⟩ (.slice (some ⟨gq, go, none⟩) 0 0)
                have HF11 := Lib.hid (HF10.out.set3 (.slice (some ⟨gq, go, none⟩) 0 0))
                have HG11 := Lib.hid ((HG9.out.fr hs1 (by simp)).fr hs2 (by simp))
                obtain ⟨wf, hwf, hFf, h4⟩ := HG11.out.set (.string nm) (.slice a0 n0 c0) (.slice none 0 0) (.slice (some ⟨gq, go, none⟩) 0 0)
                have hfr : Fr [bx, bx + 1] w3 wf := ((hs1.mono (Y := [bx, bx + 1]) (by simp)).trans (hs2.mono (Y := [bx, bx + 1]) (by simp))).trans (hFf.mono (Y := [bx, bx + 1]) (by simp))
                have HKf := Lib.hid (kp_step' (Kp.trans HK3.out Hk9.out) hfr (by intro j hj; simp at hj; have := Hbx.out; omega))
                have HOf := Lib.hid (hfr.own HO9.out (fun x hx hq => by have := Hfr9.out x hx; have := Hsz.out; have := Hbx.out; simp at hq; omega))
                have Hwf := Lib.hid hwf
                obtain ⟨q0, q1, q2, q3, _, _, _, _⟩ := h4
                clear hwf hFf hfr hs1 hs2
                go_upto_region 26 with fail
                clear y0 y1 y2 y3 z0 z1 z2 z3
                obtain ⟨y0, y1, y2, y3, z0, z1, z2, z3⟩ := HF10.out
                go_upto_region 27 with fail
                clear y0 y1 y2 y3 z0 z1 z2 z3
                obtain ⟨y0, y1, y2, y3, z0, z1, z2, z3⟩ := HF11.out
                obtain ⟨x0, x1, x2, x3, f0, f1, f2, f3⟩ := HG11.out
                go_wp2_with fail
                rw [← Hwf.out]
                refine bodyPost_ret (v := .tuple #[.agg #[.string nm, .slice a0 n0 c0, .slice none 0 0, (.slice (some ⟨gq, go, none⟩) 0 0)], .bool true]) (by simp [results, Tryz.results83, go_sem, q0, q1, q2, q3]) rfl ?_
                rw [← Hsub.out]
                exact RBackPost.yes1 Hback.out HKf.out ⟨none, 0, 0⟩ HOf.out (by decide)
              · have hcl1 : cl ≠ 1 := hc1
                clear hc1
                have Hsub := Lib.hid (show tvv (subT ⟨some ⟨gq, go, none⟩, nl, cl⟩ 1) = (.slice (some ⟨gq, go + 2, none⟩) (nl - 1) (cl - 1)) by unfold subT; simp [tvv, Addr.add_lit, hcl1])
                have hs1 := Fr.set w3 ⟨bx, 2, none⟩ (.slice none 0 0)
                have HF10 := Lib.hid (HF9.out.set2 (.slice none 0 0))
                have hs2 := Fr.set (w3.setCell ⟨bx, 2, none⟩ (.slice none 0 0)) ⟨bx, 3, none⟩ (.slice (some ⟨gq, go + 2, none⟩) (nl - 1) (cl - 1))
                have HF11 := Lib.hid (HF10.out.set3 (.slice (some ⟨gq, go + 2, none⟩) (nl - 1) (cl - 1)))
                have HG11 := Lib.hid ((HG9.out.fr hs1 (by simp)).fr hs2 (by simp))
                obtain ⟨wf, hwf, hFf, h4⟩ := HG11.out.set (.string nm) (.slice a0 n0 c0) (.slice none 0 0) (.slice (some ⟨gq, go + 2, none⟩) (nl - 1) (cl - 1))
                have hfr : Fr [bx, bx + 1] w3 wf := ((hs1.mono (Y := [bx, bx + 1]) (by simp)).trans (hs2.mono (Y := [bx, bx + 1]) (by simp))).trans (hFf.mono (Y := [bx, bx + 1]) (by simp))
                have HKf := Lib.hid (kp_step' (Kp.trans HK3.out Hk9.out) hfr (by intro j hj; simp at hj; have := Hbx.out; omega))
                have HOf := Lib.hid (hfr.own HO9.out (fun x hx hq => by have := Hfr9.out x hx; have := Hsz.out; have := Hbx.out; simp at hq; omega))
                have Hwf := Lib.hid hwf
                obtain ⟨q0, q1, q2, q3, _, _, _, _⟩ := h4
                clear hwf hFf hfr hs1 hs2
                go_upto_region 26 with fail
                clear y0 y1 y2 y3 z0 z1 z2 z3
                obtain ⟨y0, y1, y2, y3, z0, z1, z2, z3⟩ := HF10.out
                go_upto_region 27 with fail
                clear y0 y1 y2 y3 z0 z1 z2 z3
                obtain ⟨y0, y1, y2, y3, z0, z1, z2, z3⟩ := HF11.out
                obtain ⟨x0, x1, x2, x3, f0, f1, f2, f3⟩ := HG11.out
                go_wp2_with fail
                rw [← Hwf.out]
                refine bodyPost_ret (v := .tuple #[.agg #[.string nm, .slice a0 n0 c0, .slice none 0 0, (.slice (some ⟨gq, go + 2, none⟩) (nl - 1) (cl - 1))], .bool true]) (by simp [results, Tryz.results83, go_sem, q0, q1, q2, q3]) rfl ?_
                rw [← Hsub.out]
                exact RBackPost.yes1 Hback.out HKf.out ⟨none, 0, 0⟩ HOf.out (by decide)
            · subst he; subst hs
              clear hbad hcle
              go_upto_region 25 with (first | (at_builtin; (refine wpList_app rfl (.tmp 62) (.tmp 63) 22 rfl el22 w.heap.size rfl (Own.nil _ _ _ _) rfl [iv 2] rfl (Cs.new w3 [iv 2] 3 (0, 0)) (by simp [Value.oneCell']) 1 rfl ([iv 2]) rfl (by omega) (by have := Hsz.out; simp; omega) ?_); intro ka kc w4 ha; have HA := Lib.hid ha; clear ha))
              have hk9 : Kp w3 w4 := kp_step' (Kp.new w3 (.cells #[iv 2] 3)) HA.out.fr (by simp [blkL, blk])
              have hfresh9 : ∀ x ∈ blkL ka, w3.heap.size ≤ x := fun x hx => by rcases HA.out.fresh x (mem_blkL.1 hx) with q | q <;> first | (simp [blk] at q; done) | (rw [q]; simp)
              have hO9 : Own w4 w.heap.size 3 1 ka 1 kc (([2] : List Int).map iv) := HA.out.own
              have Hback := Lib.hid (Hbk2.out.2 [2] (by omega) rfl)
              have HF9 := Lib.hid (HF3.out.kp hk9)
              have HG9 := Lib.hid (HG3.out.kp hk9)
              have HT9 := Lib.hid (HT3.out.kp hk9)
              have Hk9 := Lib.hid hk9
              have Hfr9 := Lib.hid hfresh9
              have HO9 := Lib.hid hO9
              clear hk9 hfresh9 hO9
              obtain ⟨y0, y1, y2, y3, z0, z1, z2, z3⟩ := HF9.out
              obtain ⟨t0, t1, _, _⟩ := HT9.out
              by_cases hc1 : cl = 1
              · have hn1 : nl = 1 := by omega
                subst hc1; subst hn1
                have Hsub := Lib.hid (show tvv (subT ⟨some ⟨gq, go, none⟩, 1, 1⟩ 1) = (.slice (some ⟨gq, go, none⟩) 0 0) by unfold subT; simp [tvv])
                have hs1 := Fr.set w4 ⟨bx, 2, none⟩ (.slice ka 1 kc)
                have HF10 := Lib.hid (HF9.out.set2 (.slice ka 1 kc))
                have hs2 := Fr.set (w4.setCell ⟨bx, 2, none⟩ (.slice ka 1 kc)) ⟨bx, 3, none⟩ (.slice (some ⟨gq, go, none⟩) 0 0)
                have HF11 := Lib.hid (HF10.out.set3 (.slice (some ⟨gq, go, none⟩) 0 0))
                have HG11 := Lib.hid ((HG9.out.fr hs1 (by simp)).fr hs2 (by simp))
                obtain ⟨wf, hwf, hFf, h4⟩ := HG11.out.set (.string nm) (.slice a0 n0 c0) (.slice ka 1 kc) (.slice (some ⟨gq, go, none⟩) 0 0)
                have hfr : Fr [bx, bx + 1] w4 wf := ((hs1.mono (Y := [bx, bx + 1]) (by simp)).trans (hs2.mono (Y := [bx, bx + 1]) (by simp))).trans (hFf.mono (Y := [bx, bx + 1]) (by simp))
                have HKf := Lib.hid (kp_step' (Kp.trans HK3.out Hk9.out) hfr (by intro j hj; simp at hj; have := Hbx.out; omega))
                have HOf := Lib.hid (hfr.own HO9.out (fun x hx hq => by have := Hfr9.out x hx; have := Hsz.out; have := Hbx.out; simp at hq; omega))
                have Hwf := Lib.hid hwf
                obtain ⟨q0, q1, q2, q3, _, _, _, _⟩ := h4
                clear hwf hFf hfr hs1 hs2
                go_upto_region 26 with fail
                clear y0 y1 y2 y3 z0 z1 z2 z3
                obtain ⟨y0, y1, y2, y3, z0, z1, z2, z3⟩ := HF10.out
                go_upto_region 27 with fail
                clear y0 y1 y2 y3 z0 z1 z2 z3
                obtain ⟨y0, y1, y2, y3, z0, z1, z2, z3⟩ := HF11.out
                obtain ⟨x0, x1, x2, x3, f0, f1, f2, f3⟩ := HG11.out
                go_wp2_with fail
                rw [← Hwf.out]
                refine bodyPost_ret (v := .tuple #[.agg #[.string nm, .slice a0 n0 c0, .slice ka 1 kc, (.slice (some ⟨gq, go, none⟩) 0 0)], .bool true]) (by simp [results, Tryz.results83, go_sem, q0, q1, q2, q3]) rfl ?_
                rw [← Hsub.out]
                exact RBackPost.yes1 Hback.out HKf.out ⟨ka, 1, kc⟩ HOf.out (by decide)
              · have hcl1 : cl ≠ 1 := hc1
                clear hc1
                have Hsub := Lib.hid (show tvv (subT ⟨some ⟨gq, go, none⟩, nl, cl⟩ 1) = (.slice (some ⟨gq, go + 2, none⟩) (nl - 1) (cl - 1)) by unfold subT; simp [tvv, Addr.add_lit, hcl1])
                have hs1 := Fr.set w4 ⟨bx, 2, none⟩ (.slice ka 1 kc)
                have HF10 := Lib.hid (HF9.out.set2 (.slice ka 1 kc))
                have hs2 := Fr.set (w4.setCell ⟨bx, 2, none⟩ (.slice ka 1 kc)) ⟨bx, 3, none⟩ (.slice (some ⟨gq, go + 2, none⟩) (nl - 1) (cl - 1))
                have HF11 := Lib.hid (HF10.out.set3 (.slice (some ⟨gq, go + 2, none⟩) (nl - 1) (cl - 1)))
                have HG11 := Lib.hid ((HG9.out.fr hs1 (by simp)).fr hs2 (by simp))
                obtain ⟨wf, hwf, hFf, h4⟩ := HG11.out.set (.string nm) (.slice a0 n0 c0) (.slice ka 1 kc) (.slice (some ⟨gq, go + 2, none⟩) (nl - 1) (cl - 1))
                have hfr : Fr [bx, bx + 1] w4 wf := ((hs1.mono (Y := [bx, bx + 1]) (by simp)).trans (hs2.mono (Y := [bx, bx + 1]) (by simp))).trans (hFf.mono (Y := [bx, bx + 1]) (by simp))
                have HKf := Lib.hid (kp_step' (Kp.trans HK3.out Hk9.out) hfr (by intro j hj; simp at hj; have := Hbx.out; omega))
                have HOf := Lib.hid (hfr.own HO9.out (fun x hx hq => by have := Hfr9.out x hx; have := Hsz.out; have := Hbx.out; simp at hq; omega))
                have Hwf := Lib.hid hwf
                obtain ⟨q0, q1, q2, q3, _, _, _, _⟩ := h4
                clear hwf hFf hfr hs1 hs2
                go_upto_region 26 with fail
                clear y0 y1 y2 y3 z0 z1 z2 z3
                obtain ⟨y0, y1, y2, y3, z0, z1, z2, z3⟩ := HF10.out
                go_upto_region 27 with fail
                clear y0 y1 y2 y3 z0 z1 z2 z3
                obtain ⟨y0, y1, y2, y3, z0, z1, z2, z3⟩ := HF11.out
                obtain ⟨x0, x1, x2, x3, f0, f1, f2, f3⟩ := HG11.out
                go_wp2_with fail
                rw [← Hwf.out]
                refine bodyPost_ret (v := .tuple #[.agg #[.string nm, .slice a0 n0 c0, .slice ka 1 kc, (.slice (some ⟨gq, go + 2, none⟩) (nl - 1) (cl - 1))], .bool true]) (by simp [results, Tryz.results83, go_sem, q0, q1, q2, q3]) rfl ?_
                rw [← Hsub.out]
                exact RBackPost.yes1 Hback.out HKf.out ⟨ka, 1, kc⟩ HOf.out (by decide)
          · obtain hs | hs : s = 0 ∨ s = 1 := by omega
            · subst he; subst hs
              clear hbad hcle
              go_upto_region 25 with (first | (at_builtin; (refine wpList_app rfl (.tmp 57) (.tmp 58) 22 rfl el22 w.heap.size rfl (Own.nil _ _ _ _) rfl [iv 1] rfl (Cs.new w3 [iv 1] 3 (0, 0)) (by simp [Value.oneCell']) 1 rfl ([iv 1]) rfl (by omega) (by have := Hsz.out; simp; omega) ?_); intro ka kc w4 ha; have HA := Lib.hid ha; clear ha))
              have hk9 : Kp w3 w4 := kp_step' (Kp.new w3 (.cells #[iv 1] 3)) HA.out.fr (by simp [blkL, blk])
              have hfresh9 : ∀ x ∈ blkL ka, w3.heap.size ≤ x := fun x hx => by rcases HA.out.fresh x (mem_blkL.1 hx) with q | q <;> first | (simp [blk] at q; done) | (rw [q]; simp)
              have hO9 : Own w4 w.heap.size 3 1 ka 1 kc (([1] : List Int).map iv) := HA.out.own
              have Hback := Lib.hid (Hbk2.out.2 [1] (by omega) rfl)
              have HF9 := Lib.hid (HF3.out.kp hk9)
              have HG9 := Lib.hid (HG3.out.kp hk9)
              have HT9 := Lib.hid (HT3.out.kp hk9)
              have Hk9 := Lib.hid hk9
              have Hfr9 := Lib.hid hfresh9
              have HO9 := Lib.hid hO9
              clear hk9 hfresh9 hO9
              obtain ⟨y0, y1, y2, y3, z0, z1, z2, z3⟩ := HF9.out
              obtain ⟨t0, t1, _, _⟩ := HT9.out
              by_cases hc1 : cl = 1
              · have hn1 : nl = 1 := by omega
                subst hc1; subst hn1
                have Hsub := Lib.hid (show tvv (subT ⟨some ⟨gq, go, none⟩, 1, 1⟩ 1) = (.slice (some ⟨gq, go, none⟩) 0 0) by unfold subT; simp [tvv])
                have hs1 := Fr.set w4 ⟨bx, 2, none⟩ (.slice ka 1 kc)
                have HF10 := Lib.hid (HF9.out.set2 (.slice ka 1 kc))
                have hs2 := Fr.set (w4.setCell ⟨bx, 2, none⟩ (.slice ka 1 kc)) ⟨bx, 3, none⟩ (.slice (some ⟨gq, go, none⟩) 0 0)
                have HF11 := Lib.hid (HF10.out.set3 (.slice (some ⟨gq, go, none⟩) 0 0))
                have HG11 := Lib.hid ((HG9.out.fr hs1 (by simp)).fr hs2 (by simp))
                obtain ⟨wf, hwf, hFf, h4⟩ := HG11.out.set (.string nm) (.slice a0 n0 c0) (.slice ka 1 kc) (.slice (some ⟨gq, go, none⟩) 0 0)
                have hfr : Fr [bx, bx + 1] w4 wf := ((hs1.mono (Y := [bx, bx + 1]) (by simp)).trans (hs2.mono (Y := [bx, bx + 1]) (by simp))).trans (hFf.mono (Y := [bx, bx + 1]) (by simp))
                have HKf := Lib.hid (kp_step' (Kp.trans HK3.out Hk9.out) hfr (by intro j hj; simp at hj; have := Hbx.out; omega))
                have HOf := Lib.hid (hfr.own HO9.out (fun x hx hq => by have := Hfr9.out x hx; have := Hsz.out; have := Hbx.out; simp at hq; omega))
                have Hwf := Lib.hid hwf
                obtain ⟨q0, q1, q2, q3, _, _, _, _⟩ := h4
                clear hwf hFf hfr hs1 hs2
                go_upto_region 26 with fail
                clear y0 y1 y2 y3 z0 z1 z2 z3
                obtain ⟨y0, y1, y2, y3, z0, z1, z2, z3⟩ := HF10.out
                go_upto_region 27 with fail
                clear y0 y1 y2 y3 z0 z1 z2 z3
                obtain ⟨y0, y1, y2, y3, z0, z1, z2, z3⟩ := HF11.out
                obtain ⟨x0, x1, x2, x3, f0, f1, f2, f3⟩ := HG11.out
                go_wp2_with fail
                rw [← Hwf.out]
                refine bodyPost_ret (v := .tuple #[.agg #[.string nm, .slice a0 n0 c0, .slice ka 1 kc, (.slice (some ⟨gq, go, none⟩) 0 0)], .bool true]) (by simp [results, Tryz.results83, go_sem, q0, q1, q2, q3]) rfl ?_
                rw [← Hsub.out]
                exact RBackPost.yes1 Hback.out HKf.out ⟨ka, 1, kc⟩ HOf.out (by decide)
              · have hcl1 : cl ≠ 1 := hc1
                clear hc1
                have Hsub := Lib.hid (show tvv (subT ⟨some ⟨gq, go, none⟩, nl, cl⟩ 1) = (.slice (some ⟨gq, go + 2, none⟩) (nl - 1) (cl - 1)) by unfold subT; simp [tvv, Addr.add_lit, hcl1])
                have hs1 := Fr.set w4 ⟨bx, 2, none⟩ (.slice ka 1 kc)
                have HF10 := Lib.hid (HF9.out.set2 (.slice ka 1 kc))
                have hs2 := Fr.set (w4.setCell ⟨bx, 2, none⟩ (.slice ka 1 kc)) ⟨bx, 3, none⟩ (.slice (some ⟨gq, go + 2, none⟩) (nl - 1) (cl - 1))
                have HF11 := Lib.hid (HF10.out.set3 (.slice (some ⟨gq, go + 2, none⟩) (nl - 1) (cl - 1)))
                have HG11 := Lib.hid ((HG9.out.fr hs1 (by simp)).fr hs2 (by simp))
                obtain ⟨wf, hwf, hFf, h4⟩ := HG11.out.set (.string nm) (.slice a0 n0 c0) (.slice ka 1 kc) (.slice (some ⟨gq, go + 2, none⟩) (nl - 1) (cl - 1))
                have hfr : Fr [bx, bx + 1] w4 wf := ((hs1.mono (Y := [bx, bx + 1]) (by simp)).trans (hs2.mono (Y := [bx, bx + 1]) (by simp))).trans (hFf.mono (Y := [bx, bx + 1]) (by simp))
                have HKf := Lib.hid (kp_step' (Kp.trans HK3.out Hk9.out) hfr (by intro j hj; simp at hj; have := Hbx.out; omega))
                have HOf := Lib.hid (hfr.own HO9.out (fun x hx hq => by have := Hfr9.out x hx; have := Hsz.out; have := Hbx.out; simp at hq; omega))
                have Hwf := Lib.hid hwf
                obtain ⟨q0, q1, q2, q3, _, _, _, _⟩ := h4
                clear hwf hFf hfr hs1 hs2
                go_upto_region 26 with fail
                clear y0 y1 y2 y3 z0 z1 z2 z3
                obtain ⟨y0, y1, y2, y3, z0, z1, z2, z3⟩ := HF10.out
                go_upto_region 27 with fail
                clear y0 y1 y2 y3 z0 z1 z2 z3
                obtain ⟨y0, y1, y2, y3, z0, z1, z2, z3⟩ := HF11.out
                obtain ⟨x0, x1, x2, x3, f0, f1, f2, f3⟩ := HG11.out
                go_wp2_with fail
                rw [← Hwf.out]
                refine bodyPost_ret (v := .tuple #[.agg #[.string nm, .slice a0 n0 c0, .slice ka 1 kc, (.slice (some ⟨gq, go + 2, none⟩) (nl - 1) (cl - 1))], .bool true]) (by simp [results, Tryz.results83, go_sem, q0, q1, q2, q3]) rfl ?_
                rw [← Hsub.out]
                exact RBackPost.yes1 Hback.out HKf.out ⟨ka, 1, kc⟩ HOf.out (by decide)
            · subst he; subst hs
              clear hbad hcle
              go_upto_region 25 with (first | (at_builtin; (refine wpList_app rfl (.tmp 57) (.tmp 58) 22 rfl el22 w.heap.size rfl (Own.nil _ _ _ _) rfl [iv 1] rfl (Cs.new w3 [iv 1] 3 (0, 0)) (by simp [Value.oneCell']) 1 rfl ([iv 1]) rfl (by omega) (by have := Hsz.out; simp; omega) ?_); intro ka kc w4 ha; have HA := Lib.hid ha; clear ha) | (at_builtin; (refine wpList_app rfl (.tmp 62) (.tmp 63) 22 rfl el22 w.heap.size rfl (Own.keep HA.out.own (Kp.new w4 (.cells #[iv 2] 3))) rfl [iv 2] rfl (Cs.new w4 [iv 2] 3 (0, 0)) (by simp [Value.oneCell']) 2 rfl ([iv 1, iv 2]) rfl (by omega) (by have := Hsz.out; have := HA.out.fr.size; simp at this ⊢; omega) ?_); intro kb kd w5 hb; have HB := Lib.hid hb; clear hb))
              have hk9 : Kp w3 w5 := kp_step' (Kp.trans (kp_step' (Kp.new w3 (.cells #[iv 1] 3)) HA.out.fr (by simp [blkL, blk])) (Kp.new w4 (.cells #[iv 2] 3))) HB.out.fr (fun j hj => by rcases HA.out.fresh j (mem_blkL.1 hj) with q | q <;> first | (simp [blk] at q; done) | (rw [q]; simp))
              have hfresh9 : ∀ x ∈ blkL kb, w3.heap.size ≤ x := fun x hx => fresh_two HA.out.fr.size (fun q => HA.out.fresh x q) (HB.out.fresh x (mem_blkL.1 hx))
              have hO9 : Own w5 w.heap.size 3 1 kb 2 kd (([1, 2] : List Int).map iv) := HB.out.own
              have Hback := Lib.hid (Hbk2.out.2 [1, 2] (by omega) rfl)
              have HF9 := Lib.hid (HF3.out.kp hk9)
              have HG9 := Lib.hid (HG3.out.kp hk9)
              have HT9 := Lib.hid (HT3.out.kp hk9)
              have Hk9 := Lib.hid hk9
              have Hfr9 := Lib.hid hfresh9
              have HO9 := Lib.hid hO9
              clear hk9 hfresh9 hO9
              obtain ⟨y0, y1, y2, y3, z0, z1, z2, z3⟩ := HF9.out
              obtain ⟨t0, t1, _, _⟩ := HT9.out
              by_cases hc1 : cl = 1
              · have hn1 : nl = 1 := by omega
                subst hc1; subst hn1
                have Hsub := Lib.hid (show tvv (subT ⟨some ⟨gq, go, none⟩, 1, 1⟩ 1) = (.slice (some ⟨gq, go, none⟩) 0 0) by unfold subT; simp [tvv])
                have hs1 := Fr.set w5 ⟨bx, 2, none⟩ (.slice kb 2 kd)
                have HF10 := Lib.hid (HF9.out.set2 (.slice kb 2 kd))
                have hs2 := Fr.set (w5.setCell ⟨bx, 2, none⟩ (.slice kb 2 kd)) ⟨bx, 3, none⟩ (.slice (some ⟨gq, go, none⟩) 0 0)
                have HF11 := Lib.hid (HF10.out.set3 (.slice (some ⟨gq, go, none⟩) 0 0))
                have HG11 := Lib.hid ((HG9.out.fr hs1 (by simp)).fr hs2 (by simp))
                obtain ⟨wf, hwf, hFf, h4⟩ := HG11.out.set (.string nm) (.slice a0 n0 c0) (.slice kb 2 kd) (.slice (some ⟨gq, go, none⟩) 0 0)
                have hfr : Fr [bx, bx + 1] w5 wf := ((hs1.mono (Y := [bx, bx + 1]) (by simp)).trans (hs2.mono (Y := [bx, bx + 1]) (by simp))).trans (hFf.mono (Y := [bx, bx + 1]) (by simp))
                have HKf := Lib.hid (kp_step' (Kp.trans HK3.out Hk9.out) hfr (by intro j hj; simp at hj; have := Hbx.out; omega))
                have HOf := Lib.hid (hfr.own HO9.out (fun x hx hq => by have := Hfr9.out x hx; have := Hsz.out; have := Hbx.out; simp at hq; omega))
                have Hwf := Lib.hid hwf
                obtain ⟨q0, q1, q2, q3, _, _, _, _⟩ := h4
                clear hwf hFf hfr hs1 hs2
                go_upto_region 26 with fail
                clear y0 y1 y2 y3 z0 z1 z2 z3
                obtain ⟨y0, y1, y2, y3, z0, z1, z2, z3⟩ := HF10.out
                go_upto_region 27 with fail
                clear y0 y1 y2 y3 z0 z1 z2 z3
                obtain ⟨y0, y1, y2, y3, z0, z1, z2, z3⟩ := HF11.out
                obtain ⟨x0, x1, x2, x3, f0, f1, f2, f3⟩ := HG11.out
                go_wp2_with fail
                rw [← Hwf.out]
                refine bodyPost_ret (v := .tuple #[.agg #[.string nm, .slice a0 n0 c0, .slice kb 2 kd, (.slice (some ⟨gq, go, none⟩) 0 0)], .bool true]) (by simp [results, Tryz.results83, go_sem, q0, q1, q2, q3]) rfl ?_
                rw [← Hsub.out]
                exact RBackPost.yes1 Hback.out HKf.out ⟨kb, 2, kd⟩ HOf.out (by decide)
              · have hcl1 : cl ≠ 1 := hc1
                clear hc1
                have Hsub := Lib.hid (show tvv (subT ⟨some ⟨gq, go, none⟩, nl, cl⟩ 1) = (.slice (some ⟨gq, go + 2, none⟩) (nl - 1) (cl - 1)) by unfold subT; simp [tvv, Addr.add_lit, hcl1])
                have hs1 := Fr.set w5 ⟨bx, 2, none⟩ (.slice kb 2 kd)
                have HF10 := Lib.hid (HF9.out.set2 (.slice kb 2 kd))
                have hs2 := Fr.set (w5.setCell ⟨bx, 2, none⟩ (.slice kb 2 kd)) ⟨bx, 3, none⟩ (.slice (some ⟨gq, go + 2, none⟩) (nl - 1) (cl - 1))
                have HF11 := Lib.hid (HF10.out.set3 (.slice (some ⟨gq, go + 2, none⟩) (nl - 1) (cl - 1)))
                have HG11 := Lib.hid ((HG9.out.fr hs1 (by simp)).fr hs2 (by simp))
                obtain ⟨wf, hwf, hFf, h4⟩ := HG11.out.set (.string nm) (.slice a0 n0 c0) (.slice kb 2 kd) (.slice (some ⟨gq, go + 2, none⟩) (nl - 1) (cl - 1))
                have hfr : Fr [bx, bx + 1] w5 wf := ((hs1.mono (Y := [bx, bx + 1]) (by simp)).trans (hs2.mono (Y := [bx, bx + 1]) (by simp))).trans (hFf.mono (Y := [bx, bx + 1]) (by simp))
                have HKf := Lib.hid (kp_step' (Kp.trans HK3.out Hk9.out) hfr (by intro j hj; simp at hj; have := Hbx.out; omega))
                have HOf := Lib.hid (hfr.own HO9.out (fun x hx hq => by have := Hfr9.out x hx; have := Hsz.out; have := Hbx.out; simp at hq; omega))
                have Hwf := Lib.hid hwf
                obtain ⟨q0, q1, q2, q3, _, _, _, _⟩ := h4
                clear hwf hFf hfr hs1 hs2
                go_upto_region 26 with fail
                clear y0 y1 y2 y3 z0 z1 z2 z3
                obtain ⟨y0, y1, y2, y3, z0, z1, z2, z3⟩ := HF10.out
                go_upto_region 27 with fail
                clear y0 y1 y2 y3 z0 z1 z2 z3
                obtain ⟨y0, y1, y2, y3, z0, z1, z2, z3⟩ := HF11.out
                obtain ⟨x0, x1, x2, x3, f0, f1, f2, f3⟩ := HG11.out
                go_wp2_with fail
                rw [← Hwf.out]
                refine bodyPost_ret (v := .tuple #[.agg #[.string nm, .slice a0 n0 c0, .slice kb 2 kd, (.slice (some ⟨gq, go + 2, none⟩) (nl - 1) (cl - 1))], .bool true]) (by simp [results, Tryz.results83, go_sem, q0, q1, q2, q3]) rfl ?_
                rw [← Hsub.out]
                exact RBackPost.yes1 Hback.out HKf.out ⟨kb, 2, kd⟩ HOf.out (by decide)
theorem rback_any (w : World) (nm : ByteArray) (a0 a1 al : Option Addr) (n0 c0 n1 c1 nl cl : Nat) (b0 b1 : List Int) (l : Ln) (r : List Ln) (hf : l.1 = 0 ∨ l.1 = 1) (hP : PatI w a0 a1 al n0 n1 nl b0 b1 (l :: r)) (h0 : b0.length ≤ 10000) (h1 : b1.length ≤ 10000) (hx : l.2.length ≤ 10000) (hc : nl ≤ cl) (hl : nl ≤ 10000) :
    Calls Tryz.prog 83 #[patV nm a0 a1 al n0 c0 n1 c1 nl cl] w (RBackPost w nm a0 a1 al n0 c0 n1 c1 nl cl b0 b1 l r) := by
  obtain ⟨f, xs⟩ := l
  rcases hf with h | h
  · simp only at h
    subst h
    exact rback_0 w nm a0 a1 al n0 c0 n1 c1 nl cl b0 b1 xs r hP h0 hx hc hl
  · simp only at h
    subst h
    exact rback_1 w nm a0 a1 al n0 c0 n1 c1 nl cl b0 b1 xs r hP h1 hx hc hl
end Go.Proofs.YtkmejehhdjdlbaaGreatDoor
