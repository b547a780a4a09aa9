/- Parts of the walks and plain laws, merged: Back, ModP, Modi, Said, PrintP, Print, KnwP, Knw, KnwQ, Tell. Each theorem bears its own conditions; no other. -/
import Derived.Test.YtkmejehhdjdlbaaGreatDoorGf6
import Derived.Test.YtkmejehhdjdlbaaGreatDoorGf1
import Derived.Lib.ItoaLen
namespace Go.Proofs.YtkmejehhdjdlbaaGreatDoor
open Go.RowKit

def inL (xs : List Int) (x : Int) : Bool := xs.contains x
def noneIn (b xs : List Int) : Bool := xs.all (fun t => !inL b t)
theorem noneIn_step {b xs : List Int} {k : Nat} (h : k < xs.length) (h1 : noneIn b (xs.take k) = true) (h2 : inL b xs[k] = false) : noneIn b (xs.take (k + 1)) = true := by
  unfold noneIn at h1 ⊢
  rw [take_step xs k h, List.all_append, h1]
  simp [h2]
theorem noneIn_no {b xs : List Int} {k : Nat} (h : k < xs.length) (h2 : inL b xs[k] = true) : noneIn b xs = false := by
  cases hq : noneIn b xs with
  | false => rfl
  | true =>
    have := List.all_eq_true.1 hq _ (List.getElem_mem h)
    rw [h2] at this; cases this
section
variable {w w1 : World} {B bx : Nat} {nm : ByteArray} {t0 t1 tf : Tv} {td ts : List Tv} {D ls : List Ln} {b0 b1 : List Int}
theorem MdS.bx0 (h : MdS w B bx nm t0 t1 tf td ts D ls b0 b1) : bx ∉ blkL t0.ao := fun q => by
  have := (Rw.lt (h.sep.own ⟨3, 1, t0, b0.map iv⟩ (by simp [rowsP])) (x := bx) q).1
  have := h.hb
  omega
theorem MdS.bx1 (h : MdS w B bx nm t0 t1 tf td ts D ls b0 b1) : bx ∉ blkL t1.ao := fun q => by
  have := (Rw.lt (h.sep.own ⟨3, 1, t1, b1.map iv⟩ (by simp [rowsP])) (x := bx) q).1
  have := h.hb
  omega
theorem MdS.own0 (h : MdS w B bx nm t0 t1 tf td ts D ls b0 b1) : Own w B 3 1 t0.ao t0.n t0.c (b0.map iv) := h.sep.own ⟨3, 1, t0, b0.map iv⟩ (by simp [rowsP])
theorem MdS.own1 (h : MdS w B bx nm t0 t1 tf td ts D ls b0 b1) : Own w B 3 1 t1.ao t1.n t1.c (b1.map iv) := h.sep.own ⟨3, 1, t1, b1.map iv⟩ (by simp [rowsP])
/-- What is known ahead of the initiator has changed. -/
theorem MdS.put0 {t : Tv} {b : List Int} (h : MdS w B bx nm t0 t1 tf td ts D ls b0 b1) (f : Fr (blkL t0.ao) w w1) (ho : Own w1 B 3 1 t.ao t.n t.c (b.map iv)) (hb : ∀ x ∈ blkL t.ao, x ∈ blkL t0.ao ∨ w.heap.size ≤ x) :
    MdS (w1.setCell ⟨bx, 1, none⟩ (tvv t)) B bx nm t t1 tf td ts D ls b b1 :=
  ⟨(h.four.fr f h.bx0).set1 _, h.hd, h.h1, h.hl, (Sep.upd (r' := ⟨3, 1, t, b.map iv⟩) h.sep f ho hb).fr (Fr.set w1 ⟨bx, 1, none⟩ (tvv t)) (by intro x hx; simp at hx; have := h.hb; omega), h.hb⟩
theorem MdS.sort0 {b : List Int} (h : MdS w B bx nm t0 t1 tf td ts D ls b0 b1) (f : Fr (blkL t0.ao) w w1) (ho : Own w1 B 3 1 t0.ao t0.n t0.c (b.map iv)) : MdS w1 B bx nm t0 t1 tf td ts D ls b b1 :=
  ⟨h.four.fr f h.bx0, h.hd, h.h1, h.hl, Sep.upd (r' := ⟨3, 1, t0, b.map iv⟩) h.sep f ho (fun _x hx => .inl hx), h.hb⟩
theorem MdS.put1 {t : Tv} {b : List Int} (h : MdS w B bx nm t0 t1 tf td ts D ls b0 b1) (f : Fr (blkL t1.ao) w w1) (ho : Own w1 B 3 1 t.ao t.n t.c (b.map iv)) (hb : ∀ x ∈ blkL t.ao, x ∈ blkL t1.ao ∨ w.heap.size ≤ x) :
    MdS (w1.setCell ⟨bx, 2, none⟩ (tvv t)) B bx nm t0 t tf td ts D ls b0 b :=
  ⟨(h.four.fr f h.bx1).set2 _, h.hd, h.h1, h.hl, ((Sep.upd (r' := ⟨3, 1, t, b.map iv⟩) (h.sep.perm (List.Perm.swap _ _ _)) f ho hb).perm (List.Perm.swap _ _ _)).fr (Fr.set w1 ⟨bx, 2, none⟩ (tvv t)) (by intro x hx; simp at hx; have := h.hb; omega), h.hb⟩
theorem MdS.sort1 {b : List Int} (h : MdS w B bx nm t0 t1 tf td ts D ls b0 b1) (f : Fr (blkL t1.ao) w w1) (ho : Own w1 B 3 1 t1.ao t1.n t1.c (b.map iv)) : MdS w1 B bx nm t0 t1 tf td ts D ls b0 b :=
  ⟨h.four.fr f h.bx1, h.hd, h.h1, h.hl, (Sep.upd (r' := ⟨3, 1, t1, b.map iv⟩) (h.sep.perm (List.Perm.swap _ _ _)) f ho (fun _x hx => .inl hx)).perm (List.Perm.swap _ _ _), h.hb⟩
/-- The first message is dropped. -/
theorem MdS.drop {tq : Tv} {l : Ln} (h : MdS w B bx nm t0 t1 tf [] (tq :: ts) [] (l :: ls) b0 b1) : MdS (w.setCell ⟨bx, 3, none⟩ (tvv (subT tf 1))) B bx nm t0 t1 tf [tq] ts [l] ls b0 b1 :=
  ⟨h.four.set3 _, rfl, by simp, by have := h.hl; simp at this; exact this, h.sep.fr (Fr.set w ⟨bx, 3, none⟩ _) (by intro x hx; simp at hx; have := h.hb; omega), h.hb⟩
end
/-- What is left behind. -/
def BackPost (w : World) (B bx : Nat) (nm : ByteArray) (_t0 _t1 tf tq : Tv) (ts : List Tv) (l : Ln) (r : List Ln) (b0 b1 : List Int) (e : Ending) (w' : World) : Prop :=
  if okB l.2 && noneIn (if l.1 = 0 then b0 else b1) l.2 then
    ∃ t0' t1', e = .returned (.bool true) ∧ MdS w' B bx nm t0' t1' tf [tq] ts [l] r (if l.1 = 0 then srtI (b0 ++ l.2) else b0) (if l.1 = 0 then b1 else srtI (b1 ++ l.2)) ∧ Kept bx B w w'
  else e = .returned (.bool false) ∧ Kp w w'
/-- The cells that a round looks at. -/
structure ClB (bl bx o : Nat) (f : Int) (vt vb : Value) (w : World) : Prop where
  c0 : w.cell? ⟨bl, 0, none⟩ = some (iv f)
  c1 : w.cell? ⟨bl, 1, none⟩ = some vt
  p : w.cell? ⟨bx, o, none⟩ = some vb
theorem ClB.kp {bl bx o : Nat} {f : Int} {vt vb : Value} {w w' : World} (h : ClB bl bx o f vt vb w) (k : Kp w w') : ClB bl bx o f vt vb w' := ⟨k.cell h.c0, k.cell h.c1, k.cell h.p⟩
theorem ClB.fr {X : List Nat} {bl bx o : Nat} {f : Int} {vt vb : Value} {w w' : World} (h : ClB bl bx o f vt vb w) (k : Fr X w w') (h1 : bl ∉ X) (h2 : bx ∉ X) : ClB bl bx o f vt vb w' := ⟨k.cell h.c0 h1, k.cell h.c1 h1, k.cell h.p h2⟩
set_option maxRecDepth 100000 in
set_option maxHeartbeats 8000000 in
theorem back_0 (w : World) (B bx : Nat) (nm : ByteArray) (t0 t1 tf tq : Tv) (ts : List Tv) (xs : List Int) (r : List Ln) (b0 b1 : List Int) (h : MdS w B bx nm t0 t1 tf [] (tq :: ts) [] ((0, xs) :: r) b0 b1) (hx : xs ≠ []) (hxl : xs.length ≤ 10000) (hb0 : b0.length ≤ 10000) :
    Calls Tryz.prog 53 #[.pointer (some ⟨bx, 0, none⟩)] w (BackPost w B bx nm t0 t1 tf tq ts (0, xs) r b0 b1) := by
  obtain ⟨ta, tn, tc⟩ := tq
  obtain ⟨ba, bn, bc⟩ := t0
  obtain ⟨fa, fn, fc⟩ := tf
  obtain ⟨g, hg, _, hcap, hbg, hgw⟩ := h.at (by simp)
  simp only at hg
  subst hg
  have hfn := h.nf
  simp only [List.length_nil, List.length_cons, Nat.zero_add] at hfn
  simp only [List.length_cons, List.length_nil, Nat.sub_zero] at hcap
  have H := Lib.hid h
  obtain ⟨d0, d1, _⟩ := h.cells rfl 0 (by simp)
  unfold tvv at d1
  simp only [List.length_nil, Nat.zero_mul, Nat.zero_add, List.getElem_cons_zero] at d0 d1
  have hrow : Own w B 3 1 ta tn tc (xs.map iv) := h.row 0 (by simp)
  have hxt : xs.length = tn := by have := hrow.1; simpa using this
  have hbn : b0.length = bn := by have := h.own0.1; simpa using this
  have y3 : w.cell? ⟨bx, 3, none⟩ = some (.slice (some ⟨g, 0, none⟩) fn fc) := h.four.c3
  have y1 : w.cell? ⟨bx, 1, none⟩ = some (.slice ba bn bc) := h.four.c1
  have hfz3 := h.four.f3
  have Hrow := Lib.hid hrow
  have Hxt := Lib.hid hxt
  have htn : 0 < tn := by rw [← hxt]; exact List.length_pos_iff.2 hx
  have htn2 : tn ≤ 10000 := by omega
  have hbn2 : bn ≤ 10000 := by omega
  have hfn0 : 0 < fn := by omega
  have hfc0 : fn ≤ fc := by omega
  have Hfn := Lib.hid hfn
  have Hbn := Lib.hid hbn
  clear hfn hcap hxt hbn hx hxl hb0 hrow
  have hk1 := Kp.new w (.cells #[iv 0, .slice ta tn tc] 73)
  obtain ⟨q0, q1, _, _⟩ := Two2.new w (iv 0) (.slice ta tn tc) 73
  obtain ⟨bl, hbl⟩ : ∃ bl, bl = w.heap.size := ⟨_, rfl⟩
  rw [← hbl] at q0 q1
  have Hbl := Lib.hid hbl
  clear h
  go_enter Tryz.func53, Tryz.ntmps53
  go_upto_region 4 with fail
  rw [← hbl]
  clear hbl
  generalize w.alloc (.cells #[iv 0, .slice ta tn tc] 73) = w1 at *
  have e3 := hk1.cell y3
  have e1 := hk1.cell y1
  clear d0 d1 y3 y1
  go_wp2_with fail
  (with_reducible refine (known_any w1 ta tn tc xs (hk1.is Hrow.out.is)).mono ?_)
  rintro e w2 ⟨rfl, hk2⟩
  have hk02 := Kp.trans hk1 hk2
  cases hok : okB xs with
  | false =>
    have HP := Lib.hid (show BackPost w B bx nm ⟨ba, bn, bc⟩ t1 ⟨some ⟨g, 0, none⟩, fn, fc⟩ ⟨ta, tn, tc⟩ ts (0, xs) r b0 b1 (.returned (.bool false)) w2 from by
      unfold BackPost; simp only [hok, Bool.false_and, Bool.false_eq_true, if_false]; exact ⟨by first | rfl | trivial, hk02⟩)
    clear hok
    go_wp2_with fail
    go_ret
    exact HP.out
  | true =>
    have Hok := Lib.hid hok
    clear hok
    replace q0 := hk2.cell q0
    replace q1 := hk2.cell q1
    replace e3 := hk2.cell e3
    replace e1 := hk2.cell e1
    have Hk02 := Lib.hid hk02
    clear hk1 hk2 hk02
    go_wp2_with fail
    go_loopw [25] (fun i wr => ∃ k : Nat, k ≤ tn ∧ i = .int .i64 (k : Nat) ∧ Kp w2 wr ∧ noneIn b0 (xs.take k) = true) (fun i _ => tn - (intOf i).toNat)
    case atStart => exact ⟨0, by omega, rfl, Kp.refl _, rfl⟩
    case round =>
      obtain ⟨k, hk, rfl, hkr, hno⟩ := hrel
      rename World => wr
      replace q0 := hkr.cell q0
      replace q1 := hkr.cell q1
      replace e3 := hkr.cell e3
      replace e1 := hkr.cell e1
      have hkw := Kp.trans Hk02.out hkr
      have Hno := Lib.hid hno
      clear hno
      by_cases hkn : k < tn
      · have hkl : k < xs.length := by rw [Hxt.out]; exact hkn
        obtain ⟨bt, ot, hta, _, hct⟩ := Hrow.out.is.at k hkn
        subst hta
        have ck := hkw.cell (hct k hkn)
        have HC := Lib.hid (fun m => (contains_any (wr.drewN m) ba bn bc b0 (xs[k]'hkl) ((Kp.trans hkw (Kp.of_drewN wr m)).is H.out.own0.is)).mono (R' := fun e w' => e = .returned (.bool (inL b0 (xs[k]'hkl))) ∧ w' = wr.drewN m) (fun _ _ q => q))
        cases hin : inL b0 (xs[k]'hkl) with
        | true =>
          have Hf := Lib.hid (noneIn_no hkl hin)
          rw [hin] at HC
          have Hkw := Lib.hid hkw
          clear hct hin hkr hkw
          generalize xs[k]'hkl = x at *
          go_wp2_with fail
          go_quiet ((go_at_call 95; exact Calls.quiet_of_same (HC.out _)))
          go_wp2_with fail
          go_ret
          show BackPost w B bx nm ⟨ba, bn, bc⟩ t1 ⟨some ⟨g, 0, none⟩, fn, fc⟩ ⟨some ⟨bt, ot, none⟩, tn, tc⟩ ts (0, xs) r b0 b1 (.returned (.bool false)) _
          unfold BackPost
          simp only [Hf.out, Bool.and_false, Bool.false_eq_true, if_false, if_true]
          exact ⟨trivial, Kp.trans Hkw.out (Kp.of_drewN _ _)⟩
        | false =>
          have Hn := Lib.hid (noneIn_step hkl Hno.out hin)
          rw [hin] at HC
          have Hkr := Lib.hid hkr
          clear hct hin hkr hkw Hno
          generalize xs[k]'hkl = x at *
          go_wp2_with fail
          go_quiet ((go_at_call 95; exact Calls.quiet_of_same (HC.out _)))
          go_wp2_with fail
          go_roundw
          case rel => exact ⟨k + 1, by omega, by go_num, Kp.trans Hkr.out (Kp.of_drewN _ _), Hn.out⟩
          case measure => simp [intOf]; omega
      · obtain rfl : k = tn := by omega
        rw [List.take_of_length_le (by rw [Hxt.out]; exact Nat.le_refl _)] at Hno
        have HM := Lib.hid (H.out.kp hkw)
        have HKw := Lib.hid hkw
        have hblw : bl < wr.heap.size := World.block_lt_of_cell? wr _ q0
        go_upto_region 12 with fail
        refine anyP_start (ClB bl bx 1 0 (.slice ta k tc) (.slice ba bn bc)) 16 (fun _ => True) (fun _ _ => False) (by kernel_rfl) (fun _ _ _ _ h => h.elim) ?_
        obtain ⟨wq, hwq⟩ : ∃ wq, wq = wr.drew := ⟨_, rfl⟩
        have hkq : Kp wr wq := hwq ▸ (⟨rfl, rfl, rfl, Nat.le_refl _, fun _ _ => rfl⟩ : Kp wr wr.drew)
        rw [← hwq]
        have hq : ClB bl bx 1 0 (.slice ta k tc) (.slice ba bn bc) wq := ⟨hkq.cell q0, hkq.cell q1, hkq.cell e1⟩
        have HMq := Lib.hid (HM.out.kp hkq)
        have HKq := Lib.hid (Kp.trans HKw.out hkq)
        have hcs := HKq.out.cs Hrow.out.cs
        have hBq : B ≤ wq.heap.size := by have := HMq.out.own.lt g rfl; omega
        have hblq : bl < wq.heap.size := Nat.lt_of_lt_of_le hblw hkq.size
        have hnbl : bl ∉ blkL ba := fun q => by have := (H.out.own0.lt bl (mem_blkL.1 q)).2; have := Hbl.out; omega
        have hnbx := HMq.out.bx0
        simp only at hnbx
        have hown := HMq.out.own0
        simp only at hown
        clear hwq q0 q1 e1 e3 hkw hkr hkq
        refine anyT_take puts_true [0, 1, 3, 4, 6, 7, 10, 13, 14] (by kernel_rfl) hq ?_
        simp only [opsAt, List.getElem?_toArray, List.getElem?_cons_zero, List.getElem?_cons_succ]
        repeat (go_big_quiet_step (fail))
        refine wpQuiet_nil ?_
        refine anyT_load puts_true 2 41 (iv 0) rfl rfl (by kernel_rfl) hq (fun w h => exec_load3 (h.c0) (by first | rfl | simp [Act.eval]) rfl) ?_
        simp only [Act.put, List.setIfInBounds_toArray, List.set_cons_zero, List.set_cons_succ]
        refine anyT_load puts_true 5 44 (iv 0) rfl rfl (by kernel_rfl) hq (fun w h => exec_load3 (h.c0) (by first | rfl | simp [Act.eval]) rfl) ?_
        simp only [Act.put, List.setIfInBounds_toArray, List.set_cons_zero, List.set_cons_succ]
        refine anyT_load puts_true 11 50 (.slice ta k tc) rfl rfl (by kernel_rfl) hq (fun w h => exec_load22 (h.c1) (by first | rfl | simp [Act.eval]) rfl) ?_
        simp only [Act.put, List.setIfInBounds_toArray, List.set_cons_zero, List.set_cons_succ]
        refine anyT_take puts_true [8] (by kernel_rfl) hq ?_
        simp only [opsAt, List.getElem?_toArray, List.getElem?_cons_zero, List.getElem?_cons_succ]
        repeat (go_big_quiet_step (fail))
        refine wpQuiet_nil ?_
        refine anyT_load puts_true 9 48 (.slice ba bn bc) rfl rfl (by kernel_rfl) hq (fun w h => exec_load22 (h.p) (by first | rfl | simp [Act.eval]) rfl) ?_
        simp only [Act.put, List.setIfInBounds_toArray, List.set_cons_zero, List.set_cons_succ]
        refine anyP_one 12 (by kernel_rfl) ?_
        simp only [opsAt, List.getElem?_toArray, List.getElem?_cons_zero, List.getElem?_cons_succ]
        go_wp2_with (at_builtin; go_loud (refine wpList_app rfl (.tmp 48) (.tmp 50) 22 rfl el22 B rfl hown rfl (xs.map iv) (by simp [Hxt.out]) hcs (by simp [Value.oneCell']) (bn + k) rfl ((b0 ++ xs).map iv) (by simp) (by omega) hBq ?_); intro ao2 cap2 w6 ha)
        have hq6 := hq.fr ha.fr hnbl hnbx
        have hM6 := HMq.out.put0 (t := ⟨ao2, bn + k, cap2⟩) (b := b0 ++ xs) ha.fr ha.own (fun x hx => by
          rcases ha.fresh x (mem_blkL.1 hx) with q | q
          · exact .inl (mem_blkL.2 q)
          · exact .inr (by omega))
        have f6 := ha.fr.free hq.p HMq.out.four.f1 hnbx
        have hK6 : Kept bx B w w6 := (Kept.kp HKq.out).step ha.fr (fun x hx => .inr (hown.lt x (mem_blkL.1 hx)).1)
        have HK6 := Lib.hid hK6
        have HM6 := Lib.hid hM6
        have hbl6 : bl ∉ blkL ao2 := fun q => by
          rcases ha.fresh bl (mem_blkL.1 q) with q2 | q2
          · exact hnbl (mem_blkL.2 q2)
          · omega
        have hs6 := ha.fr.size
        clear ha hq hM6 hK6 hcs hown HMq
        refine ⟨fun _ => hq6, ?_⟩
        refine anyT_take puts_true [15] (by kernel_rfl) hq6 ?_
        simp only [opsAt, List.getElem?_toArray, List.getElem?_cons_zero, List.getElem?_cons_succ]
        repeat (go_big_quiet_step (fail))
        refine wpQuiet_nil ?_
        obtain ⟨s0, s1, sp⟩ := hq6
        refine anyP_one 16 (by kernel_rfl) ?_
        simp only [opsAt, List.getElem?_toArray, List.getElem?_cons_zero, List.getElem?_cons_succ]
        go_wp2_with fail
        refine ⟨fun h => absurd rfl h, ?_⟩
        refine anyP_end (by kernel_rfl) ?_
        go_upto_region 13 with fail
        have hset := Fr.set w6 ⟨bx, 1, none⟩ (.slice ao2 (bn + k) cap2)
        have HM7 := Lib.hid (show MdS (w6.setCell ⟨bx, 1, none⟩ (.slice ao2 (bn + k) cap2)) B bx nm ⟨ao2, bn + k, cap2⟩ t1 ⟨some ⟨g, 0, none⟩, fn, fc⟩ [] (⟨ta, k, tc⟩ :: ts) [] ((0, xs) :: r) (b0 ++ xs) b1 from HM6.out)
        have HK7 := Lib.hid (HK6.out.step hset (fun x hx => .inl (by simpa using hx)))
        have hblx : bl ≠ bx := by have := H.out.hb; have := H.out.own.lt g rfl; have := Hbl.out; omega
        have s0' := hset.cell s0 (by simpa using hblx)
        have s1' := hset.cell s1 (by simpa using hblx)
        clear s0 s1 sp hset HM6 HK6
        generalize w6.setCell ⟨bx, 1, none⟩ (.slice ao2 (bn + k) cap2) = w7 at *
        have sp : w7.cell? ⟨bx, 1, none⟩ = some (.slice ao2 (bn + k) cap2) := HM7.out.four.c1
        refine anyP_start (ClB bl bx 1 0 (.slice ta k tc) (.slice ao2 (bn + k) cap2)) 7 (fun _ => True) (fun _ _ => False) (by kernel_rfl) (fun _ _ _ _ h => h.elim) ?_
        obtain ⟨wp, hwp⟩ : ∃ wp, wp = w7.drew := ⟨_, rfl⟩
        have hkp : Kp w7 wp := hwp ▸ (⟨rfl, rfl, rfl, Nat.le_refl _, fun _ _ => rfl⟩ : Kp w7 w7.drew)
        rw [← hwp]
        have hq : ClB bl bx 1 0 (.slice ta k tc) (.slice ao2 (bn + k) cap2) wp := ⟨hkp.cell s0', hkp.cell s1', hkp.cell sp⟩
        have HM8 := Lib.hid (HM7.out.kp hkp)
        have HK8 := Lib.hid (HK7.out.step (Fr.of_kp hkp) (by simp))
        have HS := Lib.hid (sort_any wp B ao2 (bn + k) cap2 (b0 ++ xs) HM8.out.own0 (by omega) (by omega))
        clear hwp s0' s1' sp hkp HM7 HK7
        refine anyT_take puts_true [0, 1, 3, 4] (by kernel_rfl) hq ?_
        simp only [opsAt, List.getElem?_toArray, List.getElem?_cons_zero, List.getElem?_cons_succ]
        repeat (go_big_quiet_step (fail))
        refine wpQuiet_nil ?_
        refine anyT_load puts_true 2 57 (iv 0) rfl rfl (by kernel_rfl) hq (fun w h => exec_load3 (h.c0) (by first | rfl | simp [Act.eval]) rfl) ?_
        simp only [Act.put, List.setIfInBounds_toArray, List.set_cons_zero, List.set_cons_succ]
        refine anyT_take puts_true [5] (by kernel_rfl) hq ?_
        simp only [opsAt, List.getElem?_toArray, List.getElem?_cons_zero, List.getElem?_cons_succ]
        repeat (go_big_quiet_step (fail))
        refine wpQuiet_nil ?_
        refine anyT_load puts_true 6 61 (.slice ao2 (bn + k) cap2) rfl rfl (by kernel_rfl) hq (fun w h => exec_load22 (h.p) (by first | rfl | simp [Act.eval]) rfl) ?_
        simp only [Act.put, List.setIfInBounds_toArray, List.set_cons_zero, List.set_cons_succ]
        refine anyP_one 7 (by kernel_rfl) ?_
        simp only [opsAt, List.getElem?_toArray, List.getElem?_cons_zero, List.getElem?_cons_succ]
        go_wp2_with (go_at_call 96; go_loud (refine HS.out.mono ?_); rintro e w9 ⟨rfl, hO9, hF9⟩)
        refine ⟨fun h => absurd rfl h, ?_⟩
        refine anyP_end (by kernel_rfl) ?_
        have hM9 := HM8.out.sort0 hF9 hO9
        have hK9 : Kept bx B w w9 := HK8.out.step hF9 (fun x hx => .inr (HM8.out.own0.lt x (mem_blkL.1 hx)).1)
        have HK9 := Lib.hid hK9
        have HM9 := Lib.hid hM9
        have y3 : w9.cell? ⟨bx, 3, none⟩ = some (.slice (some ⟨g, 0, none⟩) fn fc) := hM9.four.c3
        have z3 := hM9.four.f3
        have hfn1 : 1 ≤ fn := hfn0
        have HP := Lib.hid (show ∀ w' : World, w' = w9.setCell ⟨bx, 3, none⟩ (tvv (subT ⟨some ⟨g, 0, none⟩, fn, fc⟩ 1)) → BackPost w B bx nm ⟨ba, bn, bc⟩ t1 ⟨some ⟨g, 0, none⟩, fn, fc⟩ ⟨ta, k, tc⟩ ts (0, xs) r b0 b1 (.returned (.bool true)) w' from fun w' e => by
          unfold BackPost
          simp only [Hok.out, Hno.out, Bool.and_self, if_true]
          subst e
          exact ⟨_, _, by first | rfl | trivial, HM9.out.drop, HK9.out.step (Fr.set w9 ⟨bx, 3, none⟩ _) (fun x hx => .inl (by simpa using hx))⟩)
        clear hM9 hK9 hO9 hF9 HM8 HK8
        by_cases hc1 : fc = 1
        · have hf1 : fn = 1 := by omega
          subst hc1; subst hf1
          go_wp2_with fail
          go_ret
          exact HP.out _ rfl
        · have hfc1 : fc ≠ 1 := hc1
          go_wp2_with fail
          go_ret
          refine HP.out _ ?_
          unfold subT
          simp [hc1, tvv, Addr.add_lit]
set_option maxRecDepth 100000 in
set_option maxHeartbeats 8000000 in
theorem back_1 (w : World) (B bx : Nat) (nm : ByteArray) (t0 t1 tf tq : Tv) (ts : List Tv) (xs : List Int) (r : List Ln) (b0 b1 : List Int) (h : MdS w B bx nm t0 t1 tf [] (tq :: ts) [] ((1, xs) :: r) b0 b1) (hx : xs ≠ []) (hxl : xs.length ≤ 10000) (hb0 : b1.length ≤ 10000) :
    Calls Tryz.prog 53 #[.pointer (some ⟨bx, 0, none⟩)] w (BackPost w B bx nm t0 t1 tf tq ts (1, xs) r b0 b1) := by
  obtain ⟨ta, tn, tc⟩ := tq
  obtain ⟨ba, bn, bc⟩ := t1
  obtain ⟨fa, fn, fc⟩ := tf
  obtain ⟨g, hg, _, hcap, hbg, hgw⟩ := h.at (by simp)
  simp only at hg
  subst hg
  have hfn := h.nf
  simp only [List.length_nil, List.length_cons, Nat.zero_add] at hfn
  simp only [List.length_cons, List.length_nil, Nat.sub_zero] at hcap
  have H := Lib.hid h
  obtain ⟨d0, d1, _⟩ := h.cells rfl 0 (by simp)
  unfold tvv at d1
  simp only [List.length_nil, Nat.zero_mul, Nat.zero_add, List.getElem_cons_zero] at d0 d1
  have hrow : Own w B 3 1 ta tn tc (xs.map iv) := h.row 0 (by simp)
  have hxt : xs.length = tn := by have := hrow.1; simpa using this
  have hbn : b1.length = bn := by have := h.own1.1; simpa using this
  have y3 : w.cell? ⟨bx, 3, none⟩ = some (.slice (some ⟨g, 0, none⟩) fn fc) := h.four.c3
  have y2 : w.cell? ⟨bx, 2, none⟩ = some (.slice ba bn bc) := h.four.c2
  have hfz3 := h.four.f3
  have Hrow := Lib.hid hrow
  have Hxt := Lib.hid hxt
  have htn : 0 < tn := by rw [← hxt]; exact List.length_pos_iff.2 hx
  have htn2 : tn ≤ 10000 := by omega
  have hbn2 : bn ≤ 10000 := by omega
  have hfn0 : 0 < fn := by omega
  have hfc0 : fn ≤ fc := by omega
  have Hfn := Lib.hid hfn
  have Hbn := Lib.hid hbn
  clear hfn hcap hxt hbn hx hxl hb0 hrow
  have hk1 := Kp.new w (.cells #[iv 1, .slice ta tn tc] 73)
  obtain ⟨q0, q1, _, _⟩ := Two2.new w (iv 1) (.slice ta tn tc) 73
  obtain ⟨bl, hbl⟩ : ∃ bl, bl = w.heap.size := ⟨_, rfl⟩
  rw [← hbl] at q0 q1
  have Hbl := Lib.hid hbl
  clear h
  go_enter Tryz.func53, Tryz.ntmps53
  go_upto_region 4 with fail
  rw [← hbl]
  clear hbl
  generalize w.alloc (.cells #[iv 1, .slice ta tn tc] 73) = w1 at *
  have e3 := hk1.cell y3
  have e1 := hk1.cell y2
  clear d0 d1 y3 y2
  go_wp2_with fail
  (with_reducible refine (known_any w1 ta tn tc xs (hk1.is Hrow.out.is)).mono ?_)
  rintro e w2 ⟨rfl, hk2⟩
  have hk02 := Kp.trans hk1 hk2
  cases hok : okB xs with
  | false =>
    have HP := Lib.hid (show BackPost w B bx nm t0 ⟨ba, bn, bc⟩ ⟨some ⟨g, 0, none⟩, fn, fc⟩ ⟨ta, tn, tc⟩ ts (1, xs) r b0 b1 (.returned (.bool false)) w2 from by
      unfold BackPost; simp only [hok, Bool.false_and, Bool.false_eq_true, if_false]; exact ⟨by first | rfl | trivial, hk02⟩)
    clear hok
    go_wp2_with fail
    go_ret
    exact HP.out
  | true =>
    have Hok := Lib.hid hok
    clear hok
    replace q0 := hk2.cell q0
    replace q1 := hk2.cell q1
    replace e3 := hk2.cell e3
    replace e1 := hk2.cell e1
    have Hk02 := Lib.hid hk02
    clear hk1 hk2 hk02
    go_wp2_with fail
    go_loopw [25] (fun i wr => ∃ k : Nat, k ≤ tn ∧ i = .int .i64 (k : Nat) ∧ Kp w2 wr ∧ noneIn b1 (xs.take k) = true) (fun i _ => tn - (intOf i).toNat)
    case atStart => exact ⟨0, by omega, rfl, Kp.refl _, rfl⟩
    case round =>
      obtain ⟨k, hk, rfl, hkr, hno⟩ := hrel
      rename World => wr
      replace q0 := hkr.cell q0
      replace q1 := hkr.cell q1
      replace e3 := hkr.cell e3
      replace e1 := hkr.cell e1
      have hkw := Kp.trans Hk02.out hkr
      have Hno := Lib.hid hno
      clear hno
      by_cases hkn : k < tn
      · have hkl : k < xs.length := by rw [Hxt.out]; exact hkn
        obtain ⟨bt, ot, hta, _, hct⟩ := Hrow.out.is.at k hkn
        subst hta
        have ck := hkw.cell (hct k hkn)
        have HC := Lib.hid (fun m => (contains_any (wr.drewN m) ba bn bc b1 (xs[k]'hkl) ((Kp.trans hkw (Kp.of_drewN wr m)).is H.out.own1.is)).mono (R' := fun e w' => e = .returned (.bool (inL b1 (xs[k]'hkl))) ∧ w' = wr.drewN m) (fun _ _ q => q))
        cases hin : inL b1 (xs[k]'hkl) with
        | true =>
          have Hf := Lib.hid (noneIn_no hkl hin)
          rw [hin] at HC
          have Hkw := Lib.hid hkw
          clear hct hin hkr hkw
          generalize xs[k]'hkl = x at *
          go_wp2_with fail
          go_quiet ((go_at_call 95; exact Calls.quiet_of_same (HC.out _)))
          go_wp2_with fail
          go_ret
          show BackPost w B bx nm t0 ⟨ba, bn, bc⟩ ⟨some ⟨g, 0, none⟩, fn, fc⟩ ⟨some ⟨bt, ot, none⟩, tn, tc⟩ ts (1, xs) r b0 b1 (.returned (.bool false)) _
          unfold BackPost
          simp only [Hf.out, Bool.and_false, Bool.false_eq_true, if_false, Int.reduceEq]
          exact ⟨trivial, Kp.trans Hkw.out (Kp.of_drewN _ _)⟩
        | false =>
          have Hn := Lib.hid (noneIn_step hkl Hno.out hin)
          rw [hin] at HC
          have Hkr := Lib.hid hkr
          clear hct hin hkr hkw Hno
          generalize xs[k]'hkl = x at *
          go_wp2_with fail
          go_quiet ((go_at_call 95; exact Calls.quiet_of_same (HC.out _)))
          go_wp2_with fail
          go_roundw
          case rel => exact ⟨k + 1, by omega, by go_num, Kp.trans Hkr.out (Kp.of_drewN _ _), Hn.out⟩
          case measure => simp [intOf]; omega
      · obtain rfl : k = tn := by omega
        rw [List.take_of_length_le (by rw [Hxt.out]; exact Nat.le_refl _)] at Hno
        have HM := Lib.hid (H.out.kp hkw)
        have HKw := Lib.hid hkw
        have hblw : bl < wr.heap.size := World.block_lt_of_cell? wr _ q0
        go_upto_region 12 with fail
        refine anyP_start (ClB bl bx 2 1 (.slice ta k tc) (.slice ba bn bc)) 16 (fun _ => True) (fun _ _ => False) (by kernel_rfl) (fun _ _ _ _ h => h.elim) ?_
        obtain ⟨wq, hwq⟩ : ∃ wq, wq = wr.drew := ⟨_, rfl⟩
        have hkq : Kp wr wq := hwq ▸ (⟨rfl, rfl, rfl, Nat.le_refl _, fun _ _ => rfl⟩ : Kp wr wr.drew)
        rw [← hwq]
        have hq : ClB bl bx 2 1 (.slice ta k tc) (.slice ba bn bc) wq := ⟨hkq.cell q0, hkq.cell q1, hkq.cell e1⟩
        have HMq := Lib.hid (HM.out.kp hkq)
        have HKq := Lib.hid (Kp.trans HKw.out hkq)
        have hcs := HKq.out.cs Hrow.out.cs
        have hBq : B ≤ wq.heap.size := by have := HMq.out.own.lt g rfl; omega
        have hblq : bl < wq.heap.size := Nat.lt_of_lt_of_le hblw hkq.size
        have hnbl : bl ∉ blkL ba := fun q => by have := (H.out.own1.lt bl (mem_blkL.1 q)).2; have := Hbl.out; omega
        have hnbx := HMq.out.bx1
        simp only at hnbx
        have hown := HMq.out.own1
        simp only at hown
        clear hwq q0 q1 e1 e3 hkw hkr hkq
        refine anyT_take puts_true [0, 1, 3, 4, 6, 7, 10, 13, 14] (by kernel_rfl) hq ?_
        simp only [opsAt, List.getElem?_toArray, List.getElem?_cons_zero, List.getElem?_cons_succ]
        repeat (go_big_quiet_step (fail))
        refine wpQuiet_nil ?_
        refine anyT_load puts_true 2 41 (iv 1) rfl rfl (by kernel_rfl) hq (fun w h => exec_load3 (h.c0) (by first | rfl | simp [Act.eval]) rfl) ?_
        simp only [Act.put, List.setIfInBounds_toArray, List.set_cons_zero, List.set_cons_succ]
        refine anyT_load puts_true 5 44 (iv 1) rfl rfl (by kernel_rfl) hq (fun w h => exec_load3 (h.c0) (by first | rfl | simp [Act.eval]) rfl) ?_
        simp only [Act.put, List.setIfInBounds_toArray, List.set_cons_zero, List.set_cons_succ]
        refine anyT_load puts_true 11 50 (.slice ta k tc) rfl rfl (by kernel_rfl) hq (fun w h => exec_load22 (h.c1) (by first | rfl | simp [Act.eval]) rfl) ?_
        simp only [Act.put, List.setIfInBounds_toArray, List.set_cons_zero, List.set_cons_succ]
        refine anyT_take puts_true [8] (by kernel_rfl) hq ?_
        simp only [opsAt, List.getElem?_toArray, List.getElem?_cons_zero, List.getElem?_cons_succ]
        repeat (go_big_quiet_step (fail))
        refine wpQuiet_nil ?_
        refine anyT_load puts_true 9 48 (.slice ba bn bc) rfl rfl (by kernel_rfl) hq (fun w h => exec_load22 (h.p) (by first | rfl | simp [Act.eval]) rfl) ?_
        simp only [Act.put, List.setIfInBounds_toArray, List.set_cons_zero, List.set_cons_succ]
        refine anyP_one 12 (by kernel_rfl) ?_
        simp only [opsAt, List.getElem?_toArray, List.getElem?_cons_zero, List.getElem?_cons_succ]
        go_wp2_with (at_builtin; go_loud (refine wpList_app rfl (.tmp 48) (.tmp 50) 22 rfl el22 B rfl hown rfl (xs.map iv) (by simp [Hxt.out]) hcs (by simp [Value.oneCell']) (bn + k) rfl ((b1 ++ xs).map iv) (by simp) (by omega) hBq ?_); intro ao2 cap2 w6 ha)
        have hq6 := hq.fr ha.fr hnbl hnbx
        have hM6 := HMq.out.put1 (t := ⟨ao2, bn + k, cap2⟩) (b := b1 ++ xs) ha.fr ha.own (fun x hx => by
          rcases ha.fresh x (mem_blkL.1 hx) with q | q
          · exact .inl (mem_blkL.2 q)
          · exact .inr (by omega))
        have f6 := ha.fr.free hq.p HMq.out.four.f2 hnbx
        have hK6 : Kept bx B w w6 := (Kept.kp HKq.out).step ha.fr (fun x hx => .inr (hown.lt x (mem_blkL.1 hx)).1)
        have HK6 := Lib.hid hK6
        have HM6 := Lib.hid hM6
        have hbl6 : bl ∉ blkL ao2 := fun q => by
          rcases ha.fresh bl (mem_blkL.1 q) with q2 | q2
          · exact hnbl (mem_blkL.2 q2)
          · omega
        have hs6 := ha.fr.size
        clear ha hq hM6 hK6 hcs hown HMq
        refine ⟨fun _ => hq6, ?_⟩
        refine anyT_take puts_true [15] (by kernel_rfl) hq6 ?_
        simp only [opsAt, List.getElem?_toArray, List.getElem?_cons_zero, List.getElem?_cons_succ]
        repeat (go_big_quiet_step (fail))
        refine wpQuiet_nil ?_
        obtain ⟨s0, s1, sp⟩ := hq6
        refine anyP_one 16 (by kernel_rfl) ?_
        simp only [opsAt, List.getElem?_toArray, List.getElem?_cons_zero, List.getElem?_cons_succ]
        go_wp2_with fail
        refine ⟨fun h => absurd rfl h, ?_⟩
        refine anyP_end (by kernel_rfl) ?_
        go_upto_region 13 with fail
        have hset := Fr.set w6 ⟨bx, 2, none⟩ (.slice ao2 (bn + k) cap2)
        have HM7 := Lib.hid (show MdS (w6.setCell ⟨bx, 2, none⟩ (.slice ao2 (bn + k) cap2)) B bx nm t0 ⟨ao2, bn + k, cap2⟩ ⟨some ⟨g, 0, none⟩, fn, fc⟩ [] (⟨ta, k, tc⟩ :: ts) [] ((1, xs) :: r) b0 (b1 ++ xs) from HM6.out)
        have HK7 := Lib.hid (HK6.out.step hset (fun x hx => .inl (by simpa using hx)))
        have hblx : bl ≠ bx := by have := H.out.hb; have := H.out.own.lt g rfl; have := Hbl.out; omega
        have s0' := hset.cell s0 (by simpa using hblx)
        have s1' := hset.cell s1 (by simpa using hblx)
        clear s0 s1 sp hset HM6 HK6
        generalize w6.setCell ⟨bx, 2, none⟩ (.slice ao2 (bn + k) cap2) = w7 at *
        have sp : w7.cell? ⟨bx, 2, none⟩ = some (.slice ao2 (bn + k) cap2) := HM7.out.four.c2
        refine anyP_start (ClB bl bx 2 1 (.slice ta k tc) (.slice ao2 (bn + k) cap2)) 7 (fun _ => True) (fun _ _ => False) (by kernel_rfl) (fun _ _ _ _ h => h.elim) ?_
        obtain ⟨wp, hwp⟩ : ∃ wp, wp = w7.drew := ⟨_, rfl⟩
        have hkp : Kp w7 wp := hwp ▸ (⟨rfl, rfl, rfl, Nat.le_refl _, fun _ _ => rfl⟩ : Kp w7 w7.drew)
        rw [← hwp]
        have hq : ClB bl bx 2 1 (.slice ta k tc) (.slice ao2 (bn + k) cap2) wp := ⟨hkp.cell s0', hkp.cell s1', hkp.cell sp⟩
        have HM8 := Lib.hid (HM7.out.kp hkp)
        have HK8 := Lib.hid (HK7.out.step (Fr.of_kp hkp) (by simp))
        have HS := Lib.hid (sort_any wp B ao2 (bn + k) cap2 (b1 ++ xs) HM8.out.own1 (by omega) (by omega))
        clear hwp s0' s1' sp hkp HM7 HK7
        refine anyT_take puts_true [0, 1, 3, 4] (by kernel_rfl) hq ?_
        simp only [opsAt, List.getElem?_toArray, List.getElem?_cons_zero, List.getElem?_cons_succ]
        repeat (go_big_quiet_step (fail))
        refine wpQuiet_nil ?_
        refine anyT_load puts_true 2 57 (iv 1) rfl rfl (by kernel_rfl) hq (fun w h => exec_load3 (h.c0) (by first | rfl | simp [Act.eval]) rfl) ?_
        simp only [Act.put, List.setIfInBounds_toArray, List.set_cons_zero, List.set_cons_succ]
        refine anyT_take puts_true [5] (by kernel_rfl) hq ?_
        simp only [opsAt, List.getElem?_toArray, List.getElem?_cons_zero, List.getElem?_cons_succ]
        repeat (go_big_quiet_step (fail))
        refine wpQuiet_nil ?_
        refine anyT_load puts_true 6 61 (.slice ao2 (bn + k) cap2) rfl rfl (by kernel_rfl) hq (fun w h => exec_load22 (h.p) (by first | rfl | simp [Act.eval]) rfl) ?_
        simp only [Act.put, List.setIfInBounds_toArray, List.set_cons_zero, List.set_cons_succ]
        refine anyP_one 7 (by kernel_rfl) ?_
        simp only [opsAt, List.getElem?_toArray, List.getElem?_cons_zero, List.getElem?_cons_succ]
        go_wp2_with (go_at_call 96; go_loud (refine HS.out.mono ?_); rintro e w9 ⟨rfl, hO9, hF9⟩)
        refine ⟨fun h => absurd rfl h, ?_⟩
        refine anyP_end (by kernel_rfl) ?_
        have hM9 := HM8.out.sort1 hF9 hO9
        have hK9 : Kept bx B w w9 := HK8.out.step hF9 (fun x hx => .inr (HM8.out.own1.lt x (mem_blkL.1 hx)).1)
        have HK9 := Lib.hid hK9
        have HM9 := Lib.hid hM9
        have y3 : w9.cell? ⟨bx, 3, none⟩ = some (.slice (some ⟨g, 0, none⟩) fn fc) := hM9.four.c3
        have z3 := hM9.four.f3
        have hfn1 : 1 ≤ fn := hfn0
        have HP := Lib.hid (show ∀ w' : World, w' = w9.setCell ⟨bx, 3, none⟩ (tvv (subT ⟨some ⟨g, 0, none⟩, fn, fc⟩ 1)) → BackPost w B bx nm t0 ⟨ba, bn, bc⟩ ⟨some ⟨g, 0, none⟩, fn, fc⟩ ⟨ta, k, tc⟩ ts (1, xs) r b0 b1 (.returned (.bool true)) w' from fun w' e => by
          unfold BackPost
          simp only [Hok.out, Hno.out, Bool.and_self, if_true, Int.reduceEq, if_false]
          subst e
          exact ⟨_, _, by first | rfl | trivial, HM9.out.drop, HK9.out.step (Fr.set w9 ⟨bx, 3, none⟩ _) (fun x hx => .inl (by simpa using hx))⟩)
        clear hM9 hK9 hO9 hF9 HM8 HK8
        by_cases hc1 : fc = 1
        · have hf1 : fn = 1 := by omega
          subst hc1; subst hf1
          go_wp2_with fail
          go_ret
          exact HP.out _ rfl
        · have hfc1 : fc ≠ 1 := hc1
          go_wp2_with fail
          go_ret
          refine HP.out _ ?_
          unfold subT
          simp [hc1, tvv, Addr.add_lit]
end Go.Proofs.YtkmejehhdjdlbaaGreatDoor

namespace Go.Proofs.YtkmejehhdjdlbaaGreatDoor
open Go.RowKit

/-- A slice value's parts read a list of texts. -/
def Strs (w : World) (ao : Option Addr) (n : Nat) (ss : List ByteArray) : Prop := ss.length = n ∧ n ≤ maxLen ∧ Cs w ao (ss.map .string)
theorem Kp.strs {w w' : World} (h : Kp w w') {ao : Option Addr} {n : Nat} {ss : List ByteArray} (hx : Strs w ao n ss) : Strs w' ao n ss := ⟨hx.1, hx.2.1, h.cs hx.2.2⟩
theorem Strs.at {w : World} {ao : Option Addr} {n : Nat} {ss : List ByteArray} (h : Strs w ao n ss) (k : Nat) (hk : k < n) :
    ∃ b off, ao = some ⟨b, off, none⟩ ∧ ∀ j, (hj : j < n) → w.cell? ⟨b, off + j, none⟩ = some (.string (ss[j]'(by rw [h.1]; exact hj))) := by
  obtain ⟨h1, _, h2⟩ := h
  obtain ⟨b, off, rfl, hc⟩ := h2.at k (by simp; omega)
  exact ⟨b, off, rfl, fun j hj => hc j _ (by simp [show j < ss.length by omega])⟩
/-- Words as bytes. -/
def wb (ws : List ByteArray) : List Q.Bt := ws.map (·.data.toList)
theorem bs_append (a b : Q.Bt) : bs (a ++ b) = bs a ++ bs b := by
  unfold bs
  apply ByteArray.ext
  simp
theorem bs_plus (a : Q.Bt) (x : ByteArray) : bs (a ++ Q.plusW 0 x.data.toList) = bs a ++ x := by
  unfold Q.plusW
  rw [if_neg (by omega), List.nil_append, bs_append, bs_data]
theorem bs_plus1 (a : Q.Bt) (x : ByteArray) {k : Nat} (h : 0 < k) : bs (a ++ Q.plusW k x.data.toList) = bs a ++ (⟨#[43]⟩ : ByteArray) ++ x := by
  unfold Q.plusW
  rw [if_pos h, ← List.append_assoc, bs_append, bs_append, bs_data]
  rfl
theorem goM_step {srt : List Int → List Int} {k least : Nat} {q : Q.Pn} {ws : List Q.Bt} (h : k < ws.length) : Q.goM srt k least q (ws.drop k) = match Q.wordP srt k least q ws[k] with
    | none => none
    | some (m, q') => Q.goM srt (k + 1) m { q' with nm := q'.nm ++ Q.plusW k ws[k] } (ws.drop (k + 1)) := by
  rw [List.drop_eq_getElem_cons h]
  rfl
/-- What a valid pattern's messages are. -/
theorem lines_of_ok : ∀ (ls : List Ln) (prev : Option Int) (n : Nat), linesOk prev n ls = true → ∀ l ∈ ls, (l.1 = 0 ∨ l.1 = 1) ∧ l.2 ≠ [] ∧ l.2.length ≤ 24 ∧ ∀ t ∈ l.2, 1 ≤ t ∧ t ≤ 7
  | [], _, _, _, l, hl => by simp at hl
  | a :: r, prev, n, h, l, hl => by
    simp only [linesOk, Bool.and_eq_true, decide_eq_true_eq] at h
    obtain ⟨⟨⟨h1, h2⟩, h3⟩, h4⟩ := h
    rcases List.mem_cons.1 hl with rfl | hl
    · simp only [headOk, Bool.and_eq_true, Bool.or_eq_true, beq_iff_eq, bne_iff_ne, ne_eq] at h1
      refine ⟨h1.1.1, fun e => h1.2 (by rw [e]; rfl), by omega, fun t ht => ?_⟩
      have := List.all_eq_true.1 h2 t ht
      simpa using this
    · exact lines_of_ok r _ _ h4 l hl
theorem code0 {b0 b1 : List Int} {ls : List Ln} (h : checkL b0 b1 ls = 0) : okB b0 = true ∧ okB b1 = true ∧ ls ≠ [] ∧ ls.length ≤ 24 ∧ ∀ l ∈ ls, (l.1 = 0 ∨ l.1 = 1) ∧ l.2 ≠ [] ∧ l.2.length ≤ 24 ∧ ∀ t ∈ l.2, 1 ≤ t ∧ t ≤ 7 := by
  obtain ⟨g1, g2, g3⟩ := Q.code_shape (p := ⟨[], b0, b1, ls⟩) h
  refine ⟨g1, g2, ?_, g3, ?_⟩
  · rintro rfl
    unfold checkL at h
    simp [shapedL] at h
  · unfold checkL at h
    split at h
    · rename_i hs
      simp only [shapedL, Bool.and_eq_true] at hs
      exact lines_of_ok _ _ _ hs.2
    · cases h
theorem okB_len {b : List Int} (h : okB b = true) : b.length ≤ 2 := by
  rcases b with _ | ⟨x, _ | ⟨y, _ | ⟨z, r⟩⟩⟩ <;> simp [okB] at h ⊢
section
variable {w : World} {B bx : Nat} {nm : ByteArray} {t0 t1 tf : Tv} {td ts : List Tv} {D ls : List Ln} {b0 b1 : List Int}
theorem MdS.name (h : MdS w B bx nm t0 t1 tf td ts D ls b0 b1) (nm' : ByteArray) : MdS (w.setCell ⟨bx, 0, none⟩ (.string nm')) B bx nm' t0 t1 tf td ts D ls b0 b1 :=
  ⟨h.four.set0 _, h.hd, h.h1, h.hl, h.sep.fr (Fr.set w ⟨bx, 0, none⟩ _) (by intro x hx; simp at hx; have := h.hb; omega), h.hb⟩
end
/-- What Modify has at hand when k words have gone by. -/
structure MdL (w0 w : World) (B bx : Nat) (k : Nat) (q : Q.Pn) : Prop where
  mem : ∃ t0 t1 tf td ts D, MdS w B bx (bs q.nm) t0 t1 tf td ts D q.ls q.b0 q.b1 ∧ (k = 0 → D = [])
  kp : Kp w0 w
  zero : Four w (bx + 1) (.string ⟨#[]⟩) (.slice none 0 0) (.slice none 0 0) (.slice none 0 0)
  ln : ∀ l ∈ q.ls, (l.1 = 0 ∨ l.1 = 1) ∧ l.2 ≠ [] ∧ l.2.length ≤ 24 + k
  ll : q.ls.length ≤ 24
  ne : k = 0 → q.ls ≠ []
  l0 : q.b0.length ≤ 2 + 2 * k
  l1 : q.b1.length ≤ 2 + 2 * k
theorem preL_some {q : Q.Pn} {n : Nat} : Q.preT q n = if q.ls = [] ∨ q.ls.length < n then none else some { q with ls := preL q.ls n } := rfl
theorem modify_mem {α : Type} {P : α → Prop} {l : List α} {f : α → α} {j : Nat} (h : ∀ x ∈ l, P x) (hf : ∀ x ∈ l, P (f x)) : ∀ x ∈ l.modify j f, P x := fun x hx => by
  obtain ⟨i, hi, rfl⟩ := List.getElem_of_mem hx
  have hi' : i < l.length := by simpa using hi
  rw [List.getElem_modify]
  split
  · exact hf _ (List.getElem_mem hi')
  · exact h _ (List.getElem_mem hi')
theorem preL_mem {ls : List Ln} {n k : Nat} (h : ∀ l ∈ ls, (l.1 = 0 ∨ l.1 = 1) ∧ l.2 ≠ [] ∧ l.2.length ≤ 24 + k) : ∀ l ∈ preL ls n, (l.1 = 0 ∨ l.1 = 1) ∧ l.2 ≠ [] ∧ l.2.length ≤ 24 + (k + 1) := by
  have h' : ∀ l ∈ ls, (l.1 = 0 ∨ l.1 = 1) ∧ l.2 ≠ [] ∧ l.2.length ≤ 24 + (k + 1) := fun l hl => ⟨(h l hl).1, (h l hl).2.1, by have := (h l hl).2.2; omega⟩
  unfold preL
  split
  · exact modify_mem h' (fun l hl => ⟨(h l hl).1, by simp, by have := (h l hl).2.2; simp; omega⟩)
  · exact modify_mem h' (fun l hl => ⟨(h l hl).1, by simp, by have := (h l hl).2.2; simp; omega⟩)
theorem preL_length (ls : List Ln) (n : Nat) : (preL ls n).length = ls.length := by unfold preL; split <;> simp
/-- What is answered: an error, or a pattern in rows of the call's own. -/
def ModPost (w : World) (E : Nat → Addr) (p : Q.Pn) (ws : List Q.Bt) (e : Ending) (w' : World) : Prop := Kp w w' ∧ match Q.modP srtI p ws with
  | (some q, _) => ∃ t0 t1 tf td ts D, e = .returned (.tuple #[.agg #[.string (bs q.nm), tvv t0, tvv t1, tvv (subT tf D.length)], .nilIface]) ∧ td.length = D.length ∧ D.length ≤ 1 ∧ ts.length = q.ls.length ∧ Sep w' w.heap.size (rowsP t0 t1 tf (td ++ ts) q.b0 q.b1 (D ++ q.ls))
  | (none, c) => e = .returned (.tuple #[zeroP, .iface 229 (.pointer (some (E c)))])
theorem ModPost.bad {w w' : World} {E : Nat → Addr} {p : Q.Pn} {ws : List Q.Bt} (h : checkL p.b0 p.b1 p.ls ≠ 0) (hk : Kp w w') : ModPost w E p ws (.returned (.tuple #[zeroP, .iface 229 (.pointer (some (E (checkL p.b0 p.b1 p.ls))))])) w' := by
  refine ⟨hk, ?_⟩
  unfold Q.modP
  rw [if_pos (show p.code ≠ 0 from h)]
  rfl
theorem ModPost.arg {w w' : World} {E : Nat → Addr} {p : Q.Pn} {ws : List Q.Bt} (h0 : checkL p.b0 p.b1 p.ls = 0) (h : Q.goM srtI 0 0 p ws = none) (hk : Kp w w') : ModPost w E p ws (.returned (.tuple #[zeroP, .iface 229 (.pointer (some (E 1)))])) w' := by
  refine ⟨hk, ?_⟩
  unfold Q.modP
  rw [if_neg (show ¬ p.code ≠ 0 from fun q => q h0), h]
theorem ModPost.off {w w' : World} {E : Nat → Addr} {p q : Q.Pn} {ws : List Q.Bt} (h0 : checkL p.b0 p.b1 p.ls = 0) (h : Q.goM srtI 0 0 p ws = some q) (hc : checkL q.b0 q.b1 q.ls ≠ 0) (hk : Kp w w') : ModPost w E p ws (.returned (.tuple #[zeroP, .iface 229 (.pointer (some (E (checkL q.b0 q.b1 q.ls))))])) w' := by
  refine ⟨hk, ?_⟩
  unfold Q.modP
  rw [if_neg (show ¬ p.code ≠ 0 from fun q => q h0), h]
  simp only
  rw [if_neg (show ¬ q.code = 0 from hc)]
  rfl
theorem ModPost.fine {w w' : World} {E : Nat → Addr} {p q : Q.Pn} {ws : List Q.Bt} {t0 t1 tf : Tv} {td ts : List Tv} {D : List Ln} (h0 : checkL p.b0 p.b1 p.ls = 0) (h : Q.goM srtI 0 0 p ws = some q) (hc : checkL q.b0 q.b1 q.ls = 0) (hk : Kp w w')
    (hd : td.length = D.length) (h1 : D.length ≤ 1) (hl : ts.length = q.ls.length) (hs : Sep w' w.heap.size (rowsP t0 t1 tf (td ++ ts) q.b0 q.b1 (D ++ q.ls))) :
    ModPost w E p ws (.returned (.tuple #[.agg #[.string (bs q.nm), tvv t0, tvv t1, tvv (subT tf D.length)], .nilIface])) w' := by
  refine ⟨hk, ?_⟩
  unfold Q.modP
  rw [if_neg (show ¬ p.code ≠ 0 from fun q => q h0), h]
  simp only
  rw [if_pos (show q.code = 0 from hc)]
  exact ⟨t0, t1, tf, td, ts, D, rfl, hd, h1, hl, hs⟩
end Go.Proofs.YtkmejehhdjdlbaaGreatDoor

namespace Go.Proofs.YtkmejehhdjdlbaaGreatDoor
open Go.RowKit

theorem word_short {l : Q.Bt} {n : Nat} (h : Q.numP l = some n) : n ≤ 9223372036854775807 ∧ l.length ≤ 24 := by
  rcases Nat.lt_or_ge 3 l.length with h3 | h3
  · cases hp : (l.take 3 == [112, 115, 107]) with
    | false => rw [num_head hp] at h; cases h
    | true =>
      rw [num_rest h3 hp] at h
      cases ha : Lib.atoiAll (l.drop 3) with
      | ok v =>
        rw [ha] at h
        simp only at h
        split at h
        · rename_i hc
          have hw := atoi_wide ha
          have hl := Lib.itoa_length_le v (by omega) hw.2
          rw [hc.2, List.length_drop] at hl
          have := Option.some.inj h
          omega
        · cases h
      | «syntax» => rw [ha] at h; cases h
      | range => rw [ha] at h; cases h
  · rw [num_short h3] at h; cases h
theorem wb_get {ss : List ByteArray} {k : Nat} (h : k < ss.length) (h' : k < (wb ss).length) : (wb ss)[k] = ss[k].data.toList := List.getElem_map (fun x : ByteArray => x.data.toList)
/-- What a round looks at. -/
structure ModI (w0 wr : World) (B bx : Nat) (p : Q.Pn) (ws : List Q.Bt) (k least : Nat) (q : Q.Pn) : Prop where
  l : MdL w0 wr B bx k q
  g : Q.goM srtI 0 0 p ws = Q.goM srtI k least q (ws.drop k)
  n : q.nm.length ≤ 140737488351232 + 25 * k
  s : least ≤ 30000
theorem ModI.step {w0 wr w1 : World} {B bx : Nat} {p : Q.Pn} {ws : List Q.Bt} {k least least' : Nat} {q q1 : Q.Pn} (h : ModI w0 wr B bx p ws k least q) (hk : k < ws.length) (hw : Q.wordP srtI k least q ws[k] = some (least', q1)) (hq : q1.nm = q.nm) (hl : ws[k].length ≤ 24) (hs : least' ≤ 30000)
    (nm1 : ByteArray) (t0 t1 tf : Tv) (td ts : List Tv) (D : List Ln) (hm : MdS w1 B bx nm1 t0 t1 tf td ts D q1.ls q1.b0 q1.b1) (kp : Kp w0 w1) (hb : w0.heap.size ≤ bx) (hz : Four w1 (bx + 1) (.string ⟨#[]⟩) (.slice none 0 0) (.slice none 0 0) (.slice none 0 0))
    (ln : ∀ l ∈ q1.ls, (l.1 = 0 ∨ l.1 = 1) ∧ l.2 ≠ [] ∧ l.2.length ≤ 24 + (k + 1)) (ll : q1.ls.length ≤ 24) (l0 : q1.b0.length ≤ 2 + 2 * (k + 1)) (l1 : q1.b1.length ≤ 2 + 2 * (k + 1)) (u : ByteArray) (hu : u = bs (q.nm ++ Q.plusW k ws[k])) :
    ModI w0 (w1.setCell ⟨bx, 0, none⟩ (.string u)) B bx p ws (k + 1) least' { q1 with nm := q1.nm ++ Q.plusW k ws[k] } := by
  have hf := Fr.set w1 ⟨bx, 0, none⟩ (.string u)
  refine ⟨⟨⟨t0, t1, tf, td, ts, D, ?_, fun h => by omega⟩, kp_step' kp hf (fun j hj => by simp at hj; omega), hz.fr hf (by simp), ln, ll, fun h => by omega, l0, l1⟩, ?_, ?_, hs⟩
  · have := hm.name u
    rw [hq, ← hu]
    exact this
  · rw [h.g, goM_step hk, hw]
  · have := h.n
    unfold Q.plusW
    simp only [hq, List.length_append]
    split <;> simp <;> omega
set_option maxRecDepth 100000 in
set_option maxHeartbeats 8000000 in
theorem modify_wide (w : World) (E : Nat → Addr) (m : Int) (hE : Env w E m) (nm : ByteArray) (a0 a1 al : Option Addr) (n0 c0 n1 c1 nl cl : Nat) (b0 b1 : List Int) (ls : List Ln) (hP : PatI w a0 a1 al n0 n1 nl b0 b1 ls) (hs : ShortM nm n0 n1 nl ls)
    (ao : Option Addr) (nw cw : Nat) (ss : List ByteArray) (hW : Strs w ao nw ss) (hz : ∀ s ∈ ss, s.size ≤ 281474976710656) (hn : nw ≤ 200) :
    Calls Tryz.prog 19 #[patV nm a0 a1 al n0 c0 n1 c1 nl cl, .slice ao nw cw] w (ModPost w E ⟨nm.data.toList, b0, b1, ls⟩ (wb ss)) := by
  have Hs := Lib.hid hs
  have HPI := Lib.hid hP
  have HW := Lib.hid hW
  have Hz := Lib.hid hz
  have HE := Lib.hid hE
  have hw1 : 0 < w.heap.size := World.block_lt_of_cell? w _ hE.c0
  have hkA := Kp.new w (.cells #[.string nm, .slice a0 n0 c0, .slice a1 n1 c1, .slice al nl cl] 26)
  have hkB := Kp.new (w.alloc (.cells #[.string nm, .slice a0 n0 c0, .slice a1 n1 c1, .slice al nl cl] 26)) (.cells #[.string ⟨#[]⟩, .slice none 0 0, .slice none 0 0, .slice none 0 0] 26)
  have hFA := (Four.new w (.string nm) (.slice a0 n0 c0) (.slice a1 n1 c1) (.slice al nl cl) 26).kp hkB
  have hFB := Four.new (w.alloc (.cells #[.string nm, .slice a0 n0 c0, .slice a1 n1 c1, .slice al nl cl] 26)) (.string ⟨#[]⟩) (.slice none 0 0) (.slice none 0 0) (.slice none 0 0) 26
  rw [World.size_alloc] at hFB
  have hkw := Kp.trans hkA hkB
  clear hkA hkB hP hs hW hz hE
  go_enter Tryz.func19, Tryz.ntmps19
  go_upto_region 1 with fail
  obtain ⟨bx, hbx⟩ : ∃ bx, bx = w.heap.size := ⟨_, rfl⟩
  rw [← hbx] at hFA hFB hw1 ⊢
  generalize (w.alloc (.cells #[.string nm, .slice a0 n0 c0, .slice a1 n1 c1, .slice al nl cl] 26)).alloc (.cells #[.string ⟨#[]⟩, .slice none 0 0, .slice none 0 0, .slice none 0 0] 26) = wb1 at *
  have Hbx := Lib.hid hbx
  clear hbx
  have HC := Lib.hid (check_any wb1 E (hkw.errs HE.out.errs) nm a0 a1 al n0 c0 n1 c1 nl cl b0 b1 ls (hkw.is HPI.out.i0) (hkw.is HPI.out.i1) (hkw.lns HPI.out.il))
  have HFA := Lib.hid hFA
  have HFB := Lib.hid hFB
  have Hkw := Lib.hid hkw
  by_cases hc : checkL b0 b1 ls = 0
  · have Hc := Lib.hid hc
    have hcl := code0 hc
    rw [show errV E (checkL b0 b1 ls) = .nilIface by rw [hc]; rfl] at HC
    obtain ⟨y0, y1, y2, y3, z0, z1, z2, z3⟩ := hFA
    clear hc hFB hkw
    go_upto_region 4 with (go_at_call 24; go_loud (refine HC.out.mono ?_); rintro e w2 ⟨rfl, hk2⟩)
    have Hk2 := Lib.hid (Kp.trans Hkw.out hk2)
    have HCl := Lib.hid (cloned_any w2 nm a0 a1 al n0 c0 n1 c1 nl cl b0 b1 ls ⟨Hk2.out.is HPI.out.i0, Hk2.out.is HPI.out.i1, Hk2.out.lns HPI.out.il⟩ Hs.out)
    have hF2 := HFA.out.kp hk2
    have hZ2 := HFB.out.kp hk2
    have hs2 := hZ2.lt
    clear y0 y1 y2 y3 z0 z1 z2 z3
    have HZ2 := Lib.hid hZ2
    have HF2 := Lib.hid hF2
    obtain ⟨y0, y1, y2, y3, z0, z1, z2, z3⟩ := hF2
    clear hk2 hZ2
    go_wp2_with fail
    (with_reducible refine HCl.out.mono ?_)
    rintro e w3 ⟨hk3, t0, t1, tl, ts, rfl, hts, hsep⟩
    unfold tvv
    have hF3 := HF2.out.kp hk3
    obtain ⟨wf, hwf, hF, hPf⟩ := hF3.set (.string nm) (tvv t0) (tvv t1) (tvv tl)
    have hL : MdL w wf w2.heap.size bx 0 ⟨nm.data.toList, b0, b1, ls⟩ := by
      refine ⟨⟨t0, t1, tl, [], ts, [], ⟨?_, rfl, by simp, hts, hsep.fr hF (fun x hx => by simp at hx; omega), by omega⟩, fun _ => rfl⟩, ?_, (HZ2.out.kp hk3).fr hF (by simp), ?_, ?_, fun _ => hcl.2.2.1, ?_, ?_⟩
      · rw [bs_data]; exact hPf
      · exact kp_step' (Kp.trans Hk2.out hk3) hF (fun j hj => by simp at hj; have := Hbx.out; omega)
      · exact fun l hl => by have := hcl.2.2.2.2 l hl; exact ⟨this.1, this.2.1, this.2.2.1⟩
      · exact hcl.2.2.2.1
      · have := okB_len hcl.1; simp only; omega
      · have := okB_len hcl.2.1; simp only; omega
    have HM := Lib.hid (show ModI w wf w2.heap.size bx ⟨nm.data.toList, b0, b1, ls⟩ (wb ss) 0 0 ⟨nm.data.toList, b0, b1, ls⟩ from ⟨hL, rfl, by
      have h1 := Hs.out.nm
      have h2 := Lib.size_eq nm
      simp only; omega, by omega⟩)
    have Hwf := Lib.hid hwf
    have Hhl := Lib.hid (show bx + 1 < w2.heap.size from hs2)
    clear y0 y1 y2 y3 z0 z1 z2 z3 hwf hF hPf hL hsep hts
    obtain ⟨y0, y1, y2, y3, z0, z1, z2, z3⟩ := hF3
    unfold tvv at Hwf
    clear hk3
    generalize w2.heap.size = B at *
    go_wp2_with fail
    rw [← Hwf.out]
    go_loopw [7, 23] (fun v i wr => ∃ (k least : Nat) (q : Q.Pn), k ≤ nw ∧ i = .int .i64 (k : Nat) ∧ v = .int .i64 (least : Nat) ∧ ModI w wr B bx ⟨nm.data.toList, b0, b1, ls⟩ (wb ss) k least q) (fun _ i _ => nw - (intOf i).toNat)
    case atStart => exact ⟨0, 0, _, by omega, rfl, rfl, HM.out⟩
    case round =>
      obtain ⟨k, least, q, hk, rfl, rfl, hM⟩ := hrel
      rename World => wr
      have Hk3 := Lib.hid hM.l.kp
      have hz4 := hM.l.zero
      have HM := Lib.hid hM
      have HZ4 := Lib.hid hz4
      clear hM y0 y1 y2 y3 z0 z1 z2 z3 hz4
      obtain ⟨t0', t1', tf, td, ts', D, hmem, hD⟩ := HM.out.l.mem
      have Hmem := Lib.hid hmem
      have hF4 := hmem.four
      clear hmem
      by_cases hlt : k < nw
      · have hkl : k < ss.length := by rw [HW.out.1]; exact hlt
        obtain ⟨bw, ow, rfl, hcx⟩ := HW.out.at k hlt
        replace hcx := Hk3.out.cell (hcx k hlt)
        have hx := Hz.out ss[k] (List.getElem_mem hkl)
        have hkw' : k < (wb ss).length := by unfold wb; rw [List.length_map]; exact hkl
        have hgs := HM.out.g.trans (goM_step hkw')
        have hxe := wb_get hkl hkw'
        rw [hxe] at hgs
        have Hgs := Lib.hid hgs
        have HN := Lib.hid (number_any ss[k] wr E m (HE.out.keep Hk3.out) hx)
        clear hgs
        generalize ss[k] = x at *
        by_cases hfx : x.data.toList = Q.fallB
        · have hfx' : (x.toList == [102, 97, 108, 108, 98, 97, 99, 107]) = true := by rw [ByteArray.toList_eq]; exact beq_iff_eq.2 hfx
          have hfl : x.data.toList.length ≤ 24 := by rw [hfx]; decide
          by_cases hk0 : k = 0
          · replace hD := hD hk0
            have hne := HM.out.l.ne hk0
            obtain ⟨l, r, hlr⟩ := List.exists_cons_of_ne_nil hne
            have hlm := HM.out.l.ln l (by rw [hlr]; simp)
            have hll := HM.out.l.ll
            subst hD
            rw [hlr] at Hmem hll
            have htd := Hmem.out.hd
            obtain rfl : td = [] := List.eq_nil_of_length_eq_zero htd
            have htl := Hmem.out.hl
            obtain ⟨tq, tr, rfl⟩ : ∃ tq tr, ts' = tq :: tr := by
              cases ts' with
              | nil => simp at htl
              | cons a b => exact ⟨a, b, rfl⟩
            have hl0 := HM.out.l.l0
            have hl1 := HM.out.l.l1
            have Hlr := Lib.hid hlr
            have Hln := Lib.hid (fun l' (hl' : l' ∈ r) => HM.out.l.ln l' (by rw [hlr]; simp [hl']))
            clear htd htl hne hlr
            have HBk := Lib.hid (fun (w4 : World) (hM4 : MdS w4 B bx (bs q.nm) t0' t1' tf [] (tq :: tr) [] (l :: r) q.b0 q.b1) => (show Calls Tryz.prog 53 #[.pointer (some ⟨bx, 0, none⟩)] w4 (BackPost w4 B bx (bs q.nm) t0' t1' tf tq tr l r q.b0 q.b1) by
              obtain ⟨f, xs⟩ := l
              obtain ⟨e, h1, h2⟩ := hlm
              simp only at e h1 h2
              rcases e with rfl | rfl
              · exact back_0 w4 B bx (bs q.nm) t0' t1' tf tq tr xs r q.b0 q.b1 hM4 h1 (by omega) (by omega)
              · exact back_1 w4 B bx (bs q.nm) t0' t1' tf tq tr xs r q.b0 q.b1 hM4 h1 (by omega) (by omega)))
            have hbp : Q.wordP srtI k least q x.data.toList = (if okB l.2 && noneIn (if l.1 = 0 then q.b0 else q.b1) l.2 then some { Q.setBef q l.1 (srtI ((if l.1 = 0 then q.b0 else q.b1) ++ l.2)) with ls := r } else none).map (fun q => (least, q)) := by
              unfold Q.wordP
              rw [if_pos hfx, if_neg (by omega)]
              unfold Q.backP
              rw [Hlr.out]
              rfl
            have Hbp := Lib.hid hbp
            have Hk0 := Lib.hid hk0
            clear hbp hk0
            obtain ⟨y0, y1, y2, y3, z0, z1, z2, z3⟩ := hF4
            clear y0 y1 y2 y3 z0 z1 z2 z3
            go_upto_region 11 with fail
            (with_reducible refine HN.out.mono ?_)
            rintro e w4 ⟨hk4, v, bb, rfl, hv⟩
            have HK4 := Lib.hid (Kp.trans Hk3.out hk4)
            have HZ5 := Lib.hid (HZ4.out.kp hk4)
            have HM4 := Lib.hid (Hmem.out.kp hk4)
            have hk0 := Hk0.out
            clear hk4 hv
            go_upto_region 13 with fail
            (with_reducible refine (HBk.out w4 HM4.out).mono ?_)
            rintro e w5 hpo
            unfold BackPost at hpo
            cases hok : (okB l.2 && noneIn (if l.1 = 0 then q.b0 else q.b1) l.2) with
            | false =>
              rw [hok] at hpo Hbp
              simp only [Bool.false_eq_true, if_false, Option.map_none] at hpo Hbp
              obtain ⟨rfl, hk5⟩ := hpo
              have HK5 := Lib.hid (Kp.trans HK4.out hk5)
              have HZ6 := Lib.hid (HZ5.out.kp hk5)
              have HG := Lib.hid (show Q.goM srtI 0 0 ⟨nm.data.toList, b0, b1, ls⟩ (wb ss) = none by rw [Hgs.out, Hbp.out])
              clear hk5 hok
              go_upto_region 13 with fail
              refine anyP_start (fun w => w.cell? ⟨0, 0, none⟩ = some (.iface 229 (.pointer (some (E 1))))) 3 (fun _ => True) (fun _ _ => False) (by kernel_rfl) (fun _ _ _ _ h => h.elim) ?_
              obtain ⟨wd, hwd⟩ : ∃ wd, wd = w5.drew := ⟨_, rfl⟩
              have hkd : Kp w5 wd := hwd ▸ (⟨rfl, rfl, rfl, Nat.le_refl _, fun _ _ => rfl⟩ : Kp w5 w5.drew)
              rw [← hwd]
              clear hwd
              have hTd := (Kp.trans HK5.out hkd).cell HE.out.c0
              have hPd := Four.kp HZ6.out hkd
              have HKd := Lib.hid (Kp.trans HK5.out hkd)
              obtain ⟨wf2, hwf2, hF2, hPf2⟩ := hPd.set (.string ⟨#[]⟩) (.slice none 0 0) (.slice none 0 0) (.slice none 0 0)
              obtain ⟨y0, y1, y2, y3, z0, z1, z2, z3⟩ := hPd
              obtain ⟨r0, r1, r2, r3, _, _, _, _⟩ := hPf2
              have Hwf2 := Lib.hid hwf2
              have HTf := Lib.hid (hF2.cell hTd (by simp))
              have HKf := Lib.hid (kp_step' HKd.out hF2 (fun j hj => by simp at hj; have := Hbx.out; omega))
              clear hwf2 hF2 hkd
              refine anyT_take puts_true [0] (by kernel_rfl) hTd ?_
              simp only [opsAt, List.getElem?_toArray, List.getElem?_cons_zero]
              repeat (go_big_quiet_step (fail))
              refine wpQuiet_nil ?_
              refine anyT_load puts_true 1 45 (.iface 229 (.pointer (some (E 1)))) rfl rfl (by kernel_rfl) hTd (fun w h => exec_load32 h rfl rfl) ?_
              simp only [Act.put, List.setIfInBounds_toArray, List.set_cons_zero, List.set_cons_succ]
              refine anyP_one 2 (by kernel_rfl) ?_
              simp only [opsAt, List.getElem?_toArray, List.getElem?_cons_zero, List.getElem?_cons_succ]
              clear hTd
              go_wp2_with fail
              rw [← Hwf2.out]
              refine ⟨fun _ => HTf.out, ?_⟩
              refine anyP_one 3 (by kernel_rfl) ?_
              simp only [opsAt, List.getElem?_toArray, List.getElem?_cons_zero, List.getElem?_cons_succ]
              clear y0 y1 y2 y3 z0 z1 z2 z3
              go_wp2_with fail
              refine ⟨fun h => absurd rfl h, ?_⟩
              refine anyP_end (by kernel_rfl) ?_
              go_wp2_with fail
              show bodyPost Tryz.prog Tryz.f19 (ModPost w E ⟨nm.data.toList, b0, b1, ls⟩ (wb ss)) .ret _ _
              refine bodyPost_ret (v := .tuple #[zeroP, .iface 229 (.pointer (some (E 1)))]) (by simp [results, Tryz.results19, go_sem, r0, r1, r2, r3]) rfl ?_
              exact ModPost.arg (p := ⟨nm.data.toList, b0, b1, ls⟩) Hc.out HG.out HKf.out
            | true =>
              rw [hok] at hpo Hbp
              simp only [if_true, Option.map_some] at hpo Hbp
              obtain ⟨t05, t15, rfl, hM5, hkp5⟩ := hpo
              have hokb : l.2.length ≤ 2 := okB_len (by simp only [Bool.and_eq_true] at hok; exact hok.1)
              clear hok
              obtain ⟨q1, hq1⟩ : ∃ q1 : Q.Pn, q1 = { Q.setBef q l.1 (srtI ((if l.1 = 0 then q.b0 else q.b1) ++ l.2)) with ls := r } := ⟨_, rfl⟩
              rw [← hq1] at Hbp
              have hqn : q1.nm = q.nm := by rw [hq1]; unfold Q.setBef; split <;> rfl
              have hqs : q1.ls = r := by rw [hq1]
              have hqb : q1.b0 = if l.1 = 0 then srtI (q.b0 ++ l.2) else q.b0 := by rw [hq1]; unfold Q.setBef; split <;> rfl
              have hqc : q1.b1 = if l.1 = 0 then q.b1 else srtI (q.b1 ++ l.2) := by rw [hq1]; unfold Q.setBef; split <;> rfl
              rw [← hqb, ← hqc, ← hqs] at hM5
              have hb0l : q1.b0.length ≤ 2 + 2 * (k + 1) := by rw [hqb]; split <;> (try rw [srtI_length, List.length_append]) <;> omega
              have hb1l : q1.b1.length ≤ 2 + 2 * (k + 1) := by rw [hqc]; split <;> (try rw [srtI_length, List.length_append]) <;> omega
              have hlsl : q1.ls.length ≤ 24 := by rw [hqs]; simp only [List.length_cons] at hll; omega
              have HZ6 := Lib.hid (hkp5.four HZ5.out (by omega) (by have := Hhl.out; omega))
              have HK6 := Lib.hid (hkp5.keep HK4.out (by have := Hbx.out; omega) (by have := Hbx.out; have := Hhl.out; omega))
              have HS := Lib.hid (HM.out.step (w1 := w5) (q1 := q1) (least' := least) hkw' (hxe ▸ Hbp.out) hqn (by rw [hxe]; exact hfl) HM.out.s (bs q.nm) t05 t15 tf [tq] tr [l] hM5 HK6.out (by have := Hbx.out; omega) HZ6.out
                (fun l' hl' => by have := Hln.out l' (by rw [← hqs]; exact hl'); exact ⟨this.1, this.2.1, by omega⟩) hlsl hb0l hb1l (bs q.nm ++ x) (by rw [hxe, hk0]; exact (bs_plus q.nm x).symm))
              obtain ⟨y0, y1, y2, y3, z0, z1, z2, z3⟩ := hM5.four
              have hqz : (bs q.nm).size ≤ 140737488360000 := by have := HM.out.n; rw [bs_size]; omega
              clear hq1 hqn hqs hqb hqc hb0l hb1l hlsl hM5 hkp5 hl0 hl1 hll hokb
              go_wp2_with fail
              go_roundw
              case rel => exact ⟨k + 1, least, _, by omega, by go_num, by go_num, HS.out⟩
              case measure => simp [intOf]; omega
          · have HG := Lib.hid (show Q.goM srtI 0 0 ⟨nm.data.toList, b0, b1, ls⟩ (wb ss) = none by
              rw [Hgs.out]
              unfold Q.wordP
              rw [if_pos hfx, if_pos (by omega)])
            obtain ⟨y0, y1, y2, y3, z0, z1, z2, z3⟩ := hF4
            clear y0 y1 y2 y3 z0 z1 z2 z3
            go_upto_region 11 with fail
            (with_reducible refine HN.out.mono ?_)
            rintro e w4 ⟨hk4, v, bb, rfl, hv⟩
            have HK4 := Lib.hid (Kp.trans Hk3.out hk4)
            have HZ5 := Lib.hid (HZ4.out.kp hk4)
            clear hk4 hv
            go_upto_region 13 with fail
            refine anyP_start (fun w => w.cell? ⟨0, 0, none⟩ = some (.iface 229 (.pointer (some (E 1))))) 3 (fun _ => True) (fun _ _ => False) (by kernel_rfl) (fun _ _ _ _ h => h.elim) ?_
            obtain ⟨wd, hwd⟩ : ∃ wd, wd = w4.drew := ⟨_, rfl⟩
            have hkd : Kp w4 wd := hwd ▸ (⟨rfl, rfl, rfl, Nat.le_refl _, fun _ _ => rfl⟩ : Kp w4 w4.drew)
            rw [← hwd]
            clear hwd
            have hTd := (Kp.trans HK4.out hkd).cell HE.out.c0
            have hPd := Four.kp HZ5.out hkd
            have HKd := Lib.hid (Kp.trans HK4.out hkd)
            obtain ⟨wf2, hwf2, hF2, hPf2⟩ := hPd.set (.string ⟨#[]⟩) (.slice none 0 0) (.slice none 0 0) (.slice none 0 0)
            obtain ⟨y0, y1, y2, y3, z0, z1, z2, z3⟩ := hPd
            obtain ⟨r0, r1, r2, r3, _, _, _, _⟩ := hPf2
            have Hwf2 := Lib.hid hwf2
            have HTf := Lib.hid (hF2.cell hTd (by simp))
            have HKf := Lib.hid (kp_step' HKd.out hF2 (fun j hj => by simp at hj; have := Hbx.out; omega))
            clear hwf2 hF2 hkd
            refine anyT_take puts_true [0] (by kernel_rfl) hTd ?_
            simp only [opsAt, List.getElem?_toArray, List.getElem?_cons_zero]
            repeat (go_big_quiet_step (fail))
            refine wpQuiet_nil ?_
            refine anyT_load puts_true 1 45 (.iface 229 (.pointer (some (E 1)))) rfl rfl (by kernel_rfl) hTd (fun w h => exec_load32 h rfl rfl) ?_
            simp only [Act.put, List.setIfInBounds_toArray, List.set_cons_zero, List.set_cons_succ]
            refine anyP_one 2 (by kernel_rfl) ?_
            simp only [opsAt, List.getElem?_toArray, List.getElem?_cons_zero, List.getElem?_cons_succ]
            clear hTd
            go_wp2_with fail
            rw [← Hwf2.out]
            refine ⟨fun _ => HTf.out, ?_⟩
            refine anyP_one 3 (by kernel_rfl) ?_
            simp only [opsAt, List.getElem?_toArray, List.getElem?_cons_zero, List.getElem?_cons_succ]
            clear y0 y1 y2 y3 z0 z1 z2 z3
            go_wp2_with fail
            refine ⟨fun h => absurd rfl h, ?_⟩
            refine anyP_end (by kernel_rfl) ?_
            go_wp2_with fail
            show bodyPost Tryz.prog Tryz.f19 (ModPost w E ⟨nm.data.toList, b0, b1, ls⟩ (wb ss)) .ret _ _
            refine bodyPost_ret (v := .tuple #[zeroP, .iface 229 (.pointer (some (E 1)))]) (by simp [results, Tryz.results19, go_sem, r0, r1, r2, r3]) rfl ?_
            exact ModPost.arg (p := ⟨nm.data.toList, b0, b1, ls⟩) Hc.out HG.out HKf.out
        · have hnf : Q.wordP srtI k least q x.data.toList = match Q.numP x.data.toList with | some n => if n < least then none else (Q.preT q n).map (fun q => (n + 1, q)) | none => none := by unfold Q.wordP; rw [if_neg hfx]; cases Q.numP x.data.toList <;> rfl
          have Hnf := Lib.hid hnf
          have hfx' : (x.toList == [102, 97, 108, 108, 98, 97, 99, 107]) = false := by rw [ByteArray.toList_eq]; exact beq_eq_false_iff_ne.2 hfx
          clear hnf
          go_upto_region 11 with fail
          (with_reducible refine HN.out.mono ?_)
          rintro e w4 ⟨hk4, v, bb, rfl, hv⟩
          have HK4 := Lib.hid (Kp.trans Hk3.out hk4)
          have HZ5 := Lib.hid (HZ4.out.kp hk4)
          have HM4 := Lib.hid (Hmem.out.kp hk4)
          obtain ⟨y0, y1, y2, y3, z0, z1, z2, z3⟩ := hF4
          clear y0 y1 y2 y3 z0 z1 z2 z3 hk4
          cases hnum : Q.numP x.data.toList with
          | none =>
            rw [hnum] at hv
            simp only at hv
            subst hv
            have HG := Lib.hid (show Q.goM srtI 0 0 ⟨nm.data.toList, b0, b1, ls⟩ (wb ss) = none by rw [Hgs.out, Hnf.out, hnum])
            clear hnum
            go_upto_region 15 with fail
            refine anyP_start (fun w => w.cell? ⟨0, 0, none⟩ = some (.iface 229 (.pointer (some (E 1))))) 3 (fun _ => True) (fun _ _ => False) (by kernel_rfl) (fun _ _ _ _ h => h.elim) ?_
            obtain ⟨wd, hwd⟩ : ∃ wd, wd = w4.drew := ⟨_, rfl⟩
            have hkd : Kp w4 wd := hwd ▸ (⟨rfl, rfl, rfl, Nat.le_refl _, fun _ _ => rfl⟩ : Kp w4 w4.drew)
            rw [← hwd]
            clear hwd
            have hTd := (Kp.trans HK4.out hkd).cell HE.out.c0
            have hPd := Four.kp HZ5.out hkd
            have HKd := Lib.hid (Kp.trans HK4.out hkd)
            obtain ⟨wf2, hwf2, hF2, hPf2⟩ := hPd.set (.string ⟨#[]⟩) (.slice none 0 0) (.slice none 0 0) (.slice none 0 0)
            obtain ⟨y0, y1, y2, y3, z0, z1, z2, z3⟩ := hPd
            obtain ⟨r0, r1, r2, r3, _, _, _, _⟩ := hPf2
            have Hwf2 := Lib.hid hwf2
            have HTf := Lib.hid (hF2.cell hTd (by simp))
            have HKf := Lib.hid (kp_step' HKd.out hF2 (fun j hj => by simp at hj; have := Hbx.out; omega))
            clear hwf2 hF2 hkd
            refine anyT_take puts_true [0] (by kernel_rfl) hTd ?_
            simp only [opsAt, List.getElem?_toArray, List.getElem?_cons_zero]
            repeat (go_big_quiet_step (fail))
            refine wpQuiet_nil ?_
            refine anyT_load puts_true 1 60 (.iface 229 (.pointer (some (E 1)))) rfl rfl (by kernel_rfl) hTd (fun w h => exec_load32 h rfl rfl) ?_
            simp only [Act.put, List.setIfInBounds_toArray, List.set_cons_zero, List.set_cons_succ]
            refine anyP_one 2 (by kernel_rfl) ?_
            simp only [opsAt, List.getElem?_toArray, List.getElem?_cons_zero, List.getElem?_cons_succ]
            clear hTd
            go_wp2_with fail
            rw [← Hwf2.out]
            refine ⟨fun _ => HTf.out, ?_⟩
            refine anyP_one 3 (by kernel_rfl) ?_
            simp only [opsAt, List.getElem?_toArray, List.getElem?_cons_zero, List.getElem?_cons_succ]
            clear y0 y1 y2 y3 z0 z1 z2 z3
            go_wp2_with fail
            refine ⟨fun h => absurd rfl h, ?_⟩
            refine anyP_end (by kernel_rfl) ?_
            go_wp2_with fail
            show bodyPost Tryz.prog Tryz.f19 (ModPost w E ⟨nm.data.toList, b0, b1, ls⟩ (wb ss)) .ret _ _
            refine bodyPost_ret (v := .tuple #[zeroP, .iface 229 (.pointer (some (E 1)))]) (by simp [results, Tryz.results19, go_sem, r0, r1, r2, r3]) rfl ?_
            exact ModPost.arg (p := ⟨nm.data.toList, b0, b1, ls⟩) Hc.out HG.out HKf.out
          | some n =>
            rw [hnum] at hv
            simp only at hv
            obtain ⟨rfl, rfl⟩ := hv
            have hns := word_short hnum
            rw [hnum] at Hnf
            simp only at Hnf
            clear hnum
            by_cases hnl : n < least
            · have HG := Lib.hid (show Q.goM srtI 0 0 ⟨nm.data.toList, b0, b1, ls⟩ (wb ss) = none by rw [Hgs.out, Hnf.out, if_pos hnl])
              go_upto_region 15 with fail
              refine anyP_start (fun w => w.cell? ⟨0, 0, none⟩ = some (.iface 229 (.pointer (some (E 1))))) 3 (fun _ => True) (fun _ _ => False) (by kernel_rfl) (fun _ _ _ _ h => h.elim) ?_
              obtain ⟨wd, hwd⟩ : ∃ wd, wd = w4.drew := ⟨_, rfl⟩
              have hkd : Kp w4 wd := hwd ▸ (⟨rfl, rfl, rfl, Nat.le_refl _, fun _ _ => rfl⟩ : Kp w4 w4.drew)
              rw [← hwd]
              clear hwd
              have hTd := (Kp.trans HK4.out hkd).cell HE.out.c0
              have hPd := Four.kp HZ5.out hkd
              have HKd := Lib.hid (Kp.trans HK4.out hkd)
              obtain ⟨wf2, hwf2, hF2, hPf2⟩ := hPd.set (.string ⟨#[]⟩) (.slice none 0 0) (.slice none 0 0) (.slice none 0 0)
              obtain ⟨y0, y1, y2, y3, z0, z1, z2, z3⟩ := hPd
              obtain ⟨r0, r1, r2, r3, _, _, _, _⟩ := hPf2
              have Hwf2 := Lib.hid hwf2
              have HTf := Lib.hid (hF2.cell hTd (by simp))
              have HKf := Lib.hid (kp_step' HKd.out hF2 (fun j hj => by simp at hj; have := Hbx.out; omega))
              clear hwf2 hF2 hkd
              refine anyT_take puts_true [0] (by kernel_rfl) hTd ?_
              simp only [opsAt, List.getElem?_toArray, List.getElem?_cons_zero]
              repeat (go_big_quiet_step (fail))
              refine wpQuiet_nil ?_
              refine anyT_load puts_true 1 60 (.iface 229 (.pointer (some (E 1)))) rfl rfl (by kernel_rfl) hTd (fun w h => exec_load32 h rfl rfl) ?_
              simp only [Act.put, List.setIfInBounds_toArray, List.set_cons_zero, List.set_cons_succ]
              refine anyP_one 2 (by kernel_rfl) ?_
              simp only [opsAt, List.getElem?_toArray, List.getElem?_cons_zero, List.getElem?_cons_succ]
              clear hTd
              go_wp2_with fail
              rw [← Hwf2.out]
              refine ⟨fun _ => HTf.out, ?_⟩
              refine anyP_one 3 (by kernel_rfl) ?_
              simp only [opsAt, List.getElem?_toArray, List.getElem?_cons_zero, List.getElem?_cons_succ]
              clear y0 y1 y2 y3 z0 z1 z2 z3
              go_wp2_with fail
              refine ⟨fun h => absurd rfl h, ?_⟩
              refine anyP_end (by kernel_rfl) ?_
              go_wp2_with fail
              show bodyPost Tryz.prog Tryz.f19 (ModPost w E ⟨nm.data.toList, b0, b1, ls⟩ (wb ss)) .ret _ _
              refine bodyPost_ret (v := .tuple #[zeroP, .iface 229 (.pointer (some (E 1)))]) (by simp [results, Tryz.results19, go_sem, r0, r1, r2, r3]) rfl ?_
              exact ModPost.arg (p := ⟨nm.data.toList, b0, b1, ls⟩) Hc.out HG.out HKf.out
            · have HPr := Lib.hid (pre_any w4 B bx (bs q.nm) t0' t1' tf td ts' D q.ls q.b0 q.b1 n HM4.out (fun l hl => ⟨(HM.out.l.ln l hl).2.1, by have := (HM.out.l.ln l hl).2.2; omega⟩) (by have := HM.out.l.ll; omega) hns.1)
              rw [if_neg hnl] at Hnf
              by_cases hpr : q.ls = [] ∨ q.ls.length < n
              · have HG := Lib.hid (show Q.goM srtI 0 0 ⟨nm.data.toList, b0, b1, ls⟩ (wb ss) = none by rw [Hgs.out, Hnf.out, preL_some, if_pos hpr]; rfl)
                unfold PrePost at HPr
                simp only [if_pos hpr] at HPr
                go_upto_region 15 with fail
                (with_reducible refine HPr.out.mono ?_)
                rintro e w5 ⟨rfl, rfl⟩
                go_upto_region 15 with fail
                refine anyP_start (fun w => w.cell? ⟨0, 0, none⟩ = some (.iface 229 (.pointer (some (E 1))))) 3 (fun _ => True) (fun _ _ => False) (by kernel_rfl) (fun _ _ _ _ h => h.elim) ?_
                obtain ⟨wd, hwd⟩ : ∃ wd, wd = w4.drew := ⟨_, rfl⟩
                have hkd : Kp w4 wd := hwd ▸ (⟨rfl, rfl, rfl, Nat.le_refl _, fun _ _ => rfl⟩ : Kp w4 w4.drew)
                rw [← hwd]
                clear hwd
                have hTd := (Kp.trans HK4.out hkd).cell HE.out.c0
                have hPd := Four.kp HZ5.out hkd
                have HKd := Lib.hid (Kp.trans HK4.out hkd)
                obtain ⟨wf2, hwf2, hF2, hPf2⟩ := hPd.set (.string ⟨#[]⟩) (.slice none 0 0) (.slice none 0 0) (.slice none 0 0)
                obtain ⟨y0, y1, y2, y3, z0, z1, z2, z3⟩ := hPd
                obtain ⟨r0, r1, r2, r3, _, _, _, _⟩ := hPf2
                have Hwf2 := Lib.hid hwf2
                have HTf := Lib.hid (hF2.cell hTd (by simp))
                have HKf := Lib.hid (kp_step' HKd.out hF2 (fun j hj => by simp at hj; have := Hbx.out; omega))
                clear hwf2 hF2 hkd
                refine anyT_take puts_true [0] (by kernel_rfl) hTd ?_
                simp only [opsAt, List.getElem?_toArray, List.getElem?_cons_zero]
                repeat (go_big_quiet_step (fail))
                refine wpQuiet_nil ?_
                refine anyT_load puts_true 1 60 (.iface 229 (.pointer (some (E 1)))) rfl rfl (by kernel_rfl) hTd (fun w h => exec_load32 h rfl rfl) ?_
                simp only [Act.put, List.setIfInBounds_toArray, List.set_cons_zero, List.set_cons_succ]
                refine anyP_one 2 (by kernel_rfl) ?_
                simp only [opsAt, List.getElem?_toArray, List.getElem?_cons_zero, List.getElem?_cons_succ]
                clear hTd
                go_wp2_with fail
                rw [← Hwf2.out]
                refine ⟨fun _ => HTf.out, ?_⟩
                refine anyP_one 3 (by kernel_rfl) ?_
                simp only [opsAt, List.getElem?_toArray, List.getElem?_cons_zero, List.getElem?_cons_succ]
                clear y0 y1 y2 y3 z0 z1 z2 z3
                go_wp2_with fail
                refine ⟨fun h => absurd rfl h, ?_⟩
                refine anyP_end (by kernel_rfl) ?_
                go_wp2_with fail
                show bodyPost Tryz.prog Tryz.f19 (ModPost w E ⟨nm.data.toList, b0, b1, ls⟩ (wb ss)) .ret _ _
                refine bodyPost_ret (v := .tuple #[zeroP, .iface 229 (.pointer (some (E 1)))]) (by simp [results, Tryz.results19, go_sem, r0, r1, r2, r3]) rfl ?_
                exact ModPost.arg (p := ⟨nm.data.toList, b0, b1, ls⟩) Hc.out HG.out HKf.out
              · unfold PrePost at HPr
                simp only [if_neg hpr] at HPr
                rw [preL_some, if_neg hpr, Option.map_some] at Hnf
                go_upto_region 10 with fail
                (with_reducible refine HPr.out.mono ?_)
                rintro e w5 ⟨ts5, rfl, hM5, hkp5⟩
                have HZ6 := Lib.hid (hkp5.four HZ5.out (by omega) (by have := Hhl.out; omega))
                have HK6 := Lib.hid (hkp5.keep HK4.out (by have := Hbx.out; omega) (by have := Hbx.out; have := Hhl.out; omega))
                have HM5 := Lib.hid hM5
                obtain ⟨y0, y1, y2, y3, z0, z1, z2, z3⟩ := hM5.four
                clear hM5 hkp5
                have hn24 : n ≤ 24 := by have := HM.out.l.ll; omega
                have HS := Lib.hid (fun (w1 : World) (nm1 : ByteArray) (hm : MdS w1 B bx nm1 t0' t1' tf td ts5 D (preL q.ls n) q.b0 q.b1) (kp : Kp w w1) hz (u : ByteArray) (hu : u = bs (q.nm ++ Q.plusW k x.data.toList)) => HM.out.step (w1 := w1) (q1 := { q with ls := preL q.ls n }) (least' := n + 1) hkw' (hxe ▸ Hnf.out) rfl (by rw [hxe]; exact hns.2) (by omega) nm1 t0' t1' tf td ts5 D hm kp (by have := Hbx.out; omega) hz
                  (preL_mem HM.out.l.ln) (by rw [preL_length]; exact HM.out.l.ll) (by have := HM.out.l.l0; simp only; omega) (by have := HM.out.l.l1; simp only; omega) u (by rw [hxe]; exact hu))
                have hq1 : (bs q.nm).size ≤ 140737488360000 := by have := HM.out.n; rw [bs_size]; omega
                by_cases hk0 : k = 0
                · have HB := Lib.hid (bs_plus q.nm x)
                  subst hk0
                  go_wp2_with fail
                  go_roundw
                  case rel => exact ⟨0 + 1, n + 1, _, by omega, by go_num, by go_num, HS.out w5 _ HM5.out HK6.out HZ6.out _ HB.out.symm⟩
                  case measure => simp [intOf]; omega
                · have HB := Lib.hid (bs_plus1 q.nm x (show 0 < k by omega))
                  have hq2 : (bs q.nm ++ (⟨#[43]⟩ : ByteArray)).size ≤ 140737488360001 := by rw [ByteArray.size_append]; have : (⟨#[43]⟩ : ByteArray).size = 1 := rfl; omega
                  go_wp2_with fail
                  go_roundw
                  case rel => exact ⟨k + 1, n + 1, _, by omega, by go_num, by go_num, HS.out (w5.setCell ⟨bx, 0, none⟩ (.string (bs q.nm ++ (⟨#[43]⟩ : ByteArray)))) _ (HM5.out.name _) (kp_step' HK6.out (Fr.set _ _ _) (by intro j hj; simp at hj; have := Hbx.out; omega)) (HZ6.out.fr (Fr.set _ _ _) (by simp)) _ HB.out.symm⟩
                  case measure => simp [intOf]; omega
      · obtain rfl : k = nw := by omega
        have hG : Q.goM srtI 0 0 ⟨nm.data.toList, b0, b1, ls⟩ (wb ss) = some q := by
          rw [HM.out.g, List.drop_of_length_le (by unfold wb; rw [List.length_map, HW.out.1]; exact Nat.le_refl _)]
          rfl
        have HG := Lib.hid hG
        have hlns := Hmem.out.pat (by have := HM.out.l.ll; omega) (fun l hl => by have := (HM.out.l.ln l hl).2.2; omega)
        have HC2 := Lib.hid (check_any wr E (Hk3.out.errs HE.out.errs) (bs q.nm) t0'.ao t1'.ao (subT tf D.length).ao t0'.n t0'.c t1'.n t1'.c (subT tf D.length).n (subT tf D.length).c q.b0 q.b1 q.ls hlns.i0 hlns.i1 hlns.il)
        obtain ⟨sa, sn, sc, hsub⟩ : ∃ sa sn sc, subT tf D.length = ⟨sa, sn, sc⟩ := ⟨_, _, _, rfl⟩
        rw [hsub] at HC2 hF4
        have Hsub := Lib.hid hsub
        clear hG hlns hsub
        by_cases hc2 : checkL q.b0 q.b1 q.ls = 0
        · have Hc2 := Lib.hid hc2
          rw [show errV E (checkL q.b0 q.b1 q.ls) = .nilIface by rw [hc2]; rfl] at HC2
          have HF4 := Lib.hid hF4
          obtain ⟨y0, y1, y2, y3, z0, z1, z2, z3⟩ := hF4
          unfold tvv at y1 y2 y3
          clear hc2
          go_wp2_with fail
          (with_reducible refine HC2.out.mono ?_)
          rintro e w7 ⟨rfl, hk7⟩
          have hF7 := HF4.out.kp hk7
          have hZ7 := HZ4.out.kp hk7
          have HM7 := Lib.hid (Hmem.out.kp hk7)
          obtain ⟨wf2, hwf2, hF2, hPf2⟩ := hZ7.set (.string (bs q.nm)) (.slice t0'.ao t0'.n t0'.c) (.slice t1'.ao t1'.n t1'.c) (.slice sa sn sc)
          clear y0 y1 y2 y3 z0 z1 z2 z3
          obtain ⟨y0, y1, y2, y3, z0, z1, z2, z3⟩ := hF7
          unfold tvv at y1 y2 y3
          obtain ⟨x0, x1, x2, x3, f0, f1, f2, f3⟩ := hZ7
          obtain ⟨r0, r1, r2, r3, _, _, _, _⟩ := hPf2
          have Hwf2 := Lib.hid hwf2
          have HKf := Lib.hid (kp_step' (Kp.trans Hk3.out hk7) hF2 (fun j hj => by simp at hj; have := Hbx.out; omega))
          have hsp := (HM7.out.sep.fr hF2 (fun x hx => by simp at hx; have := Hhl.out; omega)).base (B' := w.heap.size) (by have := Hhl.out; have := Hbx.out; omega)
          have HQ := Lib.hid (ModPost.fine (E := E) (p := ⟨nm.data.toList, b0, b1, ls⟩) Hc.out HG.out Hc2.out HKf.out HM7.out.hd HM7.out.h1 HM7.out.hl hsp)
          rw [Hsub.out] at HQ
          clear hwf2 hF2 hk7 hsp
          go_wp2_with fail
          rw [← Hwf2.out]
          show bodyPost Tryz.prog Tryz.f19 (ModPost w E ⟨nm.data.toList, b0, b1, ls⟩ (wb ss)) .ret _ _
          refine bodyPost_ret (v := .tuple #[.agg #[.string (bs q.nm), tvv t0', tvv t1', tvv ⟨sa, sn, sc⟩], .nilIface]) (by simp [results, Tryz.results19, go_sem, r0, r1, r2, r3, tvv]) rfl ?_
          exact HQ.out
        · have Hc2 := Lib.hid hc2
          have HEe := Lib.hid (errV_ptr E hc2)
          rw [HEe.out] at HC2
          obtain ⟨y0, y1, y2, y3, z0, z1, z2, z3⟩ := hF4
          unfold tvv at y1 y2 y3
          clear hc2
          go_upto_region 21 with fail
          (with_reducible refine HC2.out.mono ?_)
          rintro e w7 ⟨rfl, hk7⟩
          have hZ7 := HZ4.out.kp hk7
          obtain ⟨wf2, hwf2, hF2, hPf2⟩ := hZ7.set (.string ⟨#[]⟩) (.slice none 0 0) (.slice none 0 0) (.slice none 0 0)
          clear y0 y1 y2 y3 z0 z1 z2 z3
          obtain ⟨y0, y1, y2, y3, z0, z1, z2, z3⟩ := hZ7
          obtain ⟨r0, r1, r2, r3, _, _, _, _⟩ := hPf2
          have Hwf2 := Lib.hid hwf2
          have HKf := Lib.hid (kp_step' (Kp.trans Hk3.out hk7) hF2 (fun j hj => by simp at hj; have := Hbx.out; omega))
          clear hwf2 hF2 hk7
          go_wp2_with fail
          rw [← Hwf2.out]
          show bodyPost Tryz.prog Tryz.f19 (ModPost w E ⟨nm.data.toList, b0, b1, ls⟩ (wb ss)) .ret _ _
          refine bodyPost_ret (v := .tuple #[zeroP, .iface 229 (.pointer (some (E (checkL q.b0 q.b1 q.ls))))]) (by simp [results, Tryz.results19, go_sem, r0, r1, r2, r3]) rfl ?_
          exact ModPost.off (p := ⟨nm.data.toList, b0, b1, ls⟩) Hc.out HG.out Hc2.out HKf.out
  · have Hc := Lib.hid hc
    have HEe := Lib.hid (errV_ptr E hc)
    rw [HEe.out] at HC
    obtain ⟨y0, y1, y2, y3, z0, z1, z2, z3⟩ := hFA
    clear hc hFB hkw
    go_upto_region 3 with (go_at_call 24; go_loud (refine HC.out.mono ?_); rintro e w2 ⟨rfl, hk2⟩)
    have hP4 := HFB.out.kp hk2
    obtain ⟨wf, hwf, hF, hPf⟩ := hP4.set (.string ⟨#[]⟩) (.slice none 0 0) (.slice none 0 0) (.slice none 0 0)
    clear y0 y1 y2 y3 z0 z1 z2 z3
    obtain ⟨y0, y1, y2, y3, z0, z1, z2, z3⟩ := hP4
    obtain ⟨c0, c1, c2, c3, _, _, _, _⟩ := hPf
    have Hwf := Lib.hid hwf
    have HKf := Lib.hid (kp_step' (Kp.trans Hkw.out hk2) hF (fun j hj => by simp at hj; have := Hbx.out; omega))
    clear hwf hF hk2
    go_wp2_with fail
    rw [← Hwf.out]
    show bodyPost Tryz.prog Tryz.f19 (ModPost w E ⟨nm.data.toList, b0, b1, ls⟩ (wb ss)) .ret _ _
    refine bodyPost_ret (v := .tuple #[zeroP, .iface 229 (.pointer (some (E (checkL b0 b1 ls))))]) (by simp [results, Tryz.results19, go_sem, c0, c1, c2, c3]) rfl ?_
    exact ModPost.bad (p := ⟨nm.data.toList, b0, b1, ls⟩) Hc.out HKf.out
theorem modify_any (w : World) (E : Nat → Addr) (m : Int) (hE : Env w E m) (nm : ByteArray) (a0 a1 al : Option Addr) (n0 c0 n1 c1 nl cl : Nat) (b0 b1 : List Int) (ls : List Ln) (hP : PatI w a0 a1 al n0 n1 nl b0 b1 ls) (hs : ShortP nm n0 n1 nl ls)
    (ao : Option Addr) (nw cw : Nat) (ss : List ByteArray) (hW : Strs w ao nw ss) (hz : ∀ s ∈ ss, s.size ≤ 281474976710656) (hn : nw ≤ 200) :
    Calls Tryz.prog 19 #[patV nm a0 a1 al n0 c0 n1 c1 nl cl, .slice ao nw cw] w (ModPost w E ⟨nm.data.toList, b0, b1, ls⟩ (wb ss)) :=
  modify_wide w E m hE nm a0 a1 al n0 c0 n1 c1 nl cl b0 b1 ls hP hs.wide ao nw cw ss hW hz hn
end Go.Proofs.YtkmejehhdjdlbaaGreatDoor

namespace Go.Proofs.YtkmejehhdjdlbaaGreatDoor
open Go.RowKit

theorem el59 : El Tryz.prog 59 9 (.string ⟨#[]⟩) 1 16 := ⟨Tryz.underlying59, by kernel_rfl, rfl, by decide, by decide⟩
theorem joinT_lib : ∀ (ws : List Q.Bt), Lib.join ws [44, 32] = Q.joinT ws
  | [] => rfl
  | [x] => by rw [Lib.join_one]; rfl
  | x :: y :: r => by
    rw [Q.joinT, ← joinT_lib (y :: r)]
    simp [Lib.join, List.intercalate, List.intersperse, Q.comma]
theorem tokW_len (t : Int) : (Q.tokW t).length ≤ 3 := by
  unfold Q.tokW
  repeat' split
  all_goals decide
theorem joinT_len : ∀ (ts : List Int), (Q.joinT (ts.map Q.tokW)).length ≤ 5 * ts.length
  | [] => by simp [Q.joinT]
  | [t] => by
    have : (Q.tokW t).length ≤ 3 := tokW_len t
    simp [Q.joinT]; omega
  | t :: u :: r => by
    have h1 : (Q.tokW t).length ≤ 3 := tokW_len t
    have h2 := joinT_len (u :: r)
    simp only [List.map_cons, Q.joinT, List.length_append, List.length_cons, Q.comma] at h2 ⊢
    simp only [List.length_nil]
    omega
def tokS (t : Int) : Value := .string (bs (Q.tokW t))
theorem words_cell (w : World) {t : Int} (h1 : 1 ≤ t) (h7 : t ≤ 7) : (w.alloc (.cells wordsV 143)).cell? ⟨w.heap.size, t.toNat, none⟩ = some (tokS t) := by
  rw [World.cell?_alloc_at _ _ _ _ rfl]
  rcases (show t = 1 ∨ t = 2 ∨ t = 3 ∨ t = 4 ∨ t = 5 ∨ t = 6 ∨ t = 7 by omega) with rfl | rfl | rfl | rfl | rfl | rfl | rfl <;> rfl
theorem row_bytes (f : Int) (ts : List Int) (h : Q.Bt) (hh : Q.headT f = h) : bs (Q.endR (Q.rowT (f, ts))) = bs h ++ ⟨(Lib.join (ts.map Q.tokW) [44, 32]).toArray⟩ ++ (⟨#[10]⟩ : ByteArray) := by
  unfold Q.endR Q.rowT
  rw [joinT_lib, bs_append, bs_append, hh]
  rfl
/-- What is answered: the row with its end. -/
def SaidPost (w : World) (f : Int) (ts : List Int) (e : Ending) (w' : World) : Prop := e = .returned (.string (bs (Q.endR (Q.rowT (f, ts))))) ∧ Kp w w'
set_option maxRecDepth 100000 in
set_option maxHeartbeats 8000000 in
theorem said_0 (w : World) (ao : Option Addr) (n c : Nat) (ts : List Int) (hI : Is w ao n ts) (hn : n ≤ 10000) (hp : 0 < n) (ht : ∀ t ∈ ts, 1 ≤ t ∧ t ≤ 7) :
    Calls Tryz.prog 67 #[iv 0, .slice ao n c] w (SaidPost w 0 ts) := by
  have HI := Lib.hid hI
  have Ht := Lib.hid ht
  have Hlen := Lib.hid hI.1
  clear hI ht
  go_enter Tryz.func67, Tryz.ntmps67
  go_wp2_with fail
  (with_reducible refine (words_any w).mono ?_)
  rintro e w1 ⟨rfl, hk1⟩
  have hk2 := Kp.trans hk1 (Kp.new w1 (.cells wordsV 143))
  have hwc := Lib.hid (fun t h1 h7 => words_cell w1 (t := t) h1 h7)
  obtain ⟨b, hb⟩ : ∃ b, b = w1.heap.size := ⟨_, rfl⟩
  obtain ⟨w2, hw2⟩ : ∃ w2, w2 = w1.alloc (.cells wordsV 143) := ⟨_, rfl⟩
  rw [← hb, ← hw2] at hwc
  rw [← hw2] at hk2
  unfold wordsV at hw2 ⊢
  have Hb := Lib.hid hb
  have Hw2 := Lib.hid hw2
  clear hk1 hb hw2
  go_wp2_with fail
  rw [← Hb.out, ← Hw2.out]
  have Hk2 := Lib.hid hk2
  obtain ⟨B, hB⟩ : ∃ B, B = w2.heap.size := ⟨_, rfl⟩
  have HB := Lib.hid hB
  have hO0 : Own w2 B 9 1 none 0 0 ((ts.take 0).map tokS) := Own.nil _ _ _ _
  clear hk2 hB
  go_loopw [7, 15] (fun v i wr => ∃ (k : Nat) (ao' : Option Addr) (c' : Nat), k ≤ n ∧ i = .int .i64 (k : Nat) ∧ v = .slice ao' k c' ∧ Own wr B 9 1 ao' k c' ((ts.take k).map tokS) ∧ Kp w2 wr) (fun _ i _ => n - (intOf i).toNat)
  case atStart => exact ⟨0, none, 0, by omega, rfl, rfl, hO0, Kp.refl _⟩
  case round =>
    clear hO0
    obtain ⟨k, ao', c', hk, rfl, rfl, hO, hkr⟩ := hrel
    rename World => wr
    by_cases hlt : k < n
    · have hkl : k < ts.length := by rw [Hlen.out]; exact hlt
      obtain ⟨g, o, rfl, hcx⟩ := HI.out.at k hlt
      replace hcx := (Kp.trans Hk2.out hkr).cell (hcx.2 k hlt)
      have htk := Ht.out ts[k] (List.getElem_mem hkl)
      have hwd := hkr.cell (hwc.out ts[k] htk.1 htk.2)
      have hzs := take_step ts k hkl
      generalize ts[k] = t at *
      obtain ⟨j, rfl⟩ : ∃ j : Nat, t = (j : Int) := ⟨t.toNat, by omega⟩
      rw [Int.toNat_natCast] at hwd
      have hj : 1 ≤ j ∧ j ≤ 7 := by omega
      unfold tokS at hwd
      have hk7 := Kp.new wr (.cells #[.string (bs (Q.tokW (j : Int)))] 9)
      have hcs7 := Cs.new wr [.string (bs (Q.tokW (j : Int)))] 9 (0, 0)
      have HO7 := Lib.hid (hO.keep hk7)
      have Hk7 := Lib.hid (Kp.trans hkr hk7)
      have hs7 : B ≤ (wr.alloc (.cells #[.string (bs (Q.tokW (j : Int)))] 9)).heap.size := by rw [HB.out]; exact Hk7.out.size
      have hzz : (ts.take (k + 1)).map tokS = (ts.take k).map tokS ++ [.string (bs (Q.tokW (j : Int)))] := by rw [hzs, List.map_append]; rfl
      clear hk7 hO hkr htk hzs
      go_wp2_with (at_builtin; go_loud (refine wpList_app rfl (.tmp 19) (.tmp 23) 59 rfl el59 B rfl HO7.out rfl [.string (bs (Q.tokW (j : Int)))] rfl hcs7 (by simp [Value.oneCell']) (k + 1) rfl ((ts.take (k + 1)).map tokS) hzz (by omega) hs7 ?_); intro ao2 cap2 w8 ha)
      have hO8 := ha.own
      have hk8 : Kp w2 w8 := kp_step' Hk7.out ha.fr (fun x hx => by rw [← HB.out]; exact (HO7.out.lt x (mem_blkL.1 hx)).1)
      go_roundw
      case rel => exact ⟨k + 1, ao2, cap2, by omega, by go_num, rfl, hO8, hk8⟩
      case measure => simp [intOf]; omega
    · obtain rfl : k = n := by omega
      obtain ⟨g, rfl⟩ := hO.blockOf hp
      have hcp := hO.cap
      have hjl : (ts.map (fun t => bs (Q.tokW t))).length = k := by rw [List.length_map, Hlen.out]
      have hjd : (ts.map (fun t => bs (Q.tokW t))).map (·.data.toList) = ts.map Q.tokW := by rw [List.map_map]; exact List.map_congr_left (fun t _ => rfl)
      have hjn := joinT_len ts
      have HJ := Tryz.strings_Join g 0 c' (ts.map (fun t => bs (Q.tokW t))) (⟨#[44, 32]⟩ : ByteArray) wr (fun j x hx => by
        have hj : j < k := by rw [← hjl]; exact (List.getElem?_eq_some_iff.1 hx).1
        rw [Nat.zero_add, hO.cell j (by omega)]
        rw [List.getElem?_map] at hx ⊢
        rw [List.take_of_length_le (by rw [Hlen.out]; exact Nat.le_refl _)]
        cases hq : ts[j]? with
        | none => rw [hq] at hx; cases hx
        | some t => rw [hq] at hx; cases hx; rfl) ((hO.lt g rfl).2) (by rw [hjl]; omega) (by rw [hjl]; exact hcp) (by rw [hjd, show (⟨#[44, 32]⟩ : ByteArray).data.toList = [44, 32] from rfl, joinT_lib]; have := Hlen.out; omega)
      rw [hjl, hjd, show (⟨#[44, 32]⟩ : ByteArray).data.toList = [44, 32] from rfl] at HJ
      have HJ := Lib.hid HJ
      have hjs : (⟨(Lib.join (ts.map Q.tokW) [44, 32]).toArray⟩ : ByteArray).size ≤ 50000 := by rw [Lib.size_eq]; simp only; rw [joinT_lib]; have := Hlen.out; omega
      have hrow := row_bytes 0 ts [32, 32, 45, 62, 32] rfl
      obtain ⟨J, hJ⟩ : ∃ J : ByteArray, J = ⟨(Lib.join (ts.map Q.tokW) [44, 32]).toArray⟩ := ⟨_, rfl⟩
      rw [← hJ] at HJ hjs hrow
      have Hrow := Lib.hid hrow
      have Hkr := Lib.hid (Kp.trans Hk2.out hkr)
      have hjs2 : ((⟨#[32, 32, 45, 62, 32]⟩ : ByteArray) ++ J).size ≤ 50005 := by rw [ByteArray.size_append]; have : (⟨#[32, 32, 45, 62, 32]⟩ : ByteArray).size = 5 := rfl; omega
      clear hJ hjl hjd hjn hO hkr hcp hrow
      go_wp2_with fail
      (with_reducible refine HJ.out.mono ?_)
      rintro e w9 ⟨rfl, hk9⟩
      go_wp2_with fail
      go_ret
      exact ⟨by rw [Hrow.out]; rfl, Kp.trans Hkr.out hk9⟩
set_option maxRecDepth 100000 in
set_option maxHeartbeats 8000000 in
theorem said_1 (w : World) (ao : Option Addr) (n c : Nat) (ts : List Int) (hI : Is w ao n ts) (hn : n ≤ 10000) (hp : 0 < n) (ht : ∀ t ∈ ts, 1 ≤ t ∧ t ≤ 7) :
    Calls Tryz.prog 67 #[iv 1, .slice ao n c] w (SaidPost w 1 ts) := by
  have HI := Lib.hid hI
  have Ht := Lib.hid ht
  have Hlen := Lib.hid hI.1
  clear hI ht
  go_enter Tryz.func67, Tryz.ntmps67
  go_wp2_with fail
  (with_reducible refine (words_any w).mono ?_)
  rintro e w1 ⟨rfl, hk1⟩
  have hk2 := Kp.trans hk1 (Kp.new w1 (.cells wordsV 143))
  have hwc := Lib.hid (fun t h1 h7 => words_cell w1 (t := t) h1 h7)
  obtain ⟨b, hb⟩ : ∃ b, b = w1.heap.size := ⟨_, rfl⟩
  obtain ⟨w2, hw2⟩ : ∃ w2, w2 = w1.alloc (.cells wordsV 143) := ⟨_, rfl⟩
  rw [← hb, ← hw2] at hwc
  rw [← hw2] at hk2
  unfold wordsV at hw2 ⊢
  have Hb := Lib.hid hb
  have Hw2 := Lib.hid hw2
  clear hk1 hb hw2
  go_wp2_with fail
  rw [← Hb.out, ← Hw2.out]
  have Hk2 := Lib.hid hk2
  obtain ⟨B, hB⟩ : ∃ B, B = w2.heap.size := ⟨_, rfl⟩
  have HB := Lib.hid hB
  have hO0 : Own w2 B 9 1 none 0 0 ((ts.take 0).map tokS) := Own.nil _ _ _ _
  clear hk2 hB
  go_loopw [7, 15] (fun v i wr => ∃ (k : Nat) (ao' : Option Addr) (c' : Nat), k ≤ n ∧ i = .int .i64 (k : Nat) ∧ v = .slice ao' k c' ∧ Own wr B 9 1 ao' k c' ((ts.take k).map tokS) ∧ Kp w2 wr) (fun _ i _ => n - (intOf i).toNat)
  case atStart => exact ⟨0, none, 0, by omega, rfl, rfl, hO0, Kp.refl _⟩
  case round =>
    clear hO0
    obtain ⟨k, ao', c', hk, rfl, rfl, hO, hkr⟩ := hrel
    rename World => wr
    by_cases hlt : k < n
    · have hkl : k < ts.length := by rw [Hlen.out]; exact hlt
      obtain ⟨g, o, rfl, hcx⟩ := HI.out.at k hlt
      replace hcx := (Kp.trans Hk2.out hkr).cell (hcx.2 k hlt)
      have htk := Ht.out ts[k] (List.getElem_mem hkl)
      have hwd := hkr.cell (hwc.out ts[k] htk.1 htk.2)
      have hzs := take_step ts k hkl
      generalize ts[k] = t at *
      obtain ⟨j, rfl⟩ : ∃ j : Nat, t = (j : Int) := ⟨t.toNat, by omega⟩
      rw [Int.toNat_natCast] at hwd
      have hj : 1 ≤ j ∧ j ≤ 7 := by omega
      unfold tokS at hwd
      have hk7 := Kp.new wr (.cells #[.string (bs (Q.tokW (j : Int)))] 9)
      have hcs7 := Cs.new wr [.string (bs (Q.tokW (j : Int)))] 9 (0, 0)
      have HO7 := Lib.hid (hO.keep hk7)
      have Hk7 := Lib.hid (Kp.trans hkr hk7)
      have hs7 : B ≤ (wr.alloc (.cells #[.string (bs (Q.tokW (j : Int)))] 9)).heap.size := by rw [HB.out]; exact Hk7.out.size
      have hzz : (ts.take (k + 1)).map tokS = (ts.take k).map tokS ++ [.string (bs (Q.tokW (j : Int)))] := by rw [hzs, List.map_append]; rfl
      clear hk7 hO hkr htk hzs
      go_wp2_with (at_builtin; go_loud (refine wpList_app rfl (.tmp 19) (.tmp 23) 59 rfl el59 B rfl HO7.out rfl [.string (bs (Q.tokW (j : Int)))] rfl hcs7 (by simp [Value.oneCell']) (k + 1) rfl ((ts.take (k + 1)).map tokS) hzz (by omega) hs7 ?_); intro ao2 cap2 w8 ha)
      have hO8 := ha.own
      have hk8 : Kp w2 w8 := kp_step' Hk7.out ha.fr (fun x hx => by rw [← HB.out]; exact (HO7.out.lt x (mem_blkL.1 hx)).1)
      go_roundw
      case rel => exact ⟨k + 1, ao2, cap2, by omega, by go_num, rfl, hO8, hk8⟩
      case measure => simp [intOf]; omega
    · obtain rfl : k = n := by omega
      obtain ⟨g, rfl⟩ := hO.blockOf hp
      have hcp := hO.cap
      have hjl : (ts.map (fun t => bs (Q.tokW t))).length = k := by rw [List.length_map, Hlen.out]
      have hjd : (ts.map (fun t => bs (Q.tokW t))).map (·.data.toList) = ts.map Q.tokW := by rw [List.map_map]; exact List.map_congr_left (fun t _ => rfl)
      have hjn := joinT_len ts
      have HJ := Tryz.strings_Join g 0 c' (ts.map (fun t => bs (Q.tokW t))) (⟨#[44, 32]⟩ : ByteArray) wr (fun j x hx => by
        have hj : j < k := by rw [← hjl]; exact (List.getElem?_eq_some_iff.1 hx).1
        rw [Nat.zero_add, hO.cell j (by omega)]
        rw [List.getElem?_map] at hx ⊢
        rw [List.take_of_length_le (by rw [Hlen.out]; exact Nat.le_refl _)]
        cases hq : ts[j]? with
        | none => rw [hq] at hx; cases hx
        | some t => rw [hq] at hx; cases hx; rfl) ((hO.lt g rfl).2) (by rw [hjl]; omega) (by rw [hjl]; exact hcp) (by rw [hjd, show (⟨#[44, 32]⟩ : ByteArray).data.toList = [44, 32] from rfl, joinT_lib]; have := Hlen.out; omega)
      rw [hjl, hjd, show (⟨#[44, 32]⟩ : ByteArray).data.toList = [44, 32] from rfl] at HJ
      have HJ := Lib.hid HJ
      have hjs : (⟨(Lib.join (ts.map Q.tokW) [44, 32]).toArray⟩ : ByteArray).size ≤ 50000 := by rw [Lib.size_eq]; simp only; rw [joinT_lib]; have := Hlen.out; omega
      have hrow := row_bytes 1 ts [32, 32, 60, 45, 32] rfl
      obtain ⟨J, hJ⟩ : ∃ J : ByteArray, J = ⟨(Lib.join (ts.map Q.tokW) [44, 32]).toArray⟩ := ⟨_, rfl⟩
      rw [← hJ] at HJ hjs hrow
      have Hrow := Lib.hid hrow
      have Hkr := Lib.hid (Kp.trans Hk2.out hkr)
      have hjs2 : ((⟨#[32, 32, 60, 45, 32]⟩ : ByteArray) ++ J).size ≤ 50005 := by rw [ByteArray.size_append]; have : (⟨#[32, 32, 60, 45, 32]⟩ : ByteArray).size = 5 := rfl; omega
      clear hJ hjl hjd hjn hO hkr hcp hrow
      go_wp2_with fail
      (with_reducible refine HJ.out.mono ?_)
      rintro e w9 ⟨rfl, hk9⟩
      go_wp2_with fail
      go_ret
      exact ⟨by rw [Hrow.out]; rfl, Kp.trans Hkr.out hk9⟩
end Go.Proofs.YtkmejehhdjdlbaaGreatDoor

namespace Go.Proofs.YtkmejehhdjdlbaaGreatDoor
open Go.RowKit

/-- The text and the error's number. -/
def prt (nm : Q.Bt) (b0 b1 : List Int) (ls : List Ln) : Q.Bt × Nat :=
  if checkL b0 b1 ls ≠ 0 then ([], checkL b0 b1 ls) else if 4096 < nm.length ∨ Q.isName nm = false then ([], 8)
  else if 4096 < (Q.printT nm b0 b1 ls).length then ([], 8) else (Q.printT nm b0 b1 ls, 0)
def PrintPost (w : World) (E : Nat → Addr) (nm : Q.Bt) (b0 b1 : List Int) (ls : List Ln) (e : Ending) (w' : World) : Prop := e = .returned (.tuple #[.string (bs (prt nm b0 b1 ls).1), errV E (prt nm b0 b1 ls).2]) ∧ Kp w w'
theorem rowE_len (l : Ln) : (Q.endR (Q.rowT l)).length ≤ 6 + 5 * l.2.length := by
  have h1 := joinT_len l.2
  unfold Q.endR Q.rowT Q.headT
  split <;> simp [Q.inR, Q.outR] <;> omega
/-- What the sides' own rows come to when k of them have gone by. -/
def befT (b0 b1 : List Int) (k : Nat) : Q.Bt := (if k = 0 ∨ b0 = [] then [] else Q.endR (Q.rowT (0, b0))) ++ (if k ≤ 1 ∨ b1 = [] then [] else Q.endR (Q.rowT (1, b1)))
def befA (b0 b1 : List Int) (k : Nat) : Bool := (decide (k ≠ 0) && decide (b0 ≠ [])) || (decide (1 < k) && decide (b1 ≠ []))
def resT (b0 b1 : List Int) : Q.Bt := if b0 = [] ∧ b1 = [] then [] else Q.endR Q.restR
theorem befT_len {b0 b1 : List Int} {k : Nat} (h0 : b0.length ≤ 2) (h1 : b1.length ≤ 2) : (befT b0 b1 k).length ≤ 32 := by
  have e0 : (Q.endR (Q.rowT (0, b0))).length ≤ 6 + 5 * b0.length := rowE_len (0, b0)
  have e1 : (Q.endR (Q.rowT (1, b1))).length ≤ 6 + 5 * b1.length := rowE_len (1, b1)
  unfold befT
  rw [List.length_append]
  split <;> split <;> (try simp only [List.length_nil]) <;> omega
theorem printT_eq (nm : Q.Bt) (b0 b1 : List Int) (ls : List Ln) : Q.printT nm b0 b1 ls = nm ++ [58, 10] ++ befT b0 b1 2 ++ resT b0 b1 ++ (ls.map Q.rowT).flatMap Q.endR := by
  unfold Q.printT Q.rowsT befT resT
  rw [List.flatMap_append, List.flatMap_append, List.flatMap_append]
  by_cases h0 : b0 = [] <;> by_cases h1 : b1 = [] <;> simp [h0, h1]
theorem befA_two (b0 b1 : List Int) : befA b0 b1 2 = !decide (b0 = [] ∧ b1 = []) := by
  unfold befA
  by_cases h0 : b0 = [] <;> by_cases h1 : b1 = [] <;> simp [h0, h1]
theorem rows_len : ∀ (ls : List Ln), (∀ l ∈ ls, l.2.length ≤ 24) → ((ls.map Q.rowT).flatMap Q.endR).length ≤ 126 * ls.length
  | [], _ => by simp
  | l :: r, h => by
    have h1 := rows_len r (fun x hx => h x (by simp [hx]))
    have h2 := rowE_len l
    have h3 := h l (by simp)
    simp only [List.map_cons, List.flatMap_cons, List.length_append, List.length_cons]
    omega
theorem rows_step (ls : List Ln) (k : Nat) (h : k < ls.length) : ((ls.take (k + 1)).map Q.rowT).flatMap Q.endR = ((ls.take k).map Q.rowT).flatMap Q.endR ++ Q.endR (Q.rowT ls[k]) := by
  rw [take_step ls k h, List.map_append, List.flatMap_append]
  simp
theorem rowT_pair (l : Ln) : Q.rowT l = Q.rowT (l.1, l.2) := rfl
theorem resT_len (b0 b1 : List Int) : (resT b0 b1).length ≤ 6 := by
  unfold resT
  split <;> simp [Q.endR, Q.restR]
theorem okB_tok {b : List Int} (h : okB b = true) : ∀ t ∈ b, 1 ≤ t ∧ t ≤ 7 := by
  intro t ht
  rcases b with _ | ⟨x, _ | ⟨y, _ | ⟨z, r⟩⟩⟩
  · simp at ht
  all_goals simp [okB] at h ht
  · omega
  · omega
theorem bs_bef0 (N : Q.Bt) (b0 b1 : List Int) : bs (N ++ befT b0 b1 0) = bs N := by simp [befT]
theorem bs_bef1 (N : Q.Bt) (b0 b1 : List Int) (h : b0 ≠ []) : bs (N ++ befT b0 b1 1) = bs (N ++ befT b0 b1 0) ++ bs (Q.endR (Q.rowT (0, b0))) := by
  rw [← bs_append]; simp [befT, h]
theorem bs_bef1' (N : Q.Bt) (b0 b1 : List Int) (h : b0 = []) : bs (N ++ befT b0 b1 1) = bs (N ++ befT b0 b1 0) := by simp [befT, h]
theorem bs_bef2 (N : Q.Bt) (b0 b1 : List Int) (h : b1 ≠ []) : bs (N ++ befT b0 b1 2) = bs (N ++ befT b0 b1 1) ++ bs (Q.endR (Q.rowT (1, b1))) := by
  rw [← bs_append]; simp [befT, h]
theorem bs_bef2' (N : Q.Bt) (b0 b1 : List Int) (h : b1 = []) : bs (N ++ befT b0 b1 2) = bs (N ++ befT b0 b1 1) := by simp [befT, h]
def rowsK (ls : List Ln) (k : Nat) : Q.Bt := ((ls.take k).map Q.rowT).flatMap Q.endR
theorem bs_rows (N : Q.Bt) (ls : List Ln) (k : Nat) (h : k < ls.length) : bs (N ++ rowsK ls (k + 1)) = bs (N ++ rowsK ls k) ++ bs (Q.endR (Q.rowT (ls[k].1, ls[k].2))) := by
  unfold rowsK
  rw [← bs_append, rows_step ls k h, List.append_assoc]
theorem said_any (w : World) (f : Int) (hf : f = 0 ∨ f = 1) (ao : Option Addr) (n c : Nat) (ts : List Int) (hI : Is w ao n ts) (hn : n ≤ 10000) (hp : 0 < n) (ht : ∀ t ∈ ts, 1 ≤ t ∧ t ≤ 7) : Calls Tryz.prog 67 #[iv f, .slice ao n c] w (SaidPost w f ts) := by
  rcases hf with rfl | rfl
  · exact said_0 w ao n c ts hI hn hp ht
  · exact said_1 w ao n c ts hI hn hp ht
section
variable {w w' : World} {E : Nat → Addr} {nm : Q.Bt} {b0 b1 : List Int} {ls : List Ln}
theorem PrintPost.bad (h : checkL b0 b1 ls ≠ 0) (hk : Kp w w') : PrintPost w E nm b0 b1 ls (.returned (.tuple #[.string ⟨#[]⟩, .iface 229 (.pointer (some (E (checkL b0 b1 ls))))])) w' := by
  refine ⟨?_, hk⟩
  unfold prt
  rw [if_pos h]
  simp only
  rw [errV_ptr E h]
  rfl
theorem PrintPost.txt (h : checkL b0 b1 ls = 0) (hn : 4096 < nm.length ∨ Q.isName nm = false) (hk : Kp w w') : PrintPost w E nm b0 b1 ls (.returned (.tuple #[.string ⟨#[]⟩, .iface 229 (.pointer (some (E 8)))])) w' := by
  refine ⟨?_, hk⟩
  unfold prt
  rw [if_neg (fun q => q h), if_pos hn]
  simp only
  rw [errV_ptr E (by decide)]
  rfl
theorem PrintPost.long (h : checkL b0 b1 ls = 0) (hn : nm.length ≤ 4096) (hi : Q.isName nm = true) (hl : 4096 < (Q.printT nm b0 b1 ls).length) (hk : Kp w w') : PrintPost w E nm b0 b1 ls (.returned (.tuple #[.string ⟨#[]⟩, .iface 229 (.pointer (some (E 8)))])) w' := by
  refine ⟨?_, hk⟩
  unfold prt
  rw [if_neg (fun q => q h), if_neg (by rw [hi]; simp; omega), if_pos hl]
  simp only
  rw [errV_ptr E (by decide)]
  rfl
theorem PrintPost.fine (h : checkL b0 b1 ls = 0) (hn : nm.length ≤ 4096) (hi : Q.isName nm = true) (hl : (Q.printT nm b0 b1 ls).length ≤ 4096) (hk : Kp w w') : PrintPost w E nm b0 b1 ls (.returned (.tuple #[.string (bs (Q.printT nm b0 b1 ls)), .nilIface])) w' := by
  refine ⟨?_, hk⟩
  unfold prt
  rw [if_neg (fun q => q h), if_neg (by rw [hi]; simp; omega), if_neg (by omega)]
  simp only
  rw [errV_nil]
end
end Go.Proofs.YtkmejehhdjdlbaaGreatDoor

namespace Go.Proofs.YtkmejehhdjdlbaaGreatDoor
open Go.RowKit

set_option maxRecDepth 100000 in
set_option maxHeartbeats 8000000 in
theorem print_any (w : World) (E : Nat → Addr) (m : Int) (hE : Env w E m) (nm : ByteArray) (a0 a1 al : Option Addr) (n0 c0 n1 c1 nl cl : Nat) (b0 b1 : List Int) (ls : List Ln) (hP : PatI w a0 a1 al n0 n1 nl b0 b1 ls) (hs : nm.size ≤ 8000000) :
    Calls Tryz.prog 27 #[patV nm a0 a1 al n0 c0 n1 c1 nl cl] w (PrintPost w E nm.data.toList b0 b1 ls) := by
  have i0 : ∀ w, (Instr.index 23 (.agg #[.slice a0 n0 c0, .slice a1 n1 c1]) (.int .i64 0)).run Tryz.prog w = .ok (.slice a0 n0 c0) w := fun _ => by kernel_rfl
  have i1 : ∀ w, (Instr.index 23 (.agg #[.slice a0 n0 c0, .slice a1 n1 c1]) (.int .i64 1)).run Tryz.prog w = .ok (.slice a1 n1 c1) w := fun _ => by kernel_rfl
  have HPI := Lib.hid hP
  have HE := Lib.hid hE
  have Hsz := Lib.hid (Lib.size_eq nm)
  have hk1 := Kp.new w (.cells #[.string nm, .slice a0 n0 c0, .slice a1 n1 c1, .slice al nl cl] 26)
  have hF1 := Four.new w (.string nm) (.slice a0 n0 c0) (.slice a1 n1 c1) (.slice al nl cl) 26
  have HC := Lib.hid (check_any _ E (hk1.errs hE.errs) nm a0 a1 al n0 c0 n1 c1 nl cl b0 b1 ls (hk1.is hP.i0) (hk1.is hP.i1) (hk1.lns hP.il))
  clear hP hE
  obtain ⟨bx, hbx⟩ : ∃ bx, bx = w.heap.size := ⟨_, rfl⟩
  by_cases hc : checkL b0 b1 ls = 0
  · have Hc := Lib.hid hc
    have hcl := code0 hc
    rw [show errV E (checkL b0 b1 ls) = .nilIface by rw [hc]; rfl] at HC
    have HF1 := Lib.hid hF1
    have Hk1 := Lib.hid hk1
    obtain ⟨y0, y1, y2, y3, z0, z1, z2, z3⟩ := hF1
    clear hc hk1 z0 z1 z2 z3
    go_enter Tryz.func27, Tryz.ntmps27
    go_upto_region 2 with fail
    (with_reducible refine HC.out.mono ?_)
    rintro e w2 ⟨rfl, hk2⟩
    have Hk2 := Lib.hid (Kp.trans Hk1.out hk2)
    have hF2 := HF1.out.kp hk2
    rw [← hbx] at hF2 ⊢
    have HF2 := Lib.hid hF2
    clear y0 y1 y2 y3 hk2
    obtain ⟨y0, y1, y2, y3, z0, z1, z2, z3⟩ := hF2
    clear z0 z1 z2 z3 hbx
    by_cases hn : 4096 < nm.size
    · have Hn := Lib.hid hn
      go_upto_region 5 with fail
      refine anyP_start (fun w => w.cell? ⟨5, 0, none⟩ = some (.iface 229 (.pointer (some (E 8))))) 2 (fun _ => True) (fun _ _ => False) (by kernel_rfl) (fun _ _ _ _ h => h.elim) ?_
      obtain ⟨wd, hwd⟩ : ∃ wd, wd = w2.drew := ⟨_, rfl⟩
      have hkd : Kp w2 wd := hwd ▸ (⟨rfl, rfl, rfl, Nat.le_refl _, fun _ _ => rfl⟩ : Kp w2 w2.drew)
      rw [← hwd]
      clear hwd
      have hTd := (Kp.trans Hk2.out hkd).cell HE.out.c5
      have HKd := Lib.hid (Kp.trans Hk2.out hkd)
      clear hkd
      refine anyT_take puts_true [1] (by kernel_rfl) hTd ?_
      simp only [opsAt, List.getElem?_toArray, List.getElem?_cons_zero, List.getElem?_cons_succ]
      repeat (go_big_quiet_step (fail))
      refine wpQuiet_nil ?_
      refine anyT_load puts_true 0 26 (.iface 229 (.pointer (some (E 8)))) rfl rfl (by kernel_rfl) hTd (fun w h => exec_load32 h rfl rfl) ?_
      simp only [Act.put, List.setIfInBounds_toArray, List.set_cons_zero, List.set_cons_succ]
      refine anyP_one 2 (by kernel_rfl) ?_
      simp only [opsAt, List.getElem?_toArray, List.getElem?_cons_zero, List.getElem?_cons_succ]
      clear hTd
      go_wp2_with fail
      refine ⟨fun h => absurd rfl h, ?_⟩
      refine anyP_end (by kernel_rfl) ?_
      go_wp2_with fail
      show bodyPost Tryz.prog Tryz.f27 (PrintPost w E nm.data.toList b0 b1 ls) .ret _ _
      refine bodyPost_ret (v := .tuple #[.string ⟨#[]⟩, .iface 229 (.pointer (some (E 8)))]) (by simp [results, Tryz.results27, go_sem]) rfl ?_
      exact PrintPost.txt Hc.out (.inl (by rw [← Hsz.out]; exact Hn.out)) HKd.out
    · have HN := Lib.hid (named_any nm w2 (by omega))
      have Hnn := Lib.hid (show nm.data.toList.length ≤ 4096 by rw [← Hsz.out]; omega)
      cases hi : Q.isName nm.data.toList with
      | false =>
        rw [hi] at HN
        have Hi := Lib.hid hi
        clear hi
        go_upto_region 5 with fail
        (with_reducible refine HN.out.mono ?_)
        rintro e w3 ⟨rfl, rfl⟩
        go_upto_region 5 with fail
        refine anyP_start (fun w => w.cell? ⟨5, 0, none⟩ = some (.iface 229 (.pointer (some (E 8))))) 2 (fun _ => True) (fun _ _ => False) (by kernel_rfl) (fun _ _ _ _ h => h.elim) ?_
        obtain ⟨wd, hwd⟩ : ∃ wd, wd = w2.drew := ⟨_, rfl⟩
        have hkd : Kp w2 wd := hwd ▸ (⟨rfl, rfl, rfl, Nat.le_refl _, fun _ _ => rfl⟩ : Kp w2 w2.drew)
        rw [← hwd]
        clear hwd
        have hTd := (Kp.trans Hk2.out hkd).cell HE.out.c5
        have HKd := Lib.hid (Kp.trans Hk2.out hkd)
        clear hkd
        refine anyT_take puts_true [1] (by kernel_rfl) hTd ?_
        simp only [opsAt, List.getElem?_toArray, List.getElem?_cons_zero, List.getElem?_cons_succ]
        repeat (go_big_quiet_step (fail))
        refine wpQuiet_nil ?_
        refine anyT_load puts_true 0 26 (.iface 229 (.pointer (some (E 8)))) rfl rfl (by kernel_rfl) hTd (fun w h => exec_load32 h rfl rfl) ?_
        simp only [Act.put, List.setIfInBounds_toArray, List.set_cons_zero, List.set_cons_succ]
        refine anyP_one 2 (by kernel_rfl) ?_
        simp only [opsAt, List.getElem?_toArray, List.getElem?_cons_zero, List.getElem?_cons_succ]
        clear hTd
        go_wp2_with fail
        refine ⟨fun h => absurd rfl h, ?_⟩
        refine anyP_end (by kernel_rfl) ?_
        go_wp2_with fail
        show bodyPost Tryz.prog Tryz.f27 (PrintPost w E nm.data.toList b0 b1 ls) .ret _ _
        refine bodyPost_ret (v := .tuple #[.string ⟨#[]⟩, .iface 229 (.pointer (some (E 8)))]) (by simp [results, Tryz.results27, go_sem]) rfl ?_
        exact PrintPost.txt Hc.out (.inr Hi.out) HKd.out
      | true =>
        rw [hi] at HN
        have Hi := Lib.hid hi
        clear hi
        go_upto_region 5 with fail
        (with_reducible refine HN.out.mono ?_)
        rintro e w3 ⟨rfl, rfl⟩
        go_upto_region 9 with fail
        have hl0 := okB_len hcl.1
        have hl1 := okB_len hcl.2.1
        have ht0 := Lib.hid (okB_tok hcl.1)
        have ht1 := Lib.hid (okB_tok hcl.2.1)
        have Hls := Lib.hid hcl.2.2.2
        have hg0 := HPI.out.i0.1
        have hg1 := HPI.out.i1.1
        obtain ⟨N, hN⟩ : ∃ N, N = nm.data.toList ++ [58, 10] := ⟨_, rfl⟩
        have hNl : N.length ≤ 4098 := by rw [hN, List.length_append]; have := Hnn.out; simp; omega
        have hs0 : nm ++ (⟨#[58, 10]⟩ : ByteArray) = bs (N ++ befT b0 b1 0) := by rw [bs_bef0, hN, bs_append, bs_data]; rfl
        have hbl := fun k => befT_len (k := k) hl0 hl1
        have Hlen := Lib.hid (show ∀ k, (bs (N ++ befT b0 b1 k)).size ≤ 4130 from fun k => by rw [bs_size, List.length_append]; have := hbl k; omega)
        have HN2 := Lib.hid hN
        have Hg0 := Lib.hid hg0
        have Hg1 := Lib.hid hg1
        rw [hs0]
        clear hN hcl hbl hs0
        go_loopw [5, 6, 32] (fun s a i wr => ∃ k : Nat, k ≤ 2 ∧ i = .int .i64 (k : Nat) ∧ s = .string (bs (N ++ befT b0 b1 k)) ∧ a = .bool (befA b0 b1 k) ∧ Kp w2 wr) (fun _ _ i _ => 2 - (intOf i).toNat)
        case atStart => exact ⟨0, by omega, rfl, rfl, rfl, Kp.refl _⟩
        case round =>
          obtain ⟨k, hk, rfl, rfl, rfl, hkr⟩ := hrel
          rename World => wr
          obtain h | h | h : k = 0 ∨ k = 1 ∨ k = 2 := by omega
          · subst h
            rw [show ((0 : Nat) : Int) = 0 from rfl]
            by_cases hz : b0 = []
            · have hz0 : n0 = 0 := by rw [← Hg0.out, hz]; rfl
              subst hz0
              have HB := Lib.hid (bs_bef1' N b0 b1 hz)
              have HA := Lib.hid (show befA b0 b1 1 = befA b0 b1 0 by simp [befA, hz])
              clear hz
              go_wp2_with fail
              go_roundw
              case rel => exact ⟨1, by omega, rfl, by rw [HB.out], by rw [HA.out], hkr⟩
              case measure => simp [intOf]
            · have hz0 : 0 < n0 := by rw [← Hg0.out]; exact List.length_pos_iff.2 hz
              have HB := Lib.hid (bs_bef1 N b0 b1 hz)
              have HA := Lib.hid (show befA b0 b1 1 = true by simp [befA, hz])
              have HSd := Lib.hid (said_0 wr a0 n0 c0 b0 ((Kp.trans Hk2.out hkr).is HPI.out.i0) (by omega) hz0 ht0.out)
              have hz1 := Hlen.out 0
              have hz2 : (bs (Q.endR (Q.rowT (0, b0)))).size ≤ 16 := by rw [bs_size]; have : (Q.endR (Q.rowT (0, b0))).length ≤ 6 + 5 * b0.length := rowE_len (0, b0); omega
              clear hz
              go_wp2_with fail
              (with_reducible refine HSd.out.mono ?_)
              rintro e w4 ⟨rfl, hk4⟩
              go_wp2_with fail
              go_roundw
              case rel => exact ⟨1, by omega, rfl, by rw [HB.out], by rw [HA.out], Kp.trans hkr hk4⟩
              case measure => simp [intOf]
          · subst h
            rw [show ((1 : Nat) : Int) = 1 from rfl]
            by_cases hz : b1 = []
            · have hz0 : n1 = 0 := by rw [← Hg1.out, hz]; rfl
              subst hz0
              have HB := Lib.hid (bs_bef2' N b0 b1 hz)
              have HA := Lib.hid (show befA b0 b1 2 = befA b0 b1 1 by simp [befA, hz])
              clear hz
              go_wp2_with fail
              go_roundw
              case rel => exact ⟨2, by omega, rfl, by rw [HB.out], by rw [HA.out], hkr⟩
              case measure => simp [intOf]
            · have hz0 : 0 < n1 := by rw [← Hg1.out]; exact List.length_pos_iff.2 hz
              have HB := Lib.hid (bs_bef2 N b0 b1 hz)
              have HA := Lib.hid (show befA b0 b1 2 = true by simp [befA, hz])
              have HSd := Lib.hid (said_1 wr a1 n1 c1 b1 ((Kp.trans Hk2.out hkr).is HPI.out.i1) (by omega) hz0 ht1.out)
              have hz1 := Hlen.out 1
              have hz2 : (bs (Q.endR (Q.rowT (1, b1)))).size ≤ 16 := by rw [bs_size]; have : (Q.endR (Q.rowT (1, b1))).length ≤ 6 + 5 * b1.length := rowE_len (1, b1); omega
              clear hz
              go_wp2_with fail
              (with_reducible refine HSd.out.mono ?_)
              rintro e w4 ⟨rfl, hk4⟩
              go_wp2_with fail
              go_roundw
              case rel => exact ⟨2, by omega, rfl, by rw [HB.out], by rw [HA.out], Kp.trans hkr hk4⟩
              case measure => simp [intOf]
          · subst h
            rw [show ((2 : Nat) : Int) = 2 from rfl]
            by_cases hz : b0 = [] ∧ b1 = []
            · skip
              have hres : resT b0 b1 = [] := by unfold resT; rw [if_pos hz]
              have hAA : befA b0 b1 2 = false := by rw [befA_two]; simp [hz]
              have HR := Lib.hid (show bs (N ++ befT b0 b1 2) = bs (N ++ befT b0 b1 2 ++ resT b0 b1) by rw [hres, List.append_nil])
              rw [hAA]
              clear hres hAA hz
              have hF5 := HF2.out.kp hkr
              obtain ⟨y0', y1', y2', y3', _, _, _, _⟩ := hF5
              have HK5 := Lib.hid (Kp.trans Hk2.out hkr)
              have hrl := resT_len b0 b1
              have Hln2 := Lib.hid (Hls.out)
              obtain ⟨M, hM⟩ : ∃ M, M = N ++ befT b0 b1 2 ++ resT b0 b1 := ⟨_, rfl⟩
              have hMl : M.length ≤ 4136 := by have := Hlen.out 2; rw [bs_size] at this; rw [hM, List.length_append]; omega
              have HMe := Lib.hid hM
              rw [← hM] at HR
              clear hM hkr hrl
              go_wp2_with fail
              rw [HR.out]
              have hnl := HPI.out.il.1
              have hrlen := rows_len ls (fun l hl => (Hls.out.2 l hl).2.2.1)
              have Hrl := Lib.hid (show ∀ k, (bs (M ++ rowsK ls k)).size ≤ 8000 from fun k => by
                unfold rowsK
                rw [bs_size, List.length_append]
                have h1 := rows_len (ls.take k) (fun l hl => (Hls.out.2 l (List.mem_of_mem_take hl)).2.2.1)
                have h2 : (ls.take k).length ≤ 24 := by rw [List.length_take]; have := Hls.out.1; omega
                omega)
              have hb0 : bs M = bs (M ++ rowsK ls 0) := by simp [rowsK]
              rw [hb0]
              clear hb0 hrlen hMl
              have Hnl := Lib.hid hnl
              have hnl24 : nl ≤ 24 := by rw [← hnl]; exact Hls.out.1
              clear hnl
              go_loopw [5, 51] (fun s i wv => ∃ k : Nat, k ≤ nl ∧ i = .int .i64 (k : Nat) ∧ s = .string (bs (M ++ rowsK ls k)) ∧ Kp wr wv) (fun _ i _ => nl - (intOf i).toNat)
              case atStart => exact ⟨0, by omega, rfl, rfl, Kp.refl _⟩
              case round =>
                clear y0' y1' y2' y3'
                obtain ⟨k, hk, rfl, rfl, hkv⟩ := hrel
                rename World => wv
                by_cases hlt : k < nl
                · have hkl : k < ls.length := by rw [Hnl.out]; exact hlt
                  obtain ⟨bq, off, tp, tn, tc, rfl, hd1, hd2, hI, htn⟩ := HPI.out.il.2.2 k hkl
                  have HKv := Lib.hid (Kp.trans HK5.out hkv)
                  replace hd1 := HKv.out.cell hd1
                  replace hd2 := HKv.out.cell hd2
                  have hlk := Hls.out.2 ls[k] (List.getElem_mem hkl)
                  have Hrow := Lib.hid (bs_rows M ls k hkl)
                  have hrz : (bs (Q.endR (Q.rowT (ls[k].1, ls[k].2)))).size ≤ 130 := by rw [bs_size]; have : (Q.endR (Q.rowT (ls[k].1, ls[k].2))).length ≤ 6 + 5 * ls[k].2.length := rowE_len ls[k]; omega
                  have hsz := Hrl.out k
                  generalize ls[k] = l at *
                  obtain ⟨f, xs⟩ := l
                  simp only at hd1 hd2 hI htn hlk hrz
                  have hk6 := Kp.new wv (.cells #[iv f, .slice tp tn tc] 73)
                  have hxn : 0 < tn := by rw [← hI.1]; exact List.length_pos_iff.2 hlk.2.1
                  have HSd := Lib.hid (said_any (wv.alloc (.cells #[iv f, .slice tp tn tc] 73)) f hlk.1 tp tn tc xs ((Kp.trans HKv.out hk6).is hI) (by rw [← hI.1]; have := hlk.2.2.1; omega) hxn hlk.2.2.2)
                  have HK6 := Lib.hid (Kp.trans hkv hk6)
                  clear hI hlk hkv hk6
                  go_wp2_with fail
                  (with_reducible refine HSd.out.mono ?_)
                  rintro e w6 ⟨rfl, hk7⟩
                  go_wp2_with fail
                  go_roundw
                  case rel => exact ⟨k + 1, by omega, by go_num, by rw [Hrow.out], Kp.trans HK6.out hk7⟩
                  case measure => simp [intOf]; omega
                · obtain rfl : k = nl := by omega
                  have HK6 := Lib.hid (Kp.trans HK5.out hkv)
                  have hpt : Q.printT nm.data.toList b0 b1 ls = M ++ rowsK ls k := by
                    unfold rowsK
                    rw [printT_eq, ← HN2.out, ← HMe.out, List.take_of_length_le (by rw [Hnl.out]; exact Nat.le_refl _)]
                  rw [← hpt]
                  by_cases hlg : 4096 < (bs (Q.printT nm.data.toList b0 b1 ls)).size
                  · have Hlg := Lib.hid (show 4096 < (Q.printT nm.data.toList b0 b1 ls).length by rw [← bs_size]; exact hlg)
                    clear hpt hkv
                    go_upto_region 23 with fail
                    refine anyP_start (fun w => w.cell? ⟨5, 0, none⟩ = some (.iface 229 (.pointer (some (E 8))))) 2 (fun _ => True) (fun _ _ => False) (by kernel_rfl) (fun _ _ _ _ h => h.elim) ?_
                    obtain ⟨wd, hwd⟩ : ∃ wd, wd = wv.drew := ⟨_, rfl⟩
                    have hkd : Kp wv wd := hwd ▸ (⟨rfl, rfl, rfl, Nat.le_refl _, fun _ _ => rfl⟩ : Kp wv wv.drew)
                    rw [← hwd]
                    clear hwd
                    have hTd := (Kp.trans HK6.out hkd).cell HE.out.c5
                    have HKd := Lib.hid (Kp.trans HK6.out hkd)
                    clear hkd
                    refine anyT_take puts_true [1] (by kernel_rfl) hTd ?_
                    simp only [opsAt, List.getElem?_toArray, List.getElem?_cons_zero, List.getElem?_cons_succ]
                    repeat (go_big_quiet_step (fail))
                    refine wpQuiet_nil ?_
                    refine anyT_load puts_true 0 66 (.iface 229 (.pointer (some (E 8)))) rfl rfl (by kernel_rfl) hTd (fun w h => exec_load32 h rfl rfl) ?_
                    simp only [Act.put, List.setIfInBounds_toArray, List.set_cons_zero, List.set_cons_succ]
                    refine anyP_one 2 (by kernel_rfl) ?_
                    simp only [opsAt, List.getElem?_toArray, List.getElem?_cons_zero, List.getElem?_cons_succ]
                    clear hTd
                    go_wp2_with fail
                    refine ⟨fun h => absurd rfl h, ?_⟩
                    refine anyP_end (by kernel_rfl) ?_
                    go_wp2_with fail
                    show bodyPost Tryz.prog Tryz.f27 (PrintPost w E nm.data.toList b0 b1 ls) .ret _ _
                    refine bodyPost_ret (v := .tuple #[.string ⟨#[]⟩, .iface 229 (.pointer (some (E 8)))]) (by simp [results, Tryz.results27, go_sem]) rfl ?_
                    exact PrintPost.long Hc.out Hnn.out Hi.out Hlg.out HKd.out
                  · have Hlg := Lib.hid (show (Q.printT nm.data.toList b0 b1 ls).length ≤ 4096 by rw [← bs_size]; omega)
                    clear hpt hkv
                    go_wp2_with fail
                    show bodyPost Tryz.prog Tryz.f27 (PrintPost w E nm.data.toList b0 b1 ls) .ret _ _
                    refine bodyPost_ret (v := .tuple #[.string (bs (Q.printT nm.data.toList b0 b1 ls)), .nilIface]) (by simp [results, Tryz.results27, go_sem]) rfl ?_
                    exact PrintPost.fine Hc.out Hnn.out Hi.out Hlg.out HK6.out
            · skip
              have hres : resT b0 b1 = [32, 32, 46, 46, 46, 10] := by unfold resT; rw [if_neg hz]; rfl
              have hAA : befA b0 b1 2 = true := by rw [befA_two]; simp [hz]
              have HR := Lib.hid (show bs (N ++ befT b0 b1 2) ++ (⟨#[32, 32, 46, 46, 46, 10]⟩ : ByteArray) = bs (N ++ befT b0 b1 2 ++ resT b0 b1) by rw [hres, bs_append (N ++ befT b0 b1 2)]; rfl)
              have hz1 := Hlen.out 2
              rw [hAA]
              clear hres hAA hz
              have hF5 := HF2.out.kp hkr
              obtain ⟨y0', y1', y2', y3', _, _, _, _⟩ := hF5
              have HK5 := Lib.hid (Kp.trans Hk2.out hkr)
              have hrl := resT_len b0 b1
              have Hln2 := Lib.hid (Hls.out)
              obtain ⟨M, hM⟩ : ∃ M, M = N ++ befT b0 b1 2 ++ resT b0 b1 := ⟨_, rfl⟩
              have hMl : M.length ≤ 4136 := by have := Hlen.out 2; rw [bs_size] at this; rw [hM, List.length_append]; omega
              have HMe := Lib.hid hM
              rw [← hM] at HR
              clear hM hkr hrl
              go_wp2_with fail
              rw [HR.out]
              have hnl := HPI.out.il.1
              have hrlen := rows_len ls (fun l hl => (Hls.out.2 l hl).2.2.1)
              have Hrl := Lib.hid (show ∀ k, (bs (M ++ rowsK ls k)).size ≤ 8000 from fun k => by
                unfold rowsK
                rw [bs_size, List.length_append]
                have h1 := rows_len (ls.take k) (fun l hl => (Hls.out.2 l (List.mem_of_mem_take hl)).2.2.1)
                have h2 : (ls.take k).length ≤ 24 := by rw [List.length_take]; have := Hls.out.1; omega
                omega)
              have hb0 : bs M = bs (M ++ rowsK ls 0) := by simp [rowsK]
              rw [hb0]
              clear hb0 hrlen hMl
              have Hnl := Lib.hid hnl
              have hnl24 : nl ≤ 24 := by rw [← hnl]; exact Hls.out.1
              clear hnl
              go_loopw [5, 51] (fun s i wv => ∃ k : Nat, k ≤ nl ∧ i = .int .i64 (k : Nat) ∧ s = .string (bs (M ++ rowsK ls k)) ∧ Kp wr wv) (fun _ i _ => nl - (intOf i).toNat)
              case atStart => exact ⟨0, by omega, rfl, rfl, Kp.refl _⟩
              case round =>
                clear y0' y1' y2' y3'
                obtain ⟨k, hk, rfl, rfl, hkv⟩ := hrel
                rename World => wv
                by_cases hlt : k < nl
                · have hkl : k < ls.length := by rw [Hnl.out]; exact hlt
                  obtain ⟨bq, off, tp, tn, tc, rfl, hd1, hd2, hI, htn⟩ := HPI.out.il.2.2 k hkl
                  have HKv := Lib.hid (Kp.trans HK5.out hkv)
                  replace hd1 := HKv.out.cell hd1
                  replace hd2 := HKv.out.cell hd2
                  have hlk := Hls.out.2 ls[k] (List.getElem_mem hkl)
                  have Hrow := Lib.hid (bs_rows M ls k hkl)
                  have hrz : (bs (Q.endR (Q.rowT (ls[k].1, ls[k].2)))).size ≤ 130 := by rw [bs_size]; have : (Q.endR (Q.rowT (ls[k].1, ls[k].2))).length ≤ 6 + 5 * ls[k].2.length := rowE_len ls[k]; omega
                  have hsz := Hrl.out k
                  generalize ls[k] = l at *
                  obtain ⟨f, xs⟩ := l
                  simp only at hd1 hd2 hI htn hlk hrz
                  have hk6 := Kp.new wv (.cells #[iv f, .slice tp tn tc] 73)
                  have hxn : 0 < tn := by rw [← hI.1]; exact List.length_pos_iff.2 hlk.2.1
                  have HSd := Lib.hid (said_any (wv.alloc (.cells #[iv f, .slice tp tn tc] 73)) f hlk.1 tp tn tc xs ((Kp.trans HKv.out hk6).is hI) (by rw [← hI.1]; have := hlk.2.2.1; omega) hxn hlk.2.2.2)
                  have HK6 := Lib.hid (Kp.trans hkv hk6)
                  clear hI hlk hkv hk6
                  go_wp2_with fail
                  (with_reducible refine HSd.out.mono ?_)
                  rintro e w6 ⟨rfl, hk7⟩
                  go_wp2_with fail
                  go_roundw
                  case rel => exact ⟨k + 1, by omega, by go_num, by rw [Hrow.out], Kp.trans HK6.out hk7⟩
                  case measure => simp [intOf]; omega
                · obtain rfl : k = nl := by omega
                  have HK6 := Lib.hid (Kp.trans HK5.out hkv)
                  have hpt : Q.printT nm.data.toList b0 b1 ls = M ++ rowsK ls k := by
                    unfold rowsK
                    rw [printT_eq, ← HN2.out, ← HMe.out, List.take_of_length_le (by rw [Hnl.out]; exact Nat.le_refl _)]
                  rw [← hpt]
                  by_cases hlg : 4096 < (bs (Q.printT nm.data.toList b0 b1 ls)).size
                  · have Hlg := Lib.hid (show 4096 < (Q.printT nm.data.toList b0 b1 ls).length by rw [← bs_size]; exact hlg)
                    clear hpt hkv
                    go_upto_region 23 with fail
                    refine anyP_start (fun w => w.cell? ⟨5, 0, none⟩ = some (.iface 229 (.pointer (some (E 8))))) 2 (fun _ => True) (fun _ _ => False) (by kernel_rfl) (fun _ _ _ _ h => h.elim) ?_
                    obtain ⟨wd, hwd⟩ : ∃ wd, wd = wv.drew := ⟨_, rfl⟩
                    have hkd : Kp wv wd := hwd ▸ (⟨rfl, rfl, rfl, Nat.le_refl _, fun _ _ => rfl⟩ : Kp wv wv.drew)
                    rw [← hwd]
                    clear hwd
                    have hTd := (Kp.trans HK6.out hkd).cell HE.out.c5
                    have HKd := Lib.hid (Kp.trans HK6.out hkd)
                    clear hkd
                    refine anyT_take puts_true [1] (by kernel_rfl) hTd ?_
                    simp only [opsAt, List.getElem?_toArray, List.getElem?_cons_zero, List.getElem?_cons_succ]
                    repeat (go_big_quiet_step (fail))
                    refine wpQuiet_nil ?_
                    refine anyT_load puts_true 0 66 (.iface 229 (.pointer (some (E 8)))) rfl rfl (by kernel_rfl) hTd (fun w h => exec_load32 h rfl rfl) ?_
                    simp only [Act.put, List.setIfInBounds_toArray, List.set_cons_zero, List.set_cons_succ]
                    refine anyP_one 2 (by kernel_rfl) ?_
                    simp only [opsAt, List.getElem?_toArray, List.getElem?_cons_zero, List.getElem?_cons_succ]
                    clear hTd
                    go_wp2_with fail
                    refine ⟨fun h => absurd rfl h, ?_⟩
                    refine anyP_end (by kernel_rfl) ?_
                    go_wp2_with fail
                    show bodyPost Tryz.prog Tryz.f27 (PrintPost w E nm.data.toList b0 b1 ls) .ret _ _
                    refine bodyPost_ret (v := .tuple #[.string ⟨#[]⟩, .iface 229 (.pointer (some (E 8)))]) (by simp [results, Tryz.results27, go_sem]) rfl ?_
                    exact PrintPost.long Hc.out Hnn.out Hi.out Hlg.out HKd.out
                  · have Hlg := Lib.hid (show (Q.printT nm.data.toList b0 b1 ls).length ≤ 4096 by rw [← bs_size]; omega)
                    clear hpt hkv
                    go_wp2_with fail
                    show bodyPost Tryz.prog Tryz.f27 (PrintPost w E nm.data.toList b0 b1 ls) .ret _ _
                    refine bodyPost_ret (v := .tuple #[.string (bs (Q.printT nm.data.toList b0 b1 ls)), .nilIface]) (by simp [results, Tryz.results27, go_sem]) rfl ?_
                    exact PrintPost.fine Hc.out Hnn.out Hi.out Hlg.out HK6.out
  · have Hc := Lib.hid hc
    have HEe := Lib.hid (errV_ptr E hc)
    rw [HEe.out] at HC
    have Hk1 := Lib.hid hk1
    obtain ⟨y0, y1, y2, y3, z0, z1, z2, z3⟩ := hF1
    clear hc hbx hk1
    go_enter Tryz.func27, Tryz.ntmps27
    go_upto_region 2 with fail
    (with_reducible refine HC.out.mono ?_)
    rintro e w2 ⟨rfl, hk2⟩
    have Hk2 := Lib.hid (Kp.trans Hk1.out hk2)
    clear hk2 y0 y1 y2 y3 z0 z1 z2 z3
    go_wp2_with fail
    show bodyPost Tryz.prog Tryz.f27 (PrintPost w E nm.data.toList b0 b1 ls) .ret _ _
    refine bodyPost_ret (v := .tuple #[.string ⟨#[]⟩, .iface 229 (.pointer (some (E (checkL b0 b1 ls))))]) (by simp [results, Tryz.results27, go_sem]) rfl ?_
    exact PrintPost.bad Hc.out Hk2.out
end Go.Proofs.YtkmejehhdjdlbaaGreatDoor

namespace Go.Proofs.YtkmejehhdjdlbaaGreatDoor
open Go.RowKit

def nnB : Q.Bt := [78, 78]
def nnL : List Ln := [(0, [1]), (1, [1, 3])]
def nnT : Q.Bt := [78, 78, 58, 10, 32, 32, 45, 62, 32, 101, 10, 32, 32, 60, 45, 32, 101, 44, 32, 101, 101, 10]
def psk0 : Q.Bt := [112, 115, 107, 48]
theorem nn_row : (rowOf nnB).map (fun y => (y.1, y.2.1, y.2.2.1)) = some (nnB, ([], []), nnL) := by kernel_rfl
theorem nn_none : rowOf [78, 78, 49] = none := by kernel_rfl
theorem nn_read : Q.readP nnT = some (nnB, ⟨[], [], nnL, false⟩) := by kernel_rfl
theorem nn_check : checkL [] [] nnL = 0 := by kernel_rfl
theorem nn_print : prt nnB [] [] nnL = (nnT, 0) := by kernel_rfl
theorem zero_check : checkL [] [] [] = 9 := by kernel_rfl
def nnQ : Q.Pn := ⟨[78, 78, 112, 115, 107, 48], [], [], [(0, [7, 1]), (1, [1, 3])]⟩
theorem nn_mod : Q.modP srtI ⟨nnB, [], [], nnL⟩ [psk0] = (some nnQ, 0) := by kernel_rfl
theorem nnQ_check : checkL nnQ.b0 nnQ.b1 nnQ.ls = 0 := by kernel_rfl
end Go.Proofs.YtkmejehhdjdlbaaGreatDoor

namespace Go.Proofs.YtkmejehhdjdlbaaGreatDoor
open Go.RowKit

set_option maxHeartbeats 4000000 in
theorem all_fn (w : World) : Calls Tryz.prog 35 #[] w fun e w' => e = .returned (.func (.func 78) #[] #[]) ∧ w = w' := by
  go_enter Tryz.func35, Tryz.ntmps35
  go_wp2_with fail
  go_ret
  exact ⟨rfl, rfl⟩
set_option maxHeartbeats 4000000 in
theorem known1_any (v : World) (bc k : Nat) (hk : k < 5) (s : ByteArray) (a0 a1 al : Option Addr) (n0 c0 n1 c1 nl cl : Nat) (h : One1 v bc (iv k)) :
    Calls Tryz.prog 55 #[patV s a0 a1 al n0 c0 n1 c1 nl cl, .pointer (some ⟨bc, 0, none⟩)] v fun e v' => e = .returned (.bool (decide (k + 1 < 5))) ∧ Fr [bc] v v' ∧ One1 v' bc (iv ((k + 1 : Nat) : Int)) := by
  have hk1 := Kp.new v (.cells #[.string s, .slice a0 n0 c0, .slice a1 n1 c1, .slice al nl cl] 26)
  have h1 := h.kp hk1
  have hset := ((Fr.of_kp hk1).mono (Y := [bc]) (by simp)).trans (Fr.set (v.alloc (.cells #[.string s, .slice a0 n0 c0, .slice a1 n1 c1, .slice al nl cl] 26)) ⟨bc, 0, none⟩ (iv ((k + 1 : Nat) : Int)))
  have h2 := h1.set (iv ((k + 1 : Nat) : Int))
  have Hset := Lib.hid hset
  have H2 := Lib.hid h2
  obtain ⟨y0, z0⟩ := h1
  clear h hset h2 hk1
  rcases (show k = 0 ∨ k = 1 ∨ k = 2 ∨ k = 3 ∨ k = 4 by omega) with rfl | rfl | rfl | rfl | rfl
  all_goals
    go_enter Tryz.func55, Tryz.ntmps55
    go_wp2_with fail
    go_ret
    exact ⟨rfl, Hset.out, H2.out⟩
attribute [local irreducible] tblK tblP tblQ Q.piecesB Q.tableB Q.tableL rowOf namesS
/-- Five of the table are taken. -/
theorem five_any (w0 w : World) (E : Nat → Addr) (m : Int) (hE : Env w0 E m) (hk : Kp w0 w) (bc : Nat) (hb : w0.heap.size ≤ bc) (hbw : bc < w.heap.size) (h : One1 w bc (iv 0)) :
    Calls Tryz.prog 78 #[.func (.func 55) #[] #[.pointer (some ⟨bc, 0, none⟩)]] w fun e w' => e = .returned (.tuple #[]) ∧ One1 w' bc (iv 5) ∧ Fr [bc] w w' :=
  all_iter 55 #[.pointer (some ⟨bc, 0, none⟩)] (enters_of Tryz.func55 (by kernel_rfl) rfl) w m E (E 8) [bc] (fun k v => k < 5 ∧ One1 v bc (iv (k : Nat)) ∧ Fr [bc] w v) (fun v => One1 v bc (iv 5) ∧ Fr [bc] w v) (by simpa using hbw)
    (fun k v v' hi hk => ⟨hi.1, hi.2.1.kp hk, hi.2.2.trans ((Fr.of_kp hk).mono (Y := [bc]) (by simp))⟩)
    (fun k v hi => by
      have hv := hE.keep (kp_step' hk hi.2.2 (fun x hx => by simp at hx; omega))
      exact ⟨hv.mx, hv.errs, hv.c5⟩)
    ⟨by omega, h, Fr.refl _ _⟩
    (fun k v y t0 t1 tl ts hkl hr hy hi hP => (known1_any v bc k hi.1 (bs y.1) t0.ao t1.ao tl.ao t0.n t0.c t1.n t1.c tl.n tl.c hi.2.1).mono (fun e v' he => by
      obtain ⟨rfl, hf, ho⟩ := he
      refine ⟨_, rfl, hf, fun hb => ⟨by simpa using hb, ho, hi.2.2.trans hf⟩, fun hb => ⟨?_, hi.2.2.trans hf⟩⟩
      have hk5 : k + 1 = 5 := by
        have h1 := hi.1
        simp at hb
        omega
      rw [hk5] at ho
      exact ho))
    (fun v hi => absurd hi.1 (by rw [namesS_length, tableL_len]; decide))
end Go.Proofs.YtkmejehhdjdlbaaGreatDoor

namespace Go.Proofs.YtkmejehhdjdlbaaGreatDoor
open Go.RowKit

def q2L : List Ln := [(0, [7, 1]), (1, [1, 3])]
abbrev sNN : ByteArray := ⟨#[78, 78]⟩
abbrev sTx : ByteArray := ⟨#[78, 78, 58, 10, 32, 32, 45, 62, 32, 101, 10, 32, 32, 60, 45, 32, 101, 44, 32, 101, 101, 10]⟩
abbrev sPs : ByteArray := ⟨#[112, 115, 107, 48]⟩
abbrev sQ : ByteArray := ⟨#[78, 78, 112, 115, 107, 48]⟩
variable {E : Nat → Addr} {m : Int}
theorem nnL_small : ∀ l ∈ nnL, l.2.length ≤ 2000 := by decide
theorem PatO.patI {w : World} {B : Nat} {t0 t1 tl : Tv} {ts : List Tv} {b0 b1 : List Int} {ls : List Ln} (h : PatO w B t0 t1 tl ts b0 b1 ls) (hn : ls.length ≤ 5000) (ht : ∀ l ∈ ls, l.2.length ≤ 5000) : PatI w t0.ao t1.ao tl.ao t0.n t1.n tl.n b0 b1 ls :=
  ⟨h.is0, h.is1, h.lnsN 5000 (by decide) hn ht⟩
theorem parse_nn (v : World) (hE : Env v E m) : Calls Tryz.prog 29 #[.string sTx] v fun e w' => Kp v w' ∧ ∃ t0 t1 tl : Tv, e = .returned (.tuple #[.agg #[.string sNN, tvv t0, tvv t1, tvv tl], .nilIface]) ∧ PatI w' t0.ao t1.ao tl.ao t0.n t1.n tl.n [] [] nnL ∧ tl.n = 2 := by
  refine (show Calls Tryz.prog 29 #[.string sTx] v _ from parse_fine nnT nnB ⟨[], [], nnL, false⟩ m E (E 8) v hE.mx hE.errs hE.c5 (by decide) nn_read nn_check).mono ?_
  rintro e w' ⟨hk, t0, t1, tl, ts, rfl, hP⟩
  exact ⟨hk, t0, t1, tl, rfl, hP.patI (by decide) (fun l hl => by have := nnL_small l hl; omega), hP.nl⟩
theorem find_nn (v : World) (hE : Env v E m) : Calls Tryz.prog 32 #[.string sNN] v fun e w' => Kp v w' ∧ ∃ t0 t1 tl : Tv, e = .returned (.tuple #[.agg #[.string sNN, tvv t0, tvv t1, tvv tl], .bool true]) ∧ PatI w' t0.ao t1.ao tl.ao t0.n t1.n tl.n [] [] nnL ∧ t0.n = 0 ∧ t1.n = 0 ∧ tl.n = 2 := by
  refine (find_any sNN m E (E 8) v (by decide) hE.mx hE.errs hE.c5).mono ?_
  rintro e w' ⟨hk, h⟩
  have hr := nn_row
  rw [show sNN.data.toList = nnB from rfl] at h
  cases hq : rowOf nnB with
  | none => rw [hq] at hr; cases hr
  | some y =>
    rw [hq] at hr h
    simp only [Option.map_some, Option.some.injEq, Prod.mk.injEq] at hr
    obtain ⟨t0, t1, tl, ts, rfl, hP⟩ := h
    rw [hr.2.1, hr.2.2] at hP
    refine ⟨hk, t0, t1, tl, ?_, hP.patI (by decide) (fun l hl => by have := nnL_small l hl; omega), hP.n0, hP.n1, hP.nl⟩
    rw [hr.1]; rfl
theorem find_nn1 (v : World) (hE : Env v E m) : Calls Tryz.prog 32 #[.string ⟨#[78, 78, 49]⟩] v fun e w' => Kp v w' ∧ e = .returned (.tuple #[zeroP, .bool false]) := by
  refine (find_any ⟨#[78, 78, 49]⟩ m E (E 8) v (by decide) hE.mx hE.errs hE.c5).mono ?_
  rintro e w' ⟨hk, h⟩
  rw [show (⟨#[78, 78, 49]⟩ : ByteArray).data.toList = [78, 78, 49] from rfl, nn_none] at h
  exact ⟨hk, h⟩
theorem print_nn (v : World) (hE : Env v E m) (a0 a1 al : Option Addr) (n0 c0 n1 c1 nl cl : Nat) (hP : PatI v a0 a1 al n0 n1 nl [] [] nnL) :
    Calls Tryz.prog 27 #[patV sNN a0 a1 al n0 c0 n1 c1 nl cl] v fun e w' => Kp v w' ∧ e = .returned (.tuple #[.string sTx, .nilIface]) := by
  refine (print_any v E m hE sNN a0 a1 al n0 c0 n1 c1 nl cl [] [] nnL hP (by decide)).mono ?_
  rintro e w' ⟨h, hk⟩
  rw [show sNN.data.toList = nnB from rfl, nn_print] at h
  refine ⟨hk, ?_⟩
  rw [h]
  simp only [errV_nil]
  rfl
theorem mod_nn (v : World) (hE : Env v E m) (a0 a1 al : Option Addr) (n0 c0 n1 c1 nl cl : Nat) (hP : PatI v a0 a1 al n0 n1 nl [] [] nnL) (h0 : n0 = 0) (h1 : n1 = 0) (hl : nl = 2) (g : Nat) (hg : v.cell? ⟨g, 0, none⟩ = some (.string sPs)) :
    Calls Tryz.prog 19 #[patV sNN a0 a1 al n0 c0 n1 c1 nl cl, .slice (some ⟨g, 0, none⟩) 1 1] v fun e w' => Kp v w' ∧ ∃ t0 t1 tf td ts D, e = .returned (.tuple #[.agg #[.string sQ, tvv t0, tvv t1, tvv (subT tf D.length)], .nilIface]) ∧ DrS w' v.heap.size t0 t1 tf td ts D q2L [] [] := by
  have hW : Strs v (some ⟨g, 0, none⟩) 1 [sPs] := ⟨rfl, by decide, fun j u hu => by
    cases j with
    | zero => exact ⟨_, _, rfl, by cases hu; exact hg⟩
    | succ j => simp at hu⟩
  refine (modify_any v E m hE sNN a0 a1 al n0 c0 n1 c1 nl cl [] [] nnL hP ⟨by decide, by omega, by omega, by omega, nnL_small⟩ _ 1 1 [sPs] hW (by decide) (by decide)).mono ?_
  rintro e w' ⟨hk, h⟩
  rw [show (⟨sNN.data.toList, [], [], nnL⟩ : Q.Pn) = ⟨nnB, [], [], nnL⟩ from rfl, show wb [sPs] = [psk0] from rfl, nn_mod] at h
  obtain ⟨t0, t1, tf, td, ts, D, he, hd, h1, hl, hs⟩ := h
  exact ⟨hk, t0, t1, tf, td, ts, D, he, hd, h1, hl, hs⟩
theorem check_zero (v : World) (hE : Env v E m) : Calls Tryz.prog 24 #[zeroP] v fun e w' => e = .returned (.iface 229 (.pointer (some (E 9)))) ∧ Kp v w' := by
  have hz := PatI.none v
  have h := check_any v E hE.errs ⟨#[]⟩ none none none 0 0 0 0 0 0 [] [] [] hz.i0 hz.i1 hz.il
  rw [zero_check] at h
  exact h
theorem check_q (v : World) (hE : Env v E m) (nm : ByteArray) (a0 a1 al : Option Addr) (n0 c0 n1 c1 nl cl : Nat) (hP : PatI v a0 a1 al n0 n1 nl [] [] q2L) : Calls Tryz.prog 24 #[patV nm a0 a1 al n0 c0 n1 c1 nl cl] v fun e w' => e = .returned .nilIface ∧ Kp v w' := by
  have h := check_any v E hE.errs nm a0 a1 al n0 c0 n1 c1 nl cl [] [] q2L hP.i0 hP.i1 hP.il
  rw [show checkL [] [] q2L = 0 from nnQ_check] at h
  exact h
end Go.Proofs.YtkmejehhdjdlbaaGreatDoor

namespace Go.Proofs.YtkmejehhdjdlbaaGreatDoor
open Go.RowKit

def flagL (t : Int) : Int := if t = 3 then 1 else if t = 4 then 2 else if t = 5 then 4 else if t = 6 then 8 else 0
abbrev uv (z : Int) : Value := .int .u64 z
theorem flag_any (t : Int) (w : World) : Calls Tryz.prog 47 #[iv t] w fun e w' => e = .returned (uv (flagL t)) ∧ w = w' := by
  unfold flagL
  by_cases h3 : t = 3
  · subst h3
    go_enter Tryz.func47, Tryz.ntmps47
    go_wp2_with fail
    go_ret
    exact ⟨rfl, rfl⟩
  · by_cases h4 : t = 4
    · subst h4
      go_enter Tryz.func47, Tryz.ntmps47
      go_wp2_with fail
      go_ret
      exact ⟨rfl, rfl⟩
    · by_cases h5 : t = 5
      · subst h5
        go_enter Tryz.func47, Tryz.ntmps47
        go_wp2_with fail
        go_ret
        exact ⟨rfl, rfl⟩
      · by_cases h6 : t = 6
        · subst h6
          go_enter Tryz.func47, Tryz.ntmps47
          go_wp2_with fail
          go_ret
          exact ⟨rfl, rfl⟩
        · rw [if_neg h3, if_neg h4, if_neg h5, if_neg h6]
          go_enter Tryz.func47, Tryz.ntmps47
          go_wp2_with fail
          go_ret
          exact ⟨rfl, rfl⟩
/-- The flags met so far. -/
def flagsV (a b c d : Bool) : Int := (if a then 1 else 0) + (if b then 2 else 0) + (if c then 4 else 0) + (if d then 8 else 0)
/-- The teller's block. -/
structure TellAt (w : World) (b : Nat) (F x y : Int) : Prop where
  c0 : w.cell? ⟨b, 0, none⟩ = some (uv F)
  c1 : w.cell? ⟨b, 1, none⟩ = some (iv x)
  c2 : w.cell? ⟨b, 2, none⟩ = some (iv y)
  f0 : w.frozen? ⟨b, 0, none⟩ = false
  f1 : w.frozen? ⟨b, 1, none⟩ = false
  f2 : w.frozen? ⟨b, 2, none⟩ = false
theorem TellAt.fr {X : List Nat} {w w' : World} {b : Nat} {F x y : Int} (h : TellAt w b F x y) (k : Fr X w w') (hb : b ∉ X) : TellAt w' b F x y :=
  ⟨k.cell h.c0 hb, k.cell h.c1 hb, k.cell h.c2 hb, k.free h.c0 h.f0 hb, k.free h.c1 h.f1 hb, k.free h.c2 h.f2 hb⟩
theorem TellAt.kp {w w' : World} {b : Nat} {F x y : Int} (h : TellAt w b F x y) (k : Kp w w') : TellAt w' b F x y := h.fr (Fr.of_kp k) (by simp)
def flagAt (a b c d : Bool) (f : Int) : Bool := if f = 1 then a else if f = 2 then b else if f = 4 then c else d
theorem flag_and (a b c d : Bool) (f : Int) (hf : f = 1 ∨ f = 2 ∨ f = 4 ∨ f = 8) : (bits BinOp.and IntKind.u64 (flagsV a b c d) f != 0) = flagAt a b c d f := by
  rcases hf with rfl | rfl | rfl | rfl <;> cases a <;> cases b <;> cases c <;> cases d <;> kernel_rfl
theorem flag_or (a b c d : Bool) (t : Int) : bits BinOp.or IntKind.u64 (flagsV a b c d) (flagL t) = flagsV (a || t == 3) (b || t == 4) (c || t == 5) (d || t == 6) := by
  unfold flagL
  by_cases h3 : t = 3
  · subst h3
    cases a <;> cases b <;> cases c <;> cases d <;> kernel_rfl
  · by_cases h4 : t = 4
    · subst h4
      cases a <;> cases b <;> cases c <;> cases d <;> kernel_rfl
    · by_cases h5 : t = 5
      · subst h5
        cases a <;> cases b <;> cases c <;> cases d <;> kernel_rfl
      · by_cases h6 : t = 6
        · subst h6
          cases a <;> cases b <;> cases c <;> cases d <;> kernel_rfl
        · rw [if_neg h3, if_neg h4, if_neg h5, if_neg h6, beq_eq_false_iff_ne.2 h3, beq_eq_false_iff_ne.2 h4, beq_eq_false_iff_ne.2 h5, beq_eq_false_iff_ne.2 h6]
          cases a <;> cases b <;> cases c <;> cases d <;> kernel_rfl
theorem has_any (bx bt : Nat) (a b c d : Bool) (f x y : Int) (hf : f = 1 ∨ f = 2 ∨ f = 4 ∨ f = 8) (w : World) (hb : w.cell? ⟨bx, 0, none⟩ = some (.pointer (some ⟨bt, 0, none⟩))) (ht : TellAt w bt (flagsV a b c d) x y) :
    Calls Tryz.prog 87 #[uv f, .pointer (some ⟨bx, 0, none⟩)] w fun e w' => e = .returned (.bool (flagAt a b c d f)) ∧ w = w' := by
  obtain ⟨c0, _, _, _, _, _⟩ := ht
  rw [← flag_and a b c d f hf]
  obtain ⟨F, hF⟩ : ∃ F, F = flagsV a b c d := ⟨_, rfl⟩
  rw [← hF] at c0 ⊢
  clear hF hf
  go_enter Tryz.func87, Tryz.ntmps87
  go_wp2_with fail
  go_ret
  exact ⟨rfl, rfl⟩
/-- The word for the other side's messages. -/
theorem both_any (bt : Nat) (s : Int) (hs : s = 0 ∨ s = 1) (F x y : Int) (hx : 0 ≤ x ∧ x ≤ 2) (hy : 0 ≤ y ∧ y ≤ 2) (w : World) (ht : TellAt w bt F x y) :
    Calls Tryz.prog 88 #[.pointer (some ⟨bt, 0, none⟩), iv s] w fun e w' => e = .returned (iv (3 + (if s = 0 then x else y))) ∧ w = w' := by
  obtain ⟨_, c1, c2, _, _, _⟩ := ht
  rcases hs with rfl | rfl
  · rcases (show x = 0 ∨ x = 1 ∨ x = 2 by omega) with rfl | rfl | rfl <;>
      (go_enter Tryz.func88, Tryz.ntmps88; go_wp2_with fail; go_ret; exact ⟨by rfl, rfl⟩)
  · rcases (show y = 0 ∨ y = 1 ∨ y = 2 by omega) with rfl | rfl | rfl <;>
      (go_enter Tryz.func88, Tryz.ntmps88; go_wp2_with fail; go_ret; exact ⟨by rfl, rfl⟩)
end Go.Proofs.YtkmejehhdjdlbaaGreatDoor
