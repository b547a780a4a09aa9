/- Parts of the walks and plain laws, merged: Back, ModP, Modi, MdfE, RefCopy, RefBack, Split, Tokens. Each theorem bears its own conditions; no other. -/
import Derived.Test.YtbdphdgomcabmaaGreatDoorNi6
import Derived.Test.YtbdphdgomcabmaaGreatDoorNi1
import Derived.Lib.ItoaLen
import Derived.Test.YtbdphdgomcabmaaGreatDoorNi3
namespace Go.Proofs.YtbdphdgomcabmaaGreatDoor
open Go.RowKit

def inL (xs : List Int) (x : Int) : Bool := xs.contains x
def noneIn (b xs : List Int) : Bool := xs.all (fun t => !inL b t)
theorem noneIn_step {b xs : List Int} {k : Nat} (h : k < xs.length) (h1 : noneIn b (xs.take k) = true) (h2 : inL b xs[k] = false) : noneIn b (xs.take (k + 1)) = true := by
  unfold noneIn at h1 ⊢
  rw [take_step xs k h, List.all_append, h1]
  simp [h2]
theorem noneIn_no {b xs : List Int} {k : Nat} (h : k < xs.length) (h2 : inL b xs[k] = true) : noneIn b xs = false := by
  cases hq : noneIn b xs with
  | false => rfl
  | true =>
    have := List.all_eq_true.1 hq _ (List.getElem_mem h)
    rw [h2] at this; cases this
section
variable {w w1 : World} {B bx : Nat} {nm : ByteArray} {t0 t1 tf : Tv} {td ts : List Tv} {D ls : List Ln} {b0 b1 : List Int}
theorem MdS.bx0 (h : MdS w B bx nm t0 t1 tf td ts D ls b0 b1) : bx ∉ blkL t0.ao := fun q => by
  have := (Rw.lt (h.sep.own ⟨3, 1, t0, b0.map iv⟩ (by simp [rowsP])) (x := bx) q).1
  have := h.hb
  omega
theorem MdS.bx1 (h : MdS w B bx nm t0 t1 tf td ts D ls b0 b1) : bx ∉ blkL t1.ao := fun q => by
  have := (Rw.lt (h.sep.own ⟨3, 1, t1, b1.map iv⟩ (by simp [rowsP])) (x := bx) q).1
  have := h.hb
  omega
theorem MdS.own0 (h : MdS w B bx nm t0 t1 tf td ts D ls b0 b1) : Own w B 3 1 t0.ao t0.n t0.c (b0.map iv) := h.sep.own ⟨3, 1, t0, b0.map iv⟩ (by simp [rowsP])
theorem MdS.own1 (h : MdS w B bx nm t0 t1 tf td ts D ls b0 b1) : Own w B 3 1 t1.ao t1.n t1.c (b1.map iv) := h.sep.own ⟨3, 1, t1, b1.map iv⟩ (by simp [rowsP])
/-- What is known ahead of the initiator has changed. -/
theorem MdS.put0 {t : Tv} {b : List Int} (h : MdS w B bx nm t0 t1 tf td ts D ls b0 b1) (f : Fr (blkL t0.ao) w w1) (ho : Own w1 B 3 1 t.ao t.n t.c (b.map iv)) (hb : ∀ x ∈ blkL t.ao, x ∈ blkL t0.ao ∨ w.heap.size ≤ x) :
    MdS (w1.setCell ⟨bx, 1, none⟩ (tvv t)) B bx nm t t1 tf td ts D ls b b1 :=
  ⟨(h.four.fr f h.bx0).set1 _, h.hd, h.h1, h.hl, (Sep.upd (r' := ⟨3, 1, t, b.map iv⟩) h.sep f ho hb).fr (Fr.set w1 ⟨bx, 1, none⟩ (tvv t)) (by intro x hx; simp at hx; have := h.hb; omega), h.hb⟩
theorem MdS.sort0 {b : List Int} (h : MdS w B bx nm t0 t1 tf td ts D ls b0 b1) (f : Fr (blkL t0.ao) w w1) (ho : Own w1 B 3 1 t0.ao t0.n t0.c (b.map iv)) : MdS w1 B bx nm t0 t1 tf td ts D ls b b1 :=
  ⟨h.four.fr f h.bx0, h.hd, h.h1, h.hl, Sep.upd (r' := ⟨3, 1, t0, b.map iv⟩) h.sep f ho (fun _x hx => .inl hx), h.hb⟩
theorem MdS.put1 {t : Tv} {b : List Int} (h : MdS w B bx nm t0 t1 tf td ts D ls b0 b1) (f : Fr (blkL t1.ao) w w1) (ho : Own w1 B 3 1 t.ao t.n t.c (b.map iv)) (hb : ∀ x ∈ blkL t.ao, x ∈ blkL t1.ao ∨ w.heap.size ≤ x) :
    MdS (w1.setCell ⟨bx, 2, none⟩ (tvv t)) B bx nm t0 t tf td ts D ls b0 b :=
  ⟨(h.four.fr f h.bx1).set2 _, h.hd, h.h1, h.hl, ((Sep.upd (r' := ⟨3, 1, t, b.map iv⟩) (h.sep.perm (List.Perm.swap _ _ _)) f ho hb).perm (List.Perm.swap _ _ _)).fr (Fr.set w1 ⟨bx, 2, none⟩ (tvv t)) (by intro x hx; simp at hx; have := h.hb; omega), h.hb⟩
theorem MdS.sort1 {b : List Int} (h : MdS w B bx nm t0 t1 tf td ts D ls b0 b1) (f : Fr (blkL t1.ao) w w1) (ho : Own w1 B 3 1 t1.ao t1.n t1.c (b.map iv)) : MdS w1 B bx nm t0 t1 tf td ts D ls b0 b :=
  ⟨h.four.fr f h.bx1, h.hd, h.h1, h.hl, (Sep.upd (r' := ⟨3, 1, t1, b.map iv⟩) (h.sep.perm (List.Perm.swap _ _ _)) f ho (fun _x hx => .inl hx)).perm (List.Perm.swap _ _ _), h.hb⟩
/-- The first message is dropped. -/
theorem MdS.drop {tq : Tv} {l : Ln} (h : MdS w B bx nm t0 t1 tf [] (tq :: ts) [] (l :: ls) b0 b1) : MdS (w.setCell ⟨bx, 3, none⟩ (tvv (subT tf 1))) B bx nm t0 t1 tf [tq] ts [l] ls b0 b1 :=
  ⟨h.four.set3 _, rfl, by simp, by have := h.hl; simp at this; exact this, h.sep.fr (Fr.set w ⟨bx, 3, none⟩ _) (by intro x hx; simp at hx; have := h.hb; omega), h.hb⟩
end
/-- What is left behind. -/
def BackPost (w : World) (B bx : Nat) (nm : ByteArray) (_t0 _t1 tf tq : Tv) (ts : List Tv) (l : Ln) (r : List Ln) (b0 b1 : List Int) (e : Ending) (w' : World) : Prop :=
  if okB l.2 && noneIn (if l.1 = 0 then b0 else b1) l.2 then
    ∃ t0' t1', e = .returned (.bool true) ∧ MdS w' B bx nm t0' t1' tf [tq] ts [l] r (if l.1 = 0 then srtI (b0 ++ l.2) else b0) (if l.1 = 0 then b1 else srtI (b1 ++ l.2)) ∧ Kept bx B w w'
  else e = .returned (.bool false) ∧ Kp w w'
/-- The cells that a round looks at. -/
structure ClB (bl bx o : Nat) (f : Int) (vt vb : Value) (w : World) : Prop where
  c0 : w.cell? ⟨bl, 0, none⟩ = some (iv f)
  c1 : w.cell? ⟨bl, 1, none⟩ = some vt
  p : w.cell? ⟨bx, o, none⟩ = some vb
theorem ClB.kp {bl bx o : Nat} {f : Int} {vt vb : Value} {w w' : World} (h : ClB bl bx o f vt vb w) (k : Kp w w') : ClB bl bx o f vt vb w' := ⟨k.cell h.c0, k.cell h.c1, k.cell h.p⟩
theorem ClB.fr {X : List Nat} {bl bx o : Nat} {f : Int} {vt vb : Value} {w w' : World} (h : ClB bl bx o f vt vb w) (k : Fr X w w') (h1 : bl ∉ X) (h2 : bx ∉ X) : ClB bl bx o f vt vb w' := ⟨k.cell h.c0 h1, k.cell h.c1 h1, k.cell h.p h2⟩
set_option maxRecDepth 100000 in
set_option maxHeartbeats 8000000 in
theorem back_0 (w : World) (B bx : Nat) (nm : ByteArray) (t0 t1 tf tq : Tv) (ts : List Tv) (xs : List Int) (r : List Ln) (b0 b1 : List Int) (h : MdS w B bx nm t0 t1 tf [] (tq :: ts) [] ((0, xs) :: r) b0 b1) (hx : xs ≠ []) (hxl : xs.length ≤ 10000) (hb0 : b0.length ≤ 10000) :
    Calls Tryz.prog 35 #[.pointer (some ⟨bx, 0, none⟩)] w (BackPost w B bx nm t0 t1 tf tq ts (0, xs) r b0 b1) := by
  obtain ⟨ta, tn, tc⟩ := tq
  obtain ⟨ba, bn, bc⟩ := t0
  obtain ⟨fa, fn, fc⟩ := tf
  obtain ⟨g, hg, _, hcap, hbg, hgw⟩ := h.at (by simp)
  simp only at hg
  subst hg
  have hfn := h.nf
  simp only [List.length_nil, List.length_cons, Nat.zero_add] at hfn
  simp only [List.length_cons, List.length_nil, Nat.sub_zero] at hcap
  have H := Lib.hid h
  obtain ⟨d0, d1, _⟩ := h.cells rfl 0 (by simp)
  unfold tvv at d1
  simp only [List.length_nil, Nat.zero_mul, Nat.zero_add, List.getElem_cons_zero] at d0 d1
  have hrow : Own w B 3 1 ta tn tc (xs.map iv) := h.row 0 (by simp)
  have hxt : xs.length = tn := by have := hrow.1; simpa using this
  have hbn : b0.length = bn := by have := h.own0.1; simpa using this
  have y3 : w.cell? ⟨bx, 3, none⟩ = some (.slice (some ⟨g, 0, none⟩) fn fc) := h.four.c3
  have y1 : w.cell? ⟨bx, 1, none⟩ = some (.slice ba bn bc) := h.four.c1
  have hfz3 := h.four.f3
  have Hrow := Lib.hid hrow
  have Hxt := Lib.hid hxt
  have htn : 0 < tn := by rw [← hxt]; exact List.length_pos_iff.2 hx
  have htn2 : tn ≤ 10000 := by omega
  have hbn2 : bn ≤ 10000 := by omega
  have hfn0 : 0 < fn := by omega
  have hfc0 : fn ≤ fc := by omega
  have Hfn := Lib.hid hfn
  have Hbn := Lib.hid hbn
  clear hfn hcap hxt hbn hx hxl hb0 hrow
  have hk1 := Kp.new w (.cells #[iv 0, .slice ta tn tc] 45)
  obtain ⟨q0, q1, _, _⟩ := Two2.new w (iv 0) (.slice ta tn tc) 45
  obtain ⟨bl, hbl⟩ : ∃ bl, bl = w.heap.size := ⟨_, rfl⟩
  rw [← hbl] at q0 q1
  have Hbl := Lib.hid hbl
  clear h
  go_enter Tryz.func35, Tryz.ntmps35
  go_upto_region 4 with fail
  rw [← hbl]
  clear hbl
  generalize w.alloc (.cells #[iv 0, .slice ta tn tc] 45) = w1 at *
  have e3 := hk1.cell y3
  have e1 := hk1.cell y1
  clear d0 d1 y3 y1
  go_wp2_with fail
  (with_reducible refine (known_any w1 ta tn tc xs (hk1.is Hrow.out.is)).mono ?_)
  rintro e w2 ⟨rfl, hk2⟩
  have hk02 := Kp.trans hk1 hk2
  cases hok : okB xs with
  | false =>
    have HP := Lib.hid (show BackPost w B bx nm ⟨ba, bn, bc⟩ t1 ⟨some ⟨g, 0, none⟩, fn, fc⟩ ⟨ta, tn, tc⟩ ts (0, xs) r b0 b1 (.returned (.bool false)) w2 from by
      unfold BackPost; simp only [hok, Bool.false_and, Bool.false_eq_true, if_false]; exact ⟨by first | rfl | trivial, hk02⟩)
    clear hok
    go_wp2_with fail
    go_ret
    exact HP.out
  | true =>
    have Hok := Lib.hid hok
    clear hok
    replace q0 := hk2.cell q0
    replace q1 := hk2.cell q1
    replace e3 := hk2.cell e3
    replace e1 := hk2.cell e1
    have Hk02 := Lib.hid hk02
    clear hk1 hk2 hk02
    go_wp2_with fail
    go_loopw [25] (fun i wr => ∃ k : Nat, k ≤ tn ∧ i = .int .i64 (k : Nat) ∧ Kp w2 wr ∧ noneIn b0 (xs.take k) = true) (fun i _ => tn - (intOf i).toNat)
    case atStart => exact ⟨0, by omega, rfl, Kp.refl _, rfl⟩
    case round =>
      obtain ⟨k, hk, rfl, hkr, hno⟩ := hrel
      rename World => wr
      replace q0 := hkr.cell q0
      replace q1 := hkr.cell q1
      replace e3 := hkr.cell e3
      replace e1 := hkr.cell e1
      have hkw := Kp.trans Hk02.out hkr
      have Hno := Lib.hid hno
      clear hno
      by_cases hkn : k < tn
      · have hkl : k < xs.length := by rw [Hxt.out]; exact hkn
        obtain ⟨bt, ot, hta, _, hct⟩ := Hrow.out.is.at k hkn
        subst hta
        have ck := hkw.cell (hct k hkn)
        have HC := Lib.hid (fun m => (contains_any (wr.drewN m) ba bn bc b0 (xs[k]'hkl) ((Kp.trans hkw (Kp.of_drewN wr m)).is H.out.own0.is)).mono (R' := fun e w' => e = .returned (.bool (inL b0 (xs[k]'hkl))) ∧ w' = wr.drewN m) (fun _ _ q => q))
        cases hin : inL b0 (xs[k]'hkl) with
        | true =>
          have Hf := Lib.hid (noneIn_no hkl hin)
          rw [hin] at HC
          have Hkw := Lib.hid hkw
          clear hct hin hkr hkw
          generalize xs[k]'hkl = x at *
          go_wp2_with fail
          go_quiet ((go_at_call 61; exact Calls.quiet_of_same (HC.out _)))
          go_wp2_with fail
          go_ret
          show BackPost w B bx nm ⟨ba, bn, bc⟩ t1 ⟨some ⟨g, 0, none⟩, fn, fc⟩ ⟨some ⟨bt, ot, none⟩, tn, tc⟩ ts (0, xs) r b0 b1 (.returned (.bool false)) _
          unfold BackPost
          simp only [Hf.out, Bool.and_false, Bool.false_eq_true, if_false, if_true]
          exact ⟨trivial, Kp.trans Hkw.out (Kp.of_drewN _ _)⟩
        | false =>
          have Hn := Lib.hid (noneIn_step hkl Hno.out hin)
          rw [hin] at HC
          have Hkr := Lib.hid hkr
          clear hct hin hkr hkw Hno
          generalize xs[k]'hkl = x at *
          go_wp2_with fail
          go_quiet ((go_at_call 61; exact Calls.quiet_of_same (HC.out _)))
          go_wp2_with fail
          go_roundw
          case rel => exact ⟨k + 1, by omega, by go_num, Kp.trans Hkr.out (Kp.of_drewN _ _), Hn.out⟩
          case measure => simp [intOf]; omega
      · obtain rfl : k = tn := by omega
        rw [List.take_of_length_le (by rw [Hxt.out]; exact Nat.le_refl _)] at Hno
        have HM := Lib.hid (H.out.kp hkw)
        have HKw := Lib.hid hkw
        have hblw : bl < wr.heap.size := World.block_lt_of_cell? wr _ q0
        go_upto_region 12 with fail
        refine anyP_start (ClB bl bx 1 0 (.slice ta k tc) (.slice ba bn bc)) 16 (fun _ => True) (fun _ _ => False) (by kernel_rfl) (fun _ _ _ _ h => h.elim) ?_
        obtain ⟨wq, hwq⟩ : ∃ wq, wq = wr.drew := ⟨_, rfl⟩
        have hkq : Kp wr wq := hwq ▸ (⟨rfl, rfl, rfl, Nat.le_refl _, fun _ _ => rfl⟩ : Kp wr wr.drew)
        rw [← hwq]
        have hq : ClB bl bx 1 0 (.slice ta k tc) (.slice ba bn bc) wq := ⟨hkq.cell q0, hkq.cell q1, hkq.cell e1⟩
        have HMq := Lib.hid (HM.out.kp hkq)
        have HKq := Lib.hid (Kp.trans HKw.out hkq)
        have hcs := HKq.out.cs Hrow.out.cs
        have hBq : B ≤ wq.heap.size := by have := HMq.out.own.lt g rfl; omega
        have hblq : bl < wq.heap.size := Nat.lt_of_lt_of_le hblw hkq.size
        have hnbl : bl ∉ blkL ba := fun q => by have := (H.out.own0.lt bl (mem_blkL.1 q)).2; have := Hbl.out; omega
        have hnbx := HMq.out.bx0
        simp only at hnbx
        have hown := HMq.out.own0
        simp only at hown
        clear hwq q0 q1 e1 e3 hkw hkr hkq
        refine anyT_take puts_true [0, 1, 3, 4, 6, 7, 10, 13, 14] (by kernel_rfl) hq ?_
        simp only [opsAt, List.getElem?_toArray, List.getElem?_cons_zero, List.getElem?_cons_succ]
        repeat (go_big_quiet_step (fail))
        refine wpQuiet_nil ?_
        refine anyT_load puts_true 2 41 (iv 0) rfl rfl (by kernel_rfl) hq (fun w h => exec_load3 (h.c0) (by first | rfl | simp [Act.eval]) rfl) ?_
        simp only [Act.put, List.setIfInBounds_toArray, List.set_cons_zero, List.set_cons_succ]
        refine anyT_load puts_true 5 44 (iv 0) rfl rfl (by kernel_rfl) hq (fun w h => exec_load3 (h.c0) (by first | rfl | simp [Act.eval]) rfl) ?_
        simp only [Act.put, List.setIfInBounds_toArray, List.set_cons_zero, List.set_cons_succ]
        refine anyT_load puts_true 11 50 (.slice ta k tc) rfl rfl (by kernel_rfl) hq (fun w h => exec_load22 (h.c1) (by first | rfl | simp [Act.eval]) rfl) ?_
        simp only [Act.put, List.setIfInBounds_toArray, List.set_cons_zero, List.set_cons_succ]
        refine anyT_take puts_true [8] (by kernel_rfl) hq ?_
        simp only [opsAt, List.getElem?_toArray, List.getElem?_cons_zero, List.getElem?_cons_succ]
        repeat (go_big_quiet_step (fail))
        refine wpQuiet_nil ?_
        refine anyT_load puts_true 9 48 (.slice ba bn bc) rfl rfl (by kernel_rfl) hq (fun w h => exec_load22 (h.p) (by first | rfl | simp [Act.eval]) rfl) ?_
        simp only [Act.put, List.setIfInBounds_toArray, List.set_cons_zero, List.set_cons_succ]
        refine anyP_one 12 (by kernel_rfl) ?_
        simp only [opsAt, List.getElem?_toArray, List.getElem?_cons_zero, List.getElem?_cons_succ]
        go_wp2_with (at_builtin; go_loud (refine wpList_app rfl (.tmp 48) (.tmp 50) 22 rfl el22 B rfl hown rfl (xs.map iv) (by simp [Hxt.out]) hcs (by simp [Value.oneCell']) (bn + k) rfl ((b0 ++ xs).map iv) (by simp) (by omega) hBq ?_); intro ao2 cap2 w6 ha)
        have hq6 := hq.fr ha.fr hnbl hnbx
        have hM6 := HMq.out.put0 (t := ⟨ao2, bn + k, cap2⟩) (b := b0 ++ xs) ha.fr ha.own (fun x hx => by
          rcases ha.fresh x (mem_blkL.1 hx) with q | q
          · exact .inl (mem_blkL.2 q)
          · exact .inr (by omega))
        have f6 := ha.fr.free hq.p HMq.out.four.f1 hnbx
        have hK6 : Kept bx B w w6 := (Kept.kp HKq.out).step ha.fr (fun x hx => .inr (hown.lt x (mem_blkL.1 hx)).1)
        have HK6 := Lib.hid hK6
        have HM6 := Lib.hid hM6
        have hbl6 : bl ∉ blkL ao2 := fun q => by
          rcases ha.fresh bl (mem_blkL.1 q) with q2 | q2
          · exact hnbl (mem_blkL.2 q2)
          · omega
        have hs6 := ha.fr.size
        clear ha hq hM6 hK6 hcs hown HMq
        refine ⟨fun _ => hq6, ?_⟩
        refine anyT_take puts_true [15] (by kernel_rfl) hq6 ?_
        simp only [opsAt, List.getElem?_toArray, List.getElem?_cons_zero, List.getElem?_cons_succ]
        repeat (go_big_quiet_step (fail))
        refine wpQuiet_nil ?_
        obtain ⟨s0, s1, sp⟩ := hq6
        refine anyP_one 16 (by kernel_rfl) ?_
        simp only [opsAt, List.getElem?_toArray, List.getElem?_cons_zero, List.getElem?_cons_succ]
        go_wp2_with fail
        refine ⟨fun h => absurd rfl h, ?_⟩
        refine anyP_end (by kernel_rfl) ?_
        go_upto_region 13 with fail
        have hset := Fr.set w6 ⟨bx, 1, none⟩ (.slice ao2 (bn + k) cap2)
        have HM7 := Lib.hid (show MdS (w6.setCell ⟨bx, 1, none⟩ (.slice ao2 (bn + k) cap2)) B bx nm ⟨ao2, bn + k, cap2⟩ t1 ⟨some ⟨g, 0, none⟩, fn, fc⟩ [] (⟨ta, k, tc⟩ :: ts) [] ((0, xs) :: r) (b0 ++ xs) b1 from HM6.out)
        have HK7 := Lib.hid (HK6.out.step hset (fun x hx => .inl (by simpa using hx)))
        have hblx : bl ≠ bx := by have := H.out.hb; have := H.out.own.lt g rfl; have := Hbl.out; omega
        have s0' := hset.cell s0 (by simpa using hblx)
        have s1' := hset.cell s1 (by simpa using hblx)
        clear s0 s1 sp hset HM6 HK6
        generalize w6.setCell ⟨bx, 1, none⟩ (.slice ao2 (bn + k) cap2) = w7 at *
        have sp : w7.cell? ⟨bx, 1, none⟩ = some (.slice ao2 (bn + k) cap2) := HM7.out.four.c1
        refine anyP_start (ClB bl bx 1 0 (.slice ta k tc) (.slice ao2 (bn + k) cap2)) 7 (fun _ => True) (fun _ _ => False) (by kernel_rfl) (fun _ _ _ _ h => h.elim) ?_
        obtain ⟨wp, hwp⟩ : ∃ wp, wp = w7.drew := ⟨_, rfl⟩
        have hkp : Kp w7 wp := hwp ▸ (⟨rfl, rfl, rfl, Nat.le_refl _, fun _ _ => rfl⟩ : Kp w7 w7.drew)
        rw [← hwp]
        have hq : ClB bl bx 1 0 (.slice ta k tc) (.slice ao2 (bn + k) cap2) wp := ⟨hkp.cell s0', hkp.cell s1', hkp.cell sp⟩
        have HM8 := Lib.hid (HM7.out.kp hkp)
        have HK8 := Lib.hid (HK7.out.step (Fr.of_kp hkp) (by simp))
        have HS := Lib.hid (sort_any wp B ao2 (bn + k) cap2 (b0 ++ xs) HM8.out.own0 (by omega) (by omega))
        clear hwp s0' s1' sp hkp HM7 HK7
        refine anyT_take puts_true [0, 1, 3, 4] (by kernel_rfl) hq ?_
        simp only [opsAt, List.getElem?_toArray, List.getElem?_cons_zero, List.getElem?_cons_succ]
        repeat (go_big_quiet_step (fail))
        refine wpQuiet_nil ?_
        refine anyT_load puts_true 2 57 (iv 0) rfl rfl (by kernel_rfl) hq (fun w h => exec_load3 (h.c0) (by first | rfl | simp [Act.eval]) rfl) ?_
        simp only [Act.put, List.setIfInBounds_toArray, List.set_cons_zero, List.set_cons_succ]
        refine anyT_take puts_true [5] (by kernel_rfl) hq ?_
        simp only [opsAt, List.getElem?_toArray, List.getElem?_cons_zero, List.getElem?_cons_succ]
        repeat (go_big_quiet_step (fail))
        refine wpQuiet_nil ?_
        refine anyT_load puts_true 6 61 (.slice ao2 (bn + k) cap2) rfl rfl (by kernel_rfl) hq (fun w h => exec_load22 (h.p) (by first | rfl | simp [Act.eval]) rfl) ?_
        simp only [Act.put, List.setIfInBounds_toArray, List.set_cons_zero, List.set_cons_succ]
        refine anyP_one 7 (by kernel_rfl) ?_
        simp only [opsAt, List.getElem?_toArray, List.getElem?_cons_zero, List.getElem?_cons_succ]
        go_wp2_with (go_at_call 62; go_loud (refine HS.out.mono ?_); rintro e w9 ⟨rfl, hO9, hF9⟩)
        refine ⟨fun h => absurd rfl h, ?_⟩
        refine anyP_end (by kernel_rfl) ?_
        have hM9 := HM8.out.sort0 hF9 hO9
        have hK9 : Kept bx B w w9 := HK8.out.step hF9 (fun x hx => .inr (HM8.out.own0.lt x (mem_blkL.1 hx)).1)
        have HK9 := Lib.hid hK9
        have HM9 := Lib.hid hM9
        have y3 : w9.cell? ⟨bx, 3, none⟩ = some (.slice (some ⟨g, 0, none⟩) fn fc) := hM9.four.c3
        have z3 := hM9.four.f3
        have hfn1 : 1 ≤ fn := hfn0
        have HP := Lib.hid (show ∀ w' : World, w' = w9.setCell ⟨bx, 3, none⟩ (tvv (subT ⟨some ⟨g, 0, none⟩, fn, fc⟩ 1)) → BackPost w B bx nm ⟨ba, bn, bc⟩ t1 ⟨some ⟨g, 0, none⟩, fn, fc⟩ ⟨ta, k, tc⟩ ts (0, xs) r b0 b1 (.returned (.bool true)) w' from fun w' e => by
          unfold BackPost
          simp only [Hok.out, Hno.out, Bool.and_self, if_true]
          subst e
          exact ⟨_, _, by first | rfl | trivial, HM9.out.drop, HK9.out.step (Fr.set w9 ⟨bx, 3, none⟩ _) (fun x hx => .inl (by simpa using hx))⟩)
        clear hM9 hK9 hO9 hF9 HM8 HK8
        by_cases hc1 : fc = 1
        · have hf1 : fn = 1 := by omega
          subst hc1; subst hf1
          go_wp2_with fail
          go_ret
          exact HP.out _ rfl
        · have hfc1 : fc ≠ 1 := hc1
          go_wp2_with fail
          go_ret
          refine HP.out _ ?_
          unfold subT
          simp [hc1, tvv, Addr.add_lit]
set_option maxRecDepth 100000 in
set_option maxHeartbeats 8000000 in
theorem back_1 (w : World) (B bx : Nat) (nm : ByteArray) (t0 t1 tf tq : Tv) (ts : List Tv) (xs : List Int) (r : List Ln) (b0 b1 : List Int) (h : MdS w B bx nm t0 t1 tf [] (tq :: ts) [] ((1, xs) :: r) b0 b1) (hx : xs ≠ []) (hxl : xs.length ≤ 10000) (hb0 : b1.length ≤ 10000) :
    Calls Tryz.prog 35 #[.pointer (some ⟨bx, 0, none⟩)] w (BackPost w B bx nm t0 t1 tf tq ts (1, xs) r b0 b1) := by
  obtain ⟨ta, tn, tc⟩ := tq
  obtain ⟨ba, bn, bc⟩ := t1
  obtain ⟨fa, fn, fc⟩ := tf
  obtain ⟨g, hg, _, hcap, hbg, hgw⟩ := h.at (by simp)
  simp only at hg
  subst hg
  have hfn := h.nf
  simp only [List.length_nil, List.length_cons, Nat.zero_add] at hfn
  simp only [List.length_cons, List.length_nil, Nat.sub_zero] at hcap
  have H := Lib.hid h
  obtain ⟨d0, d1, _⟩ := h.cells rfl 0 (by simp)
  unfold tvv at d1
  simp only [List.length_nil, Nat.zero_mul, Nat.zero_add, List.getElem_cons_zero] at d0 d1
  have hrow : Own w B 3 1 ta tn tc (xs.map iv) := h.row 0 (by simp)
  have hxt : xs.length = tn := by have := hrow.1; simpa using this
  have hbn : b1.length = bn := by have := h.own1.1; simpa using this
  have y3 : w.cell? ⟨bx, 3, none⟩ = some (.slice (some ⟨g, 0, none⟩) fn fc) := h.four.c3
  have y2 : w.cell? ⟨bx, 2, none⟩ = some (.slice ba bn bc) := h.four.c2
  have hfz3 := h.four.f3
  have Hrow := Lib.hid hrow
  have Hxt := Lib.hid hxt
  have htn : 0 < tn := by rw [← hxt]; exact List.length_pos_iff.2 hx
  have htn2 : tn ≤ 10000 := by omega
  have hbn2 : bn ≤ 10000 := by omega
  have hfn0 : 0 < fn := by omega
  have hfc0 : fn ≤ fc := by omega
  have Hfn := Lib.hid hfn
  have Hbn := Lib.hid hbn
  clear hfn hcap hxt hbn hx hxl hb0 hrow
  have hk1 := Kp.new w (.cells #[iv 1, .slice ta tn tc] 45)
  obtain ⟨q0, q1, _, _⟩ := Two2.new w (iv 1) (.slice ta tn tc) 45
  obtain ⟨bl, hbl⟩ : ∃ bl, bl = w.heap.size := ⟨_, rfl⟩
  rw [← hbl] at q0 q1
  have Hbl := Lib.hid hbl
  clear h
  go_enter Tryz.func35, Tryz.ntmps35
  go_upto_region 4 with fail
  rw [← hbl]
  clear hbl
  generalize w.alloc (.cells #[iv 1, .slice ta tn tc] 45) = w1 at *
  have e3 := hk1.cell y3
  have e1 := hk1.cell y2
  clear d0 d1 y3 y2
  go_wp2_with fail
  (with_reducible refine (known_any w1 ta tn tc xs (hk1.is Hrow.out.is)).mono ?_)
  rintro e w2 ⟨rfl, hk2⟩
  have hk02 := Kp.trans hk1 hk2
  cases hok : okB xs with
  | false =>
    have HP := Lib.hid (show BackPost w B bx nm t0 ⟨ba, bn, bc⟩ ⟨some ⟨g, 0, none⟩, fn, fc⟩ ⟨ta, tn, tc⟩ ts (1, xs) r b0 b1 (.returned (.bool false)) w2 from by
      unfold BackPost; simp only [hok, Bool.false_and, Bool.false_eq_true, if_false]; exact ⟨by first | rfl | trivial, hk02⟩)
    clear hok
    go_wp2_with fail
    go_ret
    exact HP.out
  | true =>
    have Hok := Lib.hid hok
    clear hok
    replace q0 := hk2.cell q0
    replace q1 := hk2.cell q1
    replace e3 := hk2.cell e3
    replace e1 := hk2.cell e1
    have Hk02 := Lib.hid hk02
    clear hk1 hk2 hk02
    go_wp2_with fail
    go_loopw [25] (fun i wr => ∃ k : Nat, k ≤ tn ∧ i = .int .i64 (k : Nat) ∧ Kp w2 wr ∧ noneIn b1 (xs.take k) = true) (fun i _ => tn - (intOf i).toNat)
    case atStart => exact ⟨0, by omega, rfl, Kp.refl _, rfl⟩
    case round =>
      obtain ⟨k, hk, rfl, hkr, hno⟩ := hrel
      rename World => wr
      replace q0 := hkr.cell q0
      replace q1 := hkr.cell q1
      replace e3 := hkr.cell e3
      replace e1 := hkr.cell e1
      have hkw := Kp.trans Hk02.out hkr
      have Hno := Lib.hid hno
      clear hno
      by_cases hkn : k < tn
      · have hkl : k < xs.length := by rw [Hxt.out]; exact hkn
        obtain ⟨bt, ot, hta, _, hct⟩ := Hrow.out.is.at k hkn
        subst hta
        have ck := hkw.cell (hct k hkn)
        have HC := Lib.hid (fun m => (contains_any (wr.drewN m) ba bn bc b1 (xs[k]'hkl) ((Kp.trans hkw (Kp.of_drewN wr m)).is H.out.own1.is)).mono (R' := fun e w' => e = .returned (.bool (inL b1 (xs[k]'hkl))) ∧ w' = wr.drewN m) (fun _ _ q => q))
        cases hin : inL b1 (xs[k]'hkl) with
        | true =>
          have Hf := Lib.hid (noneIn_no hkl hin)
          rw [hin] at HC
          have Hkw := Lib.hid hkw
          clear hct hin hkr hkw
          generalize xs[k]'hkl = x at *
          go_wp2_with fail
          go_quiet ((go_at_call 61; exact Calls.quiet_of_same (HC.out _)))
          go_wp2_with fail
          go_ret
          show BackPost w B bx nm t0 ⟨ba, bn, bc⟩ ⟨some ⟨g, 0, none⟩, fn, fc⟩ ⟨some ⟨bt, ot, none⟩, tn, tc⟩ ts (1, xs) r b0 b1 (.returned (.bool false)) _
          unfold BackPost
          simp only [Hf.out, Bool.and_false, Bool.false_eq_true, if_false, Int.reduceEq]
          exact ⟨trivial, Kp.trans Hkw.out (Kp.of_drewN _ _)⟩
        | false =>
          have Hn := Lib.hid (noneIn_step hkl Hno.out hin)
          rw [hin] at HC
          have Hkr := Lib.hid hkr
          clear hct hin hkr hkw Hno
          generalize xs[k]'hkl = x at *
          go_wp2_with fail
          go_quiet ((go_at_call 61; exact Calls.quiet_of_same (HC.out _)))
          go_wp2_with fail
          go_roundw
          case rel => exact ⟨k + 1, by omega, by go_num, Kp.trans Hkr.out (Kp.of_drewN _ _), Hn.out⟩
          case measure => simp [intOf]; omega
      · obtain rfl : k = tn := by omega
        rw [List.take_of_length_le (by rw [Hxt.out]; exact Nat.le_refl _)] at Hno
        have HM := Lib.hid (H.out.kp hkw)
        have HKw := Lib.hid hkw
        have hblw : bl < wr.heap.size := World.block_lt_of_cell? wr _ q0
        go_upto_region 12 with fail
        refine anyP_start (ClB bl bx 2 1 (.slice ta k tc) (.slice ba bn bc)) 16 (fun _ => True) (fun _ _ => False) (by kernel_rfl) (fun _ _ _ _ h => h.elim) ?_
        obtain ⟨wq, hwq⟩ : ∃ wq, wq = wr.drew := ⟨_, rfl⟩
        have hkq : Kp wr wq := hwq ▸ (⟨rfl, rfl, rfl, Nat.le_refl _, fun _ _ => rfl⟩ : Kp wr wr.drew)
        rw [← hwq]
        have hq : ClB bl bx 2 1 (.slice ta k tc) (.slice ba bn bc) wq := ⟨hkq.cell q0, hkq.cell q1, hkq.cell e1⟩
        have HMq := Lib.hid (HM.out.kp hkq)
        have HKq := Lib.hid (Kp.trans HKw.out hkq)
        have hcs := HKq.out.cs Hrow.out.cs
        have hBq : B ≤ wq.heap.size := by have := HMq.out.own.lt g rfl; omega
        have hblq : bl < wq.heap.size := Nat.lt_of_lt_of_le hblw hkq.size
        have hnbl : bl ∉ blkL ba := fun q => by have := (H.out.own1.lt bl (mem_blkL.1 q)).2; have := Hbl.out; omega
        have hnbx := HMq.out.bx1
        simp only at hnbx
        have hown := HMq.out.own1
        simp only at hown
        clear hwq q0 q1 e1 e3 hkw hkr hkq
        refine anyT_take puts_true [0, 1, 3, 4, 6, 7, 10, 13, 14] (by kernel_rfl) hq ?_
        simp only [opsAt, List.getElem?_toArray, List.getElem?_cons_zero, List.getElem?_cons_succ]
        repeat (go_big_quiet_step (fail))
        refine wpQuiet_nil ?_
        refine anyT_load puts_true 2 41 (iv 1) rfl rfl (by kernel_rfl) hq (fun w h => exec_load3 (h.c0) (by first | rfl | simp [Act.eval]) rfl) ?_
        simp only [Act.put, List.setIfInBounds_toArray, List.set_cons_zero, List.set_cons_succ]
        refine anyT_load puts_true 5 44 (iv 1) rfl rfl (by kernel_rfl) hq (fun w h => exec_load3 (h.c0) (by first | rfl | simp [Act.eval]) rfl) ?_
        simp only [Act.put, List.setIfInBounds_toArray, List.set_cons_zero, List.set_cons_succ]
        refine anyT_load puts_true 11 50 (.slice ta k tc) rfl rfl (by kernel_rfl) hq (fun w h => exec_load22 (h.c1) (by first | rfl | simp [Act.eval]) rfl) ?_
        simp only [Act.put, List.setIfInBounds_toArray, List.set_cons_zero, List.set_cons_succ]
        refine anyT_take puts_true [8] (by kernel_rfl) hq ?_
        simp only [opsAt, List.getElem?_toArray, List.getElem?_cons_zero, List.getElem?_cons_succ]
        repeat (go_big_quiet_step (fail))
        refine wpQuiet_nil ?_
        refine anyT_load puts_true 9 48 (.slice ba bn bc) rfl rfl (by kernel_rfl) hq (fun w h => exec_load22 (h.p) (by first | rfl | simp [Act.eval]) rfl) ?_
        simp only [Act.put, List.setIfInBounds_toArray, List.set_cons_zero, List.set_cons_succ]
        refine anyP_one 12 (by kernel_rfl) ?_
        simp only [opsAt, List.getElem?_toArray, List.getElem?_cons_zero, List.getElem?_cons_succ]
        go_wp2_with (at_builtin; go_loud (refine wpList_app rfl (.tmp 48) (.tmp 50) 22 rfl el22 B rfl hown rfl (xs.map iv) (by simp [Hxt.out]) hcs (by simp [Value.oneCell']) (bn + k) rfl ((b1 ++ xs).map iv) (by simp) (by omega) hBq ?_); intro ao2 cap2 w6 ha)
        have hq6 := hq.fr ha.fr hnbl hnbx
        have hM6 := HMq.out.put1 (t := ⟨ao2, bn + k, cap2⟩) (b := b1 ++ xs) ha.fr ha.own (fun x hx => by
          rcases ha.fresh x (mem_blkL.1 hx) with q | q
          · exact .inl (mem_blkL.2 q)
          · exact .inr (by omega))
        have f6 := ha.fr.free hq.p HMq.out.four.f2 hnbx
        have hK6 : Kept bx B w w6 := (Kept.kp HKq.out).step ha.fr (fun x hx => .inr (hown.lt x (mem_blkL.1 hx)).1)
        have HK6 := Lib.hid hK6
        have HM6 := Lib.hid hM6
        have hbl6 : bl ∉ blkL ao2 := fun q => by
          rcases ha.fresh bl (mem_blkL.1 q) with q2 | q2
          · exact hnbl (mem_blkL.2 q2)
          · omega
        have hs6 := ha.fr.size
        clear ha hq hM6 hK6 hcs hown HMq
        refine ⟨fun _ => hq6, ?_⟩
        refine anyT_take puts_true [15] (by kernel_rfl) hq6 ?_
        simp only [opsAt, List.getElem?_toArray, List.getElem?_cons_zero, List.getElem?_cons_succ]
        repeat (go_big_quiet_step (fail))
        refine wpQuiet_nil ?_
        obtain ⟨s0, s1, sp⟩ := hq6
        refine anyP_one 16 (by kernel_rfl) ?_
        simp only [opsAt, List.getElem?_toArray, List.getElem?_cons_zero, List.getElem?_cons_succ]
        go_wp2_with fail
        refine ⟨fun h => absurd rfl h, ?_⟩
        refine anyP_end (by kernel_rfl) ?_
        go_upto_region 13 with fail
        have hset := Fr.set w6 ⟨bx, 2, none⟩ (.slice ao2 (bn + k) cap2)
        have HM7 := Lib.hid (show MdS (w6.setCell ⟨bx, 2, none⟩ (.slice ao2 (bn + k) cap2)) B bx nm t0 ⟨ao2, bn + k, cap2⟩ ⟨some ⟨g, 0, none⟩, fn, fc⟩ [] (⟨ta, k, tc⟩ :: ts) [] ((1, xs) :: r) b0 (b1 ++ xs) from HM6.out)
        have HK7 := Lib.hid (HK6.out.step hset (fun x hx => .inl (by simpa using hx)))
        have hblx : bl ≠ bx := by have := H.out.hb; have := H.out.own.lt g rfl; have := Hbl.out; omega
        have s0' := hset.cell s0 (by simpa using hblx)
        have s1' := hset.cell s1 (by simpa using hblx)
        clear s0 s1 sp hset HM6 HK6
        generalize w6.setCell ⟨bx, 2, none⟩ (.slice ao2 (bn + k) cap2) = w7 at *
        have sp : w7.cell? ⟨bx, 2, none⟩ = some (.slice ao2 (bn + k) cap2) := HM7.out.four.c2
        refine anyP_start (ClB bl bx 2 1 (.slice ta k tc) (.slice ao2 (bn + k) cap2)) 7 (fun _ => True) (fun _ _ => False) (by kernel_rfl) (fun _ _ _ _ h => h.elim) ?_
        obtain ⟨wp, hwp⟩ : ∃ wp, wp = w7.drew := ⟨_, rfl⟩
        have hkp : Kp w7 wp := hwp ▸ (⟨rfl, rfl, rfl, Nat.le_refl _, fun _ _ => rfl⟩ : Kp w7 w7.drew)
        rw [← hwp]
        have hq : ClB bl bx 2 1 (.slice ta k tc) (.slice ao2 (bn + k) cap2) wp := ⟨hkp.cell s0', hkp.cell s1', hkp.cell sp⟩
        have HM8 := Lib.hid (HM7.out.kp hkp)
        have HK8 := Lib.hid (HK7.out.step (Fr.of_kp hkp) (by simp))
        have HS := Lib.hid (sort_any wp B ao2 (bn + k) cap2 (b1 ++ xs) HM8.out.own1 (by omega) (by omega))
        clear hwp s0' s1' sp hkp HM7 HK7
        refine anyT_take puts_true [0, 1, 3, 4] (by kernel_rfl) hq ?_
        simp only [opsAt, List.getElem?_toArray, List.getElem?_cons_zero, List.getElem?_cons_succ]
        repeat (go_big_quiet_step (fail))
        refine wpQuiet_nil ?_
        refine anyT_load puts_true 2 57 (iv 1) rfl rfl (by kernel_rfl) hq (fun w h => exec_load3 (h.c0) (by first | rfl | simp [Act.eval]) rfl) ?_
        simp only [Act.put, List.setIfInBounds_toArray, List.set_cons_zero, List.set_cons_succ]
        refine anyT_take puts_true [5] (by kernel_rfl) hq ?_
        simp only [opsAt, List.getElem?_toArray, List.getElem?_cons_zero, List.getElem?_cons_succ]
        repeat (go_big_quiet_step (fail))
        refine wpQuiet_nil ?_
        refine anyT_load puts_true 6 61 (.slice ao2 (bn + k) cap2) rfl rfl (by kernel_rfl) hq (fun w h => exec_load22 (h.p) (by first | rfl | simp [Act.eval]) rfl) ?_
        simp only [Act.put, List.setIfInBounds_toArray, List.set_cons_zero, List.set_cons_succ]
        refine anyP_one 7 (by kernel_rfl) ?_
        simp only [opsAt, List.getElem?_toArray, List.getElem?_cons_zero, List.getElem?_cons_succ]
        go_wp2_with (go_at_call 62; go_loud (refine HS.out.mono ?_); rintro e w9 ⟨rfl, hO9, hF9⟩)
        refine ⟨fun h => absurd rfl h, ?_⟩
        refine anyP_end (by kernel_rfl) ?_
        have hM9 := HM8.out.sort1 hF9 hO9
        have hK9 : Kept bx B w w9 := HK8.out.step hF9 (fun x hx => .inr (HM8.out.own1.lt x (mem_blkL.1 hx)).1)
        have HK9 := Lib.hid hK9
        have HM9 := Lib.hid hM9
        have y3 : w9.cell? ⟨bx, 3, none⟩ = some (.slice (some ⟨g, 0, none⟩) fn fc) := hM9.four.c3
        have z3 := hM9.four.f3
        have hfn1 : 1 ≤ fn := hfn0
        have HP := Lib.hid (show ∀ w' : World, w' = w9.setCell ⟨bx, 3, none⟩ (tvv (subT ⟨some ⟨g, 0, none⟩, fn, fc⟩ 1)) → BackPost w B bx nm t0 ⟨ba, bn, bc⟩ ⟨some ⟨g, 0, none⟩, fn, fc⟩ ⟨ta, k, tc⟩ ts (1, xs) r b0 b1 (.returned (.bool true)) w' from fun w' e => by
          unfold BackPost
          simp only [Hok.out, Hno.out, Bool.and_self, if_true, Int.reduceEq, if_false]
          subst e
          exact ⟨_, _, by first | rfl | trivial, HM9.out.drop, HK9.out.step (Fr.set w9 ⟨bx, 3, none⟩ _) (fun x hx => .inl (by simpa using hx))⟩)
        clear hM9 hK9 hO9 hF9 HM8 HK8
        by_cases hc1 : fc = 1
        · have hf1 : fn = 1 := by omega
          subst hc1; subst hf1
          go_wp2_with fail
          go_ret
          exact HP.out _ rfl
        · have hfc1 : fc ≠ 1 := hc1
          go_wp2_with fail
          go_ret
          refine HP.out _ ?_
          unfold subT
          simp [hc1, tvv, Addr.add_lit]
end Go.Proofs.YtbdphdgomcabmaaGreatDoor

namespace Go.Proofs.YtbdphdgomcabmaaGreatDoor
open Go.RowKit

/-- A slice value's parts read a list of texts. -/
def Strs (w : World) (ao : Option Addr) (n : Nat) (ss : List ByteArray) : Prop := ss.length = n ∧ n ≤ maxLen ∧ Cs w ao (ss.map .string)
theorem Kp.strs {w w' : World} (h : Kp w w') {ao : Option Addr} {n : Nat} {ss : List ByteArray} (hx : Strs w ao n ss) : Strs w' ao n ss := ⟨hx.1, hx.2.1, h.cs hx.2.2⟩
theorem Strs.at {w : World} {ao : Option Addr} {n : Nat} {ss : List ByteArray} (h : Strs w ao n ss) (k : Nat) (hk : k < n) :
    ∃ b off, ao = some ⟨b, off, none⟩ ∧ ∀ j, (hj : j < n) → w.cell? ⟨b, off + j, none⟩ = some (.string (ss[j]'(by rw [h.1]; exact hj))) := by
  obtain ⟨h1, _, h2⟩ := h
  obtain ⟨b, off, rfl, hc⟩ := h2.at k (by simp; omega)
  exact ⟨b, off, rfl, fun j hj => hc j _ (by simp [show j < ss.length by omega])⟩
/-- Words as bytes. -/
def wb (ws : List ByteArray) : List Q.Bt := ws.map (·.data.toList)
theorem bs_append (a b : Q.Bt) : bs (a ++ b) = bs a ++ bs b := by
  unfold bs
  apply ByteArray.ext
  simp
theorem bs_plus (a : Q.Bt) (x : ByteArray) : bs (a ++ Q.plusW 0 x.data.toList) = bs a ++ x := by
  unfold Q.plusW
  rw [if_neg (by omega), List.nil_append, bs_append, bs_data]
theorem bs_plus1 (a : Q.Bt) (x : ByteArray) {k : Nat} (h : 0 < k) : bs (a ++ Q.plusW k x.data.toList) = bs a ++ (⟨#[43]⟩ : ByteArray) ++ x := by
  unfold Q.plusW
  rw [if_pos h, ← List.append_assoc, bs_append, bs_append, bs_data]
  rfl
theorem goM_step {srt : List Int → List Int} {k least : Nat} {q : Q.Pn} {ws : List Q.Bt} (h : k < ws.length) : Q.goM srt k least q (ws.drop k) = match Q.wordP srt k least q ws[k] with
    | none => none
    | some (m, q') => Q.goM srt (k + 1) m { q' with nm := q'.nm ++ Q.plusW k ws[k] } (ws.drop (k + 1)) := by
  rw [List.drop_eq_getElem_cons h]
  rfl
/-- What a valid pattern's messages are. -/
theorem lines_of_ok : ∀ (ls : List Ln) (prev : Option Int) (n : Nat), linesOk prev n ls = true → ∀ l ∈ ls, (l.1 = 0 ∨ l.1 = 1) ∧ l.2 ≠ [] ∧ l.2.length ≤ 24 ∧ ∀ t ∈ l.2, 1 ≤ t ∧ t ≤ 7
  | [], _, _, _, l, hl => by simp at hl
  | a :: r, prev, n, h, l, hl => by
    simp only [linesOk, Bool.and_eq_true, decide_eq_true_eq] at h
    obtain ⟨⟨⟨h1, h2⟩, h3⟩, h4⟩ := h
    rcases List.mem_cons.1 hl with rfl | hl
    · simp only [headOk, Bool.and_eq_true, Bool.or_eq_true, beq_iff_eq, bne_iff_ne, ne_eq] at h1
      refine ⟨h1.1.1, fun e => h1.2 (by rw [e]; rfl), by omega, fun t ht => ?_⟩
      have := List.all_eq_true.1 h2 t ht
      simpa using this
    · exact lines_of_ok r _ _ h4 l hl
theorem code0 {b0 b1 : List Int} {ls : List Ln} (h : checkL b0 b1 ls = 0) : okB b0 = true ∧ okB b1 = true ∧ ls ≠ [] ∧ ls.length ≤ 24 ∧ ∀ l ∈ ls, (l.1 = 0 ∨ l.1 = 1) ∧ l.2 ≠ [] ∧ l.2.length ≤ 24 ∧ ∀ t ∈ l.2, 1 ≤ t ∧ t ≤ 7 := by
  obtain ⟨g1, g2, g3⟩ := Q.code_shape (p := ⟨[], b0, b1, ls⟩) h
  refine ⟨g1, g2, ?_, g3, ?_⟩
  · rintro rfl
    unfold checkL at h
    simp [shapedL] at h
  · unfold checkL at h
    split at h
    · rename_i hs
      simp only [shapedL, Bool.and_eq_true] at hs
      exact lines_of_ok _ _ _ hs.2
    · cases h
theorem okB_len {b : List Int} (h : okB b = true) : b.length ≤ 2 := by
  rcases b with _ | ⟨x, _ | ⟨y, _ | ⟨z, r⟩⟩⟩ <;> simp [okB] at h ⊢
section
variable {w : World} {B bx : Nat} {nm : ByteArray} {t0 t1 tf : Tv} {td ts : List Tv} {D ls : List Ln} {b0 b1 : List Int}
theorem MdS.name (h : MdS w B bx nm t0 t1 tf td ts D ls b0 b1) (nm' : ByteArray) : MdS (w.setCell ⟨bx, 0, none⟩ (.string nm')) B bx nm' t0 t1 tf td ts D ls b0 b1 :=
  ⟨h.four.set0 _, h.hd, h.h1, h.hl, h.sep.fr (Fr.set w ⟨bx, 0, none⟩ _) (by intro x hx; simp at hx; have := h.hb; omega), h.hb⟩
end
/-- What Modify has at hand when k words have gone by. -/
structure MdL (w0 w : World) (B bx : Nat) (k : Nat) (q : Q.Pn) : Prop where
  mem : ∃ t0 t1 tf td ts D, MdS w B bx (bs q.nm) t0 t1 tf td ts D q.ls q.b0 q.b1 ∧ (k = 0 → D = [])
  kp : Kp w0 w
  zero : Four w (bx + 1) (.string ⟨#[]⟩) (.slice none 0 0) (.slice none 0 0) (.slice none 0 0)
  ln : ∀ l ∈ q.ls, (l.1 = 0 ∨ l.1 = 1) ∧ l.2 ≠ [] ∧ l.2.length ≤ 24 + k
  ll : q.ls.length ≤ 24
  ne : k = 0 → q.ls ≠ []
  l0 : q.b0.length ≤ 2 + 2 * k
  l1 : q.b1.length ≤ 2 + 2 * k
theorem preL_some {q : Q.Pn} {n : Nat} : Q.preT q n = if q.ls = [] ∨ q.ls.length < n then none else some { q with ls := preL q.ls n } := rfl
theorem modify_mem {α : Type} {P : α → Prop} {l : List α} {f : α → α} {j : Nat} (h : ∀ x ∈ l, P x) (hf : ∀ x ∈ l, P (f x)) : ∀ x ∈ l.modify j f, P x := fun x hx => by
  obtain ⟨i, hi, rfl⟩ := List.getElem_of_mem hx
  have hi' : i < l.length := by simpa using hi
  rw [List.getElem_modify]
  split
  · exact hf _ (List.getElem_mem hi')
  · exact h _ (List.getElem_mem hi')
theorem preL_mem {ls : List Ln} {n k : Nat} (h : ∀ l ∈ ls, (l.1 = 0 ∨ l.1 = 1) ∧ l.2 ≠ [] ∧ l.2.length ≤ 24 + k) : ∀ l ∈ preL ls n, (l.1 = 0 ∨ l.1 = 1) ∧ l.2 ≠ [] ∧ l.2.length ≤ 24 + (k + 1) := by
  have h' : ∀ l ∈ ls, (l.1 = 0 ∨ l.1 = 1) ∧ l.2 ≠ [] ∧ l.2.length ≤ 24 + (k + 1) := fun l hl => ⟨(h l hl).1, (h l hl).2.1, by have := (h l hl).2.2; omega⟩
  unfold preL
  split
  · exact modify_mem h' (fun l hl => ⟨(h l hl).1, by simp, by have := (h l hl).2.2; simp; omega⟩)
  · exact modify_mem h' (fun l hl => ⟨(h l hl).1, by simp, by have := (h l hl).2.2; simp; omega⟩)
theorem preL_length (ls : List Ln) (n : Nat) : (preL ls n).length = ls.length := by unfold preL; split <;> simp
/-- What is answered: an error, or a pattern in rows of the call's own. -/
def ModPost (w : World) (E : Nat → Addr) (p : Q.Pn) (ws : List Q.Bt) (e : Ending) (w' : World) : Prop := Kp w w' ∧ match Q.modP srtI p ws with
  | (some q, _) => ∃ t0 t1 tf td ts D, e = .returned (.tuple #[.agg #[.string (bs q.nm), tvv t0, tvv t1, tvv (subT tf D.length)], .nilIface]) ∧ td.length = D.length ∧ D.length ≤ 1 ∧ ts.length = q.ls.length ∧ Sep w' w.heap.size (rowsP t0 t1 tf (td ++ ts) q.b0 q.b1 (D ++ q.ls))
  | (none, c) => e = .returned (.tuple #[zeroP, .iface 197 (.pointer (some (E c)))])
theorem ModPost.bad {w w' : World} {E : Nat → Addr} {p : Q.Pn} {ws : List Q.Bt} (h : checkL p.b0 p.b1 p.ls ≠ 0) (hk : Kp w w') : ModPost w E p ws (.returned (.tuple #[zeroP, .iface 197 (.pointer (some (E (checkL p.b0 p.b1 p.ls))))])) w' := by
  refine ⟨hk, ?_⟩
  unfold Q.modP
  rw [if_pos (show p.code ≠ 0 from h)]
  rfl
theorem ModPost.arg {w w' : World} {E : Nat → Addr} {p : Q.Pn} {ws : List Q.Bt} (h0 : checkL p.b0 p.b1 p.ls = 0) (h : Q.goM srtI 0 0 p ws = none) (hk : Kp w w') : ModPost w E p ws (.returned (.tuple #[zeroP, .iface 197 (.pointer (some (E 1)))])) w' := by
  refine ⟨hk, ?_⟩
  unfold Q.modP
  rw [if_neg (show ¬ p.code ≠ 0 from fun q => q h0), h]
theorem ModPost.off {w w' : World} {E : Nat → Addr} {p q : Q.Pn} {ws : List Q.Bt} (h0 : checkL p.b0 p.b1 p.ls = 0) (h : Q.goM srtI 0 0 p ws = some q) (hc : checkL q.b0 q.b1 q.ls ≠ 0) (hk : Kp w w') : ModPost w E p ws (.returned (.tuple #[zeroP, .iface 197 (.pointer (some (E (checkL q.b0 q.b1 q.ls))))])) w' := by
  refine ⟨hk, ?_⟩
  unfold Q.modP
  rw [if_neg (show ¬ p.code ≠ 0 from fun q => q h0), h]
  simp only
  rw [if_neg (show ¬ q.code = 0 from hc)]
  rfl
theorem ModPost.fine {w w' : World} {E : Nat → Addr} {p q : Q.Pn} {ws : List Q.Bt} {t0 t1 tf : Tv} {td ts : List Tv} {D : List Ln} (h0 : checkL p.b0 p.b1 p.ls = 0) (h : Q.goM srtI 0 0 p ws = some q) (hc : checkL q.b0 q.b1 q.ls = 0) (hk : Kp w w')
    (hd : td.length = D.length) (h1 : D.length ≤ 1) (hl : ts.length = q.ls.length) (hs : Sep w' w.heap.size (rowsP t0 t1 tf (td ++ ts) q.b0 q.b1 (D ++ q.ls))) :
    ModPost w E p ws (.returned (.tuple #[.agg #[.string (bs q.nm), tvv t0, tvv t1, tvv (subT tf D.length)], .nilIface])) w' := by
  refine ⟨hk, ?_⟩
  unfold Q.modP
  rw [if_neg (show ¬ p.code ≠ 0 from fun q => q h0), h]
  simp only
  rw [if_pos (show q.code = 0 from hc)]
  exact ⟨t0, t1, tf, td, ts, D, rfl, hd, h1, hl, hs⟩
end Go.Proofs.YtbdphdgomcabmaaGreatDoor

namespace Go.Proofs.YtbdphdgomcabmaaGreatDoor
open Go.RowKit

theorem word_short {l : Q.Bt} {n : Nat} (h : Q.numP l = some n) : n ≤ 9223372036854775807 ∧ l.length ≤ 24 := by
  rcases Nat.lt_or_ge 3 l.length with h3 | h3
  · cases hp : (l.take 3 == [112, 115, 107]) with
    | false => rw [num_head hp] at h; cases h
    | true =>
      rw [num_rest h3 hp] at h
      cases ha : Lib.atoiAll (l.drop 3) with
      | ok v =>
        rw [ha] at h
        simp only at h
        split at h
        · rename_i hc
          have hw := atoi_wide ha
          have hl := Lib.itoa_length_le v (by omega) hw.2
          rw [hc.2, List.length_drop] at hl
          have := Option.some.inj h
          omega
        · cases h
      | «syntax» => rw [ha] at h; cases h
      | range => rw [ha] at h; cases h
  · rw [num_short h3] at h; cases h
theorem wb_get {ss : List ByteArray} {k : Nat} (h : k < ss.length) (h' : k < (wb ss).length) : (wb ss)[k] = ss[k].data.toList := List.getElem_map (fun x : ByteArray => x.data.toList)
/-- What a round looks at. -/
structure ModI (w0 wr : World) (B bx : Nat) (p : Q.Pn) (ws : List Q.Bt) (k least : Nat) (q : Q.Pn) : Prop where
  l : MdL w0 wr B bx k q
  g : Q.goM srtI 0 0 p ws = Q.goM srtI k least q (ws.drop k)
  n : q.nm.length ≤ 140737488351232 + 25 * k
  s : least ≤ 30000
theorem ModI.step {w0 wr w1 : World} {B bx : Nat} {p : Q.Pn} {ws : List Q.Bt} {k least least' : Nat} {q q1 : Q.Pn} (h : ModI w0 wr B bx p ws k least q) (hk : k < ws.length) (hw : Q.wordP srtI k least q ws[k] = some (least', q1)) (hq : q1.nm = q.nm) (hl : ws[k].length ≤ 24) (hs : least' ≤ 30000)
    (nm1 : ByteArray) (t0 t1 tf : Tv) (td ts : List Tv) (D : List Ln) (hm : MdS w1 B bx nm1 t0 t1 tf td ts D q1.ls q1.b0 q1.b1) (kp : Kp w0 w1) (hb : w0.heap.size ≤ bx) (hz : Four w1 (bx + 1) (.string ⟨#[]⟩) (.slice none 0 0) (.slice none 0 0) (.slice none 0 0))
    (ln : ∀ l ∈ q1.ls, (l.1 = 0 ∨ l.1 = 1) ∧ l.2 ≠ [] ∧ l.2.length ≤ 24 + (k + 1)) (ll : q1.ls.length ≤ 24) (l0 : q1.b0.length ≤ 2 + 2 * (k + 1)) (l1 : q1.b1.length ≤ 2 + 2 * (k + 1)) (u : ByteArray) (hu : u = bs (q.nm ++ Q.plusW k ws[k])) :
    ModI w0 (w1.setCell ⟨bx, 0, none⟩ (.string u)) B bx p ws (k + 1) least' { q1 with nm := q1.nm ++ Q.plusW k ws[k] } := by
  have hf := Fr.set w1 ⟨bx, 0, none⟩ (.string u)
  refine ⟨⟨⟨t0, t1, tf, td, ts, D, ?_, fun h => by omega⟩, kp_step' kp hf (fun j hj => by simp at hj; omega), hz.fr hf (by simp), ln, ll, fun h => by omega, l0, l1⟩, ?_, ?_, hs⟩
  · have := hm.name u
    rw [hq, ← hu]
    exact this
  · rw [h.g, goM_step hk, hw]
  · have := h.n
    unfold Q.plusW
    simp only [hq, List.length_append]
    split <;> simp <;> omega
set_option maxRecDepth 100000 in
set_option maxHeartbeats 8000000 in
theorem modify_wide (w : World) (E : Nat → Addr) (m : Int) (hE : Env w E m) (nm : ByteArray) (a0 a1 al : Option Addr) (n0 c0 n1 c1 nl cl : Nat) (b0 b1 : List Int) (ls : List Ln) (hP : PatI w a0 a1 al n0 n1 nl b0 b1 ls) (hs : ShortM nm n0 n1 nl ls)
    (ao : Option Addr) (nw cw : Nat) (ss : List ByteArray) (hW : Strs w ao nw ss) (hz : ∀ s ∈ ss, s.size ≤ 281474976710656) (hn : nw ≤ 200) :
    Calls Tryz.prog 17 #[patV nm a0 a1 al n0 c0 n1 c1 nl cl, .slice ao nw cw] w (ModPost w E ⟨nm.data.toList, b0, b1, ls⟩ (wb ss)) := by
  have Hs := Lib.hid hs
  have HPI := Lib.hid hP
  have HW := Lib.hid hW
  have Hz := Lib.hid hz
  have HE := Lib.hid hE
  have hw1 : 1 < w.heap.size := World.block_lt_of_cell? w _ hE.c0
  have Hw1 := Lib.hid hw1
  have hkA := Kp.new w (.cells #[.string nm, .slice a0 n0 c0, .slice a1 n1 c1, .slice al nl cl] 26)
  have hkB := Kp.new (w.alloc (.cells #[.string nm, .slice a0 n0 c0, .slice a1 n1 c1, .slice al nl cl] 26)) (.cells #[.string ⟨#[]⟩, .slice none 0 0, .slice none 0 0, .slice none 0 0] 26)
  have hFA := (Four.new w (.string nm) (.slice a0 n0 c0) (.slice a1 n1 c1) (.slice al nl cl) 26).kp hkB
  have hFB := Four.new (w.alloc (.cells #[.string nm, .slice a0 n0 c0, .slice a1 n1 c1, .slice al nl cl] 26)) (.string ⟨#[]⟩) (.slice none 0 0) (.slice none 0 0) (.slice none 0 0) 26
  rw [World.size_alloc] at hFB
  have hkw := Kp.trans hkA hkB
  clear hkA hkB hP hs hW hz hE
  go_enter Tryz.func17, Tryz.ntmps17
  go_upto_region 1 with fail
  obtain ⟨bx, hbx⟩ : ∃ bx, bx = w.heap.size := ⟨_, rfl⟩
  rw [← hbx] at hFA hFB hw1 ⊢
  generalize (w.alloc (.cells #[.string nm, .slice a0 n0 c0, .slice a1 n1 c1, .slice al nl cl] 26)).alloc (.cells #[.string ⟨#[]⟩, .slice none 0 0, .slice none 0 0, .slice none 0 0] 26) = wb1 at *
  have Hbx := Lib.hid hbx
  clear hbx
  have HC := Lib.hid (check_any wb1 E (hkw.errs HE.out.errs) nm a0 a1 al n0 c0 n1 c1 nl cl b0 b1 ls (hkw.is HPI.out.i0) (hkw.is HPI.out.i1) (hkw.lns HPI.out.il))
  have HFA := Lib.hid hFA
  have HFB := Lib.hid hFB
  have Hkw := Lib.hid hkw
  by_cases hc : checkL b0 b1 ls = 0
  · have Hc := Lib.hid hc
    have hcl := code0 hc
    rw [show errV E (checkL b0 b1 ls) = .nilIface by rw [hc]; rfl] at HC
    obtain ⟨y0, y1, y2, y3, z0, z1, z2, z3⟩ := hFA
    clear hc hFB hkw
    go_upto_region 4 with (go_at_call 20; go_loud (refine HC.out.mono ?_); rintro e w2 ⟨rfl, hk2⟩)
    have Hk2 := Lib.hid (Kp.trans Hkw.out hk2)
    have HCl := Lib.hid (cloned_any w2 nm a0 a1 al n0 c0 n1 c1 nl cl b0 b1 ls ⟨Hk2.out.is HPI.out.i0, Hk2.out.is HPI.out.i1, Hk2.out.lns HPI.out.il⟩ Hs.out)
    have hF2 := HFA.out.kp hk2
    have hZ2 := HFB.out.kp hk2
    have hs2 := hZ2.lt
    clear y0 y1 y2 y3 z0 z1 z2 z3
    have HZ2 := Lib.hid hZ2
    have HF2 := Lib.hid hF2
    obtain ⟨y0, y1, y2, y3, z0, z1, z2, z3⟩ := hF2
    clear hk2 hZ2
    go_wp2_with fail
    (with_reducible refine HCl.out.mono ?_)
    rintro e w3 ⟨hk3, t0, t1, tl, ts, rfl, hts, hsep⟩
    unfold tvv
    have hF3 := HF2.out.kp hk3
    obtain ⟨wf, hwf, hF, hPf⟩ := hF3.set (.string nm) (tvv t0) (tvv t1) (tvv tl)
    have hL : MdL w wf w2.heap.size bx 0 ⟨nm.data.toList, b0, b1, ls⟩ := by
      refine ⟨⟨t0, t1, tl, [], ts, [], ⟨?_, rfl, by simp, hts, hsep.fr hF (fun x hx => by simp at hx; omega), by omega⟩, fun _ => rfl⟩, ?_, (HZ2.out.kp hk3).fr hF (by simp), ?_, ?_, fun _ => hcl.2.2.1, ?_, ?_⟩
      · rw [bs_data]; exact hPf
      · exact kp_step' (Kp.trans Hk2.out hk3) hF (fun j hj => by simp at hj; have := Hbx.out; omega)
      · exact fun l hl => by have := hcl.2.2.2.2 l hl; exact ⟨this.1, this.2.1, this.2.2.1⟩
      · exact hcl.2.2.2.1
      · have := okB_len hcl.1; simp only; omega
      · have := okB_len hcl.2.1; simp only; omega
    have HM := Lib.hid (show ModI w wf w2.heap.size bx ⟨nm.data.toList, b0, b1, ls⟩ (wb ss) 0 0 ⟨nm.data.toList, b0, b1, ls⟩ from ⟨hL, rfl, by
      have h1 := Hs.out.nm
      have h2 := Lib.size_eq nm
      simp only; omega, by omega⟩)
    have Hwf := Lib.hid hwf
    have Hhl := Lib.hid (show bx + 1 < w2.heap.size from hs2)
    clear y0 y1 y2 y3 z0 z1 z2 z3 hwf hF hPf hL hsep hts
    obtain ⟨y0, y1, y2, y3, z0, z1, z2, z3⟩ := hF3
    unfold tvv at Hwf
    clear hk3
    generalize w2.heap.size = B at *
    go_wp2_with fail
    rw [← Hwf.out]
    go_loopw [7, 23] (fun v i wr => ∃ (k least : Nat) (q : Q.Pn), k ≤ nw ∧ i = .int .i64 (k : Nat) ∧ v = .int .i64 (least : Nat) ∧ ModI w wr B bx ⟨nm.data.toList, b0, b1, ls⟩ (wb ss) k least q) (fun _ i _ => nw - (intOf i).toNat)
    case atStart => exact ⟨0, 0, _, by omega, rfl, rfl, HM.out⟩
    case round =>
      obtain ⟨k, least, q, hk, rfl, rfl, hM⟩ := hrel
      rename World => wr
      have Hk3 := Lib.hid hM.l.kp
      have hz4 := hM.l.zero
      have HM := Lib.hid hM
      have HZ4 := Lib.hid hz4
      clear hM y0 y1 y2 y3 z0 z1 z2 z3 hz4
      obtain ⟨t0', t1', tf, td, ts', D, hmem, hD⟩ := HM.out.l.mem
      have Hmem := Lib.hid hmem
      have hF4 := hmem.four
      clear hmem
      by_cases hlt : k < nw
      · have hkl : k < ss.length := by rw [HW.out.1]; exact hlt
        obtain ⟨bw, ow, rfl, hcx⟩ := HW.out.at k hlt
        replace hcx := Hk3.out.cell (hcx k hlt)
        have hx := Hz.out ss[k] (List.getElem_mem hkl)
        have hkw' : k < (wb ss).length := by unfold wb; rw [List.length_map]; exact hkl
        have hgs := HM.out.g.trans (goM_step hkw')
        have hxe := wb_get hkl hkw'
        rw [hxe] at hgs
        have Hgs := Lib.hid hgs
        have HN := Lib.hid (number_any ss[k] wr E m (HE.out.keep Hk3.out) hx)
        clear hgs
        generalize ss[k] = x at *
        by_cases hfx : x.data.toList = Q.fallB
        · have hfx' : (x.toList == [102, 97, 108, 108, 98, 97, 99, 107]) = true := by rw [ByteArray.toList_eq]; exact beq_iff_eq.2 hfx
          have hfl : x.data.toList.length ≤ 24 := by rw [hfx]; decide
          by_cases hk0 : k = 0
          · replace hD := hD hk0
            have hne := HM.out.l.ne hk0
            obtain ⟨l, r, hlr⟩ := List.exists_cons_of_ne_nil hne
            have hlm := HM.out.l.ln l (by rw [hlr]; simp)
            have hll := HM.out.l.ll
            subst hD
            rw [hlr] at Hmem hll
            have htd := Hmem.out.hd
            obtain rfl : td = [] := List.eq_nil_of_length_eq_zero htd
            have htl := Hmem.out.hl
            obtain ⟨tq, tr, rfl⟩ : ∃ tq tr, ts' = tq :: tr := by
              cases ts' with
              | nil => simp at htl
              | cons a b => exact ⟨a, b, rfl⟩
            have hl0 := HM.out.l.l0
            have hl1 := HM.out.l.l1
            have Hlr := Lib.hid hlr
            have Hln := Lib.hid (fun l' (hl' : l' ∈ r) => HM.out.l.ln l' (by rw [hlr]; simp [hl']))
            clear htd htl hne hlr
            have HBk := Lib.hid (fun (w4 : World) (hM4 : MdS w4 B bx (bs q.nm) t0' t1' tf [] (tq :: tr) [] (l :: r) q.b0 q.b1) => (show Calls Tryz.prog 35 #[.pointer (some ⟨bx, 0, none⟩)] w4 (BackPost w4 B bx (bs q.nm) t0' t1' tf tq tr l r q.b0 q.b1) by
              obtain ⟨f, xs⟩ := l
              obtain ⟨e, h1, h2⟩ := hlm
              simp only at e h1 h2
              rcases e with rfl | rfl
              · exact back_0 w4 B bx (bs q.nm) t0' t1' tf tq tr xs r q.b0 q.b1 hM4 h1 (by omega) (by omega)
              · exact back_1 w4 B bx (bs q.nm) t0' t1' tf tq tr xs r q.b0 q.b1 hM4 h1 (by omega) (by omega)))
            have hbp : Q.wordP srtI k least q x.data.toList = (if okB l.2 && noneIn (if l.1 = 0 then q.b0 else q.b1) l.2 then some { Q.setBef q l.1 (srtI ((if l.1 = 0 then q.b0 else q.b1) ++ l.2)) with ls := r } else none).map (fun q => (least, q)) := by
              unfold Q.wordP
              rw [if_pos hfx, if_neg (by omega)]
              unfold Q.backP
              rw [Hlr.out]
              rfl
            have Hbp := Lib.hid hbp
            have Hk0 := Lib.hid hk0
            clear hbp hk0
            obtain ⟨y0, y1, y2, y3, z0, z1, z2, z3⟩ := hF4
            clear y0 y1 y2 y3 z0 z1 z2 z3
            go_upto_region 11 with fail
            (with_reducible refine HN.out.mono ?_)
            rintro e w4 ⟨hk4, v, bb, rfl, hv⟩
            have HK4 := Lib.hid (Kp.trans Hk3.out hk4)
            have HZ5 := Lib.hid (HZ4.out.kp hk4)
            have HM4 := Lib.hid (Hmem.out.kp hk4)
            have hk0 := Hk0.out
            clear hk4 hv
            go_upto_region 13 with fail
            (with_reducible refine (HBk.out w4 HM4.out).mono ?_)
            rintro e w5 hpo
            unfold BackPost at hpo
            cases hok : (okB l.2 && noneIn (if l.1 = 0 then q.b0 else q.b1) l.2) with
            | false =>
              rw [hok] at hpo Hbp
              simp only [Bool.false_eq_true, if_false, Option.map_none] at hpo Hbp
              obtain ⟨rfl, hk5⟩ := hpo
              have HK5 := Lib.hid (Kp.trans HK4.out hk5)
              have HZ6 := Lib.hid (HZ5.out.kp hk5)
              have HG := Lib.hid (show Q.goM srtI 0 0 ⟨nm.data.toList, b0, b1, ls⟩ (wb ss) = none by rw [Hgs.out, Hbp.out])
              clear hk5 hok
              go_upto_region 13 with fail
              refine anyP_start (fun w => w.cell? ⟨1, 0, none⟩ = some (.iface 197 (.pointer (some (E 1))))) 3 (fun _ => True) (fun _ _ => False) (by kernel_rfl) (fun _ _ _ _ h => h.elim) ?_
              obtain ⟨wd, hwd⟩ : ∃ wd, wd = w5.drew := ⟨_, rfl⟩
              have hkd : Kp w5 wd := hwd ▸ (⟨rfl, rfl, rfl, Nat.le_refl _, fun _ _ => rfl⟩ : Kp w5 w5.drew)
              rw [← hwd]
              clear hwd
              have hTd := (Kp.trans HK5.out hkd).cell HE.out.c0
              have hPd := Four.kp HZ6.out hkd
              have HKd := Lib.hid (Kp.trans HK5.out hkd)
              obtain ⟨wf2, hwf2, hF2, hPf2⟩ := hPd.set (.string ⟨#[]⟩) (.slice none 0 0) (.slice none 0 0) (.slice none 0 0)
              obtain ⟨y0, y1, y2, y3, z0, z1, z2, z3⟩ := hPd
              obtain ⟨r0, r1, r2, r3, _, _, _, _⟩ := hPf2
              have Hwf2 := Lib.hid hwf2
              have HTf := Lib.hid (hF2.cell hTd (by have q1 := Hbx.out; have q2 := Hw1.out; simp; omega))
              have HKf := Lib.hid (kp_step' HKd.out hF2 (fun j hj => by simp at hj; have := Hbx.out; omega))
              clear hwf2 hF2 hkd
              refine anyT_take puts_true [0] (by kernel_rfl) hTd ?_
              simp only [opsAt, List.getElem?_toArray, List.getElem?_cons_zero]
              repeat (go_big_quiet_step (fail))
              refine wpQuiet_nil ?_
              refine anyT_load puts_true 1 45 (.iface 197 (.pointer (some (E 1)))) rfl rfl (by kernel_rfl) hTd (fun w h => exec_load32 h rfl rfl) ?_
              simp only [Act.put, List.setIfInBounds_toArray, List.set_cons_zero, List.set_cons_succ]
              refine anyP_one 2 (by kernel_rfl) ?_
              simp only [opsAt, List.getElem?_toArray, List.getElem?_cons_zero, List.getElem?_cons_succ]
              clear hTd
              go_wp2_with fail
              rw [← Hwf2.out]
              refine ⟨fun _ => HTf.out, ?_⟩
              refine anyP_one 3 (by kernel_rfl) ?_
              simp only [opsAt, List.getElem?_toArray, List.getElem?_cons_zero, List.getElem?_cons_succ]
              clear y0 y1 y2 y3 z0 z1 z2 z3
              go_wp2_with fail
              refine ⟨fun h => absurd rfl h, ?_⟩
              refine anyP_end (by kernel_rfl) ?_
              go_wp2_with fail
              show bodyPost Tryz.prog Tryz.f17 (ModPost w E ⟨nm.data.toList, b0, b1, ls⟩ (wb ss)) .ret _ _
              refine bodyPost_ret (v := .tuple #[zeroP, .iface 197 (.pointer (some (E 1)))]) (by simp [results, Tryz.results17, go_sem, r0, r1, r2, r3]) rfl ?_
              exact ModPost.arg (p := ⟨nm.data.toList, b0, b1, ls⟩) Hc.out HG.out HKf.out
            | true =>
              rw [hok] at hpo Hbp
              simp only [if_true, Option.map_some] at hpo Hbp
              obtain ⟨t05, t15, rfl, hM5, hkp5⟩ := hpo
              have hokb : l.2.length ≤ 2 := okB_len (by simp only [Bool.and_eq_true] at hok; exact hok.1)
              clear hok
              obtain ⟨q1, hq1⟩ : ∃ q1 : Q.Pn, q1 = { Q.setBef q l.1 (srtI ((if l.1 = 0 then q.b0 else q.b1) ++ l.2)) with ls := r } := ⟨_, rfl⟩
              rw [← hq1] at Hbp
              have hqn : q1.nm = q.nm := by rw [hq1]; unfold Q.setBef; split <;> rfl
              have hqs : q1.ls = r := by rw [hq1]
              have hqb : q1.b0 = if l.1 = 0 then srtI (q.b0 ++ l.2) else q.b0 := by rw [hq1]; unfold Q.setBef; split <;> rfl
              have hqc : q1.b1 = if l.1 = 0 then q.b1 else srtI (q.b1 ++ l.2) := by rw [hq1]; unfold Q.setBef; split <;> rfl
              rw [← hqb, ← hqc, ← hqs] at hM5
              have hb0l : q1.b0.length ≤ 2 + 2 * (k + 1) := by rw [hqb]; split <;> (try rw [srtI_length, List.length_append]) <;> omega
              have hb1l : q1.b1.length ≤ 2 + 2 * (k + 1) := by rw [hqc]; split <;> (try rw [srtI_length, List.length_append]) <;> omega
              have hlsl : q1.ls.length ≤ 24 := by rw [hqs]; simp only [List.length_cons] at hll; omega
              have HZ6 := Lib.hid (hkp5.four HZ5.out (by omega) (by have := Hhl.out; omega))
              have HK6 := Lib.hid (hkp5.keep HK4.out (by have := Hbx.out; omega) (by have := Hbx.out; have := Hhl.out; omega))
              have HS := Lib.hid (HM.out.step (w1 := w5) (q1 := q1) (least' := least) hkw' (hxe ▸ Hbp.out) hqn (by rw [hxe]; exact hfl) HM.out.s (bs q.nm) t05 t15 tf [tq] tr [l] hM5 HK6.out (by have := Hbx.out; omega) HZ6.out
                (fun l' hl' => by have := Hln.out l' (by rw [← hqs]; exact hl'); exact ⟨this.1, this.2.1, by omega⟩) hlsl hb0l hb1l (bs q.nm ++ x) (by rw [hxe, hk0]; exact (bs_plus q.nm x).symm))
              obtain ⟨y0, y1, y2, y3, z0, z1, z2, z3⟩ := hM5.four
              have hqz : (bs q.nm).size ≤ 140737488360000 := by have := HM.out.n; rw [bs_size]; omega
              clear hq1 hqn hqs hqb hqc hb0l hb1l hlsl hM5 hkp5 hl0 hl1 hll hokb
              go_wp2_with fail
              go_roundw
              case rel => exact ⟨k + 1, least, _, by omega, by go_num, by go_num, HS.out⟩
              case measure => simp [intOf]; omega
          · have HG := Lib.hid (show Q.goM srtI 0 0 ⟨nm.data.toList, b0, b1, ls⟩ (wb ss) = none by
              rw [Hgs.out]
              unfold Q.wordP
              rw [if_pos hfx, if_pos (by omega)])
            obtain ⟨y0, y1, y2, y3, z0, z1, z2, z3⟩ := hF4
            clear y0 y1 y2 y3 z0 z1 z2 z3
            go_upto_region 11 with fail
            (with_reducible refine HN.out.mono ?_)
            rintro e w4 ⟨hk4, v, bb, rfl, hv⟩
            have HK4 := Lib.hid (Kp.trans Hk3.out hk4)
            have HZ5 := Lib.hid (HZ4.out.kp hk4)
            clear hk4 hv
            go_upto_region 13 with fail
            refine anyP_start (fun w => w.cell? ⟨1, 0, none⟩ = some (.iface 197 (.pointer (some (E 1))))) 3 (fun _ => True) (fun _ _ => False) (by kernel_rfl) (fun _ _ _ _ h => h.elim) ?_
            obtain ⟨wd, hwd⟩ : ∃ wd, wd = w4.drew := ⟨_, rfl⟩
            have hkd : Kp w4 wd := hwd ▸ (⟨rfl, rfl, rfl, Nat.le_refl _, fun _ _ => rfl⟩ : Kp w4 w4.drew)
            rw [← hwd]
            clear hwd
            have hTd := (Kp.trans HK4.out hkd).cell HE.out.c0
            have hPd := Four.kp HZ5.out hkd
            have HKd := Lib.hid (Kp.trans HK4.out hkd)
            obtain ⟨wf2, hwf2, hF2, hPf2⟩ := hPd.set (.string ⟨#[]⟩) (.slice none 0 0) (.slice none 0 0) (.slice none 0 0)
            obtain ⟨y0, y1, y2, y3, z0, z1, z2, z3⟩ := hPd
            obtain ⟨r0, r1, r2, r3, _, _, _, _⟩ := hPf2
            have Hwf2 := Lib.hid hwf2
            have HTf := Lib.hid (hF2.cell hTd (by have q1 := Hbx.out; have q2 := Hw1.out; simp; omega))
            have HKf := Lib.hid (kp_step' HKd.out hF2 (fun j hj => by simp at hj; have := Hbx.out; omega))
            clear hwf2 hF2 hkd
            refine anyT_take puts_true [0] (by kernel_rfl) hTd ?_
            simp only [opsAt, List.getElem?_toArray, List.getElem?_cons_zero]
            repeat (go_big_quiet_step (fail))
            refine wpQuiet_nil ?_
            refine anyT_load puts_true 1 45 (.iface 197 (.pointer (some (E 1)))) rfl rfl (by kernel_rfl) hTd (fun w h => exec_load32 h rfl rfl) ?_
            simp only [Act.put, List.setIfInBounds_toArray, List.set_cons_zero, List.set_cons_succ]
            refine anyP_one 2 (by kernel_rfl) ?_
            simp only [opsAt, List.getElem?_toArray, List.getElem?_cons_zero, List.getElem?_cons_succ]
            clear hTd
            go_wp2_with fail
            rw [← Hwf2.out]
            refine ⟨fun _ => HTf.out, ?_⟩
            refine anyP_one 3 (by kernel_rfl) ?_
            simp only [opsAt, List.getElem?_toArray, List.getElem?_cons_zero, List.getElem?_cons_succ]
            clear y0 y1 y2 y3 z0 z1 z2 z3
            go_wp2_with fail
            refine ⟨fun h => absurd rfl h, ?_⟩
            refine anyP_end (by kernel_rfl) ?_
            go_wp2_with fail
            show bodyPost Tryz.prog Tryz.f17 (ModPost w E ⟨nm.data.toList, b0, b1, ls⟩ (wb ss)) .ret _ _
            refine bodyPost_ret (v := .tuple #[zeroP, .iface 197 (.pointer (some (E 1)))]) (by simp [results, Tryz.results17, go_sem, r0, r1, r2, r3]) rfl ?_
            exact ModPost.arg (p := ⟨nm.data.toList, b0, b1, ls⟩) Hc.out HG.out HKf.out
        · have hnf : Q.wordP srtI k least q x.data.toList = match Q.numP x.data.toList with | some n => if n < least then none else (Q.preT q n).map (fun q => (n + 1, q)) | none => none := by unfold Q.wordP; rw [if_neg hfx]; cases Q.numP x.data.toList <;> rfl
          have Hnf := Lib.hid hnf
          have hfx' : (x.toList == [102, 97, 108, 108, 98, 97, 99, 107]) = false := by rw [ByteArray.toList_eq]; exact beq_eq_false_iff_ne.2 hfx
          clear hnf
          go_upto_region 11 with fail
          (with_reducible refine HN.out.mono ?_)
          rintro e w4 ⟨hk4, v, bb, rfl, hv⟩
          have HK4 := Lib.hid (Kp.trans Hk3.out hk4)
          have HZ5 := Lib.hid (HZ4.out.kp hk4)
          have HM4 := Lib.hid (Hmem.out.kp hk4)
          obtain ⟨y0, y1, y2, y3, z0, z1, z2, z3⟩ := hF4
          clear y0 y1 y2 y3 z0 z1 z2 z3 hk4
          cases hnum : Q.numP x.data.toList with
          | none =>
            rw [hnum] at hv
            simp only at hv
            subst hv
            have HG := Lib.hid (show Q.goM srtI 0 0 ⟨nm.data.toList, b0, b1, ls⟩ (wb ss) = none by rw [Hgs.out, Hnf.out, hnum])
            clear hnum
            go_upto_region 15 with fail
            refine anyP_start (fun w => w.cell? ⟨1, 0, none⟩ = some (.iface 197 (.pointer (some (E 1))))) 3 (fun _ => True) (fun _ _ => False) (by kernel_rfl) (fun _ _ _ _ h => h.elim) ?_
            obtain ⟨wd, hwd⟩ : ∃ wd, wd = w4.drew := ⟨_, rfl⟩
            have hkd : Kp w4 wd := hwd ▸ (⟨rfl, rfl, rfl, Nat.le_refl _, fun _ _ => rfl⟩ : Kp w4 w4.drew)
            rw [← hwd]
            clear hwd
            have hTd := (Kp.trans HK4.out hkd).cell HE.out.c0
            have hPd := Four.kp HZ5.out hkd
            have HKd := Lib.hid (Kp.trans HK4.out hkd)
            obtain ⟨wf2, hwf2, hF2, hPf2⟩ := hPd.set (.string ⟨#[]⟩) (.slice none 0 0) (.slice none 0 0) (.slice none 0 0)
            obtain ⟨y0, y1, y2, y3, z0, z1, z2, z3⟩ := hPd
            obtain ⟨r0, r1, r2, r3, _, _, _, _⟩ := hPf2
            have Hwf2 := Lib.hid hwf2
            have HTf := Lib.hid (hF2.cell hTd (by have q1 := Hbx.out; have q2 := Hw1.out; simp; omega))
            have HKf := Lib.hid (kp_step' HKd.out hF2 (fun j hj => by simp at hj; have := Hbx.out; omega))
            clear hwf2 hF2 hkd
            refine anyT_take puts_true [0] (by kernel_rfl) hTd ?_
            simp only [opsAt, List.getElem?_toArray, List.getElem?_cons_zero]
            repeat (go_big_quiet_step (fail))
            refine wpQuiet_nil ?_
            refine anyT_load puts_true 1 60 (.iface 197 (.pointer (some (E 1)))) rfl rfl (by kernel_rfl) hTd (fun w h => exec_load32 h rfl rfl) ?_
            simp only [Act.put, List.setIfInBounds_toArray, List.set_cons_zero, List.set_cons_succ]
            refine anyP_one 2 (by kernel_rfl) ?_
            simp only [opsAt, List.getElem?_toArray, List.getElem?_cons_zero, List.getElem?_cons_succ]
            clear hTd
            go_wp2_with fail
            rw [← Hwf2.out]
            refine ⟨fun _ => HTf.out, ?_⟩
            refine anyP_one 3 (by kernel_rfl) ?_
            simp only [opsAt, List.getElem?_toArray, List.getElem?_cons_zero, List.getElem?_cons_succ]
            clear y0 y1 y2 y3 z0 z1 z2 z3
            go_wp2_with fail
            refine ⟨fun h => absurd rfl h, ?_⟩
            refine anyP_end (by kernel_rfl) ?_
            go_wp2_with fail
            show bodyPost Tryz.prog Tryz.f17 (ModPost w E ⟨nm.data.toList, b0, b1, ls⟩ (wb ss)) .ret _ _
            refine bodyPost_ret (v := .tuple #[zeroP, .iface 197 (.pointer (some (E 1)))]) (by simp [results, Tryz.results17, go_sem, r0, r1, r2, r3]) rfl ?_
            exact ModPost.arg (p := ⟨nm.data.toList, b0, b1, ls⟩) Hc.out HG.out HKf.out
          | some n =>
            rw [hnum] at hv
            simp only at hv
            obtain ⟨rfl, rfl⟩ := hv
            have hns := word_short hnum
            rw [hnum] at Hnf
            simp only at Hnf
            clear hnum
            by_cases hnl : n < least
            · have HG := Lib.hid (show Q.goM srtI 0 0 ⟨nm.data.toList, b0, b1, ls⟩ (wb ss) = none by rw [Hgs.out, Hnf.out, if_pos hnl])
              go_upto_region 15 with fail
              refine anyP_start (fun w => w.cell? ⟨1, 0, none⟩ = some (.iface 197 (.pointer (some (E 1))))) 3 (fun _ => True) (fun _ _ => False) (by kernel_rfl) (fun _ _ _ _ h => h.elim) ?_
              obtain ⟨wd, hwd⟩ : ∃ wd, wd = w4.drew := ⟨_, rfl⟩
              have hkd : Kp w4 wd := hwd ▸ (⟨rfl, rfl, rfl, Nat.le_refl _, fun _ _ => rfl⟩ : Kp w4 w4.drew)
              rw [← hwd]
              clear hwd
              have hTd := (Kp.trans HK4.out hkd).cell HE.out.c0
              have hPd := Four.kp HZ5.out hkd
              have HKd := Lib.hid (Kp.trans HK4.out hkd)
              obtain ⟨wf2, hwf2, hF2, hPf2⟩ := hPd.set (.string ⟨#[]⟩) (.slice none 0 0) (.slice none 0 0) (.slice none 0 0)
              obtain ⟨y0, y1, y2, y3, z0, z1, z2, z3⟩ := hPd
              obtain ⟨r0, r1, r2, r3, _, _, _, _⟩ := hPf2
              have Hwf2 := Lib.hid hwf2
              have HTf := Lib.hid (hF2.cell hTd (by have q1 := Hbx.out; have q2 := Hw1.out; simp; omega))
              have HKf := Lib.hid (kp_step' HKd.out hF2 (fun j hj => by simp at hj; have := Hbx.out; omega))
              clear hwf2 hF2 hkd
              refine anyT_take puts_true [0] (by kernel_rfl) hTd ?_
              simp only [opsAt, List.getElem?_toArray, List.getElem?_cons_zero]
              repeat (go_big_quiet_step (fail))
              refine wpQuiet_nil ?_
              refine anyT_load puts_true 1 60 (.iface 197 (.pointer (some (E 1)))) rfl rfl (by kernel_rfl) hTd (fun w h => exec_load32 h rfl rfl) ?_
              simp only [Act.put, List.setIfInBounds_toArray, List.set_cons_zero, List.set_cons_succ]
              refine anyP_one 2 (by kernel_rfl) ?_
              simp only [opsAt, List.getElem?_toArray, List.getElem?_cons_zero, List.getElem?_cons_succ]
              clear hTd
              go_wp2_with fail
              rw [← Hwf2.out]
              refine ⟨fun _ => HTf.out, ?_⟩
              refine anyP_one 3 (by kernel_rfl) ?_
              simp only [opsAt, List.getElem?_toArray, List.getElem?_cons_zero, List.getElem?_cons_succ]
              clear y0 y1 y2 y3 z0 z1 z2 z3
              go_wp2_with fail
              refine ⟨fun h => absurd rfl h, ?_⟩
              refine anyP_end (by kernel_rfl) ?_
              go_wp2_with fail
              show bodyPost Tryz.prog Tryz.f17 (ModPost w E ⟨nm.data.toList, b0, b1, ls⟩ (wb ss)) .ret _ _
              refine bodyPost_ret (v := .tuple #[zeroP, .iface 197 (.pointer (some (E 1)))]) (by simp [results, Tryz.results17, go_sem, r0, r1, r2, r3]) rfl ?_
              exact ModPost.arg (p := ⟨nm.data.toList, b0, b1, ls⟩) Hc.out HG.out HKf.out
            · have HPr := Lib.hid (pre_any w4 B bx (bs q.nm) t0' t1' tf td ts' D q.ls q.b0 q.b1 n HM4.out (fun l hl => ⟨(HM.out.l.ln l hl).2.1, by have := (HM.out.l.ln l hl).2.2; omega⟩) (by have := HM.out.l.ll; omega) hns.1)
              rw [if_neg hnl] at Hnf
              by_cases hpr : q.ls = [] ∨ q.ls.length < n
              · have HG := Lib.hid (show Q.goM srtI 0 0 ⟨nm.data.toList, b0, b1, ls⟩ (wb ss) = none by rw [Hgs.out, Hnf.out, preL_some, if_pos hpr]; rfl)
                unfold PrePost at HPr
                simp only [if_pos hpr] at HPr
                go_upto_region 15 with fail
                (with_reducible refine HPr.out.mono ?_)
                rintro e w5 ⟨rfl, rfl⟩
                go_upto_region 15 with fail
                refine anyP_start (fun w => w.cell? ⟨1, 0, none⟩ = some (.iface 197 (.pointer (some (E 1))))) 3 (fun _ => True) (fun _ _ => False) (by kernel_rfl) (fun _ _ _ _ h => h.elim) ?_
                obtain ⟨wd, hwd⟩ : ∃ wd, wd = w4.drew := ⟨_, rfl⟩
                have hkd : Kp w4 wd := hwd ▸ (⟨rfl, rfl, rfl, Nat.le_refl _, fun _ _ => rfl⟩ : Kp w4 w4.drew)
                rw [← hwd]
                clear hwd
                have hTd := (Kp.trans HK4.out hkd).cell HE.out.c0
                have hPd := Four.kp HZ5.out hkd
                have HKd := Lib.hid (Kp.trans HK4.out hkd)
                obtain ⟨wf2, hwf2, hF2, hPf2⟩ := hPd.set (.string ⟨#[]⟩) (.slice none 0 0) (.slice none 0 0) (.slice none 0 0)
                obtain ⟨y0, y1, y2, y3, z0, z1, z2, z3⟩ := hPd
                obtain ⟨r0, r1, r2, r3, _, _, _, _⟩ := hPf2
                have Hwf2 := Lib.hid hwf2
                have HTf := Lib.hid (hF2.cell hTd (by have q1 := Hbx.out; have q2 := Hw1.out; simp; omega))
                have HKf := Lib.hid (kp_step' HKd.out hF2 (fun j hj => by simp at hj; have := Hbx.out; omega))
                clear hwf2 hF2 hkd
                refine anyT_take puts_true [0] (by kernel_rfl) hTd ?_
                simp only [opsAt, List.getElem?_toArray, List.getElem?_cons_zero]
                repeat (go_big_quiet_step (fail))
                refine wpQuiet_nil ?_
                refine anyT_load puts_true 1 60 (.iface 197 (.pointer (some (E 1)))) rfl rfl (by kernel_rfl) hTd (fun w h => exec_load32 h rfl rfl) ?_
                simp only [Act.put, List.setIfInBounds_toArray, List.set_cons_zero, List.set_cons_succ]
                refine anyP_one 2 (by kernel_rfl) ?_
                simp only [opsAt, List.getElem?_toArray, List.getElem?_cons_zero, List.getElem?_cons_succ]
                clear hTd
                go_wp2_with fail
                rw [← Hwf2.out]
                refine ⟨fun _ => HTf.out, ?_⟩
                refine anyP_one 3 (by kernel_rfl) ?_
                simp only [opsAt, List.getElem?_toArray, List.getElem?_cons_zero, List.getElem?_cons_succ]
                clear y0 y1 y2 y3 z0 z1 z2 z3
                go_wp2_with fail
                refine ⟨fun h => absurd rfl h, ?_⟩
                refine anyP_end (by kernel_rfl) ?_
                go_wp2_with fail
                show bodyPost Tryz.prog Tryz.f17 (ModPost w E ⟨nm.data.toList, b0, b1, ls⟩ (wb ss)) .ret _ _
                refine bodyPost_ret (v := .tuple #[zeroP, .iface 197 (.pointer (some (E 1)))]) (by simp [results, Tryz.results17, go_sem, r0, r1, r2, r3]) rfl ?_
                exact ModPost.arg (p := ⟨nm.data.toList, b0, b1, ls⟩) Hc.out HG.out HKf.out
              · unfold PrePost at HPr
                simp only [if_neg hpr] at HPr
                rw [preL_some, if_neg hpr, Option.map_some] at Hnf
                go_upto_region 10 with fail
                (with_reducible refine HPr.out.mono ?_)
                rintro e w5 ⟨ts5, rfl, hM5, hkp5⟩
                have HZ6 := Lib.hid (hkp5.four HZ5.out (by omega) (by have := Hhl.out; omega))
                have HK6 := Lib.hid (hkp5.keep HK4.out (by have := Hbx.out; omega) (by have := Hbx.out; have := Hhl.out; omega))
                have HM5 := Lib.hid hM5
                obtain ⟨y0, y1, y2, y3, z0, z1, z2, z3⟩ := hM5.four
                clear hM5 hkp5
                have hn24 : n ≤ 24 := by have := HM.out.l.ll; omega
                have HS := Lib.hid (fun (w1 : World) (nm1 : ByteArray) (hm : MdS w1 B bx nm1 t0' t1' tf td ts5 D (preL q.ls n) q.b0 q.b1) (kp : Kp w w1) hz (u : ByteArray) (hu : u = bs (q.nm ++ Q.plusW k x.data.toList)) => HM.out.step (w1 := w1) (q1 := { q with ls := preL q.ls n }) (least' := n + 1) hkw' (hxe ▸ Hnf.out) rfl (by rw [hxe]; exact hns.2) (by omega) nm1 t0' t1' tf td ts5 D hm kp (by have := Hbx.out; omega) hz
                  (preL_mem HM.out.l.ln) (by rw [preL_length]; exact HM.out.l.ll) (by have := HM.out.l.l0; simp only; omega) (by have := HM.out.l.l1; simp only; omega) u (by rw [hxe]; exact hu))
                have hq1 : (bs q.nm).size ≤ 140737488360000 := by have := HM.out.n; rw [bs_size]; omega
                by_cases hk0 : k = 0
                · have HB := Lib.hid (bs_plus q.nm x)
                  subst hk0
                  go_wp2_with fail
                  go_roundw
                  case rel => exact ⟨0 + 1, n + 1, _, by omega, by go_num, by go_num, HS.out w5 _ HM5.out HK6.out HZ6.out _ HB.out.symm⟩
                  case measure => simp [intOf]; omega
                · have HB := Lib.hid (bs_plus1 q.nm x (show 0 < k by omega))
                  have hq2 : (bs q.nm ++ (⟨#[43]⟩ : ByteArray)).size ≤ 140737488360001 := by rw [ByteArray.size_append]; have : (⟨#[43]⟩ : ByteArray).size = 1 := rfl; omega
                  go_wp2_with fail
                  go_roundw
                  case rel => exact ⟨k + 1, n + 1, _, by omega, by go_num, by go_num, HS.out (w5.setCell ⟨bx, 0, none⟩ (.string (bs q.nm ++ (⟨#[43]⟩ : ByteArray)))) _ (HM5.out.name _) (kp_step' HK6.out (Fr.set _ _ _) (by intro j hj; simp at hj; have := Hbx.out; omega)) (HZ6.out.fr (Fr.set _ _ _) (by simp)) _ HB.out.symm⟩
                  case measure => simp [intOf]; omega
      · obtain rfl : k = nw := by omega
        have hG : Q.goM srtI 0 0 ⟨nm.data.toList, b0, b1, ls⟩ (wb ss) = some q := by
          rw [HM.out.g, List.drop_of_length_le (by unfold wb; rw [List.length_map, HW.out.1]; exact Nat.le_refl _)]
          rfl
        have HG := Lib.hid hG
        have hlns := Hmem.out.pat (by have := HM.out.l.ll; omega) (fun l hl => by have := (HM.out.l.ln l hl).2.2; omega)
        have HC2 := Lib.hid (check_any wr E (Hk3.out.errs HE.out.errs) (bs q.nm) t0'.ao t1'.ao (subT tf D.length).ao t0'.n t0'.c t1'.n t1'.c (subT tf D.length).n (subT tf D.length).c q.b0 q.b1 q.ls hlns.i0 hlns.i1 hlns.il)
        obtain ⟨sa, sn, sc, hsub⟩ : ∃ sa sn sc, subT tf D.length = ⟨sa, sn, sc⟩ := ⟨_, _, _, rfl⟩
        rw [hsub] at HC2 hF4
        have Hsub := Lib.hid hsub
        clear hG hlns hsub
        by_cases hc2 : checkL q.b0 q.b1 q.ls = 0
        · have Hc2 := Lib.hid hc2
          rw [show errV E (checkL q.b0 q.b1 q.ls) = .nilIface by rw [hc2]; rfl] at HC2
          have HF4 := Lib.hid hF4
          obtain ⟨y0, y1, y2, y3, z0, z1, z2, z3⟩ := hF4
          unfold tvv at y1 y2 y3
          clear hc2
          go_wp2_with fail
          (with_reducible refine HC2.out.mono ?_)
          rintro e w7 ⟨rfl, hk7⟩
          have hF7 := HF4.out.kp hk7
          have hZ7 := HZ4.out.kp hk7
          have HM7 := Lib.hid (Hmem.out.kp hk7)
          obtain ⟨wf2, hwf2, hF2, hPf2⟩ := hZ7.set (.string (bs q.nm)) (.slice t0'.ao t0'.n t0'.c) (.slice t1'.ao t1'.n t1'.c) (.slice sa sn sc)
          clear y0 y1 y2 y3 z0 z1 z2 z3
          obtain ⟨y0, y1, y2, y3, z0, z1, z2, z3⟩ := hF7
          unfold tvv at y1 y2 y3
          obtain ⟨x0, x1, x2, x3, f0, f1, f2, f3⟩ := hZ7
          obtain ⟨r0, r1, r2, r3, _, _, _, _⟩ := hPf2
          have Hwf2 := Lib.hid hwf2
          have HKf := Lib.hid (kp_step' (Kp.trans Hk3.out hk7) hF2 (fun j hj => by simp at hj; have := Hbx.out; omega))
          have hsp := (HM7.out.sep.fr hF2 (fun x hx => by simp at hx; have := Hhl.out; omega)).base (B' := w.heap.size) (by have := Hhl.out; have := Hbx.out; omega)
          have HQ := Lib.hid (ModPost.fine (E := E) (p := ⟨nm.data.toList, b0, b1, ls⟩) Hc.out HG.out Hc2.out HKf.out HM7.out.hd HM7.out.h1 HM7.out.hl hsp)
          rw [Hsub.out] at HQ
          clear hwf2 hF2 hk7 hsp
          go_wp2_with fail
          rw [← Hwf2.out]
          show bodyPost Tryz.prog Tryz.f17 (ModPost w E ⟨nm.data.toList, b0, b1, ls⟩ (wb ss)) .ret _ _
          refine bodyPost_ret (v := .tuple #[.agg #[.string (bs q.nm), tvv t0', tvv t1', tvv ⟨sa, sn, sc⟩], .nilIface]) (by simp [results, Tryz.results17, go_sem, r0, r1, r2, r3, tvv]) rfl ?_
          exact HQ.out
        · have Hc2 := Lib.hid hc2
          have HEe := Lib.hid (errV_ptr E hc2)
          rw [HEe.out] at HC2
          obtain ⟨y0, y1, y2, y3, z0, z1, z2, z3⟩ := hF4
          unfold tvv at y1 y2 y3
          clear hc2
          go_upto_region 21 with fail
          (with_reducible refine HC2.out.mono ?_)
          rintro e w7 ⟨rfl, hk7⟩
          have hZ7 := HZ4.out.kp hk7
          obtain ⟨wf2, hwf2, hF2, hPf2⟩ := hZ7.set (.string ⟨#[]⟩) (.slice none 0 0) (.slice none 0 0) (.slice none 0 0)
          clear y0 y1 y2 y3 z0 z1 z2 z3
          obtain ⟨y0, y1, y2, y3, z0, z1, z2, z3⟩ := hZ7
          obtain ⟨r0, r1, r2, r3, _, _, _, _⟩ := hPf2
          have Hwf2 := Lib.hid hwf2
          have HKf := Lib.hid (kp_step' (Kp.trans Hk3.out hk7) hF2 (fun j hj => by simp at hj; have := Hbx.out; omega))
          clear hwf2 hF2 hk7
          go_wp2_with fail
          rw [← Hwf2.out]
          show bodyPost Tryz.prog Tryz.f17 (ModPost w E ⟨nm.data.toList, b0, b1, ls⟩ (wb ss)) .ret _ _
          refine bodyPost_ret (v := .tuple #[zeroP, .iface 197 (.pointer (some (E (checkL q.b0 q.b1 q.ls))))]) (by simp [results, Tryz.results17, go_sem, r0, r1, r2, r3]) rfl ?_
          exact ModPost.off (p := ⟨nm.data.toList, b0, b1, ls⟩) Hc.out HG.out Hc2.out HKf.out
  · have Hc := Lib.hid hc
    have HEe := Lib.hid (errV_ptr E hc)
    rw [HEe.out] at HC
    obtain ⟨y0, y1, y2, y3, z0, z1, z2, z3⟩ := hFA
    clear hc hFB hkw
    go_upto_region 3 with (go_at_call 20; go_loud (refine HC.out.mono ?_); rintro e w2 ⟨rfl, hk2⟩)
    have hP4 := HFB.out.kp hk2
    obtain ⟨wf, hwf, hF, hPf⟩ := hP4.set (.string ⟨#[]⟩) (.slice none 0 0) (.slice none 0 0) (.slice none 0 0)
    clear y0 y1 y2 y3 z0 z1 z2 z3
    obtain ⟨y0, y1, y2, y3, z0, z1, z2, z3⟩ := hP4
    obtain ⟨c0, c1, c2, c3, _, _, _, _⟩ := hPf
    have Hwf := Lib.hid hwf
    have HKf := Lib.hid (kp_step' (Kp.trans Hkw.out hk2) hF (fun j hj => by simp at hj; have := Hbx.out; omega))
    clear hwf hF hk2
    go_wp2_with fail
    rw [← Hwf.out]
    show bodyPost Tryz.prog Tryz.f17 (ModPost w E ⟨nm.data.toList, b0, b1, ls⟩ (wb ss)) .ret _ _
    refine bodyPost_ret (v := .tuple #[zeroP, .iface 197 (.pointer (some (E (checkL b0 b1 ls))))]) (by simp [results, Tryz.results17, go_sem, c0, c1, c2, c3]) rfl ?_
    exact ModPost.bad (p := ⟨nm.data.toList, b0, b1, ls⟩) Hc.out HKf.out
end Go.Proofs.YtbdphdgomcabmaaGreatDoor

namespace Go.Proofs.YtbdphdgomcabmaaGreatDoor
open Go.RowKit

abbrev Mdf := ByteArray × List Int × List Int × List Ln × Nat
/-- What is answered: the name, what is known ahead, the messages, the error's number. -/
def mdf (p : Q.Pn) (ws : List Q.Bt) : Mdf := match Q.modR p ws with
  | (some q, _) => (bs q.nm, q.b0, q.b1, q.ls, 0)
  | (none, c) => (⟨#[]⟩, [], [], [], c)
theorem srtI_srt : Q.Srt srtI := ⟨by simp [srtI], by simp [srtI], by simp [srtI], by simp [srtI, List.mergeSort], by simp [srtI, List.mergeSort]⟩
theorem modR_code (p : Q.Pn) (ws : List Q.Bt) : match Q.modR p ws with
    | (some q, _) => q.ls.length ≤ 5000 ∧ ∀ l ∈ q.ls, l.2.length ≤ 5000
    | (none, c) => c ≠ 0 ∧ c ∈ codes := by
  unfold Q.modR
  by_cases h : p.code = 0
  · rw [if_neg (by simp [h])]
    cases Q.goR 0 0 p ws with
    | none => simp [codes]
    | some q =>
      simp only
      by_cases hc : q.code = 0
      · rw [if_pos hc]
        exact ⟨by have := (code0 hc).2.2.2.1; simp only; omega, fun l hl => by have := ((code0 hc).2.2.2.2 l hl).2.2.1; omega⟩
      · rw [if_neg hc]
        rcases checkL_code q.b0 q.b1 q.ls with h | h
        · exact absurd h hc
        · exact ⟨hc, h⟩
  · rw [if_pos h]
    rcases checkL_code p.b0 p.b1 p.ls with h2 | h2
    · exact absurd h2 h
    · exact ⟨h, h2⟩
theorem mod_wide (w : World) (E : Nat → Addr) (m : Int) (hE : Env w E m) (nm : ByteArray) (a0 a1 al : Option Addr) (n0 c0 n1 c1 nl cl : Nat) (b0 b1 : List Int) (ls : List Ln) (hP : PatI w a0 a1 al n0 n1 nl b0 b1 ls) (hs : ShortM nm n0 n1 nl ls)
    (ao : Option Addr) (nw cw : Nat) (ss : List ByteArray) (hW : Strs w ao nw ss) (hz : ∀ s ∈ ss, s.size ≤ 281474976710656) (hn : nw ≤ 200) :
    Calls Tryz.prog 17 #[patV nm a0 a1 al n0 c0 n1 c1 nl cl, .slice ao nw cw] w fun e w' => Kp w w' ∧ ∃ t0 t1 tl : Tv,
      e = .returned (.tuple #[.agg #[.string (mdf ⟨nm.data.toList, b0, b1, ls⟩ (wb ss)).1, tvv t0, tvv t1, tvv tl], errV E (mdf ⟨nm.data.toList, b0, b1, ls⟩ (wb ss)).2.2.2.2]) ∧
      ∀ X w'', Fr X w' w'' → (∀ x ∈ X, x < w.heap.size) → PatI w'' t0.ao t1.ao tl.ao t0.n t1.n tl.n (mdf ⟨nm.data.toList, b0, b1, ls⟩ (wb ss)).2.1 (mdf ⟨nm.data.toList, b0, b1, ls⟩ (wb ss)).2.2.1 (mdf ⟨nm.data.toList, b0, b1, ls⟩ (wb ss)).2.2.2.1 := by
  refine (modify_wide w E m hE nm a0 a1 al n0 c0 n1 c1 nl cl b0 b1 ls hP hs ao nw cw ss hW hz hn).mono ?_
  rintro e w' ⟨hk, h⟩
  refine ⟨hk, ?_⟩
  rw [Q.mod_eq srtI_srt] at h
  have hc := modR_code ⟨nm.data.toList, b0, b1, ls⟩ (wb ss)
  unfold mdf
  generalize Q.modR ⟨nm.data.toList, b0, b1, ls⟩ (wb ss) = x at h hc
  obtain ⟨q, c⟩ := x
  cases q with
  | none => exact ⟨nilT, nilT, nilT, by rw [h, errV_ptr E hc.1]; rfl, fun _ w'' _ _ => PatI.none w''⟩
  | some q =>
    obtain ⟨t0, t1, tf, td, ts, D, he, hd, h1, hl, hS⟩ := h
    exact ⟨t0, t1, subT tf D.length, by rw [he, errV_nil], fun X w'' hF hX => ((DrS.mk hd h1 hl hS).fr hF (fun x hx => .inl (hX x hx))).pat (by have := hc.1; omega) (fun l hl => by have := hc.2 l hl; omega)⟩
theorem mod_all (w : World) (E : Nat → Addr) (m : Int) (hE : Env w E m) (nm : ByteArray) (a0 a1 al : Option Addr) (n0 c0 n1 c1 nl cl : Nat) (b0 b1 : List Int) (ls : List Ln) (hP : PatI w a0 a1 al n0 n1 nl b0 b1 ls) (hs : ShortP nm n0 n1 nl ls)
    (ao : Option Addr) (nw cw : Nat) (ss : List ByteArray) (hW : Strs w ao nw ss) (hz : ∀ s ∈ ss, s.size ≤ 281474976710656) (hn : nw ≤ 200) :
    Calls Tryz.prog 17 #[patV nm a0 a1 al n0 c0 n1 c1 nl cl, .slice ao nw cw] w fun e w' => Kp w w' ∧ ∃ t0 t1 tl : Tv,
      e = .returned (.tuple #[.agg #[.string (mdf ⟨nm.data.toList, b0, b1, ls⟩ (wb ss)).1, tvv t0, tvv t1, tvv tl], errV E (mdf ⟨nm.data.toList, b0, b1, ls⟩ (wb ss)).2.2.2.2]) ∧
      ∀ X w'', Fr X w' w'' → (∀ x ∈ X, x < w.heap.size) → PatI w'' t0.ao t1.ao tl.ao t0.n t1.n tl.n (mdf ⟨nm.data.toList, b0, b1, ls⟩ (wb ss)).2.1 (mdf ⟨nm.data.toList, b0, b1, ls⟩ (wb ss)).2.2.1 (mdf ⟨nm.data.toList, b0, b1, ls⟩ (wb ss)).2.2.2.1 :=
  mod_wide w E m hE nm a0 a1 al n0 c0 n1 c1 nl cl b0 b1 ls hP hs.wide ao nw cw ss hW hz hn
end Go.Proofs.YtbdphdgomcabmaaGreatDoor

namespace Go.Proofs.YtbdphdgomcabmaaGreatDoor
open Go.RowKit

/-- The cells that a round looks at. -/
structure ClY (bx bq o : Nat) (vl : Value) (f : Int) (vt : Value) (w : World) : Prop where
  p : w.cell? ⟨bx, 3, none⟩ = some vl
  c0 : w.cell? ⟨bq, o, none⟩ = some (iv f)
  c1 : w.cell? ⟨bq, o + 1, none⟩ = some vt
theorem ClY.kp {bx bq o : Nat} {vl vt : Value} {f : Int} {w w' : World} (h : ClY bx bq o vl f vt w) (k : Kp w w') : ClY bx bq o vl f vt w' := ⟨k.cell h.p, k.cell h.c0, k.cell h.c1⟩
end Go.Proofs.YtbdphdgomcabmaaGreatDoor

namespace Go.Proofs.YtbdphdgomcabmaaGreatDoor
open Go.RowKit

/-- What is answered: no, or the pattern with what is known ahead in a list of the call's own. -/
def RBackPost (w : World) (nm : ByteArray) (a0 a1 al : Option Addr) (n0 c0 n1 c1 nl cl : Nat) (b0 b1 : List Int) (l : Ln) (r : List Ln) (e : Ending) (w' : World) : Prop := Kp w w' ∧
  match Q.backR ⟨nm.data.toList, b0, b1, l :: r⟩ with
  | none => e = .returned (.tuple #[patV nm a0 a1 al n0 c0 n1 c1 nl cl, .bool false])
  | some q => ∃ t : Tv, e = .returned (.tuple #[.agg #[.string nm, if l.1 = 0 then tvv t else .slice a0 n0 c0, if l.1 = 0 then .slice a1 n1 c1 else tvv t, tvv (subT ⟨al, nl, cl⟩ 1)], .bool true]) ∧ Own w' w.heap.size 3 1 t.ao t.n t.c ((if l.1 = 0 then q.b0 else q.b1).map iv) ∧
      q.nm = nm.data.toList ∧ q.ls = r ∧ (if l.1 = 0 then q.b1 = b1 else q.b0 = b0) ∧ (if l.1 = 0 then q.b0 else q.b1).length ≤ 2
theorem RBackPost.no {w w' : World} {nm : ByteArray} {a0 a1 al : Option Addr} {n0 c0 n1 c1 nl cl : Nat} {b0 b1 : List Int} {l : Ln} {r : List Ln} (h : Q.backR ⟨nm.data.toList, b0, b1, l :: r⟩ = none) (k : Kp w w') : RBackPost w nm a0 a1 al n0 c0 n1 c1 nl cl b0 b1 l r (.returned (.tuple #[patV nm a0 a1 al n0 c0 n1 c1 nl cl, .bool false])) w' := ⟨k, by rw [h]⟩
end Go.Proofs.YtbdphdgomcabmaaGreatDoor

namespace Go.Proofs.YtbdphdgomcabmaaGreatDoor
open Go.RowKit

def cutAt (s : ByteArray) (c : UInt8) (k : Nat) : Bool := k == s.size || (s.data.toList.getD k 0 == c)
def splitTo (s : ByteArray) (c : UInt8) : Nat → List ByteArray × Nat
  | 0 => ([], 0)
  | k + 1 => if cutAt s c k then ((splitTo s c k).1 ++ [s.extract (splitTo s c k).2 k], k + 1) else splitTo s c k
def splitL (s : ByteArray) (c : UInt8) : List ByteArray := (splitTo s c (s.size + 1)).1
theorem el100 : El Tryz.prog 39 9 (.string ⟨#[]⟩) 1 16 := ⟨Tryz.underlying39, by kernel_rfl, rfl, by decide, by decide⟩
theorem Own.strs {w : World} {base : Nat} {e : TypeId} {ao : Option Addr} {n cap : Nat} {ss : List ByteArray} (h : Own w base e 1 ao n cap (ss.map .string)) : Strs w ao n ss := by
  have hl := h.1
  refine ⟨by simpa using hl, ?_, h.cs⟩
  rcases h.2 with ⟨_, hn⟩ | ⟨g, cap', cur, hv, _, _, h1, h2, _⟩
  · omega
  · exact Nat.le_trans h1 h2

end Go.Proofs.YtbdphdgomcabmaaGreatDoor

namespace Go.Proofs.YtbdphdgomcabmaaGreatDoor
open Go.RowKit

def wordL (t : Nat) : ByteArray :=
  if t = 1 then ⟨#[101]⟩ else if t = 2 then ⟨#[115]⟩ else if t = 3 then ⟨#[101, 101]⟩ else if t = 4 then ⟨#[101, 115]⟩ else if t = 5 then ⟨#[115, 101]⟩ else if t = 6 then ⟨#[115, 115]⟩ else ⟨#[112, 115, 107]⟩
def tokOf (x : ByteArray) : Nat → List Int
  | 0 => []
  | j + 1 => tokOf x j ++ (if ((wordL (j + 1)).toList == x.toList) = true then [((j + 1 : Nat) : Int)] else [])
def tokL (s : ByteArray) : List Int := if s.size = 0 then [] else (splitL s 32).flatMap (tokOf · 7)
end Go.Proofs.YtbdphdgomcabmaaGreatDoor
