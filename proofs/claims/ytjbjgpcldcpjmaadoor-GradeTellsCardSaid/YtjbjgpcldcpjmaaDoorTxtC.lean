/- A row of a side, read. Conditions: the text is shorter than the library's bound; its variable lies there. -/
import Derived.Test.YtjbjgpcldcpjmaaDoorGa2
import Derived.Test.YtjbjgpcldcpjmaaDoorGa3
namespace Go.Proofs.YtjbjgpcldcpjmaaDoor
open Go.RowKit

def badC : List PanicEntry := [{ v := .iface 107 (.agg #[]), recovered := false }]
def LineV (w w' : World) (l : Ln) (e : Ending) : Prop := ∃ t : Tv, e = .returned (.agg #[iv l.1, tvv t]) ∧ Own w' w.heap.size 3 1 t.ao t.n t.c (l.2.map iv)
/-- What reading a row of a side leaves. -/
def LinePost (w : World) (s : Q.Bt) (e : Ending) (w' : World) : Prop := Kp w w' ∧ match Q.lineP s with
  | some l => LineV w w' l e
  | none => e = badE
theorem wordsT_take {ws : List Q.Bt} : ∀ {k : Nat} {x : Q.Bt} {ts : List Int} {t : Int}, ws[k]? = some x → Q.wordsT (ws.take k) = some ts → Q.wordT x = some t → Q.wordsT (ws.take (k + 1)) = some (ts ++ [t]) := by
  induction ws with
  | nil => intro k x ts t h; simp at h
  | cons a r ih =>
    intro k x ts t h h1 h2
    rcases k with _ | k
    · simp at h
      subst h
      simp only [List.take_zero, Q.wordsT, Option.some.injEq] at h1
      subst h1
      simp [Q.wordsT, h2]
    · simp only [List.getElem?_cons_succ] at h
      simp only [List.take_succ_cons, Q.wordsT] at h1 ⊢
      cases ha : Q.wordT a with
      | none => rw [ha] at h1; cases h1
      | some u =>
        rw [ha] at h1
        cases hr : Q.wordsT (r.take k) with
        | none => rw [hr] at h1; cases h1
        | some l =>
          rw [hr] at h1
          simp only [Option.some.injEq] at h1
          subst h1
          rw [ih h hr h2]
          rfl
theorem wordsT_bad {ws : List Q.Bt} : ∀ {k : Nat} {x : Q.Bt}, ws[k]? = some x → Q.wordT x = none → Q.wordsT ws = none := by
  induction ws with
  | nil => intro k x h; simp at h
  | cons a r ih =>
    intro k x h h2
    rcases k with _ | k
    · simp at h
      subst h
      simp [Q.wordsT, h2]
    · simp only [List.getElem?_cons_succ] at h
      simp only [Q.wordsT, ih h h2]
      cases Q.wordT a <;> rfl
/-- The pieces of a row. -/
def pcs (s : ByteArray) : List ByteArray := Lib.splitB ⟨#[44, 32]⟩ 0 (Lib.countB s ⟨#[44, 32]⟩) s
theorem pcs_data (s : ByteArray) : (pcs s).map (·.data.toList) = Lib.split s.data.toList Q.comma := by
  unfold pcs
  rw [Lib.splitB_data]
  rfl
theorem pcs_length (s : ByteArray) : (pcs s).length = Lib.countB s ⟨#[44, 32]⟩ + 1 := Lib.splitB_all _ (by decide) 0 _ s rfl
/-- A block's two cells, which may be written. -/
structure Two2 (w : World) (b : Nat) (x y : Value) : Prop where
  c0 : w.cell? ⟨b, 0, none⟩ = some x
  c1 : w.cell? ⟨b, 1, none⟩ = some y
  f0 : w.frozen? ⟨b, 0, none⟩ = false
  f1 : w.frozen? ⟨b, 1, none⟩ = false
theorem Two2.new (w : World) (x y : Value) (t : TypeId) : Two2 (w.alloc (.cells #[x, y] t)) w.heap.size x y := by
  refine ⟨?_, ?_, ?_, ?_⟩
  · rw [World.cell?_alloc_at _ _ _ _ rfl]; rfl
  · rw [World.cell?_alloc_at _ _ _ _ rfl]; rfl
  · exact World.frozen?_alloc_at _ _ _ _ rfl
  · exact World.frozen?_alloc_at _ _ _ _ rfl
theorem Two2.fr {X : List Nat} {w w' : World} {b : Nat} {x y : Value} (h : Two2 w b x y) (k : Fr X w w') (hb : b ∉ X) : Two2 w' b x y := ⟨k.cell h.c0 hb, k.cell h.c1 hb, k.free h.c0 h.f0 hb, k.free h.c1 h.f1 hb⟩
theorem Two2.kp {w w' : World} {b : Nat} {x y : Value} (h : Two2 w b x y) (k : Kp w w') : Two2 w' b x y := h.fr (Fr.of_kp k) (by simp)
theorem Two2.set1 {w : World} {b : Nat} {x y : Value} (h : Two2 w b x y) (z : Value) : Two2 (w.setCell ⟨b, 1, none⟩ z) b x z :=
  ⟨by rw [World.cell?_setCell_other _ _ _ _ (by simp)]; exact h.c0, World.cell?_setCell_same _ _ _ h.c1, by rw [World.frozen?_setCell]; exact h.f0, by rw [World.frozen?_setCell]; exact h.f1⟩
theorem Fr.set2 (w : World) (b : Nat) (x y : Value) : Fr [b] w ((w.setCell ⟨b, 0, none⟩ x).setCell ⟨b, 1, none⟩ y) := (Fr.set w ⟨b, 0, none⟩ x).trans (Fr.set _ ⟨b, 1, none⟩ y)
theorem Two2.set2 {w : World} {b : Nat} {x y : Value} (h : Two2 w b x y) (u v : Value) : ∃ w', w' = (w.setCell ⟨b, 0, none⟩ u).setCell ⟨b, 1, none⟩ v ∧ w'.cell? ⟨b, 0, none⟩ = some u ∧ w'.cell? ⟨b, 1, none⟩ = some v := by
  refine ⟨_, rfl, ?_, ?_⟩
  · rw [World.cell?_setCell_other _ _ _ _ (by simp)]; exact World.cell?_setCell_same _ _ _ h.c0
  · exact World.cell?_setCell_same _ _ _ (by rw [World.cell?_setCell_other _ _ _ _ (by simp)]; exact h.c1)

set_option maxRecDepth 100000 in
set_option maxHeartbeats 8000000 in
theorem line_any (s : ByteArray) (m : Int) (w : World) (hs : s.size < 4294967281) (hm : MaxV w m) : Calls Tryd.prog 61 #[.string s] w (LinePost w s.data.toList) := by
  have HA := Lib.hid (fun w' => Tryd.strings_CutPrefix s ⟨#[32, 32, 45, 62, 32]⟩ w')
  have HB := Lib.hid (fun w' => Tryd.strings_CutPrefix s ⟨#[32, 32, 60, 45, 32]⟩ w')
  have hsl := Lib.size_eq s
  have Hl := Lib.hid (And.intro (show (⟨#[32, 32, 45, 62, 32]⟩ : ByteArray).data.toList = Q.outR from rfl) (show (⟨#[32, 32, 60, 45, 32]⟩ : ByteArray).data.toList = Q.inR from rfl))
  rw [Hl.out.1] at HA
  rw [Hl.out.2] at HB
  clear Hl
  by_cases hA : Lib.hasPrefix s.data.toList Q.outR = true
  · obtain ⟨r, hr, hrl⟩ : ∃ r, Lib.trimPrefix s.data.toList Q.outR = r ∧ r.length ≤ s.size := ⟨_, rfl, by have := Lib.trimPrefix_le s.data.toList Q.outR; omega⟩
    rw [hA, hr] at HA
    have Hr := Lib.hid (show Q.lineP s.data.toList = (Q.wordsT (Lib.split r Q.comma)).map (fun l => (0, l)) by unfold Q.lineP; rw [if_pos hA, ← hr]; unfold Lib.trimPrefix; rw [if_pos hA]; rfl)
    clear hA hr hsl
    change Hid (∀ w', Calls _ _ _ _ (fun e w'' => e = .returned (.tuple #[.string (bs r), .bool true]) ∧ w'' = w')) at HA
    go_enter Tryd.func61, Tryd.ntmps61
    go_wp2_with fail
    (with_reducible refine (HA.out _).mono ?_)
    rintro e w1 ⟨rfl, rfl⟩
    go_upto_region 7 with fail
    obtain ⟨w2, hw2⟩ : ∃ w2, w2 = (w.alloc (.cells #[iv 0, .slice none 0 0] 43)).alloc (.cells #[iv 0, .slice none 0 0] 43) := ⟨_, rfl⟩
    obtain ⟨b3, hb3⟩ : ∃ b3, b3 = w.heap.size + 1 := ⟨_, rfl⟩
    have hk2 : Kp w w2 := by rw [hw2]; exact Kp.trans (Kp.new _ _) (Kp.new _ _)
    have hret : Two2 w2 w.heap.size (iv 0) (.slice none 0 0) := by
      rw [hw2]
      exact (Two2.new w (iv 0) (.slice none 0 0) 43).kp (Kp.new _ _)
    have hout : Two2 w2 b3 (iv 0) (.slice none 0 0) := by
      rw [hw2, hb3]
      have := Two2.new (w.alloc (.cells #[iv 0, .slice none 0 0] 43)) (iv 0) (.slice none 0 0) 43
      rwa [World.size_alloc] at this
    have hs2 : b3 < w2.heap.size := by rw [hw2, hb3]; simp
    rw [← hw2, ← hb3]
    clear hw2
    have hb23 : w.heap.size < b3 := by omega
    obtain ⟨b2, hb2⟩ : ∃ b2, b2 = w.heap.size := ⟨_, rfl⟩
    rw [← hb2] at hret ⊢
    have hb2w : w.heap.size ≤ b2 := by omega
    have hb2w' : b2 < b3 := by omega
    clear hb2 hb3
    have hrs : (bs r).size < 4294967281 := by rw [bs_size]; omega
    have HSp := Lib.hid (Tryd.strings_Split (bs r) ⟨#[44, 32]⟩ m w2 hrs (hk2.maxV hm) (by decide))
    have hpl := pcs_length (bs r)
    have hcl : Lib.countB (bs r) ⟨#[44, 32]⟩ ≤ (bs r).size := Lib.countB_le _ (by decide) _ _ (Nat.le_refl _)
    have Hpd := Lib.hid (pcs_data (bs r))
    rw [← hpl] at HSp
    change Hid (Calls _ _ _ _ (fun e w' => e = .returned (.slice (some ⟨w2.heap.size, 0, none⟩) (pcs (bs r)).length (pcs (bs r)).length) ∧ w' = w2.alloc (.cells ((pcs (bs r)).map Value.string).toArray 9))) at HSp
    have hnl : (pcs (bs r)).length ≤ 4294967281 := by omega
    generalize pcs (bs r) = ps at *
    obtain ⟨n, hn⟩ : ∃ n, n = ps.length := ⟨_, rfl⟩
    rw [← hn] at HSp hnl
    clear hpl hcl hrs
    have hkp := Kp.new w2 (.cells (ps.map Value.string).toArray 9)
    have hps : ∀ j (h : j < ps.length), (w2.alloc (.cells (ps.map Value.string).toArray 9)).cell? ⟨w2.heap.size, j, none⟩ = some (.string ps[j]) := fun j h => by
      rw [World.cell?_alloc_at _ _ _ _ rfl]
      simp [h]
    have hre3 := hret.kp hkp
    have hou3 := hout.kp hkp
    have hk3 := Kp.trans hk2 hkp
    have hs3 : b3 < (w2.alloc (.cells (ps.map Value.string).toArray 9)).heap.size := Nat.lt_of_lt_of_le hs2 hkp.size
    have hbp : w2.heap.size < (w2.alloc (.cells (ps.map Value.string).toArray 9)).heap.size := by simp
    clear hret hout hkp hk2
    go_wp2_with fail
    (with_reducible refine HSp.out.mono ?_)
    rintro e w3 ⟨rfl, hw3⟩
    rw [← hw3] at hps hre3 hou3 hk3 hs3 hbp
    clear hw3
    obtain ⟨bp, hbq⟩ : ∃ bp, bp = w2.heap.size := ⟨_, rfl⟩
    rw [← hbq] at hps hs2 hbp ⊢
    clear hbq
    have Hn := Lib.hid hn
    have Hps := Lib.hid hps
    have Hre := Lib.hid hre3
    have Hk3 := Lib.hid hk3
    clear hn hps hre3 hk3
    go_wp2_with fail
    go_loopw [27] (fun i wr => ∃ (k : Nat) (ts : List Int) (ao : Option Addr) (cap : Nat), k ≤ n ∧ i = .int .i64 (k : Nat) ∧ Fr [b3] w3 wr ∧ Two2 wr b3 (iv 0) (.slice ao k cap) ∧ Own wr w3.heap.size 3 1 ao k cap (ts.map iv) ∧ Q.wordsT ((ps.map (·.data.toList)).take k) = some ts) (fun i _ => n - (intOf i).toNat)
    case atStart => exact ⟨0, [], none, 0, by omega, rfl, Fr.refl _ _, hou3, Own.nil _ _ _ _, rfl⟩
    case round =>
      clear hou3
      obtain ⟨k, ts, ao, cap, hk, rfl, hF, hO, hW, hT⟩ := hrel
      by_cases hlt : k < n
      · have hkp : k < ps.length := by rw [← Hn.out]; exact hlt
        obtain ⟨x, hx⟩ : ∃ x, ps[k]? = some x := ⟨_, List.getElem?_eq_getElem hkp⟩
        have hc : wr.cell? ⟨bp, k, none⟩ = some (.string x) := by
          refine hF.cell ?_ (by simp; omega)
          rw [Hps.out k hkp]
          rw [List.getElem?_eq_getElem hkp] at hx
          rw [Option.some.inj hx]
        have hxd : (ps.map (·.data.toList))[k]? = some x.data.toList := by rw [List.getElem?_map, hx]; rfl
        have Hxd := Lib.hid hxd
        have HT := Lib.hid hT
        clear hxd hT hx
        go_upto_region 10 with fail
        clear hc
        have Hbad := Lib.hid (fun w' (hk' : Kp w w') (hn : Q.lineP s.data.toList = none) => show LinePost w s.data.toList badE w' from ⟨hk', by rw [hn]⟩)
        refine anyP_start (fun w => w.cell? ⟨b3, 1, none⟩ = some (.slice ao k cap)) 7 (fun a => a.defers = []) (fun c w' => c = badC ∧ Kp w w' ∧ Q.lineP s.data.toList = none) (by kernel_rfl) ?hp ?_
        case hp =>
          rintro c a w' hd ⟨rfl, hk', hn'⟩
          exact ⟨hd, Hbad.out _ hk' hn'⟩
        have hI : ∀ ops : Array Oper, Puts ops (fun a => a.defers = []) := fun _ _ o _ a v h => by
          unfold Act.put at h
          cases hd : o.dst <;> rw [hd] at h <;> exact h
        generalize hwq : wr.drew = wd
        have hkd : Kp wr wd := hwq ▸ (⟨rfl, rfl, rfl, Nat.le_refl _, fun _ _ => rfl⟩ : Kp wr wr.drew)
        clear hwq
        have hS := hkd.cell hO.c1
        refine anyP_take (hI _) [0, 2] (by kernel_rfl) hS ?_
        simp only [opsAt, List.getElem?_toArray, List.getElem?_cons_zero, List.getElem?_cons_succ]
        repeat (go_big_quiet_step (fail))
        refine wpQuiet_nil ?_
        refine anyP_load (hI _) 1 32 (.slice ao k cap) rfl rfl (by kernel_rfl) hS (fun w h => exec_load22 h rfl rfl) ?_
        simp only [Act.put, List.setIfInBounds_toArray, List.set_cons_zero, List.set_cons_succ]
        refine anyP_one 3 (by kernel_rfl) ?_
        simp only [opsAt, List.getElem?_toArray, List.getElem?_cons_zero, List.getElem?_cons_succ]
        have hkw : Kp w wr := ((Fr.of_kp Hk3.out).step hF (fun j hj => .inr (by simp at hj; omega))).kp
        have Hkw := Lib.hid (Kp.trans hkw hkd)
        clear hkw
        cases hw : Q.wordT x.data.toList with
        | none =>
          have hTk := token_any x wd
          unfold TokPost at hTk
          rw [hw] at hTk
          have HTk := Lib.hid hTk
          have Hno := Lib.hid (show Q.lineP s.data.toList = none by rw [Hr.out, ← bs_list r, ← Hpd.out, wordsT_bad Hxd.out hw]; rfl)
          clear hTk hw hS
          go_wp2_with fail
          (with_reducible refine HTk.out.mono ?_)
          rintro e w4 ⟨rfl, hk4⟩
          exact ⟨rfl, Kp.trans Hkw.out hk4, Hno.out⟩
        | some t =>
          have hTk := token_any x wd
          unfold TokPost at hTk
          rw [hw] at hTk
          have HTk := Lib.hid hTk
          have Hts := Lib.hid (wordsT_take Hxd.out HT.out hw)
          clear hTk hw
          go_wp2_with fail
          (with_reducible refine HTk.out.mono ?_)
          rintro e w4 ⟨rfl, hk4⟩
          have hS4 := hk4.cell hS
          go_wp2_with fail
          refine ⟨fun _ => hS4, ?_⟩
          refine anyP_one 4 (by kernel_rfl) ?_
          simp only [opsAt, List.getElem?_toArray, List.getElem?_cons_zero, List.getElem?_cons_succ]
          have hkn := Kp.new w4 (.cells #[iv t] 3)
          have hcs : Cs (w4.alloc (.cells #[iv t] 3)) (some ⟨w4.heap.size, 0, none⟩) [iv t] := Cs.new w4 [iv t] 3 (0, 0)
          have hS5 := hkn.cell hS4
          have hk45 : Kp wr (w4.alloc (.cells #[iv t] 3)) := Kp.trans (Kp.trans hkd hk4) hkn
          clear hS hS4
          go_wp2_with fail
          refine ⟨fun _ => hS5, ?_⟩
          generalize w4.alloc (.cells #[iv t] 3) = w5 at *
          obtain ⟨b4, hb4⟩ : ∃ b4, b4 = w4.heap.size := ⟨_, rfl⟩
          rw [← hb4] at hcs ⊢
          clear hb4 hkn
          refine anyP_one 5 (by kernel_rfl) ?_
          simp only [opsAt, List.getElem?_toArray, List.getElem?_cons_zero, List.getElem?_cons_succ]
          have hbs : w3.heap.size ≤ w5.heap.size := Nat.le_trans hF.size hk45.size
          go_wp2_with (at_builtin; go_loud (refine wpList_app rfl (.tmp 32) (.tmp 35) 22 rfl el22 w3.heap.size rfl (hW.keep hk45) rfl [iv t] rfl hcs (by simp [Value.oneCell']) (k + 1) rfl ((ts ++ [t]).map iv) (by simp) (by omega) hbs ?_); intro ao2 cap2 w6 ha)
          have hn3 : b3 ∉ blkL ao := fun h => by have := (hW.lt b3 (mem_blkL.1 h)).1; omega
          have hS6 := ha.fr.cell hS5 hn3
          refine ⟨fun _ => hS6, ?_⟩
          refine anyP_take (hI _) [6] (by kernel_rfl) hS6 ?_
          simp only [opsAt, List.getElem?_toArray, List.getElem?_cons_zero, List.getElem?_cons_succ]
          repeat (go_big_quiet_step (fail))
          refine wpQuiet_nil ?_
          refine anyP_one 7 (by kernel_rfl) ?_
          simp only [opsAt, List.getElem?_toArray, List.getElem?_cons_zero, List.getElem?_cons_succ]
          have hO6 := (hO.kp hk45).fr ha.fr hn3
          have hset := Fr.set w6 ⟨b3, 1, none⟩ (.slice ao2 (k + 1) cap2)
          have hn4 : ∀ j ∈ blkL ao2, j ∉ [b3] := fun j hj hq => by
            simp only [List.mem_singleton] at hq
            subst hq
            rcases ha.fresh _ (mem_blkL.1 hj) with h | h
            · exact hn3 (mem_blkL.2 h)
            · have := hF.size; have := hk45.size; omega
          have hF36 : Fr [b3] w3 w6 := (hF.trans ((Fr.of_kp hk45).mono (by simp))).step ha.fr (fun j hj => .inr (hW.lt j (mem_blkL.1 hj)).1)
          have Hfin := Lib.hid (And.intro (hF36.trans hset) (And.intro (hO6.set1 (.slice ao2 (k + 1) cap2)) (And.intro (hset.own ha.own hn4) Hts.out)))
          have hf6 := hO6.f1
          clear hset hO6 hn4 hO hS5 ha hcs hW hF hn3 hF36
          go_wp2_with fail
          refine ⟨fun h => absurd rfl h, ?_⟩
          refine anyP_end (by kernel_rfl) ?_
          clear hS6 hf6
          go_wp2_with fail
          go_roundw
          case rel => exact ⟨k + 1, ts ++ [t], ao2, cap2, by omega, by go_num, Hfin.out⟩
          case measure => simp [intOf]; omega
      · obtain rfl : k = n := by omega
        have Hyes := Lib.hid (show Q.lineP s.data.toList = some (0, ts) by
          rw [List.take_of_length_le (by rw [List.length_map, ← Hn.out]; exact Nat.le_refl _), Hpd.out, bs_list] at hT
          rw [Hr.out, hT]; rfl)
        have hR := Hre.out.fr hF (by simp; omega)
        have hkw : Kp w wr := ((Fr.of_kp Hk3.out).step hF (fun j hj => .inr (by simp at hj; omega))).kp
        have hset := Fr.set2 wr b2 (iv 0) (.slice ao k cap)
        have hnb : ∀ j ∈ blkL ao, j ∉ [b2] := fun j hj hq => by
          have := (hW.lt j (mem_blkL.1 hj)).1
          simp at hq; omega
        have Hfin := Lib.hid (And.intro ((Fr.of_kp hkw).step hset (fun j hj => .inr (by simp at hj; omega))).kp ((hset.own hW hnb).mono (fun j hj => by have := (hW.lt j hj).1; have := Hk3.out.size; omega) : Own _ w.heap.size 3 1 ao k cap (ts.map iv)))
        obtain ⟨wf, hwf, c0, c1⟩ := hR.set2 (iv 0) (.slice ao k cap)
        rw [← hwf] at Hfin
        have Hwf := Lib.hid hwf
        obtain ⟨x0, x1, x2, x3⟩ := hR
        obtain ⟨y0, y1, _, _⟩ := hO
        clear hset hnb hwf hF hW hT hkw
        go_wp2_with fail
        rw [← Hwf.out]
        show bodyPost Tryd.prog Tryd.f61 (LinePost w s.data.toList) .ret _ _
        refine bodyPost_ret (v := .agg #[iv 0, .slice ao k cap]) (by simp [results, Tryd.results61, go_sem, c0, c1]) rfl ?_
        refine ⟨Hfin.out.1, ?_⟩
        rw [Hyes.out]
        exact ⟨⟨ao, k, cap⟩, rfl, Hfin.out.2⟩
  · by_cases hB : Lib.hasPrefix s.data.toList Q.inR = true
    · obtain ⟨r, hr, hrl⟩ : ∃ r, Lib.trimPrefix s.data.toList Q.inR = r ∧ r.length ≤ s.size := ⟨_, rfl, by have := Lib.trimPrefix_le s.data.toList Q.inR; omega⟩
      have hA' : Lib.hasPrefix s.data.toList Q.outR = false := by simpa using hA
      rw [hA'] at HA
      rw [hB, hr] at HB
      have Hr := Lib.hid (show Q.lineP s.data.toList = (Q.wordsT (Lib.split r Q.comma)).map (fun l => (1, l)) by unfold Q.lineP; rw [if_neg hA, if_pos hB, ← hr]; unfold Lib.trimPrefix; rw [if_pos hB]; rfl)
      clear hA hA' hB hr hsl
      change Hid (∀ w', Calls _ _ _ _ (fun e w'' => e = .returned (.tuple #[.string (bs r), .bool true]) ∧ w'' = w')) at HB
      go_enter Tryd.func61, Tryd.ntmps61
      go_wp2_with fail
      (with_reducible refine (HA.out _).mono ?_)
      rintro e w1 ⟨rfl, rfl⟩
      go_wp2_with fail
      (with_reducible refine (HB.out _).mono ?_)
      rintro e w1 ⟨rfl, rfl⟩
      go_wp2_with fail
      (with_reducible refine (ask_true _).mono ?_)
      rintro e w1 ⟨rfl, rfl⟩
      go_upto_region 7 with fail
      obtain ⟨w2, hw2⟩ : ∃ w2, w2 = (w.alloc (.cells #[iv 0, .slice none 0 0] 43)).alloc (.cells #[iv 1, .slice none 0 0] 43) := ⟨_, rfl⟩
      obtain ⟨b3, hb3⟩ : ∃ b3, b3 = w.heap.size + 1 := ⟨_, rfl⟩
      have hk2 : Kp w w2 := by rw [hw2]; exact Kp.trans (Kp.new _ _) (Kp.new _ _)
      have hret : Two2 w2 w.heap.size (iv 0) (.slice none 0 0) := by
        rw [hw2]
        exact (Two2.new w (iv 0) (.slice none 0 0) 43).kp (Kp.new _ _)
      have hout : Two2 w2 b3 (iv 1) (.slice none 0 0) := by
        rw [hw2, hb3]
        have := Two2.new (w.alloc (.cells #[iv 0, .slice none 0 0] 43)) (iv 1) (.slice none 0 0) 43
        rwa [World.size_alloc] at this
      have hs2 : b3 < w2.heap.size := by rw [hw2, hb3]; simp
      rw [← hw2, ← hb3]
      clear hw2
      have hb23 : w.heap.size < b3 := by omega
      obtain ⟨b2, hb2⟩ : ∃ b2, b2 = w.heap.size := ⟨_, rfl⟩
      rw [← hb2] at hret ⊢
      have hb2w : w.heap.size ≤ b2 := by omega
      have hb2w' : b2 < b3 := by omega
      clear hb2 hb3
      have hrs : (bs r).size < 4294967281 := by rw [bs_size]; omega
      have HSp := Lib.hid (Tryd.strings_Split (bs r) ⟨#[44, 32]⟩ m w2 hrs (hk2.maxV hm) (by decide))
      have hpl := pcs_length (bs r)
      have hcl : Lib.countB (bs r) ⟨#[44, 32]⟩ ≤ (bs r).size := Lib.countB_le _ (by decide) _ _ (Nat.le_refl _)
      have Hpd := Lib.hid (pcs_data (bs r))
      rw [← hpl] at HSp
      change Hid (Calls _ _ _ _ (fun e w' => e = .returned (.slice (some ⟨w2.heap.size, 0, none⟩) (pcs (bs r)).length (pcs (bs r)).length) ∧ w' = w2.alloc (.cells ((pcs (bs r)).map Value.string).toArray 9))) at HSp
      have hnl : (pcs (bs r)).length ≤ 4294967281 := by omega
      generalize pcs (bs r) = ps at *
      obtain ⟨n, hn⟩ : ∃ n, n = ps.length := ⟨_, rfl⟩
      rw [← hn] at HSp hnl
      clear hpl hcl hrs
      have hkp := Kp.new w2 (.cells (ps.map Value.string).toArray 9)
      have hps : ∀ j (h : j < ps.length), (w2.alloc (.cells (ps.map Value.string).toArray 9)).cell? ⟨w2.heap.size, j, none⟩ = some (.string ps[j]) := fun j h => by
        rw [World.cell?_alloc_at _ _ _ _ rfl]
        simp [h]
      have hre3 := hret.kp hkp
      have hou3 := hout.kp hkp
      have hk3 := Kp.trans hk2 hkp
      have hs3 : b3 < (w2.alloc (.cells (ps.map Value.string).toArray 9)).heap.size := Nat.lt_of_lt_of_le hs2 hkp.size
      have hbp : w2.heap.size < (w2.alloc (.cells (ps.map Value.string).toArray 9)).heap.size := by simp
      clear hret hout hkp hk2
      go_wp2_with fail
      (with_reducible refine HSp.out.mono ?_)
      rintro e w3 ⟨rfl, hw3⟩
      rw [← hw3] at hps hre3 hou3 hk3 hs3 hbp
      clear hw3
      obtain ⟨bp, hbq⟩ : ∃ bp, bp = w2.heap.size := ⟨_, rfl⟩
      rw [← hbq] at hps hs2 hbp ⊢
      clear hbq
      have Hn := Lib.hid hn
      have Hps := Lib.hid hps
      have Hre := Lib.hid hre3
      have Hk3 := Lib.hid hk3
      clear hn hps hre3 hk3
      go_wp2_with fail
      go_loopw [27] (fun i wr => ∃ (k : Nat) (ts : List Int) (ao : Option Addr) (cap : Nat), k ≤ n ∧ i = .int .i64 (k : Nat) ∧ Fr [b3] w3 wr ∧ Two2 wr b3 (iv 1) (.slice ao k cap) ∧ Own wr w3.heap.size 3 1 ao k cap (ts.map iv) ∧ Q.wordsT ((ps.map (·.data.toList)).take k) = some ts) (fun i _ => n - (intOf i).toNat)
      case atStart => exact ⟨0, [], none, 0, by omega, rfl, Fr.refl _ _, hou3, Own.nil _ _ _ _, rfl⟩
      case round =>
        clear hou3
        obtain ⟨k, ts, ao, cap, hk, rfl, hF, hO, hW, hT⟩ := hrel
        by_cases hlt : k < n
        · have hkp : k < ps.length := by rw [← Hn.out]; exact hlt
          obtain ⟨x, hx⟩ : ∃ x, ps[k]? = some x := ⟨_, List.getElem?_eq_getElem hkp⟩
          have hc : wr.cell? ⟨bp, k, none⟩ = some (.string x) := by
            refine hF.cell ?_ (by simp; omega)
            rw [Hps.out k hkp]
            rw [List.getElem?_eq_getElem hkp] at hx
            rw [Option.some.inj hx]
          have hxd : (ps.map (·.data.toList))[k]? = some x.data.toList := by rw [List.getElem?_map, hx]; rfl
          have Hxd := Lib.hid hxd
          have HT := Lib.hid hT
          clear hxd hT hx
          go_upto_region 10 with fail
          clear hc
          have Hbad := Lib.hid (fun w' (hk' : Kp w w') (hn : Q.lineP s.data.toList = none) => show LinePost w s.data.toList badE w' from ⟨hk', by rw [hn]⟩)
          refine anyP_start (fun w => w.cell? ⟨b3, 1, none⟩ = some (.slice ao k cap)) 7 (fun a => a.defers = []) (fun c w' => c = badC ∧ Kp w w' ∧ Q.lineP s.data.toList = none) (by kernel_rfl) ?hp ?_
          case hp =>
            rintro c a w' hd ⟨rfl, hk', hn'⟩
            exact ⟨hd, Hbad.out _ hk' hn'⟩
          have hI : ∀ ops : Array Oper, Puts ops (fun a => a.defers = []) := fun _ _ o _ a v h => by
            unfold Act.put at h
            cases hd : o.dst <;> rw [hd] at h <;> exact h
          generalize hwq : wr.drew = wd
          have hkd : Kp wr wd := hwq ▸ (⟨rfl, rfl, rfl, Nat.le_refl _, fun _ _ => rfl⟩ : Kp wr wr.drew)
          clear hwq
          have hS := hkd.cell hO.c1
          refine anyP_take (hI _) [0, 2] (by kernel_rfl) hS ?_
          simp only [opsAt, List.getElem?_toArray, List.getElem?_cons_zero, List.getElem?_cons_succ]
          repeat (go_big_quiet_step (fail))
          refine wpQuiet_nil ?_
          refine anyP_load (hI _) 1 32 (.slice ao k cap) rfl rfl (by kernel_rfl) hS (fun w h => exec_load22 h rfl rfl) ?_
          simp only [Act.put, List.setIfInBounds_toArray, List.set_cons_zero, List.set_cons_succ]
          refine anyP_one 3 (by kernel_rfl) ?_
          simp only [opsAt, List.getElem?_toArray, List.getElem?_cons_zero, List.getElem?_cons_succ]
          have hkw : Kp w wr := ((Fr.of_kp Hk3.out).step hF (fun j hj => .inr (by simp at hj; omega))).kp
          have Hkw := Lib.hid (Kp.trans hkw hkd)
          clear hkw
          cases hw : Q.wordT x.data.toList with
          | none =>
            have hTk := token_any x wd
            unfold TokPost at hTk
            rw [hw] at hTk
            have HTk := Lib.hid hTk
            have Hno := Lib.hid (show Q.lineP s.data.toList = none by rw [Hr.out, ← bs_list r, ← Hpd.out, wordsT_bad Hxd.out hw]; rfl)
            clear hTk hw hS
            go_wp2_with fail
            (with_reducible refine HTk.out.mono ?_)
            rintro e w4 ⟨rfl, hk4⟩
            exact ⟨rfl, Kp.trans Hkw.out hk4, Hno.out⟩
          | some t =>
            have hTk := token_any x wd
            unfold TokPost at hTk
            rw [hw] at hTk
            have HTk := Lib.hid hTk
            have Hts := Lib.hid (wordsT_take Hxd.out HT.out hw)
            clear hTk hw
            go_wp2_with fail
            (with_reducible refine HTk.out.mono ?_)
            rintro e w4 ⟨rfl, hk4⟩
            have hS4 := hk4.cell hS
            go_wp2_with fail
            refine ⟨fun _ => hS4, ?_⟩
            refine anyP_one 4 (by kernel_rfl) ?_
            simp only [opsAt, List.getElem?_toArray, List.getElem?_cons_zero, List.getElem?_cons_succ]
            have hkn := Kp.new w4 (.cells #[iv t] 3)
            have hcs : Cs (w4.alloc (.cells #[iv t] 3)) (some ⟨w4.heap.size, 0, none⟩) [iv t] := Cs.new w4 [iv t] 3 (0, 0)
            have hS5 := hkn.cell hS4
            have hk45 : Kp wr (w4.alloc (.cells #[iv t] 3)) := Kp.trans (Kp.trans hkd hk4) hkn
            clear hS hS4
            go_wp2_with fail
            refine ⟨fun _ => hS5, ?_⟩
            generalize w4.alloc (.cells #[iv t] 3) = w5 at *
            obtain ⟨b4, hb4⟩ : ∃ b4, b4 = w4.heap.size := ⟨_, rfl⟩
            rw [← hb4] at hcs ⊢
            clear hb4 hkn
            refine anyP_one 5 (by kernel_rfl) ?_
            simp only [opsAt, List.getElem?_toArray, List.getElem?_cons_zero, List.getElem?_cons_succ]
            have hbs : w3.heap.size ≤ w5.heap.size := Nat.le_trans hF.size hk45.size
            go_wp2_with (at_builtin; go_loud (refine wpList_app rfl (.tmp 32) (.tmp 35) 22 rfl el22 w3.heap.size rfl (hW.keep hk45) rfl [iv t] rfl hcs (by simp [Value.oneCell']) (k + 1) rfl ((ts ++ [t]).map iv) (by simp) (by omega) hbs ?_); intro ao2 cap2 w6 ha)
            have hn3 : b3 ∉ blkL ao := fun h => by have := (hW.lt b3 (mem_blkL.1 h)).1; omega
            have hS6 := ha.fr.cell hS5 hn3
            refine ⟨fun _ => hS6, ?_⟩
            refine anyP_take (hI _) [6] (by kernel_rfl) hS6 ?_
            simp only [opsAt, List.getElem?_toArray, List.getElem?_cons_zero, List.getElem?_cons_succ]
            repeat (go_big_quiet_step (fail))
            refine wpQuiet_nil ?_
            refine anyP_one 7 (by kernel_rfl) ?_
            simp only [opsAt, List.getElem?_toArray, List.getElem?_cons_zero, List.getElem?_cons_succ]
            have hO6 := (hO.kp hk45).fr ha.fr hn3
            have hset := Fr.set w6 ⟨b3, 1, none⟩ (.slice ao2 (k + 1) cap2)
            have hn4 : ∀ j ∈ blkL ao2, j ∉ [b3] := fun j hj hq => by
              simp only [List.mem_singleton] at hq
              subst hq
              rcases ha.fresh _ (mem_blkL.1 hj) with h | h
              · exact hn3 (mem_blkL.2 h)
              · have := hF.size; have := hk45.size; omega
            have hF36 : Fr [b3] w3 w6 := (hF.trans ((Fr.of_kp hk45).mono (by simp))).step ha.fr (fun j hj => .inr (hW.lt j (mem_blkL.1 hj)).1)
            have Hfin := Lib.hid (And.intro (hF36.trans hset) (And.intro (hO6.set1 (.slice ao2 (k + 1) cap2)) (And.intro (hset.own ha.own hn4) Hts.out)))
            have hf6 := hO6.f1
            clear hset hO6 hn4 hO hS5 ha hcs hW hF hn3 hF36
            go_wp2_with fail
            refine ⟨fun h => absurd rfl h, ?_⟩
            refine anyP_end (by kernel_rfl) ?_
            clear hS6 hf6
            go_wp2_with fail
            go_roundw
            case rel => exact ⟨k + 1, ts ++ [t], ao2, cap2, by omega, by go_num, Hfin.out⟩
            case measure => simp [intOf]; omega
        · obtain rfl : k = n := by omega
          have Hyes := Lib.hid (show Q.lineP s.data.toList = some (1, ts) by
            rw [List.take_of_length_le (by rw [List.length_map, ← Hn.out]; exact Nat.le_refl _), Hpd.out, bs_list] at hT
            rw [Hr.out, hT]; rfl)
          have hR := Hre.out.fr hF (by simp; omega)
          have hkw : Kp w wr := ((Fr.of_kp Hk3.out).step hF (fun j hj => .inr (by simp at hj; omega))).kp
          have hset := Fr.set2 wr b2 (iv 1) (.slice ao k cap)
          have hnb : ∀ j ∈ blkL ao, j ∉ [b2] := fun j hj hq => by
            have := (hW.lt j (mem_blkL.1 hj)).1
            simp at hq; omega
          have Hfin := Lib.hid (And.intro ((Fr.of_kp hkw).step hset (fun j hj => .inr (by simp at hj; omega))).kp ((hset.own hW hnb).mono (fun j hj => by have := (hW.lt j hj).1; have := Hk3.out.size; omega) : Own _ w.heap.size 3 1 ao k cap (ts.map iv)))
          obtain ⟨wf, hwf, c0, c1⟩ := hR.set2 (iv 1) (.slice ao k cap)
          rw [← hwf] at Hfin
          have Hwf := Lib.hid hwf
          obtain ⟨x0, x1, x2, x3⟩ := hR
          obtain ⟨y0, y1, _, _⟩ := hO
          clear hset hnb hwf hF hW hT hkw
          go_wp2_with fail
          rw [← Hwf.out]
          show bodyPost Tryd.prog Tryd.f61 (LinePost w s.data.toList) .ret _ _
          refine bodyPost_ret (v := .agg #[iv 1, .slice ao k cap]) (by simp [results, Tryd.results61, go_sem, c0, c1]) rfl ?_
          refine ⟨Hfin.out.1, ?_⟩
          rw [Hyes.out]
          exact ⟨⟨ao, k, cap⟩, rfl, Hfin.out.2⟩
    · have hA' : Lib.hasPrefix s.data.toList Q.outR = false := by simpa using hA
      have hB' : Lib.hasPrefix s.data.toList Q.inR = false := by simpa using hB
      rw [hA'] at HA
      rw [hB'] at HB
      have Hr := Lib.hid (show Q.lineP s.data.toList = none by unfold Q.lineP; rw [if_neg hA, if_neg hB])
      clear hA hA' hB hB' hsl
      have hk := Kp.trans (Kp.new w (.cells #[iv 0, .slice none 0 0] 43)) (Kp.new (w.alloc (.cells #[iv 0, .slice none 0 0] 43)) (.cells #[iv 1, .slice none 0 0] 43))
      have Hk := Lib.hid hk
      clear hk
      go_enter Tryd.func61, Tryd.ntmps61
      go_wp2_with fail
      (with_reducible refine (HA.out _).mono ?_)
      rintro e w1 ⟨rfl, rfl⟩
      go_wp2_with fail
      (with_reducible refine (HB.out _).mono ?_)
      rintro e w1 ⟨rfl, rfl⟩
      go_wp2_with fail
      (with_reducible refine (ask_false _).mono ?_)
      rintro e w1 ⟨rfl, rfl⟩
      unfold badE
      go_wp2_with fail
      exact ⟨rfl, Hk.out, by rw [Hr.out]; rfl⟩
end Go.Proofs.YtjbjgpcldcpjmaaDoor
