/- A text read as a pattern, as the document reads it. Condition: none but that the text's length fits. -/
import Derived.Test.YtkmejehhdjdlbaaGreatDoorGa9
import Derived.Test.YtkmejehhdjdlbaaGreatDoorGa8
import Derived.Test.YtkmejehhdjdlbaaGreatDoorGa2
import Derived.Deep.CutBlock
namespace Go.Proofs.YtkmejehhdjdlbaaGreatDoor
open Go.RowKit

def RParsePost (w : World) (t : Q.Bt) (e : Ending) (w' : World) : Prop := Kp w w' ∧ ∃ t0 t1 tl : Tv,
  e = .returned (.tuple #[.agg #[.string (prs t).1, tvv t0, tvv t1, tvv tl], iv (((prs t).2.2.2.2 : Nat) : Int)]) ∧ PatI w' t0.ao t1.ao tl.ao t0.n t1.n tl.n (prs t).2.1 (prs t).2.2.1 (prs t).2.2.2.1
theorem RParsePost.bad {w w' : World} {t : Q.Bt} {c : Nat} (h : prs t = badR c) (k : Kp w w') : RParsePost w t (.returned (.tuple #[zeroP, iv ((c : Nat) : Int)])) w' := by
  refine ⟨k, nilT, nilT, nilT, ?_, ?_⟩
  · rw [h]; rfl
  · rw [h]; exact PatI.none w'
theorem RParsePost.fine {w w' : World} {t : Q.Bt} {nm : ByteArray} {b0 b1 : List Int} {ls : List Ln} {t0 t1 tl : Tv} (h : prs t = (nm, b0, b1, ls, 0)) (k : Kp w w') (hP : PatI w' t0.ao t1.ao tl.ao t0.n t1.n tl.n b0 b1 ls) :
    RParsePost w t (.returned (.tuple #[.agg #[.string nm, tvv t0, tvv t1, tvv tl], iv 0])) w' := by
  refine ⟨k, t0, t1, tl, ?_, ?_⟩
  · rw [h]; rfl
  · rw [h]; exact hP
abbrev zero4 (wr : World) (b : Nat) : World := (((wr.setCell ⟨b, 0, none⟩ (.string ⟨#[]⟩)).setCell ⟨b, 1, none⟩ (.slice none 0 0)).setCell ⟨b, 2, none⟩ (.slice none 0 0)).setCell ⟨b, 3, none⟩ (.slice none 0 0)
/-- Each way out with an error. -/
theorem rp_bad {w wr : World} {t : Q.Bt} {b c : Nat} {x y z u : Value} (hB : Four wr b x y z u) (hk : Kp w wr) (hb : w.heap.size ≤ b) (hc : prs t = badR c) (tmps : Array Value) (h2 : tmps[2]? = some (.pointer (some ⟨b, 0, none⟩))) (h3 : tmps[3]? = some (.int .i64 ((c : Nat) : Int))) :
    bodyPost Tryz.prog Tryz.f30 (RParsePost w t) .ret { tmps := tmps, defers := [] } (zero4 wr b) := by
  obtain ⟨wf, hwf, hF, hPf⟩ := hB.set (.string ⟨#[]⟩) (.slice none 0 0) (.slice none 0 0) (.slice none 0 0)
  rw [show zero4 wr b = wf from hwf.symm]
  obtain ⟨c0, c1, c2, c3, _, _, _, _⟩ := hPf
  refine bodyPost_ret (v := .tuple #[zeroP, iv ((c : Nat) : Int)]) (by simp [results, Tryz.results30, go_sem, h2, h3, c0, c1, c2, c3]) rfl ?_
  exact RParsePost.bad hc ((Fr.of_kp hk).step hF (fun j hj => .inr (by simp at hj; omega))).kp
theorem aheadR_cons {b0 b1 : List Int} {x : Q.Bt} {r : List Q.Bt} {l : Ln} (h : Q.lineR x = some l) : Q.aheadR b0 b1 (x :: r) = if l.1 = 0 then (if b0 ≠ [] ∨ b1 ≠ [] then none else Q.aheadR l.2 b1 r) else (if b1 ≠ [] then none else Q.aheadR b0 l.2 r) := by
  conv => lhs; unfold Q.aheadR
  rw [h]
theorem splitTo_size (s : ByteArray) (c : UInt8) : ∀ k, ∀ x ∈ (splitTo s c k).1, x.size ≤ s.size
  | 0, x, hx => by simp [splitTo] at hx
  | k + 1, x, hx => by
    unfold splitTo at hx
    split at hx
    · simp only [List.mem_append, List.mem_singleton] at hx
      rcases hx with hx | rfl
      · exact splitTo_size s c k x hx
      · rw [ByteArray.size_extract]; omega
    · exact splitTo_size s c k x hx
section
variable {w : World} {B s : Nat} {t0 t1 tl u : Tv} {ts : List Tv} {b0 b1 c : List Int} {ls : List Ln}
theorem PatO.put0 (h : PatO w B t0 t1 tl ts b0 b1 ls) (ho : Own w B 3 1 u.ao u.n u.c (c.map iv)) (hs : ∀ i, ∀ y ∈ blkL ((t0 :: t1 :: tl :: ts).getD i nilT).ao, y < s) (hu : ∀ y ∈ blkL u.ao, s ≤ y) : PatO w B u t1 tl ts c b1 ls :=
  ⟨h.len, ho, h.o1, h.ol, h.ot, h.dj.upd (s := s) (k := 0) (fun i _ => hs i) (fun i hi => by cases i with
    | zero => exact absurd rfl hi
    | succ i => rfl) (fun x hx => .inr (hu x hx))⟩
theorem PatO.put1 (h : PatO w B t0 t1 tl ts b0 b1 ls) (ho : Own w B 3 1 u.ao u.n u.c (c.map iv)) (hs : ∀ i, ∀ y ∈ blkL ((t0 :: t1 :: tl :: ts).getD i nilT).ao, y < s) (hu : ∀ y ∈ blkL u.ao, s ≤ y) : PatO w B t0 u tl ts b0 c ls :=
  ⟨h.len, h.o0, ho, h.ol, h.ot, h.dj.upd (s := s) (k := 1) (fun i _ => hs i) (fun i hi => by
    rcases i with _ | _ | i
    · rfl
    · exact absurd rfl hi
    · rfl) (fun x hx => .inr (hu x hx))⟩
end
set_option maxRecDepth 100000 in
set_option maxHeartbeats 16000000 in
theorem rparse_any (w : World) (s : ByteArray) (hs : s.size ≤ maxLen) : Calls Tryz.prog 30 #[.string s] w (RParsePost w s.data.toList) := by
  have Hsl := Lib.hid (Lib.size_eq s)
  have hk0 := Kp.new w (.cells #[.string ⟨#[]⟩, .slice none 0 0, .slice none 0 0, .slice none 0 0] 26)
  have hB := Four.new w (.string ⟨#[]⟩) (.slice none 0 0) (.slice none 0 0) (.slice none 0 0) 26
  unfold maxLen at hs
  by_cases hlong : 4096 < s.size
  · have Hbad := Lib.hid (prs_long (t := s.data.toList) (by rw [← Hsl.out]; exact hlong))
    have Hk0 := Lib.hid hk0
    obtain ⟨y0, y1, y2, y3, z0, z1, z2, z3⟩ := hB
    clear hk0
    go_enter Tryz.func30, Tryz.ntmps30
    go_wp2_with fail
    show bodyPost Tryz.prog Tryz.f30 (RParsePost w s.data.toList) .ret _ _
    refine bodyPost_ret (v := .tuple #[zeroP, iv ((8 : Nat) : Int)]) (by simp [results, Tryz.results30, go_sem, y0, y1, y2, y3]) rfl ?_
    exact RParsePost.bad Hbad.out Hk0.out
  · have Hprs := Lib.hid (prs_rows (t := s.data.toList) (by rw [← Hsl.out]; omega))
    have HRw := Lib.hid (rrows_any (w.alloc (.cells #[.string ⟨#[]⟩, .slice none 0 0, .slice none 0 0, .slice none 0 0] 26)) s (by omega))
    have Hrs := Lib.hid (rows_rsR s)
    have Hk0 := Lib.hid hk0
    have HB := Lib.hid hB
    clear hk0
    obtain ⟨bB, hbB⟩ : ∃ b, b = w.heap.size := ⟨_, rfl⟩
    have HbB := Lib.hid (show w.heap.size ≤ bB by omega)
    rw [← hbB] at HB
    obtain ⟨y0, y1, y2, y3, z0, z1, z2, z3⟩ := hB
    have HbE := Lib.hid hbB
    clear hbB
    go_enter Tryz.func30, Tryz.ntmps30
    go_wp2_with fail
    (with_reducible refine HRw.out.mono ?_)
    rintro e w2 ⟨hk2, lo, n, cap, rfl, hS, hn⟩
    rw [← HbE.out]
    have HB2 := Lib.hid (HB.out.kp hk2)
    have HK2 := Lib.hid (Kp.trans Hk0.out hk2)
    have HS := Lib.hid hS
    clear y0 y1 y2 y3 z0 z1 z2 z3 hk2 hS HRw
    have Hszs := Lib.hid (splitTo_size s 10 s.size)
    generalize splitTo s 10 s.size = L at *
    obtain ⟨L, at_⟩ := L
    simp only at HS Hrs Hszs
    by_cases hok : at_ = s.size
    · rw [if_pos hok] at Hrs
      have e1 : decide (at_ = s.size) = true := by simp [hok]
      rw [e1]
      clear hok e1
      rcases L with _ | ⟨a, r⟩
      · have hn0 : n = 0 := HS.out.1.symm
        subst hn0
        have Hbad := Lib.hid (show prs s.data.toList = badR 8 by rw [Hprs.out, Hrs.out]; rfl)
        obtain ⟨y0, y1, y2, y3, z0, z1, z2, z3⟩ := HB2.out
        go_wp2_with fail
        exact rp_bad HB2.out HK2.out HbB.out Hbad.out _ rfl rfl
      · have Hprs2 := Lib.hid (show prs s.data.toList = (if Lib.hasSuffix a.data.toList [58] && Q.isName (Lib.trimSuffix a.data.toList [58]) then (match Q.bodyR (r.map (·.data.toList)) with | none => badR 8 | some b => chk (Lib.trimSuffix a.data.toList [58]) b) else badR 8) by rw [Hprs.out, Hrs.out]; rfl)
        have Hnl := Lib.hid (show n = r.length + 1 by have := HS.out.1; simp at this; omega)
        have hn1 : 0 < n := by have := Hnl.out; omega
        obtain ⟨lb, loff, rfl, hcell⟩ := HS.out.at 0 (by omega)
        have hc0 := hcell 0 (by omega)
        rw [Nat.add_zero] at hc0
        have hc0' : w2.cell? ⟨lb, loff, none⟩ = some (.string a) := hc0
        have Hcell := Lib.hid hcell
        clear hc0 hcell
        obtain ⟨y0, y1, y2, y3, z0, z1, z2, z3⟩ := HB2.out
        have hbadm : ∀ (h : Lib.hasSuffix a.data.toList [58] = false ∨ Q.isName (Lib.trimSuffix a.data.toList [58]) = false), prs s.data.toList = badR 8 := fun h => by
          rw [Hprs2.out]
          rcases h with h | h
          · rw [h]; rfl
          · rw [h, Bool.and_false]; rfl
        have Hbadm := Lib.hid hbadm
        clear hbadm
        by_cases ha0 : a.size = 0
        · have Hbad := Lib.hid (Hbadm.out (.inl (suf_no (.inl ha0))))
          have hai : (a.size : Int) = 0 := by omega
          go_wp2_with fail
          exact rp_bad HB2.out HK2.out HbB.out Hbad.out _ rfl rfl
        · obtain ⟨m, hm⟩ : ∃ m, a.size = m + 1 := ⟨a.size - 1, by omega⟩
          have hmi : (a.size : Int) - 1 = (m : Int) := by omega
          have hml : m < a.size := by omega
          have Hm := Lib.hid hm
          have hsz : a.size ≤ 4096 := by have := Hszs.out a (by simp); omega
          clear hm
          by_cases h58 : a[m] = 58
          · have hb : (((a[m].toNat : Nat) : Int) == 58) = true := by rw [h58]; rfl
            have hb2 : ((a[m].toNat : Nat) : Int) = 58 := by rw [h58]; rfl
            have Hsuf := Lib.hid (suf_yes Hm.out h58)
            have HN := Lib.hid (isName_any (a.extract 0 m) w2 (by rw [ByteArray.size_extract]; omega))
            clear h58
            cases hi : Q.isName (a.extract 0 m).data.toList with
            | false =>
              rw [hi] at HN
              have Hbad := Lib.hid (Hbadm.out (.inr (by rw [Hsuf.out.2]; exact hi)))
              clear hi
              go_wp2_with fail
              (with_reducible refine HN.out.mono ?_)
              rintro e w3 ⟨rfl, rfl⟩
              go_wp2_with fail
              exact rp_bad HB2.out HK2.out HbB.out Hbad.out _ rfl rfl
            | true =>
              rw [hi] at HN
              have Hi := Lib.hid hi
              clear hi
              go_upto_region 8 with fail
              (with_reducible refine HN.out.mono ?_)
              rintro e w3 ⟨rfl, rfl⟩
              have hk4 := Kp.new w2 (.cells #[.string (a.extract 0 m), .slice none 0 0, .slice none 0 0, .slice none 0 0] 26)
              have hP4 := Four.new w2 (.string (a.extract 0 m)) (.slice none 0 0) (.slice none 0 0) (.slice none 0 0) 26
              have hbP : w.heap.size ≤ w2.heap.size := HK2.out.size
              have hs4 : w2.heap.size < (w2.alloc (.cells #[.string (a.extract 0 m), .slice none 0 0, .slice none 0 0, .slice none 0 0] 26)).heap.size := by rw [World.size_alloc]; omega
              have HB4 := Lib.hid (HB2.out.kp hk4)
              have hs4e : (w2.alloc (.cells #[.string (a.extract 0 m), .slice none 0 0, .slice none 0 0, .slice none 0 0] 26)).heap.size = w2.heap.size + 1 := World.size_alloc _ _
              have Hs4e := Lib.hid hs4e
              clear hs4e
              have HK4 := Lib.hid (Kp.trans HK2.out hk4)
              have hbB2 : bB < w2.heap.size := by have := World.block_lt_of_cell? _ _ HB2.out.c0; simpa using this
              have Hcell4 := Lib.hid (show ∀ k, (h : k < r.length) → (w2.alloc (.cells #[.string (a.extract 0 m), .slice none 0 0, .slice none 0 0, .slice none 0 0] 26)).cell? ⟨lb, loff + (k + 1), none⟩ = some (.string r[k]) from fun k h => hk4.cell (Hcell.out (k + 1) (by have := Hnl.out; omega)))
              have Hprs3 := Lib.hid (show prs s.data.toList = (match Q.bodyR (r.map (·.data.toList)) with | none => badR 8 | some b => chk (a.extract 0 m).data.toList b) by rw [Hprs2.out, Hsuf.out.1, Hsuf.out.2, Hi.out]; rfl)
              have Hrl := Lib.hid (show r.length ≤ 4096 by have := Hnl.out; omega)
              clear y0 y1 y2 y3 z0 z1 z2 z3 hb hb2 HN Hbadm hk4
              obtain ⟨bP, hbPe⟩ : ∃ b, b = w2.heap.size := ⟨_, rfl⟩
              have HbPe := Lib.hid hbPe
              rw [← hbPe] at hP4 hbP hs4 hbB2 Hs4e
              have HP4 := Lib.hid hP4
              clear hbPe hP4
              go_upto_block 0 with fail
              rw [← HbPe.out]
              clear hc0'
              generalize w2.alloc (.cells #[.string (a.extract 0 m), .slice none 0 0, .slice none 0 0, .slice none 0 0] 26) = w4 at *
              go_cut [8, 9] (fun fv iv' wx => ∃ f : Nat, fv = .int .i64 ((f : Nat) : Int) ∧ FromOk (r.map (·.data.toList)) f ∧ w4 = wx)
              case first =>
                go_wp2_with fail
                go_loopw [8, 9] (fun fv i wx => ∃ k : Nat, k ≤ r.length ∧ fv = .int .i64 1 ∧ i = .int .i64 ((k + 1 : Nat) : Int) ∧ w4 = wx ∧ Q.restR ∉ (r.map (·.data.toList)).take k) (fun _ i _ => r.length + 1 - (intOf i).toNat)
                case atStart => exact ⟨0, by omega, rfl, rfl, rfl, by simp⟩
                case round =>
                  obtain ⟨k, hk, rfl, rfl, rfl, hno⟩ := hrel
                  have Hno := Lib.hid hno
                  have hnn := Hnl.out
                  have Hnn := Lib.hid hnn
                  clear hno
                  by_cases hlt : k < r.length
                  · have hc := Hcell4.out k hlt
                    have hltn : k + 1 < n := by omega
                    have Hk1 := Lib.hid (show (r.map (·.data.toList))[k]? = some (r[k].data.toList) by rw [List.getElem?_map, List.getElem?_eq_getElem hlt]; rfl)
                    have hrest : (r[k].toList == [32, 32, 46, 46, 46]) = decide (r[k].data.toList = Q.restR) := by rw [Lib.toList_data]; exact Bool.beq_eq_decide_eq _ _
                    clear hnn
                    by_cases hq : r[k].data.toList = Q.restR
                    · have hb : (r[k].toList == [32, 32, 46, 46, 46]) = true := by rw [hrest]; simp [hq]
                      have Hq := Lib.hid hq
                      clear hrest hq
                      generalize r[k] = x at *
                      go_wp2_with fail
                      go_meet
                      case rel => exact ⟨k + 2, by go_num, .inr ⟨by omega, by rw [show k + 2 - 2 = k by omega, Hk1.out, Hq.out], by rw [show k + 2 - 2 = k by omega]; exact Hno.out⟩, rfl⟩
                    · have hb : (r[k].toList == [32, 32, 46, 46, 46]) = false := by rw [hrest]; simp [hq]
                      have Hq := Lib.hid hq
                      clear hrest hq
                      generalize r[k] = x at *
                      go_wp2_with fail
                      go_roundw
                      case rel => exact ⟨k + 1, by omega, rfl, by go_num, trivial, fun hm => by
                        rw [List.take_add_one, Hk1.out] at hm
                        simp only [Option.toList, List.mem_append, List.mem_singleton] at hm
                        rcases hm with hm | hm
                        · exact Hno.out hm
                        · exact Hq.out hm.symm⟩
                      case measure => simp [intOf]; omega
                  · obtain rfl : k = r.length := by omega
                    have hltn : r.length + 1 = n := by omega
                    clear hnn
                    go_wp2_with fail
                    go_meet
                    case rel => exact ⟨1, rfl, .inl ⟨rfl, by have := Hno.out; rwa [List.take_of_length_le (by simp)] at this⟩, rfl⟩
              case rest =>
                obtain ⟨f, rfl, hf, rfl⟩ := hcut
                have hbody := from_body hf
                have hf1 : 1 ≤ f ∧ f - 2 ≤ r.length ∧ f ≤ r.length + 1 := by
                  rcases hf with ⟨rfl, _⟩ | ⟨h2, h3, _⟩
                  · omega
                  · have := (List.getElem?_eq_some_iff.1 h3).1
                    rw [List.length_map] at this
                    omega
                have Hbody := Lib.hid hbody
                have Hrl5 := Hrl.out
                have Hcn := Hnl.out
                have Hcnn := Lib.hid Hcn
                have hnb : n ≤ 4097 := by omega
                clear hf hbody Hcn
                have hlbB : lb < bP := by
                  have := World.block_lt_of_cell? _ _ (Hcell.out 0 hn1)
                  rw [HbPe.out]
                  simpa using this
                have hP0 : PatO w4 (bP + 1) nilT nilT nilT [] [] [] [] := PatO.nil _ _
                have HP0 := Lib.hid hP0
                clear hP0
                go_upto_block 2 with fail
                go_wp2_with fail
                go_loopw [10] (fun i wx => ∃ (j : Nat) (b0 b1 : List Int) (t0 t1 : Tv), i = .int .i64 ((j + 1 : Nat) : Int) ∧ j ≤ f - 2 ∧ Fr [bP] w4 wx ∧ Four wx bP (.string (a.extract 0 m)) (tvv t0) (tvv t1) (.slice none 0 0) ∧ PatO wx (bP + 1) t0 t1 nilT [] b0 b1 [] ∧
                  Q.aheadR [] [] ((r.map (·.data.toList)).take (f - 2)) = Q.aheadR b0 b1 (((r.map (·.data.toList)).take (f - 2)).drop j)) (fun i _ => f - (intOf i).toNat)
                case atStart => exact ⟨0, [], [], nilT, nilT, rfl, by omega, Fr.refl _ _, HP4.out, HP0.out, by simp⟩
                case round =>
                  obtain ⟨j, b0, b1, ⟨t0a, t0n, t0c⟩, ⟨t1a, t1n, t1c⟩, rfl, hj, hF, hP, hO, hA⟩ := hrel
                  rename World => wx
                  change Four wx bP (.string (a.extract 0 m)) (.slice t0a t0n t0c) (.slice t1a t1n t1c) (.slice none 0 0) at hP
                  have HA := Lib.hid hA
                  have HO := Lib.hid hO
                  have HP := Lib.hid hP
                  have HF := Lib.hid hF
                  have hKx : Kp w wx := ((Fr.of_kp HK4.out).step hF (fun q hq => .inr (by simp at hq; omega))).kp
                  have hBx := HB4.out.fr hF (by simp; omega)
                  have HKx := Lib.hid hKx
                  have HBx := Lib.hid hBx
                  have hsx : bP < wx.heap.size := Nat.lt_of_lt_of_le hs4 hF.size
                  clear hA hO hP hF hKx hBx
                  have ht0 : t0n = b0.length := HO.out.n0
                  have ht1 : t1n = b1.length := HO.out.n1
                  have Ht0 := Lib.hid ht0
                  have Ht1 := Lib.hid ht1
                  clear ht0 ht1
                  by_cases hlt : j + 2 < f
                  · have hjr : j < r.length := by omega
                    have hjn : j + 1 < n := by have := Hcnn.out; omega
                    have hc := HF.out.cell (Hcell4.out j hjr) (by simp; omega)
                    have Hstep := Lib.hid (show ((r.map (·.data.toList)).take (f - 2)).drop j = r[j].data.toList :: ((r.map (·.data.toList)).take (f - 2)).drop (j + 1) by
                      rw [List.drop_eq_getElem_cons (by simp; omega)]
                      congr 1
                      simp)
                    have Hfail := Lib.hid (show Q.aheadR b0 b1 (r[j].data.toList :: ((r.map (·.data.toList)).take (f - 2)).drop (j + 1)) = none → prs s.data.toList = badR 8 from fun h => by
                      rw [Hprs3.out, Hbody.out, HA.out, Hstep.out, h, if_neg (by omega)])
                    have Hnext := Lib.hid (show ∀ c0 c1, Q.aheadR b0 b1 (r[j].data.toList :: ((r.map (·.data.toList)).take (f - 2)).drop (j + 1)) = Q.aheadR c0 c1 (((r.map (·.data.toList)).take (f - 2)).drop (j + 1)) → Q.aheadR [] [] ((r.map (·.data.toList)).take (f - 2)) = Q.aheadR c0 c1 (((r.map (·.data.toList)).take (f - 2)).drop (j + 1)) from fun c0 c1 h => by rw [HA.out, Hstep.out, h])
                    have hxs : r[j].size ≤ 4096 := by have := Hszs.out r[j] (by simp); omega
                    clear HA Hstep
                    generalize r[j] = x at *
                    generalize hrest : ((r.map (·.data.toList)).take (f - 2)).drop (j + 1) = rest at *
                    have Hrest := Lib.hid hrest
                    clear hrest
                    have HLn := Lib.hid (rline_any wx x (by omega))
                    go_wp2_with fail
                    (with_reducible refine HLn.out.mono ?_)
                    rintro e w5 ⟨hk5, fl, xo, xn, xc, rfl, hl⟩
                    have hk6 := Kp.trans hk5 (Kp.new w5 (.cells #[iv fl, .slice xo xn xc] 73))
                    have hX6 := Two2.new w5 (iv fl) (.slice xo xn xc) 73
                    have HX6 := Lib.hid hX6
                    have HP6 := Lib.hid (HP.out.kp hk6)
                    have HB6 := Lib.hid (HBx.out.kp hk6)
                    have HK6 := Lib.hid (Kp.trans HKx.out hk6)
                    have HF6 := Lib.hid (HF.out.trans ((Fr.of_kp hk6).mono (Y := [bP]) (by simp)))
                    have HO6 := Lib.hid (HO.out.kp hk6)
                    have hs56 : wx.heap.size ≤ w5.heap.size := hk5.size
                    have Hl := Lib.hid (show ∀ l, Q.lineR x.data.toList = some l → fl = l.1 ∧ Own (w5.alloc (.cells #[iv fl, .slice xo xn xc] 73)) wx.heap.size 3 1 xo xn xc (l.2.map iv) from fun l q => ⟨(hl l q).1, (hl l q).2.1.keep (Kp.new w5 (.cells #[iv fl, .slice xo xn xc] 73))⟩)
                    clear hl hk5 hk6 HLn
                    obtain ⟨x0, x1, xf0, xf1⟩ := hX6
                    obtain ⟨p0, p1, p2, p3, q0, q1, q2, q3⟩ := HP6.out
                    obtain ⟨y0, y1, y2, y3, z0, z1, z2, z3⟩ := HB6.out
                    cases hlr : Q.lineR x.data.toList with
                    | none =>
                      have Hbad := Lib.hid (show prs s.data.toList = badR 8 from Hfail.out (by unfold Q.aheadR; rw [hlr]))
                      clear hlr
                      go_wp2_with fail
                      exact rp_bad HB6.out HK6.out HbB.out Hbad.out _ rfl rfl
                    | some l =>
                      obtain ⟨hfl, ho⟩ := Hl.out l hlr
                      have hside := (Q.lineP_side (by rw [← Q.lineR_eq]; exact hlr)).1
                      obtain ⟨g, xs⟩ := l
                      simp only at hfl ho hside
                      subst hfl
                      have Hlr := Lib.hid hlr
                      have Ho := Lib.hid ho
                      clear hlr ho
                      rcases hside with rfl | rfl
                      · by_cases hz0 : t0n = 0
                        · have he0 : b0 = [] := List.length_eq_zero_iff.1 (by have := Ht0.out; omega)
                          by_cases hz1 : t1n = 0
                          · have he1 : b1 = [] := List.length_eq_zero_iff.1 (by have := Ht1.out; omega)
                            have Hz := Lib.hid (And.intro hz0 hz1)
                            subst hz0
                            subst hz1
                            have Hnx := Lib.hid (Hnext.out xs b1 (by rw [aheadR_cons Hlr.out]; simp [he0, he1]))
                            have hset := Fr.set (w5.alloc (.cells #[iv 0, .slice xo xn xc] 73)) ⟨bP, 1, none⟩ (.slice xo xn xc)
                            have HPs := Lib.hid (HP6.out.set1 (.slice xo xn xc))
                            have HOs := Lib.hid ((HO6.out.put0 (s := wx.heap.size) (u := ⟨xo, xn, xc⟩) (Ho.out.mono (fun q hq => by have := (Ho.out.lt q hq).1; omega)) (fun i y hy => (HO.out.row hy).2) (fun y hy => (Ho.out.lt y (mem_blkL.1 hy)).1)).fr hset (fun q hq => .inl (by simp at hq; omega)))
                            have HFs := Lib.hid (HF6.out.trans (hset.mono (Y := [bP]) (by simp)))
                            clear hset he0 he1
                            go_wp2_with fail
                            go_roundw
                            case rel => exact ⟨j + 1, xs, b1, ⟨xo, xn, xc⟩, ⟨t1a, 0, t1c⟩, by go_num, by omega, HFs.out, HPs.out, HOs.out, by rw [Hrest.out]; exact Hnx.out⟩
                            case measure => simp [intOf]; omega
                          · have hp1 : 0 < t1n := by omega
                            have he1 : b1 ≠ [] := fun h => by have := Ht1.out; rw [h] at this; simp at this; omega
                            have hbd : Q.aheadR b0 b1 (x.data.toList :: rest) = none := by rw [aheadR_cons Hlr.out]; simp [he1]
                            have Hbad := Lib.hid (Hfail.out hbd)
                            clear he0 he1 hbd
                            subst hz0
                            go_wp2_with fail
                            exact rp_bad HB6.out HK6.out HbB.out Hbad.out _ rfl rfl
                        · have hp0 : 0 < t0n := by omega
                          have he0 : b0 ≠ [] := fun h => by have := Ht0.out; rw [h] at this; simp at this; omega
                          have hbd : Q.aheadR b0 b1 (x.data.toList :: rest) = none := by rw [aheadR_cons Hlr.out]; simp [he0]
                          have Hbad := Lib.hid (Hfail.out hbd)
                          clear he0 hbd
                          go_wp2_with fail
                          exact rp_bad HB6.out HK6.out HbB.out Hbad.out _ rfl rfl
                      · by_cases hz1 : t1n = 0
                        · have he1 : b1 = [] := List.length_eq_zero_iff.1 (by have := Ht1.out; omega)
                          have he0 : True := trivial
                          subst hz1
                          have Hnx := Lib.hid (Hnext.out b0 xs (by rw [aheadR_cons Hlr.out]; simp [he1]))
                          have hset := Fr.set (w5.alloc (.cells #[iv 1, .slice xo xn xc] 73)) ⟨bP, 2, none⟩ (.slice xo xn xc)
                          have HPs := Lib.hid (HP6.out.set2 (.slice xo xn xc))
                          have HOs := Lib.hid ((HO6.out.put1 (s := wx.heap.size) (u := ⟨xo, xn, xc⟩) (Ho.out.mono (fun q hq => by have := (Ho.out.lt q hq).1; omega)) (fun i y hy => (HO.out.row hy).2) (fun y hy => (Ho.out.lt y (mem_blkL.1 hy)).1)).fr hset (fun q hq => .inl (by simp at hq; omega)))
                          have HFs := Lib.hid (HF6.out.trans (hset.mono (Y := [bP]) (by simp)))
                          clear hset he0 he1
                          go_wp2_with fail
                          go_roundw
                          case rel => exact ⟨j + 1, b0, xs, ⟨t0a, t0n, t0c⟩, ⟨xo, xn, xc⟩, by go_num, by omega, HFs.out, HPs.out, HOs.out, by rw [Hrest.out]; exact Hnx.out⟩
                          case measure => simp [intOf]; omega
                        · have hp1 : 0 < t1n := by omega
                          have he1 : b1 ≠ [] := fun h => by have := Ht1.out; rw [h] at this; simp at this; omega
                          have hbd : Q.aheadR b0 b1 (x.data.toList :: rest) = none := by rw [aheadR_cons Hlr.out]; simp [he1]
                          have Hbad := Lib.hid (Hfail.out hbd)
                          clear he1 hbd
                          go_wp2_with fail
                          exact rp_bad HB6.out HK6.out HbB.out Hbad.out _ rfl rfl
                  · have hfin : Q.aheadR [] [] ((r.map (·.data.toList)).take (f - 2)) = some (b0, b1) := by
                      rw [HA.out, List.drop_eq_nil_of_le (by rw [List.length_take]; omega)]; rfl
                    have Hfin := Lib.hid hfin
                    clear hfin
                    by_cases hf2 : f = 2
                    · have Hbad := Lib.hid (show prs s.data.toList = badR 8 by rw [Hprs3.out, Hbody.out, if_pos hf2])
                      subst hf2
                      obtain ⟨y0, y1, y2, y3, z0, z1, z2, z3⟩ := HBx.out
                      go_wp2_with fail
                      exact rp_bad HBx.out HKx.out HbB.out Hbad.out _ rfl rfl
                    · have hprs5 : ∀ o, Q.linesR ((r.map (·.data.toList)).drop (f - 1)) = o → prs s.data.toList = match o with | none => badR 8 | some l => chk (a.extract 0 m).data.toList ((b0, b1), l) := fun o h => by
                        rw [Hprs3.out, Hbody.out, if_neg hf2, Hfin.out, h]
                        cases o <;> rfl
                      have Hprs5 := Lib.hid hprs5
                      have hf2i : ((f : Nat) : Int) ≠ 2 := by omega
                      clear hprs5
                      obtain ⟨C, hC⟩ : ∃ C, C = (r.map (·.data.toList)).drop (f - 1) := ⟨_, rfl⟩
                      have HC := Lib.hid hC
                      rw [← hC] at Hprs5
                      clear hC
                      go_upto_block 4 with fail
                      go_wp2_with fail
                      go_loopw [13] (fun i wz => ∃ (q : Nat) (acc : List Ln) (tl : Tv) (ts : List Tv), i = .int .i64 ((f + q : Nat) : Int) ∧ f + q ≤ n ∧ Fr [bP] w4 wz ∧ Four wz bP (.string (a.extract 0 m)) (.slice t0a t0n t0c) (.slice t1a t1n t1c) (tvv tl) ∧ PatO wz (bP + 1) ⟨t0a, t0n, t0c⟩ ⟨t1a, t1n, t1c⟩ tl ts b0 b1 acc ∧
                        Q.linesR C = (Q.linesR (C.drop q)).map (acc ++ ·) ∧ acc.length ≤ q ∧ ∀ l ∈ acc, l.2.length ≤ 5000) (fun i _ => n - (intOf i).toNat)
                      case atStart => exact ⟨0, [], nilT, [], rfl, by have := Hcnn.out; omega, HF.out, HP.out, HO.out, by simp, by simp, by simp⟩
                      case round =>
                        obtain ⟨q, acc, tl, ts, rfl, hq, hF, hP, hO, hA, hal, hle⟩ := hrel
                        rename World => wz
                        have HAl := Lib.hid hle
                        have HAq := Lib.hid hA
                        have HOz := Lib.hid hO
                        have HPz := Lib.hid hP
                        have HFz := Lib.hid hF
                        have hKz : Kp w wz := ((Fr.of_kp HK4.out).step hF (fun k hk => .inr (by simp at hk; omega))).kp
                        have hBz := HB4.out.fr hF (by simp; omega)
                        have HKz := Lib.hid hKz
                        have HBz := Lib.hid hBz
                        have hsz4 : w4.heap.size ≤ wz.heap.size := hF.size
                        have htl := hO.nl
                        have Htl := Lib.hid htl
                        clear hA hO hP hF hKz hBz hle htl
                        by_cases hlt : f + q < n
                        · have hjr : f + q - 1 < r.length := by have := Hcnn.out; omega
                          have hc := HFz.out.cell (Hcell4.out (f + q - 1) hjr) (by simp; omega)
                          rw [show f + q - 1 + 1 = f + q by omega] at hc
                          have Hstep := Lib.hid (show C.drop q = r[f + q - 1].data.toList :: C.drop (q + 1) by
                            have h1 : q < C.length := by rw [HC.out]; simp; omega
                            rw [List.drop_eq_getElem_cons h1]
                            congr 1
                            have e : f - 1 + q = f + q - 1 := by omega
                            simp only [HC.out, List.getElem_drop, List.getElem_map, e])
                          have hxs : r[f + q - 1].size ≤ 4096 := by have := Hszs.out r[f + q - 1] (by simp); omega
                          generalize r[f + q - 1] = x at *
                          have HLn := Lib.hid (rline_any wz x (by omega))
                          have HXl := Lib.hid (Lib.size_eq x)
                          go_wp2_with fail
                          (with_reducible refine HLn.out.mono ?_)
                          rintro e w5 ⟨hk5, fl, xo, xn, xc, rfl, hl⟩
                          have hk6 := Kp.trans hk5 (Kp.new w5 (.cells #[iv fl, .slice xo xn xc] 73))
                          have hX6 := Two2.new w5 (iv fl) (.slice xo xn xc) 73
                          have HX6 := Lib.hid hX6
                          have HP6 := Lib.hid (HPz.out.kp hk6)
                          have HB6 := Lib.hid (HBz.out.kp hk6)
                          have HK6 := Lib.hid (Kp.trans HKz.out hk6)
                          have HF6 := Lib.hid (HFz.out.trans ((Fr.of_kp hk6).mono (Y := [bP]) (by simp)))
                          have HO6 := Lib.hid (HOz.out.kp hk6)
                          have hs56 : wz.heap.size ≤ w5.heap.size := hk5.size
                          have Hl := Lib.hid (show ∀ l, Q.lineR x.data.toList = some l → fl = l.1 ∧ Own (w5.alloc (.cells #[iv fl, .slice xo xn xc] 73)) wz.heap.size 3 1 xo xn xc (l.2.map iv) ∧ xn ≤ x.data.toList.length from fun l q => ⟨(hl l q).1, (hl l q).2.1.keep (Kp.new w5 (.cells #[iv fl, .slice xo xn xc] 73)), (hl l q).2.2⟩)
                          clear hl hk5 hk6 HLn
                          obtain ⟨x0, x1, xf0, xf1⟩ := hX6
                          obtain ⟨p0, p1, p2, p3, q0, q1, q2, q3⟩ := HP6.out
                          unfold tvv at p3
                          cases hlr : Q.lineR x.data.toList with
                          | none =>
                            have Hbad := Lib.hid (show prs s.data.toList = badR 8 from Hprs5.out none (by rw [HAq.out, Hstep.out]; unfold Q.linesR; rw [hlr]; rfl))
                            obtain ⟨y0, y1, y2, y3, z0, z1, z2, z3⟩ := HB6.out
                            clear hlr
                            go_wp2_with fail
                            exact rp_bad HB6.out HK6.out HbB.out Hbad.out _ rfl rfl
                          | some l =>
                            obtain ⟨hfl, ho, hxn⟩ := Hl.out l hlr
                            obtain ⟨g, xs⟩ := l
                            simp only at hfl ho
                            subst hfl
                            have Hnx := Lib.hid (show Q.linesR C = (Q.linesR (C.drop (q + 1))).map ((acc ++ [(fl, xs)]) ++ ·) by
                              rw [HAq.out, Hstep.out]
                              conv => lhs; unfold Q.linesR
                              rw [hlr]
                              cases Q.linesR (C.drop (q + 1)) <;> simp)
                            have hs6 : bP + 1 ≤ (w5.alloc (.cells #[iv fl, .slice xo xn xc] 73)).heap.size := by rw [World.size_alloc]; omega
                            have Ho6 := Lib.hid ho
                            have Hxl := Lib.hid (show xs.length ≤ 5000 by have := ho.1; simp at this; have := HXl.out; omega)
                            have htl := Htl.out
                            have htn : tl.n ≤ 4097 := by omega
                            clear hlr ho htl Hl
                            go_upto_region 31 with fail
                            generalize w5.alloc (.cells #[iv fl, .slice xo xn xc] 73) = w6 at *
                            generalize w5.heap.size = bX at *
                            have hk7 := Kp.new w6 (.cells #[iv fl, .slice xo xn xc] 73)
                            have Hcs := Lib.hid (Cs.new w6 [iv fl, .slice xo xn xc] 73 (0, 0))
                            have HO7 := Lib.hid (HO6.out.kp hk7)
                            have HP7 := Lib.hid (HP6.out.kp hk7)
                            have HF7 := Lib.hid (HF6.out.trans ((Fr.of_kp hk7).mono (Y := [bP]) (by simp)))
                            have Ho7 := Lib.hid (Ho6.out.keep hk7)
                            have hbs : bP + 1 ≤ (w6.alloc (.cells #[iv fl, .slice xo xn xc] 73)).heap.size := Nat.le_trans hs6 hk7.size
                            have hln := HO7.out.len
                            have hn3 : bP ∉ blkL tl.ao := fun h => by have := (HO7.out.row (i := 2) h).1; omega
                            clear hk7
                            go_wp2_with (at_builtin; go_loud (refine wpList_app rfl (.tmp 144) (.tmp 146) 24 rfl el24 (bP + 1) rfl HO7.out.ol rfl [iv fl, .slice xo xn xc] rfl Hcs.out (by simp [Value.oneCell']) (tl.n + 1) rfl (lnc (acc ++ [(fl, xs)]) (ts ++ [⟨xo, xn, xc⟩])) (lnc_append _ _ hln) (by omega) hbs ?_); intro ao2 cap2 w8 ha; have HA8 := Lib.hid ha; clear p0 p1 p2 p3 q0 q1 q2 q3; have HP8 := Lib.hid (HP7.out.fr ha.fr hn3); clear ha; obtain ⟨p0, p1, p2, p3, q0, q1, q2, q3⟩ := HP8.out)
                            have hset := Fr.set w8 ⟨bP, 3, none⟩ (.slice ao2 (tl.n + 1) cap2)
                            have HO9 := Lib.hid ((HO7.out.appw (l := (fl, xs)) (t := ⟨xo, xn, xc⟩) (s := wz.heap.size) (Ho7.out.mono (fun k hk => by have := (Ho7.out.lt k hk).1; omega)) (fun i y hy => (HOz.out.row hy).2) (fun y hy => (Ho7.out.lt y (mem_blkL.1 hy)).1) HA8.out).fr hset (fun k hk => .inl (by simp at hk; omega)))
                            have HP9 := Lib.hid (HP8.out.set3 (.slice ao2 (tl.n + 1) cap2))
                            have HF9 := Lib.hid ((HF7.out.step HA8.out.fr (fun k hk => .inr (by have := (HO7.out.row (i := 2) hk).1; have := Hs4e.out; omega))).trans (hset.mono (Y := [bP]) (by simp)))
                            clear hset
                            go_roundw
                            case rel => exact ⟨q + 1, acc ++ [(fl, xs)], ⟨ao2, tl.n + 1, cap2⟩, ts ++ [⟨xo, xn, xc⟩], by go_num, by omega, HF9.out, HP9.out, HO9.out, Hnx.out, by simp; omega, fun l hl => by
                              simp only [List.mem_append, List.mem_singleton] at hl
                              rcases hl with h | rfl
                              · exact HAl.out l h
                              · exact Hxl.out⟩
                            case measure => simp [intOf]; omega
                        · have hqn : f + q = n := by omega
                          have Hall := Lib.hid (show Q.linesR C = some acc by
                            rw [HAq.out, List.drop_eq_nil_of_le (by rw [HC.out]; simp; have := Hcnn.out; omega)]
                            simp [Q.linesR])
                          have Hchk := Lib.hid (Hprs5.out (some acc) Hall.out)
                          have HIz := Lib.hid (show PatI wz t0a t1a tl.ao t0n t1n tl.n b0 b1 acc from ⟨HOz.out.is0, HOz.out.is1, HOz.out.lnsN 5000 (by decide) (by omega) (fun l hl => HAl.out l hl)⟩)
                          have hck := refCheck_any wz (a.extract 0 m) t0a t1a tl.ao t0n t0c t1n t1c tl.n tl.c b0 b1 acc HIz.out.i0 HIz.out.i1 HIz.out.il
                          rw [checkR_eq] at hck
                          obtain ⟨c, hc⟩ : ∃ c, c = checkL b0 b1 acc := ⟨_, rfl⟩
                          rw [← hc] at hck
                          have Hck := Lib.hid hck
                          have Hc := Lib.hid hc
                          have Hqn := Lib.hid hqn
                          clear hck hc hqn
                          obtain ⟨p0, p1, p2, p3, q0, q1, q2, q3⟩ := HPz.out
                          unfold tvv at p3
                          go_wp2_with fail
                          (with_reducible refine Hck.out.mono ?_)
                          rintro e w9 ⟨rfl, hk9⟩
                          have HB9 := Lib.hid (HBz.out.kp hk9)
                          have HP9 := Lib.hid (HPz.out.kp hk9)
                          have HK9 := Lib.hid (Kp.trans HKz.out hk9)
                          have HO9 := Lib.hid (HOz.out.kp hk9)
                          clear p0 p1 p2 p3 q0 q1 q2 q3 hk9
                          obtain ⟨p0, p1, p2, p3, _, _, _, _⟩ := HP9.out
                          unfold tvv at p3
                          obtain ⟨y0, y1, y2, y3, z0, z1, z2, z3⟩ := HB9.out
                          by_cases hc0 : c = 0
                          · have Hfine := Lib.hid (show prs s.data.toList = (a.extract 0 m, b0, b1, acc, 0) by
                              rw [Hchk.out]
                              unfold chk
                              simp only
                              rw [← Hc.out, if_pos hc0, bs_data])
                            subst hc0
                            obtain ⟨wf, hwf, hF, hPf⟩ := HB9.out.set (.string (a.extract 0 m)) (.slice t0a t0n t0c) (.slice t1a t1n t1c) (.slice tl.ao tl.n tl.c)
                            have HKf := Lib.hid (((Fr.of_kp HK9.out).step hF (fun k hk => .inr (by simp at hk; have := HbB.out; omega))).kp)
                            have HOf := Lib.hid (HO9.out.fr hF (fun k hk => .inl (by simp at hk; omega)))
                            have Hwf := Lib.hid hwf
                            have HIf := Lib.hid (show PatI wf t0a t1a tl.ao t0n t1n tl.n b0 b1 acc from ⟨HOf.out.is0, HOf.out.is1, HOf.out.lnsN 5000 (by decide) (by omega) (fun l hl => HAl.out l hl)⟩)
                            obtain ⟨c0, c1, c2, c3, _, _, _, _⟩ := hPf
                            clear hwf hF
                            go_wp2_with fail
                            rw [← Hwf.out]
                            refine bodyPost_ret (v := .tuple #[.agg #[.string (a.extract 0 m), .slice t0a t0n t0c, .slice t1a t1n t1c, .slice tl.ao tl.n tl.c], iv 0]) (by simp [results, Tryz.results30, go_sem, c0, c1, c2, c3]) rfl ?_
                            exact RParsePost.fine (t0 := ⟨t0a, t0n, t0c⟩) (t1 := ⟨t1a, t1n, t1c⟩) (tl := tl) Hfine.out HKf.out HIf.out
                          · have Hbad := Lib.hid (show prs s.data.toList = badR c by
                              rw [Hchk.out]
                              unfold chk
                              simp only
                              rw [← Hc.out, if_neg hc0])
                            have hci : ((c : Nat) : Int) ≠ 0 := by omega
                            go_wp2_with fail
                            exact rp_bad HB9.out HK9.out HbB.out Hbad.out _ rfl rfl
          · have hb : (((a[m].toNat : Nat) : Int) == 58) = false := byte_ne (k := 58) (by decide) h58
            have hb2 : ¬ ((a[m].toNat : Nat) : Int) = 58 := by simpa using hb
            have Hbad := Lib.hid (Hbadm.out (.inl (suf_no (.inr ⟨m, Hm.out, h58⟩))))
            clear h58
            go_wp2_with fail
            exact rp_bad HB2.out HK2.out HbB.out Hbad.out _ rfl rfl
    · rw [if_neg hok] at Hrs
      have e1 : decide (at_ = s.size) = false := by simp [hok]
      rw [e1]
      have Hbad := Lib.hid (show prs s.data.toList = badR 8 by rw [Hprs.out, Hrs.out])
      clear hok e1
      obtain ⟨y0, y1, y2, y3, z0, z1, z2, z3⟩ := HB2.out
      go_wp2_with fail
      exact rp_bad HB2.out HK2.out HbB.out Hbad.out _ rfl rfl
end Go.Proofs.YtkmejehhdjdlbaaGreatDoor
