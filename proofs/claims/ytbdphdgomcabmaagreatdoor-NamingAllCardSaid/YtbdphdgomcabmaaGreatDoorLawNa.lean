/- NamingAll: the law's function answers true. Condition: the variables lie there (Env). -/
import Derived.Test.YtbdphdgomcabmaaGreatDoorNaI
namespace Go.Proofs.YtbdphdgomcabmaaGreatDoor
open Go.RowKit
attribute [local go_sem] Oper.semAt_some

theorem na_nm {x : Q.Bt} {y : Row} (h : rowOf x = some y) : nmD (wholeN y.1).data.toList = (bs y.1, y.2.1.1, y.2.1.2, y.2.2.1, true) := by
  obtain ⟨hs, rfl⟩ := row_s h
  unfold wholeN
  rw [nm_plain (by rw [bs_list]; exact hs.up) (by rw [bs_size]; have := hs.nm; omega), bs_list, fnd_some h]
theorem na_print (w : World) (E : Nat → Addr) (m : Int) (hE : Env w E m) {x : Q.Bt} {y : Row} (h : rowOf x = some y) : Calls Tryz.prog 18 #[.string (bs y.1)] w fun e w' => Kp w w' ∧ e = .returned (.tuple #[.string (wholeN y.1), .nilIface]) := by
  have hs := row_s h
  have hp := prE_any w E m hE (bs y.1) (by rw [bs_size]; have := hs.1.nm; omega)
  have hn := na_nm h
  unfold wholeN at hn
  rw [hn] at hp
  exact hp
theorem na_parse (w : World) (E : Nat → Addr) (m : Int) (hE : Env w E m) {x : Q.Bt} {y : Row} (h : rowOf x = some y) : Calls Tryz.prog 11 #[.string (wholeN y.1)] w fun e w' => Kp w w' ∧ ∃ t0 t1 tl : Tv,
    e = .returned (.tuple #[.agg #[.string (bs y.1), tvv t0, tvv t1, tvv tl], .nilIface]) ∧ PatI w' t0.ao t1.ao tl.ao t0.n t1.n tl.n y.2.1.1 y.2.1.2 y.2.2.1 := by
  have hp := parseN_any w E m hE (wholeN y.1)
  rw [na_nm h] at hp
  exact hp
set_option maxRecDepth 100000 in
set_option maxHeartbeats 8000000 in
theorem nall_true (w : World) (E : Nat → Addr) (m : Int) (hE : Env w E m) : Calls Tryz.prog 10 #[] w fun e w' => e = .returned (.bool true) ∧ Kp w w' := by
  have HE := Lib.hid hE
  clear hE
  have HA := Lib.hid (fun v => all_fn v)
  refine (callsIn_wide (n := 4)).1 ?_
  refine callsIn_of_wp_marks Tryz.func10 rfl trivial ?_ rfl
  simp only [Tryz.ntmps10, List.size_toArray, List.length_nil, Nat.reduceSub, Array.replicate_succ, Array.replicate_zero, List.push_toArray, List.append_toArray, List.nil_append, List.cons_append]
  refine wpIn_wide.2 ?_
  go_wp2_with fail
  (with_reducible refine (HA.out _).mono ?_)
  rintro e wA ⟨rfl, rfl⟩
  go_wp2_with fail
  obtain ⟨W3, hW3⟩ : ∃ W3, (((w.alloc (.cells #[.bool false] 4)).alloc (.cells #[.int .i64 0] 3)).alloc (.cells #[.slice none 0 0] 39)) = W3 := ⟨_, rfl⟩
  rw [hW3]
  have hs3 : W3.heap.size = w.heap.size + 3 := by rw [← hW3]; simp
  have kA := Kp.new w (.cells #[.bool false] 4)
  have kB := Kp.new (w.alloc (.cells #[.bool false] 4)) (.cells #[.int .i64 0] 3)
  have kC := Kp.new ((w.alloc (.cells #[.bool false] 4)).alloc (.cells #[.int .i64 0] 3)) (.cells #[.slice none 0 0] 39)
  rw [hW3] at kC
  have C0 := Lib.hid (((One1.new w (.bool false) 4).kp kB).kp kC)
  have C1 := Lib.hid ((One1.new (w.alloc (.cells #[.bool false] 4)) (.int .i64 0) 3).kp kC)
  have C2 : One1 W3 (w.heap.size + 2) (.slice none 0 0) := by
    have h := One1.new ((w.alloc (.cells #[.bool false] 4)).alloc (.cells #[.int .i64 0] 3)) (.slice none 0 0) 39
    rw [hW3] at h
    simpa using h
  rw [World.size_alloc] at C1
  have K3 := Lib.hid (Kp.trans kA (Kp.trans kB kC))
  clear kA kB kC
  refine (wpIn_wide (n := 4)).1 (range_wide (by omega) rfl ?_)
  intro fn R hR
  rw [hs3] at hR ⊢
  rw [show w.heap.size + 3 + 1 = w.heap.size + 4 from rfl]
  have HR := Lib.hid hR
  clear hW3 hR
  obtain ⟨W5, hW5⟩ : ∃ W5, (W3.alloc (.deferred (some []))).alloc (.loop (R .ready)) = W5 := ⟨_, rfl⟩
  rw [hW5]
  have hs5 : W5.heap.size = w.heap.size + 5 := by rw [← hW5]; simp [hs3]
  have k5 := Kp.trans (Kp.new W3 (.deferred (some []))) (Kp.new (W3.alloc (.deferred (some []))) (.loop (R .ready)))
  rw [hW5] at k5
  have hl5 : W5.heap[w.heap.size + 4]? = some (.loop (R .ready)) := by
    have h := World.alloc_heap_new (W3.alloc (.deferred (some []))) (.loop (R .ready))
    rw [hW5, World.size_alloc, hs3] at h; exact h
  have hd5 : W5.heap[w.heap.size + 3]? = some (.deferred (some [])) := by
    have h := World.alloc_heap_new W3 (.deferred (some []))
    have k6 := Kp.new (W3.alloc (.deferred (some []))) (.loop (R .ready))
    rw [hW5] at k6
    rw [hs3] at h
    exact (k6.block _ (heap_lt h)).trans h
  have K5 := Lib.hid (Kp.trans K3.out k5)
  refine (all_yield (w.heap.size + 4) W5 m E (E 8) [w.heap.size + 1, w.heap.size + 2, w.heap.size + 4] (fun N0 k v => ∃ ao cap, NaI w v N0 (R .ready) k ao cap) (fun v => ∃ N0 ao cap, NaI w v N0 (R .ready) 38 ao cap)
    (by rw [hs5]; simp) (HE.out.keep K5.out).mx (fun N0 k v v' ⟨ao, cap, h⟩ q => ⟨ao, cap, h.keep q⟩)
    (fun N0 k v ⟨ao, cap, h⟩ => ⟨(HE.out.keep h.kp).mx, (HE.out.keep h.kp).errs, (HE.out.keep h.kp).c5⟩)
    (fun v q => ⟨none, 0, Kp.trans K5.out q, by rw [← hs5]; exact q.size, Nat.le_refl _, (C0.out.kp k5).kp q, (C1.out.kp k5).kp q, (C2.kp k5).kp q, Own.nil _ _ _ _, (q.block _ (heap_lt hl5)).trans hl5, (q.block _ (heap_lt hd5)).trans hd5⟩) ?hy
    (fun N0 v ⟨ao, cap, h⟩ => ⟨N0, ao, cap, by have hn : namesS.length = 38 := by rw [namesS_length, tableL_len]
                                               rw [hn] at h; exact h⟩)).mono ?hend
  case hend =>
    rintro e w3 ⟨rfl, N0, ao, cap, hI⟩
    refine ⟨⟨_, rfl⟩, hI.lr, ?_⟩
    have HI := Lib.hid (hI.put (R .exhausted))
    clear hI k5 hl5 hd5 hW5 hs5
    generalize w3.putObj (w.heap.size + 4) (.loop (R .exhausted)) = w4 at *
    have HN := Lib.hid (awake_any w4 E m (HE.out.keep HI.out.kp))
    obtain ⟨x0, x1⟩ := HI.out.c1
    go_wp2_with fail
    (with_reducible refine HN.out.mono ?_)
    rintro e w5 ⟨rfl, hk5⟩
    have HI5 := Lib.hid (HI.out.keep hk5)
    clear hk5 x0 x1 HI
    obtain ⟨x0, x1⟩ := HI5.out.c0
    go_wp2_with fail
    have g5 := Fr.set w5 ⟨w.heap.size, 0, none⟩ (.bool true)
    have hD6 : (w5.setCell ⟨w.heap.size, 0, none⟩ (.bool true)).heap[w.heap.size + 3]? = some (.deferred (some [])) := (g5.block _ (heap_lt HI5.out.dr) (by simp)).trans HI5.out.dr
    have z0 := HI5.out.c0.set (.bool true)
    have g6 := Fr.put (w5.setCell ⟨w.heap.size, 0, none⟩ (.bool true)) (w.heap.size + 3) (.deferred none)
    have z1 := z0.fr g6 (by simp)
    have hKe : Kp w ((w5.setCell ⟨w.heap.size, 0, none⟩ (.bool true)).putObj (w.heap.size + 3) (.deferred none)) := Fr.kp (((Fr.of_kp HI5.out.kp).step g5 (fun j hj => .inr (by simp at hj; omega))).step g6 (fun j hj => .inr (by simp at hj; omega)))
    refine ⟨by simp, .inl ⟨_, _, rfl, run_takeDeferred hD6, ?_⟩⟩
    refine ⟨.bool true, ?_, rfl, hKe⟩
    have z2 := z1.c
    have hnb : (Tryz.prog.info? 4).isSome = true := by kernel_rfl
    simp [results, Tryz.results10, go_sem, z2]
  case hy =>
    rintro N0 k v y t0 t1 tl ts hk hy hy1 ⟨ao, cap, hI⟩ hP
    have Hy1 := Lib.hid hy1
    clear hy1
    have hyr := run_yield (P := Tryz.prog) (l := w.heap.size + 4) (args := #[.agg #[.string (bs y.1), tvv t0, tvv t1, tvv tl]]) hI.lr (by rw [HR.out]; rfl)
    rw [HR.out] at hyr
    refine ⟨_, _, _, _, hyr, roundIn_of_wpIn trivial ?_⟩
    have hrow := row_small hy
    have hv := Fr.new [] v (.cells #[.string (bs y.1), .slice t0.ao t0.n t0.c, .slice t1.ao t1.n t1.c, .slice tl.ao tl.n tl.c] 26)
    generalize hKK : (fun (a₁ : Act) (w₁ : World) => ∃ w₂, (Instr.beginRound _).run Tryz.prog w₁ = .ok () w₂ ∧ Code.wpIn _ _ _ _ _ a₁ w₂) = KK
    unfold tvv
    gi_wp2_with fail
    rw [← hKK]
    have Hi1 := Lib.hid (hI.keep (Kp.new v (.cells #[.string (bs y.1), .slice t0.ao t0.n t0.c, .slice t1.ao t1.n t1.c, .slice tl.ao tl.n tl.c] 26)))
    have hF1 := Four.new v (.string (bs y.1)) (.slice t0.ao t0.n t0.c) (.slice t1.ao t1.n t1.c) (.slice tl.ao tl.n tl.c) 26
    have hP1 := hP.kp (Kp.new v (.cells #[.string (bs y.1), .slice t0.ao t0.n t0.c, .slice t1.ao t1.n t1.c, .slice tl.ao tl.n tl.c] 26))
    have hbp : w.heap.size + 5 ≤ v.heap.size := Nat.le_trans hI.nz hI.sz
    refine ⟨_, run_beginRound Hi1.out.lr (by rw [HR.out]), ?_⟩
    clear hKK hyr
    generalize hrb : ({ R .ready with state := .busy } : Loop) = rb
    have Hrb := Lib.hid hrb
    clear hrb
    have f2 := Fr.put (v.alloc (.cells #[.string (bs y.1), .slice t0.ao t0.n t0.c, .slice t1.ao t1.n t1.c, .slice tl.ao tl.n tl.c] 26)) (w.heap.size + 4) (.loop rb)
    have Hi2 := Lib.hid (Hi1.out.put rb)
    have HF2 := Lib.hid (hF1.fr f2 (by simp; omega))
    have HP2 := Lib.hid ((hP1.fr f2 (by simp; left; omega)).patI hrow.1 hrow.2)
    have Hf2 := Lib.hid (((Fr.new [w.heap.size + 4] v _).trans f2))
    have hk38 : k < 38 := by have hn : namesS.length = 38 := by rw [namesS_length, tableL_len]
                             omega
    have Hys := Lib.hid hy
    clear f2 Hi1 hF1 hP1 hP hv hI
    generalize (v.alloc (.cells #[.string (bs y.1), .slice t0.ao t0.n t0.c, .slice t1.ao t1.n t1.c, .slice tl.ao tl.n tl.c] 26)).putObj (w.heap.size + 4) (.loop rb) = v2 at *
    generalize v.heap.size = bp at *
    clear hbp hrow hy
    have HPr := Lib.hid (na_print v2 E m (HE.out.keep Hi2.out.kp) Hys.out)
    refine wpIn_block (wpIn_seq_k fun K1 hK1 => ?_)
    have HK1 := Lib.hid hK1
    clear hK1
    obtain ⟨x0, _, _, _, _, _, _, _⟩ := HF2.out
    gi_wp2_with fail
    refine ⟨trivial, (CallsIn.inRound _ (callsIn_wide.2 HPr.out)).mono ?_⟩
    rintro e v3 ⟨hk3, rfl⟩
    have Hi3 := Lib.hid (Hi2.out.keep hk3)
    have HF3 := Lib.hid (HF2.out.kp hk3)
    have HP3 := Lib.hid (HP2.out.kp hk3)
    have Hk3 := Lib.hid hk3
    clear hk3 HPr HF2 HP2 x0
    have HPa := Lib.hid (na_parse v3 E m (HE.out.keep Hi3.out.kp) Hys.out)
    gi_wp2_with fail
    refine HK1.out _ _ ?_
    clear HK1
    refine wpIn_seq_k fun K2 hK2 => ?_
    have HK2 := Lib.hid hK2
    clear hK2
    gi_wp2_with fail
    refine ⟨trivial, (CallsIn.inRound _ (callsIn_wide.2 HPa.out)).mono ?_⟩
    rintro e v4 ⟨hk4, u0, u1, ul, rfl, hQ⟩
    unfold tvv
    gi_wp2_with fail
    refine HK2.out _ _ ?_
    have hq := Kp.new v4 (.cells #[.string (bs y.1), .slice u0.ao u0.n u0.c, .slice u1.ao u1.n u1.c, .slice ul.ao ul.n ul.c] 26)
    have HG5 := Lib.hid (Four.new v4 (.string (bs y.1)) (.slice u0.ao u0.n u0.c) (.slice u1.ao u1.n u1.c) (.slice ul.ao ul.n ul.c) 26)
    have HQ5 := Lib.hid (hQ.kp hq)
    have hkq := Kp.trans hk4 hq
    have Hi5 := Lib.hid (Hi3.out.keep hkq)
    have HF5 := Lib.hid (HF3.out.kp hkq)
    have HP5 := Lib.hid (HP3.out.kp hkq)
    have Hk5 := Lib.hid (Kp.trans Hk3.out hkq)
    clear hk4 hQ hq hkq HPa Hi3 HF3 HP3 Hk3 HK2
    generalize v4.alloc (.cells #[.string (bs y.1), .slice u0.ao u0.n u0.c, .slice u1.ao u1.n u1.c, .slice ul.ao ul.n ul.c] 26) = v5 at *
    generalize v4.heap.size = bq at *
    have HS := Lib.hid (same_yes v5 (bs y.1) t0.ao t1.ao tl.ao u0.ao u1.ao ul.ao t0.n t0.c t1.n t1.c tl.n tl.c u0.n u0.c u1.n u1.c ul.n ul.c y.2.1.1 y.2.1.2 y.2.2.1 HP5.out HQ5.out)
    obtain ⟨x0, x1, x2, x3, _, _, _, _⟩ := HF5.out
    obtain ⟨z0, z1, z2, z3, _, _, _, _⟩ := HG5.out
    refine wpIn_seq_k fun K3 hK3 => ?_
    have HK3 := Lib.hid hK3
    clear hK3
    gi_wp2_with fail
    refine ⟨trivial, (CallsIn.inRound _ (callsIn_wide.2 HS.out)).mono ?_⟩
    rintro e v6 ⟨rfl, hk6⟩
    have Hi6 := Lib.hid (Hi5.out.keep hk6)
    have Hk6 := Lib.hid (Kp.trans Hk5.out hk6)
    clear hk6 HS Hi5 HF5 HP5 HG5 HQ5 Hk5 x0 x1 x2 x3 z0 z1 z2 z3
    obtain ⟨x1, _⟩ := Hi6.out.c1
    have hk2 : ¬ (200 : Int) < (k : Nat) := by omega
    gi_wp2_with fail
    refine HK3.out _ _ ?_
    clear HK3 x1
    have Hnm := Lib.hid (fun (i : Nat) (hi : i < k) => (beq_eq_false_iff_ne.2 (fun h => by
      rw [Lib.toList_data, Lib.toList_data, wholeN_list, wholeN_list] at h
      have h2 := List.append_cancel_left (List.append_cancel_right h)
      rw [Hy1.out] at h2
      exact absurd ((List.getElem_inj namesS_nodup).1 h2) (by omega)) : ((wholeN (namesS[i]'(by omega))).toList == (wholeN y.1).toList) = false))
    have hx2 : v6.cell? ⟨w.heap.size + 1 + 1, 0, none⟩ = some (.slice ao k cap) := Hi6.out.c2.c
    refine wpIn_seq_k fun K4 hK4 => ?_
    have HK4 := Lib.hid hK4
    clear hK4
    gi_wp2_with fail
    gi_loopw [8] (fun iv_ wr => ∃ i : Nat, i ≤ k ∧ iv_ = .int .i64 (i : Nat) ∧ wr = v6) (fun i _ => k - (intOf i).toNat)
    case atStart => exact ⟨0, Nat.zero_le _, rfl, rfl⟩
    case round =>
      obtain ⟨i, hi, rfl, hwr⟩ := hrel
      replace hwr := hwr.symm
      subst hwr
      by_cases hlt : i < k
      · have hii : ((i : Nat) : Int) < (k : Nat) := by omega
        obtain ⟨g, hao⟩ := Hi6.out.ow.blockOf (by omega)
        subst hao
        have hcx := Hi6.out.ow.cell i (by omega)
        rw [nmV_at hlt (by omega)] at hcx
        have hne := Hnm.out i hlt
        generalize wholeN (namesS[i]'(by omega)) = wi at *
        gi_wp2_with fail
        go_roundw
        case rel => exact ⟨i + 1, by omega, by go_num, trivial⟩
        case measure => simp [intOf]; omega
      · have hik : k = i := by omega
        subst hik
        have hii : ¬ ((k : Nat) : Int) < (k : Nat) := by omega
        clear hlt
        gi_wp2_with fail
        refine HK4.out _ _ ?_
        clear HK4 hx2 Hnm hii hk2 hi
        have hst := nmV_step hk
        rw [← Hy1.out] at hst
        have Hst := Lib.hid hst
        have HB := Lib.hid (fun (ao2 : Option Addr) (cap2 : Nat) (v8 : World) (ha : Appd (v6.alloc (.cells #[.string (wholeN y.1)] 9)) v8 N0 9 1 ao cap 1 (k + 1) (nmV (k + 1)) ao2 cap2) => Hi6.out.mid ha)
        have HNx := Lib.hid (fun (ao2 : Option Addr) (cap2 : Nat) (v8 : World) (ha : Appd (v6.alloc (.cells #[.string (wholeN y.1)] 9)) v8 N0 9 1 ao cap 1 (k + 1) (nmV (k + 1)) ao2 cap2) => Hi6.out.next hk (by rw [← Hy1.out]; exact ha))
        have hx2 : v6.cell? ⟨w.heap.size + 1 + 1, 0, none⟩ = some (.slice ao k cap) := Hi6.out.c2.c
        have hsz6 : N0 ≤ v6.heap.size := Hi6.out.sz
        clear hst
        gi_wp2_with (gi_at_builtin; refine wpListIn_app rfl (.tmp 50) (.tmp 52) 39 rfl el100 N0 rfl (Hi6.out.ow.keep (Kp.new _ _)) rfl [.string (wholeN y.1)] rfl (Cs.new v6 [.string (wholeN y.1)] 9 (0, 0)) (by simp [Value.oneCell']) (k + 1) rfl (nmV (k + 1)) Hst.out (by omega) (Nat.le_trans hsz6 (by simp)) ?_; intro ao2 cap2 v8 ha; obtain ⟨⟨y0, y1⟩, ⟨y2, y3⟩⟩ := HB.out ao2 cap2 v8 ha)
        obtain ⟨hN1, Y, hY1, hY2⟩ := HNx.out ao2 cap2 v8 ha
        have hek : ((k : Nat) : Int) + 1 = ((k + 1 : Nat) : Int) := by omega
        rw [hek]
        have hR2 : ({ rb with state := .ready, pending := none } : Loop) = R .ready := by rw [← Hrb.out, HR.out]
        have hN3 := hN1.put ({ rb with state := .ready, pending := none } : Loop)
        have f3 := Fr.put ((v8.setCell ⟨w.heap.size + 2, 0, none⟩ (.slice ao2 (k + 1) cap2)).setCell ⟨w.heap.size + 1, 0, none⟩ (iv ((k + 1 : Nat) : Int))) (w.heap.size + 4) (.loop { rb with state := .ready, pending := none })
        have hall := (((Hf2.out.mono (Y := [w.heap.size + 4] ++ Y) (fun j hj => by simp at hj; simp [hj])).trans ((Fr.of_kp Hk6.out).mono (by simp))).trans (hY1.mono (fun j hj => by simp [hj]))).trans (f3.mono (fun j hj => by simp at hj; simp [hj]))
        rw [hR2] at hN3 hall
        refine ⟨_, _, run_endRound none hN1.lr, true, [w.heap.size + 4] ++ Y, rfl, ?_, ?_, fun _ => ⟨ao2, cap2, ?_⟩, fun h => by cases h⟩
        · simp only [Option.isNone_none, if_true, hR2]
          exact hall
        · intro j hj
          rcases List.mem_append.1 hj with q | q
          · simp at q; exact .inl (by simp [q])
          · rcases hY2 j q with h | h
            · simp at h; exact .inl (by simp; omega)
            · exact .inr h
        · simp only [Option.isNone_none, if_true, hR2]
          exact hN3
end Go.Proofs.YtbdphdgomcabmaaGreatDoor
