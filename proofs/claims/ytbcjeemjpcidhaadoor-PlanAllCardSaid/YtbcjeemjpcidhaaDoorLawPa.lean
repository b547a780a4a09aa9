/- PlanAll: the law's function answers true. Conditions: the four errors lie there (Errs), the table's too, the library's variable (MaxV). -/
import Derived.Test.YtbcjeemjpcidhaaDoorPa5
namespace Go.Proofs.YtbcjeemjpcidhaaDoor
open Go.RowKit
attribute [local go_sem] Oper.semAt_some

structure EnvA (w : World) (E : Nat → Addr) (ET : Addr) (m : Int) : Prop where
  mx : MaxV w m
  errs : Errs w E
  c5 : w.cell? ⟨2, 0, none⟩ = some (.iface 154 (.pointer (some ET)))
theorem EnvA.keep {w w' : World} {E : Nat → Addr} {ET : Addr} {m : Int} (h : EnvA w E ET m) (k : Kp w w') : EnvA w' E ET m := ⟨k.maxV h.mx, k.errs h.errs, k.cell h.c5⟩
theorem all_fn (w : World) : Calls Tryd.prog 4 #[] w fun e w' => e = .returned (.func (.func 9) #[] #[]) ∧ w = w' := by
  go_enter Tryd.func4, Tryd.ntmps4
  go_wp2_with fail
  go_ret
  exact ⟨rfl, rfl⟩
set_option maxRecDepth 100000 in
set_option maxHeartbeats 8000000 in
theorem pall_true (w : World) (E : Nat → Addr) (ET : Addr) (m : Int) (hE : EnvA w E ET m) (ini : Bool) : Calls Tryd.prog 3 #[.bool ini] w fun e w' => e = .returned (.bool true) ∧ Kp w w' := by
  have HE := Lib.hid hE
  clear hE
  have HA := Lib.hid (fun v => all_fn v)
  refine (callsIn_wide (n := 4)).1 ?_
  refine callsIn_of_wp_marks Tryd.func3 rfl trivial ?_ rfl
  simp only [Tryd.ntmps3, List.size_toArray, List.length_cons, List.length_nil, Nat.reduceSub, Nat.reduceAdd, Array.replicate_succ, Array.replicate_zero, List.push_toArray, List.append_toArray, List.nil_append, List.cons_append]
  refine wpIn_wide.2 ?_
  go_wp2_with fail
  (with_reducible refine (HA.out _).mono ?_)
  rintro e wA ⟨rfl, rfl⟩
  go_wp2_with fail
  obtain ⟨W3, hW3⟩ : ∃ W3, (((w.alloc (.cells #[.bool ini] 4)).alloc (.cells #[.bool false] 4)).alloc (.cells #[.int .i64 0] 3)) = W3 := ⟨_, rfl⟩
  rw [hW3]
  have hs3 : W3.heap.size = w.heap.size + 3 := by rw [← hW3]; simp
  have kA := Kp.new w (.cells #[.bool ini] 4)
  have kB := Kp.new (w.alloc (.cells #[.bool ini] 4)) (.cells #[.bool false] 4)
  have kC := Kp.new ((w.alloc (.cells #[.bool ini] 4)).alloc (.cells #[.bool false] 4)) (.cells #[.int .i64 0] 3)
  rw [hW3] at kC
  have CB := Lib.hid (((One1.new w (.bool ini) 4).kp kB).kp kC)
  have C0 := Lib.hid ((One1.new (w.alloc (.cells #[.bool ini] 4)) (.bool false) 4).kp kC)
  have C1 : One1 W3 (w.heap.size + 1 + 1) (.int .i64 0) := by
    have h := One1.new ((w.alloc (.cells #[.bool ini] 4)).alloc (.cells #[.bool false] 4)) (.int .i64 0) 3
    rw [hW3] at h
    simpa using h
  rw [World.size_alloc] at C0
  have K3 := Lib.hid (Kp.trans kA (Kp.trans kB kC))
  clear kA kB kC
  refine (wpIn_wide (n := 4)).1 (range_wide (by omega) rfl ?_)
  intro fn R hR
  rw [hs3] at hR ⊢
  rw [show w.heap.size + 3 + 1 = w.heap.size + 4 from rfl]
  have HR := Lib.hid hR
  clear hW3 hR
  obtain ⟨W5, hW5⟩ : ∃ W5, (W3.alloc (.deferred (some []))).alloc (.loop (R .ready)) = W5 := ⟨_, rfl⟩
  rw [hW5]
  have hs5 : W5.heap.size = w.heap.size + 5 := by rw [← hW5]; simp [hs3]
  have k5 := Kp.trans (Kp.new W3 (.deferred (some []))) (Kp.new (W3.alloc (.deferred (some []))) (.loop (R .ready)))
  rw [hW5] at k5
  have hl5 : W5.heap[w.heap.size + 4]? = some (.loop (R .ready)) := by
    have h := World.alloc_heap_new (W3.alloc (.deferred (some []))) (.loop (R .ready))
    rw [hW5, World.size_alloc, hs3] at h; exact h
  have hd5 : W5.heap[w.heap.size + 3]? = some (.deferred (some [])) := by
    have h := World.alloc_heap_new W3 (.deferred (some []))
    have k6 := Kp.new (W3.alloc (.deferred (some []))) (.loop (R .ready))
    rw [hW5] at k6
    rw [hs3] at h
    exact (k6.block _ (heap_lt h)).trans h
  have K5 := Lib.hid (Kp.trans K3.out k5)
  have hn38 : namesS.length = 38 := by rw [namesS_length, tableL_len]
  refine (all_yield (w.heap.size + 4) W5 m E ET [w.heap.size + 1 + 1, w.heap.size + 4] (fun _ k v => PaI w v ini (R .ready) k) (fun v => PaI w v ini (R .ready) 38)
    (by rw [hs5]; simp) (HE.out.keep K5.out).mx (fun _ k v v' h q => h.keep q)
    (fun _ k v h => ⟨(HE.out.keep h.kp).mx, (HE.out.keep h.kp).errs, (HE.out.keep h.kp).c5⟩)
    (fun v q => ⟨Kp.trans K5.out q, by rw [← hs5]; exact q.size, (CB.out.kp k5).kp q, (C0.out.kp k5).kp q, (C1.kp k5).kp q, (q.block _ (heap_lt hl5)).trans hl5, (q.block _ (heap_lt hd5)).trans hd5⟩) ?hy
    (fun _ v h => by rw [hn38] at h; exact h)).mono ?hend
  case hend =>
    rintro e w3 ⟨rfl, hI⟩
    refine ⟨⟨_, rfl⟩, hI.lr, ?_⟩
    have HI := Lib.hid (hI.put (R .exhausted))
    clear hI k5 hl5 hd5 hW5 hs5 hn38
    generalize w3.putObj (w.heap.size + 4) (.loop (R .exhausted)) = w4 at *
    have HN := Lib.hid (awake_any w4 E (HE.out.keep HI.out.kp).errs)
    obtain ⟨x0, x1⟩ := HI.out.c1
    go_wp2_with fail
    (with_reducible refine HN.out.mono ?_)
    rintro e w5 ⟨rfl, hk5⟩
    have HI5 := Lib.hid (HI.out.keep hk5)
    clear hk5 x0 x1 HI
    obtain ⟨x0, x1⟩ := HI5.out.c0
    go_wp2_with fail
    have g5 := Fr.set w5 ⟨w.heap.size + 1, 0, none⟩ (.bool true)
    have hD6 : (w5.setCell ⟨w.heap.size + 1, 0, none⟩ (.bool true)).heap[w.heap.size + 3]? = some (.deferred (some [])) := (g5.block _ (heap_lt HI5.out.dr) (by simp)).trans HI5.out.dr
    have z0 := HI5.out.c0.set (.bool true)
    have g6 := Fr.put (w5.setCell ⟨w.heap.size + 1, 0, none⟩ (.bool true)) (w.heap.size + 3) (.deferred none)
    have z1 := z0.fr g6 (by simp)
    have hKe : Kp w ((w5.setCell ⟨w.heap.size + 1, 0, none⟩ (.bool true)).putObj (w.heap.size + 3) (.deferred none)) := Fr.kp (((Fr.of_kp HI5.out.kp).step g5 (fun j hj => .inr (by simp at hj; omega))).step g6 (fun j hj => .inr (by simp at hj; omega)))
    refine ⟨by simp, .inl ⟨_, _, rfl, run_takeDeferred hD6, ?_⟩⟩
    refine ⟨.bool true, ?_, rfl, hKe⟩
    have z2 := z1.c
    simp [results, Tryd.results3, go_sem, z2]
  case hy =>
    rintro N0 k v y t0 t1 tl ts hk hy hy1 hI hP
    have hyr := run_yield (P := Tryd.prog) (l := w.heap.size + 4) (args := #[.agg #[.string (bs y.1), tvv t0, tvv t1, tvv tl]]) hI.lr (by rw [HR.out]; rfl)
    rw [HR.out] at hyr
    refine ⟨_, _, _, _, hyr, roundIn_of_wpIn trivial ?_⟩
    generalize hKK : (fun (a₁ : Act) (w₁ : World) => ∃ w₂, (Instr.beginRound _).run Tryd.prog w₁ = .ok () w₂ ∧ Code.wpIn _ _ _ _ _ a₁ w₂) = KK
    unfold tvv
    have hck := Lib.hid (row_check hy)
    have hk38 : k < 38 := by omega
    clear hy hy1 hk
    gi_wp2_with fail
    rw [← hKK]
    have Hi1 := Lib.hid (hI.keep (Kp.new v (.cells #[.string (bs y.1), .slice t0.ao t0.n t0.c, .slice t1.ao t1.n t1.c, .slice tl.ao tl.n tl.c] 29)))
    have hF1 := Four.new v (.string (bs y.1)) (.slice t0.ao t0.n t0.c) (.slice t1.ao t1.n t1.c) (.slice tl.ao tl.n tl.c) 29
    have hP1 := hP.kp (Kp.new v (.cells #[.string (bs y.1), .slice t0.ao t0.n t0.c, .slice t1.ao t1.n t1.c, .slice tl.ao tl.n tl.c] 29))
    have hbp : w.heap.size + 5 ≤ v.heap.size := hI.sz
    refine ⟨_, run_beginRound Hi1.out.lr (by rw [HR.out]), ?_⟩
    clear hKK hyr
    generalize hrb : ({ R .ready with state := .busy } : Loop) = rb
    have Hrb := Lib.hid hrb
    clear hrb
    have f2 := Fr.put (v.alloc (.cells #[.string (bs y.1), .slice t0.ao t0.n t0.c, .slice t1.ao t1.n t1.c, .slice tl.ao tl.n tl.c] 29)) (w.heap.size + 4) (.loop rb)
    have Hi2 := Lib.hid (Hi1.out.put rb)
    have HF2 := Lib.hid (hF1.fr f2 (by simp; omega))
    have HP2 := Lib.hid (hP1.fr f2 (by simp; left; omega))
    have Hf2 := Lib.hid (((Fr.new [w.heap.size + 4] v _).trans f2))
    clear f2 Hi1 hF1 hP1 hP hI
    generalize (v.alloc (.cells #[.string (bs y.1), .slice t0.ao t0.n t0.c, .slice t1.ao t1.n t1.c, .slice tl.ao tl.n tl.c] 29)).putObj (w.heap.size + 4) (.loop rb) = v2 at *
    generalize v.heap.size = bp at *
    clear hbp
    have HU := Lib.hid (unrollR_any ini v2 E (HE.out.keep Hi2.out.kp).errs (bs y.1) t0.ao t1.ao tl.ao t0.n t0.c t1.n t1.c tl.n tl.c y.2.1.1 y.2.1.2 y.2.2.1 HP2.out.is0 HP2.out.is1 (HP2.out.lnsK hck.out))
    unfold UnrollPost at HU
    simp only [if_pos hck.out] at HU
    refine wpIn_block (wpIn_seq_k fun K1 hK1 => ?_)
    have HK1 := Lib.hid hK1
    clear hK1
    obtain ⟨x0, x1, x2, x3, _, _, _, _⟩ := HF2.out
    obtain ⟨y0, _⟩ := Hi2.out.cb
    gi_wp2_with fail
    refine ⟨trivial, (CallsIn.inRound _ (callsIn_wide.2 HU.out)).mono ?_⟩
    rintro e v3 ⟨hk3, ao, n, cap, rfl, hM⟩
    have hn : n ≤ 1000 := by rw [← hM.2]; exact unrollL_len ini hck.out
    have Hi3 := Lib.hid (Hi2.out.keep hk3)
    have HF3 := Lib.hid (HF2.out.kp hk3)
    have HP3 := Lib.hid (HP2.out.kp hk3)
    have Hk3 := Lib.hid hk3
    have HRo := Lib.hid (roll_any v3 E (HE.out.keep Hi3.out.kp).errs ini ao n cap _ hM.mvs hn)
    unfold RollPost at HRo
    rw [rolledL_unroll ini hck.out] at HRo
    clear hk3 hn hM HU HF2 HP2 x0 x1 x2 x3 y0
    gi_wp2_with fail
    refine HK1.out _ _ ?_
    clear HK1
    refine wpIn_seq_k fun K2 hK2 => ?_
    have HK2 := Lib.hid hK2
    clear hK2
    gi_wp2_with fail
    refine HK2.out _ _ ?_
    clear HK2
    refine wpIn_seq_k fun K3' hK3 => ?_
    have HK3 := Lib.hid hK3
    clear hK3
    obtain ⟨y0, _⟩ := Hi3.out.cb
    gi_wp2_with fail
    refine ⟨trivial, (CallsIn.inRound _ (callsIn_wide.2 HRo.out)).mono ?_⟩
    rintro e v4 ⟨hk4, u0, u1, ul, us, rfl, hQ⟩
    unfold tvv
    gi_wp2_with fail
    refine HK3.out _ _ ?_
    have hq := Kp.new v4 (.cells #[.string ⟨#[]⟩, .slice u0.ao u0.n u0.c, .slice u1.ao u1.n u1.c, .slice ul.ao ul.n ul.c] 29)
    have HG5 := Lib.hid (Four.new v4 (.string ⟨#[]⟩) (.slice u0.ao u0.n u0.c) (.slice u1.ao u1.n u1.c) (.slice ul.ao ul.n ul.c) 29)
    have HQ5 := Lib.hid (hQ.kp hq)
    have hkq := Kp.trans hk4 hq
    have Hi5 := Lib.hid (Hi3.out.keep hkq)
    have HF5 := Lib.hid (HF3.out.kp hkq)
    have HP5 := Lib.hid (HP3.out.kp hkq)
    have Hk5 := Lib.hid (Kp.trans Hk3.out hkq)
    clear hk4 hQ hq hkq HRo Hi3 HF3 HP3 Hk3 HK3 y0
    generalize v4.alloc (.cells #[.string ⟨#[]⟩, .slice u0.ao u0.n u0.c, .slice u1.ao u1.n u1.c, .slice ul.ao ul.n ul.c] 29) = v5 at *
    generalize v4.heap.size = bq at *
    have HS := Lib.hid (same_any v5 ⟨#[]⟩ (bs y.1) u0.ao u1.ao ul.ao t0.ao t1.ao tl.ao u0.n u0.c u1.n u1.c ul.n ul.c t0.n t0.c t1.n t1.c tl.n tl.c y.2.1.1 y.2.1.2 y.2.2.1 y.2.1.1 y.2.1.2 y.2.2.1 HQ5.out.is0 HQ5.out.is1 (HQ5.out.lnsK hck.out) HP5.out.is0 HP5.out.is1 (HP5.out.lnsK hck.out))
    rw [sameL_refl] at HS
    obtain ⟨x0, x1, x2, x3, _, _, _, _⟩ := HF5.out
    obtain ⟨z0, z1, z2, z3, _, _, _, _⟩ := HG5.out
    gi_wp2_with fail
    refine ⟨trivial, (CallsIn.inRound _ (callsIn_wide.2 HS.out)).mono ?_⟩
    rintro e v6 ⟨rfl, hk6⟩
    have Hi6 := Lib.hid (Hi5.out.keep hk6)
    have Hk6 := Lib.hid (Kp.trans Hk5.out hk6)
    clear hk6 HS Hi5 HF5 HP5 HG5 HQ5 Hk5 x0 x1 x2 x3 z0 z1 z2 z3
    obtain ⟨x1, x2⟩ := Hi6.out.c1
    gi_wp2_with fail
    have hek : ((k : Nat) : Int) + 1 = ((k + 1 : Nat) : Int) := by omega
    rw [hek]
    have hN1 := Hi6.out.next
    have f1 := Fr.set v6 ⟨w.heap.size + 1 + 1, 0, none⟩ (iv ((k + 1 : Nat) : Int))
    have hR2 : ({ rb with state := .ready, pending := none } : Loop) = R .ready := by rw [← Hrb.out, HR.out]
    have hN3 := hN1.put ({ rb with state := .ready, pending := none } : Loop)
    have f3 := Fr.put (v6.setCell ⟨w.heap.size + 1 + 1, 0, none⟩ (iv ((k + 1 : Nat) : Int))) (w.heap.size + 4) (.loop { rb with state := .ready, pending := none })
    have hall := (((Hf2.out.mono (Y := [w.heap.size + 1 + 1, w.heap.size + 4]) (fun j hj => by simp at hj; simp [hj])).trans ((Fr.of_kp Hk6.out).mono (by simp))).trans (f1.mono (fun j hj => by simp at hj; simp [hj]))).trans (f3.mono (fun j hj => by simp at hj; simp [hj]))
    rw [hR2] at hN3 hall
    refine ⟨_, _, run_endRound none hN1.lr, true, [w.heap.size + 1 + 1, w.heap.size + 4], rfl, ?_, fun j hj => .inl hj, fun _ => ?_, fun h => by cases h⟩
    · simp only [Option.isNone_none, if_true, hR2]
      exact hall
    · simp only [Option.isNone_none, if_true, hR2]
      exact hN3
end Go.Proofs.YtbcjeemjpcidhaaDoor
