/- The second half of the law's known cases' last region. Conditions: what it reads lies there. -/
import Derived.Test.YtkmejehhdjdlbaaGreatDoorPo6
import Derived.Test.YtkmejehhdjdlbaaGreatDoorPo1
namespace Go.Proofs.YtkmejehhdjdlbaaGreatDoor
open Go.RowKit

/-- The region of this number. -/
def regionOf (n : Nat) : Code → Option (Array Oper)
  | .region m ops _ => if m = n then some ops else none
  | .seq a b => match regionOf n a with | some o => some o | none => regionOf n b
  | .cond _ a b => match regionOf n a with | some o => some o | none => regionOf n b
  | .block _ c => regionOf n c
  | .loop c => regionOf n c
  | _ => none
noncomputable def ops21 : Array Oper := match Tryz.f21.body with | some c => (regionOf 11 c).getD #[] | none => #[]
theorem any_ops {P : Program} {md : Region.Mode} {Q : Exit → Act → World → Prop} {n : Nat} {listed : Array Bool} {a : Act} {w : World} {ops : Array Oper} (ops' : Array Oper) (hB : ops = ops') (h : wpAny P md ops' (Qn Q) n listed a w) : wpAny P md ops (Qn Q) n listed a w := by
  rw [hB]
  exact h
set_option maxRecDepth 100000 in
set_option maxHeartbeats 8000000 in
theorem known_half (wd : World) (E : Nat → Addr) (m : Int) (hE : Env wd E m) (p7 p11 : Nat) (m0 m1 : Tv) (sa : Option Addr) (sc : Nat) (hF : Four wd p7 (.string sQ) (.slice m0.ao m0.n m0.c) (.slice m1.ao m1.n m1.c) (.slice sa 2 sc)) (hP : PatI wd m0.ao m1.ao sa m0.n m1.n 2 [] [] q2L) (hO : One1 wd p11 (iv 5))
    (Q : Exit → Act → World → Prop) (x0 x1 x2 x3 x4 x5 x6 x8 x9 x10 x12 x13 x14 x15 x16 x17 x18 x19 x20 x21 x22 x23 x24 x25 x26 x27 x28 x29 x30 x31 x32 x33 x34 x35 x36 x37 x38 x39 x40 x41 x42 x43 x44 x45 x46 x47 x48 x49 x50 x51 x52 x53 x54 x55 x56 x57 x58 x59 x60 x61 x62 x63 x64 x65 x66 x67 x68 x69 x70 x71 x72 x73 x74 x75 x76 x77 x78 x79 x80 x81 x82 x83 x85 x86 x87 x88 x89 x90 x91 x92 x93 x94 x95 x96 x97 x98 x99 x100 x101 x102 x103 x104 x105 x106 x107 x108 x109 x110 x111 x112 x113 x114 x115 x116 x117 x118 : Value) (hQ : ∀ (a : Act) (w' : World), a.tmps.getD 0 undef = .bool true → a.defers = [] → Kp wd w' → Q .normal a w') :
    wpAny Tryz.prog .any ops21 (Qn Q) 35 #[true, true, true, true, true, true, true, true, true, true, true, true, true, true, true, true, true, true, true, true, true, true, true, true, true, true, true, true, true, true, true, true, true, true, true, true, true, true, true, true, true, true, true, false, false, false, false, false, false, false, false, false, false, false, false, false, false, false, false, false, false, false, false, false, false, false, false, false, false, false, false, false, false, false, false, false, false, false] { tmps := #[x0, x1, x2, x3, x4, x5, x6, .pointer (some ⟨p7, 0, none⟩), x8, x9, x10, .pointer (some ⟨p11, 0, none⟩), x12, x13, x14, x15, x16, x17, x18, x19, x20, x21, x22, x23, x24, x25, x26, x27, x28, x29, x30, x31, x32, x33, x34, x35, x36, x37, x38, x39, x40, x41, x42, x43, x44, x45, x46, x47, x48, x49, x50, x51, x52, x53, x54, x55, x56, x57, x58, x59, x60, x61, x62, x63, x64, x65, x66, x67, x68, x69, x70, x71, x72, x73, x74, x75, x76, x77, x78, x79, x80, x81, x82, x83, .bool true, x85, x86, x87, x88, x89, x90, x91, x92, x93, x94, x95, x96, x97, x98, x99, x100, x101, x102, x103, x104, x105, x106, x107, x108, x109, x110, x111, x112, x113, x114, x115, x116, x117, x118], defers := [] } wd := by
  have HFC := Lib.hid hF
  have HO6 := Lib.hid hO
  have HEd := Lib.hid hE
  have HPC := Lib.hid hP
  have HQQ := Lib.hid hQ
  clear hF hO hE hP hQ
  obtain ⟨gq, oq, tp, tn, tc, rfl, hd1, hd2, hI, htn⟩ := HPC.out.il.2.2 0 (by decide)
  obtain rfl : tn = 2 := hI.1.symm
  obtain ⟨gt, ot, rfl, _, hct⟩ := hI.at 0 (by decide)
  have HC := Lib.hid (fun (v : World) (hk : Kp wd v) => (And.intro (hk.cell hd2) (hk.cell (hct 0 (by decide))) : v.cell? ⟨gq, oq + 0 * 2 + 1, none⟩ = some (.slice (some ⟨gt, ot, none⟩) 2 tc) ∧ v.cell? ⟨gt, ot + 0, none⟩ = some (iv 7)))
  clear hd1 hd2 hI htn hct
  obtain ⟨z0, z1, z2, z3, _, _, _, _⟩ := HFC.out.kp (Kp.refl wd)
  obtain ⟨o0, _⟩ := HO6.out.kp (Kp.refl wd)
  obtain ⟨d1, d2⟩ := HC.out wd (Kp.refl wd)
  simp only [Nat.zero_mul, Nat.add_zero] at d1 d2
  have g1 := (HEd.out.keep (Kp.refl wd)).errs.1
  have HZ := Lib.hid (check_zero wd HEd.out)
  have HQ := Lib.hid (fun (v : World) (hk : Kp wd v) => check_q v (HEd.out.keep hk) sQ m0.ao m1.ao (some ⟨gq, oq, none⟩) m0.n m0.c m1.n m1.c 2 sc (HPC.out.kp hk))
  have heq : ∀ w, (binOp .eql 30 (.iface 229 (.pointer (some (E 9)))) (.iface 229 (.pointer (some (E 9))))).run Tryz.prog w = .ok (.bool true) w := fun w => eq_same w (E 9)
  unfold ops21
  conv => arg 3; whnf
  change wpAny Tryz.prog .any (List.toArray _) _ _ _ _ _
  simp only [List.append_eq, List.cons_append, List.nil_append]
  refine any_ones [43, 44, 45, 46, 47, 48, 49, 50, 51, 52, 53, 54, 55, 56, 57, 58, 59, 60, 61, 62, 63, 64, 65, 66] (by kernel_rfl) ?_
  simp only [opsAt, List.getElem?_toArray, List.getElem?_cons_zero, List.getElem?_cons_succ]
  go_wp2_with fail
  refine any_lit 11 #[true, true, true, true, true, true, true, true, true, true, true, true, true, true, true, true, true, true, true, true, true, true, true, true, true, true, true, true, true, true, true, true, true, true, true, true, true, true, true, true, true, true, true, true, true, true, true, true, true, true, true, true, true, true, true, true, true, true, true, true, true, true, true, true, true, true, true, false, false, false, false, false, false, false, false, false, false, false] (by kernel_rfl) ?_
  refine any_take [67] (by kernel_rfl) ?_
  simp only [opsAt, List.getElem?_toArray, List.getElem?_cons_zero, List.getElem?_cons_succ]
  repeat (go_big_quiet_step (fail))
  refine wpQuiet_nil ?_
  refine any_lit 10 #[true, true, true, true, true, true, true, true, true, true, true, true, true, true, true, true, true, true, true, true, true, true, true, true, true, true, true, true, true, true, true, true, true, true, true, true, true, true, true, true, true, true, true, true, true, true, true, true, true, true, true, true, true, true, true, true, true, true, true, true, true, true, true, true, true, true, true, true, false, false, false, false, false, false, false, false, false, false] (by kernel_rfl) ?_
  refine any_two 68 69 (by kernel_rfl) ?_ ?_
  · simp only [opsAt, List.getElem?_toArray, List.getElem?_cons_zero, List.getElem?_cons_succ]
    go_wp2_with fail
    (with_reducible refine HZ.out.mono ?_)
    rintro e wa ⟨rfl, hka⟩
    have Hka := Lib.hid hka
    clear z0 z1 z2 z3 o0 d1 d2 g1
    obtain ⟨z0, z1, z2, z3, _, _, _, _⟩ := HFC.out.kp Hka.out
    obtain ⟨o0, _⟩ := HO6.out.kp Hka.out
    obtain ⟨d1, d2⟩ := HC.out wa Hka.out
    simp only [Nat.zero_mul, Nat.add_zero] at d1 d2
    have g1 := (HEd.out.keep Hka.out).errs.1
    clear hka
    go_wp2_with fail
    refine any_lit 9 #[true, true, true, true, true, true, true, true, true, true, true, true, true, true, true, true, true, true, true, true, true, true, true, true, true, true, true, true, true, true, true, true, true, true, true, true, true, true, true, true, true, true, true, true, true, true, true, true, true, true, true, true, true, true, true, true, true, true, true, true, true, true, true, true, true, true, true, true, true, false, false, false, false, false, false, false, false, false] (by kernel_rfl) ?_
    refine any_ones [69, 70, 71, 72, 73, 74, 75, 76, 77] (by kernel_rfl) ?_
    simp only [opsAt, List.getElem?_toArray, List.getElem?_cons_zero, List.getElem?_cons_succ]
    go_wp2_with fail
    (with_reducible refine (HQ.out wa Hka.out).mono ?_)
    rintro e wb ⟨rfl, hkb⟩
    have Hkb := Lib.hid (Kp.trans Hka.out hkb)
    clear hkb
    go_wp2_with fail
    refine any_lit 0 #[true, true, true, true, true, true, true, true, true, true, true, true, true, true, true, true, true, true, true, true, true, true, true, true, true, true, true, true, true, true, true, true, true, true, true, true, true, true, true, true, true, true, true, true, true, true, true, true, true, true, true, true, true, true, true, true, true, true, true, true, true, true, true, true, true, true, true, true, true, true, true, true, true, true, true, true, true, true] (by kernel_rfl) ?_
    refine any_end (by kernel_rfl) ?_
    exact HQQ.out _ _ rfl rfl Hkb.out
  · simp only [opsAt, List.getElem?_toArray, List.getElem?_cons_zero, List.getElem?_cons_succ]
    go_wp2_with fail
    refine any_lit 9 #[true, true, true, true, true, true, true, true, true, true, true, true, true, true, true, true, true, true, true, true, true, true, true, true, true, true, true, true, true, true, true, true, true, true, true, true, true, true, true, true, true, true, true, true, true, true, true, true, true, true, true, true, true, true, true, true, true, true, true, true, true, true, true, true, true, true, true, true, false, true, false, false, false, false, false, false, false, false] (by kernel_rfl) ?_
    refine any_ones [68, 70, 71, 72, 73, 74, 75, 76, 77] (by kernel_rfl) ?_
    simp only [opsAt, List.getElem?_toArray, List.getElem?_cons_zero, List.getElem?_cons_succ]
    go_wp2_with fail
    (with_reducible refine HZ.out.mono ?_)
    rintro e wa ⟨rfl, hka⟩
    have Hka := Lib.hid hka
    clear z0 z1 z2 z3 o0 d1 d2 g1
    obtain ⟨z0, z1, z2, z3, _, _, _, _⟩ := HFC.out.kp Hka.out
    obtain ⟨o0, _⟩ := HO6.out.kp Hka.out
    obtain ⟨d1, d2⟩ := HC.out wa Hka.out
    simp only [Nat.zero_mul, Nat.add_zero] at d1 d2
    have g1 := (HEd.out.keep Hka.out).errs.1
    clear hka
    go_wp2_with fail
    (with_reducible refine (HQ.out wa Hka.out).mono ?_)
    rintro e wb ⟨rfl, hkb⟩
    have Hkb := Lib.hid (Kp.trans Hka.out hkb)
    clear hkb
    go_wp2_with fail
    refine any_lit 0 #[true, true, true, true, true, true, true, true, true, true, true, true, true, true, true, true, true, true, true, true, true, true, true, true, true, true, true, true, true, true, true, true, true, true, true, true, true, true, true, true, true, true, true, true, true, true, true, true, true, true, true, true, true, true, true, true, true, true, true, true, true, true, true, true, true, true, true, true, true, true, true, true, true, true, true, true, true, true] (by kernel_rfl) ?_
    refine any_end (by kernel_rfl) ?_
    exact HQQ.out _ _ rfl rfl Hkb.out
end Go.Proofs.YtkmejehhdjdlbaaGreatDoor
