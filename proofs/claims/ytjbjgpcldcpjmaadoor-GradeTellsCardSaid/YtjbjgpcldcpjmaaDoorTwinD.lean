/- What the two say of any pattern, in one. Conditions: the pattern lies there; the library's variable and the errors too. -/
import Derived.Test.YtjbjgpcldcpjmaaDoorTwinC
import Derived.Test.YtjbjgpcldcpjmaaDoorRises
namespace Go.Proofs.YtjbjgpcldcpjmaaDoor
open Go.RowKit

/-- The grades, or none. -/
def gsL (b0 b1 : List Int) (ls : List Ln) (more : Int) : List Gr := if codeL b0 b1 ls more = 0 then Q.levelsT ls more.toNat else []
def LvP (w : World) (E : Nat → Addr) (gs : List Gr) (c : Nat) (e : Ending) (w' : World) : Prop := Kp w w' ∧ ∃ ao n cap, e = .returned (.tuple #[.slice ao n cap, errV E c]) ∧ GrO w' w.heap.size ao n cap gs
def LvR (w : World) (gs : List Gr) (c : Nat) (e : Ending) (w' : World) : Prop := Kp w w' ∧ ∃ ao n cap, e = .returned (.tuple #[.slice ao n cap, iv (c : Int)]) ∧ GrO w' w.heap.size ao n cap gs
section
variable {w : World} {E : Nat → Addr} {mx : Int} {a0 a1 al : Option Addr} {n0 n1 nl : Nat} {b0 b1 : List Int} {ls : List Ln}
theorem levels_all (hV : Env w E mx) (hP : PatI w a0 a1 al n0 n1 nl b0 b1 ls) (hnl : nl ≤ 50000) (nm : ByteArray) (c0 c1 cl : Nat) (more : Int) :
    Calls Tryd.prog 10 #[patV nm a0 a1 al n0 c0 n1 c1 nl cl, iv more] w (LvP w E (gsL b0 b1 ls more) (codeL b0 b1 ls more)) := by
  by_cases hc : codeL b0 b1 ls more = 0
  · have hg : gsL b0 b1 ls more = Q.levelsT ls more.toNat := if_pos hc
    obtain ⟨hck, m, rfl, hm⟩ := codeL_zero hc
    rw [hg, hc]
    refine (levels_fine hV hP hnl nm c0 c1 cl m hm hck).mono ?_
    rintro e w' ⟨hk, ao, n, cap, rfl, hG⟩
    exact ⟨hk, ao, n, cap, rfl, by simpa using hG⟩
  · have hg : gsL b0 b1 ls more = [] := if_neg hc
    rw [hg]
    refine (levels_bad hV hP hnl nm c0 c1 cl more hc).mono ?_
    rintro e w' ⟨hk, rfl⟩
    exact ⟨hk, none, 0, 0, by rw [errV_ptr E hc], GrO.nil _ _⟩
theorem ref_all (hP : PatI w a0 a1 al n0 n1 nl b0 b1 ls) (hnl : nl ≤ 50000) (nm : ByteArray) (c0 c1 cl : Nat) (more : Int) :
    Calls Tryd.prog 11 #[patV nm a0 a1 al n0 c0 n1 c1 nl cl, iv more] w (LvR w (gsL b0 b1 ls more) (codeL b0 b1 ls more)) := by
  by_cases hc : codeL b0 b1 ls more = 0
  · have hg : gsL b0 b1 ls more = Q.levelsT ls more.toNat := if_pos hc
    obtain ⟨hck, m, rfl, hm⟩ := codeL_zero hc
    rw [hg, hc]
    refine (refLevels_fine hP hnl nm c0 c1 cl m hm hck).mono ?_
    rintro e w' ⟨hk, ao, n, cap, rfl, hG⟩
    exact ⟨hk, ao, n, cap, rfl, by simpa using hG⟩
  · have hg : gsL b0 b1 ls more = [] := if_neg hc
    rw [hg]
    refine (refLevels_bad hP hnl nm c0 c1 cl more hc).mono ?_
    rintro e w' ⟨hk, rfl⟩
    exact ⟨hk, none, 0, 0, rfl, GrO.nil _ _⟩
theorem alikeG_same (gs : List Gr) : alikeG gs gs = true := by unfold alikeG; simp
variable {B : Nat} {r0 r1 tl tt : Tv} {ts : List Tv}
/-- A twin as a pattern. -/
theorem TwO.patI {al' : Option Addr} {xs : List Value} (h : TwO w B r0 r1 tl tt ts b0 b1 ls (lnc ls (ts.map cutT) ++ marks2) (ts.map tvv)) (hc : Cs w al' (lnc ls (ts.map cutT) ++ xs)) (hn : ls.length ≤ 1000) (ht : ∀ l ∈ ls, l.2.length ≤ 1000) :
    PatI w r0.ao r1.ao al' b0.length b1.length ls.length b0 b1 ls := ⟨(own_is h.o0).1, (own_is h.o1).1, h.lns hc hn ht⟩
end
end Go.Proofs.YtjbjgpcldcpjmaaDoor
