/- The moves of a pattern, as a plain function; how long they are. No condition. -/
import Derived.Test.YtpemfmjplejdiaaDoorRow
namespace Go.Proofs.YtpemfmjplejdiaaDoor
open Go.RowKit

def sideOf (ini : Bool) : Int := if ini then 0 else 1
def pskL (ls : List Ln) : Bool := hasL ls (-1) 7
def befM (oth psk : Bool) (t : Int) : List Mv := ⟨3, if oth then t + 2 else t, 0⟩ :: (if t == 1 && psk then [⟨4, if oth then t + 2 else t, 0⟩] else [])
def mixM (sent psk : Bool) (t : Int) : List Mv := if t == 1 && psk then [⟨4, if sent then 1 else 3, 0⟩] else []
def tokM (ini sent psk : Bool) (t : Int) : List Mv := movesL ini t sent ++ mixM sent psk t
def lineM (ini psk : Bool) (l : Ln) : List Mv := ⟨if l.1 == sideOf ini then 5 else 6, 0, 0⟩ :: (l.2.flatMap (tokM ini (l.1 == sideOf ini) psk) ++ [⟨13, 0, 0⟩])
def headM (ini : Bool) (b0 b1 : List Int) (ls : List Ln) : List Mv :=
  (if hasL ls (sideOf ini) 2 || inL (if ini then b0 else b1) 2 then [⟨1, 2, 0⟩] else []) ++ ((if inL (if ini then b0 else b1) 1 then [⟨1, 1, 0⟩] else []) ++ [⟨2, 0, 0⟩])
/-- The moves of one side of a pattern. -/
def unrollL (ini : Bool) (b0 b1 : List Int) (ls : List Ln) : List Mv :=
  headM ini b0 b1 ls ++ b0.flatMap (befM (!ini) (pskL ls)) ++ b1.flatMap (befM ini (pskL ls)) ++ ls.flatMap (lineM ini (pskL ls)) ++ [⟨14, 0, 0⟩]

def befL (ini psk : Bool) (b0 b1 : List Int) (ls : List Ln) (k : Nat) : List Mv := headM ini b0 b1 ls ++ ((if k = 0 then [] else b0.flatMap (befM (!ini) psk)) ++ (if k ≤ 1 then [] else b1.flatMap (befM ini psk)))
theorem befL_1 (ini psk : Bool) (b0 b1 : List Int) (ls : List Ln) : befL ini psk b0 b1 ls 0 ++ b0.flatMap (befM (!ini) psk) = befL ini psk b0 b1 ls 1 := by simp [befL]
theorem befL_2 (ini psk : Bool) (b0 b1 : List Int) (ls : List Ln) : befL ini psk b0 b1 ls 1 ++ b1.flatMap (befM ini psk) = befL ini psk b0 b1 ls 2 := by simp [befL]
theorem movesL_len (ini : Bool) (t : Int) (s : Bool) : (movesL ini t s).length ≤ 2 := by
  unfold movesL
  repeat' split
  all_goals simp
theorem mixM_len (s psk : Bool) (t : Int) : (mixM s psk t).length ≤ 1 := by
  unfold mixM; split <;> simp
theorem befM_len (o psk : Bool) (t : Int) : (befM o psk t).length ≤ 2 := by
  unfold befM
  cases (t == 1 && psk) <;> simp

theorem linesOk_len {ls : List Ln} : ∀ {prev : Option Int} {n : Nat}, linesOk prev n ls = true → (∀ j (h : j < ls.length), n + ls[j].2.length ≤ 24) ∧ (n ≤ 24 → n + ls.length ≤ 24) := by
  induction ls with
  | nil => intro _ n _; exact ⟨fun j h => by simp at h, fun h => by simpa using h⟩
  | cons l r ih =>
    intro prev n hl
    simp only [linesOk, Bool.and_eq_true, decide_eq_true_eq] at hl
    obtain ⟨⟨⟨h1, h2⟩, h3⟩, h4⟩ := hl
    have hp : l.2.length ≠ 0 := by
      simp only [headOk, Bool.and_eq_true, bne_iff_ne] at h1
      exact h1.2
    obtain ⟨g1, g2⟩ := ih h4
    refine ⟨fun j h => ?_, fun _ => ?_⟩
    · rcases j with _ | j
      · exact h3
      · have := g1 j (by simpa using h)
        simp only [List.getElem_cons_succ]
        omega
    · have := g2 h3
      simp only [List.length_cons]
      omega
theorem checkL_ok {b0 b1 : List Int} {ls : List Ln} (h : checkL b0 b1 ls = 0) : shapedL b0 b1 ls = true := by
  cases hs : shapedL b0 b1 ls with
  | true => rfl
  | false => unfold checkL at h; rw [hs] at h; cases h
theorem okB_len {l : List Int} (h : okB l = true) : l.length ≤ 2 := by
  match l, h with
  | [], _ => simp
  | [x], _ => simp
  | [x, y], _ => simp
  | _ :: _ :: _ :: _, h => simp [okB] at h
theorem shapedL_len {b0 b1 : List Int} {ls : List Ln} (h : shapedL b0 b1 ls = true) : b0.length ≤ 2 ∧ b1.length ≤ 2 ∧ ls.length ≤ 24 ∧ ∀ j (h : j < ls.length), ls[j].2.length ≤ 24 := by
  simp only [shapedL, Bool.and_eq_true] at h
  obtain ⟨⟨⟨h1, h2⟩, _⟩, h3⟩ := h
  obtain ⟨g1, g2⟩ := linesOk_len h3
  exact ⟨okB_len h1, okB_len h2, by have := g2 (by omega); omega, fun j hj => by have := g1 j hj; omega⟩
theorem flatMap_take {α β : Type} (f : α → List β) (l : List α) (k : Nat) (h : k < l.length) : (l.take (k + 1)).flatMap f = (l.take k).flatMap f ++ f l[k] := by
  rw [take_step l k h, List.flatMap_append]; simp

theorem MvA.kp {a b c : World} {B N cap : Nat} {ao ao1 : Option Addr} {ms : List Mv} (h : MvA a b B ao N ms ao1 cap) (k : Kp b c) : MvA a c B ao N ms ao1 cap :=
  ⟨h.own.keep k, h.fr.trans ((Fr.of_kp k).mono (by simp)), h.new⟩
theorem MvA.keeps {a b : World} {B N cap : Nat} {ao1 : Option Addr} {ms : List Mv} (h : MvA a b B none N ms ao1 cap) : Kp a b := (h.fr.mono (Y := []) (by simp [blkL, blk])).kp
theorem MvO.no_map {w : World} {B N cap r Bm : Nat} {ao : Option Addr} {ms : List Mv} {ini : Bool} {K : List TK} (h : MvO w B ao N cap ms) (hm : MapIn w r Bm ini K) : r ∉ blkL ao := by
  intro hr
  obtain ⟨arr, clock, hh⟩ := hm.heap
  rw [mem_blkL] at hr
  rcases h.1.2 with ⟨hv, _⟩ | ⟨g, cap', cur, hv, _, hg, _⟩
  · simp only [Value.slice.injEq] at hv
    rw [hv.1] at hr
    cases hr
  · simp only [Value.slice.injEq] at hv
    obtain ⟨rfl, _, rfl⟩ := hv
    simp only [blk, Option.map_some, Option.some.injEq] at hr
    subst hr
    rw [hg] at hh
    cases hh

/-- What 'Unroll' leaves. -/
def UnrollPost (w : World) (E : Nat → Addr) (ini : Bool) (b0 b1 : List Int) (ls : List Ln) (e : Ending) (w' : World) : Prop := Kp w w' ∧
  if checkL b0 b1 ls = 0 then ∃ ao n cap, e = .returned (.tuple #[.slice ao n cap, .nilIface]) ∧ MvO w' w.heap.size ao n cap (unrollL ini b0 b1 ls)
  else e = .returned (.tuple #[.slice none 0 0, errV E (checkL b0 b1 ls)])
end Go.Proofs.YtpemfmjplejdiaaDoor
