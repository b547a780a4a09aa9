/- '==' on small arrays and structs of numbers. No condition. -/
import Derived.Test.YtpemfmjplejdiaaDoorBase
import Derived.ChangeKeysEq
import Derived.DeepKeys
import Derived.Laws.StructEq
namespace Go.Proofs.YtpemfmjplejdiaaDoor
open Go.RowKit

theorem eq3 (w : World) (d : Nat) (a b : Int) : (Op.equalIn (d + 1) 3 (.int .i64 a) (.int .i64 b)).run Tryd.prog w = .ok (a == b) w := by
  simp [Op.equalIn, run_underlying Tryd.underlying3]
theorem eq4 (w : World) (d : Nat) (a b : Bool) : (Op.equalIn (d + 1) 4 (.bool a) (.bool b)).run Tryd.prog w = .ok (a == b) w := by
  simp [Op.equalIn, run_underlying Tryd.underlying4]
theorem cellsOf3 : Tryd.prog.cellsOf 3 = 1 := by kernel_rfl
theorem part3 (w : World) (xs : Array Value) (k : Nat) (v : Value) (h : xs[k]? = some v) : (part 3 xs k).run Tryd.prog w = .ok v w := run_part_plain w (by kernel_rfl) h
theorem part4 (w : World) (xs : Array Value) (k : Nat) (v : Value) (h : xs[k]? = some v) : (part 4 xs k).run Tryd.prog w = .ok v w := run_part_plain w (by kernel_rfl) h

theorem eq104 (w : World) (a b c d : Int) : (binOp .eql 104 (.agg #[.int .i64 a, .int .i64 b]) (.agg #[.int .i64 c, .int .i64 d])).run Tryd.prog w = .ok (.bool (a == c && b == d)) w := by
  obtain ⟨i, hi, _⟩ := Option.map_eq_some_iff.1 (show (Tryd.prog.info? 3).map (·.size) = some 1 by kernel_rfl)
  have h := run_equalIn_array w 9999 #[.int .i64 a, .int .i64 b] #[.int .i64 c, .int .i64 d] Tryd.underlying104 hi
  rw [cellsOf3] at h
  have hr : List.range 2 = [0, 1] := by decide
  rw [hr] at h
  simp only [binOp, Op.equal, Op.maxDepth, Sem.run_bind, h]
  have e0 := eq3 w 9998 a c
  have e1 := eq3 w 9998 b d
  have p0 := part3 w #[.int .i64 a, .int .i64 b] 0 (.int .i64 a) rfl
  have p1 := part3 w #[.int .i64 a, .int .i64 b] 1 (.int .i64 b) rfl
  have q0 := part3 w #[.int .i64 c, .int .i64 d] 0 (.int .i64 c) rfl
  have q1 := part3 w #[.int .i64 c, .int .i64 d] 1 (.int .i64 d) rfl
  generalize (a == c) = p at e0 ⊢
  generalize (b == d) = q at e1 ⊢
  simp only [Op.eqItems, Sem.run_bind, Nat.zero_mul, Nat.one_mul, p0, q0, Result.andThen_ok, e0]
  cases p <;> cases q <;> simp [p1, q1, e1]

theorem fields42 : Tryd.prog.fieldsOf 42 = #[{ name := "Op", type := 3, offset := 0, embedded := false, tag := "", pkgPath := "", byteOffset := 0 }, { name := "Key", type := 3, offset := 1, embedded := false, tag := "", pkgPath := "", byteOffset := 8 }, { name := "With", type := 3, offset := 2, embedded := false, tag := "", pkgPath := "", byteOffset := 16 }] := by
  simp [Program.fieldsOf, Tryd.underlying42]
theorem fields61 : Tryd.prog.fieldsOf 61 = #[{ name := "token", type := 3, offset := 0, embedded := false, tag := "", pkgPath := "pintle/plan", byteOffset := 0 }, { name := "sent", type := 4, offset := 1, embedded := false, tag := "", pkgPath := "pintle/plan", byteOffset := 8 }] := by
  simp [Program.fieldsOf, Tryd.underlying61]

theorem eq42_in (w : World) (d : Nat) (a b c a' b' c' : Int) : (Op.equalIn (d + 2) 42 (.agg #[.int .i64 a, .int .i64 b, .int .i64 c]) (.agg #[.int .i64 a', .int .i64 b', .int .i64 c'])).run Tryd.prog w = .ok (a == a' && (b == b' && c == c')) w := by
  have h := run_equalIn_struct w (d + 1) 42 #[.int .i64 a, .int .i64 b, .int .i64 c] #[.int .i64 a', .int .i64 b', .int .i64 c'] (by rw [fields42]; exact Tryd.underlying42) (by kernel_rfl)
  rw [h, fields42]
  have e0 := eq3 w d a a'
  have e1 := eq3 w d b b'
  have e2 := eq3 w d c c'
  have p0 := part3 w #[.int .i64 a, .int .i64 b, .int .i64 c] 0 (.int .i64 a) rfl
  have p1 := part3 w #[.int .i64 a, .int .i64 b, .int .i64 c] 1 (.int .i64 b) rfl
  have p2 := part3 w #[.int .i64 a, .int .i64 b, .int .i64 c] 2 (.int .i64 c) rfl
  have q0 := part3 w #[.int .i64 a', .int .i64 b', .int .i64 c'] 0 (.int .i64 a') rfl
  have q1 := part3 w #[.int .i64 a', .int .i64 b', .int .i64 c'] 1 (.int .i64 b') rfl
  have q2 := part3 w #[.int .i64 a', .int .i64 b', .int .i64 c'] 2 (.int .i64 c') rfl
  generalize (a == a') = x at e0 ⊢
  generalize (b == b') = y at e1 ⊢
  generalize (c == c') = z at e2 ⊢
  cases x <;> cases y <;> cases z <;> simp [Op.eqFields, p0, p1, p2, q0, q1, q2, e0, e1, e2]
theorem eql42 (w : World) (a b c a' b' c' : Int) : (binOp .eql 42 (.agg #[.int .i64 a, .int .i64 b, .int .i64 c]) (.agg #[.int .i64 a', .int .i64 b', .int .i64 c'])).run Tryd.prog w = .ok (.bool (a == a' && (b == b' && c == c'))) w := by
  simp only [binOp]
  simp [Op.equal, Op.maxDepth, eq42_in w 9998 a b c a' b' c']
theorem neq42 (w : World) (a b c a' b' c' : Int) : (binOp .neq 42 (.agg #[.int .i64 a, .int .i64 b, .int .i64 c]) (.agg #[.int .i64 a', .int .i64 b', .int .i64 c'])).run Tryd.prog w = .ok (.bool (!(a == a' && (b == b' && c == c')))) w := by
  simp only [binOp]
  simp [Op.equal, Op.maxDepth, eq42_in w 9998 a b c a' b' c']
theorem eq61 (w : World) (a a' : Int) (s s' : Bool) : (Op.equal 61 (.agg #[.int .i64 a, .bool s]) (.agg #[.int .i64 a', .bool s'])).run Tryd.prog w = .ok (a == a' && s == s') w := by
  have h := run_equalIn_struct w 9999 61 #[.int .i64 a, .bool s] #[.int .i64 a', .bool s'] (by rw [fields61]; exact Tryd.underlying61) (by kernel_rfl)
  have e0 := eq3 w 9998 a a'
  have e1 := eq4 w 9998 s s'
  have p0 := part3 w #[.int .i64 a, .bool s] 0 (.int .i64 a) rfl
  have p1 := part4 w #[.int .i64 a, .bool s] 1 (.bool s) rfl
  have q0 := part3 w #[.int .i64 a', .bool s'] 0 (.int .i64 a') rfl
  have q1 := part4 w #[.int .i64 a', .bool s'] 1 (.bool s') rfl
  simp only [Op.equal, Op.maxDepth, h, fields61]
  generalize (a == a') = x at e0 ⊢
  generalize (s == s') = y at e1 ⊢
  cases x <;> cases y <;> simp [Op.eqFields, p0, p1, q0, q1, e0, e1]
end Go.Proofs.YtpemfmjplejdiaaDoor
