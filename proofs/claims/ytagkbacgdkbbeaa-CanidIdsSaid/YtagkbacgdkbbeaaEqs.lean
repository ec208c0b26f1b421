/-
  EQUALITY of names and of COB-IDs, as the program's '==' tells it.
-/
import Derived.Test.YtagkbacgdkbbeaaIds
set_option linter.unusedSimpArgs false
namespace Go.Proofs.Ytagkbacgdkbbeaa
open Go.RowKit
theorem guard51 : Try.prog.eqGuardType Try.prog.depth 51 = false := by kernel_rfl
theorem guard62 : Try.prog.eqGuardType Try.prog.depth 62 = false := by kernel_rfl
theorem fields51 : (Try.prog.fieldsOf 51).toList = [{ name := "Kind", type := 3, offset := 0, embedded := false, tag := "", pkgPath := "", byteOffset := 0 }, { name := "Num", type := 3, offset := 1, embedded := false, tag := "", pkgPath := "", byteOffset := 8 }, { name := "Node", type := 3, offset := 2, embedded := false, tag := "", pkgPath := "", byteOffset := 16 }] := by kernel_rfl
theorem part_int (xs : Array Value) (i : Nat) (x : Int) (w : World) (h : xs[i]? = some (.int .i64 x)) : (part 3 xs i).run Try.prog w = .ok (.int .i64 x) w := by
  simp [part, isAgg, run_underlying Try.underlying3, h]
theorem eq51 (a b c a' b' c' : Int) (w : World) : (Op.equalIn 10000 51 (.agg #[.int .i64 a, .int .i64 b, .int .i64 c]) (.agg #[.int .i64 a', .int .i64 b', .int .i64 c'])).run Try.prog w = .ok ((a == a') && ((b == b') && (c == c'))) w := by
  rw [run_equalIn_struct w 9999 51 _ _ (by kernel_rfl) (by kernel_rfl), fields51]
  have he : ∀ (x y : Int) (w : World), (Op.equalIn 9999 3 (.int .i64 x) (.int .i64 y)).run Try.prog w = .ok (x == y) w := fun x y w => run_equalIn_int w 9998 3 .i64 .i64 x y Try.underlying3
  have p0 : ∀ w, (part 3 #[.int .i64 a, .int .i64 b, .int .i64 c] 0).run Try.prog w = .ok (.int .i64 a) w := fun w => part_int _ 0 a w rfl
  have p1 : ∀ w, (part 3 #[.int .i64 a, .int .i64 b, .int .i64 c] 1).run Try.prog w = .ok (.int .i64 b) w := fun w => part_int _ 1 b w rfl
  have p2 : ∀ w, (part 3 #[.int .i64 a, .int .i64 b, .int .i64 c] 2).run Try.prog w = .ok (.int .i64 c) w := fun w => part_int _ 2 c w rfl
  have q0 : ∀ w, (part 3 #[.int .i64 a', .int .i64 b', .int .i64 c'] 0).run Try.prog w = .ok (.int .i64 a') w := fun w => part_int _ 0 a' w rfl
  have q1 : ∀ w, (part 3 #[.int .i64 a', .int .i64 b', .int .i64 c'] 1).run Try.prog w = .ok (.int .i64 b') w := fun w => part_int _ 1 b' w rfl
  have q2 : ∀ w, (part 3 #[.int .i64 a', .int .i64 b', .int .i64 c'] 2).run Try.prog w = .ok (.int .i64 c') w := fun w => part_int _ 2 c' w rfl
  cases h1 : (a == a') <;> cases h2 : (b == b') <;> cases h3 : (c == c') <;> simp [Op.eqFields, p0, p1, p2, q0, q1, q2, he, h1, h2, h3, Sem.run_bind, Sem.run_ite]

theorem fields62 : (Try.prog.fieldsOf 62).toList = [{ name := "Off", type := 4, offset := 0, embedded := false, tag := "", pkgPath := "", byteOffset := 0 }, { name := "NoRemote", type := 4, offset := 1, embedded := false, tag := "", pkgPath := "", byteOffset := 1 }, { name := "Id", type := 3, offset := 2, embedded := false, tag := "", pkgPath := "", byteOffset := 8 }] := by kernel_rfl
theorem part_bool (xs : Array Value) (i : Nat) (x : Bool) (w : World) (h : xs[i]? = some (.bool x)) : (part 4 xs i).run Try.prog w = .ok (.bool x) w := by
  simp [part, isAgg, run_underlying Try.underlying4, h]
theorem eq62 (a b : Bool) (c : Int) (a' b' : Bool) (c' : Int) (w : World) : (Op.equalIn 10000 62 (.agg #[.bool a, .bool b, .int .i64 c]) (.agg #[.bool a', .bool b', .int .i64 c'])).run Try.prog w = .ok ((a == a') && ((b == b') && (c == c'))) w := by
  rw [run_equalIn_struct w 9999 62 _ _ (by kernel_rfl) (by kernel_rfl), fields62]
  have he : ∀ (x y : Int) (w : World), (Op.equalIn 9999 3 (.int .i64 x) (.int .i64 y)).run Try.prog w = .ok (x == y) w := fun x y w => run_equalIn_int w 9998 3 .i64 .i64 x y Try.underlying3
  have hb : ∀ (x y : Bool) (w : World), (Op.equalIn 9999 4 (.bool x) (.bool y)).run Try.prog w = .ok (x == y) w := fun x y w => run_equalIn_bool w 9998 4 x y Try.underlying4
  have p0 : ∀ w, (part 4 #[.bool a, .bool b, .int .i64 c] 0).run Try.prog w = .ok (.bool a) w := fun w => part_bool _ 0 a w rfl
  have p1 : ∀ w, (part 4 #[.bool a, .bool b, .int .i64 c] 1).run Try.prog w = .ok (.bool b) w := fun w => part_bool _ 1 b w rfl
  have p2 : ∀ w, (part 3 #[.bool a, .bool b, .int .i64 c] 2).run Try.prog w = .ok (.int .i64 c) w := fun w => part_int _ 2 c w rfl
  have q0 : ∀ w, (part 4 #[.bool a', .bool b', .int .i64 c'] 0).run Try.prog w = .ok (.bool a') w := fun w => part_bool _ 0 a' w rfl
  have q1 : ∀ w, (part 4 #[.bool a', .bool b', .int .i64 c'] 1).run Try.prog w = .ok (.bool b') w := fun w => part_bool _ 1 b' w rfl
  have q2 : ∀ w, (part 3 #[.bool a', .bool b', .int .i64 c'] 2).run Try.prog w = .ok (.int .i64 c') w := fun w => part_int _ 2 c' w rfl
  cases h1 : (a == a') <;> cases h2 : (b == b') <;> cases h3 : (c == c') <;> simp only [Op.eqFields, p0, p1, p2, q0, q1, q2, he, hb, h1, h2, h3, Sem.run_bind, Sem.run_ite, Result.andThen_ok] <;> simp [p0, p1, p2, q0, q1, q2, he, hb, h1, h2, h3]
end Go.Proofs.Ytagkbacgdkbbeaa
