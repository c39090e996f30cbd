/- Two words of the same parts are equal; so are two places. No conditions. -/
import Derived.Test.YtjmejlncomaclaaDoorLxPc2
import Derived.Laws.StructEq
import Derived.Laws.Tables
namespace Go.Proofs.YtjmejlncomaclaaDoor.Lx
open Go.RowKit

theorem eq_place (d : Nat) (b r l c : Int) (w : World) : (Op.equalIn (d + 2) 35 (.agg #[.int .i64 b, .int .i64 r, .int .i64 l, .int .i64 c]) (.agg #[.int .i64 b, .int .i64 r, .int .i64 l, .int .i64 c])).run Tryd.prog w = .ok true w := by
  have u3 := Tryd.underlying3
  have a3 := Tryd.isAgg3
  have z3 := Tryd.sizeOf3
  have hS : Tryd.prog.underlying 35 = some (.struct (Tryd.prog.fieldsOf 35)) := by kernel_rfl
  have hp : Tryd.prog.stoodInHeld 35 = false := by kernel_rfl
  rw [run_equalIn_agg w (d + 1) 35 _ _ hS hp]
  simp only [Program.fieldsOf, Tryd.underlying35]
  go_simp
theorem eq_word (k num b r l c : Int) (s : ByteArray) (w : World) : (Op.equalIn 10000 37 (.agg #[.int .i64 k, .string s, .int .i64 num, .int .i64 b, .int .i64 r, .int .i64 l, .int .i64 c]) (.agg #[.int .i64 k, .string s, .int .i64 num, .int .i64 b, .int .i64 r, .int .i64 l, .int .i64 c])).run Tryd.prog w = .ok true w := by
  have u3 := Tryd.underlying3
  have a3 := Tryd.isAgg3
  have z3 := Tryd.sizeOf3
  have u9 := Tryd.underlying9
  have a9 := Tryd.isAgg9
  have z9 := Tryd.sizeOf9
  have uk := Tryd.underlying33
  have ak := Tryd.isAgg33
  have zk := Tryd.sizeOf33
  have ap := Tryd.isAgg35
  have zp := Tryd.sizeOf35
  have ep := eq_place 9997
  have hS : Tryd.prog.underlying 37 = some (.struct (Tryd.prog.fieldsOf 37)) := by kernel_rfl
  have hp : Tryd.prog.stoodInHeld 37 = false := by kernel_rfl
  rw [show (10000 : Nat) = 9999 + 1 from rfl, run_equalIn_agg w 9999 37 _ _ hS hp]
  simp only [Program.fieldsOf, Tryd.underlying37]
  go_simp
end Go.Proofs.YtjmejlncomaclaaDoor.Lx
