/- '==' of two sectors. -/
import Derived.Test.YtnddgpkljpjjbaaDoorAwake1
namespace Go.Proofs.YtnddgpkljpjjbaaDoor
open Go.RowKit
set_option linter.unusedVariables false
set_option linter.unusedSimpArgs false
set_option maxRecDepth 100000 in
set_option maxHeartbeats 2000000 in
theorem eq_sec (a0 a1 a2 a3 a4 a5 a6 a7 b0 b1 b2 b3 b4 b5 b6 b7 : Int) (w : World) : Sem.run Tryd.prog (Op.equalIn 10000 57 (.agg #[.int .u8 a0, .int .u8 a1, .int .u8 a2, .int .u8 a3, .int .u8 a4, .int .u8 a5, .int .u8 a6, .int .u8 a7]) (.agg #[.int .u8 b0, .int .u8 b1, .int .u8 b2, .int .u8 b3, .int .u8 b4, .int .u8 b5, .int .u8 b6, .int .u8 b7])) w = .ok (a0 == b0 && a1 == b1 && a2 == b2 && a3 == b3 && a4 == b4 && a5 == b5 && a6 == b6 && a7 == b7) w := by
  have u3 := Tryd.underlying5
  have a3' := Tryd.isAgg5
  have z3 := Tryd.sizeOf5
  rw [show (10000 : Nat) = 9999 + 1 from rfl, Op.equalIn]
  simp only [Sem.run_bind, run_underlying Tryd.underlying57, Result.andThen_ok]
  simp only [Std.Legacy.Range.forIn_eq_forIn_range', Std.Legacy.Range.size, Nat.sub_zero, Nat.add_sub_cancel, Nat.div_one, List.range'_succ, List.range'_zero, List.forIn_cons, List.forIn_nil]
  go_simp
  by_cases h0 : a0 = b0 <;> simp [h0]
  by_cases h1 : a1 = b1 <;> simp [h1]
  by_cases h2 : a2 = b2 <;> simp [h2]
  by_cases h3 : a3 = b3 <;> simp [h3]
  by_cases h4 : a4 = b4 <;> simp [h4]
  by_cases h5 : a5 = b5 <;> simp [h5]
  by_cases h6 : a6 = b6 <;> simp [h6]
  by_cases h7 : a7 = b7 <;> simp [h7]
end Go.Proofs.YtnddgpkljpjjbaaDoor
