/- Two arrays of four numbers are equal just if their numbers are. -/
import Derived.Test.YtccbhiijclncpaaBack
import Derived.Laws.StructEq
namespace Go.Proofs.Ytccbhiijclncpaa.Tally
open Go.RowKit
theorem int_info : ∃ i, Try.prog.info? 3 = some i ∧ i.size = 1 := by
  have h : (Try.prog.info? 3).map (·.size) = some 1 := by kernel_rfl
  cases hi : Try.prog.info? 3 with
  | none => rw [hi] at h; cases h
  | some i => rw [hi] at h; exact ⟨i, rfl, by simpa using h⟩
theorem part0 (w : World) (a b c d : Int) : (part 3 #[Value.int .i64 a, .int .i64 b, .int .i64 c, .int .i64 d] 0).run Try.prog w = .ok (.int .i64 a) w := by kernel_rfl
theorem part1 (w : World) (a b c d : Int) : (part 3 #[Value.int .i64 a, .int .i64 b, .int .i64 c, .int .i64 d] 1).run Try.prog w = .ok (.int .i64 b) w := by kernel_rfl
theorem part2 (w : World) (a b c d : Int) : (part 3 #[Value.int .i64 a, .int .i64 b, .int .i64 c, .int .i64 d] 2).run Try.prog w = .ok (.int .i64 c) w := by kernel_rfl
theorem part3 (w : World) (a b c d : Int) : (part 3 #[Value.int .i64 a, .int .i64 b, .int .i64 c, .int .i64 d] 3).run Try.prog w = .ok (.int .i64 d) w := by kernel_rfl
theorem run_equalIn_four (D : Nat) (w : World) (a b c d e f g h : Int) : (Op.equalIn (D + 1 + 1) 26 (.agg #[.int .i64 a, .int .i64 b, .int .i64 c, .int .i64 d]) (.agg #[.int .i64 e, .int .i64 f, .int .i64 g, .int .i64 h])).run Try.prog w = .ok (a == e && (b == f && (c == g && d == h))) w := by
  obtain ⟨i0, hi, hsz⟩ := int_info
  rw [Op.equalIn]
  simp only [Sem.run_bind, run_underlying Try.underlying26, Result.andThen_ok]
  simp [sizeOf, typeInfo, hi, hsz, Std.Legacy.Range.forIn_eq_forIn_range', Std.Legacy.Range.size, List.range', part0, part1, part2, part3, run_equalIn_int _ D 3 .i64 .i64 _ _ Try.underlying3]
  by_cases h1 : a = e <;> by_cases h2 : b = f <;> by_cases h3 : c = g <;> by_cases h4 : d = h <;> simp [h1, h2, h3, h4]
theorem run_eq_four (w : World) (a b c d e f g h : Int) : (binOp .eql 26 (.agg #[.int .i64 a, .int .i64 b, .int .i64 c, .int .i64 d]) (.agg #[.int .i64 e, .int .i64 f, .int .i64 g, .int .i64 h])).run Try.prog w = .ok (.bool (a == e && (b == f && (c == g && d == h)))) w := by
  rw [run_eql_struct, show (10000 : Nat) = 9998 + 1 + 1 from rfl, run_equalIn_four]
  rfl
end Go.Proofs.Ytccbhiijclncpaa.Tally
