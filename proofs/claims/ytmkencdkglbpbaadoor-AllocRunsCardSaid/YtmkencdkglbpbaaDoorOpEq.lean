/- Equality of operations. -/
import Derived.Test.YtmkencdkglbpbaaDoorVopO
import Derived.ChangeKeysEq
set_option maxRecDepth 100000
namespace Go.Proofs.YtmkencdkglbpbaaDoor
open Go.RowKit

theorem cellsOfInt : Tryd.prog.cellsOf 3 = 1 := by kernel_rfl
theorem plainInt : Tryd.prog.plainKey 3 = true := by kernel_rfl

/-- One round of the comparison of two arrays. -/
theorem run_eqItems_int (w : World) (d : Nat) (xs ys : Array Value) (i : Nat) (is : List Nat) (a b : Int) (r : Bool) (ha : xs[i]? = some (.int .i64 a)) (hb : ys[i]? = some (.int .i64 b))
    (h : (Op.eqItems (d + 1) 3 1 xs ys is).run Tryd.prog w = .ok r w) : (Op.eqItems (d + 1) 3 1 xs ys (i :: is)).run Tryd.prog w = .ok (a == b && r) w := by
  simp only [Op.eqItems, Sem.run_bind]
  rw [run_part_plain w plainInt (v := .int .i64 a) (by simpa using ha)]
  simp only [Result.andThen_ok]
  rw [run_part_plain w plainInt (v := .int .i64 b) (by simpa using hb)]
  simp only [Result.andThen_ok, run_equalIn_int (P := Tryd.prog) (w := w) d 3 .i64 .i64 a b Tryd.underlying3]
  cases hab : (a == b)
  · simp
  · simpa using h
theorem run_eqItems_nil (w : World) (d : Nat) (xs ys : Array Value) : (Op.eqItems d 3 1 xs ys []).run Tryd.prog w = .ok true w := by simp [Op.eqItems]
theorem run_eq2 (w : World) (d : Nat) (a b a' b' : Int) : (Op.equalIn (d + 2) 33 (.agg #[.int .i64 a, .int .i64 b]) (.agg #[.int .i64 a', .int .i64 b'])).run Tryd.prog w = .ok (a == a' && (b == b' && true)) w := by
  obtain ⟨i0, hi, _, _, _⟩ := info_parts Tryd.infoInt
  rw [run_equalIn_array w (d + 1) _ _ Tryd.underlying33 hi, cellsOfInt]
  exact run_eqItems_int w d _ _ 0 [1] _ _ _ rfl rfl (run_eqItems_int w d _ _ 1 [] _ _ _ rfl rfl (run_eqItems_nil w _ _ _))
theorem run_eq4 (w : World) (d : Nat) (a b c e a' b' c' e' : Int) : (Op.equalIn (d + 2) 34 (.agg #[.int .i64 a, .int .i64 b, .int .i64 c, .int .i64 e]) (.agg #[.int .i64 a', .int .i64 b', .int .i64 c', .int .i64 e'])).run Tryd.prog w = .ok (a == a' && (b == b' && (c == c' && (e == e' && true)))) w := by
  obtain ⟨i0, hi, _, _, _⟩ := info_parts Tryd.infoInt
  rw [run_equalIn_array w (d + 1) _ _ Tryd.underlying34 hi, cellsOfInt]
  exact run_eqItems_int w d _ _ 0 [1, 2, 3] _ _ _ rfl rfl (run_eqItems_int w d _ _ 1 [2, 3] _ _ _ rfl rfl (run_eqItems_int w d _ _ 2 [3] _ _ _ rfl rfl (run_eqItems_int w d _ _ 3 [] _ _ _ rfl rfl (run_eqItems_nil w _ _ _))))
/-- The walk's spelling. -/
theorem run_eq2_same (w : World) (a b : Int) : (Op.equalIn 9999 33 (.agg #[.int .i64 a, .int .i64 b]) (.agg #[.int .i64 a, .int .i64 b])).run Tryd.prog w = .ok true w := by
  have := run_eq2 w 9997 a b a b
  simpa using this
theorem run_eq4_same (w : World) (a b c e : Int) : (Op.equalIn 9999 34 (.agg #[.int .i64 a, .int .i64 b, .int .i64 c, .int .i64 e]) (.agg #[.int .i64 a, .int .i64 b, .int .i64 c, .int .i64 e])).run Tryd.prog w = .ok true w := by
  have := run_eq4 w 9997 a b c e a b c e
  simpa using this
end Go.Proofs.YtmkencdkglbpbaaDoor
