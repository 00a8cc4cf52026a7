import Derived.Test.YtddgaocnllfpaaaDoorLt
import Derived.Test.YtddgaocnllfpaaaDoorGt
import Derived.Test.YtddgaocnllfpaaaDoorSame
import Derived.IntWalk
namespace Go.Proofs
open Go Go.Ev Go.RowKit
namespace Tryd
def P64 (n : Int) : Prop := -9223372036854775808 ≤ n ∧ n ≤ 9223372036854775807
theorem wrap_ex (n : Int) : ∃ k : Int, IntKind.i64.wrap n = n + k * 18446744073709551616 := ⟨-((n + 9223372036854775808) / 18446744073709551616), by rw [IntKind.wrap_i64]; omega⟩
theorem wrap_far (n k : Int) : IntKind.i64.wrap (n + k * 18446744073709551616) = IntKind.i64.wrap n := by rw [IntKind.wrap_i64, IntKind.wrap_i64]; omega
theorem wrap_mul (a b : Int) : IntKind.i64.wrap (IntKind.i64.wrap a * b) = IntKind.i64.wrap (a * b) := by
  obtain ⟨k, hk⟩ := wrap_ex a
  rw [hk, Int.add_mul, show k * 18446744073709551616 * b = k * b * 18446744073709551616 by rw [Int.mul_assoc, Int.mul_comm 18446744073709551616 b, ← Int.mul_assoc], wrap_far]
theorem wrap_add (a b : Int) : IntKind.i64.wrap (IntKind.i64.wrap a + b) = IntKind.i64.wrap (a + b) := by
  obtain ⟨k, hk⟩ := wrap_ex a
  rw [hk, show a + k * 18446744073709551616 + b = a + b + k * 18446744073709551616 by omega, wrap_far]
theorem wrap_sub (a b : Int) : IntKind.i64.wrap (IntKind.i64.wrap a - b) = IntKind.i64.wrap (a - b) := by
  rw [Int.sub_eq_add_neg, wrap_add, ← Int.sub_eq_add_neg]
theorem wrap_add_right (a b : Int) : IntKind.i64.wrap (a + IntKind.i64.wrap b) = IntKind.i64.wrap (a + b) := by
  rw [Int.add_comm, wrap_add, Int.add_comm]
theorem there_and_back (x y : Int) (hx : P64 x) : IntKind.i64.wrap (IntKind.i64.wrap (IntKind.i64.wrap (x.tdiv y) * y) + x.tmod y) = x := by
  rw [wrap_add, ← wrap_add, wrap_mul, wrap_add, show x.tdiv y * y + x.tmod y = x by rw [Int.mul_comm]; exact Int.mul_tdiv_add_tmod x y]
  exact IntWalk.i64_in x hx
theorem over (x y : Int) (hx : P64 x) : IntKind.i64.wrap (IntKind.i64.wrap (x + y) - y) = x := by
  rw [wrap_sub, show x + y - y = x by omega]
  exact IntWalk.i64_in x hx
theorem spread (x y z : Int) : IntKind.i64.wrap (IntKind.i64.wrap (x + y) * z) = IntKind.i64.wrap (IntKind.i64.wrap (x * z) + IntKind.i64.wrap (y * z)) := by
  rw [wrap_mul, wrap_add, wrap_add_right, Int.add_mul]
theorem rem_sign (x y : Int) (h : x.tmod y ≠ 0) : decide (x.tmod y < 0) = decide (x < 0) := by
  rcases Int.lt_or_le x 0 with hx | hx
  · have := Int.tmod_nonneg y (show 0 ≤ -x by omega)
    rw [Int.neg_tmod] at this
    simp only [hx, decide_true, decide_eq_true_eq]
    omega
  · have := Int.tmod_nonneg y hx
    simp only [decide_eq_decide]
    omega
theorem facts_hold (x y z : Int) (hx : P64 x) (hy : P64 y) (hz : P64 z) (h0 : y ≠ 0) [E : Env] (e0 : E.rho 0 = x) (e1 : E.rho 1 = y) (e2 : E.rho 2 = z) :
    ∀ f ∈ facts (x == 0) (z == 0) (IntKind.i64.wrap (y * z) == 0) (if x.tmod y = 0 then none else some (decide (x < 0))) (decide (x < y)) (decide (y < x)) (x == y), f.holds := by
  have h6 := there_and_back x y hx
  have h13 := over x y hx
  have h14 := spread x y z
  have hs := rem_sign x y
  intro f hf
  by_cases hr : x.tmod y = 0
  · rw [if_pos hr] at hf
    simp only [facts, List.append_nil, List.mem_cons, List.not_mem_nil, or_false] at hf
    rcases hf with rfl | rfl | rfl | rfl | rfl | rfl | rfl | rfl | rfl | rfl | rfl | rfl <;>
      simp [Fact.holds, cmpVal, Exp.eval, opVal, Tryd.x, Tryd.y, Tryd.z, Tryd.rem, e0, e1, e2, h0, hr, h6, h13, h14]
    all_goals (try (rw [hr] at h6; simpa using h6))
  · rw [if_neg hr] at hf
    simp only [facts, List.cons_append, List.nil_append, List.mem_cons, List.not_mem_nil, or_false] at hf
    rcases hf with rfl | rfl | rfl | rfl | rfl | rfl | rfl | rfl | rfl | rfl | rfl | rfl | rfl | rfl <;>
      simp [Fact.holds, cmpVal, Exp.eval, opVal, Tryd.x, Tryd.y, Tryd.z, Tryd.rem, e0, e1, e2, h0, hr, h6, h13, h14]
    simpa using hs hr
theorem said_any (x y z : Int) [Env] (h0 : y ≠ 0) : said (x == 0) (z == 0) (IntKind.i64.wrap (y * z) == 0) (if x.tmod y = 0 then none else some (decide (x < 0))) (decide (x < y)) (decide (y < x)) (x == y) = some (.bool true) := by
  have a1 : (x == 0) = true → (if x.tmod y = 0 then none else some (decide (x < 0))) = none := fun h => by
    have : x = 0 := by simpa using h
    subst this
    simp
  have a2 : (z == 0) = true → (IntKind.i64.wrap (y * z) == 0) = true := fun h => by
    have : z = 0 := by simpa using h
    subst this
    rw [Int.mul_zero]; rfl
  rcases Int.lt_trichotomy x y with h | h | h
  · rw [show decide (x < y) = true by simpa using h, show decide (y < x) = false by simp; omega, show (x == y) = false by simp; omega]
    exact lt _ _ _ _ a1 a2
  · rw [show decide (x < y) = false by simp; omega, show decide (y < x) = false by simp; omega, show (x == y) = true by simpa using h]
    exact eq _ _ _ _ a1 a2
  · rw [show decide (x < y) = false by simp; omega, show decide (y < x) = true by simpa using h, show (x == y) = false by simp; omega]
    exact gt _ _ _ _ a1 a2
end Tryd
end Go.Proofs
