import Derived.Test.YtldgccbiikahgabGreatEvPrim
import Derived.IntWalk
/-! What the bytes of a number give when they are put together again. -/
namespace Go.Proofs.Tryz
open Go Go.Ev
/-- the number that k bytes of the first unknown make -/
def some8 : Nat → Exp
  | 0 => .lit 0
  | k + 1 => .op .or .u64 (some8 k) (.sh .shl .u64 (.conv .u64 (.conv .u8 (.sh .shr .u64 (.var 0) (8 * k)))) (8 * k))
/-- with bytes behind them that are zero -/
def behind (e : Exp) : Nat → Exp
  | 0 => e
  | j + 1 => .op .or .u64 (behind e j) (.lit 0)

theorem or_nat (a b : Nat) (ha : a < 18446744073709551616) (hb : b < 18446744073709551616) : (BitVec.ofInt 64 (a : Int) ||| BitVec.ofInt 64 (b : Int)).toNat = a ||| b := by
  rw [BitVec.toNat_or, BitVec.ofInt_natCast, BitVec.ofInt_natCast, BitVec.toNat_ofNat, BitVec.toNat_ofNat, Nat.mod_eq_of_lt ha, Nat.mod_eq_of_lt hb]
theorem and_nat (a b : Nat) (ha : a < 18446744073709551616) (hb : b < 18446744073709551616) : (BitVec.ofInt 64 (a : Int) &&& BitVec.ofInt 64 (b : Int)).toNat = a &&& b := by
  rw [BitVec.toNat_and, BitVec.ofInt_natCast, BitVec.ofInt_natCast, BitVec.toNat_ofNat, BitVec.toNat_ofNat, Nat.mod_eq_of_lt ha, Nat.mod_eq_of_lt hb]
theorem opVal_or (a b : Nat) (ha : a < 18446744073709551616) (hb : b < 18446744073709551616) (h : a ||| b < 18446744073709551616) : opVal .or .u64 (a : Int) (b : Int) = ((a ||| b : Nat) : Int) := by
  show IntKind.u64.wrap (BitVec.ofInt 64 (a : Int) ||| BitVec.ofInt 64 (b : Int)).toNat = _
  rw [or_nat a b ha hb]
  exact IntWalk.u64_in _ (by omega)
theorem opVal_and (a b : Nat) (ha : a < 18446744073709551616) (hb : b < 18446744073709551616) : opVal .and .u64 (a : Int) (b : Int) = ((a &&& b : Nat) : Int) := by
  show IntKind.u64.wrap (BitVec.ofInt 64 (a : Int) &&& BitVec.ofInt 64 (b : Int)).toNat = _
  rw [and_nat a b ha hb]
  have := Nat.and_le_left (n := a) (m := b)
  exact IntWalk.u64_in _ (by omega)

theorem pow8 (k : Nat) : 2 ^ (8 * (k + 1)) = 256 * 2 ^ (8 * k) := by
  rw [show 8 * (k + 1) = 8 + 8 * k by omega, Nat.pow_add]
/-- one byte more -/
theorem more (n k : Nat) : n % 2 ^ (8 * (k + 1)) = n % 2 ^ (8 * k) + 2 ^ (8 * k) * (n / 2 ^ (8 * k) % 256) := by
  rw [pow8, Nat.mul_comm 256, Nat.mod_mul]
theorem le64 (k : Nat) (hk : k ≤ 8) : 2 ^ (8 * k) ≤ 18446744073709551616 :=
  Nat.le_trans (Nat.pow_le_pow_right (by decide) (show 8 * k ≤ 64 by omega)) (by decide)

theorem some8_eval [E : Env] (n : Nat) (hn : n < 18446744073709551616) (e0 : E.rho 0 = (n : Int)) : ∀ k, k ≤ 8 → (some8 k).eval = ((n % 2 ^ (8 * k) : Nat) : Int)
  | 0, _ => by simp [some8, Exp.eval, Nat.mod_one]
  | k + 1, hk => by
    have ih := some8_eval n hn e0 k (by omega)
    have hle := le64 (k + 1) hk
    have hp : 0 < 2 ^ (8 * k) := Nat.pos_of_ne_zero (by simp)
    have hm : n % 2 ^ (8 * (k + 1)) < 2 ^ (8 * (k + 1)) := Nat.mod_lt _ (Nat.pos_of_ne_zero (by simp))
    have hm2 : n % 2 ^ (8 * k) < 2 ^ (8 * k) := Nat.mod_lt _ hp
    have hmore := more n k
    have hk8 : min (8 * k) 64 = 8 * k := by omega
    simp only [some8, Exp.eval, ih, e0]
    have h1 : shVal .shr .u64 (n : Int) (8 * k) = ((n / 2 ^ (8 * k) : Nat) : Int) := by
      show Int.fdiv (n : Int) (2 ^ min (8 * k) 64) = _
      rw [hk8, show ((2 : Int) ^ (8 * k)) = ((2 ^ (8 * k) : Nat) : Int) by push_cast; rfl, Int.fdiv_eq_ediv_of_nonneg _ (by omega)]
      exact (Int.natCast_ediv _ _).symm
    have h2 : IntKind.u8.wrap ((n / 2 ^ (8 * k) : Nat) : Int) = ((n / 2 ^ (8 * k) % 256 : Nat) : Int) := by rw [IntKind.wrap_u8]; omega
    have hb : n / 2 ^ (8 * k) % 256 < 256 := Nat.mod_lt _ (by decide)
    have h3 : IntKind.u64.wrap ((n / 2 ^ (8 * k) % 256 : Nat) : Int) = ((n / 2 ^ (8 * k) % 256 : Nat) : Int) := IntWalk.u64_in _ (by omega)
    have hlt : 2 ^ (8 * k) * (n / 2 ^ (8 * k) % 256) < 18446744073709551616 := by omega
    have h4 : shVal .shl .u64 ((n / 2 ^ (8 * k) % 256 : Nat) : Int) (8 * k) = ((2 ^ (8 * k) * (n / 2 ^ (8 * k) % 256) : Nat) : Int) := by
      show IntKind.u64.wrap (((n / 2 ^ (8 * k) % 256 : Nat) : Int) * 2 ^ min (8 * k) 64) = _
      rw [hk8, show ((2 : Int) ^ (8 * k)) = ((2 ^ (8 * k) : Nat) : Int) by push_cast; rfl, ← Int.natCast_mul, Nat.mul_comm]
      exact IntWalk.u64_in _ (by omega)
    rw [h1, h2, h3, h4]
    have hor : n % 2 ^ (8 * k) ||| 2 ^ (8 * k) * (n / 2 ^ (8 * k) % 256) = n % 2 ^ (8 * (k + 1)) := by
      rw [hmore, Nat.or_comm, ← Nat.two_pow_add_eq_or_of_lt hm2, Nat.add_comm]
    rw [opVal_or _ _ (by omega) hlt (by rw [hor]; omega), hor]
theorem behind_eval [E : Env] (e : Exp) (m : Nat) (hm : m < 18446744073709551616) (he : e.eval = (m : Int)) : ∀ j, (behind e j).eval = (m : Int)
  | 0 => he
  | j + 1 => by
    simp only [behind, Exp.eval, behind_eval e m hm he j]
    have := opVal_or m 0 hm (by decide) (by simpa using hm)
    simpa using this
/-- the mask -/
theorem masked [E : Env] (n : Nat) (hn : n < 18446744073709551616) (k : Nat) (hk : k ≤ 8) : opVal .and .u64 (n : Int) ((2 ^ (8 * k) - 1 : Nat) : Int) = ((n % 2 ^ (8 * k) : Nat) : Int) := by
  have hle := le64 k hk
  have hp : 0 < 2 ^ (8 * k) := Nat.pos_of_ne_zero (by simp)
  rw [opVal_and _ _ hn (by omega), Nat.and_two_pow_sub_one_eq_mod]
end Go.Proofs.Tryz
