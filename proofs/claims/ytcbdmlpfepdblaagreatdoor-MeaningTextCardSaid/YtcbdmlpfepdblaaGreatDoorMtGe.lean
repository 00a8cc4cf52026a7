import Derived.Test.YtcbdmlpfepdblaaGreatDoorMtGb
namespace Go.Proofs
noncomputable section
open Go Go.Ev Go.RowKit
theorem Tryz.ge_28 : (List.range' 28 2).all Tryz.cmCk = true := by kernel_rfl
theorem Tryz.ge_30 : (List.range' 30 2).all Tryz.cmCk = true := by kernel_rfl
theorem Tryz.ge_32 : (List.range' 32 2).all Tryz.cmCk = true := by kernel_rfl
theorem Tryz.ge_34 : (List.range' 34 1).all Tryz.cmCk = true := by kernel_rfl
theorem Tryz.ge_35 : (List.range' 35 1).all Tryz.cmCk = true := by kernel_rfl
theorem Tryz.ge_36 : (List.range' 36 1).all Tryz.cmCk = true := by kernel_rfl
theorem Tryz.ge_all28 (x : Nat) (h1 : 28 ≤ x) (h2 : x ≤ 36) : Tryz.cmCk x = true := by
  rcases Nat.lt_or_ge x 30 with h10 | h10
  · exact all_range Tryz.ge_28 (by omega) (by omega)
  rcases Nat.lt_or_ge x 32 with h11 | h11
  · exact all_range Tryz.ge_30 (by omega) (by omega)
  rcases Nat.lt_or_ge x 34 with h12 | h12
  · exact all_range Tryz.ge_32 (by omega) (by omega)
  rcases Nat.lt_or_ge x 35 with h13 | h13
  · exact all_range Tryz.ge_34 (by omega) (by omega)
  rcases Nat.lt_or_ge x 36 with h14 | h14
  · exact all_range Tryz.ge_35 (by omega) (by omega)
  exact all_range Tryz.ge_36 (by omega) (by omega)
end
end Go.Proofs
