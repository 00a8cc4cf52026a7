import Derived.Test.YtcbdmlpfepdblaaGreatDoorMtGb
namespace Go.Proofs
noncomputable section
open Go Go.Ev Go.RowKit
theorem Tryz.ge_34 : (List.range' 34 2).all Tryz.cmCk = true := by kernel_rfl
theorem Tryz.ge_36 : (List.range' 36 2).all Tryz.cmCk = true := by kernel_rfl
theorem Tryz.ge_38 : (List.range' 38 2).all Tryz.cmCk = true := by kernel_rfl
theorem Tryz.ge_40 : (List.range' 40 2).all Tryz.cmCk = true := by kernel_rfl
theorem Tryz.ge_42 : (List.range' 42 2).all Tryz.cmCk = true := by kernel_rfl
theorem Tryz.ge_44 : (List.range' 44 2).all Tryz.cmCk = true := by kernel_rfl
theorem Tryz.ge_46 : (List.range' 46 2).all Tryz.cmCk = true := by kernel_rfl
theorem Tryz.ge_48 : (List.range' 48 2).all Tryz.cmCk = true := by kernel_rfl
theorem Tryz.ge_all34 (x : Nat) (h1 : 34 ≤ x) (h2 : x ≤ 49) : Tryz.cmCk x = true := by
  rcases Nat.lt_or_ge x 36 with h10 | h10
  · exact all_range Tryz.ge_34 (by omega) (by omega)
  rcases Nat.lt_or_ge x 38 with h11 | h11
  · exact all_range Tryz.ge_36 (by omega) (by omega)
  rcases Nat.lt_or_ge x 40 with h12 | h12
  · exact all_range Tryz.ge_38 (by omega) (by omega)
  rcases Nat.lt_or_ge x 42 with h13 | h13
  · exact all_range Tryz.ge_40 (by omega) (by omega)
  rcases Nat.lt_or_ge x 44 with h14 | h14
  · exact all_range Tryz.ge_42 (by omega) (by omega)
  rcases Nat.lt_or_ge x 46 with h15 | h15
  · exact all_range Tryz.ge_44 (by omega) (by omega)
  rcases Nat.lt_or_ge x 48 with h16 | h16
  · exact all_range Tryz.ge_46 (by omega) (by omega)
  exact all_range Tryz.ge_48 (by omega) (by omega)
end
end Go.Proofs
