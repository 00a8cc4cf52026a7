import Derived.Test.YtcbdmlpfepdblaaGreatDoorMtGb
namespace Go.Proofs
noncomputable section
open Go Go.Ev Go.RowKit
theorem Tryz.gd_18 : (List.range' 18 2).all Tryz.cmCk = true := by kernel_rfl
theorem Tryz.gd_20 : (List.range' 20 2).all Tryz.cmCk = true := by kernel_rfl
theorem Tryz.gd_22 : (List.range' 22 2).all Tryz.cmCk = true := by kernel_rfl
theorem Tryz.gd_24 : (List.range' 24 2).all Tryz.cmCk = true := by kernel_rfl
theorem Tryz.gd_26 : (List.range' 26 2).all Tryz.cmCk = true := by kernel_rfl
theorem Tryz.gd_28 : (List.range' 28 2).all Tryz.cmCk = true := by kernel_rfl
theorem Tryz.gd_30 : (List.range' 30 2).all Tryz.cmCk = true := by kernel_rfl
theorem Tryz.gd_32 : (List.range' 32 2).all Tryz.cmCk = true := by kernel_rfl
theorem Tryz.gd_all18 (x : Nat) (h1 : 18 ≤ x) (h2 : x ≤ 33) : Tryz.cmCk x = true := by
  rcases Nat.lt_or_ge x 20 with h10 | h10
  · exact all_range Tryz.gd_18 (by omega) (by omega)
  rcases Nat.lt_or_ge x 22 with h11 | h11
  · exact all_range Tryz.gd_20 (by omega) (by omega)
  rcases Nat.lt_or_ge x 24 with h12 | h12
  · exact all_range Tryz.gd_22 (by omega) (by omega)
  rcases Nat.lt_or_ge x 26 with h13 | h13
  · exact all_range Tryz.gd_24 (by omega) (by omega)
  rcases Nat.lt_or_ge x 28 with h14 | h14
  · exact all_range Tryz.gd_26 (by omega) (by omega)
  rcases Nat.lt_or_ge x 30 with h15 | h15
  · exact all_range Tryz.gd_28 (by omega) (by omega)
  rcases Nat.lt_or_ge x 32 with h16 | h16
  · exact all_range Tryz.gd_30 (by omega) (by omega)
  exact all_range Tryz.gd_32 (by omega) (by omega)
end
end Go.Proofs
