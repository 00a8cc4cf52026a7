import Derived.Test.YtcbdmlpfepdblaaGreatDoorMtGb
namespace Go.Proofs
noncomputable section
open Go Go.Ev Go.RowKit
theorem Tryz.gd_18 : (List.range' 18 2).all Tryz.cmCk = true := by kernel_rfl
theorem Tryz.gd_20 : (List.range' 20 2).all Tryz.cmCk = true := by kernel_rfl
theorem Tryz.gd_22 : (List.range' 22 2).all Tryz.cmCk = true := by kernel_rfl
theorem Tryz.gd_24 : (List.range' 24 2).all Tryz.cmCk = true := by kernel_rfl
theorem Tryz.gd_26 : (List.range' 26 2).all Tryz.cmCk = true := by kernel_rfl
theorem Tryz.gd_all18 (x : Nat) (h1 : 18 ≤ x) (h2 : x ≤ 27) : Tryz.cmCk x = true := by
  rcases Nat.lt_or_ge x 20 with h10 | h10
  · exact all_range Tryz.gd_18 (by omega) (by omega)
  rcases Nat.lt_or_ge x 22 with h11 | h11
  · exact all_range Tryz.gd_20 (by omega) (by omega)
  rcases Nat.lt_or_ge x 24 with h12 | h12
  · exact all_range Tryz.gd_22 (by omega) (by omega)
  rcases Nat.lt_or_ge x 26 with h13 | h13
  · exact all_range Tryz.gd_24 (by omega) (by omega)
  exact all_range Tryz.gd_26 (by omega) (by omega)
end
end Go.Proofs
