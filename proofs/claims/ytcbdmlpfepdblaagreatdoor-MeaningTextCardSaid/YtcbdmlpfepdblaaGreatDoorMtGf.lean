import Derived.Test.YtcbdmlpfepdblaaGreatDoorMtGb
namespace Go.Proofs
noncomputable section
open Go Go.Ev Go.RowKit
theorem Tryz.gf_37 : (List.range' 37 1).all Tryz.cmCk = true := by kernel_rfl
theorem Tryz.gf_38 : (List.range' 38 1).all Tryz.cmCk = true := by kernel_rfl
theorem Tryz.gf_39 : (List.range' 39 1).all Tryz.cmCk = true := by kernel_rfl
theorem Tryz.gf_40 : (List.range' 40 1).all Tryz.cmCk = true := by kernel_rfl
theorem Tryz.gf_41 : (List.range' 41 1).all Tryz.cmCk = true := by kernel_rfl
theorem Tryz.gf_42 : (List.range' 42 1).all Tryz.cmCk = true := by kernel_rfl
theorem Tryz.gf_43 : (List.range' 43 1).all Tryz.cmCk = true := by kernel_rfl
theorem Tryz.gf_all37 (x : Nat) (h1 : 37 ≤ x) (h2 : x ≤ 43) : Tryz.cmCk x = true := by
  rcases Nat.lt_or_ge x 38 with h10 | h10
  · exact all_range Tryz.gf_37 (by omega) (by omega)
  rcases Nat.lt_or_ge x 39 with h11 | h11
  · exact all_range Tryz.gf_38 (by omega) (by omega)
  rcases Nat.lt_or_ge x 40 with h12 | h12
  · exact all_range Tryz.gf_39 (by omega) (by omega)
  rcases Nat.lt_or_ge x 41 with h13 | h13
  · exact all_range Tryz.gf_40 (by omega) (by omega)
  rcases Nat.lt_or_ge x 42 with h14 | h14
  · exact all_range Tryz.gf_41 (by omega) (by omega)
  rcases Nat.lt_or_ge x 43 with h15 | h15
  · exact all_range Tryz.gf_42 (by omega) (by omega)
  exact all_range Tryz.gf_43 (by omega) (by omega)
end
end Go.Proofs
