import Derived.Test.YtcbdmlpfepdblaaGreatDoorMtGb
namespace Go.Proofs
noncomputable section
open Go Go.Ev Go.RowKit
theorem Tryz.gf_18 : (List.range' 18 7).all Tryz.gaCk = true := by kernel_rfl
theorem Tryz.gf_25 : (List.range' 25 3).all Tryz.gaCk = true := by kernel_rfl
theorem Tryz.gf_28 : (List.range' 28 2).all Tryz.gaCk = true := by kernel_rfl
theorem Tryz.gf_30 : (List.range' 30 2).all Tryz.gaCk = true := by kernel_rfl
theorem Tryz.gf_32 : (List.range' 32 2).all Tryz.gaCk = true := by kernel_rfl
theorem Tryz.gf_all18 (x : Nat) (h1 : 18 ≤ x) (h2 : x ≤ 33) : Tryz.gaCk x = true := by
  rcases Nat.lt_or_ge x 25 with h10 | h10
  · exact all_range Tryz.gf_18 (by omega) (by omega)
  rcases Nat.lt_or_ge x 28 with h11 | h11
  · exact all_range Tryz.gf_25 (by omega) (by omega)
  rcases Nat.lt_or_ge x 30 with h12 | h12
  · exact all_range Tryz.gf_28 (by omega) (by omega)
  rcases Nat.lt_or_ge x 32 with h13 | h13
  · exact all_range Tryz.gf_30 (by omega) (by omega)
  exact all_range Tryz.gf_32 (by omega) (by omega)
end
end Go.Proofs
