import Derived.Test.YtcbdmlpfepdblaaGreatDoorMtGb
namespace Go.Proofs
noncomputable section
open Go Go.Ev Go.RowKit
theorem Tryz.gg_44 : (List.range' 44 1).all Tryz.cmCk = true := by kernel_rfl
theorem Tryz.gg_45 : (List.range' 45 1).all Tryz.cmCk = true := by kernel_rfl
theorem Tryz.gg_46 : (List.range' 46 1).all Tryz.cmCk = true := by kernel_rfl
theorem Tryz.gg_47 : (List.range' 47 1).all Tryz.cmCk = true := by kernel_rfl
theorem Tryz.gg_48 : (List.range' 48 1).all Tryz.cmCk = true := by kernel_rfl
theorem Tryz.gg_49 : (List.range' 49 1).all Tryz.cmCk = true := by kernel_rfl
theorem Tryz.gg_all44 (x : Nat) (h1 : 44 ≤ x) (h2 : x ≤ 49) : Tryz.cmCk x = true := by
  rcases Nat.lt_or_ge x 45 with h10 | h10
  · exact all_range Tryz.gg_44 (by omega) (by omega)
  rcases Nat.lt_or_ge x 46 with h11 | h11
  · exact all_range Tryz.gg_45 (by omega) (by omega)
  rcases Nat.lt_or_ge x 47 with h12 | h12
  · exact all_range Tryz.gg_46 (by omega) (by omega)
  rcases Nat.lt_or_ge x 48 with h13 | h13
  · exact all_range Tryz.gg_47 (by omega) (by omega)
  rcases Nat.lt_or_ge x 49 with h14 | h14
  · exact all_range Tryz.gg_48 (by omega) (by omega)
  exact all_range Tryz.gg_49 (by omega) (by omega)
end
end Go.Proofs
