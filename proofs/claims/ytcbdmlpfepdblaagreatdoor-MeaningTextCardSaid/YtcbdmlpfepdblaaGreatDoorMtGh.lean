import Derived.Test.YtcbdmlpfepdblaaGreatDoorMtGb
namespace Go.Proofs
noncomputable section
open Go Go.Ev Go.RowKit
theorem Tryz.gh_35 : (List.range' 35 6).all Tryz.gbCk = true := by kernel_rfl
theorem Tryz.gh_41 : (List.range' 41 4).all Tryz.gbCk = true := by kernel_rfl
theorem Tryz.gh_45 : (List.range' 45 3).all Tryz.gbCk = true := by kernel_rfl
theorem Tryz.gh_48 : (List.range' 48 2).all Tryz.gbCk = true := by kernel_rfl
theorem Tryz.gh_all35 (x : Nat) (h1 : 35 ≤ x) (h2 : x ≤ 49) : Tryz.gbCk x = true := by
  rcases Nat.lt_or_ge x 41 with h10 | h10
  · exact all_range Tryz.gh_35 (by omega) (by omega)
  rcases Nat.lt_or_ge x 45 with h11 | h11
  · exact all_range Tryz.gh_41 (by omega) (by omega)
  rcases Nat.lt_or_ge x 48 with h12 | h12
  · exact all_range Tryz.gh_45 (by omega) (by omega)
  exact all_range Tryz.gh_48 (by omega) (by omega)
end
end Go.Proofs
