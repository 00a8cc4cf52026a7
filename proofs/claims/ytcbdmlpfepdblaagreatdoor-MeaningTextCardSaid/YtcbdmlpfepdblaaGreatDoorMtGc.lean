import Derived.Test.YtcbdmlpfepdblaaGreatDoorMtGb
namespace Go.Proofs
noncomputable section
open Go Go.Ev Go.RowKit
theorem Tryz.gc_0 : (List.range' 0 10).all Tryz.cmCk = true := by kernel_rfl
theorem Tryz.gc_10 : (List.range' 10 4).all Tryz.cmCk = true := by kernel_rfl
theorem Tryz.gc_14 : (List.range' 14 3).all Tryz.cmCk = true := by kernel_rfl
theorem Tryz.gc_17 : (List.range' 17 1).all Tryz.cmCk = true := by kernel_rfl
theorem Tryz.gc_all0 (x : Nat) (h1 : 0 ≤ x) (h2 : x ≤ 17) : Tryz.cmCk x = true := by
  rcases Nat.lt_or_ge x 10 with h10 | h10
  · exact all_range Tryz.gc_0 (by omega) (by omega)
  rcases Nat.lt_or_ge x 14 with h11 | h11
  · exact all_range Tryz.gc_10 (by omega) (by omega)
  rcases Nat.lt_or_ge x 17 with h12 | h12
  · exact all_range Tryz.gc_14 (by omega) (by omega)
  exact all_range Tryz.gc_17 (by omega) (by omega)
end
end Go.Proofs
