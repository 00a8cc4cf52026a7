import Derived.Test.YtcbdmlpfepdblaaGreatDoorMtGb
namespace Go.Proofs
noncomputable section
open Go Go.Ev Go.RowKit
theorem Tryz.gc_0 : (List.range' 0 8).all Tryz.cmCk = true := by kernel_rfl
theorem Tryz.gc_8 : (List.range' 8 4).all Tryz.cmCk = true := by kernel_rfl
theorem Tryz.gc_12 : (List.range' 12 3).all Tryz.cmCk = true := by kernel_rfl
theorem Tryz.gc_15 : (List.range' 15 3).all Tryz.cmCk = true := by kernel_rfl
theorem Tryz.gc_all0 (x : Nat) (h1 : 0 ≤ x) (h2 : x ≤ 17) : Tryz.cmCk x = true := by
  rcases Nat.lt_or_ge x 8 with h10 | h10
  · exact all_range Tryz.gc_0 (by omega) (by omega)
  rcases Nat.lt_or_ge x 12 with h11 | h11
  · exact all_range Tryz.gc_8 (by omega) (by omega)
  rcases Nat.lt_or_ge x 15 with h12 | h12
  · exact all_range Tryz.gc_12 (by omega) (by omega)
  exact all_range Tryz.gc_15 (by omega) (by omega)
end
end Go.Proofs
