import Derived.Test.YtcbdmlpfepdblaaGreatDoorMtTop
namespace Go.Proofs
noncomputable section
open Go Go.Ev Go.RowKit
theorem Tryz.ta_0 : (List.range' 0 10).all (Tryz.topCk 0) = true := by kernel_rfl
theorem Tryz.ta_10 : (List.range' 10 10).all (Tryz.topCk 0) = true := by kernel_rfl
theorem Tryz.ta_20 : (List.range' 20 10).all (Tryz.topCk 0) = true := by kernel_rfl
theorem Tryz.ta_30 : (List.range' 30 10).all (Tryz.topCk 0) = true := by kernel_rfl
theorem Tryz.ta_40 : (List.range' 40 10).all (Tryz.topCk 0) = true := by kernel_rfl
theorem Tryz.ta_all (x : Nat) (h : x ≤ 49) : Tryz.topCk 0 x = true := by
  rcases Nat.lt_or_ge x 10 with h0 | h0
  · exact all_range Tryz.ta_0 (by omega) (by omega)
  rcases Nat.lt_or_ge x 20 with h1 | h1
  · exact all_range Tryz.ta_10 (by omega) (by omega)
  rcases Nat.lt_or_ge x 30 with h2 | h2
  · exact all_range Tryz.ta_20 (by omega) (by omega)
  rcases Nat.lt_or_ge x 40 with h3 | h3
  · exact all_range Tryz.ta_30 (by omega) (by omega)
  exact all_range Tryz.ta_40 (by omega) (by omega)
end
end Go.Proofs
