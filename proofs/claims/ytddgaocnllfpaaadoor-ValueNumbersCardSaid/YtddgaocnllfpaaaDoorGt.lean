import Derived.Test.YtddgaocnllfpaaaDoorFacts
namespace Go.Proofs
open Go Go.Ev Go.RowKit
variable [Env]
namespace Tryd
omit [Env] in
theorem gt : ∀ bx bz bo : Bool, ∀ s : Option Bool, (bx = true → s = none) → (bz = true → bo = true) → said bx bz bo s false true false = some (.bool true)
  | true, true, true, none, _, _ => by kernel_rfl
  | true, false, true, none, _, _ => by kernel_rfl
  | true, false, false, none, _, _ => by kernel_rfl
  | false, true, true, none, _, _ => by kernel_rfl
  | false, false, true, none, _, _ => by kernel_rfl
  | false, false, false, none, _, _ => by kernel_rfl
  | false, true, true, some true, _, _ => by kernel_rfl
  | false, false, true, some true, _, _ => by kernel_rfl
  | false, false, false, some true, _, _ => by kernel_rfl
  | false, true, true, some false, _, _ => by kernel_rfl
  | false, false, true, some false, _, _ => by kernel_rfl
  | false, false, false, some false, _, _ => by kernel_rfl
  | true, _, _, some _, h, _ => by cases h rfl
  | _, true, false, _, _, h => by cases h rfl
end Tryd
end Go.Proofs
