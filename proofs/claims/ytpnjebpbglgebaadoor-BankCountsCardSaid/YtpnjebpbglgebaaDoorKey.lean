/-
  Package key: what is amiss with a key.
-/
import Derived.Test.YtpnjebpbglgebaaDoorTab
namespace Go.Proofs.YtpnjebpbglgebaaDoor
open Go Go.RowKit

def mostOf (k : Int) : Int := if k = 2 then 256 else if k = 3 then 256 else if k = 4 then 32 else if k = 5 then 32 else if k = 6 then 32 else if k = 7 then 32 else if k = 8 then 64 else if k = 9 then 32 else if k = 10 then 32 else 0
def dataOf (k : Int) : Int := if k = 1 then 4294967295 else if k = 2 then 4 else if k = 5 then 536870911 else if k = 6 then 536870911 else 0

set_option maxHeartbeats 800000 in
theorem most_calls (w : World) (k : Int) : Calls Tryd.prog 64 #[.int .i64 k] w fun e w' => e = .returned (.int .i64 (mostOf k)) ∧ w = w' := by
  go_enter Tryd.func64, Tryd.ntmps64
  go_wp2
  all_goals go_ret
  all_goals exact ⟨by simp_all [mostOf], rfl⟩
set_option maxHeartbeats 800000 in
theorem data_calls (w : World) (k : Int) : Calls Tryd.prog 65 #[.int .i64 k] w fun e w' => e = .returned (.int .u32 (dataOf k)) ∧ w = w' := by
  go_enter Tryd.func65, Tryd.ntmps65
  go_wp2
  all_goals go_ret
  all_goals exact ⟨by simp_all [dataOf], rfl⟩
end Go.Proofs.YtpnjebpbglgebaaDoor
