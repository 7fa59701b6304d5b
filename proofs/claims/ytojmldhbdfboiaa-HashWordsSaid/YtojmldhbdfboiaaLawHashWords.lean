/-
  The walk of HashWords.
-/
import Derived.Test.YtojmldhbdfboiaaWHash3
import Derived.Test.YtojmldhbdfboiaaOpen
namespace Go.Proofs.Ytojmldhbdfboiaa
open Go.RowKit

set_option maxHeartbeats 400000 in
theorem walk_HashWords (w : World) (a : Int) (ha : (Lit.int .u64 a).wf = true) (c : Int) (hc : (Lit.int .u8 c).wf = true) :
    Calls Try.prog 3 #[.int .u64 a, .int .u8 c] w fun e w' => e = .returned (.bool true) ∧ Chg none' w w' := by
  obtain ⟨a, rfl⟩ := int_u64 ha
  obtain ⟨c, rfl⟩ := int_u8 hc
  clear ha hc
  go_enter Try.func3, Try.ntmps3
  go_wp2_with fail
  refine (w_step _ _ _).mono ?_
  rintro e w1 ⟨rfl, rfl⟩
  go_wp2_with fail
  refine (w_rstep _ _ _).mono ?_
  rintro e w1 ⟨rfl, rfl⟩
  go_wp2_with fail
  refine (w_stir _ _).mono ?_
  rintro e w1 ⟨rfl, rfl⟩
  go_wp2_with fail
  refine (w_rstir _ _).mono ?_
  rintro e w1 ⟨rfl, rfl⟩
  go_wp2_with fail
  refine (w_known04 _).mono ?_
  rintro e w1 ⟨rfl, c1⟩
  go_wp2_with fail
  go_ret
  exact ⟨rfl, c1⟩

end Go.Proofs.Ytojmldhbdfboiaa
