/-
  Walks of package hash and of the document's answer for it, on words.
-/
import Derived.Test.YtojmldhbdfboiaaWSum
namespace Go.Proofs.Ytojmldhbdfboiaa
open Go.RowKit

set_option maxHeartbeats 400000 in
theorem w_fold (h : UInt64) (w : World) :
    Calls Try.prog 27 #[vw h] w fun e w' => e = .returned (vw (fold64 h)) ∧ w = w' := by
  go_enter Try.func27, Try.ntmps27
  go_wp2
  go_ret
  exact ⟨ret_u64 (val_fold h), rfl⟩

set_option maxHeartbeats 400000 in
theorem w_rfold (h : UInt64) (w : World) :
    Calls Try.prog 28 #[vw h] w fun e w' => e = .returned (vw (fold64 h)) ∧ w = w' := by
  go_enter Try.func28, Try.ntmps28
  go_wp2
  go_ret
  exact ⟨ret_u64 (by rw [val_shr, wrap_u64_id, bits_xor64]; rfl), rfl⟩

/-- The same, the word told by an equation. -/
theorem w_fold' {n : Int} (h : UInt64) (e : n = (h.toNat : Int)) (w : World) :
    Calls Try.prog 27 #[.int .u64 n] w fun e w' => e = .returned (vw (fold64 h)) ∧ w = w' := by subst e; exact w_fold h w
theorem w_rfold' {n : Int} (h : UInt64) (e : n = (h.toNat : Int)) (w : World) :
    Calls Try.prog 28 #[.int .u64 n] w fun e w' => e = .returned (vw (fold64 h)) ∧ w = w' := by subst e; exact w_rfold h w

set_option maxHeartbeats 400000 in
theorem w_stir (h : UInt64) (w : World) :
    Calls Try.prog 12 #[vw h] w fun e w' => e = .returned (vw (stir h)) ∧ w = w' := by
  go_enter Try.func12, Try.ntmps12
  go_wp2_with fail
  go_at_call 27
  refine (w_fold _ _).mono ?_; rintro e w1 ⟨rfl, rfl⟩
  go_wp2_with fail
  go_at_call 27
  refine (w_fold' (fold64 h * one64) (val_one _) _).mono ?_; rintro e w1 ⟨rfl, rfl⟩
  go_wp2_with fail
  go_at_call 27
  refine (w_fold' (fold64 (fold64 h * one64) * two64) (val_two _) _).mono ?_; rintro e w1 ⟨rfl, rfl⟩
  go_wp2_with fail
  go_ret
  exact ⟨rfl, rfl⟩

set_option maxHeartbeats 400000 in
theorem w_rstir (h : UInt64) (w : World) :
    Calls Try.prog 13 #[vw h] w fun e w' => e = .returned (vw (stir h)) ∧ w = w' := by
  go_enter Try.func13, Try.ntmps13
  go_wp2_with fail
  go_at_call 28
  refine (w_rfold _ _).mono ?_; rintro e w1 ⟨rfl, rfl⟩
  go_wp2_with fail
  go_at_call 28
  refine (w_rfold' (fold64 h * one64) (val_one _) _).mono ?_; rintro e w1 ⟨rfl, rfl⟩
  go_wp2_with fail
  go_at_call 28
  refine (w_rfold' (fold64 (fold64 h * one64) * two64) (val_two _) _).mono ?_; rintro e w1 ⟨rfl, rfl⟩
  go_wp2_with fail
  go_ret
  exact ⟨rfl, rfl⟩

end Go.Proofs.Ytojmldhbdfboiaa
