/-
  The walk of HashBack.
-/
import Derived.Test.YtojmldhbdfboiaaWHash3
import Derived.Test.YtojmldhbdfboiaaOpen
namespace Go.Proofs.Ytojmldhbdfboiaa
open Go.RowKit

theorem w_unstir' {r : UInt64} (h : UInt64) (e : unstir h = r) (w : World) :
    Calls Try.prog 26 #[vw h] w fun e w' => e = .returned (vw r) ∧ w = w' := by subst e; exact w_unstir h w
theorem w_stir' {r : UInt64} (h : UInt64) (e : stir h = r) (w : World) :
    Calls Try.prog 12 #[vw h] w fun e w' => e = .returned (vw r) ∧ w = w' := by subst e; exact w_stir h w
theorem ne_word {a b : UInt64} (h : a ≠ b) : ((a.toNat : Int) == (b.toNat : Int)) = false := by
  rw [beq_eq_false_iff_ne]
  intro e
  exact h (UInt64.toNat_inj.1 (by exact_mod_cast e))

set_option maxRecDepth 100000 in
set_option maxHeartbeats 1000000 in
theorem walk_HashBack (w : World) (a : Int) (ha : (Lit.int .u64 a).wf = true) (b : Int) (hb : (Lit.int .u64 b).wf = true) (c : Int) (hc : (Lit.int .u8 c).wf = true) :
    Calls Try.prog 9 #[.int .u64 a, .int .u64 b, .int .u8 c] w fun e w' => e = .returned (.bool true) ∧ Chg none' w w' := by
  obtain ⟨a, rfl⟩ := int_u64 ha
  obtain ⟨b, rfl⟩ := int_u64 hb
  obtain ⟨c, rfl⟩ := int_u8 hc
  clear ha hb hc
  by_cases hab : a = b
  · subst hab
    go_enter Try.func9, Try.ntmps9
    go_wp2_with fail
    refine (w_stir _ _).mono ?_
    rintro e w1 ⟨rfl, rfl⟩
    go_wp2_with fail
    refine (w_unstir' _ (unstir_stir a) _).mono ?_
    rintro e w1 ⟨rfl, rfl⟩
    go_wp2_with fail
    refine (w_unstir _ _).mono ?_
    rintro e w1 ⟨rfl, rfl⟩
    go_wp2_with fail
    refine (w_stir' _ (stir_unstir a) _).mono ?_
    rintro e w1 ⟨rfl, rfl⟩
    go_wp2_with fail
    refine (w_stir a _).mono ?_
    rintro e w1 ⟨rfl, rfl⟩
    go_wp2_with fail
    refine (w_stir a _).mono ?_
    rintro e w1 ⟨rfl, rfl⟩
    go_wp2_with fail
    refine (w_step a c _).mono ?_
    rintro e w1 ⟨rfl, rfl⟩
    go_wp2_with fail
    refine (w_step a c _).mono ?_
    rintro e w1 ⟨rfl, rfl⟩
    go_wp2_with fail
    refine (w_known04 _).mono ?_
    rintro e w1 ⟨rfl, c1⟩
    go_wp2_with fail
    go_ret
    exact ⟨rfl, c1⟩
  · have n1 := ne_word hab
    have n2 := ne_word (fun h => hab (stir_inj.1 h))
    have n3 := ne_word (fun h => hab ((step_inj (c := c)).1 h))
    clear hab
    go_enter Try.func9, Try.ntmps9
    go_wp2_with fail
    refine (w_stir _ _).mono ?_
    rintro e w1 ⟨rfl, rfl⟩
    go_wp2_with fail
    refine (w_unstir' _ (unstir_stir a) _).mono ?_
    rintro e w1 ⟨rfl, rfl⟩
    go_wp2_with fail
    refine (w_unstir _ _).mono ?_
    rintro e w1 ⟨rfl, rfl⟩
    go_wp2_with fail
    refine (w_stir' _ (stir_unstir a) _).mono ?_
    rintro e w1 ⟨rfl, rfl⟩
    go_wp2_with fail
    refine (w_stir a _).mono ?_
    rintro e w1 ⟨rfl, rfl⟩
    go_wp2_with fail
    refine (w_stir b _).mono ?_
    rintro e w1 ⟨rfl, rfl⟩
    go_wp2_with fail
    refine (w_step a c _).mono ?_
    rintro e w1 ⟨rfl, rfl⟩
    go_wp2_with fail
    refine (w_step b c _).mono ?_
    rintro e w1 ⟨rfl, rfl⟩
    go_wp2_with fail
    refine (w_known04 _).mono ?_
    rintro e w1 ⟨rfl, c1⟩
    go_wp2_with fail
    go_ret
    exact ⟨rfl, c1⟩

end Go.Proofs.Ytojmldhbdfboiaa
