/-
  The walk of HashKeys.
-/
import Derived.Test.YtojmldhbdfboiaaWHash3
import Derived.Test.YtojmldhbdfboiaaOpen
namespace Go.Proofs.Ytojmldhbdfboiaa
open Go.RowKit

theorem w_rbucket_small (s : ByteArray) (n : Int) (w : World) (hs : s.size ≤ 140737488351232) :
    Calls Try.prog 22 #[.string s, .int .i64 n] w fun e w' => e = .returned (.tuple #[.int .i64 (bucketOf s n), .int .i64 (bucketErr n)]) ∧ Chg none' w w' := by
  unfold bucketOf bucketErr
  by_cases h1 : n < 1
  · rw [if_pos (.inl h1), if_pos (.inl h1)]
    go_enter Try.func22, Try.ntmps22
    go_wp2
    go_ret2
    exact ⟨rfl, Chg.refl _ _⟩
  · by_cases h2 : 65536 < n
    · rw [if_pos (.inr h2), if_pos (.inr h2)]
      go_enter Try.func22, Try.ntmps22
      go_wp2
      go_ret2
      exact ⟨rfl, Chg.refl _ _⟩
    · rw [if_neg (by omega), if_neg (by omega)]
      go_enter Try.func22, Try.ntmps22
      go_wp2_with fail
      refine (w_rkey _ _ hs).mono ?_
      rintro e w1 ⟨rfl, c1⟩
      go_wp2
      go_ret2
      have := Int.emod_nonneg ((keyOf s).toNat : Int) (show n ≠ 0 by omega)
      have := Int.emod_lt_of_pos ((keyOf s).toNat : Int) (show 0 < n by omega)
      exact ⟨ret_two (by show wrap64 (((keyOf s).toNat : Int) % n) = _; unfold wrap64; omega), c1⟩

set_option maxHeartbeats 400000 in
theorem walk_HashKeys (w : World) (s : ByteArray) (hs : s.size ≤ 140737488351232) (n : Int) (hn : (Lit.int .i64 n).wf = true) (k : Int) (hk : (Lit.int .i64 k).wf = true) :
    Calls Try.prog 7 #[.string s, .int .i64 n, .int .i64 k] w fun e w' => e = .returned (.bool true) ∧ Chg none' w w' := by
  clear hn hk
  by_cases hlen : 2000 < s.size
  · go_enter Try.func7, Try.ntmps7
    go_wp2_with fail
    refine (w_known04 _).mono ?_
    rintro e w1 ⟨rfl, c1⟩
    go_wp2_with fail
    go_ret
    exact ⟨rfl, c1⟩
  · go_enter Try.func7, Try.ntmps7
    go_wp2_with fail
    refine (w_bucket s n _ hs).mono ?_
    rintro e w1 ⟨rfl, c1⟩
    go_wp2_with fail
    refine (w_rbucket_small s n _ hs).mono ?_
    rintro e w2 ⟨rfl, c2⟩
    go_wp2_with fail
    refine (w_key s _ hs).mono ?_
    rintro e w3 ⟨rfl, c3⟩
    go_wp2_with fail
    refine (w_rkey s _ hs).mono ?_
    rintro e w4 ⟨rfl, c4⟩
    go_wp2_with fail
    refine (w_point n k _).mono ?_
    rintro e w5 ⟨rfl, c5⟩
    go_wp2_with fail
    refine (w_rpoint n k _).mono ?_
    rintro e w6 ⟨rfl, c6⟩
    go_wp2_with fail
    refine (w_known04 _).mono ?_
    rintro e w7 ⟨rfl, c7⟩
    go_wp2_with fail
    go_ret
    exact ⟨rfl, c1.trans (c2.trans (c3.trans (c4.trans (c5.trans (c6.trans c7)))))⟩

end Go.Proofs.Ytojmldhbdfboiaa
