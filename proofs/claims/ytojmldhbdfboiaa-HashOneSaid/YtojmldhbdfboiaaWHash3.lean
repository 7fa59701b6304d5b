/-
  Walks of package hash, the last: buckets, what the examples fix.
-/
import Derived.Test.YtojmldhbdfboiaaWHash2
namespace Go.Proofs.Ytojmldhbdfboiaa
open Go.RowKit

theorem w_keyb {bs : List UInt8} (w : World) (hs : bs.length ≤ 140737488351232) :
    Calls Try.prog 17 #[.string ⟨bs.toArray⟩] w fun e w' => e = .returned (vw (stir (sum bs))) ∧ Chg none' w w' := w_key ⟨bs.toArray⟩ w hs

def keyOf (s : ByteArray) : UInt64 := stir (sum s.data.toList)
def bucketOf (s : ByteArray) (n : Int) : Int := if n < 1 ∨ 65536 < n then 0 else ((keyOf s).toNat : Int) % n
def bucketErr (n : Int) : Int := if n < 1 ∨ 65536 < n then 2 else 0

theorem ret_two {a b : Int} {v : Value} (h : a = b) : Ending.returned (.tuple #[.int .i64 a, v]) = .returned (.tuple #[.int .i64 b, v]) := by rw [h]

set_option maxHeartbeats 400000 in
theorem w_bucket (s : ByteArray) (n : Int) (w : World) (hs : s.size ≤ 140737488351232) :
    Calls Try.prog 21 #[.string s, .int .i64 n] w fun e w' => e = .returned (.tuple #[.int .i64 (bucketOf s n), .int .i64 (bucketErr n)]) ∧ Chg none' w w' := by
  unfold bucketOf bucketErr
  by_cases h1 : n < 1
  · rw [if_pos (.inl h1), if_pos (.inl h1)]
    go_enter Try.func21, Try.ntmps21
    go_wp2
    go_ret2
    exact ⟨rfl, Chg.refl _ _⟩
  · by_cases h2 : 65536 < n
    · rw [if_pos (.inr h2), if_pos (.inr h2)]
      go_enter Try.func21, Try.ntmps21
      go_wp2
      go_ret2
      exact ⟨rfl, Chg.refl _ _⟩
    · rw [if_neg (by omega), if_neg (by omega)]
      go_enter Try.func21, Try.ntmps21
      go_wp2_with fail
      refine (w_key _ _ hs).mono ?_
      rintro e w1 ⟨rfl, c1⟩
      go_wp2
      go_ret2
      have := Int.emod_nonneg ((keyOf s).toNat : Int) (show n ≠ 0 by omega)
      have := Int.emod_lt_of_pos ((keyOf s).toNat : Int) (show 0 < n by omega)
      exact ⟨ret_two (by show wrap64 (((keyOf s).toNat : Int) % n) = _; unfold wrap64; omega), c1⟩

theorem w_bucket1 (w : World) :
    Calls Try.prog 21 #[.string ⟨#[97]⟩, .int .i64 1] w fun e w' => e = .returned (.tuple #[.int .i64 0, .int .i64 0]) ∧ Chg none' w w' := by
  have h := w_bucket ⟨#[97]⟩ 1 w (by decide)
  rw [show bucketOf ⟨#[97]⟩ 1 = 0 from by simp [bucketOf], show bucketErr 1 = 0 from rfl] at h
  exact h
theorem sum_nil : ((sum ([] : List (List UInt8)).flatten).toNat : Int) = 14695981039346656037 := rfl
theorem sum_a : ((sum [[97]].flatten).toNat : Int) = 12638187200555641996 := by decide +kernel
theorem w_sum_nil (w : World) : Calls Try.prog 16 #[.slice none 0 0] w fun e w' => e = .returned (.int .u64 14695981039346656037) ∧ w = w' :=
  (w_sum _ (Row.nil : Rows all' w _ [])).mono fun _ _ ⟨h1, h2⟩ => ⟨h1.trans (ret_u64 sum_nil), h2⟩
theorem w_sum_a {v : Value} (w : World) (h : Rows all' w v [[97]]) : Calls Try.prog 16 #[v] w fun e w' => e = .returned (.int .u64 12638187200555641996) ∧ w = w' :=
  (w_sum _ h).mono fun _ _ ⟨h1, h2⟩ => ⟨h1.trans (ret_u64 sum_a), h2⟩
set_option maxRecDepth 100000 in
set_option maxHeartbeats 400000 in
theorem w_known04 (w : World) :
    Calls Try.prog 14 #[] w fun e w' => e = .returned (.bool true) ∧ Chg none' w w' := by
  have kc := fun (w : World) (C : Array Value) (n c : Nat) => Lib.run_convert_bytes_const (P := Try.prog) w 27 5 C n c Try.underlying27 Try.underlying5
  go_enter Try.func14, Try.ntmps14
  go_wp2_with fail
  refine (w_bucket1 _).mono ?_
  rintro e w1 ⟨rfl, c1⟩
  go_wp2_with fail
  refine (w_sum_nil _).mono ?_
  rintro e w2 ⟨rfl, rfl⟩
  go_wp2_with fail
  refine (w_sum_a _ (rows_lit1 (bytes_const rfl (by decide) rfl))).mono ?_
  rintro e w3 ⟨rfl, rfl⟩
  go_wp2_with fail
  go_ret
  exact ⟨rfl, (c1.alloc _).alloc _⟩

end Go.Proofs.Ytojmldhbdfboiaa
