/-
  Walks of package hash and of the document's answer for it, on words.
-/
import Derived.Test.YtojmldhbdfboiaaProg
import Derived.Test.YtojmldhbdfboiaaBase
import Derived.Test.YtojmldhbdfboiaaHash
namespace Go.Proofs.Ytojmldhbdfboiaa
open Go.RowKit

theorem ret_u64 {a b : Int} (h : a = b) : Ending.returned (.int .u64 a) = .returned (.int .u64 b) := by rw [h]

set_option maxHeartbeats 400000 in
theorem w_step (h : UInt64) (c : UInt8) (w : World) :
    Calls Try.prog 10 #[vw h, vb c] w fun e w' => e = .returned (vw (step h c)) ∧ w = w' := by
  have b1 := u8_lt c
  go_enter Try.func10, Try.ntmps10
  go_wp2
  go_ret
  exact ⟨ret_u64 (val_step h c), rfl⟩

set_option maxHeartbeats 400000 in
theorem w_rstep (h : UInt64) (c : UInt8) (w : World) :
    Calls Try.prog 11 #[vw h, vb c] w fun e w' => e = .returned (vw (step h c)) ∧ w = w' := by
  have b1 := u8_lt c
  go_enter Try.func11, Try.ntmps11
  go_wp2
  go_ret
  exact ⟨ret_u64 (val_rstep h c), rfl⟩

set_option maxHeartbeats 400000 in
theorem w_fold (h : UInt64) (w : World) :
    Calls Try.prog 27 #[vw h] w fun e w' => e = .returned (vw (fold64 h)) ∧ w = w' := by
  go_enter Try.func27, Try.ntmps27
  go_wp2
  go_ret
  exact ⟨ret_u64 (val_fold h), rfl⟩

set_option maxHeartbeats 400000 in
theorem w_rfold (h : UInt64) (w : World) :
    Calls Try.prog 28 #[vw h] w fun e w' => e = .returned (vw (fold64 h)) ∧ w = w' := by
  go_enter Try.func28, Try.ntmps28
  go_wp2
  go_ret
  exact ⟨ret_u64 (by rw [val_shr, wrap_u64_id, bits_xor64]; rfl), rfl⟩

/-- The same, the word told by an equation. -/
theorem w_fold' {n : Int} (h : UInt64) (e : n = (h.toNat : Int)) (w : World) :
    Calls Try.prog 27 #[.int .u64 n] w fun e w' => e = .returned (vw (fold64 h)) ∧ w = w' := by subst e; exact w_fold h w
theorem w_rfold' {n : Int} (h : UInt64) (e : n = (h.toNat : Int)) (w : World) :
    Calls Try.prog 28 #[.int .u64 n] w fun e w' => e = .returned (vw (fold64 h)) ∧ w = w' := by subst e; exact w_rfold h w

set_option maxHeartbeats 400000 in
theorem w_stir (h : UInt64) (w : World) :
    Calls Try.prog 12 #[vw h] w fun e w' => e = .returned (vw (stir h)) ∧ w = w' := by
  go_enter Try.func12, Try.ntmps12
  go_wp2_with fail
  go_at_call 27
  refine (w_fold _ _).mono ?_; rintro e w1 ⟨rfl, rfl⟩
  go_wp2_with fail
  go_at_call 27
  refine (w_fold' (fold64 h * one64) (val_one _) _).mono ?_; rintro e w1 ⟨rfl, rfl⟩
  go_wp2_with fail
  go_at_call 27
  refine (w_fold' (fold64 (fold64 h * one64) * two64) (val_two _) _).mono ?_; rintro e w1 ⟨rfl, rfl⟩
  go_wp2_with fail
  go_ret
  exact ⟨rfl, rfl⟩

set_option maxHeartbeats 400000 in
theorem w_rstir (h : UInt64) (w : World) :
    Calls Try.prog 13 #[vw h] w fun e w' => e = .returned (vw (stir h)) ∧ w = w' := by
  go_enter Try.func13, Try.ntmps13
  go_wp2_with fail
  go_at_call 28
  refine (w_rfold _ _).mono ?_; rintro e w1 ⟨rfl, rfl⟩
  go_wp2_with fail
  go_at_call 28
  refine (w_rfold' (fold64 h * one64) (val_one _) _).mono ?_; rintro e w1 ⟨rfl, rfl⟩
  go_wp2_with fail
  go_at_call 28
  refine (w_rfold' (fold64 (fold64 h * one64) * two64) (val_two _) _).mono ?_; rintro e w1 ⟨rfl, rfl⟩
  go_wp2_with fail
  go_ret
  exact ⟨rfl, rfl⟩

theorem take_flat {bs : List (List UInt8)} {k : Nat} (h : k < bs.length) : (bs.take (k + 1)).flatten = (bs.take k).flatten ++ bs[k] := by
  rw [← List.take_append_getElem h, List.flatten_append]; simp
theorem sum_snoc (bs : List UInt8) (c : UInt8) : sum (bs ++ [c]) = step (sum bs) c := by simp [sum, sumFrom]

set_option maxHeartbeats 400000 in
theorem w_sum {F : Nat → Prop} {v : Value} {bs : List (List UInt8)} (w : World) (h : Rows F w v bs) :
    Calls Try.prog 16 #[v] w fun e w' => e = .returned (vw (sum bs.flatten)) ∧ w = w' := by
  obtain ⟨A, c, rfl, h1, h2, h3, h4⟩ := h
  unfold maxLen at h2
  go_enter Try.func16, Try.ntmps16
  go_wp2
  go_step3
  go_wp2
  go_step3
  go_wp2
  go_loop [3, 10] (fun hv iv => ∃ k : Nat, k ≤ bs.length ∧ iv = .int .i64 k ∧ hv = vw (sum (bs.take k).flatten)) (fun _ i => bs.length - (intOf i).toNat)
  case atStart => exact ⟨0, Nat.zero_le _, rfl, rfl⟩
  case round =>
    obtain ⟨k, hk, rfl, rfl⟩ := hrel
    by_cases hlt : k < bs.length
    · obtain ⟨b, o, cs, rfl, hF, hb, hl, ⟨u, rfl, hu⟩, hcell⟩ := h4 k bs[k] (by simp [hlt])
      have hc := hcell 0 u rfl
      simp only [Nat.mul_one, Nat.add_zero] at hc
      obtain ⟨A', c', rfl, g1, g2, g3, g4⟩ := hu
      unfold maxLen at g2
      by_cases h0 : bs[k].length = 0
      · have e : sum (bs.take (k + 1)).flatten = sum (bs.take k).flatten := by rw [take_flat hlt, List.eq_nil_of_length_eq_zero h0, List.append_nil]
        have E := Lib.hid e; clear e
        go_wp2
        go_round
        case rel => exact ⟨k + 1, by omega, by go_num, by rw [E.out]⟩
        case measure => simp [intOf]; omega
      · go_wp2
        go_loop [3, 19] (fun hv iv => ∃ m : Nat, m ≤ bs[k].length ∧ iv = .int .i64 m ∧ hv = vw (sum ((bs.take k).flatten ++ bs[k].take m))) (fun _ i => bs[k].length - (intOf i).toNat)
        case atStart => exact ⟨0, Nat.zero_le _, rfl, by simp⟩
        case round =>
          obtain ⟨m, hm, rfl, rfl⟩ := hrel
          by_cases hml : m < bs[k].length
          · obtain ⟨b', o', cs, rfl, hF', hb', hl', rfl, hcell'⟩ := g4 m bs[k][m] (by simp [hml])
            have hc' := hcell' 0 _ rfl
            simp only [Nat.mul_one, Nat.add_zero] at hc'
            have e : step (sum ((bs.take k).flatten ++ bs[k].take m)) bs[k][m] = sum ((bs.take k).flatten ++ bs[k].take (m + 1)) := by rw [← sum_snoc, List.append_assoc, List.take_append_getElem]
            have E := Lib.hid e; clear e
            go_wp2_with (go_at_call 10; refine (w_step _ _ _).mono ?_; rintro e w1 ⟨rfl, rfl⟩)
            go_round
            case rel => exact ⟨m + 1, by omega, by go_num, by rw [E.out]⟩
            case measure => simp [intOf]; omega
          · obtain rfl : m = bs[k].length := by omega
            have e : sum ((bs.take k).flatten ++ bs[k].take bs[k].length) = sum (bs.take (k + 1)).flatten := by rw [List.take_length, take_flat hlt]
            have E := Lib.hid e; clear e
            go_wp2
            go_round
            case rel => exact ⟨k + 1, by omega, by go_num, by rw [E.out]⟩
            case measure => simp [intOf]; omega
    · obtain rfl : k = bs.length := by omega
      go_wp2
      go_ret
      exact ⟨rfl, rfl⟩

end Go.Proofs.Ytojmldhbdfboiaa
