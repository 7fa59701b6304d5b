/-
  Walks: sums and checks of bytes; what the walks ask of bytes.
-/
import Derived.Test.YtclbbddpedcfjaaProg
import Derived.Test.YtclbbddpedcfjaaBytes
import Derived.Test.YtclbbddpedcfjaaHash
import Derived.Lib.SlBytesConst
namespace Go.Proofs.Ytclbbddpedcfjaa
open Go.RowKit

theorem ret_u64 {a b : Int} (h : a = b) : Ending.returned (.int .u64 a) = .returned (.int .u64 b) := by rw [h]

set_option maxHeartbeats 400000 in
theorem w_step (h : UInt64) (c : UInt8) (w : World) :
    Calls Try.prog 65 #[vw h, vb c] w fun e w' => e = .returned (vw (step h c)) ∧ w = w' := by
  have b1 := u8_lt c
  go_enter Try.func65, Try.ntmps65
  go_wp2
  go_ret
  exact ⟨ret_u64 (val_step h c), rfl⟩

set_option maxHeartbeats 400000 in
theorem w_rstep (h : UInt64) (c : UInt8) (w : World) :
    Calls Try.prog 67 #[vw h, vb c] w fun e w' => e = .returned (vw (step h c)) ∧ w = w' := by
  have b1 := u8_lt c
  go_enter Try.func67, Try.ntmps67
  go_wp2
  go_ret
  exact ⟨ret_u64 (val_rstep h c), rfl⟩

theorem take_flat {bs : List (List UInt8)} {k : Nat} (h : k < bs.length) : (bs.take (k + 1)).flatten = (bs.take k).flatten ++ bs[k] := by
  rw [← List.take_append_getElem h, List.flatten_append]; simp
theorem sum_snoc (bs : List UInt8) (c : UInt8) : sum (bs ++ [c]) = step (sum bs) c := by simp [sum, sumFrom]

set_option maxHeartbeats 400000 in
theorem w_sum {F : Nat → Prop} {v : Value} {bs : List (List UInt8)} (w : World) (h : Rows F w v bs) :
    Calls Try.prog 61 #[v] w fun e w' => e = .returned (vw (sum bs.flatten)) ∧ w = w' := by
  obtain ⟨A, c, rfl, h1, h2, h3, h4⟩ := h
  unfold maxLen at h2
  go_enter Try.func61, Try.ntmps61
  go_wp2
  go_step3
  go_wp2
  go_step3
  go_wp2
  go_loop [3, 10] (fun hv iv => ∃ k : Nat, k ≤ bs.length ∧ iv = .int .i64 k ∧ hv = vw (sum (bs.take k).flatten)) (fun _ i => bs.length - (intOf i).toNat)
  case atStart => exact ⟨0, Nat.zero_le _, rfl, rfl⟩
  case round =>
    obtain ⟨k, hk, rfl, rfl⟩ := hrel
    by_cases hlt : k < bs.length
    · obtain ⟨b, o, cs, rfl, hF, hb, hl, ⟨u, rfl, hu⟩, hcell⟩ := h4 k bs[k] (by simp [hlt])
      have hc := hcell 0 u rfl
      simp only [Nat.mul_one, Nat.add_zero] at hc
      obtain ⟨A', c', rfl, g1, g2, g3, g4⟩ := hu
      unfold maxLen at g2
      by_cases h0 : bs[k].length = 0
      · have e : sum (bs.take (k + 1)).flatten = sum (bs.take k).flatten := by rw [take_flat hlt, List.eq_nil_of_length_eq_zero h0, List.append_nil]
        have E := Lib.hid e; clear e
        go_wp2
        go_round
        case rel => exact ⟨k + 1, by omega, by go_num, by rw [E.out]⟩
        case measure => simp [intOf]; omega
      · go_wp2
        go_loop [3, 19] (fun hv iv => ∃ m : Nat, m ≤ bs[k].length ∧ iv = .int .i64 m ∧ hv = vw (sum ((bs.take k).flatten ++ bs[k].take m))) (fun _ i => bs[k].length - (intOf i).toNat)
        case atStart => exact ⟨0, Nat.zero_le _, rfl, by simp⟩
        case round =>
          obtain ⟨m, hm, rfl, rfl⟩ := hrel
          by_cases hml : m < bs[k].length
          · obtain ⟨b', o', cs, rfl, hF', hb', hl', rfl, hcell'⟩ := g4 m bs[k][m] (by simp [hml])
            have hc' := hcell' 0 _ rfl
            simp only [Nat.mul_one, Nat.add_zero] at hc'
            have e : step (sum ((bs.take k).flatten ++ bs[k].take m)) bs[k][m] = sum ((bs.take k).flatten ++ bs[k].take (m + 1)) := by rw [← sum_snoc, List.append_assoc, List.take_append_getElem]
            have E := Lib.hid e; clear e
            go_wp2_with (go_at_call 65; refine (w_step _ _ _).mono ?_; rintro e w1 ⟨rfl, rfl⟩)
            go_round
            case rel => exact ⟨m + 1, by omega, by go_num, by rw [E.out]⟩
            case measure => simp [intOf]; omega
          · obtain rfl : m = bs[k].length := by omega
            have e : sum ((bs.take k).flatten ++ bs[k].take bs[k].length) = sum (bs.take (k + 1)).flatten := by rw [List.take_length, take_flat hlt]
            have E := Lib.hid e; clear e
            go_wp2
            go_round
            case rel => exact ⟨k + 1, by omega, by go_num, by rw [E.out]⟩
            case measure => simp [intOf]; omega
    · obtain rfl : k = bs.length := by omega
      go_wp2
      go_ret
      exact ⟨rfl, rfl⟩
theorem w_sum1 {W : World} {t : TypeId} {u : Value} {b : List UInt8} {g : Nat} (h : Bytes all' W u b) (hg : W.heap.size = g := by first | rfl | simp) :
    Calls Try.prog 61 #[.slice (some ⟨g, 0, none⟩) 1 1] (W.alloc (.cells #[u] t)) fun e w' => e = .returned (vw (sum b)) ∧ W.alloc (.cells #[u] t) = w' := by
  have := w_sum _ (rows_lit1 (t := t) h hg)
  rwa [show [b].flatten = b by simp] at this
theorem w_sum2 {W : World} {t : TypeId} {u v : Value} {b c : List UInt8} {g : Nat} (h : Bytes all' W u b) (k : Bytes all' W v c) (hg : W.heap.size = g := by first | rfl | simp) :
    Calls Try.prog 61 #[.slice (some ⟨g, 0, none⟩) 2 2] (W.alloc (.cells #[u, v] t)) fun e w' => e = .returned (vw (sum (b ++ c))) ∧ W.alloc (.cells #[u, v] t) = w' := by
  have := w_sum _ (rows_lit2 (t := t) h k hg)
  rwa [show [b, c].flatten = b ++ c by simp] at this

set_option maxHeartbeats 400000 in
theorem w_rsum {F : Nat → Prop} {v : Value} {bs : List UInt8} (w : World) (h : Bytes F w v bs) :
    Calls Try.prog 66 #[v] w fun e w' => e = .returned (vw (sum bs)) ∧ w = w' := by
  obtain ⟨A, c, rfl, h1, h2, h3, h4⟩ := h
  unfold maxLen at h2
  go_enter Try.func66, Try.ntmps66
  go_wp2
  go_loop [3, 4] (fun hv iv => ∃ m : Nat, m ≤ bs.length ∧ iv = .int .i64 m ∧ hv = vw (sum (bs.take m))) (fun _ i => bs.length - (intOf i).toNat)
  case atStart => exact ⟨0, Nat.zero_le _, rfl, rfl⟩
  case round =>
    obtain ⟨m, hm, rfl, rfl⟩ := hrel
    by_cases hml : m < bs.length
    · obtain ⟨b', o', cs, rfl, hF', hb', hl', rfl, hcell'⟩ := h4 m bs[m] (by simp [hml])
      have hc' := hcell' 0 _ rfl
      simp only [Nat.mul_one, Nat.add_zero] at hc'
      have e : step (sum (bs.take m)) bs[m] = sum (bs.take (m + 1)) := by rw [← sum_snoc, List.take_append_getElem]
      have E := Lib.hid e; clear e
      go_wp2_with (go_at_call 67; refine (w_rstep _ _ _).mono ?_; rintro e w1 ⟨rfl, rfl⟩)
      go_round
      case rel => exact ⟨m + 1, by omega, by go_num, by rw [E.out]⟩
      case measure => simp [intOf]; omega
    · obtain rfl : m = bs.length := by omega
      have e : sum (bs.take bs.length) = sum bs := by rw [List.take_length]
      have E := Lib.hid e; clear e
      go_wp2
      go_ret
      exact ⟨rfl, rfl⟩

set_option maxRecDepth 20000 in
theorem ret_u32 {a b : Int} (h : a = b) : Ending.returned (.int .u32 a) = .returned (.int .u32 b) := by rw [h]

set_option maxHeartbeats 400000 in
theorem w_check {F : Nat → Prop} {v : Value} {bs : List (List UInt8)} (w : World) (h : Rows F w v bs) :
    Calls Try.prog 52 #[v] w fun e w' => e = .returned (.int .u32 ((check bs.flatten).toNat : Int)) ∧ w = w' := by
  go_enter Try.func52, Try.ntmps52
  go_wp2_with fail
  refine (w_sum _ h).mono ?_
  rintro e w1 ⟨rfl, rfl⟩
  go_wp2
  go_ret
  exact ⟨ret_u32 (val_check _), rfl⟩

theorem w_check1 {W : World} {t : TypeId} {u : Value} {b : List UInt8} {g : Nat} (h : Bytes all' W u b) (hg : W.heap.size = g := by first | rfl | simp) :
    Calls Try.prog 52 #[.slice (some ⟨g, 0, none⟩) 1 1] (W.alloc (.cells #[u] t)) fun e w' => e = .returned (.int .u32 ((check b).toNat : Int)) ∧ W.alloc (.cells #[u] t) = w' := by
  have := w_check _ (rows_lit1 (t := t) h hg)
  rwa [show [b].flatten = b by simp] at this

set_option maxHeartbeats 400000 in
theorem w_rcheck {F : Nat → Prop} {v : Value} {bs : List UInt8} (w : World) (h : Bytes F w v bs) :
    Calls Try.prog 64 #[v] w fun e w' => e = .returned (.int .u32 ((check bs).toNat : Int)) ∧ w = w' := by
  go_enter Try.func64, Try.ntmps64
  go_wp2_with fail
  refine (w_rsum _ h).mono ?_
  rintro e w1 ⟨rfl, rfl⟩
  go_wp2
  go_ret
  exact ⟨ret_u32 (by rw [val_hi]; exact val_check _), rfl⟩

theorem ne_word {a b : UInt64} (h : a ≠ b) : ((a.toNat : Int) == (b.toNat : Int)) = false := by
  rw [beq_eq_false_iff_ne]
  intro e
  exact h (UInt64.toNat_inj.1 (by exact_mod_cast e))

theorem ne_word' {a b : UInt64} (h : a ≠ b) : ((a.toNat : Int) != (b.toNat : Int)) = true := by
  rw [bne, ne_word h]; rfl

theorem w_rsum' {F : Nat → Prop} {v : Value} {bs cs : List UInt8} (w : World) (h : Bytes F w v bs) (e : bs = cs) :
    Calls Try.prog 66 #[v] w fun e w' => e = .returned (vw (sum cs)) ∧ w = w' := by subst e; exact w_rsum w h
theorem w_rcheck' {F : Nat → Prop} {v : Value} {bs cs : List UInt8} (w : World) (h : Bytes F w v bs) (e : bs = cs) :
    Calls Try.prog 64 #[v] w fun e w' => e = .returned (.int .u32 ((check cs).toNat : Int)) ∧ w = w' := by subst e; exact w_rcheck w h

end Go.Proofs.Ytclbbddpedcfjaa
