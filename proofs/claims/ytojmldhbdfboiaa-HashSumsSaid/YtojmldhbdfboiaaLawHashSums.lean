/-
  The walk of HashSums.
-/
import Derived.Test.YtojmldhbdfboiaaWHash3
import Derived.Test.YtojmldhbdfboiaaOpen
namespace Go.Proofs.Ytojmldhbdfboiaa
open Go.RowKit

set_option maxHeartbeats 1000000 in
theorem walk_HashSums (w : World) {v : Value} {bss : List (List UInt8)} (h : Rows (old' w) w v bss) (hr : bss.length * 24 ≤ 140737488351232 ∧ ∀ b ∈ bss, b.length ≤ 140737488351232) :
    Calls Try.prog 5 #[v] w fun e w' => e = .returned (.bool true) ∧ Chg none' w w' := by
  have h' := h
  obtain ⟨A, c, rfl, h1, h2, h3, h4⟩ := h
  obtain ⟨hr1, hr2⟩ := hr
  unfold maxLen at h2
  have hr2' := Lib.hid hr2; clear hr2
  go_enter Try.func5, Try.ntmps5
  go_wp2_with fail
  go_loopw [3, 4] (fun bv iv wr => ∃ (k : Nat) (acc : List UInt8), k ≤ bss.length ∧ Hid (acc = (bss.take k).flatten) ∧ iv = .int .i64 k ∧ OwnB w.heap.size wr bv acc ∧ acc.length ≤ 3000 ∧ Chg none' w wr) (fun _ i _ => bss.length - (intOf i).toNat)
  case atStart => exact ⟨0, [], Nat.zero_le _, Lib.hid rfl, rfl, OwnB.nil _ _, by simp, Chg.refl _ _⟩
  case round =>
    obtain ⟨k, acc, hk, hacc, rfl, hown, hle, hchg⟩ := hrel
    obtain ⟨B, cb, rfl⟩ := hown.shape
    by_cases hlt : k < bss.length
    · obtain ⟨b, o, cs, rfl, hF, hb, hl, ⟨u, rfl, hu⟩, hcell⟩ := h4 k bss[k] (by simp [hlt])
      have hc0 := hcell 0 u rfl
      simp only [Nat.mul_one, Nat.add_zero] at hc0
      have hc := hchg.cell hc0 (fun h => h)
      have hu' := hu.kept hchg (fun _ _ => id)
      have hlk := hr2'.out bss[k] (by simp)
      obtain ⟨A', c', rfl, g1, g2, g3, g4⟩ := hu
      unfold maxLen at g2
      by_cases hbig : 3000 < acc.length + bss[k].length
      · go_wp2_with fail
        refine (w_known04 _).mono ?_
        rintro e w1 ⟨rfl, c1⟩
        go_wp2_with fail
        go_ret
        exact ⟨rfl, hchg.trans c1⟩
      · have E := Lib.hid (show acc ++ bss[k] = (bss.take (k + 1)).flatten by rw [take_flat hlt, hacc.out])
        go_wp2_with (at_builtin; refine wpList_app rfl (.tmp 21) (.tmp 25) 27 rfl w.heap.size 5 (.int .u8 0) 1 1 Try.underlying27 info_u8 rfl (by decide) _ _ _ rfl hown _ _ _ rfl hu'.src (by omega) (by unfold maxLen; omega) hchg.size ?_; intro v1 w1 hown1 hg1)
        go_roundw
        case rel => exact ⟨k + 1, acc ++ bss[k], by omega, E, by go_num, OwnB.app hown1 rfl, by rw [List.length_append]; omega, hchg.grown hg1 fun j hj => .inl (OwnB.base_ hown j hj)⟩
        case measure => simp [intOf]; omega
    · have E := Lib.hid (show acc = bss.flatten by rw [hacc.out, List.take_of_length_le (by omega)])
      have hR := (h'.kept hchg (fun _ _ => id)).all
      clear h' h4
      go_wp2_with fail
      refine (w_sum _ hR).mono ?_
      rintro e w1 ⟨rfl, rfl⟩
      go_wp2_with fail
      refine (w_rsum' _ hown.bytes E.out).mono ?_
      rintro e w1 ⟨rfl, rfl⟩
      go_wp2_with fail
      refine (w_check _ hR).mono ?_
      rintro e w1 ⟨rfl, rfl⟩
      go_wp2_with fail
      refine (w_rcheck' _ hown.bytes E.out).mono ?_
      rintro e w1 ⟨rfl, rfl⟩
      go_wp2_with fail
      refine (w_known04 _).mono ?_
      rintro e w1 ⟨rfl, c1⟩
      go_wp2_with fail
      go_ret
      exact ⟨rfl, hchg.trans c1⟩

end Go.Proofs.Ytojmldhbdfboiaa
