/-
  The walk of HashSteps.
-/
import Derived.Test.YtojmldhbdfboiaaWHash3
import Derived.Test.YtojmldhbdfboiaaOpen
namespace Go.Proofs.Ytojmldhbdfboiaa
open Go.RowKit

theorem sum_take {bs : List UInt8} {m : Nat} (h : m < bs.length) : step (sum (bs.take m)) bs[m] = sum (bs.take (m + 1)) := by rw [← sum_snoc, List.take_append_getElem]

set_option maxHeartbeats 400000 in
theorem walk_HashSteps (w : World) {v : Value} {bs : List UInt8} (h : Bytes (old' w) w v bs) (hr : bs.length ≤ 140737488351232) :
    Calls Try.prog 6 #[v] w fun e w' => e = .returned (.bool true) ∧ Chg none' w w' := by
  have h' := h
  obtain ⟨A, c, rfl, h1, h2, h3, h4⟩ := h
  unfold maxLen at h2
  by_cases hlen : 2000 < bs.length
  · go_enter Try.func6, Try.ntmps6
    go_wp2_with fail
    refine (w_known04 _).mono ?_
    rintro e w1 ⟨rfl, c1⟩
    go_wp2
    go_ret
    exact ⟨rfl, c1⟩
  · go_enter Try.func6, Try.ntmps6
    go_wp2_with fail
    refine (w_sum _ (Row.nil : Rows all' w _ [])).mono ?_
    rintro e w1 ⟨rfl, rfl⟩
    go_wp2_with fail
    go_loop [3, 4] (fun hv iv => ∃ m : Nat, m ≤ bs.length ∧ iv = .int .i64 m ∧ hv = vw (sum (bs.take m))) (fun _ i => bs.length - (intOf i).toNat)
    case atStart => exact ⟨0, Nat.zero_le _, rfl, rfl⟩
    case round =>
      obtain ⟨m, hm, rfl, rfl⟩ := hrel
      by_cases hml : m < bs.length
      · obtain ⟨b', o', cs, rfl, hF', hb', hl', rfl, hcell'⟩ := h4 m bs[m] (by simp [hml])
        have hc' := hcell' 0 _ rfl
        simp only [Nat.mul_one, Nat.add_zero] at hc'
        have E := Lib.hid (sum_take hml)
        go_wp2_with (go_at_call 10; refine (w_step _ _ _).mono ?_; rintro e w1 ⟨rfl, rfl⟩)
        go_round
        case rel => exact ⟨m + 1, by omega, by go_num, by rw [E.out]⟩
        case measure => simp [intOf]; omega
      · have E := Lib.hid (show bs.take m = bs from List.take_of_length_le (by omega))
        have kc := fun (W : World) => Lib.run_convert_string_bytes (P := Try.prog) W 9 27 5 ⟨bs.toArray⟩ Try.underlying9 Try.underlying27 Try.underlying5
        have kb := fun o => Bytes.conv (h'.alloc o)
        go_wp2_with fail
        rw [E.out]
        refine (w_sum1 h'.all).mono ?_
        rintro e w1 ⟨rfl, rfl⟩
        go_wp2_with fail
        refine (w_keyb _ hr).mono ?_
        rintro e w1 ⟨rfl, c1⟩
        go_wp2_with fail
        refine (w_stir _ _).mono ?_
        rintro e w2 ⟨rfl, rfl⟩
        go_wp2_with fail
        refine (w_check1 (((h'.alloc _).kept c1 (fun _ _ => id)).all)).mono ?_
        rintro e w2 ⟨rfl, rfl⟩
        have V : bits BinOp.xor IntKind.u32 (IntKind.u64.wrap (((sum bs).toNat : Int) / 4294967296) % 4294967296) (((sum bs).toNat : Int) % 4294967296) = ((check bs).toNat : Int) := by rw [val_hi]; exact val_check _
        go_wp2_with fail
        refine (w_known04 _).mono ?_
        rintro e w3 ⟨rfl, c3⟩
        go_wp2_with fail
        go_ret
        exact ⟨rfl, ((((Chg.refl _ _).alloc _).trans c1).alloc _).trans c3⟩

end Go.Proofs.Ytojmldhbdfboiaa
