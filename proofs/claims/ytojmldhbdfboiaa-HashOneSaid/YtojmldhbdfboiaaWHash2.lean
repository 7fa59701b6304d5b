/-
  Walks of package hash and of the document's answer for it, on bytes and texts.
-/
import Derived.Test.YtojmldhbdfboiaaWHash
namespace Go.Proofs.Ytojmldhbdfboiaa
open Go.RowKit

set_option maxHeartbeats 400000 in
theorem w_word (n : Int) (w : World) :
    Calls Try.prog 29 #[.int .i64 n] w fun e w' => ∃ v, e = .returned v ∧ OwnB w.heap.size w' v (be8 (toU n)) ∧ Chg none' w w' := by
  go_enter Try.func29, Try.ntmps29
  go_wp2
  go_loopw [3, 4] (fun out iv wr => ∃ (k : Nat) (i : Int), k ≤ 8 ∧ Hid (i = 56 - 8 * (k : Int)) ∧ iv = .int .i64 i ∧ OwnB w.heap.size wr out ((be8 (toU n)).take k) ∧ Chg none' w wr) (fun _ i _ => (intOf i + 8).toNat)
  case atStart => exact ⟨0, 56, Nat.zero_le _, Lib.hid (by omega), rfl, OwnB.nil _ _, Chg.refl _ _⟩
  case round =>
    obtain ⟨k, i, hk, hi, rfl, hown, hchg⟩ := hrel
    have b1 : i ≤ 56 := by have := hi.out; omega
    by_cases hlt : k < 8
    · have b0 : 0 ≤ i := by have := hi.out; omega
      have E := Lib.hid (val_byte n hlt hi.out)
      have L : ((be8 (toU n)).take k).length ≤ 8 := by rw [List.length_take]; omega
      go_wp2_with (at_builtin; refine wpList_app rfl (.tmp 9) (.tmp 15) 27 rfl w.heap.size 5 (.int .u8 0) 1 1 Try.underlying27 info_u8 rfl (by decide) _ _ _ rfl (hown.alloc _) _ 1 [vb (byteAt (toU n) k)] rfl (src_one (congrArg (Value.int .u8) E.out) rfl) (by omega) (by unfold maxLen; omega) (by have := hchg.size; simp; omega) ?_; intro v1 w1 hown1 hg1)
      go_roundw
      case rel => exact ⟨k + 1, _, by omega, Lib.hid (by have := hi.out; omega), rfl, by rw [be8_snoc _ hlt]; exact OwnB.app (cs := [_]) hown1 rfl, (hchg.alloc _).grown hg1 fun j hj => .inl (OwnB.base_ hown j hj)⟩
      case measure => simp [intOf]; omega
    · have b0 : i < 0 := by have := hi.out; omega
      obtain rfl : k = 8 := by omega
      go_wp2
      go_ret
      exact ⟨_, rfl, by rwa [List.take_of_length_le (by simp [be8])] at hown, hchg⟩

theorem mk8 (w : World) : (Instr.makeSlice 27 (.int .i64 8) (.int .i64 8)).run Try.prog w = .ok (.slice (some ⟨w.heap.size, 0, none⟩) 8 8) (w.alloc (.cells (List.replicate 8 (vb 0)).toArray 5)) := by kernel_rfl

set_option maxHeartbeats 400000 in
theorem w_rbytes (n : Int) (w : World) :
    Calls Try.prog 30 #[.int .i64 n] w fun e w' => ∃ v, e = .returned v ∧ OwnB w.heap.size w' v (be8 (toU n)) ∧ Chg none' w w' := by
  have hmk := mk8
  go_enter Try.func30, Try.ntmps30
  go_wp2
  go_loopw [3, 5] (fun uv iv wr => ∃ (k : Nat) (i : Int) (x : Int) (cur : Array Value), k ≤ 8 ∧ Hid (i = 7 - (k : Int)) ∧ iv = .int .i64 i ∧ uv = .int .u64 x ∧ Hid (x = ((toU n).toNat / 2 ^ (8 * k) : Nat)) ∧
    wr.heap[w.heap.size]? = some (.cells cur 5 (0, 0)) ∧ cur.size = 8 ∧ Hid (∀ j, 8 - k ≤ j → j < 8 → cur[j]? = some (vb (byteAt (toU n) j))) ∧ Chg none' w wr) (fun _ i _ => (intOf i + 1).toNat)
  case atStart => exact ⟨0, 7, _, _, Nat.zero_le _, Lib.hid (by omega), rfl, rfl, Lib.hid (by have := toU_nat n; simp; omega), heap_alloc_new _ _, rfl, Lib.hid (fun j h1 h2 => by omega), (Chg.refl _ _).alloc _⟩
  case round =>
    obtain ⟨k, i, x, cur, hk, hi, rfl, rfl, hx, hh, hs, hc, hchg⟩ := hrel
    have b1 : i ≤ 7 := by have := hi.out; omega
    by_cases hlt : k < 8
    · have b0 : 0 ≤ i := by have := hi.out; omega
      have c0 : wr.cell? ⟨w.heap.size, i.toNat, none⟩ = some cur[i.toNat]! := by
        rw [cell_of_row _ _ _ _ _ _ hh, getElem!_pos cur i.toNat (by omega), Array.getElem?_eq_getElem (by omega)]
      have c1 : wr.frozen? ⟨w.heap.size, i.toNat, none⟩ = false := by simp [World.frozen?, hh]
      have x0 : 0 ≤ x := by rw [hx.out]; exact Int.natCast_nonneg _
      have E := Lib.hid (byteAt_val (toU n) hlt hi.out hx.out)
      have E2 := Lib.hid (shr_step (toU n) hx.out)
      go_wp2
      go_roundw
      case rel =>
        refine ⟨k + 1, _, _, cur.setIfInBounds i.toNat (vb (byteAt (toU n) i.toNat)), by omega, Lib.hid (by have := hi.out; omega), rfl, rfl, Lib.hid (by rw [Int.tdiv_eq_ediv_of_nonneg x0]; exact E2.out), ?_, by simpa using hs, Lib.hid ?_, hchg.setCell (.inl (Nat.le_refl _)) _⟩
        · rw [E.out]; exact heap_setCell_at hh _
        · intro j h1 h2
          have h3 := hi.out
          rw [Array.getElem?_setIfInBounds]
          split
          · next h => subst h; simp [hs]; omega
          · exact hc.out j (by omega) h2
      case measure => simp [intOf]; omega
    · have b0 : i < 0 := by have := hi.out; omega
      obtain rfl : k = 8 := by omega
      go_wp2
      go_ret
      refine ⟨_, rfl, ?_, hchg⟩
      have := OwnB.ofBlock (bs := be8 (toU n)) (Nat.le_refl w.heap.size) hh (by rw [hs]; decide) (by rw [hs, be8_len]; decide) (fun j x hj => by obtain ⟨h1, rfl⟩ := be8_at _ hj; exact hc.out j (by omega) h1)
      rwa [hs, be8_len] at this

theorem val_inv (a x : UInt64) : IntKind.u64.wrap ((x.toNat : Int) * IntKind.u64.wrap (2 - IntKind.u64.wrap ((a.toNat : Int) * (x.toNat : Int)))) = ((x * (2 - a * x)).toNat : Int) := by
  rw [val_mul, show IntKind.u64.wrap (2 - ((a * x).toNat : Int)) = ((2 - a * x).toNat : Int) by
    rw [wrap_u64, UInt64.toNat_sub]; have := (a * x).toNat_lt; simp; omega, val_mul]

set_option maxHeartbeats 400000 in
theorem w_inverse (a : UInt64) (w : World) :
    Calls Try.prog 31 #[vw a] w fun e w' => e = .returned (vw (inverse a)) ∧ w = w' := by
  go_enter Try.func31, Try.ntmps31
  go_wp2
  go_loop [3, 5] (fun x iv => ∃ k : Nat, k ≤ 6 ∧ iv = .int .i64 k ∧ x = vw (invTo a k)) (fun _ i => 6 - (intOf i).toNat)
  case atStart => exact ⟨0, Nat.zero_le _, rfl, rfl⟩
  case round =>
    obtain ⟨k, hk, rfl, rfl⟩ := hrel
    by_cases hlt : k < 6
    · have e := val_inv a (invTo a k)
      have E := Lib.hid e; clear e
      go_wp2
      go_round
      case rel => exact ⟨k + 1, by omega, by go_num, by rw [E.out]; rfl⟩
      case measure => simp [intOf]; omega
    · obtain rfl : k = 6 := by omega
      go_wp2
      go_ret
      exact ⟨rfl, rfl⟩

set_option maxHeartbeats 400000 in
theorem w_unstir (h : UInt64) (w : World) :
    Calls Try.prog 26 #[vw h] w fun e w' => e = .returned (vw (unstir h)) ∧ w = w' := by
  go_enter Try.func26, Try.ntmps26
  go_wp2_with fail
  go_at_call 27
  refine (w_fold _ _).mono ?_; rintro e w1 ⟨rfl, rfl⟩
  go_wp2_with fail
  go_at_call 31
  refine (w_inverse two64 _).mono ?_; rintro e w1 ⟨rfl, rfl⟩
  go_wp2_with fail
  go_at_call 27
  refine (w_fold' (fold64 h * inverse two64) (val_mul _ _) _).mono ?_; rintro e w1 ⟨rfl, rfl⟩
  go_wp2_with fail
  go_at_call 31
  refine (w_inverse one64 _).mono ?_; rintro e w1 ⟨rfl, rfl⟩
  go_wp2_with fail
  go_at_call 27
  refine (w_fold' (fold64 (fold64 h * inverse two64) * inverse one64) (val_mul _ _) _).mono ?_; rintro e w1 ⟨rfl, rfl⟩
  go_wp2_with fail
  go_ret
  exact ⟨rfl, rfl⟩

/-! ### Bytes of a text, and rows of rows -/
set_option maxHeartbeats 400000 in
theorem w_key (s : ByteArray) (w : World) (hs : s.size ≤ 140737488351232) :
    Calls Try.prog 17 #[.string s] w fun e w' => e = .returned (vw (stir (sum s.data.toList))) ∧ Chg none' w w' := by
  have kc := fun (w : World) => Lib.run_convert_string_bytes (P := Try.prog) w 9 27 5 s Try.underlying9 Try.underlying27 Try.underlying5
  go_enter Try.func17, Try.ntmps17
  go_wp2_with fail
  refine (w_sum1 (bytes_conv hs)).mono ?_
  rintro e w1 ⟨rfl, rfl⟩
  go_wp2_with fail
  refine (w_stir _ _).mono ?_
  rintro e w1 ⟨rfl, rfl⟩
  go_wp2
  go_ret
  exact ⟨rfl, ((Chg.refl _ _).conv _ _).alloc _⟩

set_option maxHeartbeats 400000 in
theorem w_rkey (s : ByteArray) (w : World) (hs : s.size ≤ 140737488351232) :
    Calls Try.prog 23 #[.string s] w fun e w' => e = .returned (vw (stir (sum s.data.toList))) ∧ Chg none' w w' := by
  have kc := fun (w : World) => Lib.run_convert_string_bytes (P := Try.prog) w 9 27 5 s Try.underlying9 Try.underlying27 Try.underlying5
  go_enter Try.func23, Try.ntmps23
  go_wp2_with fail
  refine (w_rsum _ (bytes_conv hs)).mono ?_
  rintro e w1 ⟨rfl, rfl⟩
  go_wp2_with fail
  refine (w_rstir _ _).mono ?_
  rintro e w1 ⟨rfl, rfl⟩
  go_wp2
  go_ret
  exact ⟨rfl, (Chg.refl _ _).conv _ _⟩

set_option maxHeartbeats 400000 in
theorem w_point (n k : Int) (w : World) :
    Calls Try.prog 24 #[.int .i64 n, .int .i64 k] w fun e w' => e = .returned (vw (stir (sum (be8 (toU n) ++ be8 (toU k))))) ∧ Chg none' w w' := by
  go_enter Try.func24, Try.ntmps24
  go_wp2_with fail
  refine (w_word _ _).mono ?_
  rintro e w1 ⟨v1, rfl, h1, c1⟩
  go_wp2_with fail
  refine (w_word _ _).mono ?_
  rintro e w2 ⟨v2, rfl, h2, c2⟩
  obtain ⟨A1, p1, rfl⟩ := h1.shape
  obtain ⟨A2, p2, rfl⟩ := h2.shape
  go_wp2_with fail
  refine (w_sum2 (h1.bytes.kept c2 (fun _ _ => id)).all h2.bytes.all).mono ?_
  rintro e w3 ⟨rfl, rfl⟩
  go_wp2_with fail
  refine (w_stir _ _).mono ?_
  rintro e w4 ⟨rfl, rfl⟩
  go_wp2
  go_ret
  exact ⟨rfl, (c1.trans c2).alloc _⟩

set_option maxHeartbeats 400000 in
theorem w_rpoint (n k : Int) (w : World) :
    Calls Try.prog 25 #[.int .i64 n, .int .i64 k] w fun e w' => e = .returned (vw (stir (sum (be8 (toU n) ++ be8 (toU k))))) ∧ Chg none' w w' := by
  go_enter Try.func25, Try.ntmps25
  go_wp2_with fail
  refine (w_rbytes _ _).mono ?_
  rintro e w1 ⟨v1, rfl, h1, c1⟩
  go_wp2_with fail
  refine (w_rbytes _ _).mono ?_
  rintro e w2 ⟨v2, rfl, h2, c2⟩
  have h1' := h1.keep c2 (fun _ _ => id)
  go_wp2_with (at_builtin; refine wpList_app rfl (.tmp 8) (.tmp 10) 27 rfl w.heap.size 5 (.int .u8 0) 1 1 Try.underlying27 info_u8 rfl (by decide) _ _ _ rfl h1' _ _ _ rfl h2.bytes.src (by simp [be8_len]) (by simp [be8_len, maxLen]) (by have := c1.size; have := c2.size; omega) ?_; intro v3 w3 hown3 hg3)
  have h3 := OwnB.app hown3 rfl
  refine (w_rsum _ h3.bytes).mono ?_
  rintro e w4 ⟨rfl, rfl⟩
  go_wp2_with fail
  refine (w_rstir _ _).mono ?_
  rintro e w5 ⟨rfl, rfl⟩
  go_wp2
  go_ret
  exact ⟨rfl, (c1.trans c2).grown hg3 fun j hj => .inl (h1.base_ j hj)⟩

end Go.Proofs.Ytojmldhbdfboiaa
