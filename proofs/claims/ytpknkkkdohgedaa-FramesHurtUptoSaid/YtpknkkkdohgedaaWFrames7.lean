/-
  Walks: how long records are; frames of rows of records.
-/
import Derived.Test.YtpknkkkdohgedaaWFrames6
namespace Go.Proofs.Ytpknkkkdohgedaa
open Go.RowKit

theorem long_take {rs : List Rec} {k : Nat} (h : k < rs.length) : long (rs.take (k + 1)) = long (rs.take k) + 10 + rs[k].b.length := by
  rw [← List.take_append_getElem h, long_append]
  simp [long]
  omega
theorem long_le (rs : List Rec) (k : Nat) : long (rs.take k) ≤ long rs := by
  have h := long_append (rs.take k) (rs.drop k)
  rw [List.take_append_drop] at h
  omega

set_option maxRecDepth 100000 in
set_option maxHeartbeats 2000000 in
theorem w_long {F : Nat → Prop} {v : Value} {rs : List Rec} (w : World) (h : Recs F w v rs) (hs : long rs ≤ 1000000000000) :
    Calls Try.prog 17 #[v] w fun e w' => e = .returned (.int .i64 (long rs : Nat)) ∧ w = w' := by
  obtain ⟨A, c, rfl, _, hm⟩ := h.shape
  unfold maxLen at hm
  go_enter Try.func17, Try.ntmps17
  go_wp2
  go_loop [3, 4] (fun nv iv => ∃ k : Nat, k ≤ rs.length ∧ iv = .int .i64 k ∧ nv = .int .i64 (long (rs.take k) : Nat)) (fun _ i => rs.length - (intOf i).toNat)
  case atStart => exact ⟨0, Nat.zero_le _, rfl, by simp [long]⟩
  case round =>
    obtain ⟨k, hk, rfl, rfl⟩ := hrel
    by_cases hlt : k < rs.length
    · obtain ⟨b1, o1, c1', u1, e1, _, ck1, cu1, hu1⟩ := h.at_ hlt
      simp only [Value.slice.injEq] at e1
      obtain ⟨rfl, _, rfl⟩ := e1
      obtain ⟨Au, cu, rfl⟩ := hu1.shape
      have E := Lib.hid (long_take hlt)
      have L1 := long_le rs (k + 1)
      rw [long_take hlt] at L1
      generalize long (rs.take k) = m at *
      go_wp2
      go_round
      case rel => exact ⟨k + 1, by omega, by go_num, by rw [E.out]; simp⟩
      case measure => simp [intOf]; omega
    · obtain rfl : k = rs.length := by omega
      rw [List.take_length]
      go_wp2
      go_ret
      exact ⟨rfl, rfl⟩

theorem frames_take {rs : List Rec} {k : Nat} (h : k < rs.length) : frames (rs.take (k + 1)) = frames (rs.take k) ++ frame rs[k] := by
  rw [← List.take_append_getElem h, frames_append]
  simp [frames]

set_option maxRecDepth 100000 in
set_option maxHeartbeats 2000000 in
theorem w_all {v : Value} {rs : List Rec} (w : World) (h : Recs (old' w) w v rs) (hok : okAll rs) (hs : long rs ≤ 1000000000000) :
    Calls Try.prog 18 #[v] w fun e w' => ∃ u, e = .returned (.tuple #[u, .int .i64 0]) ∧ OwnB w.heap.size w' u (frames rs) ∧ Chg none' w w' := by
  obtain ⟨A, c, rfl, _, hm⟩ := h.shape
  unfold maxLen at hm
  go_enter Try.func18, Try.ntmps18
  go_wp2
  go_loopw [4, 11] (fun ov iv wr => ∃ k : Nat, k ≤ rs.length ∧ iv = .int .i64 k ∧ OwnB w.heap.size wr ov (frames (rs.take k)) ∧ Chg none' w wr) (fun _ i _ => rs.length - (intOf i).toNat)
  case atStart => exact ⟨0, Nat.zero_le _, rfl, OwnB.nil _ _, Chg.refl _ _⟩
  case round =>
    obtain ⟨k, hk, rfl, hown, hchg⟩ := hrel
    by_cases hlt : k < rs.length
    · obtain ⟨b1, o1, c1', u1, e1, _, ck1, cu1, hu1⟩ := (h.kept hchg fun _ _ => id).at_ hlt
      simp only [Value.slice.injEq] at e1
      obtain ⟨rfl, _, rfl⟩ := e1
      obtain ⟨Au, cu, rfl⟩ := hu1.shape
      have E := Lib.hid (frames_take hlt)
      have L1 := long_le rs (k + 1)
      rw [long_take hlt] at L1
      have hok1 : rs[k].b.length ≤ 65536 := hok _ (List.getElem_mem hlt)
      have hfl := frames_len (rs.take k)
      generalize frames (rs.take k) = fr at *
      generalize long (rs.take k) = m at *
      generalize rs[k] = r at *
      go_wp2_with fail
      refine (w_one (r := r) _ (hu1.alloc _).old hok1).mono ?_
      rintro e w1 ⟨u, rfl, ou, c1⟩
      have d1 : Chg none' wr w1 := ((Chg.refl _ _).alloc _).trans c1
      have o1' := hown.keep d1 fun _ => none_own
      have hfr : (frame r).length = r.b.length + 10 := frame_len r
      go_wp2_with (at_builtin; refine wpList_appB rfl (.tmp 26) (.tmp 27) rfl o1' ou.bytes rfl rfl (by omega) (hchg.trans d1).size ?_; intro v2 w2 o2 c2 b2)
      go_roundw
      case rel => exact ⟨k + 1, by omega, by go_num, by rw [E.out]; exact o2, (hchg.trans d1).trans' c2 fun i hi e => by have := o1'.base_ i e; omega⟩
      case measure => simp [intOf]; omega
    · obtain rfl : k = rs.length := by omega
      rw [List.take_length] at hown
      go_wp2
      go_ret2
      exact ⟨_, rfl, hown, hchg⟩

end Go.Proofs.Ytpknkkkdohgedaa
