/-
  The walk of FramesSame.
-/
import Derived.Test.YtpknkkkdohgedaaWFrames9
import Derived.Test.YtpknkkkdohgedaaOpenR
namespace Go.Proofs.Ytpknkkkdohgedaa
open Go.RowKit

theorem long_bulk (rs : List Rec) : long rs ≤ 4 * (rs.map fun r => r.b.length + 3).sum := by
  induction rs with
  | nil => exact Nat.le_refl _
  | cons r rs ih => simp only [long, List.map_cons, List.sum_cons] at *; omega
theorem ok_long {rs : List Rec} (h : long rs ≤ 65536) : okAll rs := by
  intro r hr
  induction rs with
  | nil => simp at hr
  | cons x rs ih =>
    simp only [long, List.map_cons, List.sum_cons] at h
    rcases List.mem_cons.1 hr with rfl | hr
    · omega
    · exact ih (by simp only [long]; omega) hr

set_option maxRecDepth 100000 in
set_option maxHeartbeats 4000000 in
theorem walk_FramesSame (w : World) {u v : Value} {xs ys : List Rec} (h : Recs (old' w) w u xs) (hr : xs.length * 32 ≤ 140737488351232 ∧ ∀ r ∈ xs, r.b.length ≤ 140737488351232) (hb : (xs.map fun r => r.b.length + 3).sum + 1 ≤ 1048576)
    (k : Recs (old' w) w v ys) (kr : ys.length * 32 ≤ 140737488351232 ∧ ∀ r ∈ ys, r.b.length ≤ 140737488351232) (kb : (ys.map fun r => r.b.length + 3).sum + 1 ≤ 1048576) :
    Calls Try.prog 6 #[u, v] w fun e w' => e = .returned (.bool true) ∧ Chg none' w w' := by
  have l1 := long_bulk xs
  have l2 := long_bulk ys
  have L1 := w_long w h (by omega)
  have L2 := w_long w k (by omega)
  by_cases h1 : 1000 < long xs
  · clear hr kr hb kb l1 l2
    generalize long xs = m at *
    go_enter Try.func6, Try.ntmps6
    go_wp2_with fail
    refine L1.mono ?_
    rintro e w1 ⟨rfl, rfl⟩
    go_wp2_with fail
    refine (w_known05 _).mono ?_
    rintro e w2 ⟨rfl, c2⟩
    go_wp2
    go_ret
    exact ⟨rfl, c2⟩
  by_cases h2 : 1000 < long ys
  · clear hr kr hb kb l1 l2
    generalize long xs = m at *
    generalize long ys = n at *
    go_enter Try.func6, Try.ntmps6
    go_wp2_with fail
    refine L1.mono ?_
    rintro e w1 ⟨rfl, rfl⟩
    go_wp2_with fail
    refine L2.mono ?_
    rintro e w1 ⟨rfl, rfl⟩
    go_wp2_with fail
    refine (w_known05 _).mono ?_
    rintro e w2 ⟨rfl, c2⟩
    go_wp2
    go_ret
    exact ⟨rfl, c2⟩
  have k1 := ok_long (rs := xs) (by omega)
  have k2 := ok_long (rs := ys) (by omega)
  have A1 := fun W (x : Recs (old' W) W u xs) => w_all W x k1 (by omega)
  have A2 := fun W (x : Recs (old' W) W v ys) => w_all W x k2 (by omega)
  have hinj : (frames xs == frames ys) = decide (xs = ys) := by
    by_cases e : xs = ys
    · rw [e, beq_self_eq_true, decide_eq_true rfl]
    · rw [decide_eq_false e, beq_eq_false_iff_ne]; exact fun q => e (frames_inj k1 k2 q)
  have HI := Lib.hid hinj
  clear hinj k1 k2 l1 l2 hr kr hb kb
  generalize long xs = m at *
  generalize long ys = n at *
  generalize frames xs = fx at *
  generalize frames ys = fy at *
  have S1 := fun W (x : Recs all' W u xs) (y : Recs all' W v ys) => w_fsame W x y
  have S2 := fun W (x : Recs all' W u xs) (y : Recs all' W v ys) => w_rsame W x y
  generalize decide (xs = ys) = Z at *
  go_enter Try.func6, Try.ntmps6
  go_wp2_with fail
  refine L1.mono ?_
  rintro e w1 ⟨rfl, rfl⟩
  go_wp2_with fail
  refine L2.mono ?_
  rintro e w1 ⟨rfl, rfl⟩
  go_wp2_with fail
  go_at_call 22
  refine (S1 _ h.all k.all).mono ?_
  rintro e w1 ⟨rfl, c1⟩
  have h' := h.kept c1 fun _ _ => id
  have k' := k.kept c1 fun _ _ => id
  go_wp2_with fail
  go_at_call 18
  refine (A1 _ h'.old).mono ?_
  rintro e w2 ⟨x1, rfl, o1, c2⟩
  have h2' := h'.kept c2 fun _ _ => id
  have k2' := k'.kept c2 fun _ _ => id
  go_wp2_with fail
  go_at_call 18
  refine (A2 _ k2'.old).mono ?_
  rintro e w3 ⟨x2, rfl, o2, c3⟩
  have h3 := h2'.kept c3 fun _ _ => id
  have k3 := k2'.kept c3 fun _ _ => id
  have o1' := o1.keep c3 fun _ => none_own
  go_wp2_with fail
  go_at_call 15
  refine (S2 _ h3.all k3.all).mono ?_
  rintro e w4 ⟨rfl, c4⟩
  go_wp2_with fail
  go_at_call 16
  refine (w_same00 _ (o1'.keep c4 fun _ => none_own).bytes (o2.keep c4 fun _ => none_own).bytes).mono ?_
  rintro e w5 ⟨rfl, rfl⟩
  rw [HI.out]
  go_wp2_with fail
  go_at_call 10
  refine (w_known05 _).mono ?_
  rintro e w6 ⟨rfl, c6⟩
  go_wp2
  go_ret
  exact ⟨rfl, (((c1.trans c2).trans c3).trans c4).trans c6⟩

end Go.Proofs.Ytpknkkkdohgedaa
