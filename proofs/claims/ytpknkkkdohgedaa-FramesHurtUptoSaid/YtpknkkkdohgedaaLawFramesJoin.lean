/-
  The walk of FramesJoin.
-/
import Derived.Test.YtpknkkkdohgedaaLawFramesSame
import Derived.Test.YtpknkkkdohgedaaRecs2
namespace Go.Proofs.Ytpknkkkdohgedaa
open Go.RowKit

theorem ok_both {xs ys : List Rec} (h : okAll xs) (k : okAll ys) : okAll (xs ++ ys) := fun r hr => by
  rcases List.mem_append.1 hr with q | q
  · exact h r q
  · exact k r q
/-- Frames that are scanned, told with nothing of the scan left. -/
theorem w_scan_all {v : Value} {rs : List Rec} (w : World) (h : Bytes (old' w) w v (frames rs)) (hok : okAll rs) (hl : long rs ≤ 1000000000000) :
    Calls Try.prog 11 #[v] w fun e w' => ∃ u, e = .returned (.tuple #[u, .int .i64 (long rs : Nat), .int .i64 0]) ∧ OwnR w.heap.size w' u rs ∧ Chg none' w w' := by
  have := w_scan w h (by rw [frames_len]; exact hl)
  rw [scan_all rs hok] at this
  exact this

set_option maxRecDepth 100000 in
set_option maxHeartbeats 4000000 in
theorem walk_FramesJoin (w : World) {u v : Value} {xs ys : List Rec} (h : Recs (old' w) w u xs) (hr : xs.length * 32 ≤ 140737488351232 ∧ ∀ r ∈ xs, r.b.length ≤ 140737488351232) (hb : (xs.map fun r => r.b.length + 3).sum + 1 ≤ 1048576)
    (k : Recs (old' w) w v ys) (kr : ys.length * 32 ≤ 140737488351232 ∧ ∀ r ∈ ys, r.b.length ≤ 140737488351232) (kb : (ys.map fun r => r.b.length + 3).sum + 1 ≤ 1048576) :
    Calls Try.prog 9 #[u, v] w fun e w' => e = .returned (.bool true) ∧ Chg none' w w' := by
  have l1 := long_bulk xs
  have l2 := long_bulk ys
  have L1 := w_long w h (by omega)
  have L2 := w_long w k (by omega)
  by_cases h1 : 1500 < long xs + long ys
  · clear hr kr
    have b1 : long xs ≤ 10000000 := by omega
    have b2 : long ys ≤ 10000000 := by omega
    clear hb kb l1 l2
    generalize long xs = m at *
    generalize long ys = n at *
    go_enter Try.func9, Try.ntmps9
    go_wp2_with fail
    refine L1.mono ?_
    rintro e w1 ⟨rfl, rfl⟩
    go_wp2_with fail
    refine L2.mono ?_
    rintro e w1 ⟨rfl, rfl⟩
    go_wp2_with fail
    refine (w_known05 _).mono ?_
    rintro e w2 ⟨rfl, c2⟩
    go_wp2
    go_ret
    exact ⟨rfl, c2⟩
  have k1 := ok_long (rs := xs) (by omega)
  have k2 := ok_long (rs := ys) (by omega)
  have k3 := ok_both k1 k2
  have l3 := long_append xs ys
  have n1 := len_long xs
  have n2 := len_long ys
  have A1 := fun W (x : Recs (old' W) W u xs) => w_all W x k1 (by omega)
  have A2 := fun W (x : Recs (old' W) W v ys) => w_all W x k2 (by omega)
  have A3 := fun W z (x : Recs (old' W) W z (xs ++ ys)) => w_all W x k3 (by omega)
  have A4 := fun W z (x : Bytes (old' W) W z (frames (xs ++ ys))) => w_scan_all W x k3 (by omega)
  have S1 := fun W x y (hx : Recs all' W x (xs ++ ys)) (hy : Recs all' W y (xs ++ ys)) => w_fsame W hx hy
  rw [decide_eq_true rfl] at S1
  have f1 := frames_len xs
  have f2 := frames_len ys
  have f3 := frames_len (xs ++ ys)
  have HF := Lib.hid (frames_append xs ys)
  have b1 : long xs + long ys ≤ 1500 := by omega
  clear hr kr hb kb l1 l2 k1 k2 k3
  generalize long xs = m at *
  generalize long ys = n at *
  generalize frames xs = fx at *
  generalize frames ys = fy at *
  generalize hfz : frames (xs ++ ys) = fz at *
  clear hfz
  rw [l3] at f3 A4
  clear l3
  have g1 : fx.length ≤ 1500 := by omega
  have g2 : fy.length ≤ 1500 := by omega
  have F3 := Lib.hid f3
  clear f1 f2 f3
  go_enter Try.func9, Try.ntmps9
  go_wp2_with fail
  refine L1.mono ?_
  rintro e w1 ⟨rfl, rfl⟩
  go_wp2_with fail
  refine L2.mono ?_
  rintro e w1 ⟨rfl, rfl⟩
  go_wp2_with fail
  go_at_call 18
  refine (A1 _ h.old).mono ?_
  rintro e w1 ⟨x1, rfl, o1, c1⟩
  have h1 := h.kept c1 fun _ _ => id
  have k1 := k.kept c1 fun _ _ => id
  go_wp2_with fail
  go_at_call 18
  refine (A2 _ k1.old).mono ?_
  rintro e w2 ⟨x2, rfl, o2, c2⟩
  have h2 := h1.kept c2 fun _ _ => id
  have k2 := k1.kept c2 fun _ _ => id
  have d2 := c1.trans c2
  have e1 := o1.keep c2 fun _ => none_own
  go_wp2_with (first
    | (at_builtin; refine wpList_appRG rfl (.tmp 32) (.tmp 33) rfl (OwnRG.nil (old' w) w.heap.size w2) h2.src (fun _ => id) (fun b hb e => by simp [ownOf, Value.ownBlock] at e) rfl rfl (by simp only [List.length_nil]; omega) d2.size ?_; intro v3 w3 o3 c3 b3; rw [List.nil_append] at o3; have d3 : Chg none' w w3 := d2.trans' c3 fun i hi e => (by simp [ownOf, Value.ownBlock] at e); have k3 : Recs (old' w) w3 v ys := k2.kept c3 fun b hb e => (by simp [ownOf, Value.ownBlock] at e); have h3 : Recs (old' w) w3 u xs := h2.kept c3 fun b hb e => (by simp [ownOf, Value.ownBlock] at e); have e3 := e1.keep c3 fun b hb e => (by simp [ownOf, Value.ownBlock] at e); have y3 := o2.keep c3 fun b hb e => (by simp [ownOf, Value.ownBlock] at e); have g3 : ∀ b, v3.ownBlock = some b → w2.heap.size ≤ b := fun b hb => (b3 b hb).elim (fun e => (by simp [Value.ownBlock] at e)) id)
    | (at_builtin; refine wpList_appRG rfl (.tmp 35) (.tmp 36) rfl o3 k3.src (fun _ => id) (fun b hb e => by have := (o3.base_ b e).1; unfold old' at hb; omega) rfl rfl (by omega) d3.size ?_; intro v4 w4 o4 c4 b4))
  have e4 := e3.keep c4 fun b hb e => by have := g3 b e; have := e1.lt b hb; omega
  have y4 := y3.keep c4 fun b hb e => by have := g3 b e; have := o2.lt b hb; omega
  have d4 : Chg none' w w4 := d3.trans' c4 fun i hi e => by have := (o3.base_ i e).1; omega
  go_wp2_with fail
  go_at_call 18
  refine (A3 _ _ o4.own.recs.old).mono ?_
  rintro e w5 ⟨x5, rfl, o5, c5⟩
  have q5 := o4.keep c5 (fun _ _ => id) (fun _ _ => id)
  have e5 := e4.keep c5 fun _ => none_own
  have y5 := y4.keep c5 fun _ => none_own
  have d5 := d4.trans c5
  go_wp2_with (at_builtin; refine wpList_appB rfl (.tmp 43) (.tmp 44) rfl e5 y5.bytes rfl rfl (by omega) d5.size ?_; intro v6 w6 o6 c6 b6; rw [← HF.out] at o6)
  have q6 := q5.keep c6 (fun b hb e => by
    have := e1.lt b e
    rcases b4 b hb with q | q
    · have := g3 b q; omega
    · have := d3.size; have := c4.size; have := c3.size; omega) (fun b hb e => by have := e1.base_ b e; unfold old' at hb; omega)
  have d6 : Chg none' w w6 := d5.trans' c6 fun i hi e => by have := e1.base_ i e; omega
  have z5 := o5.keep c6 fun b hb e => by have := e1.lt b e; have := o5.base_ b hb; have := c4.size; have := c3.size; omega
  obtain ⟨Ax, cx, rfl⟩ := o6.shape
  go_wp2_with fail
  go_at_call 11
  refine (A4 _ _ o6.bytes.old).mono ?_
  rintro e w7 ⟨x7, rfl, o7, c7⟩
  have q7 := q6.keep c7 (fun _ _ => id) (fun _ _ => id)
  go_wp2_with fail
  go_at_call 16
  refine (w_same00 _ (o6.keep c7 fun _ => none_own).bytes (z5.keep c7 fun _ => none_own).bytes).mono ?_
  rintro e w8 ⟨rfl, rfl⟩
  rw [beq_self_eq_true]
  have lz : ((m : Int) + (n : Int) == (fz.length : Int)) = true := by have := F3.out; rw [beq_iff_eq]; omega
  go_wp2_with fail
  go_at_call 22
  refine (S1 _ _ _ o7.recs q7.own.recs).mono ?_
  rintro e w9 ⟨rfl, c9⟩
  go_wp2_with fail
  go_at_call 10
  refine (w_known05 _).mono ?_
  rintro e w10 ⟨rfl, c10⟩
  go_wp2
  go_ret
  exact ⟨rfl, ((d6.trans c7).trans c9).trans c10⟩

end Go.Proofs.Ytpknkkkdohgedaa
