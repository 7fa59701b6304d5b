/-
  The walk of FramesScans.
-/
import Derived.Test.YtpknkkkdohgedaaWFrames6
import Derived.Test.YtpknkkkdohgedaaOpen
namespace Go.Proofs.Ytpknkkkdohgedaa
open Go.RowKit

set_option maxRecDepth 100000 in
set_option maxHeartbeats 4000000 in
theorem walk_FramesScans (w : World) {v : Value} {bs : List UInt8} (h : Bytes (old' w) w v bs) (hr0 : bs.length ≤ 140737488351232) :
    Calls Try.prog 3 #[v] w fun e w' => e = .returned (.bool true) ∧ Chg none' w w' := by
  have hr : bs.length ≤ 140737488355328 := by omega
  obtain ⟨A, c, rfl⟩ := h.shape
  by_cases hlen : 1500 < bs.length
  · go_enter Try.func3, Try.ntmps3
    go_wp2_with fail
    refine (w_known05 _).mono ?_
    rintro e w1 ⟨rfl, c1⟩
    go_wp2
    go_ret
    exact ⟨rfl, c1⟩
  go_enter Try.func3, Try.ntmps3
  go_wp2_with fail
  go_at_call 11
  refine (w_scan _ h (by omega)).mono ?_
  rintro e w1 ⟨u1, rfl, o1, c1⟩
  have h1 := h.kept c1 fun _ _ => id
  go_wp2_with fail
  go_at_call 12
  refine (w_rscan _ _ (Nat.le_refl _) h1.old (by omega)).mono ?_
  rintro e w2 ⟨u2, rfl, o2, c2⟩
  have h2 := h1.kept c2 fun _ _ => id
  generalize scan bs = sc at *
  obtain ⟨l, at', why⟩ := sc
  simp only at o1 o2
  go_wp2_with fail
  go_at_call 13
  refine (w_next _ h2.old hr).mono ?_
  rintro e w3 ⟨n1, c3⟩
  have h3 := h2.kept c3 fun _ _ => id
  obtain ⟨x1, rfl, hx1⟩ := n1.open_
  go_wp2_with fail
  go_at_call 14
  refine (w_rnext _ h3.old hr).mono ?_
  rintro e w4 ⟨n2, c4⟩
  obtain ⟨x2, rfl, hx2⟩ := n2.open_
  clear n1 n2
  generalize nextKind bs = kk at *
  generalize nextB bs = bb at *
  generalize nextN bs = nn at *
  generalize nextErr bs = ee at *
  have r1 := ((o1.keep c2).keep c3).keep c4
  have r2 := (o2.keep c3).keep c4
  have hx1' := hx1.kept c4 fun _ _ => id
  go_wp2_with fail
  go_at_call 15
  refine (w_rsame _ r1.recs r2.recs).mono ?_
  rintro e w5 ⟨rfl, c5⟩
  go_wp2_with fail
  go_at_call 16
  refine (w_same00 _ (hx1'.kept c5 fun _ _ => id) (hx2.kept c5 fun _ _ => id)).mono ?_
  rintro e w6 ⟨rfl, rfl⟩
  go_wp2_with fail
  go_at_call 10
  refine (w_known05 _).mono ?_
  rintro e w7 ⟨rfl, c7⟩
  go_wp2_with fail
  go_ret
  exact ⟨rfl, ((((c1.trans c2).trans c3).trans c4).trans c5).trans c7⟩

end Go.Proofs.Ytpknkkkdohgedaa
