/-
  Walks: what the example of chapter 07 fixes.
-/
import Derived.Test.YtclbbddpedcfjaaLog6
import Derived.Test.YtclbbddpedcfjaaWFrames5
namespace Go.Proofs.Ytclbbddpedcfjaa
open Go.RowKit

def lgA : Lg := wapp ⟨⟨[], [], 0⟩, [], 0⟩ 1 [[97]]
def lgC : Lg := wapp (wsync lgA) 1 [[98], [99]]
theorem frames1 (b : List UInt8) : frames (recsOf 1 [b]) = frame ⟨1, b⟩ := by simp [recsOf, frames]
theorem lgA_L : (wsync lgA).d.L = frame ⟨1, [97]⟩ := by simp [wsync, lgA, wapp, dsync, dapp, frames1]
theorem wappA : wappE ⟨⟨[], [], 0⟩, [], 0⟩ 1 [[97]] = (lgA, 0) := wappE_ok (by decide) (by simp) (by rw [frames1, frame_len]; decide)
theorem wappC : wappE (wsync lgA) 1 [[98], [99]] = (lgC, 0) := wappE_ok (by decide) (by simp) (by rw [lgA_L, frame_len, frames_len]; decide)
theorem crashC : wopen (dcrash lgC.d 11) = ⟨⟨frames [⟨1, [97]⟩, ⟨1, [98]⟩], [], 1⟩, [⟨1, [97]⟩, ⟨1, [98]⟩], 2⟩ := by
  have hn : (dcrash lgC.d 11).n = 1 := by
    have hl : (frame ⟨1, [97]⟩).length = 11 := by rw [frame_len]; rfl
    have ht : lgA.d.T = frame ⟨1, [97]⟩ := by simp [lgA, wapp, dapp, frames1]
    have hn0 : lgA.d.n = 0 := rfl
    show (dsync lgA.d).n = 1
    unfold dsync
    simp only
    rw [if_neg (by rw [ht, hl]; decide), hn0]
  have e : (dcrash lgC.d 11).L ++ (dcrash lgC.d 11).T = frames [⟨1, [97]⟩, ⟨1, [98]⟩] := by
    have h1 : lgC.d.L = frame ⟨1, [97]⟩ := lgA_L
    have h2 : lgC.d.T = frame ⟨1, [98]⟩ ++ frame ⟨1, [99]⟩ := by
      have : (wsync lgA).d.T = [] := rfl
      show (wsync lgA).d.T ++ frames (recsOf 1 [[98], [99]]) = _
      rw [this]
      simp [recsOf, frames]
    unfold dcrash
    simp only
    rw [h1, h2, List.append_nil, List.take_left' (by rw [frame_len]; rfl)]
    simp [frames]
  rw [wopen_frames e (fun r hr => by simp at hr; rcases hr with rfl | rfl <;> decide), hn]
  rfl

set_option maxRecDepth 100000 in
set_option maxHeartbeats 4000000 in
theorem w_known07 (w : World) :
    Calls Try.prog 10 #[] w fun e w' => e = .returned (.bool true) ∧ Chg none' w w' := by
  have kc := fun (w : World) (C : Array Value) (n c : Nat) => Lib.run_convert_bytes_const (P := Try.prog) w 23 5 C n c Try.underlying23 Try.underlying5
  go_enter Try.func10, Try.ntmps10
  go_wp2_with fail
  refine (w_wnew _).mono ?_
  rintro e w1 ⟨g, F1, rfl, h1, x1, c1⟩
  have cA : Chg none' w1 ((w1.alloc (.cells #[.int .u8 97] 5 (1, 2))).alloc (.cells #[.slice (some ⟨w1.heap.size, 0, none⟩) 1 1] 23)) := ((Chg.refl _ _).alloc _).alloc _
  have b1 : Bytes (fun b => w1.heap.size ≤ b) (w1.alloc (.cells #[.int .u8 97] 5 (1, 2))) (.slice (some ⟨w1.heap.size, 0, none⟩) 1 1) [97] := bytes_constG (bs := [97]) (n := 1) rfl (by decide) rfl (Nat.le_refl _) rfl
  have r1 := rows_lit1G (g := w1.heap.size + 1) (t := 23) b1 (by simp) (by simp)
  have K1 := show Calls Try.prog 12 #[.pointer (some ⟨g, 0, none⟩), .int .u8 1, .slice (some ⟨w1.heap.size + 1, 0, none⟩) 1 1] ((w1.alloc (.cells #[.int .u8 97] 5 (1, 2))).alloc (.cells #[.slice (some ⟨w1.heap.size, 0, none⟩) 1 1] 23)) _ from w_wappend (h1.keep0 cA) 1 r1 (fun b hb hf => by have := h1.flt b hf; omega) (by simp) (by simp)
  rw [wappA, show ((0 : Nat) : Int) = 0 from rfl] at K1
  go_wp2_with fail
  ((with_reducible refine K1.mono ?_))
  rintro e w2 ⟨F2, rfl, h2, x2, c2⟩
  clear K1 b1 r1
  have d2 := (c1.trans cA).ext (fun b hb => x1 b hb) c2
  have y2 := x1.trans x2 (c1.trans cA).size
  have K2 := w_wsync h2 (by decide)
  go_wp2_with fail
  ((with_reducible refine K2.mono ?_))
  rintro e w3 ⟨F3, rfl, h3, x3, c3⟩
  clear K2
  have d3 := d2.ext y2 c3
  have y3 := y2.trans x3 d2.size
  have kc2 := kc (w3.alloc (.cells #[.int .u8 98] 5 (1, 2))) #[.int .u8 99] 1 1
  rw [show (w3.alloc (.cells #[.int .u8 98] 5 (1, 2))).heap.size = w3.heap.size + 1 by simp] at kc2
  have cB : Chg none' w3 (((w3.alloc (.cells #[.int .u8 98] 5 (1, 2))).alloc (.cells #[.int .u8 99] 5 (1, 2))).alloc (.cells #[.slice (some ⟨w3.heap.size, 0, none⟩) 1 1, .slice (some ⟨w3.heap.size + 1, 0, none⟩) 1 1] 23)) := (((Chg.refl _ _).alloc _).alloc _).alloc _
  have b1 : Bytes (fun b => w3.heap.size ≤ b) ((w3.alloc (.cells #[.int .u8 98] 5 (1, 2))).alloc (.cells #[.int .u8 99] 5 (1, 2))) (.slice (some ⟨w3.heap.size, 0, none⟩) 1 1) [98] := (bytes_constG (bs := [98]) (n := 1) rfl (by decide) rfl (Nat.le_refl _)).alloc _
  have b2 : Bytes (fun b => w3.heap.size ≤ b) ((w3.alloc (.cells #[.int .u8 98] 5 (1, 2))).alloc (.cells #[.int .u8 99] 5 (1, 2))) (.slice (some ⟨w3.heap.size + 1, 0, none⟩) 1 1) [99] := bytes_constG (bs := [99]) (n := 1) rfl (by decide) rfl (by simp) (by simp)
  have r1 := rows_lit2G (g := w3.heap.size + 1 + 1) (t := 23) b1 b2 (by simp; omega) (by simp)
  have K3 := show Calls Try.prog 12 #[.pointer (some ⟨g, 0, none⟩), .int .u8 1, .slice (some ⟨w3.heap.size + 1 + 1, 0, none⟩) 2 2] (((w3.alloc (.cells #[.int .u8 98] 5 (1, 2))).alloc (.cells #[.int .u8 99] 5 (1, 2))).alloc (.cells #[.slice (some ⟨w3.heap.size, 0, none⟩) 1 1, .slice (some ⟨w3.heap.size + 1, 0, none⟩) 1 1] 23)) _ from w_wappend (h3.keep0 cB) 1 r1 (fun b hb hf => by have := h3.flt b hf; omega) (by simp) (by simp)
  rw [wappC, show ((0 : Nat) : Int) = 0 from rfl] at K3
  go_wp2_with fail
  ((with_reducible refine K3.mono ?_))
  rintro e w4 ⟨F4, rfl, h4, x4, c4⟩
  clear K3 b1 b2 r1 kc2
  have d4 := (d3.trans cB).ext y3 c4
  have K4 := w_wcrash h4 11
  rw [crashC, show ((11 : Nat) : Int) = 11 from rfl] at K4
  go_wp2_with fail
  ((with_reducible refine K4.mono ?_))
  rintro e w5 ⟨g5, F5, rfl, h5, x5, c5⟩
  clear K4
  have h45 := h4.keep0 c5
  go_wp2_with fail
  refine (w_wopen_nil _).mono ?_
  rintro e w6 ⟨rfl, rfl⟩
  go_wp2_with fail
  refine (w_wrecords h5).mono ?_
  rintro e w6 ⟨v6, rfl, o6, c6⟩
  have h46 := h45.keep0 c6
  have kc3 := kc (w6.alloc (.cells #[.int .u8 97] 5 (1, 2))) #[.int .u8 98] 1 1
  rw [show (w6.alloc (.cells #[.int .u8 97] 5 (1, 2))).heap.size = w6.heap.size + 1 by simp] at kc3
  have b1 : Bytes all' ((w6.alloc (.cells #[.int .u8 97] 5 (1, 2))).alloc (.cells #[.int .u8 98] 5 (1, 2))) (.slice (some ⟨w6.heap.size, 0, none⟩) 1 1) [97] := (bytes_constG (bs := [97]) (n := 1) rfl (by decide) rfl trivial).alloc _
  have b2 : Bytes all' ((w6.alloc (.cells #[.int .u8 97] 5 (1, 2))).alloc (.cells #[.int .u8 98] 5 (1, 2))) (.slice (some ⟨w6.heap.size + 1, 0, none⟩) 1 1) [98] := bytes_constG (bs := [98]) (n := 1) rfl (by decide) rfl trivial (by simp)
  have rl := recs_lit2 (r := ⟨1, [97]⟩) (q := ⟨1, [98]⟩) (t := 35) (g := w6.heap.size + 1 + 1) b1 b2 (by simp)
  have cC : Chg none' w6 (((w6.alloc (.cells #[.int .u8 97] 5 (1, 2))).alloc (.cells #[.int .u8 98] 5 (1, 2))).alloc (.cells #[.int .u8 1, .slice (some ⟨w6.heap.size, 0, none⟩) 1 1, .int .u8 1, .slice (some ⟨w6.heap.size + 1, 0, none⟩) 1 1] 35)) := (((Chg.refl _ _).alloc _).alloc _).alloc _
  have KS := w_rsame _ (o6.keep cC (fun _ _ => id) (fun _ _ => id)).own.recs rl
  rw [decide_eq_true rfl] at KS
  go_wp2_with fail
  refine KS.mono ?_
  rintro e w7 ⟨rfl, c7⟩
  clear KS rl b1 b2 kc3
  have h47 := (h46.keep0 cC).keep0 c7
  have KP := w_wpending h47
  rw [show ((lgC.l.length : Int) - lgC.last) = 2 from rfl] at KP
  go_wp2_with fail
  refine KP.mono ?_
  rintro e w8 ⟨rfl, c8⟩
  go_wp2
  go_ret
  exact ⟨rfl, ((((d4.trans c5).trans c6).trans cC).trans c7).trans c8⟩

end Go.Proofs.Ytclbbddpedcfjaa
