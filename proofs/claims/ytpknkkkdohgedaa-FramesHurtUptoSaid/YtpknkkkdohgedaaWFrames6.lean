/-
  Walks: what the examples of chapter 05 fix.
-/
import Derived.Test.YtpknkkkdohgedaaWFrames5
namespace Go.Proofs.Ytpknkkkdohgedaa
open Go.RowKit

noncomputable def nextKind (bs : List UInt8) : UInt8 := if nextErr bs = 0 then (nextRec bs).kind else 0
noncomputable def nextB (bs : List UInt8) : List UInt8 := if nextErr bs = 0 then (nextRec bs).b else []
noncomputable def nextN (bs : List UInt8) : Nat := if nextErr bs = 0 then nextLen bs + 10 else 0
theorem NextOut.open_ {bs : List UInt8} {base : Nat} {e : Ending} {w : World} (h : NextOut bs base e w) :
    ∃ u, e = .returned (.tuple #[vb (nextKind bs), u, .int .i64 (nextN bs : Nat), .int .i64 (nextErr bs : Nat)]) ∧ Bytes all' w u (nextB bs) := by
  unfold nextKind nextB nextN
  rcases h with ⟨h, u, rfl, ho⟩ | ⟨h, rfl⟩
  · rw [if_pos h, if_pos h, if_pos h, h]; exact ⟨u, rfl, ho.bytes.all⟩
  · rw [if_neg h, if_neg h, if_neg h]; exact ⟨_, rfl, Row.nil⟩
theorem bytes_nil (w : World) : Bytes (old' w) w (.slice none 0 0) [] := Row.nil
theorem w_one7 (w : World) : Calls Try.prog 20 #[.int .u8 7, .slice none 0 0] w fun e w' => ∃ u, e = .returned (.tuple #[u, .int .i64 0]) ∧ OwnB w.heap.size w' u (frame ⟨7, []⟩) ∧ Chg none' w w' :=
  w_one (r := ⟨7, []⟩) w (bytes_nil w) (by decide)
theorem w_next_nil (w : World) : Calls Try.prog 13 #[.slice none 0 0] w fun e w' => e = .returned (.tuple #[.int .u8 0, .slice none 0 0, .int .i64 0, .int .i64 4]) ∧ Chg none' w w' := by
  refine (w_next w (bytes_nil w) (by decide)).mono ?_
  rintro e w' ⟨h, c⟩
  have h4 : nextErr [] = 4 := nextErr_four.2 rfl
  rcases h with ⟨h, _⟩ | ⟨_, rfl⟩
  · omega
  · rw [h4]; exact ⟨rfl, c⟩

set_option maxRecDepth 100000 in
set_option maxHeartbeats 1000000 in
theorem w_known05 (w : World) :
    Calls Try.prog 10 #[] w fun e w' => e = .returned (.bool true) ∧ Chg none' w w' := by
  go_enter Try.func10, Try.ntmps10
  go_wp2_with fail
  refine (w_one7 _).mono ?_
  rintro e w1 ⟨u, rfl, ou, c1⟩
  have hfl : (frame ⟨7, []⟩).length = 10 := by rw [frame_len]; rfl
  obtain ⟨g, cap, cur, rfl, hg0, hg1, hh, hl, hm, hs, hc⟩ := ou.form (by omega)
  rw [hfl] at hl ou
  clear hc hs hh hm
  go_wp2_with fail
  refine (w_next_nil _).mono ?_
  rintro e w2 ⟨rfl, c2⟩
  have hb : Bytes all' w2 (.slice (some ⟨g, 0, none⟩) 6 cap) [165, 7, 0, 0, 0, 0] := by
    have h1 := ou.bytes
    rw [← hfl] at h1
    exact (h1.hi_ (j := 6) (by omega)).all.kept c2 fun _ _ => id
  have hl6 : (6 : Int) ≤ cap := by omega
  have hfl' : ((frame ⟨7, []⟩).length : Int) = 10 := by omega
  go_wp2_with fail
  refine (w_same00 _ (hb.alloc _) (bytes_const (bs := [165, 7, 0, 0, 0, 0]) rfl (by decide) rfl)).mono ?_
  rintro e w3 ⟨rfl, rfl⟩
  go_wp2
  go_ret
  exact ⟨rfl, (c1.trans c2).alloc _⟩

end Go.Proofs.Ytpknkkkdohgedaa
