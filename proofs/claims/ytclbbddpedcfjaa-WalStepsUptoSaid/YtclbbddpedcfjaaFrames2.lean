/-
  Plain laws of frames: the frames of a begin of a row.
-/
import Derived.Test.YtclbbddpedcfjaaFrames
namespace Go.Proofs.Ytclbbddpedcfjaa

theorem long_take {rs : List Rec} {k : Nat} (h : k < rs.length) : long (rs.take (k + 1)) = long (rs.take k) + 10 + rs[k].b.length := by
  rw [← List.take_append_getElem h, long_append]
  simp [long]
  omega
theorem long_le (rs : List Rec) (k : Nat) : long (rs.take k) ≤ long rs := by
  have h := long_append (rs.take k) (rs.drop k)
  rw [List.take_append_drop] at h
  omega

theorem frames_take {rs : List Rec} {k : Nat} (h : k < rs.length) : frames (rs.take (k + 1)) = frames (rs.take k) ++ frame rs[k] := by
  rw [← List.take_append_getElem h, frames_append]
  simp [frames]

end Go.Proofs.Ytclbbddpedcfjaa
