/-
  How much things have in them, exactly, under the upper bound; how long a log's records are.
-/
import Derived.Test.YtclbbddpedcfjaaLog8
namespace Go.Proofs.Ytclbbddpedcfjaa
open Go.RowKit

def rsum (l : List (List UInt8)) : Nat := (l.map fun b => b.length + 10).sum
theorem rsum_take {l : List (List UInt8)} {j : Nat} (h : j < l.length) : rsum (l.take (j + 1)) = rsum (l.take j) + (l[j].length + 10) := by
  unfold rsum
  rw [← List.take_append_getElem h, List.map_append, List.sum_append]
  simp
theorem rsum_le (l : List (List UInt8)) (k : Nat) : rsum (l.take k) ≤ rsum l := by
  conv => rhs; rw [← List.take_append_drop k l]
  unfold rsum
  rw [List.map_append, List.sum_append]
  omega
theorem long7_le (l : List Do7) (k : Nat) : long7 (l.take k) ≤ long7 l := by
  conv => rhs; rw [← List.take_append_drop k l]
  unfold long7
  rw [List.map_append, List.sum_append]
  omega
theorem rsum_bulk (l : List (List UInt8)) : rsum l ≤ 10 * (l.map fun b => b.length + 1).sum := by
  unfold rsum
  induction l with
  | nil => simp
  | cons b r ih => simp only [List.map_cons, List.sum_cons]; omega
theorem long7_bulk (l : List Do7) : long7 l ≤ 10 * (l.map wt7).sum := by
  unfold long7
  induction l with
  | nil => simp
  | cons x r ih =>
    have := rsum_bulk x.r
    unfold rsum at this
    simp only [List.map_cons, List.sum_cons, lng7, wt7] at *
    omega

set_option maxRecDepth 100000 in
set_option maxHeartbeats 4000000 in
theorem w_long07x {F : Nat → Prop} {v : Value} {xs : List Do7} (w : World) (h : Do7s F w v xs) (hb : (xs.map wt7).sum + 1 ≤ 1048576) :
    Calls Try.prog 18 #[v] w fun e w' => e = .returned (.int .i64 ((long7 xs : Nat) : Int)) ∧ w = w' := by
  obtain ⟨A, c, rfl, _, hm⟩ := h.shape
  unfold maxLen at hm
  have hbulk := long7_bulk xs
  go_enter Try.func18, Try.ntmps18
  go_wp2
  go_loop [3, 4] (fun nv iv => ∃ k : Nat, k ≤ xs.length ∧ iv = .int .i64 k ∧ nv = .int .i64 ((long7 (xs.take k) : Nat) : Int)) (fun _ i => xs.length - (intOf i).toNat)
  case atStart => exact ⟨0, Nat.zero_le _, rfl, rfl⟩
  case round =>
    obtain ⟨k, hk, rfl, rfl⟩ := hrel
    by_cases hlt : k < xs.length
    · obtain ⟨b1, o1, c1', u1, e1, _, ck0, ck1, cu1, ck3, hu1⟩ := h.at_ hlt
      simp only [Value.slice.injEq] at e1
      obtain ⟨rfl, _, rfl⟩ := e1
      obtain ⟨Au, cu, rfl, _, hmu⟩ := hu1.shape
      unfold maxLen at hmu
      have hlk : (k : Int) < xs.length := by omega
      have hl7 := long7_le xs (k + 1)
      have E := Lib.hid (long7_take hlt)
      rw [E.out] at hl7
      unfold lng7 at hl7
      change _ + (rsum xs[k].r + 1) ≤ _ at hl7
      have E2 := Lib.hid (show lng7 xs[k] = rsum xs[k].r + 1 from rfl)
      generalize long7 (xs.take k) = M at *
      go_wp2
      go_loop [3, 5] (fun nv iv => ∃ j : Nat, j ≤ xs[k].r.length ∧ iv = .int .i64 j ∧ nv = .int .i64 ((M + 1 + rsum (xs[k].r.take j) : Nat) : Int)) (fun _ i => xs[k].r.length - (intOf i).toNat)
      case atStart => exact ⟨0, Nat.zero_le _, rfl, by simp [rsum]⟩
      case round =>
        obtain ⟨j, hj, rfl, rfl⟩ := hrel
        by_cases hjl : j < xs[k].r.length
        · obtain ⟨b2, o2, c2', u2, e2, _, cu2, hu2⟩ := hu1.at_ hjl
          simp only [Value.slice.injEq] at e2
          obtain ⟨rfl, _, rfl⟩ := e2
          obtain ⟨Av, cv, rfl⟩ := hu2.shape
          have E3 := Lib.hid (rsum_take hjl)
          have hj7 := rsum_le xs[k].r (j + 1)
          rw [E3.out] at hj7
          generalize rsum (xs[k].r.take j) = q at *
          generalize (xs[k].r[j]).length = bl at *
          go_wp2
          go_round
          case rel => exact ⟨j + 1, by omega, by go_num, by rw [E3.out]; simp; omega⟩
          case measure => simp [intOf]; omega
        · obtain rfl : j = xs[k].r.length := by omega
          rw [List.take_length]
          go_wp2
          go_round
          case rel => exact ⟨k + 1, by omega, by go_num, by rw [E.out, E2.out]; simp; omega⟩
          case measure => simp [intOf]; omega
    · obtain rfl : k = xs.length := by omega
      rw [List.take_length]
      go_wp2
      go_ret
      exact ⟨rfl, rfl⟩

end Go.Proofs.Ytclbbddpedcfjaa
