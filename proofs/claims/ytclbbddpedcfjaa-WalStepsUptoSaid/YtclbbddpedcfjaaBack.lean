/-
  slices.Backward over a row of records: its contract for a range over a function.
-/
import Derived.Test.YtclbbddpedcfjaaLog3
import Derived.RangeFuncNested
import Derived.RangeFuncBound
import Derived.RangeFuncCalls
import Derived.RangeFuncLeaves
import Derived.RangeFuncBox
import Derived.Shelf.Abstract
import Derived.Shelf.RegionOpen
import Derived.OwnWalkIn
import Derived.TacticsInMore
import Derived.LoopNIn
import Derived.LoopIn
namespace Go.Proofs.Ytclbbddpedcfjaa
open Go.RowKit Go.Shelf

attribute [local go_sem] Oper.semAt_some

/-- What comes: an index; and what is handed on there. -/
abbrev Ix (len : Nat) := { j : Nat // j < len }
def encE (E : Nat → UInt8 × Value) {len : Nat} (x : Ix len) : Array Value := #[.int .i64 (x.1 : Int), .agg #[vb (E x.1).1, (E x.1).2]]
/-- The indexes that have come when k rounds are over, from behind. -/
def idxs (len k : Nat) : List Nat := (List.range k).map fun j => len - 1 - j
theorem idxs_succ (len k : Nat) : idxs len (k + 1) = idxs len k ++ [len - 1 - k] := by simp [idxs, List.range_succ]
theorem idxs_length (len k : Nat) : (idxs len k).length = k := by simp [idxs]

set_option maxRecDepth 100000 in
set_option maxHeartbeats 2000000 in
theorem back1_in (F : Fence) (n : Nat) (h8 : F.fn 56) (hro : F.round = none) (hn : 1 ≤ n) (l Bs n₀ b off len cap : Nat) (E : Nat → UInt8 × Value) (hreach : len ≤ 1000000000000) (hb : b < n₀) (hBn : Bs < n₀) (J Jx : List (Ix len) → World → Prop)
    (hY : ∀ pre x W, J pre W → pre.length < len → YieldAt F (n - 1) Try.prog l (encE E x) W fun e W' =>
      (e = .returned (.bool true) ∧ J (pre ++ [x]) W' ∧ Below n₀ W W') ∨ (e = .returned (.bool false) ∧ Jx (pre ++ [x]) W'))
    (W : World) (hBs : W.cell? ⟨Bs, 0, none⟩ = some (.slice (some ⟨b, off, none⟩) len cap)) (hc : ∀ j, j < len → W.cell? ⟨b, off + j * 2, none⟩ = some (vb (E j).1) ∧ W.cell? ⟨b, off + j * 2 + 1, none⟩ = some (E j).2) (h1c : ∀ j, j < len → (E j).2.oneCell' = true) (h0 : J [] W) :
    CallsIn F n Try.prog 56 #[.func (.yield l) #[] #[], .pointer (some ⟨Bs, 0, none⟩)] W fun e W' => (∃ v, e = .returned v) ∧
      ((∃ ys : List (Ix len), ys.map (·.1) = idxs len len ∧ J ys W') ∨ (∃ pre : List (Ix len), (∃ k, k ≤ len ∧ pre.map (·.1) = idxs len k) ∧ Jx pre W')) := by
  refine callsIn_of_wp Try.func56 rfl h8 ?_ hro
  simp only [Try.ntmps56, List.size_toArray, List.length_cons, List.length_nil, Nat.reduceAdd, Nat.reduceSub, Array.replicate_succ, Array.replicate_zero, List.push_toArray, List.append_toArray, List.nil_append, List.cons_append]
  gi_wp2
  gi_loopw [3] (fun i wr => ∃ m : Nat, m ≤ len ∧ i = .int .i64 ((m : Int) - 1) ∧ (∃ pre : List (Ix len), pre.map (·.1) = idxs len (len - m) ∧ J pre wr) ∧ Below n₀ W wr)
    (fun i _ => (intOf i + 1).toNat)
  case atStart => exact ⟨len, Nat.le_refl _, by simp, ⟨[], by simp [idxs], h0⟩, Below.refl _ _⟩
  case round =>
    obtain ⟨m, hm, rfl, ⟨pre, hpre, hJs⟩, hnx⟩ := hrel
    have hbx := (hnx.cell (p := ⟨Bs, 0, none⟩) hBn).trans hBs
    cases m with
    | zero =>
      simp only [Nat.sub_zero] at hpre
      rw [show (((0 : Nat) : Int) - 1) = -1 from rfl]
      gi_wp2
      go_end0
      exact ⟨⟨_, rfl⟩, .inl ⟨_, hpre, hJs⟩⟩
    | succ m =>
      rw [show (((m + 1 : Nat) : Int) - 1) = m by omega]
      obtain ⟨c0, c1⟩ := hc m (by omega)
      replace c0 := (hnx.cell (p := ⟨b, off + m * 2, none⟩) hb).trans c0
      replace c1 := (hnx.cell (p := ⟨b, off + m * 2 + 1, none⟩) hb).trans c1
      obtain ⟨fn, tmps, assign, body, hy, hR⟩ := hY pre ⟨m, by omega⟩ wr hJs (by have := congrArg List.length hpre; rw [idxs_length, List.length_map] at this; omega)
      dsimp only [encE] at hy
      have hlm : (m : Int) < len := by omega
      have hsucc : ∀ hl, (pre ++ [(⟨m, hl⟩ : Ix len)]).map (·.1) = idxs len (len - m) := fun hl => by
        rw [List.map_append, hpre, show len - m = (len - (m + 1)) + 1 by omega, idxs_succ, show len - 1 - (len - (m + 1)) = m by omega]
        rfl
      have HS := Lib.hid hsucc
      clear hsucc hpre
      gi_wp2
      refine hR.mono ?_
      rintro e W3 (⟨rfl, hJ3, hk3⟩ | ⟨rfl, hJx3⟩)
      · gi_wp2
        go_roundw
        case rel => exact ⟨m, by omega, rfl, ⟨_, HS.out _, hJ3⟩, hnx.trans hk3⟩
        case measure => simp [intOf]
      · gi_wp2
        refine bodyPost_ret (results_none rfl _ _ _) rfl ?_
        exact ⟨⟨_, rfl⟩, .inr ⟨_, ⟨len - m, by omega, HS.out _⟩, hJx3⟩⟩

set_option maxRecDepth 100000 in
set_option maxHeartbeats 1000000 in
theorem back1_nil_in (F : Fence) (n : Nat) (h8 : F.fn 56) (hro : F.round = none) (l Bs : Nat) (J : List (Ix 0) → World → Prop) (W : World) (hBs : W.cell? ⟨Bs, 0, none⟩ = some (.slice none 0 0)) (h0 : J [] W) :
    CallsIn F n Try.prog 56 #[.func (.yield l) #[] #[], .pointer (some ⟨Bs, 0, none⟩)] W fun e W' => (∃ v, e = .returned v) ∧ J [] W' := by
  refine callsIn_of_wp Try.func56 rfl h8 ?_ hro
  simp only [Try.ntmps56, List.size_toArray, List.length_cons, List.length_nil, Nat.reduceAdd, Nat.reduceSub, Array.replicate_succ, Array.replicate_zero, List.push_toArray, List.append_toArray, List.nil_append, List.cons_append]
  gi_wp2
  gi_loopw [3] (fun i wr => i = .int .i64 (-1) ∧ J [] wr) (fun _ _ => 0)
  case atStart => exact ⟨rfl, h0⟩
  case round =>
    obtain ⟨rfl, hJs⟩ := hrel
    gi_wp2
    go_end0
    exact ⟨⟨_, rfl⟩, hJs⟩

set_option maxHeartbeats 1000000 in
theorem back_in (F : Fence) (n : Nat) (h5 : F.fn 46) (hro : F.round = none) (a : Option Addr) (len cap : Nat) (w : World) :
    CallsIn F n Try.prog 46 #[.slice a len cap] w fun e w' => e = .returned (.func (.func 56) #[] #[.pointer (some ⟨w.heap.size, 0, none⟩)]) ∧ w' = w.alloc (.cells #[.slice a len cap] 30) := by
  refine callsIn_of_wp Try.func46 rfl h5 ?_ hro
  simp only [Try.ntmps46, List.size_toArray, List.length_cons, List.length_nil, Nat.reduceAdd, Nat.reduceSub, Array.replicate_succ, Array.replicate_zero, List.push_toArray, List.append_toArray, List.nil_append, List.cons_append]
  gi_wp2
  go_ret
  exact ⟨rfl, rfl⟩

/-- What 'slices.Backward' hands back keeps the contract of a range over a function. -/
theorem back_stops (F : Fence) (n : Nat) (h8 : F.fn 56) (hro : F.round = none) (hn : 1 ≤ n) (Bs n₀ : Nat) (A : Option Addr) (len cap : Nat) (E : Nat → UInt8 × Value) (hreach : len ≤ 1000000000000) (w : World) (hBn : Bs < n₀) (hn₀ : n₀ ≤ w.heap.size)
    (hBs : w.cell? ⟨Bs, 0, none⟩ = some (.slice A len cap)) (hI : (A = none ∧ len = 0 ∧ cap = 0) ∨ ∃ b off, A = some ⟨b, off, none⟩ ∧ b < n₀ ∧ ∀ j, j < len → w.cell? ⟨b, off + j * 2, none⟩ = some (vb (E j).1) ∧ w.cell? ⟨b, off + j * 2 + 1, none⟩ = some (E j).2) (h1c : ∀ j, j < len → (E j).2.oneCell' = true) :
    SeqStopsK F n Try.prog 56 #[.pointer (some ⟨Bs, 0, none⟩)] (encE E (len := len)) (Below n₀) (fun ys => ys.map (·.1) = idxs len len) (fun pre => ∃ k, k ≤ len ∧ pre.map (·.1) = idxs len k) len w := fun l J Jx W hW _ _ hY h0 => by
  have hc' := (hW.cell (p := ⟨Bs, 0, none⟩) (Nat.lt_of_lt_of_le hBn hn₀)).trans hBs
  rcases hI with ⟨rfl, rfl, rfl⟩ | ⟨b, off, rfl, hb, hcs⟩
  · exact (back1_nil_in F n h8 hro l Bs J W hc' h0).mono fun e W' ⟨he, hj⟩ => ⟨he, .inl ⟨[], by simp [idxs], hj⟩⟩
  · exact back1_in F n h8 hro hn l Bs n₀ b off len cap E hreach hb hBn J Jx hY W hc' (fun j hj => ⟨(hW.cell (p := ⟨b, off + j * 2, none⟩) (Nat.lt_of_lt_of_le hb hn₀)).trans (hcs j hj).1, (hW.cell (p := ⟨b, off + j * 2 + 1, none⟩) (Nat.lt_of_lt_of_le hb hn₀)).trans (hcs j hj).2⟩) h1c h0

end Go.Proofs.Ytclbbddpedcfjaa
