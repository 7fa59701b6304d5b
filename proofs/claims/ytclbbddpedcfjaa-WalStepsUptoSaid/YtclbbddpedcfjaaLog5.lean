/-
  What an argument of things that are done to a log reads as; how much they have in them; what is done.
-/
import Derived.Test.YtclbbddpedcfjaaLog4
import Derived.Test.YtclbbddpedcfjaaOpen
import Derived.Lib.SmallJoins
namespace Go.Proofs.Ytclbbddpedcfjaa
open Go.RowKit Go.ChangeShapes

structure Do7 where
  kind : Int
  of : UInt8
  r : List (List UInt8)
  kept : Int
def IsDo7 (F : Nat → Prop) (w : World) (x : Do7) (cs : List Value) : Prop := ∃ u, cs = [.int .i64 x.kind, vb x.of, u, .int .i64 x.kept] ∧ Rows F w u x.r
/-- A slice that reads as things that are done. -/
def Do7s (F : Nat → Prop) (w : World) (v : Value) (xs : List Do7) : Prop := Row 4 (IsDo7 F w) F w v xs
section
variable {F S : Nat → Prop} {w w' : World} {v : Value} {xs : List Do7}
theorem Do7s.kept (h : Do7s F w v xs) (hc : Chg S w w') (hd : ∀ b, F b → ¬ S b) : Do7s F w' v xs :=
  Row.kept h hc hd fun _ _ _ ⟨u, e, hb⟩ => ⟨u, e, hb.kept hc hd⟩
theorem Do7s.shape (h : Do7s F w v xs) : ∃ A c, v = .slice A xs.length c ∧ xs.length ≤ c ∧ c ≤ maxLen := let ⟨A, c, e, h1, h2, _⟩ := h; ⟨A, c, e, h1, h2⟩
theorem Do7s.at_ (h : Do7s F w v xs) {i : Nat} (hi : i < xs.length) :
    ∃ b o c u, v = .slice (some ⟨b, o, none⟩) xs.length c ∧ F b ∧ w.cell? ⟨b, o + i * 4, none⟩ = some (.int .i64 xs[i].kind) ∧ w.cell? ⟨b, o + i * 4 + 1, none⟩ = some (vb xs[i].of) ∧ w.cell? ⟨b, o + i * 4 + 2, none⟩ = some u ∧ w.cell? ⟨b, o + i * 4 + 3, none⟩ = some (.int .i64 xs[i].kept) ∧ Rows F w u xs[i].r := by
  obtain ⟨A, c, rfl, h1, h2, h3, h4⟩ := h
  obtain ⟨b, o, cs, rfl, hF, hb, hl, ⟨u, rfl, hu⟩, hcell⟩ := h4 i xs[i] (by simp [hi])
  exact ⟨b, o, c, u, rfl, hF, by simpa using hcell 0 _ rfl, by simpa using hcell 1 _ rfl, by simpa using hcell 2 _ rfl, by simpa using hcell 3 _ rfl, hu⟩
end

section
variable {H : Type} {enc : TypeId × Value → H} {w : World}
def wt7 (x : Do7) : Nat := (x.r.map fun b => b.length + 1).sum + 5
def In7 (x : Do7) : Prop := x.r.length * 24 ≤ 140737488351232 ∧ ∀ b ∈ x.r, b.length ≤ 140737488351232
def DOf7 (x : Do7) (d : DataW H) : Prop := wt7 x ≤ Rows.uptoBulk d ∧ (Reach 43 d → In7 x)
def Do7sOf (xs : List Do7) (d : DataW H) : Prop := (xs.map wt7).sum + 1 ≤ Rows.uptoBulk d ∧ (Reach 37 d → xs.length * 48 ≤ 140737488351232 ∧ ∀ x ∈ xs, In7 x)

theorem cells_do7 : Try.prog.cellsOf 43 = 4 := by kernel_rfl
theorem bytes_do7 : Try.prog.bytesOf 43 = 48 := by kernel_rfl
theorem cells_int : Try.prog.cellsOf 3 = 1 := by kernel_rfl
theorem cells_rows : Try.prog.cellsOf 22 = 1 := by kernel_rfl
theorem open_int1 {fuel : Nat} {cs : List Value} {y : DataW H × List MemPlace} (h : DataW.trod enc Try.prog w 0 (fun _ => true) true fuel 3 cs = some y) : ∃ x : Int, cs = [.int .i64 x] := by
  obtain ⟨n, rfl, _, wf⟩ := DataW.trod_int Try.underlying3 h
  exact ⟨n, rfl⟩

set_option maxRecDepth 100000 in
theorem open_do7 {fuel : Nat} {cs : List Value} {y : DataW H × List MemPlace} (h : DataW.trod enc Try.prog w 0 (fun _ => true) true fuel 43 cs = some y) :
    ∃ x : Do7, IsDo7 (old' w) w x cs ∧ DOf7 x y.1 := by
  obtain ⟨y0, y1, y2, y3, n, rfl, hl, h0, h1, h2, h3⟩ := Go.Joins.trod_struct4 Try.underlying43 h
  rw [cells_do7] at hl
  match cs, hl with
  | [a, b, c, d], _ =>
    simp only [cells_int, cells_u8, cells_rows, List.drop_zero, List.drop_succ_cons, List.take_succ_cons, List.take_zero] at h0 h1 h2 h3
    obtain ⟨k, hk⟩ := open_int1 h0
    obtain ⟨o, ho⟩ := open_byte h1
    obtain ⟨bs, k1, k2, k3⟩ := open_rows h2
    obtain ⟨q, hq⟩ := open_int1 h3
    unfold IsB at ho
    simp only [List.cons.injEq, and_true] at hk ho hq
    subst hk ho hq
    refine ⟨⟨k, o, bs, q⟩, ⟨c, rfl, k1⟩, ?_, fun hr => ?_⟩
    · have := bulk_one y0.1
      have := bulk_one y1.1
      have := bulk_one y3.1
      unfold wt7
      simp only [Rows.uptoBulk, Rows.uptoBulkAll]
      omega
    · refine k3 fun n hn => hr n ?_
      unfold DataW.weights
      rw [Try.underlying43]
      simp only [List.map_cons, List.map_nil, DataW.weightsEach, List.mem_append]
      exact .inr (.inr (.inl hn))

theorem open_do7s {fuel : Nat} {v : Value} {y : DataW H × List MemPlace} (h : DataW.trod enc Try.prog w 0 (fun _ => true) true fuel 37 [v] = some y) :
    ∃ xs : List Do7, Do7s (old' w) w v xs ∧ Do7sOf xs y.1 := by
  obtain ⟨rs, h1, h2⟩ := open_row (α := Do7) (R := IsDo7 (old' w) w) (Q := DOf7) Try.underlying37 cells_do7 (by decide) h (fun n cs z hz => open_do7 hz)
  refine ⟨rs, h1, h2.bulk _ (fun x d hq => hq.1), fun hr => ?_⟩
  have := h2.reach Try.underlying37 hr In7 (fun x d hq hr' => hq.2 hr')
  rwa [bytes_do7] at this
end

def SomeInt64 (e : Ending) : Prop := ∃ n : Int, e = .returned (.int .i64 n)
set_option maxRecDepth 100000 in
set_option maxHeartbeats 4000000 in
theorem w_long07 {F : Nat → Prop} {v : Value} {xs : List Do7} (w : World) (h : Do7s F w v xs) :
    Calls Try.prog 18 #[v] w fun e w' => SomeInt64 e ∧ w = w' := by
  obtain ⟨A, c, rfl, _, hm⟩ := h.shape
  unfold maxLen at hm
  go_enter Try.func18, Try.ntmps18
  go_wp2
  go_loop [3, 4] (fun nv iv => ∃ k : Nat, k ≤ xs.length ∧ iv = .int .i64 k ∧ ∃ m : Int, nv = .int .i64 m) (fun _ i => xs.length - (intOf i).toNat)
  case atStart => exact ⟨0, Nat.zero_le _, rfl, 0, rfl⟩
  case round =>
    obtain ⟨k, hk, rfl, m, rfl⟩ := hrel
    by_cases hlt : k < xs.length
    · obtain ⟨b1, o1, c1', u1, e1, _, ck0, ck1, cu1, ck3, hu1⟩ := h.at_ hlt
      simp only [Value.slice.injEq] at e1
      obtain ⟨rfl, _, rfl⟩ := e1
      obtain ⟨Au, cu, rfl, _, hmu⟩ := hu1.shape
      unfold maxLen at hmu
      have hlk : (k : Int) < xs.length := by omega
      go_wp2
      go_loop [3, 5] (fun nv iv => ∃ j : Nat, j ≤ xs[k].r.length ∧ iv = .int .i64 j ∧ ∃ m : Int, nv = .int .i64 m) (fun _ i => xs[k].r.length - (intOf i).toNat)
      case atStart => exact ⟨0, Nat.zero_le _, rfl, _, rfl⟩
      case round =>
        obtain ⟨j, hj, rfl, m, rfl⟩ := hrel
        by_cases hjl : j < xs[k].r.length
        · obtain ⟨b2, o2, c2', u2, e2, _, cu2, hu2⟩ := hu1.at_ hjl
          simp only [Value.slice.injEq] at e2
          obtain ⟨rfl, _, rfl⟩ := e2
          obtain ⟨Av, cv, rfl⟩ := hu2.shape
          go_wp2
          go_round
          case rel => exact ⟨j + 1, by omega, by go_num, _, rfl⟩
          case measure => simp [intOf]; omega
        · obtain rfl : j = xs[k].r.length := by omega
          go_wp2
          go_round
          case rel => exact ⟨k + 1, by omega, by go_num, _, rfl⟩
          case measure => simp [intOf]; omega
    · obtain rfl : k = xs.length := by omega
      go_wp2
      go_ret
      exact ⟨⟨_, rfl⟩, rfl⟩

end Go.Proofs.Ytclbbddpedcfjaa
