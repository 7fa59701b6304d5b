/-
  What an argument of things that are done to a disk reads as.
-/
import Derived.Test.YtlgmmokeflipaaaOpen
import Derived.Test.YtlgmmokeflipaaaWDisk7
import Derived.Deep.Strs
namespace Go.Proofs.Ytlgmmokeflipaaa
open Go.RowKit Go.ChangeShapes

def IsDo6 (F : Nat → Prop) (w : World) (x : Do6) (cs : List Value) : Prop := ∃ u, cs = [.int .i64 x.kind, u, .int .i64 x.kept] ∧ Bytes F w u x.b
/-- A slice that reads as things that are done. -/
def Do6s (F : Nat → Prop) (w : World) (v : Value) (xs : List Do6) : Prop := Row 3 (IsDo6 F w) F w v xs
section
variable {F S : Nat → Prop} {w w' : World} {v : Value} {xs : List Do6}
theorem Do6s.kept (h : Do6s F w v xs) (hc : Chg S w w') (hd : ∀ b, F b → ¬ S b) : Do6s F w' v xs :=
  Row.kept h hc hd fun _ _ _ ⟨u, e, hb⟩ => ⟨u, e, hb.kept hc hd⟩
theorem Do6s.shape (h : Do6s F w v xs) : ∃ A c, v = .slice A xs.length c ∧ xs.length ≤ c ∧ c ≤ maxLen := let ⟨A, c, e, h1, h2, _⟩ := h; ⟨A, c, e, h1, h2⟩
theorem Do6s.at_ (h : Do6s F w v xs) {i : Nat} (hi : i < xs.length) :
    ∃ b o c u, v = .slice (some ⟨b, o, none⟩) xs.length c ∧ F b ∧ w.cell? ⟨b, o + i * 3, none⟩ = some (.int .i64 xs[i].kind) ∧ w.cell? ⟨b, o + i * 3 + 1, none⟩ = some u ∧ w.cell? ⟨b, o + i * 3 + 2, none⟩ = some (.int .i64 xs[i].kept) ∧ Bytes F w u xs[i].b := by
  obtain ⟨A, c, rfl, h1, h2, h3, h4⟩ := h
  obtain ⟨b, o, cs, rfl, hF, hb, hl, ⟨u, rfl, hu⟩, hcell⟩ := h4 i xs[i] (by simp [hi])
  exact ⟨b, o, c, u, rfl, hF, by simpa using hcell 0 _ rfl, by simpa using hcell 1 _ rfl, by simpa using hcell 2 _ rfl, hu⟩
end

section
variable {H : Type} {enc : TypeId × Value → H} {w : World}
def DOf (x : Do6) (d : DataW H) : Prop := x.b.length + 3 ≤ Rows.uptoBulk d ∧ (Reach 37 d → x.b.length ≤ 140737488351232)
def Do6sOf (xs : List Do6) (d : DataW H) : Prop := (xs.map fun x => x.b.length + 3).sum + 1 ≤ Rows.uptoBulk d ∧ (Reach 32 d → xs.length * 40 ≤ 140737488351232 ∧ ∀ x ∈ xs, x.b.length ≤ 140737488351232)

theorem cells_do6 : Try.prog.cellsOf 37 = 3 := by kernel_rfl
theorem bytes_do6 : Try.prog.bytesOf 37 = 40 := by kernel_rfl
theorem cells_int : Try.prog.cellsOf 3 = 1 := by kernel_rfl

theorem open_int1 {fuel : Nat} {cs : List Value} {y : DataW H × List MemPlace} (h : DataW.trod enc Try.prog w 0 (fun _ => true) true fuel 3 cs = some y) : ∃ x : Int, cs = [.int .i64 x] := by
  obtain ⟨n, rfl, _, wf⟩ := DataW.trod_int Try.underlying3 h
  exact ⟨n, rfl⟩

theorem open_do6 {fuel : Nat} {cs : List Value} {y : DataW H × List MemPlace} (h : DataW.trod enc Try.prog w 0 (fun _ => true) true fuel 37 cs = some y) :
    ∃ x : Do6, IsDo6 (old' w) w x cs ∧ DOf x y.1 := by
  obtain ⟨y0, y1, y2, n, rfl, hl, h0, h1, h2⟩ := Go.Deep.trod_struct3 Try.underlying37 h
  rw [cells_do6] at hl
  match cs, hl with
  | [a, b, c], _ =>
    simp only [cells_int, cells_bytes, List.drop_zero, List.drop_succ_cons, List.take_succ_cons, List.take_zero] at h0 h1 h2
    obtain ⟨k, hk⟩ := open_int1 h0
    obtain ⟨bs, k1, k2, k3⟩ := open_bytes h1
    obtain ⟨q, hq⟩ := open_int1 h2
    simp only [List.cons.injEq, and_true] at hk hq
    subst hk hq
    refine ⟨⟨k, bs, q⟩, ⟨b, rfl, k1⟩, ?_, fun hr => ?_⟩
    · have := bulk_one y0.1
      have := bulk_one y2.1
      simp only [Rows.uptoBulk, Rows.uptoBulkAll]
      omega
    · refine k3 fun n hn => hr n ?_
      unfold DataW.weights
      rw [Try.underlying37]
      simp only [List.map_cons, List.map_nil, DataW.weightsEach, List.mem_append]
      exact .inr (.inl hn)

theorem open_do6s {fuel : Nat} {v : Value} {y : DataW H × List MemPlace} (h : DataW.trod enc Try.prog w 0 (fun _ => true) true fuel 32 [v] = some y) :
    ∃ xs : List Do6, Do6s (old' w) w v xs ∧ Do6sOf xs y.1 := by
  obtain ⟨rs, h1, h2⟩ := open_row (α := Do6) (R := IsDo6 (old' w) w) (Q := DOf) Try.underlying32 cells_do6 (by decide) h (fun n cs z hz => open_do6 hz)
  refine ⟨rs, h1, h2.bulk _ (fun x d hq => hq.1), fun hr => ?_⟩
  have := h2.reach Try.underlying32 hr (fun x => x.b.length ≤ 140737488351232) (fun x d hq hr' => hq.2 hr')
  rwa [bytes_do6] at this
end

def SomeBool (e : Ending) : Prop := ∃ t : Bool, e = .returned (.bool t)
set_option maxRecDepth 100000 in
set_option maxHeartbeats 2000000 in
theorem w_long06 {F : Nat → Prop} {v : Value} {xs : List Do6} (w : World) (h : Do6s F w v xs) :
    Calls Try.prog 16 #[v] w fun e w' => SomeBool e ∧ w = w' := by
  obtain ⟨A, c, rfl, _, hm⟩ := h.shape
  unfold maxLen at hm
  go_enter Try.func16, Try.ntmps16
  go_wp2
  go_loop [3, 4] (fun nv iv => ∃ k : Nat, k ≤ xs.length ∧ iv = .int .i64 k ∧ ∃ m : Int, nv = .int .i64 m) (fun _ i => xs.length - (intOf i).toNat)
  case atStart => exact ⟨0, Nat.zero_le _, rfl, 0, rfl⟩
  case round =>
    obtain ⟨k, hk, rfl, m, rfl⟩ := hrel
    by_cases hlt : k < xs.length
    · obtain ⟨b1, o1, c1', u1, e1, _, ck0, cu1, ck2, hu1⟩ := h.at_ hlt
      simp only [Value.slice.injEq] at e1
      obtain ⟨rfl, _, rfl⟩ := e1
      obtain ⟨Au, cu, rfl⟩ := hu1.shape
      go_wp2
      go_round
      case rel => exact ⟨k + 1, by omega, by go_num, _, rfl⟩
      case measure => simp [intOf]; omega
    · obtain rfl : k = xs.length := by omega
      go_wp2
      go_ret
      exact ⟨⟨_, rfl⟩, rfl⟩

end Go.Proofs.Ytlgmmokeflipaaa
