/-
  What an argument of records reads as.
-/
import Derived.Test.YtpknkkkdohgedaaOpen
import Derived.Test.YtpknkkkdohgedaaRecs
import Derived.ChangeSame
namespace Go.Proofs.Ytpknkkkdohgedaa
open Go.RowKit Go.ChangeShapes
section
variable {H : Type} {enc : TypeId × Value → H} {w : World}

def ROf (r : Rec) (d : DataW H) : Prop := r.b.length + 3 ≤ Rows.uptoBulk d ∧ (Reach 38 d → r.b.length ≤ 140737488351232)
def RecsOf (rs : List Rec) (d : DataW H) : Prop := (rs.map fun r => r.b.length + 3).sum + 1 ≤ Rows.uptoBulk d ∧ (Reach 24 d → rs.length * 32 ≤ 140737488351232 ∧ ∀ r ∈ rs, r.b.length ≤ 140737488351232)

theorem cells_rec : Try.prog.cellsOf 38 = 2 := by kernel_rfl
theorem bytes_rec : Try.prog.bytesOf 38 = 32 := by kernel_rfl

theorem open_rec {fuel : Nat} {cs : List Value} {y : DataW H × List MemPlace} (h : DataW.trod enc Try.prog w 0 (fun _ => true) true fuel 38 cs = some y) :
    ∃ r : Rec, IsRec (old' w) w r cs ∧ ROf r y.1 := by
  obtain ⟨y0, y1, n, rfl, hl, h0, h1⟩ := trod_struct2 Try.underlying38 h
  rw [cells_rec] at hl
  match cs, hl with
  | [a, b], _ =>
    simp only [cells_u8, cells_bytes, List.drop_zero, List.drop_succ_cons, List.take_succ_cons, List.take_zero] at h0 h1
    obtain ⟨k, hk⟩ := open_byte h0
    obtain ⟨bs, k1, k2, k3⟩ := open_bytes h1
    unfold IsB at hk
    simp only [List.cons.injEq, and_true] at hk
    subst hk
    refine ⟨⟨k, bs⟩, ⟨b, rfl, k1⟩, ?_, fun hr => ?_⟩
    · have := bulk_one y0.1
      simp only [Rows.uptoBulk, Rows.uptoBulkAll]
      omega
    · refine k3 fun n hn => hr n ?_
      unfold DataW.weights
      rw [Try.underlying38]
      simp only [List.map_cons, List.map_nil, DataW.weightsEach, List.mem_append]
      exact .inr (.inl hn)

theorem open_recs {fuel : Nat} {v : Value} {y : DataW H × List MemPlace} (h : DataW.trod enc Try.prog w 0 (fun _ => true) true fuel 24 [v] = some y) :
    ∃ rs : List Rec, Recs (old' w) w v rs ∧ RecsOf rs y.1 := by
  obtain ⟨rs, h1, h2⟩ := open_row (α := Rec) (R := IsRec (old' w) w) (Q := ROf) Try.underlying24 cells_rec (by decide) h (fun n cs z hz => open_rec hz)
  refine ⟨rs, h1, h2.bulk _ (fun x d hq => hq.1), fun hr => ?_⟩
  have := h2.reach Try.underlying24 hr (fun r => r.b.length ≤ 140737488351232) (fun x d hq hr' => hq.2 hr')
  rwa [bytes_rec] at this

end
end Go.Proofs.Ytpknkkkdohgedaa
