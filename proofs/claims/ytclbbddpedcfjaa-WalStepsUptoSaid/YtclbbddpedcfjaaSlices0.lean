/-
  Parts of rows, at an operation of a walk.
-/
import Derived.Test.YtclbbddpedcfjaaBase2
namespace Go.Proofs.Ytclbbddpedcfjaa
open Go.RowKit

section
variable {α : Type} {size : Nat} {R : α → List Value → Prop} {F : Nat → Prop} {w : World} {v : Value} {xs : List α} {t e : TypeId}
theorem run_size_of {z : Option Value} {bytes : Nat} (hi : (Try.prog.info? e).map (fun i => (i.zero, i.size, i.bytes)) = some (z, size, bytes)) (w : World) : (sizeOf e).run Try.prog w = .ok size w := by
  cases hx : Try.prog.info? e with
  | none => rw [hx] at hi; simp at hi
  | some i => rw [hx] at hi; simp at hi; simp [sizeOf, typeInfo, hx, hi.2.1]
theorem und_elem (ht : Try.prog.underlying t = some (.slice e)) : Try.prog.underlying t = some (.slice (Try.prog.elem t)) := by simp [Program.elem, ht]
theorem Row.slice_hi (ht : Try.prog.underlying t = some (.slice e)) (hsz : ∀ w, (sizeOf e).run Try.prog w = .ok size w) (h : Row size R F w v xs) {j : Nat} (hj : j ≤ xs.length) :
    ∃ v', (Instr.slice t v none (some (.int .i64 j)) none).run Try.prog w = .ok v' w ∧ Row size R F w v' (xs.take j) := by
  obtain ⟨A, c, rfl, h1, _⟩ := id h
  refine ⟨_, ?_, by have := Row.sub h (Nat.zero_le j) hj; simpa using this⟩
  rw [run_slice_h w _ A _ c (und_elem ht) .i64 j (by omega) (by omega), show Try.prog.elem t = e by simp [Program.elem, ht], hsz]
  simp [Result.andThen]
theorem Row.slice_lo (ht : Try.prog.underlying t = some (.slice e)) (hsz : ∀ w, (sizeOf e).run Try.prog w = .ok size w) (h : Row size R F w v xs) {j : Nat} (hj : j ≤ xs.length) :
    ∃ v', (Instr.slice t v (some (.int .i64 j)) none none).run Try.prog w = .ok v' w ∧ Row size R F w v' (xs.drop j) := by
  obtain ⟨A, c, rfl, h1, _⟩ := id h
  refine ⟨_, ?_, by have := Row.sub h hj (Nat.le_refl _); simpa using this⟩
  rw [run_slice_l w _ A _ c (und_elem ht) .i64 j (by omega) (by omega), show Try.prog.elem t = e by simp [Program.elem, ht], hsz]
  simp [Result.andThen]
theorem Row.hi' {A : Option Addr} {n c : Nat} (h : Row size R F w (.slice A n c) xs) {j : Nat} (hj : j ≤ xs.length) : Row size R F w (.slice A j c) (xs.take j) := by
  have := Row.sub h (Nat.zero_le j) hj
  unfold sliced at this
  simp only [Nat.sub_zero, List.drop_zero, Nat.zero_mul] at this
  obtain ⟨A', c', e, q, _⟩ := h
  simp only [Value.slice.injEq] at e
  cases A with
  | none => simpa using this
  | some ad =>
    obtain ⟨b, o, f⟩ := ad
    by_cases hc : c = 0
    · rw [if_pos hc] at this; simpa using this
    · rw [if_neg hc] at this; simpa [Addr.add] using this
variable {o : Oper} {a : Act} {x y : Operand} {j : Nat} {ops : Array Oper} {rest : List Oper} {Q : Exit → Act → World → Prop}
theorem wpList_hi (hgd : o.guard = none) (ho : o.op = .slice t x none (some y) none) (ht : Try.prog.underlying t = some (.slice e)) (hsz : ∀ w, (sizeOf e).run Try.prog w = .ok size w) (h : Row size R F w v xs) (hx : a.eval x = v) (hy : a.eval y = .int .i64 j) (hj : j ≤ xs.length)
    (hK : ∀ v', Row size R F w v' (xs.take j) → wpList Try.prog ops Q rest (a.put o.dst v') w) : wpList Try.prog ops Q (o :: rest) a w := by
  obtain ⟨v', hr, hb⟩ := h.slice_hi ht hsz hj
  exact wpList_val hgd (by unfold execOp; simp [ho, hx, hy, run_sliceAt_slice w _ _ _ _ _ (und_elem ht), hr, Result.andThen]) (hK v' hb)
theorem wpList_lo (hgd : o.guard = none) (ho : o.op = .slice t x (some y) none none) (ht : Try.prog.underlying t = some (.slice e)) (hsz : ∀ w, (sizeOf e).run Try.prog w = .ok size w) (h : Row size R F w v xs) (hx : a.eval x = v) (hy : a.eval y = .int .i64 j) (hj : j ≤ xs.length)
    (hK : ∀ v', Row size R F w v' (xs.drop j) → wpList Try.prog ops Q rest (a.put o.dst v') w) : wpList Try.prog ops Q (o :: rest) a w := by
  obtain ⟨v', hr, hb⟩ := h.slice_lo ht hsz hj
  exact wpList_val hgd (by unfold execOp; simp [ho, hx, hy, run_sliceAt_slice w _ _ _ _ _ (und_elem ht), hr, Result.andThen]) (hK v' hb)
end

section
variable {F : Nat → Prop} {w : World} {v : Value} {bs : List UInt8} {o : Oper} {a : Act} {j : Nat} {ops : Array Oper} {rest : List Oper} {Q : Exit → Act → World → Prop}
theorem wpList_hiB (x y : Operand) (hgd : o.guard = none) (ho : o.op = .slice 23 x none (some y) none) (h : Bytes F w v bs) (hx : a.eval x = v) (hy : a.eval y = .int .i64 j) (hj : j ≤ bs.length)
    (hK : ∀ v', Bytes F w v' (bs.take j) → wpList Try.prog ops Q rest (a.put o.dst v') w) : wpList Try.prog ops Q (o :: rest) a w :=
  wpList_hi hgd ho Try.underlying23 (run_size_of info_u8) h hx hy hj hK
theorem wpList_loB (x y : Operand) (hgd : o.guard = none) (ho : o.op = .slice 23 x (some y) none none) (h : Bytes F w v bs) (hx : a.eval x = v) (hy : a.eval y = .int .i64 j) (hj : j ≤ bs.length)
    (hK : ∀ v', Bytes F w v' (bs.drop j) → wpList Try.prog ops Q rest (a.put o.dst v') w) : wpList Try.prog ops Q (o :: rest) a w :=
  wpList_lo hgd ho Try.underlying23 (run_size_of info_u8) h hx hy hj hK
end

end Go.Proofs.Ytclbbddpedcfjaa
