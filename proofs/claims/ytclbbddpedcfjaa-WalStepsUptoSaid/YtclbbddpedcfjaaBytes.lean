/-
  Words for the walks of this seat: bytes as arguments of operations, copies.
-/
import Derived.Test.YtclbbddpedcfjaaProg
import Derived.Test.YtclbbddpedcfjaaBase
import Derived.Lib.SlBytesConst
namespace Go.Proofs.Ytclbbddpedcfjaa
open Go.RowKit

theorem info_u8 : (Try.prog.info? 5).map (fun i => (i.zero, i.size, i.bytes)) = some (some (.int .u8 0), 1, 1) := by kernel_rfl

/-- 'string(b)'. -/
theorem Bytes.conv {F : Nat → Prop} {w : World} {v : Value} {bs : List UInt8} (h : Bytes F w v bs) : (convert 23 9 v).run Try.prog w = .ok (.string ⟨bs.toArray⟩) w := by
  obtain ⟨A, c, rfl, h1, h2, h3, h4⟩ := h
  cases bs with
  | nil =>
    cases A with
    | none => exact run_convert_bytes_nil w _ _ Try.underlying23 Try.underlying5 _ _ _ Try.underlying9
    | some a => exact run_convert_bytes_back w _ _ 5 a c [] Try.underlying23 Try.underlying5 Try.underlying9 (fun j hj => by simp at hj)
  | cons x xs =>
    obtain ⟨b, o, cs, rfl, _⟩ := h4 0 x rfl
    refine run_convert_bytes_back w _ _ 5 _ c (x :: xs) Try.underlying23 Try.underlying5 Try.underlying9 (fun j hj => ?_)
    obtain ⟨b', o', cs', hA, _, _, _, hr, hc⟩ := h4 j (x :: xs)[j] (by simp [hj])
    simp only [IsB] at hr
    subst hr
    obtain ⟨rfl, rfl⟩ : b = b' ∧ o = o' := by simpa using hA
    rw [Addr.add_lit]
    simpa using hc 0 _ rfl

theorem info_u8' : ∃ i, Try.prog.info? 5 = some i ∧ i.size = 1 := by
  obtain ⟨i, h1, _, h2, _⟩ := info_parts info_u8
  exact ⟨i, h1, h2⟩

theorem elem_bytes : Try.prog.elem 23 = 5 := by simp [Program.elem, Try.underlying23]
theorem und_bytes : Try.prog.underlying 23 = some (.slice (Try.prog.elem 23)) := by rw [elem_bytes]; exact Try.underlying23
theorem run_size_u8 (w : World) : (sizeOf (Try.prog.elem 23)).run Try.prog w = .ok 1 w := by
  obtain ⟨i, h1, h2⟩ := info_u8'
  rw [elem_bytes]
  simp [sizeOf, typeInfo, h1, h2]

section
variable {F : Nat → Prop} {w : World} {v : Value} {bs : List UInt8}
/-- 'b[:j]'. -/
theorem Bytes.slice_hi (h : Bytes F w v bs) {j : Nat} (hj : j ≤ bs.length) :
    ∃ v', (Instr.slice 23 v none (some (.int .i64 j)) none).run Try.prog w = .ok v' w ∧ Bytes F w v' (bs.take j) := by
  obtain ⟨A, c, rfl, h1, _⟩ := id h
  refine ⟨_, ?_, by have := Row.sub h (Nat.zero_le j) hj; unfold Bytes; simpa using this⟩
  rw [run_slice_h w _ A _ c und_bytes .i64 j (by omega) (by omega), run_size_u8]
  simp [Result.andThen]
/-- 'b[j:]'. -/
theorem Bytes.slice_lo (h : Bytes F w v bs) {j : Nat} (hj : j ≤ bs.length) :
    ∃ v', (Instr.slice 23 v (some (.int .i64 j)) none none).run Try.prog w = .ok v' w ∧ Bytes F w v' (bs.drop j) := by
  obtain ⟨A, c, rfl, h1, _⟩ := id h
  refine ⟨_, ?_, by have := Row.sub h hj (Nat.le_refl _); unfold Bytes; simpa using this⟩
  rw [run_slice_l w _ A _ c und_bytes .i64 j (by omega) (by omega), run_size_u8]
  simp [Result.andThen]
/-- 'b[j:k]'. -/
theorem Bytes.slice_mid (h : Bytes F w v bs) {j k : Nat} (hjk : j ≤ k) (hk : k ≤ bs.length) :
    ∃ v', (Instr.slice 23 v (some (.int .i64 j)) (some (.int .i64 k)) none).run Try.prog w = .ok v' w ∧ Bytes F w v' ((bs.take k).drop j) := by
  obtain ⟨A, c, rfl, h1, _⟩ := id h
  refine ⟨_, ?_, Row.sub h hjk hk⟩
  rw [run_slice_lh w _ A _ c und_bytes .i64 .i64 j k (by omega) (by omega) (by omega), run_size_u8]
  simp [Result.andThen]
theorem Bytes.op_hi (h : Bytes F w v bs) {o : Oper} {a : Act} {x y : Operand} {j : Nat} (ho : o.op = .slice 23 x none (some y) none) (hx : a.eval x = v) (hy : a.eval y = .int .i64 j) (hj : j ≤ bs.length) :
    ∃ v', (execOp a.eval o).run Try.prog w = .ok (.value v') w ∧ Bytes F w v' (bs.take j) := by
  obtain ⟨v', hr, hb⟩ := h.slice_hi hj
  exact ⟨v', by unfold execOp; simp [ho, hx, hy, run_sliceAt_slice w _ _ _ _ _ und_bytes, hr, Result.andThen], hb⟩
theorem Bytes.op_lo (h : Bytes F w v bs) {o : Oper} {a : Act} {x y : Operand} {j : Nat} (ho : o.op = .slice 23 x (some y) none none) (hx : a.eval x = v) (hy : a.eval y = .int .i64 j) (hj : j ≤ bs.length) :
    ∃ v', (execOp a.eval o).run Try.prog w = .ok (.value v') w ∧ Bytes F w v' (bs.drop j) := by
  obtain ⟨v', hr, hb⟩ := h.slice_lo hj
  exact ⟨v', by unfold execOp; simp [ho, hx, hy, run_sliceAt_slice w _ _ _ _ _ und_bytes, hr, Result.andThen], hb⟩
theorem Bytes.op_mid (h : Bytes F w v bs) {o : Oper} {a : Act} {x y z : Operand} {j k : Nat} (ho : o.op = .slice 23 x (some y) (some z) none) (hx : a.eval x = v) (hy : a.eval y = .int .i64 j) (hz : a.eval z = .int .i64 k) (hjk : j ≤ k) (hk : k ≤ bs.length) :
    ∃ v', (execOp a.eval o).run Try.prog w = .ok (.value v') w ∧ Bytes F w v' ((bs.take k).drop j) := by
  obtain ⟨v', hr, hb⟩ := h.slice_mid hjk hk
  exact ⟨v', by unfold execOp; simp [ho, hx, hy, hz, run_sliceAt_slice w _ _ _ _ _ und_bytes, hr, Result.andThen], hb⟩
theorem Bytes.shape3 (h : Bytes F w v bs) : ∃ A n c, v = .slice A n c := let ⟨A, c, e, _⟩ := h; ⟨A, _, c, e⟩
theorem Bytes.shape (h : Bytes F w v bs) : ∃ A c, v = .slice A bs.length c := let ⟨A, c, e, _⟩ := h; ⟨A, c, e⟩
end

set_option maxHeartbeats 400000 in
theorem w_copy {F : Nat → Prop} {v : Value} {bs : List UInt8} (w : World) (h : Bytes F w v bs) (hb : bs.length ≤ 140737488355328) :
    Calls Try.prog 55 #[v] w fun e w' => ∃ v', e = .returned v' ∧ OwnB w.heap.size w' v' bs ∧ Chg none' w w' := by
  go_enter Try.func55, Try.ntmps55
  go_wp2_with (at_builtin; refine wpList_app rfl (.tmp 4) (.tmp 5) 23 rfl w.heap.size 5 (.int .u8 0) 1 1 Try.underlying23 info_u8 rfl (by decide) _ _ _ rfl (OwnB.nil w.heap.size w) _ _ _ rfl h.src (by simp; omega) (by simp [maxLen]; omega) (Nat.le_refl _) ?_; intro v3 w3 hown3 hg3)
  go_ret
  exact ⟨_, rfl, OwnB.app (bs := []) hown3 rfl, (Chg.refl _ _).grown hg3 fun j hj => .inl (OwnB.base_ (OwnB.nil _ w) j hj)⟩

/-- A constant's bytes, behind their conversion. -/
theorem bytes_const {W : World} {cur : Array Value} {fr : Nat × Nat} {bs : List UInt8} {n g : Nat} (hn : bs.length = n) (hm : n ≤ 1000000) (hc : cur = (bs.map vb).toArray) (hg : W.heap.size = g := by first | rfl | simp) : Bytes all' (W.alloc (.cells cur 5 fr)) (.slice (some ⟨g, 0, none⟩) n n) bs := by
  subst hc
  subst hg
  exact (bytes_block (heap_alloc_new W _) hn (Nat.le_refl _) (by unfold maxLen; omega) (fun j x hj => by simp [hj])).all

theorem own_eq {base : Nat} {w : World} {v : Value} {bs cs : List UInt8} (h : OwnB base w v bs) (e : bs = cs) : OwnB base w v cs := e ▸ h
theorem none_own {v : Value} {k : Nat} : v.ownBlock = some k → ¬ none' k := fun _ => id

theorem bytes_eq {F : Nat → Prop} {w : World} {v : Value} {bs cs : List UInt8} (h : Bytes F w v bs) (e : bs = cs) : Bytes F w v cs := e ▸ h

set_option maxHeartbeats 1000000 in
theorem w_same00 {F G : Nat → Prop} {u v : Value} {bs cs : List UInt8} (w : World) (h : Bytes F w u bs) (k : Bytes G w v cs) :
    Calls Try.prog 21 #[u, v] w fun e w' => e = .returned (.bool (bs == cs)) ∧ w = w' := by
  have e1 := h.conv
  have e2 := k.conv
  go_enter Try.func21, Try.ntmps21
  go_wp2
  go_ret
  exact ⟨rfl, rfl⟩

end Go.Proofs.Ytclbbddpedcfjaa
