/-
  Walks: sums and checks of bytes; what the walks ask of bytes.
-/
import Derived.Test.YtpknkkkdohgedaaProg
import Derived.Test.YtpknkkkdohgedaaBase
import Derived.Test.YtpknkkkdohgedaaHash
import Derived.Lib.SlBytesConst
namespace Go.Proofs.Ytpknkkkdohgedaa
open Go.RowKit

theorem ret_u64 {a b : Int} (h : a = b) : Ending.returned (.int .u64 a) = .returned (.int .u64 b) := by rw [h]

set_option maxHeartbeats 400000 in
theorem w_step (h : UInt64) (c : UInt8) (w : World) :
    Calls Try.prog 31 #[vw h, vb c] w fun e w' => e = .returned (vw (step h c)) ∧ w = w' := by
  have b1 := u8_lt c
  go_enter Try.func31, Try.ntmps31
  go_wp2
  go_ret
  exact ⟨ret_u64 (val_step h c), rfl⟩

set_option maxHeartbeats 400000 in
theorem w_rstep (h : UInt64) (c : UInt8) (w : World) :
    Calls Try.prog 32 #[vw h, vb c] w fun e w' => e = .returned (vw (step h c)) ∧ w = w' := by
  have b1 := u8_lt c
  go_enter Try.func32, Try.ntmps32
  go_wp2
  go_ret
  exact ⟨ret_u64 (val_rstep h c), rfl⟩

theorem take_flat {bs : List (List UInt8)} {k : Nat} (h : k < bs.length) : (bs.take (k + 1)).flatten = (bs.take k).flatten ++ bs[k] := by
  rw [← List.take_append_getElem h, List.flatten_append]; simp
theorem sum_snoc (bs : List UInt8) (c : UInt8) : sum (bs ++ [c]) = step (sum bs) c := by simp [sum, sumFrom]

set_option maxHeartbeats 400000 in
theorem w_sum {F : Nat → Prop} {v : Value} {bs : List (List UInt8)} (w : World) (h : Rows F w v bs) :
    Calls Try.prog 29 #[v] w fun e w' => e = .returned (vw (sum bs.flatten)) ∧ w = w' := by
  obtain ⟨A, c, rfl, h1, h2, h3, h4⟩ := h
  unfold maxLen at h2
  go_enter Try.func29, Try.ntmps29
  go_wp2
  go_step3
  go_wp2
  go_step3
  go_wp2
  go_loop [3, 10] (fun hv iv => ∃ k : Nat, k ≤ bs.length ∧ iv = .int .i64 k ∧ hv = vw (sum (bs.take k).flatten)) (fun _ i => bs.length - (intOf i).toNat)
  case atStart => exact ⟨0, Nat.zero_le _, rfl, rfl⟩
  case round =>
    obtain ⟨k, hk, rfl, rfl⟩ := hrel
    by_cases hlt : k < bs.length
    · obtain ⟨b, o, cs, rfl, hF, hb, hl, ⟨u, rfl, hu⟩, hcell⟩ := h4 k bs[k] (by simp [hlt])
      have hc := hcell 0 u rfl
      simp only [Nat.mul_one, Nat.add_zero] at hc
      obtain ⟨A', c', rfl, g1, g2, g3, g4⟩ := hu
      unfold maxLen at g2
      by_cases h0 : bs[k].length = 0
      · have e : sum (bs.take (k + 1)).flatten = sum (bs.take k).flatten := by rw [take_flat hlt, List.eq_nil_of_length_eq_zero h0, List.append_nil]
        have E := Lib.hid e; clear e
        go_wp2
        go_round
        case rel => exact ⟨k + 1, by omega, by go_num, by rw [E.out]⟩
        case measure => simp [intOf]; omega
      · go_wp2
        go_loop [3, 19] (fun hv iv => ∃ m : Nat, m ≤ bs[k].length ∧ iv = .int .i64 m ∧ hv = vw (sum ((bs.take k).flatten ++ bs[k].take m))) (fun _ i => bs[k].length - (intOf i).toNat)
        case atStart => exact ⟨0, Nat.zero_le _, rfl, by simp⟩
        case round =>
          obtain ⟨m, hm, rfl, rfl⟩ := hrel
          by_cases hml : m < bs[k].length
          · obtain ⟨b', o', cs, rfl, hF', hb', hl', rfl, hcell'⟩ := g4 m bs[k][m] (by simp [hml])
            have hc' := hcell' 0 _ rfl
            simp only [Nat.mul_one, Nat.add_zero] at hc'
            have e : step (sum ((bs.take k).flatten ++ bs[k].take m)) bs[k][m] = sum ((bs.take k).flatten ++ bs[k].take (m + 1)) := by rw [← sum_snoc, List.append_assoc, List.take_append_getElem]
            have E := Lib.hid e; clear e
            go_wp2_with (go_at_call 31; refine (w_step _ _ _).mono ?_; rintro e w1 ⟨rfl, rfl⟩)
            go_round
            case rel => exact ⟨m + 1, by omega, by go_num, by rw [E.out]⟩
            case measure => simp [intOf]; omega
          · obtain rfl : m = bs[k].length := by omega
            have e : sum ((bs.take k).flatten ++ bs[k].take bs[k].length) = sum (bs.take (k + 1)).flatten := by rw [List.take_length, take_flat hlt]
            have E := Lib.hid e; clear e
            go_wp2
            go_round
            case rel => exact ⟨k + 1, by omega, by go_num, by rw [E.out]⟩
            case measure => simp [intOf]; omega
    · obtain rfl : k = bs.length := by omega
      go_wp2
      go_ret
      exact ⟨rfl, rfl⟩
theorem info_u8 : (Try.prog.info? 5).map (fun i => (i.zero, i.size, i.bytes)) = some (some (.int .u8 0), 1, 1) := by kernel_rfl

/-- 'string(b)'. -/
theorem Bytes.conv {F : Nat → Prop} {w : World} {v : Value} {bs : List UInt8} (h : Bytes F w v bs) : (convert 22 9 v).run Try.prog w = .ok (.string ⟨bs.toArray⟩) w := by
  obtain ⟨A, c, rfl, h1, h2, h3, h4⟩ := h
  cases bs with
  | nil =>
    cases A with
    | none => exact run_convert_bytes_nil w _ _ Try.underlying22 Try.underlying5 _ _ _ Try.underlying9
    | some a => exact run_convert_bytes_back w _ _ 5 a c [] Try.underlying22 Try.underlying5 Try.underlying9 (fun j hj => by simp at hj)
  | cons x xs =>
    obtain ⟨b, o, cs, rfl, _⟩ := h4 0 x rfl
    refine run_convert_bytes_back w _ _ 5 _ c (x :: xs) Try.underlying22 Try.underlying5 Try.underlying9 (fun j hj => ?_)
    obtain ⟨b', o', cs', hA, _, _, _, hr, hc⟩ := h4 j (x :: xs)[j] (by simp [hj])
    simp only [IsB] at hr
    subst hr
    obtain ⟨rfl, rfl⟩ : b = b' ∧ o = o' := by simpa using hA
    rw [Addr.add_lit]
    simpa using hc 0 _ rfl

theorem info_u8' : ∃ i, Try.prog.info? 5 = some i ∧ i.size = 1 := by
  obtain ⟨i, h1, _, h2, _⟩ := info_parts info_u8
  exact ⟨i, h1, h2⟩

theorem elem_bytes : Try.prog.elem 22 = 5 := by simp [Program.elem, Try.underlying22]
theorem und_bytes : Try.prog.underlying 22 = some (.slice (Try.prog.elem 22)) := by rw [elem_bytes]; exact Try.underlying22
theorem run_size_u8 (w : World) : (sizeOf (Try.prog.elem 22)).run Try.prog w = .ok 1 w := by
  obtain ⟨i, h1, h2⟩ := info_u8'
  rw [elem_bytes]
  simp [sizeOf, typeInfo, h1, h2]

section
variable {F : Nat → Prop} {w : World} {v : Value} {bs : List UInt8}
/-- 'b[:j]'. -/
theorem Bytes.slice_hi (h : Bytes F w v bs) {j : Nat} (hj : j ≤ bs.length) :
    ∃ v', (Instr.slice 22 v none (some (.int .i64 j)) none).run Try.prog w = .ok v' w ∧ Bytes F w v' (bs.take j) := by
  obtain ⟨A, c, rfl, h1, _⟩ := id h
  refine ⟨_, ?_, by have := Row.sub h (Nat.zero_le j) hj; unfold Bytes; simpa using this⟩
  rw [run_slice_h w _ A _ c und_bytes .i64 j (by omega) (by omega), run_size_u8]
  simp [Result.andThen]
/-- 'b[j:]'. -/
theorem Bytes.slice_lo (h : Bytes F w v bs) {j : Nat} (hj : j ≤ bs.length) :
    ∃ v', (Instr.slice 22 v (some (.int .i64 j)) none none).run Try.prog w = .ok v' w ∧ Bytes F w v' (bs.drop j) := by
  obtain ⟨A, c, rfl, h1, _⟩ := id h
  refine ⟨_, ?_, by have := Row.sub h hj (Nat.le_refl _); unfold Bytes; simpa using this⟩
  rw [run_slice_l w _ A _ c und_bytes .i64 j (by omega) (by omega), run_size_u8]
  simp [Result.andThen]
/-- 'b[j:k]'. -/
theorem Bytes.slice_mid (h : Bytes F w v bs) {j k : Nat} (hjk : j ≤ k) (hk : k ≤ bs.length) :
    ∃ v', (Instr.slice 22 v (some (.int .i64 j)) (some (.int .i64 k)) none).run Try.prog w = .ok v' w ∧ Bytes F w v' ((bs.take k).drop j) := by
  obtain ⟨A, c, rfl, h1, _⟩ := id h
  refine ⟨_, ?_, Row.sub h hjk hk⟩
  rw [run_slice_lh w _ A _ c und_bytes .i64 .i64 j k (by omega) (by omega) (by omega), run_size_u8]
  simp [Result.andThen]
theorem Bytes.op_hi (h : Bytes F w v bs) {o : Oper} {a : Act} {x y : Operand} {j : Nat} (ho : o.op = .slice 22 x none (some y) none) (hx : a.eval x = v) (hy : a.eval y = .int .i64 j) (hj : j ≤ bs.length) :
    ∃ v', (execOp a.eval o).run Try.prog w = .ok (.value v') w ∧ Bytes F w v' (bs.take j) := by
  obtain ⟨v', hr, hb⟩ := h.slice_hi hj
  exact ⟨v', by unfold execOp; simp [ho, hx, hy, run_sliceAt_slice w _ _ _ _ _ und_bytes, hr, Result.andThen], hb⟩
theorem Bytes.op_lo (h : Bytes F w v bs) {o : Oper} {a : Act} {x y : Operand} {j : Nat} (ho : o.op = .slice 22 x (some y) none none) (hx : a.eval x = v) (hy : a.eval y = .int .i64 j) (hj : j ≤ bs.length) :
    ∃ v', (execOp a.eval o).run Try.prog w = .ok (.value v') w ∧ Bytes F w v' (bs.drop j) := by
  obtain ⟨v', hr, hb⟩ := h.slice_lo hj
  exact ⟨v', by unfold execOp; simp [ho, hx, hy, run_sliceAt_slice w _ _ _ _ _ und_bytes, hr, Result.andThen], hb⟩
theorem Bytes.op_mid (h : Bytes F w v bs) {o : Oper} {a : Act} {x y z : Operand} {j k : Nat} (ho : o.op = .slice 22 x (some y) (some z) none) (hx : a.eval x = v) (hy : a.eval y = .int .i64 j) (hz : a.eval z = .int .i64 k) (hjk : j ≤ k) (hk : k ≤ bs.length) :
    ∃ v', (execOp a.eval o).run Try.prog w = .ok (.value v') w ∧ Bytes F w v' ((bs.take k).drop j) := by
  obtain ⟨v', hr, hb⟩ := h.slice_mid hjk hk
  exact ⟨v', by unfold execOp; simp [ho, hx, hy, hz, run_sliceAt_slice w _ _ _ _ _ und_bytes, hr, Result.andThen], hb⟩
theorem Bytes.shape3 (h : Bytes F w v bs) : ∃ A n c, v = .slice A n c := let ⟨A, c, e, _⟩ := h; ⟨A, _, c, e⟩
theorem Bytes.shape (h : Bytes F w v bs) : ∃ A c, v = .slice A bs.length c := let ⟨A, c, e, _⟩ := h; ⟨A, c, e⟩
end

theorem w_sum1 {W : World} {t : TypeId} {u : Value} {b : List UInt8} {g : Nat} (h : Bytes all' W u b) (hg : W.heap.size = g := by first | rfl | simp) :
    Calls Try.prog 29 #[.slice (some ⟨g, 0, none⟩) 1 1] (W.alloc (.cells #[u] t)) fun e w' => e = .returned (vw (sum b)) ∧ W.alloc (.cells #[u] t) = w' := by
  have := w_sum _ (rows_lit1 (t := t) h hg)
  rwa [show [b].flatten = b by simp] at this
theorem w_sum2 {W : World} {t : TypeId} {u v : Value} {b c : List UInt8} {g : Nat} (h : Bytes all' W u b) (k : Bytes all' W v c) (hg : W.heap.size = g := by first | rfl | simp) :
    Calls Try.prog 29 #[.slice (some ⟨g, 0, none⟩) 2 2] (W.alloc (.cells #[u, v] t)) fun e w' => e = .returned (vw (sum (b ++ c))) ∧ W.alloc (.cells #[u, v] t) = w' := by
  have := w_sum _ (rows_lit2 (t := t) h k hg)
  rwa [show [b, c].flatten = b ++ c by simp] at this

set_option maxHeartbeats 400000 in
theorem w_rsum {F : Nat → Prop} {v : Value} {bs : List UInt8} (w : World) (h : Bytes F w v bs) :
    Calls Try.prog 30 #[v] w fun e w' => e = .returned (vw (sum bs)) ∧ w = w' := by
  obtain ⟨A, c, rfl, h1, h2, h3, h4⟩ := h
  unfold maxLen at h2
  go_enter Try.func30, Try.ntmps30
  go_wp2
  go_loop [3, 4] (fun hv iv => ∃ m : Nat, m ≤ bs.length ∧ iv = .int .i64 m ∧ hv = vw (sum (bs.take m))) (fun _ i => bs.length - (intOf i).toNat)
  case atStart => exact ⟨0, Nat.zero_le _, rfl, rfl⟩
  case round =>
    obtain ⟨m, hm, rfl, rfl⟩ := hrel
    by_cases hml : m < bs.length
    · obtain ⟨b', o', cs, rfl, hF', hb', hl', rfl, hcell'⟩ := h4 m bs[m] (by simp [hml])
      have hc' := hcell' 0 _ rfl
      simp only [Nat.mul_one, Nat.add_zero] at hc'
      have e : step (sum (bs.take m)) bs[m] = sum (bs.take (m + 1)) := by rw [← sum_snoc, List.take_append_getElem]
      have E := Lib.hid e; clear e
      go_wp2_with (go_at_call 32; refine (w_rstep _ _ _).mono ?_; rintro e w1 ⟨rfl, rfl⟩)
      go_round
      case rel => exact ⟨m + 1, by omega, by go_num, by rw [E.out]⟩
      case measure => simp [intOf]; omega
    · obtain rfl : m = bs.length := by omega
      have e : sum (bs.take bs.length) = sum bs := by rw [List.take_length]
      have E := Lib.hid e; clear e
      go_wp2
      go_ret
      exact ⟨rfl, rfl⟩

set_option maxRecDepth 20000 in
theorem ret_u32 {a b : Int} (h : a = b) : Ending.returned (.int .u32 a) = .returned (.int .u32 b) := by rw [h]

set_option maxHeartbeats 400000 in
theorem w_check {F : Nat → Prop} {v : Value} {bs : List (List UInt8)} (w : World) (h : Rows F w v bs) :
    Calls Try.prog 25 #[v] w fun e w' => e = .returned (.int .u32 ((check bs.flatten).toNat : Int)) ∧ w = w' := by
  go_enter Try.func25, Try.ntmps25
  go_wp2_with fail
  refine (w_sum _ h).mono ?_
  rintro e w1 ⟨rfl, rfl⟩
  go_wp2
  go_ret
  exact ⟨ret_u32 (val_check _), rfl⟩

theorem w_check1 {W : World} {t : TypeId} {u : Value} {b : List UInt8} {g : Nat} (h : Bytes all' W u b) (hg : W.heap.size = g := by first | rfl | simp) :
    Calls Try.prog 25 #[.slice (some ⟨g, 0, none⟩) 1 1] (W.alloc (.cells #[u] t)) fun e w' => e = .returned (.int .u32 ((check b).toNat : Int)) ∧ W.alloc (.cells #[u] t) = w' := by
  have := w_check _ (rows_lit1 (t := t) h hg)
  rwa [show [b].flatten = b by simp] at this

set_option maxHeartbeats 400000 in
theorem w_rcheck {F : Nat → Prop} {v : Value} {bs : List UInt8} (w : World) (h : Bytes F w v bs) :
    Calls Try.prog 28 #[v] w fun e w' => e = .returned (.int .u32 ((check bs).toNat : Int)) ∧ w = w' := by
  go_enter Try.func28, Try.ntmps28
  go_wp2_with fail
  refine (w_rsum _ h).mono ?_
  rintro e w1 ⟨rfl, rfl⟩
  go_wp2
  go_ret
  exact ⟨ret_u32 (by rw [val_hi]; exact val_check _), rfl⟩

theorem ne_word {a b : UInt64} (h : a ≠ b) : ((a.toNat : Int) == (b.toNat : Int)) = false := by
  rw [beq_eq_false_iff_ne]
  intro e
  exact h (UInt64.toNat_inj.1 (by exact_mod_cast e))

theorem ne_word' {a b : UInt64} (h : a ≠ b) : ((a.toNat : Int) != (b.toNat : Int)) = true := by
  rw [bne, ne_word h]; rfl

theorem w_rsum' {F : Nat → Prop} {v : Value} {bs cs : List UInt8} (w : World) (h : Bytes F w v bs) (e : bs = cs) :
    Calls Try.prog 30 #[v] w fun e w' => e = .returned (vw (sum cs)) ∧ w = w' := by subst e; exact w_rsum w h
theorem w_rcheck' {F : Nat → Prop} {v : Value} {bs cs : List UInt8} (w : World) (h : Bytes F w v bs) (e : bs = cs) :
    Calls Try.prog 28 #[v] w fun e w' => e = .returned (.int .u32 ((check cs).toNat : Int)) ∧ w = w' := by subst e; exact w_rcheck w h

set_option maxHeartbeats 400000 in
theorem w_copy {F : Nat → Prop} {v : Value} {bs : List UInt8} (w : World) (h : Bytes F w v bs) (hb : bs.length ≤ 140737488355328) :
    Calls Try.prog 23 #[v] w fun e w' => ∃ v', e = .returned v' ∧ OwnB w.heap.size w' v' bs ∧ Chg none' w w' := by
  go_enter Try.func23, Try.ntmps23
  go_wp2_with (at_builtin; refine wpList_app rfl (.tmp 4) (.tmp 5) 22 rfl w.heap.size 5 (.int .u8 0) 1 1 Try.underlying22 info_u8 rfl (by decide) _ _ _ rfl (OwnB.nil w.heap.size w) _ _ _ rfl h.src (by simp; omega) (by simp [maxLen]; omega) (Nat.le_refl _) ?_; intro v3 w3 hown3 hg3)
  go_ret
  exact ⟨_, rfl, OwnB.app (bs := []) hown3 rfl, (Chg.refl _ _).grown hg3 fun j hj => .inl (OwnB.base_ (OwnB.nil _ w) j hj)⟩

/-- A constant's bytes, behind their conversion. -/
theorem bytes_const {W : World} {cur : Array Value} {fr : Nat × Nat} {bs : List UInt8} {n g : Nat} (hn : bs.length = n) (hm : n ≤ 1000000) (hc : cur = (bs.map vb).toArray) (hg : W.heap.size = g := by first | rfl | simp) : Bytes all' (W.alloc (.cells cur 5 fr)) (.slice (some ⟨g, 0, none⟩) n n) bs := by
  subst hc
  subst hg
  exact (bytes_block (heap_alloc_new W _) hn (Nat.le_refl _) (by unfold maxLen; omega) (fun j x hj => by simp [hj])).all

end Go.Proofs.Ytpknkkkdohgedaa
