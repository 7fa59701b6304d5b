/-
  Walks: the document's answer for a disk.
-/
import Derived.Test.YtclbbddpedcfjaaWDisk5
import Derived.Deep.RegionHeld3
namespace Go.Proofs.Ytclbbddpedcfjaa
open Go.RowKit

set_option maxHeartbeats 400000 in
theorem w_join {F G : Nat → Prop} {u v : Value} {bs cs : List UInt8} (w : World) (h : Bytes F w u bs) (k : Bytes G w v cs) (hb : bs.length + cs.length ≤ 140737488355328) :
    Calls Try.prog 44 #[u, v] w fun e w' => ∃ v', e = .returned v' ∧ OwnB w.heap.size w' v' (bs ++ cs) ∧ Chg none' w w' := by
  go_enter Try.func44, Try.ntmps44
  go_wp2_with fail
  refine (w_copy _ h (by omega)).mono ?_
  rintro e w1 ⟨v1, rfl, o1, c1⟩
  have k1 := k.kept c1 fun _ _ => id
  go_wp2_with (at_builtin; refine wpList_appB rfl (.tmp 8) (.tmp 9) rfl o1 k1 rfl rfl hb c1.size ?_; intro v3 w3 o3 c3 b3)
  go_ret
  exact ⟨_, rfl, o3, c1.trans' c3 fun i hi e => by have := o1.base_ i e; omega⟩

theorem step_heap {w W0 : World} {a b c : Array Value} {ta tb tc : TypeId} (h : W0 = ((w.alloc (.cells a ta)).alloc (.cells b tb)).alloc (.cells c tc)) :
    W0.heap[w.heap.size]? = some (.cells a ta (0, 0)) ∧ W0.heap[w.heap.size + 1]? = some (.cells b tb (0, 0)) ∧ W0.heap[w.heap.size + 1 + 1]? = some (.cells c tc (0, 0)) ∧ Chg none' w W0 := by
  subst h
  refine ⟨?_, ?_, ?_, (((Chg.refl _ _).alloc _).alloc _).alloc _⟩
  · rw [Below.heap_alloc _ _ _ (by simp; omega), Below.heap_alloc _ _ _ (by simp)]
    exact heap_alloc_new w _
  · rw [Below.heap_alloc _ _ _ (by simp)]
    have := heap_alloc_new (w.alloc (.cells a ta)) (.cells b tb)
    simpa using this
  · have := heap_alloc_new ((w.alloc (.cells a ta)).alloc (.cells b tb)) (.cells c tc)
    simpa using this
theorem step_end {w1 : World} {g : Nat} {a b c a' b' c' : Value} {t : TypeId} {fr : Nat × Nat} (h : w1.heap[g]? = some (.cells #[a, b, c] t fr)) :
    (((w1.setCell ⟨g, 0, none⟩ a').setCell ⟨g, 1, none⟩ b').setCell ⟨g, 2, none⟩ c').heap[g]? = some (.cells #[a', b', c'] t fr) := by
  rw [heap_setCell_at (heap_setCell_at (heap_setCell_at h a') b') c']; rfl
theorem heap_lt {w : World} {g : Nat} {o : Obj} (h : w.heap[g]? = some o) : g < w.heap.size := (Array.getElem?_eq_some_iff.1 h).1

/-- What is told of a disk's step: the disk then, in blocks of 'G' or new ones; the error. -/
def StepOut (G : Nat → Prop) (w0 : World) (d : Dk) (n : Nat) (e : Ending) (w : World) : Prop :=
  ∃ vL vT, e = .returned (.tuple #[.agg #[vL, vT, .int .i64 (d.n : Int)], .int .i64 (n : Int)]) ∧ Bytes (fun b => G b ∨ w0.heap.size ≤ b) w vL d.L ∧ Bytes (fun b => G b ∨ w0.heap.size ≤ b) w vT d.T

set_option maxRecDepth 100000 in
set_option maxHeartbeats 2000000 in
theorem w_rstep6_app {G H : Nat → Prop} {w : World} {d : Dk} {vL vT u : Value} (x : Do6) (hL : Bytes G w vL d.L) (hT : Bytes G w vT d.T) (hu : Bytes H w u x.b) (hl : d.L.length + d.T.length ≤ 4194304) (hb : x.b.length ≤ 140737488355328) (k1 : x.kind = 1) :
    Calls Try.prog 59 #[.agg #[vL, vT, .int .i64 (d.n : Int)], .agg #[.int .i64 x.kind, u, .int .i64 x.kept]] w fun e w' => StepOut G w (dappE d x.b).1 (dappE d x.b).2 e w' ∧ Chg none' w w' := by
  obtain ⟨AL, nL, rfl⟩ := hL.shape
  obtain ⟨AT, nT, rfl⟩ := hT.shape
  obtain ⟨A, c, rfl⟩ := hu.shape
  have z1 : (x.kind == 1) = true := by rw [k1]; rfl
  clear k1
  unfold dappE
  by_cases hm : d.L.length + d.T.length + x.b.length ≤ 4194304
  · have z2 : ¬ (4194304 : Int) < (d.L.length : Int) + d.T.length + x.b.length := by omega
    have hlj : d.T.length + x.b.length ≤ 140737488355328 := by omega
    rw [if_pos hm]
    -- BEGIN r5
    obtain ⟨ls, hls⟩ : ∃ ls, d.T ++ x.b = ls := ⟨_, rfl⟩
    have HLs := Lib.hid hls
    clear hls
    go_enter Try.func59, Try.ntmps59
    go_upto_region 5 with (fail)
    obtain ⟨W0, hW0⟩ : ∃ W0, W0 = ((w.alloc (.cells #[.slice AL d.L.length nL, .slice AT d.T.length nT, .int .i64 (d.n : Int)] 58)).alloc (.cells #[.int .i64 x.kind, .slice A x.b.length c, .int .i64 x.kept] 107)).alloc (.cells #[.slice none 0 0, .slice none 0 0, .int .i64 0] 58) := ⟨_, rfl⟩
    rw [← hW0]
    obtain ⟨q0, q1, q2, cW⟩ := step_heap hW0
    clear hW0
    have a0 : W0.cell? ⟨w.heap.size, 0, none⟩ = some (.slice AL d.L.length nL) := by rw [cell_of_row _ _ _ _ _ _ q0]; rfl
    have a1 : W0.cell? ⟨w.heap.size, 1, none⟩ = some (.slice AT d.T.length nT) := by rw [cell_of_row _ _ _ _ _ _ q0]; rfl
    have a2 : W0.cell? ⟨w.heap.size, 2, none⟩ = some (.int .i64 (d.n : Int)) := by rw [cell_of_row _ _ _ _ _ _ q0]; rfl
    have b1 : W0.cell? ⟨w.heap.size + 1, 1, none⟩ = some (.slice A x.b.length c) := by rw [cell_of_row _ _ _ _ _ _ q1]; rfl
    have HL := hL.kept cW fun _ _ => id
    have HT := hT.kept cW fun _ _ => id
    have HU := hu.kept cW fun _ _ => id
    have hgC := heap_lt q2
    have HS2 : ∀ W : World, (W.cell? ⟨w.heap.size, 0, none⟩ = some (.slice AL d.L.length nL) ∧ W.cell? ⟨w.heap.size, 1, none⟩ = some (.slice AT d.T.length nT) ∧ W.cell? ⟨w.heap.size, 2, none⟩ = some (.int .i64 (d.n : Int)) ∧ W.cell? ⟨w.heap.size + 1, 1, none⟩ = some (.slice A x.b.length c)) → ∀ (W' : World), Chg (fun b => b = w.heap.size + 1 + 1) W W' → (W'.cell? ⟨w.heap.size, 0, none⟩ = some (.slice AL d.L.length nL) ∧ W'.cell? ⟨w.heap.size, 1, none⟩ = some (.slice AT d.T.length nT) ∧ W'.cell? ⟨w.heap.size, 2, none⟩ = some (.int .i64 (d.n : Int)) ∧ W'.cell? ⟨w.heap.size + 1, 1, none⟩ = some (.slice A x.b.length c)) := fun W c W' k => ⟨k.cell c.1 (by simp <;> omega), k.cell c.2.1 (by simp <;> omega), k.cell c.2.2.1 (by simp <;> omega), k.cell c.2.2.2 (by simp <;> omega)⟩
    have cD : Chg none' W0 W0.drew := (Chg.refl _ _).drew
    go_region_held3 (fun W => W.cell? ⟨w.heap.size, 0, none⟩ = some (.slice AL d.L.length nL) ∧ W.cell? ⟨w.heap.size, 1, none⟩ = some (.slice AT d.T.length nT) ∧ W.cell? ⟨w.heap.size, 2, none⟩ = some (.int .i64 (d.n : Int)) ∧ W.cell? ⟨w.heap.size + 1, 1, none⟩ = some (.slice A x.b.length c))
      (first | exact ⟨by assumption, by assumption, by assumption, by assumption⟩ | exact HS2 _ (by assumption) _ (cj.mono fun _ _ => False.elim) | exact HS2 _ (by assumption) _ ((((Chg.refl (fun b => b = w.heap.size + 1 + 1) _).setCell (.inr rfl) _).setCell (.inr rfl) _).setCell (.inr rfl) _) | go_keep)
      (first | (go_at_call 44; refine (w_join _ (HT.kept cD fun _ _ => id) (HU.kept cD fun _ _ => id) hlj).mono ?_; rintro e w1 ⟨v1, rfl, oj, cj⟩; try rw [HLs.out] at oj; obtain ⟨A1, n1, rfl⟩ := oj.shape; have qC := (cj.block _ hgC id).trans q2; have y0 : w1.cell? ⟨w.heap.size + 1 + 1, 0, none⟩ = some (.slice none 0 0) := (by rw [cell_of_row _ _ _ _ _ _ qC]; rfl); have y1 : w1.cell? ⟨w.heap.size + 1 + 1, 1, none⟩ = some (.slice none 0 0) := (by rw [cell_of_row _ _ _ _ _ _ qC]; rfl); have y2 : w1.cell? ⟨w.heap.size + 1 + 1, 2, none⟩ = some (.int .i64 0) := (by rw [cell_of_row _ _ _ _ _ _ qC]; rfl); have g0 : w1.frozen? ⟨w.heap.size + 1 + 1, 0, none⟩ = false := (by simp [World.frozen?, qC]); have g1 : w1.frozen? ⟨w.heap.size + 1 + 1, 1, none⟩ = false := (by simp [World.frozen?, qC]); have g2 : w1.frozen? ⟨w.heap.size + 1 + 1, 2, none⟩ = false := (by simp [World.frozen?, qC])))
    obtain ⟨W3, hW3⟩ : ∃ W3, W3 = ((w1.setCell ⟨w.heap.size + 1 + 1, 0, none⟩ (.slice AL d.L.length nL)).setCell ⟨w.heap.size + 1 + 1, 1, none⟩ (.slice A1 ls.length n1)).setCell ⟨w.heap.size + 1 + 1, 2, none⟩ (.int .i64 (d.n : Int)) := ⟨_, rfl⟩
    rw [← hW3]
    have qC := (cj.block _ hgC id).trans q2
    have qE := step_end (a' := .slice AL d.L.length nL) (b' := .slice A1 ls.length n1) (c' := .int .i64 (d.n : Int)) qC
    rw [← hW3] at qE
    have c3 : Chg (fun b => b = w.heap.size + 1 + 1) w1 W3 := by rw [hW3]; exact (((Chg.refl (fun b => b = w.heap.size + 1 + 1) _).setCell (.inr rfl) _).setCell (.inr rfl) _).setCell (.inr rfl) _
    clear hW3
    have e0 : W3.cell? ⟨w.heap.size + 1 + 1, 0, none⟩ = some (.slice AL d.L.length nL) := by rw [cell_of_row _ _ _ _ _ _ qE]; rfl
    have e1 : W3.cell? ⟨w.heap.size + 1 + 1, 1, none⟩ = some (.slice A1 ls.length n1) := by rw [cell_of_row _ _ _ _ _ _ qE]; rfl
    have e2 : W3.cell? ⟨w.heap.size + 1 + 1, 2, none⟩ = some (.int .i64 (d.n : Int)) := by rw [cell_of_row _ _ _ _ _ _ qE]; rfl
    go_wp2
    refine bodyPost_ret (v := .tuple #[.agg #[.slice AL d.L.length nL, .slice A1 ls.length n1, .int .i64 (d.n : Int)], .int .i64 0]) (by simp [results, Try.results59, go_sem, e0, e1, e2]) rfl ?_
    have cA : Chg none' w w1 := (cW.trans cD).trans cj
    have cN : Chg none' w W3 := cA.trans' c3 fun i hi e => by omega
    have oj' := oj.keep c3 fun b hb e => by have := oj.base_ b hb; have := cD.size; omega
    have bN := Row.mono (F' := fun b => G b ∨ w.heap.size ≤ b) oj'.bytes fun b _ e => .inr (by have := oj.base_ b e; have := cD.size; have := cW.size; omega)
    have bL := Row.mono (F' := fun b => G b ∨ w.heap.size ≤ b) (hL.kept cN fun _ _ => id) fun b _ e => .inl e
    have bT := Row.mono (F' := fun b => G b ∨ w.heap.size ≤ b) (hT.kept cN fun _ _ => id) fun b _ e => .inl e
    exact ⟨⟨_, _, rfl, bL, by unfold dapp; rw [HLs.out]; exact bN⟩, cN⟩
    -- END r5
  · have z2 : (4194304 : Int) < (d.L.length : Int) + d.T.length + x.b.length := by omega
    rw [if_neg hm]
    -- BEGIN p1
    go_enter Try.func59, Try.ntmps59
    go_wp2
    refine bodyPost_ret (v := .tuple #[.agg #[.slice AL d.L.length nL, .slice AT d.T.length nT, .int .i64 (d.n : Int)], .int .i64 3]) (by simp [results, Try.results59, go_sem]) rfl ?_
    have cN : Chg none' w (((w.alloc (.cells #[.slice AL d.L.length nL, .slice AT d.T.length nT, .int .i64 (d.n : Int)] 58)).alloc (.cells #[.int .i64 x.kind, .slice A x.b.length c, .int .i64 x.kept] 107)).alloc (.cells #[.slice AL d.L.length nL, .slice AT d.T.length nT, .int .i64 (d.n : Int)] 58)) := (((Chg.refl _ _).alloc _).alloc _).alloc _
    exact ⟨⟨_, _, rfl, Row.mono (hL.kept cN fun _ _ => id) fun b _ e => .inl e, Row.mono (hT.kept cN fun _ _ => id) fun b _ e => .inl e⟩, cN⟩
    -- END p1

set_option maxRecDepth 100000 in
set_option maxHeartbeats 2000000 in
theorem w_rstep6_sync {G H : Nat → Prop} {w : World} {d : Dk} {vL vT u : Value} (x : Do6) (hL : Bytes G w vL d.L) (hT : Bytes G w vT d.T) (hu : Bytes H w u x.b) (hl : d.L.length + d.T.length ≤ 4194304) (hn : d.n ≤ 1000000000000000) (k2 : x.kind = 2) :
    Calls Try.prog 59 #[.agg #[vL, vT, .int .i64 (d.n : Int)], .agg #[.int .i64 x.kind, u, .int .i64 x.kept]] w fun e w' => StepOut G w (dsync d) 0 e w' ∧ Chg none' w w' := by
  obtain ⟨AL, nL, rfl⟩ := hL.shape
  obtain ⟨AT, nT, rfl⟩ := hT.shape
  obtain ⟨A, c, rfl⟩ := hu.shape
  have z1 : (x.kind == 1) = false := by rw [k2]; rfl
  have z2 : (x.kind == 2) = true := by rw [k2]; rfl
  clear k2
  by_cases h0 : d.T.length = 0
  · have z3 : ((d.T.length : Int) == 0) = true := by rw [beq_iff_eq]; omega
    have e0 : dsync d = d := by
      unfold dsync
      rw [if_pos h0, List.eq_nil_of_length_eq_zero h0, List.append_nil]
      cases d
      simp at h0 ⊢
      exact h0
    rw [e0]
    clear h0
    -- BEGIN p2
    go_enter Try.func59, Try.ntmps59
    go_wp2
    refine bodyPost_ret (v := .tuple #[.agg #[.slice AL d.L.length nL, .slice AT d.T.length nT, .int .i64 (d.n : Int)], .int .i64 0]) (by simp [results, Try.results59, go_sem]) rfl ?_
    have cN : Chg none' w (((w.alloc (.cells #[.slice AL d.L.length nL, .slice AT d.T.length nT, .int .i64 (d.n : Int)] 58)).alloc (.cells #[.int .i64 x.kind, .slice A x.b.length c, .int .i64 x.kept] 107)).alloc (.cells #[.slice AL d.L.length nL, .slice AT d.T.length nT, .int .i64 (d.n : Int)] 58)) := (((Chg.refl _ _).alloc _).alloc _).alloc _
    exact ⟨⟨_, _, rfl, Row.mono (hL.kept cN fun _ _ => id) fun b _ e => .inl e, Row.mono (hT.kept cN fun _ _ => id) fun b _ e => .inl e⟩, cN⟩
    -- END p2
  · have z3 : ((d.T.length : Int) == 0) = false := by rw [beq_eq_false_iff_ne]; omega
    have hlj : d.L.length + d.T.length ≤ 140737488355328 := by omega
    -- BEGIN r9
    obtain ⟨ls, hls⟩ : ∃ ls, d.L ++ d.T = ls := ⟨_, rfl⟩
    have HLs := Lib.hid hls
    clear hls
    go_enter Try.func59, Try.ntmps59
    go_upto_region 9 with (fail)
    obtain ⟨W0, hW0⟩ : ∃ W0, W0 = ((w.alloc (.cells #[.slice AL d.L.length nL, .slice AT d.T.length nT, .int .i64 (d.n : Int)] 58)).alloc (.cells #[.int .i64 x.kind, .slice A x.b.length c, .int .i64 x.kept] 107)).alloc (.cells #[.slice none 0 0, .slice none 0 0, .int .i64 0] 58) := ⟨_, rfl⟩
    rw [← hW0]
    obtain ⟨q0, q1, q2, cW⟩ := step_heap hW0
    clear hW0
    have a0 : W0.cell? ⟨w.heap.size, 0, none⟩ = some (.slice AL d.L.length nL) := by rw [cell_of_row _ _ _ _ _ _ q0]; rfl
    have a1 : W0.cell? ⟨w.heap.size, 1, none⟩ = some (.slice AT d.T.length nT) := by rw [cell_of_row _ _ _ _ _ _ q0]; rfl
    have a2 : W0.cell? ⟨w.heap.size, 2, none⟩ = some (.int .i64 (d.n : Int)) := by rw [cell_of_row _ _ _ _ _ _ q0]; rfl
    have HL := hL.kept cW fun _ _ => id
    have HT := hT.kept cW fun _ _ => id
    have HU := hu.kept cW fun _ _ => id
    have hgC := heap_lt q2
    have HS2 : ∀ W : World, (W.cell? ⟨w.heap.size, 0, none⟩ = some (.slice AL d.L.length nL) ∧ W.cell? ⟨w.heap.size, 1, none⟩ = some (.slice AT d.T.length nT) ∧ W.cell? ⟨w.heap.size, 2, none⟩ = some (.int .i64 (d.n : Int))) → ∀ (W' : World), Chg (fun b => b = w.heap.size + 1 + 1) W W' → (W'.cell? ⟨w.heap.size, 0, none⟩ = some (.slice AL d.L.length nL) ∧ W'.cell? ⟨w.heap.size, 1, none⟩ = some (.slice AT d.T.length nT) ∧ W'.cell? ⟨w.heap.size, 2, none⟩ = some (.int .i64 (d.n : Int))) := fun W c W' k => ⟨k.cell c.1 (by simp <;> omega), k.cell c.2.1 (by simp <;> omega), k.cell c.2.2 (by simp <;> omega)⟩
    have cD : Chg none' W0 W0.drew := (Chg.refl _ _).drew
    go_region_held3 (fun W => W.cell? ⟨w.heap.size, 0, none⟩ = some (.slice AL d.L.length nL) ∧ W.cell? ⟨w.heap.size, 1, none⟩ = some (.slice AT d.T.length nT) ∧ W.cell? ⟨w.heap.size, 2, none⟩ = some (.int .i64 (d.n : Int)))
      (first | exact ⟨by assumption, by assumption, by assumption⟩ | exact HS2 _ (by assumption) _ (cj.mono fun _ _ => False.elim) | exact HS2 _ (by assumption) _ ((((Chg.refl (fun b => b = w.heap.size + 1 + 1) _).setCell (.inr rfl) _).setCell (.inr rfl) _).setCell (.inr rfl) _) | go_keep)
      (first | (go_at_call 44; refine (w_join _ (HL.kept cD fun _ _ => id) (HT.kept cD fun _ _ => id) hlj).mono ?_; rintro e w1 ⟨v1, rfl, oj, cj⟩; try rw [HLs.out] at oj; obtain ⟨A1, n1, rfl⟩ := oj.shape; have qC := (cj.block _ hgC id).trans q2; have y0 : w1.cell? ⟨w.heap.size + 1 + 1, 0, none⟩ = some (.slice none 0 0) := (by rw [cell_of_row _ _ _ _ _ _ qC]; rfl); have y1 : w1.cell? ⟨w.heap.size + 1 + 1, 1, none⟩ = some (.slice none 0 0) := (by rw [cell_of_row _ _ _ _ _ _ qC]; rfl); have y2 : w1.cell? ⟨w.heap.size + 1 + 1, 2, none⟩ = some (.int .i64 0) := (by rw [cell_of_row _ _ _ _ _ _ qC]; rfl); have g0 : w1.frozen? ⟨w.heap.size + 1 + 1, 0, none⟩ = false := (by simp [World.frozen?, qC]); have g1 : w1.frozen? ⟨w.heap.size + 1 + 1, 1, none⟩ = false := (by simp [World.frozen?, qC]); have g2 : w1.frozen? ⟨w.heap.size + 1 + 1, 2, none⟩ = false := (by simp [World.frozen?, qC])))
    rw [show IntKind.i64.wrap ((d.n : Int) + 1) = (d.n : Int) + 1 from IntWalk.i64_in _ (by omega)]
    obtain ⟨W3, hW3⟩ : ∃ W3, W3 = ((w1.setCell ⟨w.heap.size + 1 + 1, 0, none⟩ (.slice A1 ls.length n1)).setCell ⟨w.heap.size + 1 + 1, 1, none⟩ (.slice none 0 0)).setCell ⟨w.heap.size + 1 + 1, 2, none⟩ (.int .i64 ((d.n : Int) + 1)) := ⟨_, rfl⟩
    rw [← hW3]
    have qC := (cj.block _ hgC id).trans q2
    have qE := step_end (a' := .slice A1 ls.length n1) (b' := .slice none 0 0) (c' := .int .i64 ((d.n : Int) + 1)) qC
    rw [← hW3] at qE
    have c3 : Chg (fun b => b = w.heap.size + 1 + 1) w1 W3 := by rw [hW3]; exact (((Chg.refl (fun b => b = w.heap.size + 1 + 1) _).setCell (.inr rfl) _).setCell (.inr rfl) _).setCell (.inr rfl) _
    clear hW3
    have e0 : W3.cell? ⟨w.heap.size + 1 + 1, 0, none⟩ = some (.slice A1 ls.length n1) := by rw [cell_of_row _ _ _ _ _ _ qE]; rfl
    have e1 : W3.cell? ⟨w.heap.size + 1 + 1, 1, none⟩ = some (.slice none 0 0) := by rw [cell_of_row _ _ _ _ _ _ qE]; rfl
    have e2 : W3.cell? ⟨w.heap.size + 1 + 1, 2, none⟩ = some (.int .i64 ((d.n : Int) + 1)) := by rw [cell_of_row _ _ _ _ _ _ qE]; rfl
    go_wp2
    refine bodyPost_ret (v := .tuple #[.agg #[.slice A1 ls.length n1, .slice none 0 0, .int .i64 ((d.n : Int) + 1)], .int .i64 0]) (by simp [results, Try.results59, go_sem, e0, e1, e2]) rfl ?_
    have cA : Chg none' w w1 := (cW.trans cD).trans cj
    have cN : Chg none' w W3 := cA.trans' c3 fun i hi e => by omega
    have oj' := oj.keep c3 fun b hb e => by have := oj.base_ b hb; have := cD.size; omega
    have bN := Row.mono (F' := fun b => G b ∨ w.heap.size ≤ b) oj'.bytes fun b _ e => .inr (by have := oj.base_ b e; have := cD.size; have := cW.size; omega)
    have bL := Row.mono (F' := fun b => G b ∨ w.heap.size ≤ b) (hL.kept cN fun _ _ => id) fun b _ e => .inl e
    have bT := Row.mono (F' := fun b => G b ∨ w.heap.size ≤ b) (hT.kept cN fun _ _ => id) fun b _ e => .inl e
    have hnn : (((dsync d).n : Nat) : Int) = (d.n : Int) + 1 := by unfold dsync; rw [if_neg h0]; rfl
    exact ⟨⟨_, _, by rw [hnn]; rfl, by unfold dsync; rw [HLs.out]; exact bN, Row.nil⟩, cN⟩
    -- END r9

set_option maxRecDepth 100000 in
set_option maxHeartbeats 2000000 in
theorem w_rstep6_repl {G H : Nat → Prop} {w : World} {d : Dk} {vL vT u : Value} (x : Do6) (hL : Bytes G w vL d.L) (hT : Bytes G w vT d.T) (hu : Bytes H w u x.b) (hb : x.b.length ≤ 140737488355328) (k3 : x.kind = 3) :
    Calls Try.prog 59 #[.agg #[vL, vT, .int .i64 (d.n : Int)], .agg #[.int .i64 x.kind, u, .int .i64 x.kept]] w fun e w' => StepOut G w (if x.b.length ≤ 4194304 then (⟨x.b, [], d.n⟩, 0) else (d, 3) : Dk × Nat).1 (if x.b.length ≤ 4194304 then ((⟨x.b, [], d.n⟩ : Dk), 0) else (d, 3)).2 e w' ∧ Chg none' w w' := by
  obtain ⟨AL, nL, rfl⟩ := hL.shape
  obtain ⟨AT, nT, rfl⟩ := hT.shape
  obtain ⟨A, c, rfl⟩ := hu.shape
  have z1 : (x.kind == 1) = false := by rw [k3]; rfl
  have z2 : (x.kind == 2) = false := by rw [k3]; rfl
  have z3 : (x.kind == 3) = true := by rw [k3]; rfl
  clear k3
  have hlj := hb
  by_cases hm : x.b.length ≤ 4194304
  · have z4 : ¬ 4194304 < x.b.length := by omega
    rw [if_pos hm]
    -- BEGIN r13
    obtain ⟨ls, hls⟩ : ∃ ls, x.b = ls := ⟨_, rfl⟩
    have HLs := Lib.hid hls
    clear hls
    go_enter Try.func59, Try.ntmps59
    go_upto_region 13 with (fail)
    obtain ⟨W0, hW0⟩ : ∃ W0, W0 = ((w.alloc (.cells #[.slice AL d.L.length nL, .slice AT d.T.length nT, .int .i64 (d.n : Int)] 58)).alloc (.cells #[.int .i64 x.kind, .slice A x.b.length c, .int .i64 x.kept] 107)).alloc (.cells #[.slice none 0 0, .slice none 0 0, .int .i64 0] 58) := ⟨_, rfl⟩
    rw [← hW0]
    obtain ⟨q0, q1, q2, cW⟩ := step_heap hW0
    clear hW0
    have b1 : W0.cell? ⟨w.heap.size + 1, 1, none⟩ = some (.slice A x.b.length c) := by rw [cell_of_row _ _ _ _ _ _ q1]; rfl
    have a2 : W0.cell? ⟨w.heap.size, 2, none⟩ = some (.int .i64 (d.n : Int)) := by rw [cell_of_row _ _ _ _ _ _ q0]; rfl
    have HL := hL.kept cW fun _ _ => id
    have HT := hT.kept cW fun _ _ => id
    have HU := hu.kept cW fun _ _ => id
    have hgC := heap_lt q2
    have HS2 : ∀ W : World, (W.cell? ⟨w.heap.size + 1, 1, none⟩ = some (.slice A x.b.length c) ∧ W.cell? ⟨w.heap.size, 2, none⟩ = some (.int .i64 (d.n : Int))) → ∀ (W' : World), Chg (fun b => b = w.heap.size + 1 + 1) W W' → (W'.cell? ⟨w.heap.size + 1, 1, none⟩ = some (.slice A x.b.length c) ∧ W'.cell? ⟨w.heap.size, 2, none⟩ = some (.int .i64 (d.n : Int))) := fun W c W' k => ⟨k.cell c.1 (by simp <;> omega), k.cell c.2 (by simp <;> omega)⟩
    have cD : Chg none' W0 W0.drew := (Chg.refl _ _).drew
    go_region_held3 (fun W => W.cell? ⟨w.heap.size + 1, 1, none⟩ = some (.slice A x.b.length c) ∧ W.cell? ⟨w.heap.size, 2, none⟩ = some (.int .i64 (d.n : Int)))
      (first | exact ⟨by assumption, by assumption⟩ | exact HS2 _ (by assumption) _ (cj.mono fun _ _ => False.elim) | exact HS2 _ (by assumption) _ ((((Chg.refl (fun b => b = w.heap.size + 1 + 1) _).setCell (.inr rfl) _).setCell (.inr rfl) _).setCell (.inr rfl) _) | go_keep)
      (first | (go_at_call 55; refine (w_copy _ (HU.kept cD fun _ _ => id) hlj).mono ?_; rintro e w1 ⟨v1, rfl, oj, cj⟩; try rw [HLs.out] at oj; obtain ⟨A1, n1, rfl⟩ := oj.shape; have qC := (cj.block _ hgC id).trans q2; have y0 : w1.cell? ⟨w.heap.size + 1 + 1, 0, none⟩ = some (.slice none 0 0) := (by rw [cell_of_row _ _ _ _ _ _ qC]; rfl); have y1 : w1.cell? ⟨w.heap.size + 1 + 1, 1, none⟩ = some (.slice none 0 0) := (by rw [cell_of_row _ _ _ _ _ _ qC]; rfl); have y2 : w1.cell? ⟨w.heap.size + 1 + 1, 2, none⟩ = some (.int .i64 0) := (by rw [cell_of_row _ _ _ _ _ _ qC]; rfl); have g0 : w1.frozen? ⟨w.heap.size + 1 + 1, 0, none⟩ = false := (by simp [World.frozen?, qC]); have g1 : w1.frozen? ⟨w.heap.size + 1 + 1, 1, none⟩ = false := (by simp [World.frozen?, qC]); have g2 : w1.frozen? ⟨w.heap.size + 1 + 1, 2, none⟩ = false := (by simp [World.frozen?, qC])))
    obtain ⟨W3, hW3⟩ : ∃ W3, W3 = ((w1.setCell ⟨w.heap.size + 1 + 1, 0, none⟩ (.slice A1 ls.length n1)).setCell ⟨w.heap.size + 1 + 1, 1, none⟩ (.slice none 0 0)).setCell ⟨w.heap.size + 1 + 1, 2, none⟩ (.int .i64 (d.n : Int)) := ⟨_, rfl⟩
    rw [← hW3]
    have qC := (cj.block _ hgC id).trans q2
    have qE := step_end (a' := .slice A1 ls.length n1) (b' := .slice none 0 0) (c' := .int .i64 (d.n : Int)) qC
    rw [← hW3] at qE
    have c3 : Chg (fun b => b = w.heap.size + 1 + 1) w1 W3 := by rw [hW3]; exact (((Chg.refl (fun b => b = w.heap.size + 1 + 1) _).setCell (.inr rfl) _).setCell (.inr rfl) _).setCell (.inr rfl) _
    clear hW3
    have e0 : W3.cell? ⟨w.heap.size + 1 + 1, 0, none⟩ = some (.slice A1 ls.length n1) := by rw [cell_of_row _ _ _ _ _ _ qE]; rfl
    have e1 : W3.cell? ⟨w.heap.size + 1 + 1, 1, none⟩ = some (.slice none 0 0) := by rw [cell_of_row _ _ _ _ _ _ qE]; rfl
    have e2 : W3.cell? ⟨w.heap.size + 1 + 1, 2, none⟩ = some (.int .i64 (d.n : Int)) := by rw [cell_of_row _ _ _ _ _ _ qE]; rfl
    go_wp2
    refine bodyPost_ret (v := .tuple #[.agg #[.slice A1 ls.length n1, .slice none 0 0, .int .i64 (d.n : Int)], .int .i64 0]) (by simp [results, Try.results59, go_sem, e0, e1, e2]) rfl ?_
    have cA : Chg none' w w1 := (cW.trans cD).trans cj
    have cN : Chg none' w W3 := cA.trans' c3 fun i hi e => by omega
    have oj' := oj.keep c3 fun b hb e => by have := oj.base_ b hb; have := cD.size; omega
    have bN := Row.mono (F' := fun b => G b ∨ w.heap.size ≤ b) oj'.bytes fun b _ e => .inr (by have := oj.base_ b e; have := cD.size; have := cW.size; omega)
    have bL := Row.mono (F' := fun b => G b ∨ w.heap.size ≤ b) (hL.kept cN fun _ _ => id) fun b _ e => .inl e
    have bT := Row.mono (F' := fun b => G b ∨ w.heap.size ≤ b) (hT.kept cN fun _ _ => id) fun b _ e => .inl e
    exact ⟨⟨_, _, rfl, by rw [HLs.out]; exact bN, Row.nil⟩, cN⟩
    -- END r13
  · have z4 : 4194304 < x.b.length := by omega
    rw [if_neg hm]
    -- BEGIN p3
    go_enter Try.func59, Try.ntmps59
    go_wp2
    refine bodyPost_ret (v := .tuple #[.agg #[.slice AL d.L.length nL, .slice AT d.T.length nT, .int .i64 (d.n : Int)], .int .i64 3]) (by simp [results, Try.results59, go_sem]) rfl ?_
    have cN : Chg none' w (((w.alloc (.cells #[.slice AL d.L.length nL, .slice AT d.T.length nT, .int .i64 (d.n : Int)] 58)).alloc (.cells #[.int .i64 x.kind, .slice A x.b.length c, .int .i64 x.kept] 107)).alloc (.cells #[.slice AL d.L.length nL, .slice AT d.T.length nT, .int .i64 (d.n : Int)] 58)) := (((Chg.refl _ _).alloc _).alloc _).alloc _
    exact ⟨⟨_, _, rfl, Row.mono (hL.kept cN fun _ _ => id) fun b _ e => .inl e, Row.mono (hT.kept cN fun _ _ => id) fun b _ e => .inl e⟩, cN⟩
    -- END p3

set_option maxRecDepth 100000 in
set_option maxHeartbeats 2000000 in
theorem w_rstep6_crash {G H : Nat → Prop} {w : World} {d : Dk} {vL vT u : Value} (x : Do6) (hL : Bytes G w vL d.L) (hT : Bytes G w vT d.T) (hu : Bytes H w u x.b) (hl : d.L.length + d.T.length ≤ 4194304) (k1 : x.kind ≠ 1) (k2 : x.kind ≠ 2) (k3 : x.kind ≠ 3) :
    Calls Try.prog 59 #[.agg #[vL, vT, .int .i64 (d.n : Int)], .agg #[.int .i64 x.kind, u, .int .i64 x.kept]] w fun e w' => StepOut G w (if x.kept < 0 then (d, 2) else (dcrash d x.kept.toNat, 0)).1 (if x.kept < 0 then (d, 2) else (dcrash d x.kept.toNat, 0)).2 e w' ∧ Chg none' w w' := by
  obtain ⟨AL, nL, rfl⟩ := hL.shape
  obtain ⟨AT, nT, rfl⟩ := hT.shape
  obtain ⟨A, c, rfl⟩ := hu.shape
  have z1 : (x.kind == 1) = false := by rw [beq_eq_false_iff_ne]; exact k1
  have z2 : (x.kind == 2) = false := by rw [beq_eq_false_iff_ne]; exact k2
  have z3 : (x.kind == 3) = false := by rw [beq_eq_false_iff_ne]; exact k3
  clear k1 k2 k3
  by_cases hm : x.kept < 0
  · rw [if_pos hm]
    -- BEGIN p4
    go_enter Try.func59, Try.ntmps59
    go_wp2
    refine bodyPost_ret (v := .tuple #[.agg #[.slice AL d.L.length nL, .slice AT d.T.length nT, .int .i64 (d.n : Int)], .int .i64 2]) (by simp [results, Try.results59, go_sem]) rfl ?_
    have cN : Chg none' w (((w.alloc (.cells #[.slice AL d.L.length nL, .slice AT d.T.length nT, .int .i64 (d.n : Int)] 58)).alloc (.cells #[.int .i64 x.kind, .slice A x.b.length c, .int .i64 x.kept] 107)).alloc (.cells #[.slice AL d.L.length nL, .slice AT d.T.length nT, .int .i64 (d.n : Int)] 58)) := (((Chg.refl _ _).alloc _).alloc _).alloc _
    exact ⟨⟨_, _, rfl, Row.mono (hL.kept cN fun _ _ => id) fun b _ e => .inl e, Row.mono (hT.kept cN fun _ _ => id) fun b _ e => .inl e⟩, cN⟩
    -- END p4
  · rw [if_neg hm]
    obtain ⟨k, hk⟩ : ∃ k, min x.kept.toNat d.T.length = k := ⟨_, rfl⟩
    have hkl : k ≤ d.T.length := by omega
    have HTk := Lib.hid (take_min d.T x.kept.toNat)
    rw [hk] at HTk
    have hkm : (if (d.T.length : Int) < x.kept then (d.T.length : Int) else x.kept) = (k : Int) := by split <;> omega
    have hkn : (k : Int) ≤ nT := by
      obtain ⟨A, c', e, q, _⟩ := hT
      simp only [Value.slice.injEq] at e
      omega
    have htk : (d.T.take k).length = k := by rw [List.length_take]; omega
    have hlj : d.L.length + (d.T.take k).length ≤ 140737488355328 := by omega
    clear hk htk
    -- BEGIN r16
    obtain ⟨ls, hls⟩ : ∃ ls, d.L ++ d.T.take k = ls := ⟨_, rfl⟩
    have HLs := Lib.hid hls
    clear hls
    go_enter Try.func59, Try.ntmps59
    go_upto_region 16 with (fail)
    obtain ⟨W0, hW0⟩ : ∃ W0, W0 = ((w.alloc (.cells #[.slice AL d.L.length nL, .slice AT d.T.length nT, .int .i64 (d.n : Int)] 58)).alloc (.cells #[.int .i64 x.kind, .slice A x.b.length c, .int .i64 x.kept] 107)).alloc (.cells #[.slice none 0 0, .slice none 0 0, .int .i64 0] 58) := ⟨_, rfl⟩
    rw [← hW0]
    obtain ⟨q0, q1, q2, cW⟩ := step_heap hW0
    clear hW0
    have a0 : W0.cell? ⟨w.heap.size, 0, none⟩ = some (.slice AL d.L.length nL) := by rw [cell_of_row _ _ _ _ _ _ q0]; rfl
    have a1 : W0.cell? ⟨w.heap.size, 1, none⟩ = some (.slice AT d.T.length nT) := by rw [cell_of_row _ _ _ _ _ _ q0]; rfl
    have a2 : W0.cell? ⟨w.heap.size, 2, none⟩ = some (.int .i64 (d.n : Int)) := by rw [cell_of_row _ _ _ _ _ _ q0]; rfl
    have b2 : W0.cell? ⟨w.heap.size + 1, 2, none⟩ = some (.int .i64 x.kept) := by rw [cell_of_row _ _ _ _ _ _ q1]; rfl
    have HL := hL.kept cW fun _ _ => id
    have HT := hT.kept cW fun _ _ => id
    have HU := hu.kept cW fun _ _ => id
    have hgC := heap_lt q2
    have HS2 : ∀ W : World, (W.cell? ⟨w.heap.size, 0, none⟩ = some (.slice AL d.L.length nL) ∧ W.cell? ⟨w.heap.size, 1, none⟩ = some (.slice AT d.T.length nT) ∧ W.cell? ⟨w.heap.size, 2, none⟩ = some (.int .i64 (d.n : Int)) ∧ W.cell? ⟨w.heap.size + 1, 2, none⟩ = some (.int .i64 x.kept)) → ∀ (W' : World), Chg (fun b => b = w.heap.size + 1 + 1) W W' → (W'.cell? ⟨w.heap.size, 0, none⟩ = some (.slice AL d.L.length nL) ∧ W'.cell? ⟨w.heap.size, 1, none⟩ = some (.slice AT d.T.length nT) ∧ W'.cell? ⟨w.heap.size, 2, none⟩ = some (.int .i64 (d.n : Int)) ∧ W'.cell? ⟨w.heap.size + 1, 2, none⟩ = some (.int .i64 x.kept)) := fun W c W' k => ⟨k.cell c.1 (by simp <;> omega), k.cell c.2.1 (by simp <;> omega), k.cell c.2.2.1 (by simp <;> omega), k.cell c.2.2.2 (by simp <;> omega)⟩
    have cD : Chg none' W0 W0.drew := (Chg.refl _ _).drew
    go_region_held3 (fun W => W.cell? ⟨w.heap.size, 0, none⟩ = some (.slice AL d.L.length nL) ∧ W.cell? ⟨w.heap.size, 1, none⟩ = some (.slice AT d.T.length nT) ∧ W.cell? ⟨w.heap.size, 2, none⟩ = some (.int .i64 (d.n : Int)) ∧ W.cell? ⟨w.heap.size + 1, 2, none⟩ = some (.int .i64 x.kept))
      (first | exact ⟨by assumption, by assumption, by assumption, by assumption⟩ | exact HS2 _ (by assumption) _ (cj.mono fun _ _ => False.elim) | exact HS2 _ (by assumption) _ ((((Chg.refl (fun b => b = w.heap.size + 1 + 1) _).setCell (.inr rfl) _).setCell (.inr rfl) _).setCell (.inr rfl) _) | go_keep)
      (first | (go_at_call 44; refine (w_join _ (HL.kept cD fun _ _ => id) (Row.hi' (HT.kept cD fun _ _ => id) hkl) hlj).mono ?_; rintro e w1 ⟨v1, rfl, oj, cj⟩; try rw [HLs.out] at oj; obtain ⟨A1, n1, rfl⟩ := oj.shape; have qC := (cj.block _ hgC id).trans q2; have y0 : w1.cell? ⟨w.heap.size + 1 + 1, 0, none⟩ = some (.slice none 0 0) := (by rw [cell_of_row _ _ _ _ _ _ qC]; rfl); have y1 : w1.cell? ⟨w.heap.size + 1 + 1, 1, none⟩ = some (.slice none 0 0) := (by rw [cell_of_row _ _ _ _ _ _ qC]; rfl); have y2 : w1.cell? ⟨w.heap.size + 1 + 1, 2, none⟩ = some (.int .i64 0) := (by rw [cell_of_row _ _ _ _ _ _ qC]; rfl); have g0 : w1.frozen? ⟨w.heap.size + 1 + 1, 0, none⟩ = false := (by simp [World.frozen?, qC]); have g1 : w1.frozen? ⟨w.heap.size + 1 + 1, 1, none⟩ = false := (by simp [World.frozen?, qC]); have g2 : w1.frozen? ⟨w.heap.size + 1 + 1, 2, none⟩ = false := (by simp [World.frozen?, qC])))
    obtain ⟨W3, hW3⟩ : ∃ W3, W3 = ((w1.setCell ⟨w.heap.size + 1 + 1, 0, none⟩ (.slice A1 ls.length n1)).setCell ⟨w.heap.size + 1 + 1, 1, none⟩ (.slice none 0 0)).setCell ⟨w.heap.size + 1 + 1, 2, none⟩ (.int .i64 (d.n : Int)) := ⟨_, rfl⟩
    rw [← hW3]
    have qC := (cj.block _ hgC id).trans q2
    have qE := step_end (a' := .slice A1 ls.length n1) (b' := .slice none 0 0) (c' := .int .i64 (d.n : Int)) qC
    rw [← hW3] at qE
    have c3 : Chg (fun b => b = w.heap.size + 1 + 1) w1 W3 := by rw [hW3]; exact (((Chg.refl (fun b => b = w.heap.size + 1 + 1) _).setCell (.inr rfl) _).setCell (.inr rfl) _).setCell (.inr rfl) _
    clear hW3
    have e0 : W3.cell? ⟨w.heap.size + 1 + 1, 0, none⟩ = some (.slice A1 ls.length n1) := by rw [cell_of_row _ _ _ _ _ _ qE]; rfl
    have e1 : W3.cell? ⟨w.heap.size + 1 + 1, 1, none⟩ = some (.slice none 0 0) := by rw [cell_of_row _ _ _ _ _ _ qE]; rfl
    have e2 : W3.cell? ⟨w.heap.size + 1 + 1, 2, none⟩ = some (.int .i64 (d.n : Int)) := by rw [cell_of_row _ _ _ _ _ _ qE]; rfl
    go_wp2
    refine bodyPost_ret (v := .tuple #[.agg #[.slice A1 ls.length n1, .slice none 0 0, .int .i64 (d.n : Int)], .int .i64 0]) (by simp [results, Try.results59, go_sem, e0, e1, e2]) rfl ?_
    have cA : Chg none' w w1 := (cW.trans cD).trans cj
    have cN : Chg none' w W3 := cA.trans' c3 fun i hi e => by omega
    have oj' := oj.keep c3 fun b hb e => by have := oj.base_ b hb; have := cD.size; omega
    have bN := Row.mono (F' := fun b => G b ∨ w.heap.size ≤ b) oj'.bytes fun b _ e => .inr (by have := oj.base_ b e; have := cD.size; have := cW.size; omega)
    have bL := Row.mono (F' := fun b => G b ∨ w.heap.size ≤ b) (hL.kept cN fun _ _ => id) fun b _ e => .inl e
    have bT := Row.mono (F' := fun b => G b ∨ w.heap.size ≤ b) (hT.kept cN fun _ _ => id) fun b _ e => .inl e
    exact ⟨⟨_, _, rfl, by unfold dcrash; rw [← HTk.out, HLs.out]; exact bN, Row.nil⟩, cN⟩
    -- END r16

theorem w_rstep6 {G H : Nat → Prop} {w : World} {d : Dk} {vL vT u : Value} (x : Do6) (hL : Bytes G w vL d.L) (hT : Bytes G w vT d.T) (hu : Bytes H w u x.b) (hl : d.L.length + d.T.length ≤ 4194304) (hn : d.n ≤ 1000000000000000) (hb : x.b.length ≤ 140737488355328) :
    Calls Try.prog 59 #[.agg #[vL, vT, .int .i64 (d.n : Int)], .agg #[.int .i64 x.kind, u, .int .i64 x.kept]] w fun e w' => StepOut G w (ddo d x).1 (ddo d x).2 e w' ∧ Chg none' w w' := by
  unfold ddo
  by_cases k1 : x.kind = 1
  · rw [if_pos k1]; exact w_rstep6_app x hL hT hu hl hb k1
  rw [if_neg k1]
  by_cases k2 : x.kind = 2
  · rw [if_pos k2]; exact w_rstep6_sync x hL hT hu hl hn k2
  rw [if_neg k2]
  by_cases k3 : x.kind = 3
  · rw [if_pos k3]; exact w_rstep6_repl x hL hT hu hb k3
  rw [if_neg k3]
  exact w_rstep6_crash x hL hT hu hl k1 k2 k3

end Go.Proofs.Ytclbbddpedcfjaa
