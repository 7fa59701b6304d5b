/-
  Walks: what the example of chapter 07 fixes; what is done to a log.
-/
import Derived.Test.YtclbbddpedcfjaaLog5
import Derived.Test.YtclbbddpedcfjaaWDisk6
namespace Go.Proofs.Ytclbbddpedcfjaa
open Go.RowKit

theorem wappE_ok {lg : Lg} {k : UInt8} {bss : List (List UInt8)} (hk : k ≠ 0) (hb : ∀ b ∈ bss, b.length ≤ 65536) (hm : lg.d.L.length + lg.d.T.length + (frames (recsOf k bss)).length ≤ 4194304) : wappE lg k bss = (wapp lg k bss, 0) := by
  unfold wappE
  rw [if_neg hk, if_pos ⟨hb, hm⟩]
theorem wopen_frames {d : Dk} {l : List Rec} (h : d.L ++ d.T = frames l) (hok : okAll l) : wopen d = ⟨⟨frames l, [], d.n⟩, l, l.length⟩ := by
  unfold wopen
  rw [h, scan_all l hok]
  simp only
  rw [← frames_len, List.take_length]

theorem recs_lit2 {W : World} {t : TypeId} {u v : Value} {r q : Rec} {g : Nat} (h : Bytes all' W u r.b) (k : Bytes all' W v q.b) (hg : W.heap.size = g := by first | rfl | simp) :
    Recs all' (W.alloc (.cells #[vb r.kind, u, vb q.kind, v] t)) (.slice (some ⟨g, 0, none⟩) 2 2) [r, q] := by
  subst hg
  have cA : Chg none' W (W.alloc (.cells #[vb r.kind, u, vb q.kind, v] t)) := (Chg.refl _ _).alloc _
  have hh := heap_alloc_new W (.cells #[vb r.kind, u, vb q.kind, v] t)
  refine ⟨_, 2, rfl, Nat.le_refl _, by simp [maxLen], fun h => (Option.some_ne_none _ h).elim, fun i x hi => ?_⟩
  match i, hi with
  | 0, hi =>
    simp at hi; subst hi
    refine ⟨W.heap.size, 0, [vb r.kind, u], rfl, trivial, heap_lt hh, rfl, ⟨u, rfl, h.kept cA fun _ _ => id⟩, fun j y hj => ?_⟩
    rw [cell_of_row _ _ _ _ _ _ hh]
    match j, hj with
    | 0, hj => simp at hj; subst hj; rfl
    | 1, hj => simp at hj; subst hj; rfl
    | j + 2, hj => simp at hj
  | 1, hi =>
    simp at hi; subst hi
    refine ⟨W.heap.size, 0, [vb q.kind, v], rfl, trivial, heap_lt hh, rfl, ⟨v, rfl, k.kept cA fun _ _ => id⟩, fun j y hj => ?_⟩
    rw [cell_of_row _ _ _ _ _ _ hh]
    match j, hj with
    | 0, hj => simp at hj; subst hj; rfl
    | 1, hj => simp at hj; subst hj; rfl
    | j + 2, hj => simp at hj
  | i + 2, hi => simp at hi

/-- What is done. -/
noncomputable def wdo (lg : Lg) (x : Do7) : Lg × Nat :=
  if x.kind = 1 then wappE lg x.of x.r
  else if x.kind = 2 then (wsync lg, 0)
  else if x.kind = 3 then wsnapE lg (x.r.headD [])
  else if x.kept < 0 then (lg, 2) else (wopen (dcrash lg.d x.kept.toNat), 0)

set_option maxRecDepth 100000 in
set_option maxHeartbeats 4000000 in
theorem w_wdo {F G : Nat → Prop} {w : World} {g : Nat} {lg : Lg} {u : Value} (x : Do7) (h : IsLog F w g lg) (hn : lg.d.n ≤ 1000000000000000) (hu : Rows G w u x.r) (hG : ∀ b, G b → ¬ F b) (hin : In7 x) :
    Calls Try.prog 19 #[.pointer (some ⟨g, 0, none⟩), .agg #[.int .i64 x.kind, vb x.of, u, .int .i64 x.kept]] w fun e w' => ∃ g' F', e = .returned (.tuple #[.pointer (some ⟨g', 0, none⟩), .int .i64 ((wdo lg x).2 : Nat)]) ∧ IsLog F' w' g' (wdo lg x).1 ∧ Ext F F' w ∧ Chg F w w' := by
  obtain ⟨A, c, rfl, hcl, hmc⟩ := hu.shape
  unfold maxLen at hmc
  obtain ⟨hin1, hin2⟩ := hin
  have hin3 : ∀ b ∈ x.r, b.length ≤ 140737488355328 := fun b hb => by have := hin2 b hb; omega
  obtain ⟨W, hW⟩ : ∃ W, W = w.alloc (.cells #[.int .i64 x.kind, vb x.of, .slice A x.r.length c, .int .i64 x.kept] 43) := ⟨_, rfl⟩
  have cW : Chg none' w W := by rw [hW]; exact (Chg.refl none' _).alloc _
  have q0 := heap_alloc_new w (.cells #[.int .i64 x.kind, vb x.of, .slice A x.r.length c, .int .i64 x.kept] 43)
  rw [← hW] at q0
  have ckR : W.cell? ⟨w.heap.size, 2, none⟩ = some (.slice A x.r.length c) := by rw [cell_of_row _ _ _ _ _ _ q0]; rfl
  clear q0
  have h' := h.keep0 cW
  have hu' := hu.kept cW fun _ _ => id
  have fin : ∀ (e : Ending) (w' : World) (n : Nat) (lg' : Lg), (∃ F', e = .returned (.tuple #[.pointer (some ⟨g, 0, none⟩), .int .i64 (n : Nat)]) ∧ IsLog F' w' g lg' ∧ Ext F F' W ∧ Chg F W w') →
      ∃ g' F', e = .returned (.tuple #[.pointer (some ⟨g', 0, none⟩), .int .i64 (n : Nat)]) ∧ IsLog F' w' g' lg' ∧ Ext F F' w ∧ Chg F w w' := fun e w' n d' ⟨F', q0, q1, q2, q3⟩ =>
    ⟨g, F', q0, q1, fun b hb => (q2 b hb).imp id (Nat.le_trans cW.size), (cW.mono fun _ _ => False.elim).trans q3⟩
  have HW := Lib.hid hW.symm
  clear hW h hu
  unfold wdo
  by_cases k1 : x.kind = 1
  · have z1 : (x.kind == 1) = true := by rw [k1]; rfl
    rw [if_pos k1]
    clear k1
    go_enter Try.func19, Try.ntmps19
    go_wp2_with fail
    rw [HW.out]
    ((with_reducible refine (w_wappend h' x.of hu' hG hin3 hin1).mono ?_))
    rintro e w1 ⟨F', rfl, q1, q2, q3⟩
    go_wp2
    go_ret2
    exact fin _ _ _ _ ⟨F', rfl, q1, q2, q3⟩
  have z1 : (x.kind == 1) = false := by rw [beq_eq_false_iff_ne]; exact k1
  rw [if_neg k1]
  by_cases k2 : x.kind = 2
  · have z2 : (x.kind == 2) = true := by rw [k2]; rfl
    rw [if_pos k2]
    clear k1 k2
    go_enter Try.func19, Try.ntmps19
    go_wp2_with fail
    rw [HW.out]
    refine (w_wsync h' hn).mono ?_
    rintro e w1 ⟨F', rfl, q1, q2, q3⟩
    go_wp2
    go_ret2
    exact fin _ _ 0 _ ⟨F', rfl, q1, q2, q3⟩
  have z2 : (x.kind == 2) = false := by rw [beq_eq_false_iff_ne]; exact k2
  rw [if_neg k2]
  by_cases k3 : x.kind = 3
  · have z3 : (x.kind == 3) = true := by rw [k3]; rfl
    rw [if_pos k3]
    by_cases hl : 0 < x.r.length
    · obtain ⟨b1, o1, c1', u1, e1, _, ck1, hu1⟩ := hu'.at_ hl
      simp only [Value.slice.injEq] at e1
      obtain ⟨rfl, _, rfl⟩ := e1
      rw [Nat.add_zero] at ck1
      have hhd : x.r.headD [] = x.r[0] := by
        rw [List.headD_eq_head?_getD, List.head?_eq_getElem?, List.getElem?_eq_getElem hl]; rfl
      rw [hhd]
      have hl' : (0 : Int) < x.r.length := by omega
      have K := w_wsnap h' hu1 hG (hin3 _ (List.getElem_mem hl))
      obtain ⟨Au, cu, rfl⟩ := hu1.shape
      clear k1 k2 k3
      go_enter Try.func19, Try.ntmps19
      go_upto_region 8 with (fail)
      rw [HW.out]
      go_wp2_with fail
      refine K.mono ?_
      rintro e w1 ⟨F', rfl, q1, q2, q3⟩
      go_wp2
      go_ret2
      exact fin _ _ _ _ ⟨F', rfl, q1, q2, q3⟩
    · have hhd : x.r.headD [] = [] := by rw [List.eq_nil_of_length_eq_zero (by omega : x.r.length = 0)]; rfl
      rw [hhd]
      have hl' : ¬ (0 : Int) < x.r.length := by omega
      have K := w_wsnap h' (G := fun _ => False) (v := .slice none 0 0) (b := []) Row.nil (fun _ => False.elim) (by simp)
      clear k1 k2 k3
      go_enter Try.func19, Try.ntmps19
      go_wp2_with fail
      rw [HW.out]
      refine K.mono ?_
      rintro e w1 ⟨F', rfl, q1, q2, q3⟩
      go_wp2
      go_ret2
      exact fin _ _ _ _ ⟨F', rfl, q1, q2, q3⟩
  have z3 : (x.kind == 3) = false := by rw [beq_eq_false_iff_ne]; exact k3
  rw [if_neg k3]
  by_cases k4 : x.kept < 0
  · rw [if_pos k4]
    clear k1 k2 k3
    go_enter Try.func19, Try.ntmps19
    go_wp2_with fail
    rw [HW.out]
    refine (w_wcrash_no h' k4).mono ?_
    rintro e w1 ⟨rfl, c1⟩
    go_wp2
    go_ret2
    exact fin _ _ 2 _ ⟨F, rfl, h'.keep0 c1, Ext.refl _ _, c1.mono fun _ _ => False.elim⟩
  · rw [if_neg k4]
    have K := w_wcrash h' x.kept.toNat
    rw [show ((x.kept.toNat : Nat) : Int) = x.kept by omega] at K
    clear k1 k2 k3
    go_enter Try.func19, Try.ntmps19
    go_wp2_with fail
    rw [HW.out]
    refine K.mono ?_
    rintro e w1 ⟨g', F', rfl, q1, q2, q3⟩
    go_wp2
    go_ret2
    exact ⟨g', F', rfl, q1, fun b hb => (q2 b hb).elim False.elim fun z => .inr (Nat.le_trans cW.size z), (cW.trans q3).mono fun _ _ => False.elim⟩

end Go.Proofs.Ytclbbddpedcfjaa
