/-
  Walks: the document's answer for a log: Sync, Snapshot, Crash. (Printed by gen_ref7.py.)
-/
import Derived.Test.YtclbbddpedcfjaaRef7
namespace Go.Proofs.Ytclbbddpedcfjaa
open Go.RowKit

theorem TOf.old {G : Nat → Prop} {w : World} {v : Value} {lg : Lg} (h : TOf G w v lg) : TOf (fun b => G b ∧ b < w.heap.size) w v lg := h.mono fun _ hb hg => ⟨hg, hb⟩
theorem two_heap {w W0 : World} {a b : Array Value} {ta tb : TypeId} (h : W0 = (w.alloc (.cells a ta)).alloc (.cells b tb)) :
    W0.heap[w.heap.size]? = some (.cells a ta (0, 0)) ∧ W0.heap[w.heap.size + 1]? = some (.cells b tb (0, 0)) ∧ Chg none' w W0 ∧ W0.heap.size = w.heap.size + 2 := by
  subst h
  refine ⟨?_, ?_, ((Chg.refl _ _).alloc _).alloc _, by simp⟩
  · rw [Below.heap_alloc _ _ _ (by simp)]
    exact heap_alloc_new w _
  · have := heap_alloc_new (w.alloc (.cells a ta)) (.cells b tb)
    simpa using this
theorem heap_alloc_keep {w : World} {g : Nat} {o a : Obj} (h : w.heap[g]? = some o) : (w.alloc a).heap[g]? = some o := by rw [Below.heap_alloc _ _ _ (heap_lt h)]; exact h
theorem free5 {w : World} {g : Nat} {cs : Array Value} {t : TypeId} (h : w.heap[g]? = some (.cells cs t (0, 0))) :
    w.frozen? ⟨g, 0, none⟩ = false ∧ w.frozen? ⟨g, 1, none⟩ = false ∧ w.frozen? ⟨g, 2, none⟩ = false ∧ w.frozen? ⟨g, 3, none⟩ = false ∧ w.frozen? ⟨g, 4, none⟩ = false :=
  ⟨free_at h 0, free_at h 1, free_at h 2, free_at h 3, free_at h 4⟩
theorem recs_at1 {F : Nat → Prop} {w : World} {g : Nat} {u : Value} {r : Rec} {t : TypeId} {fr : Nat × Nat} (hh : w.heap[g]? = some (.cells #[vb r.kind, u] t fr)) (hb : Bytes F w u r.b) (hF : F g) : Recs F w (.slice (some ⟨g, 0, none⟩) 1 1) [r] := by
  refine ⟨_, 1, rfl, Nat.le_refl _, by simp [maxLen], fun h => (Option.some_ne_none _ h).elim, fun i x hi => ?_⟩
  match i, hi with
  | 0, hi =>
    simp at hi; subst hi
    refine ⟨g, 0, [vb r.kind, u], rfl, hF, heap_lt hh, rfl, ⟨u, rfl, hb⟩, fun j y hj => ?_⟩
    rw [cell_of_row _ _ _ _ _ _ hh]
    match j, hj with
    | 0, hj => simp at hj; subst hj; rfl
    | 1, hj => simp at hj; subst hj; rfl
    | j + 2, hj => simp at hj
  | i + 1, hi => simp at hi
theorem tof {G : Nat → Prop} {w : World} {vL vT vl : Value} {lg : Lg} {d' : Dk} (e : lg.d = d') (h1 : Bytes G w vL d'.L) (h2 : Bytes G w vT d'.T) (h3 : Recs G w vl lg.l) : TOf G w (.agg #[vL, vT, .int .i64 (d'.n : Int), vl, .int .i64 (lg.last : Int)]) lg := by
  subst e; exact ⟨vL, vT, vl, rfl, h1, h2, h3⟩
/-- Blocks of the first part, or laid since. -/
theorem in_or {G : Nat → Prop} {n m g : Nat} (hg : n ≤ g) (hm : g < m) : ∀ b, (G b ∧ b < n) ∨ m ≤ b → ¬ b = g := fun b hb e => by
  rcases hb with ⟨_, h⟩ | h <;> omega
theorem or_mono {G : Nat → Prop} {n m : Nat} (h : n ≤ m) : ∀ b, (G b ∧ b < n) ∨ m ≤ b → G b ∨ n ≤ b := fun b hb => by
  rcases hb with ⟨q, _⟩ | q
  · exact .inl q
  · exact .inr (by omega)

set_option maxRecDepth 100000 in
set_option maxHeartbeats 1000000 in
theorem w_rsync7 {G : Nat → Prop} {w : World} {v : Value} {lg : Lg} (h : TOf G w v lg) (hd : lg.d.L.length + lg.d.T.length ≤ 4194304) (hn : lg.d.n ≤ 1000000000000000) :
    Calls Try.prog 48 #[v] w fun e w' => ∃ u, e = .returned u ∧ TOf (fun b => G b ∨ w.heap.size ≤ b) w' u (wsync lg) ∧ Chg none' w w' := by
  obtain ⟨vL, vT, vl, rfl, hL, hT, hl⟩ := h.old
  obtain ⟨A, c, rfl, hlc, hm⟩ := hl.shape
  unfold maxLen at hm
  obtain ⟨AL, nL, rfl⟩ := hL.shape
  obtain ⟨AT, nT, rfl⟩ := hT.shape
  go_enter Try.func48, Try.ntmps48
  go_wp2_with fail
  obtain ⟨W0, hW0⟩ : ∃ W0, W0 = (w.alloc (.cells #[.slice AL lg.d.L.length nL, .slice AT lg.d.T.length nT, .int .i64 (lg.d.n : Int), .slice A lg.l.length c, .int .i64 (lg.last : Int)] 60)).alloc (.cells #[.slice none 0 0, .slice none 0 0, .int .i64 0, .slice none 0 0, .int .i64 0] 60) := ⟨_, rfl⟩
  rw [← hW0]
  obtain ⟨q0, q1, cW, hsz⟩ := two_heap hW0
  clear hW0
  have KS := w_rstep6 (w := W0) (d := lg.d) ⟨2, [], 0⟩ (hL.kept cW fun _ _ => id) (hT.kept cW fun _ _ => id) (u := .slice none 0 0) (H := all') Row.nil hd hn (by simp)
  rw [show ddo lg.d ⟨2, [], 0⟩ = (dsync lg.d, 0) by simp [ddo]] at KS
  go_at_call 59
  refine KS.mono ?_
  rintro e w1 ⟨⟨vL', vT', rfl, bL, bT⟩, c1⟩
  clear KS
  obtain ⟨AL', nL', rfl⟩ := bL.shape
  obtain ⟨AT', nT', rfl⟩ := bT.shape
  have q0' := (c1.block _ (heap_lt q0) id).trans q0
  have q1' := (c1.block _ (heap_lt q1) id).trans q1
  have l0 := heap_lt q0'
  have l1 := heap_lt q1'
  obtain ⟨a0, a1, a2, a3, a4⟩ := cells5 q0'
  obtain ⟨y0, y1, y2, y3, y4⟩ := cells5 q1'
  obtain ⟨g0, g1, g2, g3, g4⟩ := free5 q1'
  obtain ⟨d', hd'⟩ : ∃ d', dsync lg.d = d' := ⟨_, rfl⟩
  simp only [hd'] at bL bT ⊢
  have HD := Lib.hid hd'
  clear hd'
  go_wp2
  obtain ⟨W4, hW4⟩ : ∃ W4, W4 = ((((((w1.setCell ⟨w.heap.size + 1, 0, none⟩ (.slice AL' d'.L.length nL')).setCell ⟨w.heap.size + 1, 1, none⟩ (.slice AT' d'.T.length nT')).setCell ⟨w.heap.size + 1, 2, none⟩ (.int .i64 (d'.n : Int))).setCell ⟨w.heap.size + 1, 3, none⟩ (.slice A lg.l.length c)).setCell ⟨w.heap.size + 1, 4, none⟩ (.int .i64 (lg.l.length : Int))).alloc (.cells #[.slice AL' d'.L.length nL', .slice AT' d'.T.length nT', .int .i64 (d'.n : Int)] 58)) := ⟨_, rfl⟩
  rw [← hW4]
  have E5 := end5 (a' := .slice AL' d'.L.length nL') (b' := .slice AT' d'.T.length nT') (c' := .int .i64 (d'.n : Int)) (d' := .slice A lg.l.length c) (e' := .int .i64 (lg.l.length : Int)) q1'
  have qE : W4.heap[w.heap.size + 1]? = some (.cells #[.slice AL' d'.L.length nL', .slice AT' d'.T.length nT', .int .i64 (d'.n : Int), .slice A lg.l.length c, .int .i64 (lg.l.length : Int)] 60 (0, 0)) := by rw [hW4]; exact heap_alloc_keep (E5.1)
  have c3 : Chg (fun b => b = w.heap.size + 1) w1 W4 := by rw [hW4]; exact (E5.2.alloc _)
  obtain ⟨e0, e1, e2, e3, e4⟩ := cells5 qE
  refine bodyPost_ret (v := .agg #[.slice AL' d'.L.length nL', .slice AT' d'.T.length nT', .int .i64 (d'.n : Int), .slice A lg.l.length c, .int .i64 (lg.l.length : Int)]) (by simp [results, Try.results48, go_sem, e0, e1, e2, e3, e4]) rfl ?_
  have cN : Chg none' w W4 := (cW.trans c1).trans' c3 fun i hi e => by omega
  have hne := in_or (G := G) (n := w.heap.size) (m := W0.heap.size) (g := w.heap.size + 1) (by omega) (by omega)
  exact ⟨_, rfl, tof (lg := wsync lg) (d' := d') HD.out (Row.mono (bL.kept c3 hne) fun b _ => or_mono (by omega) b) (Row.mono (bT.kept c3 hne) fun b _ => or_mono (by omega) b) (Recs.mono (hl.kept cN fun _ _ => id) fun b _ hb => .inl hb.1), cN⟩

set_option maxRecDepth 100000 in
set_option maxHeartbeats 1000000 in
theorem w_rsnap7 {G : Nat → Prop} {w : World} {v u : Value} {lg : Lg} {bs : List UInt8} (h : TOf G w v lg) (hb : Bytes G w u bs) (hbl : bs.length ≤ 65536) (hd : lg.d.L.length + lg.d.T.length ≤ 4194304) (hn : lg.d.n ≤ 1000000000000000) :
    Calls Try.prog 49 #[v, u] w fun e w' => ∃ x, e = .returned (.tuple #[x, .int .i64 0]) ∧ TOf (fun b => G b ∨ w.heap.size ≤ b) w' x (wsnap lg bs) ∧ Chg none' w w' := by
  obtain ⟨vL, vT, vl, rfl, hL, hT, hl⟩ := h.old
  obtain ⟨A, c, rfl, hlc, hm⟩ := hl.shape
  unfold maxLen at hm
  obtain ⟨AL, nL, rfl⟩ := hL.shape
  obtain ⟨AT, nT, rfl⟩ := hT.shape
  replace hb : Bytes (fun b => G b ∧ b < w.heap.size) w u bs := Row.mono hb fun b h1 h2 => ⟨h2, h1⟩
  obtain ⟨Ab, nb, rfl⟩ := hb.shape
  go_enter Try.func49, Try.ntmps49
  go_wp2_with fail
  obtain ⟨W0, hW0⟩ : ∃ W0, W0 = (w.alloc (.cells #[.slice AL lg.d.L.length nL, .slice AT lg.d.T.length nT, .int .i64 (lg.d.n : Int), .slice A lg.l.length c, .int .i64 (lg.last : Int)] 60)).alloc (.cells #[.slice none 0 0, .slice none 0 0, .int .i64 0, .slice none 0 0, .int .i64 0] 60) := ⟨_, rfl⟩
  rw [← hW0]
  obtain ⟨q0, q1, cW, hsz⟩ := two_heap hW0
  clear hW0
  have hb0 := hb.kept cW fun _ _ => id
  have KO := show Calls Try.prog 60 #[.int .u8 0, .slice Ab bs.length nb] W0 _ from w_rone (r := ⟨0, bs⟩) W0 hb0.old hbl
  go_at_call 60
  refine KO.mono ?_
  rintro e w1 ⟨uf, rfl, of, c1⟩
  clear KO
  have q0' := (c1.block _ (heap_lt q0) id).trans q0
  have q1' := (c1.block _ (heap_lt q1) id).trans q1
  obtain ⟨a0, a1, a2, a3, a4⟩ := cells5 q0'
  have c01 := cW.trans c1
  have hs1 := c1.size
  have KS := w_rstep6 (w := w1) (d := lg.d) ⟨3, frame ⟨0, bs⟩, 0⟩ (hL.kept c01 fun _ _ => id) (hT.kept c01 fun _ _ => id) (u := uf) (H := fun b => W0.heap.size ≤ b) (Row.mono of.bytes fun b _ e => of.base_ b e) hd hn (by rw [frame_len]; simp only; omega)
  obtain ⟨d', hd'⟩ : ∃ d', d' = (⟨frame ⟨0, bs⟩, [], lg.d.n⟩ : Dk) := ⟨_, rfl⟩
  rw [show ddo lg.d ⟨3, frame ⟨0, bs⟩, 0⟩ = (d', 0) by rw [hd']; simp [ddo, frame_len]; omega] at KS
  have HD := Lib.hid hd'
  clear hd'
  obtain ⟨Af, nf, rfl⟩ := of.shape
  obtain ⟨fl, hfl⟩ : ∃ fl, (frame ⟨0, bs⟩).length = fl := ⟨_, rfl⟩
  simp only [hfl] at of KS ⊢
  clear hfl
  go_wp2_with fail
  go_at_call 59
  refine KS.mono ?_
  rintro e w2 ⟨⟨vL', vT', rfl, bL, bT⟩, c2⟩
  clear KS
  obtain ⟨AL', nL', rfl⟩ := bL.shape
  obtain ⟨AT', nT', rfl⟩ := bT.shape
  have q0'' := (c2.block _ (heap_lt q0') id).trans q0'
  have q1'' := (c2.block _ (heap_lt q1') id).trans q1'
  have l0 := heap_lt q0''
  have l1 := heap_lt q1''
  have hs2 := c2.size
  clear a0 a1 a2 a3 a4
  obtain ⟨a0, a1, a2, a3, a4⟩ := cells5 q0''
  obtain ⟨y0, y1, y2, y3, y4⟩ := cells5 q1''
  obtain ⟨g0, g1, g2, g3, g4⟩ := free5 q1''
  go_wp2
  obtain ⟨W4, hW4⟩ : ∃ W4, W4 = (((((((w2.setCell ⟨w.heap.size + 1, 0, none⟩ (.slice AL' d'.L.length nL')).setCell ⟨w.heap.size + 1, 1, none⟩ (.slice AT' d'.T.length nT')).setCell ⟨w.heap.size + 1, 2, none⟩ (.int .i64 (d'.n : Int))).setCell ⟨w.heap.size + 1, 3, none⟩ (.slice (some ⟨w2.heap.size + 1, 0, none⟩) 1 1)).setCell ⟨w.heap.size + 1, 4, none⟩ (.int .i64 1)).alloc (.cells #[.slice AL' d'.L.length nL', .slice AT' d'.T.length nT', .int .i64 (d'.n : Int)] 58)).alloc (.cells #[.int .u8 0, .slice Ab bs.length nb] 35)) := ⟨_, rfl⟩
  rw [← hW4]
  have E5 := end5 (a' := .slice AL' d'.L.length nL') (b' := .slice AT' d'.T.length nT') (c' := .int .i64 (d'.n : Int)) (d' := .slice (some ⟨w2.heap.size + 1, 0, none⟩) 1 1) (e' := .int .i64 1) q1''
  have qE : W4.heap[w.heap.size + 1]? = some (.cells #[.slice AL' d'.L.length nL', .slice AT' d'.T.length nT', .int .i64 (d'.n : Int), .slice (some ⟨w2.heap.size + 1, 0, none⟩) 1 1, .int .i64 1] 60 (0, 0)) := by rw [hW4]; exact heap_alloc_keep (heap_alloc_keep (E5.1))
  have c3 : Chg (fun b => b = w.heap.size + 1) w2 W4 := by rw [hW4]; exact ((E5.2.alloc _).alloc _)
  obtain ⟨e0, e1, e2, e3, e4⟩ := cells5 qE
  refine bodyPost_ret (v := .tuple #[.agg #[.slice AL' d'.L.length nL', .slice AT' d'.T.length nT', .int .i64 (d'.n : Int), .slice (some ⟨w2.heap.size + 1, 0, none⟩) 1 1, .int .i64 1], .int .i64 0]) (by simp [results, Try.results49, go_sem, e0, e1, e2, e3, e4]) rfl ?_
  have qR : W4.heap[w2.heap.size + 1]? = some (.cells #[.int .u8 0, .slice Ab bs.length nb] 35 (0, 0)) := by
    rw [hW4]
    have := heap_alloc_new ((((((w2.setCell ⟨w.heap.size + 1, 0, none⟩ (.slice AL' d'.L.length nL')).setCell ⟨w.heap.size + 1, 1, none⟩ (.slice AT' d'.T.length nT')).setCell ⟨w.heap.size + 1, 2, none⟩ (.int .i64 (d'.n : Int))).setCell ⟨w.heap.size + 1, 3, none⟩ (.slice (some ⟨w2.heap.size + 1, 0, none⟩) 1 1)).setCell ⟨w.heap.size + 1, 4, none⟩ (.int .i64 1)).alloc (.cells #[.slice AL' d'.L.length nL', .slice AT' d'.T.length nT', .int .i64 (d'.n : Int)] 58)) (.cells #[.int .u8 0, .slice Ab bs.length nb] 35)
    simpa using this
  have cN : Chg none' w W4 := (c01.trans c2).trans' c3 fun i hi e => by omega
  have hne := in_or (G := G) (n := w.heap.size) (m := w1.heap.size) (g := w.heap.size + 1) (by omega) (by omega)
  have hb4 := Row.mono (F' := fun b => G b ∨ w.heap.size ≤ b) (hb.kept cN fun _ _ => id) fun b _ hb => .inl hb.1
  have eD := HD.out
  have bL4 := Row.mono (bL.kept c3 hne) fun b _ => or_mono (by omega) b
  have bT4 := Row.mono (bT.kept c3 hne) fun b _ => or_mono (by omega) b
  exact ⟨_, rfl, tof (lg := wsnap lg bs) (d' := d') (by rw [eD]; rfl) bL4 bT4 (recs_at1 (r := ⟨0, bs⟩) qR hb4 (.inr (by omega))), cN⟩

set_option maxRecDepth 100000 in
set_option maxHeartbeats 1000000 in
theorem w_rcrash7 {G : Nat → Prop} {w : World} {v : Value} {lg : Lg} (h : TOf G w v lg) (q : Nat) (hd : lg.d.L.length + lg.d.T.length ≤ 4194304) (hn : lg.d.n ≤ 1000000000000000) :
    Calls Try.prog 50 #[v, .int .i64 (q : Int)] w fun e w' => ∃ x, e = .returned (.tuple #[x, .int .i64 0]) ∧ TOf (fun b => w.heap.size ≤ b) w' x (wopen (dcrash lg.d q)) ∧ Chg none' w w' := by
  obtain ⟨vL, vT, vl, rfl, hL, hT, hl⟩ := h.old
  obtain ⟨A, c, rfl, hlc, hm⟩ := hl.shape
  unfold maxLen at hm
  obtain ⟨AL, nL, rfl⟩ := hL.shape
  obtain ⟨AT, nT, rfl⟩ := hT.shape
  have e1 : (dcrash lg.d q).T = [] := rfl
  have e2 : (dcrash lg.d q).L.length ≤ 4194304 := by simp only [dcrash, List.length_append, List.length_take]; omega
  have e3 : wopen (dcrash lg.d q) = ⟨⟨(dcrash lg.d q).L.take (scan (dcrash lg.d q).L).2.1, [], (dcrash lg.d q).n⟩, (scan (dcrash lg.d q).L).1, (scan (dcrash lg.d q).L).1.length⟩ := by unfold wopen; rw [e1, List.append_nil]
  have e4 : ddo lg.d ⟨4, [], (q : Int)⟩ = (dcrash lg.d q, 0) := by simp [ddo]
  rw [e3]
  clear e3
  generalize dcrash lg.d q = d' at *
  obtain ⟨sc, hsc⟩ : ∃ sc, scan d'.L = sc := ⟨_, rfl⟩
  rw [hsc]
  obtain ⟨rs, n, er⟩ := sc
  obtain ⟨dL, hdL⟩ : ∃ dL, d'.L.take n = dL := ⟨_, rfl⟩
  simp only [hdL]
  have HX := Lib.hid (show _ ∧ _ from ⟨hsc, hdL⟩)
  have H4 := Lib.hid e4
  clear hsc hdL e1 e4
  go_enter Try.func50, Try.ntmps50
  go_wp2_with fail
  obtain ⟨W0, hW0⟩ : ∃ W0, W0 = (w.alloc (.cells #[.slice AL lg.d.L.length nL, .slice AT lg.d.T.length nT, .int .i64 (lg.d.n : Int), .slice A lg.l.length c, .int .i64 (lg.last : Int)] 60)).alloc (.cells #[.slice none 0 0, .slice none 0 0, .int .i64 0, .slice none 0 0, .int .i64 0] 60) := ⟨_, rfl⟩
  rw [← hW0]
  obtain ⟨q0, q1, cW, hsz⟩ := two_heap hW0
  clear hW0
  have KS := w_rstep6 (w := W0) (d := lg.d) ⟨4, [], (q : Int)⟩ (hL.kept cW fun _ _ => id) (hT.kept cW fun _ _ => id) (u := .slice none 0 0) (H := all') Row.nil hd hn (by simp)
  rw [H4.out] at KS
  go_at_call 59
  refine KS.mono ?_
  rintro e w1 ⟨⟨vL', vT', rfl, bL, bT⟩, c1⟩
  clear KS
  obtain ⟨AL', nL', rfl⟩ := bL.shape
  obtain ⟨AT', nT', rfl⟩ := bT.shape
  have q0' := (c1.block _ (heap_lt q0) id).trans q0
  have q1' := (c1.block _ (heap_lt q1) id).trans q1
  obtain ⟨W1, hW1⟩ : ∃ W1, W1 = w1.alloc (.cells #[.slice AL' d'.L.length nL', .slice AT' d'.T.length nT', .int .i64 (d'.n : Int)] 58) := ⟨_, rfl⟩
  have q3 := heap_alloc_new w1 (.cells #[.slice AL' d'.L.length nL', .slice AT' d'.T.length nT', .int .i64 (d'.n : Int)] 58)
  have cW1 : Chg none' w1 W1 := by rw [hW1]; exact (Chg.refl _ _).alloc _
  have hs1 := c1.size
  have hs2 : w1.heap.size < W1.heap.size := by rw [hW1]; simp
  rw [← hW1] at q3
  have KO := w_ropen (w := W1) (bs := d'.L) (bL.kept cW1 fun _ _ => id).old (by omega)
  rw [hW1] at KO
  simp only [HX.out.1, HX.out.2] at KO
  have HW := Lib.hid hW1
  clear hW1
  go_wp2_with fail
  go_at_call 28
  refine KO.mono ?_
  rintro e w2 ⟨x2, rfl, hT2, c2⟩
  clear KO
  rw [← HW.out] at hT2 c2
  obtain ⟨vL2, vT2, vl2, rfl, bL2, bT2, rl2⟩ := hT2
  obtain ⟨A2, n2, rfl⟩ := bL2.shape
  obtain ⟨B2, m2, rfl⟩ := bT2.shape
  obtain ⟨C2, k2, rfl, _, _⟩ := rl2.shape
  simp only [List.length_nil] at bT2 ⊢
  have q1'' := ((cW1.trans c2).block _ (heap_lt q1') id).trans q1'
  have q3' := (c2.block _ (heap_lt q3) id).trans q3
  have l1 := heap_lt q1''
  have l3 := heap_lt q3'
  obtain ⟨z0, z1, z2⟩ := cells3 q3'
  obtain ⟨y0, y1, y2, y3, y4⟩ := cells5 q1''
  obtain ⟨g0, g1, g2, g3, g4⟩ := free5 q1''
  go_wp2
  obtain ⟨W4, hW4⟩ : ∃ W4, W4 = ((((((w2.setCell ⟨w.heap.size + 1, 0, none⟩ (.slice A2 dL.length n2)).setCell ⟨w.heap.size + 1, 1, none⟩ (.slice B2 0 m2)).setCell ⟨w.heap.size + 1, 2, none⟩ (.int .i64 (d'.n : Int))).setCell ⟨w.heap.size + 1, 3, none⟩ (.slice C2 rs.length k2)).setCell ⟨w.heap.size + 1, 4, none⟩ (.int .i64 (rs.length : Int))).alloc (.cells #[.slice A2 dL.length n2, .slice B2 0 m2, .int .i64 (d'.n : Int), .slice C2 rs.length k2, .int .i64 (rs.length : Int)] 60)) := ⟨_, rfl⟩
  rw [← hW4]
  have E5 := end5 (a' := .slice A2 dL.length n2) (b' := .slice B2 0 m2) (c' := .int .i64 (d'.n : Int)) (d' := .slice C2 rs.length k2) (e' := .int .i64 (rs.length : Int)) q1''
  have qE : W4.heap[w.heap.size + 1]? = some (.cells #[.slice A2 dL.length n2, .slice B2 0 m2, .int .i64 (d'.n : Int), .slice C2 rs.length k2, .int .i64 (rs.length : Int)] 60 (0, 0)) := by rw [hW4]; exact heap_alloc_keep (E5.1)
  have c3 : Chg (fun b => b = w.heap.size + 1) w2 W4 := by rw [hW4]; exact (E5.2.alloc _)
  obtain ⟨e0, e1, e2, e3, e4⟩ := cells5 qE
  refine bodyPost_ret (v := .tuple #[.agg #[.slice A2 dL.length n2, .slice B2 0 m2, .int .i64 (d'.n : Int), .slice C2 rs.length k2, .int .i64 (rs.length : Int)], .int .i64 0]) (by simp [results, Try.results50, go_sem, e0, e1, e2, e3, e4]) rfl ?_
  have hs3 := cW1.size
  have hs4 := c2.size
  have cN : Chg none' w W4 := (((cW.trans c1).trans cW1).trans c2).trans' c3 fun i hi e => by omega
  exact ⟨_, rfl, tof (lg := ⟨⟨dL, [], d'.n⟩, rs, rs.length⟩) (d' := ⟨dL, [], d'.n⟩) rfl (Row.mono (bL2.kept c3 fun b hb e => by omega) fun b _ hb => by omega) (Row.mono (bT2.kept c3 fun b hb e => by omega) fun b _ hb => by omega) (Recs.mono (rl2.kept c3 fun b hb e => by omega) fun b _ hb => by omega), cN⟩

set_option maxRecDepth 100000 in
set_option maxHeartbeats 1000000 in
theorem w_rcrash7_no {G : Nat → Prop} {w : World} {v : Value} {lg : Lg} (h : TOf G w v lg) {q : Int} (hq : q < 0) (hd : lg.d.L.length + lg.d.T.length ≤ 4194304) (hn : lg.d.n ≤ 1000000000000000) :
    Calls Try.prog 50 #[v, .int .i64 q] w fun e w' => e = .returned (.tuple #[.agg #[.slice none 0 0, .slice none 0 0, .int .i64 0, .slice none 0 0, .int .i64 0], .int .i64 2]) ∧ Chg none' w w' := by
  obtain ⟨vL, vT, vl, rfl, hL, hT, hl⟩ := h.old
  obtain ⟨A, c, rfl, hlc, hm⟩ := hl.shape
  unfold maxLen at hm
  obtain ⟨AL, nL, rfl⟩ := hL.shape
  obtain ⟨AT, nT, rfl⟩ := hT.shape
  go_enter Try.func50, Try.ntmps50
  go_wp2_with fail
  obtain ⟨W0, hW0⟩ : ∃ W0, W0 = (w.alloc (.cells #[.slice AL lg.d.L.length nL, .slice AT lg.d.T.length nT, .int .i64 (lg.d.n : Int), .slice A lg.l.length c, .int .i64 (lg.last : Int)] 60)).alloc (.cells #[.slice none 0 0, .slice none 0 0, .int .i64 0, .slice none 0 0, .int .i64 0] 60) := ⟨_, rfl⟩
  rw [← hW0]
  obtain ⟨q0, q1, cW, hsz⟩ := two_heap hW0
  clear hW0
  have KS := w_rstep6 (w := W0) (d := lg.d) ⟨4, [], q⟩ (hL.kept cW fun _ _ => id) (hT.kept cW fun _ _ => id) (u := .slice none 0 0) (H := all') Row.nil hd hn (by simp)
  rw [show ddo lg.d ⟨4, [], q⟩ = (lg.d, 2) by simp [ddo, hq]] at KS
  go_at_call 59
  refine KS.mono ?_
  rintro e w1 ⟨⟨vL', vT', rfl, bL, bT⟩, c1⟩
  clear KS
  obtain ⟨AL', nL', rfl⟩ := bL.shape
  obtain ⟨AT', nT', rfl⟩ := bT.shape
  simp only [show ((2 : Nat) : Int) = 2 from rfl]
  generalize lg.d = d' at *
  have q0' := (c1.block _ (heap_lt q0) id).trans q0
  have q1' := (c1.block _ (heap_lt q1) id).trans q1
  have l1 := heap_lt q1'
  obtain ⟨y0, y1, y2, y3, y4⟩ := cells5 q1'
  obtain ⟨g0, g1, g2, g3, g4⟩ := free5 q1'
  go_wp2
  obtain ⟨W4, hW4⟩ : ∃ W4, W4 = ((((((w1.setCell ⟨w.heap.size + 1, 0, none⟩ (.slice none 0 0)).setCell ⟨w.heap.size + 1, 1, none⟩ (.slice none 0 0)).setCell ⟨w.heap.size + 1, 2, none⟩ (.int .i64 0)).setCell ⟨w.heap.size + 1, 3, none⟩ (.slice none 0 0)).setCell ⟨w.heap.size + 1, 4, none⟩ (.int .i64 0)).alloc (.cells #[.slice AL' d'.L.length nL', .slice AT' d'.T.length nT', .int .i64 (d'.n : Int)] 58)) := ⟨_, rfl⟩
  rw [← hW4]
  have E5 := end5 (a' := .slice none 0 0) (b' := .slice none 0 0) (c' := .int .i64 0) (d' := .slice none 0 0) (e' := .int .i64 0) q1'
  have qE : W4.heap[w.heap.size + 1]? = some (.cells #[.slice none 0 0, .slice none 0 0, .int .i64 0, .slice none 0 0, .int .i64 0] 60 (0, 0)) := by rw [hW4]; exact heap_alloc_keep (E5.1)
  have c3 : Chg (fun b => b = w.heap.size + 1) w1 W4 := by rw [hW4]; exact (E5.2.alloc _)
  obtain ⟨e0, e1, e2, e3, e4⟩ := cells5 qE
  refine bodyPost_ret (v := .tuple #[.agg #[.slice none 0 0, .slice none 0 0, .int .i64 0, .slice none 0 0, .int .i64 0], .int .i64 2]) (by simp [results, Try.results50, go_sem, e0, e1, e2, e3, e4]) rfl ?_
  exact ⟨rfl, (cW.trans c1).trans' c3 fun i hi e => by omega⟩

set_option maxRecDepth 100000 in
set_option maxHeartbeats 1000000 in
theorem w_rapp7_no {G : Nat → Prop} {w : World} {v u : Value} {lg : Lg} {bss : List (List UInt8)} (h : TOf G w v lg) (hb : Rows G w u bss) :
    Calls Try.prog 47 #[v, .int .u8 0, u] w fun e w' => ∃ x, e = .returned (.tuple #[x, .int .i64 2]) ∧ TOf (fun b => G b ∨ w.heap.size ≤ b) w' x lg ∧ Chg none' w w' := by
  obtain ⟨vL, vT, vl, rfl, hL, hT, hl⟩ := h.old
  obtain ⟨A, c, rfl, hlc, hm⟩ := hl.shape
  unfold maxLen at hm
  obtain ⟨AL, nL, rfl⟩ := hL.shape
  obtain ⟨AT, nT, rfl⟩ := hT.shape
  obtain ⟨Ab, nb, rfl, _, _⟩ := hb.shape
  go_enter Try.func47, Try.ntmps47
  go_wp2
  obtain ⟨W0, hW0⟩ : ∃ W0, W0 = (w.alloc (.cells #[.slice AL lg.d.L.length nL, .slice AT lg.d.T.length nT, .int .i64 (lg.d.n : Int), .slice A lg.l.length c, .int .i64 (lg.last : Int)] 60)).alloc (.cells #[.slice AL lg.d.L.length nL, .slice AT lg.d.T.length nT, .int .i64 (lg.d.n : Int), .slice A lg.l.length c, .int .i64 (lg.last : Int)] 60) := ⟨_, rfl⟩
  rw [← hW0]
  obtain ⟨q0, q1, cW, hsz⟩ := two_heap hW0
  obtain ⟨e0, e1, e2, e3, e4⟩ := cells5 q1
  refine bodyPost_ret (v := .tuple #[.agg #[.slice AL lg.d.L.length nL, .slice AT lg.d.T.length nT, .int .i64 (lg.d.n : Int), .slice A lg.l.length c, .int .i64 (lg.last : Int)], .int .i64 2]) (by simp [results, Try.results47, go_sem, e0, e1, e2, e3, e4]) rfl ?_
  exact ⟨_, rfl, tof (d' := lg.d) rfl (Row.mono (hL.kept cW fun _ _ => id) fun b _ hb => .inl hb.1) (Row.mono (hT.kept cW fun _ _ => id) fun b _ hb => .inl hb.1) (Recs.mono (hl.kept cW fun _ _ => id) fun b _ hb => .inl hb.1), cW⟩

end Go.Proofs.Ytclbbddpedcfjaa
