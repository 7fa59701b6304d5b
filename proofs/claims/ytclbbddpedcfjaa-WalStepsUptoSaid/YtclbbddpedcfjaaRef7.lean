/-
  Walks: the document's answer for a log: Last, records, Open.
-/
import Derived.Test.YtclbbddpedcfjaaRScanG
import Derived.Test.YtclbbddpedcfjaaWDisk6
import Derived.Test.YtclbbddpedcfjaaWFrames8
namespace Go.Proofs.Ytclbbddpedcfjaa
open Go.RowKit

/-- A log as the answer has it. -/
def TOf (G : Nat → Prop) (w : World) (v : Value) (lg : Lg) : Prop :=
  ∃ vL vT vl, v = .agg #[vL, vT, .int .i64 (lg.d.n : Int), vl, .int .i64 (lg.last : Int)] ∧ Bytes G w vL lg.d.L ∧ Bytes G w vT lg.d.T ∧ Recs G w vl lg.l
section
variable {G S : Nat → Prop} {w w' : World} {v : Value} {lg : Lg}
theorem TOf.keep (h : TOf G w v lg) (c : Chg S w w') (hS : ∀ b, G b → ¬ S b) : TOf G w' v lg :=
  let ⟨vL, vT, vl, e, h1, h2, h3⟩ := h; ⟨vL, vT, vl, e, h1.kept c hS, h2.kept c hS, h3.kept c hS⟩
theorem TOf.mono {H : Nat → Prop} (h : TOf G w v lg) (hG : ∀ b, b < w.heap.size → G b → H b) : TOf H w v lg :=
  let ⟨vL, vT, vl, e, h1, h2, h3⟩ := h; ⟨vL, vT, vl, e, Row.mono h1 hG, Row.mono h2 hG, Recs.mono h3 hG⟩
theorem cells5 {g : Nat} {a b c d e : Value} {t : TypeId} {fr : Nat × Nat} (h : w.heap[g]? = some (.cells #[a, b, c, d, e] t fr)) :
    w.cell? ⟨g, 0, none⟩ = some a ∧ w.cell? ⟨g, 1, none⟩ = some b ∧ w.cell? ⟨g, 2, none⟩ = some c ∧ w.cell? ⟨g, 3, none⟩ = some d ∧ w.cell? ⟨g, 4, none⟩ = some e := by
  refine ⟨?_, ?_, ?_, ?_, ?_⟩ <;> (rw [cell_of_row _ _ _ _ _ _ h]; rfl)
theorem cells3 {g : Nat} {a b c : Value} {t : TypeId} {fr : Nat × Nat} (h : w.heap[g]? = some (.cells #[a, b, c] t fr)) :
    w.cell? ⟨g, 0, none⟩ = some a ∧ w.cell? ⟨g, 1, none⟩ = some b ∧ w.cell? ⟨g, 2, none⟩ = some c := by
  refine ⟨?_, ?_, ?_⟩ <;> (rw [cell_of_row _ _ _ _ _ _ h]; rfl)
theorem free_at {g : Nat} {cs : Array Value} {t : TypeId} (h : w.heap[g]? = some (.cells cs t (0, 0))) (i : Nat) : w.frozen? ⟨g, i, none⟩ = false := by simp [World.frozen?, h]
theorem src_recG {F : Nat → Prop} {g : Nat} {u : Value} {r : Rec} (hh : w.heap[g]? = some (.cells #[vb r.kind, u] 35 (0, 0))) (hb : Bytes F w u r.b) : SrcR F w (.slice (some ⟨g, 0, none⟩) 1 1) [r] := by
  refine ⟨[(r, u)], rfl, ⟨rfl, cellsR_one (F := F) (w := w) (fun p hp => by simp at hp; subst hp; exact hb), _, 1, rfl, (fun h => (Option.some_ne_none _ h).elim), fun ad had j y hj => ?_⟩, fun p hp => by simp at hp; subst hp; exact hb⟩
  obtain rfl := Option.some.inj had
  rw [Addr.add_lit, cell_of_row _ _ _ _ _ _ hh]
  match j, hj with
  | 0, hj => simpa [cellsR] using hj
  | 1, hj => simpa [cellsR] using hj
  | j + 2, hj => simp [cellsR] at hj
end

theorem lastAt_one {l : List Rec} {j k : Nat} (h : LastAt l j) (h' : LastAt l k) : j = k := by
  have key : ∀ {a b : Nat}, LastAt l a → LastAt l b → ¬ a < b := fun {a b} ha hb hlt => by
    have hbl : b - 1 < l.length := by have := hb.1; omega
    have e : l[b - 1]? = some l[b - 1] := List.getElem?_eq_getElem hbl
    exact ha.2.2 (b - 1) _ (by omega) e (hb.2.1 _ (by omega) e)
  have := key h h'
  have := key h' h
  omega

theorem lastAt_hit {l : List Rec} {k : Nat} (h : k < l.length) (hz : l[k].kind = 0) : LastAt (l.take (k + 1)) (k + 1) := by
  refine ⟨by rw [List.length_take]; omega, fun r _ hr => ?_, fun j r hj hr => ?_⟩
  · rw [show k + 1 - 1 = k by omega, List.getElem?_take_of_lt (by omega), List.getElem?_eq_getElem h] at hr
    rw [← Option.some.inj hr]
    exact hz
  · have := (List.getElem?_eq_some_iff.1 hr).1
    rw [List.length_take] at this
    omega
theorem lastAt_miss {l : List Rec} {k j : Nat} (h : k < l.length) (hz : l[k].kind ≠ 0) (hj : LastAt (l.take k) j) : LastAt (l.take (k + 1)) j := by
  obtain ⟨h1, h2, h3⟩ := hj
  rw [List.length_take] at h1
  refine ⟨by rw [List.length_take]; omega, fun r h0 hr => ?_, fun i r hi hr => ?_⟩
  · exact h2 r h0 (by rw [List.getElem?_take_of_lt (by omega)] at hr ⊢; exact hr)
  · have hl := (List.getElem?_eq_some_iff.1 hr).1
    rw [List.length_take] at hl
    rw [List.getElem?_take_of_lt (by omega)] at hr
    by_cases e : i = k
    · subst e
      rw [List.getElem?_eq_getElem h] at hr
      rw [← Option.some.inj hr]
      exact hz
    · exact h3 i r hi (by rw [List.getElem?_take_of_lt (by omega)]; exact hr)

set_option maxRecDepth 100000 in
set_option maxHeartbeats 1000000 in
theorem w_rlast7 {G : Nat → Prop} {w : World} {v : Value} {lg : Lg} (h : TOf G w v lg) :
    Calls Try.prog 45 #[v] w fun e w' => ∃ k, LastAt lg.l k ∧ e = .returned (.int .i64 ((k : Int) - 1)) ∧ Chg none' w w' := by
  obtain ⟨vL, vT, vl, rfl, hL, hT, hl⟩ := h
  obtain ⟨A, c, rfl, hlc, hm⟩ := hl.shape
  unfold maxLen at hm
  obtain ⟨AL, nL, rfl⟩ := hL.shape
  obtain ⟨AT, nT, rfl⟩ := hT.shape
  go_enter Try.func45, Try.ntmps45
  go_wp2
  obtain ⟨W0, hW0⟩ : ∃ W0, W0 = w.alloc (.cells #[.slice AL lg.d.L.length nL, .slice AT lg.d.T.length nT, .int .i64 (lg.d.n : Int), .slice A lg.l.length c, .int .i64 (lg.last : Int)] 60) := ⟨_, rfl⟩
  rw [← hW0]
  have q0 := heap_alloc_new w (.cells #[.slice AL lg.d.L.length nL, .slice AT lg.d.T.length nT, .int .i64 (lg.d.n : Int), .slice A lg.l.length c, .int .i64 (lg.last : Int)] 60)
  have cW : Chg none' w W0 := by rw [hW0]; exact (Chg.refl _ _).alloc _
  rw [← hW0] at q0
  clear hW0
  obtain ⟨_, _, _, a3, _⟩ := cells5 q0
  have hl0 := hl.kept cW fun _ _ => id
  go_loop [3, 4] (fun av iv => ∃ k : Nat, k ≤ lg.l.length ∧ iv = .int .i64 k ∧ ∃ j : Nat, av = .int .i64 ((j : Int) - 1) ∧ LastAt (lg.l.take k) j) (fun _ i => lg.l.length - (intOf i).toNat)
  case atStart => exact ⟨0, Nat.zero_le _, rfl, 0, rfl, by rw [List.take_zero]; exact ⟨Nat.le_refl _, fun r h0 => absurd h0 (by omega), fun j r _ hr => by simp at hr⟩⟩
  case round =>
    obtain ⟨k, hk, rfl, j, rfl, hj⟩ := hrel
    by_cases hlt : k < lg.l.length
    · obtain ⟨b1, o1, c1', u1, e1, _, ck1, cu1, _⟩ := hl0.at_ hlt
      simp only [Value.slice.injEq] at e1
      obtain ⟨rfl, _, rfl⟩ := e1
      have hlk : (k : Int) < lg.l.length := by omega
      by_cases hz : lg.l[k].kind = 0
      · have z0 : ((lg.l[k].kind.toNat : Int) == 0) = true := by rw [hz]; rfl
        have HJ := Lib.hid (lastAt_hit hlt hz)
        clear hz hj cu1
        go_wp2
        go_round
        case rel => exact ⟨k + 1, by omega, by go_num, k + 1, by simp, HJ.out⟩
        case measure => simp [intOf]; omega
      · have z0 : ((lg.l[k].kind.toNat : Int) == 0) = false := ne_byte (b := 0) hz
        have HJ := Lib.hid (lastAt_miss hlt hz hj)
        clear hz hj cu1
        go_wp2
        go_round
        case rel => exact ⟨k + 1, by omega, by go_num, j, rfl, HJ.out⟩
        case measure => simp [intOf]; omega
    · obtain rfl : k = lg.l.length := by omega
      rw [List.take_length] at hj
      have HJ := Lib.hid hj
      clear hj
      go_wp2
      go_ret
      exact ⟨j, HJ.out, rfl, cW⟩

set_option maxRecDepth 100000 in
set_option maxHeartbeats 1000000 in
theorem w_records {G : Nat → Prop} {w : World} {u : Value} {bss : List (List UInt8)} (kd : UInt8) (h : Rows G w u bss) (hG : ∀ b, G b → b < w.heap.size) (hn : bss.length * 32 ≤ 140737488351232) :
    Calls Try.prog 57 #[vb kd, u] w fun e w' => ∃ v, e = .returned v ∧ OwnRG G w.heap.size w' v (recsOf kd bss) ∧ Chg none' w w' := by
  obtain ⟨A, c, rfl, _, hm⟩ := h.shape
  unfold maxLen at hm
  go_enter Try.func57, Try.ntmps57
  go_wp2
  go_loopw [5, 6] (fun ov iv wr => ∃ k : Nat, k ≤ bss.length ∧ iv = .int .i64 k ∧ OwnRG G w.heap.size wr ov (recsOf kd (bss.take k)) ∧ Chg none' w wr) (fun _ i _ => bss.length - (intOf i).toNat)
  case atStart => exact ⟨0, Nat.zero_le _, rfl, OwnRG.nil _ _ _, Chg.refl _ _⟩
  case round =>
    obtain ⟨k, hk, rfl, ho, hc⟩ := hrel
    by_cases hlt : k < bss.length
    · obtain ⟨b1, o1, c1', u1, e1, _, ck1, hu1⟩ := Rows.at_ (h.kept hc fun _ _ => id) hlt
      simp only [Value.slice.injEq] at e1
      obtain ⟨rfl, _, rfl⟩ := e1
      obtain ⟨Au, cu, rfl⟩ := hu1.shape
      obtain ⟨Ao, no, rfl, _, _⟩ := ho.own.recs.shape
      have E := Lib.hid (recsOf_take kd hlt)
      have hlen : (recsOf kd (bss.take k)).length = k := by simp [recsOf]; omega
      have cA : Chg none' wr (wr.alloc (.cells #[vb kd, .slice Au bss[k].length cu] 35)) := (Chg.refl _ _).alloc _
      have hsrc : SrcR G (wr.alloc (.cells #[vb kd, .slice Au bss[k].length cu] 35)) (.slice (some ⟨wr.heap.size, 0, none⟩) 1 1) [⟨kd, bss[k]⟩] := src_recG (r := ⟨kd, bss[k]⟩) (heap_alloc_new wr _) (hu1.kept cA fun _ _ => id)
      have ho' := ho.keep cA (fun _ _ => id) (fun _ _ => id)
      have hF : ∀ b, G b → ¬ ownOf (.slice Ao (recsOf kd (bss.take k)).length no) b := fun b hb e => by have := (ho.base_ b e).1; have := hG b hb; omega
      have hlk : (k : Int) < bss.length := by omega
      have hsz := (hc.trans cA).size
      clear hu1
      go_wp2_with (at_builtin; refine wpList_appRG rfl (.tmp 13) (.tmp 20) rfl ho' hsrc (fun _ => id) hF rfl rfl (by rw [hlen, List.length_singleton]; omega) hsz ?_; intro v3 w3 o3 c3 b3)
      go_wp2
      go_roundw
      case rel => exact ⟨k + 1, by omega, by go_num, by rw [E.out]; exact o3, (hc.trans cA).trans' c3 fun i hi e => by have := (ho.base_ i e).1; omega⟩
      case measure => simp [intOf]; omega
    · obtain rfl : k = bss.length := by omega
      rw [List.take_length] at ho
      go_wp2
      go_ret
      exact ⟨_, rfl, ho, hc⟩

theorem end5 {w1 : World} {g : Nat} {a b c d e a' b' c' d' e' : Value} {t : TypeId} {fr : Nat × Nat} (h : w1.heap[g]? = some (.cells #[a, b, c, d, e] t fr)) :
    (((((w1.setCell ⟨g, 0, none⟩ a').setCell ⟨g, 1, none⟩ b').setCell ⟨g, 2, none⟩ c').setCell ⟨g, 3, none⟩ d').setCell ⟨g, 4, none⟩ e').heap[g]? = some (.cells #[a', b', c', d', e'] t fr) ∧
    Chg (fun b => b = g) w1 (((((w1.setCell ⟨g, 0, none⟩ a').setCell ⟨g, 1, none⟩ b').setCell ⟨g, 2, none⟩ c').setCell ⟨g, 3, none⟩ d').setCell ⟨g, 4, none⟩ e') := by
  refine ⟨?_, (((((Chg.refl (fun b => b = g) _).setCell (.inr rfl) _).setCell (.inr rfl) _).setCell (.inr rfl) _).setCell (.inr rfl) _).setCell (.inr rfl) _⟩
  rw [heap_setCell_at (heap_setCell_at (heap_setCell_at (heap_setCell_at (heap_setCell_at h a') b') c') d') e']; rfl

set_option maxRecDepth 100000 in
set_option maxHeartbeats 1000000 in
theorem w_ropen {w : World} {v : Value} {bs : List UInt8} (h : Bytes (old' w) w v bs) (hl : bs.length ≤ 1000000000000) :
    Calls Try.prog 28 #[v] w fun e w' => ∃ u, e = .returned (.tuple #[u, .int .i64 ((bs.length : Int) - (scan bs).2.1)]) ∧ TOf (fun b => w.heap.size ≤ b) w' u ⟨⟨bs.take (scan bs).2.1, [], 0⟩, (scan bs).1, (scan bs).1.length⟩ ∧ Chg none' w w' := by
  obtain ⟨A, c, rfl⟩ := h.shape
  have hbc : bs.length ≤ c := by obtain ⟨A, c', e, q, _⟩ := h; simp only [Value.slice.injEq] at e; omega
  obtain ⟨_, s2, _⟩ := scan_there bs
  have s4 := scan_len bs
  obtain ⟨W0, hW0⟩ : ∃ W0, W0 = w.alloc (.cells #[.slice none 0 0, .slice none 0 0, .int .i64 0, .slice none 0 0, .int .i64 0] 60) := ⟨_, rfl⟩
  have q0 := heap_alloc_new w (.cells #[.slice none 0 0, .slice none 0 0, .int .i64 0, .slice none 0 0, .int .i64 0] 60)
  have cW : Chg none' w W0 := by rw [hW0]; exact (Chg.refl _ _).alloc _
  have hsz : w.heap.size < W0.heap.size := by rw [hW0]; simp
  have hb0 := h.kept cW fun _ _ => id
  have KS := w_rscanG bs.length W0 (Nat.le_refl _) hb0.old (by omega)
  obtain ⟨sc, hsc⟩ : ∃ sc, scan bs = sc := ⟨_, rfl⟩
  rw [hsc] at KS s2 s4 ⊢
  clear hsc
  obtain ⟨rs, n, er⟩ := sc
  simp only at KS s2 s4 ⊢
  rw [← hW0] at q0
  have HW := Lib.hid hW0
  clear hW0
  go_enter Try.func28, Try.ntmps28
  go_wp2_with fail
  rw [← HW.out]
  go_at_call 43
  refine KS.mono ?_
  rintro e w1 ⟨ul, rfl, ol, c1⟩
  clear KS
  have hb1 := hb0.kept c1 fun _ _ => id
  have q1 := (c1.block _ hsz id).trans q0
  have hor := ol.recsG (H := fun b => w.heap.size < b) (fun _ _ _ => by omega) (fun _ _ _ => by omega)
  obtain ⟨Al, nl, rfl, _, _⟩ := hor.shape
  have hnc : (n : Int) ≤ c := by omega
  have hnl : ((bs.length : Int) - n) ≤ 1000000000000 := by omega
  have KJ := w_join w1 (Row.hi' hb1 (j := n) s2) (G := all') (v := .slice none 0 0) (cs := []) Row.nil (by simp; omega)
  rw [List.append_nil] at KJ
  have hln : (bs.take n).length = n := by rw [List.length_take]; omega
  go_wp2_with fail
  go_at_call 44
  refine KJ.mono ?_
  rintro e w2 ⟨vj, rfl, oj, c2⟩
  clear KJ
  have q2 := (c2.block _ (heap_lt q1) id).trans q1
  obtain ⟨Aj, nj, rfl⟩ := oj.shape
  obtain ⟨y0, y1, y2, y3, y4⟩ := cells5 q2
  have g0 := free_at q2 0
  have g1 := free_at q2 1
  have g2 := free_at q2 2
  have g3 := free_at q2 3
  have g4 := free_at q2 4
  simp only [hln] at oj ⊢
  go_wp2
  obtain ⟨W3, hW3⟩ : ∃ W3, W3 = ((((w2.setCell ⟨w.heap.size, 0, none⟩ (.slice Aj n nj)).setCell ⟨w.heap.size, 1, none⟩ (.slice none 0 0)).setCell ⟨w.heap.size, 2, none⟩ (.int .i64 0)).setCell ⟨w.heap.size, 3, none⟩ (.slice Al rs.length nl)).setCell ⟨w.heap.size, 4, none⟩ (.int .i64 (rs.length : Int)) := ⟨_, rfl⟩
  rw [← hW3]
  obtain ⟨qE, c3⟩ := end5 (a' := .slice Aj n nj) (b' := .slice none 0 0) (c' := .int .i64 0) (d' := .slice Al rs.length nl) (e' := .int .i64 (rs.length : Int)) q2
  rw [← hW3] at qE c3
  clear hW3
  obtain ⟨e0, e1, e2, e3, e4⟩ := cells5 qE
  refine bodyPost_ret (v := .tuple #[.agg #[.slice Aj n nj, .slice none 0 0, .int .i64 0, .slice Al rs.length nl, .int .i64 (rs.length : Int)], .int .i64 ((bs.length : Int) - n)]) (by simp [results, Try.results28, go_sem, e0, e1, e2, e3, e4]) rfl ?_
  have hsz1 := c1.size
  have cN : Chg none' w W3 := ((cW.trans c1).trans c2).trans' c3 fun i hi e => by omega
  have oj' := oj.keep c3 fun b hb e => by have := oj.base_ b hb; omega
  exact ⟨_, rfl, ⟨_, _, _, rfl, Row.mono oj'.bytes fun b _ e => by have := oj.base_ b e; omega, Row.nil, Recs.mono ((hor.kept c2 fun _ _ => id).kept c3 fun b hb e => by omega) fun b _ hb => by omega⟩, cN⟩

end Go.Proofs.Ytclbbddpedcfjaa
