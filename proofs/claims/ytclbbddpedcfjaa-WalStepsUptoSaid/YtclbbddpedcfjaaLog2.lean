/-
  Walks: records in new memory.
-/
import Derived.Test.YtclbbddpedcfjaaLog
namespace Go.Proofs.Ytclbbddpedcfjaa
open Go.RowKit

/-- A record's two cells, its bytes the call's own. -/
def AggR (H : Nat) (x : World) (v : Value) (r : Rec) : Prop := ∃ A n, v = .agg #[vb r.kind, .slice A r.b.length n] ∧ OwnB H x (.slice A r.b.length n) r.b
/-- A record that lies in a block laid for it. -/
def LitR (H : Nat) (x : World) (v : Value) (r : Rec) : Prop := ∃ g u, v = .slice (some ⟨g, 0, none⟩) 1 1 ∧ H ≤ g ∧ x.heap[g]? = some (.cells #[vb r.kind, u] 35 (0, 0)) ∧ Bytes (fun b => H ≤ b) x u r.b
section
variable {H : Nat} {x x' : World} {v : Value} {r : Rec} {S : Nat → Prop}
theorem AggR.keep (h : AggR H x v r) (c : Chg S x x') (hS : ∀ b, H ≤ b → ¬ S b) : AggR H x' v r := let ⟨A, n, e, o⟩ := h; ⟨A, n, e, o.keep c fun b hb => hS b (o.base_ b hb)⟩
theorem LitR.keep (h : LitR H x v r) (c : Chg S x x') (hS : ∀ b, H ≤ b → ¬ S b) : LitR H x' v r := let ⟨g, u, e, hg, hh, hb⟩ := h; ⟨g, u, e, hg, (c.block g (Array.getElem?_eq_some_iff.1 hh).1 (hS g hg)).trans hh, hb.kept c fun b hb => hS b hb⟩
theorem LitR.src (h : LitR H x v r) : SrcR (fun b => H ≤ b) x v [r] := by
  obtain ⟨g, u, rfl, hg, hh, hb⟩ := h
  refine ⟨[(r, u)], rfl, ⟨rfl, cellsR_one (F := fun b => H ≤ b) (w := x) (fun p hp => by simp at hp; subst hp; exact hb), _, 1, rfl, (fun h => (Option.some_ne_none _ h).elim), fun ad had j y hj => ?_⟩, fun p hp => by simp at hp; subst hp; exact hb⟩
  obtain rfl := Option.some.inj had
  rw [Addr.add_lit, cell_of_row _ _ _ _ _ _ hh]
  match j, hj with
  | 0, hj => simpa [cellsR] using hj
  | 1, hj => simpa [cellsR] using hj
  | j + 2, hj => simp [cellsR] at hj
theorem OwnB.keepH {base : Nat} {w w' : World} {bs : List UInt8} (h : OwnB base w v bs) (c : Chg S w w') (hS : ∀ b, base ≤ b → ¬ S b) : OwnB base w' v bs := OwnB.keep h c fun b hb => hS b (h.base_ b hb)
end

/-- The world's states about an append onto 'vo'. -/
def AppS (vo : Value) (X : World) : Nat → World → Prop
  | 0, x => Chg none' X x
  | _, x => Chg (ownOf vo) X x

set_option maxRecDepth 100000 in
set_option maxHeartbeats 4000000 in
theorem w_copied {F : Nat → Prop} {v : Value} {rs : List Rec} (w : World) (h : Recs F w v rs) (hn : rs.length * 32 ≤ 140737488351232) (hl : ∀ r ∈ rs, r.b.length ≤ 140737488355328) :
    Calls Try.prog 36 #[v] w fun e w' => ∃ u, e = .returned u ∧ OwnRG (fun b => w.heap.size ≤ b) w.heap.size w' u rs ∧ Chg none' w w' := by
  obtain ⟨A, c, rfl, _, hm⟩ := h.shape
  unfold maxLen at hm
  go_enter Try.func36, Try.ntmps36
  go_wp2
  go_loopw [3, 8] (fun ov iv wr => ∃ k : Nat, k ≤ rs.length ∧ iv = .int .i64 k ∧ OwnRG (fun b => w.heap.size ≤ b) w.heap.size wr ov (rs.take k) ∧ Chg none' w wr) (fun _ i _ => rs.length - (intOf i).toNat)
  case atStart => exact ⟨0, Nat.zero_le _, rfl, OwnRG.nil _ _ _, Chg.refl _ _⟩
  case round =>
    obtain ⟨k, hk, rfl, hown, hchg⟩ := hrel
    by_cases hlt : k < rs.length
    · obtain ⟨b1, o1, c1', u1, e1, _, ck1, cu1, hu1⟩ := (h.old.kept hchg fun _ _ => id).at_ (i := k) hlt
      simp only [Value.slice.injEq] at e1
      obtain ⟨rfl, _, rfl⟩ := e1
      obtain ⟨Au, cu, rfl⟩ := hu1.shape
      have E := Lib.hid (show rs.take (k + 1) = rs.take k ++ [rs[k]] from (List.take_append_getElem hlt).symm)
      have hrl := hl _ (List.getElem_mem hlt)
      have hll : (rs.take k).length ≤ k := List.length_take_le _ _
      generalize rs[k] = r at *
      obtain ⟨ls, hls⟩ : ∃ ls, rs.take k = ls := ⟨_, rfl⟩
      rw [hls] at hown E hll
      clear hls
      obtain ⟨vo, rfl⟩ : ∃ vo : Value, vo = u3 := ⟨_, rfl⟩
      obtain ⟨W, hW⟩ : ∃ W, W = wr.alloc (.cells #[vb r.kind, .slice Au r.b.length cu] 35) := ⟨_, rfl⟩
      have q0 := heap_alloc_new wr (.cells #[vb r.kind, .slice Au r.b.length cu] 35)
      rw [← hW] at q0
      have cW : Chg none' wr W := by rw [hW]; exact (Chg.refl _ _).alloc _
      have HW := Lib.hid hW.symm
      clear hW
      obtain ⟨g5, hg5⟩ : ∃ g5, wr.heap.size = g5 := ⟨_, rfl⟩
      rw [hg5] at q0
      obtain ⟨X, hX⟩ : ∃ X, X = W.drew := ⟨_, rfl⟩
      have cX : Chg none' wr X := by rw [hX]; exact cW.drew
      have ck : X.cell? ⟨g5, 0, none⟩ = some (vb r.kind) := by rw [hX]; show W.cell? _ = _; rw [cell_of_row _ _ _ _ _ _ q0]; rfl
      have cu2 : X.cell? ⟨g5, 1, none⟩ = some (.slice Au r.b.length cu) := by rw [hX]; show W.cell? _ = _; rw [cell_of_row _ _ _ _ _ _ q0]; rfl
      have hu : Bytes (old' w) X (.slice Au r.b.length cu) r.b := hu1.kept cX fun _ _ => id
      have hO := hown.keep cX (fun _ _ => id) (fun _ _ => id)
      have hvoX : ∀ b, X.heap.size ≤ b → ¬ ownOf vo b := fun b hb e => by have := (hO.base_ b e).2; omega
      have hbase : w.heap.size ≤ X.heap.size := Nat.le_trans hchg.size cX.size
      have HX0 : AppS vo X 0 W.drew := by rw [hX]; exact Chg.refl _ _
      have HG := Lib.hid hg5
      clear hg5 hX q0 hu1
      go_wp2
      rw [HW.out, HG.out]
      clear ck1 cu1
      -- BEGIN one
      refine wp_region_ms2 [Vp.k (vo),
        Vp.k (.pointer (some ⟨g5, 0, none⟩)),
        Vp.k (vb r.kind),
        Vp.k (.pointer (some ⟨g5, 1, none⟩)),
        Vp.k (.slice Au r.b.length cu),
        ⟨fun x v => OwnB X.heap.size x v r.b, fun _ _ _ hc h => h.keep hc fun _ => none_own⟩,
        ⟨fun x v => AggR X.heap.size x v r, fun _ _ _ hc h => h.keep hc fun _ _ => id⟩,
        ⟨fun x v => LitR X.heap.size x v r, fun _ _ _ hc h => h.keep hc fun _ _ => id⟩,
        ⟨fun x v => OwnRG (fun b => w.heap.size ≤ b) w.heap.size x v (ls ++ [r]) ∧ (∀ b, v.ownBlock = some b → vo.ownBlock = some b ∨ X.heap.size ≤ b), fun _ _ _ hc h => ⟨h.1.keep hc (fun _ _ => id) (fun _ _ => id), h.2⟩⟩,
        ⟨fun x v => OwnRG (fun b => w.heap.size ≤ b) w.heap.size x v (ls ++ [r]) ∧ (∀ b, v.ownBlock = some b → vo.ownBlock = some b ∨ X.heap.size ≤ b), fun _ _ _ hc h => ⟨h.1.keep hc (fun _ _ => id) (fun _ _ => id), h.2⟩⟩] [8] (AppS vo X) (by kernel_rfl) (by kernel_rfl) (by kernel_rfl) (by kernel_rfl) HX0 ?_ ?_
      · refine ⟨?_, ?_, ?_, ?_, ?_, ?_, ?_, ?_, ?_, ?_, trivial⟩
        · intro s hlo hhi a w2 hS hd hk K hK
          have e3 : a.tmps.getD 3 undef = vo := (Known.init (hk 3 (of_decide_eq_true (by kernel_rfl))) (by kernel_rfl))
          refine track_run rfl ?_
          exact BigFrame.wp_move _ rfl (hK _ w2 hS (.inl (Chg.refl _ _)) e3)
        · intro s hlo hhi a w2 hS hd hk K hK
          have e5 : a.tmps.getD 5 undef = .pointer (some ⟨g5, 0, none⟩) := (Known.init (hk 5 (of_decide_eq_true (by kernel_rfl))) (by kernel_rfl))
          refine track_run rfl ?_
          clear hd
          simp only [Array.getD_eq_getD_getElem?] at e5
          go_simp
          exact hK _ w2 hS (.inl (Chg.refl _ _)) rfl
        · intro s hlo hhi a w2 hS hd hk K hK
          have e13 : a.tmps.getD 13 undef = .pointer (some ⟨g5, 0, none⟩) := (Known.of (j := 1) (hk 13 (of_decide_eq_true (by kernel_rfl))) (by kernel_rfl) (by decide))
          refine track_run rfl ?_
          obtain rfl : s = 0 := Nat.le_zero.1 (Nat.le_trans hhi (of_decide_eq_true (by kernel_rfl)))
          replace hS : Chg none' X w2 := hS
          have cc := Chg.cell hS ck id
          clear hd
          simp only [Array.getD_eq_getD_getElem?] at e13
          go_simp
          exact hK _ w2 hS (.inl (Chg.refl _ _)) rfl
        · intro s hlo hhi a w2 hS hd hk K hK
          have e5 : a.tmps.getD 5 undef = .pointer (some ⟨g5, 0, none⟩) := (Known.init (hk 5 (of_decide_eq_true (by kernel_rfl))) (by kernel_rfl))
          refine track_run rfl ?_
          clear hd
          simp only [Array.getD_eq_getD_getElem?] at e5
          go_simp
          exact hK _ w2 hS (.inl (Chg.refl _ _)) rfl
        · intro s hlo hhi a w2 hS hd hk K hK
          have e15 : a.tmps.getD 15 undef = .pointer (some ⟨g5, 1, none⟩) := (Known.of (j := 3) (hk 15 (of_decide_eq_true (by kernel_rfl))) (by kernel_rfl) (by decide))
          refine track_run rfl ?_
          obtain rfl : s = 0 := Nat.le_zero.1 (Nat.le_trans hhi (of_decide_eq_true (by kernel_rfl)))
          replace hS : Chg none' X w2 := hS
          have cc := Chg.cell hS cu2 id
          clear hd
          simp only [Array.getD_eq_getD_getElem?] at e15
          go_simp
          exact hK _ w2 hS (.inl (Chg.refl _ _)) rfl
        · intro s hlo hhi a w2 hS hd hk K hK
          have e16 : a.tmps.getD 16 undef = .slice Au r.b.length cu := (Known.of (j := 4) (hk 16 (of_decide_eq_true (by kernel_rfl))) (by kernel_rfl) (by decide))
          refine track_run rfl ?_
          obtain rfl : s = 0 := Nat.le_zero.1 (Nat.le_trans hhi (of_decide_eq_true (by kernel_rfl)))
          replace hS : Chg none' X w2 := hS
          refine wp_appB (.const (.slice none 0 0)) (.tmp 16) rfl (OwnB.nil X.heap.size w2) (hu.kept hS fun _ _ => id) rfl e16 (by simpa using hrl) hS.size fun v' x o c b => ?_
          have c0 : Chg none' w2 x := c.mono fun i _ e => by simp [ownOf, Value.ownBlock] at e
          exact hK _ _ (hS.trans c0) (.inl c0) (by simpa using o)
        · intro s hlo hhi a w2 hS hd hk K hK
          have e14 : a.tmps.getD 14 undef = vb r.kind := (Known.of (j := 2) (hk 14 (of_decide_eq_true (by kernel_rfl))) (by kernel_rfl) (by decide))
          have e17 : OwnB X.heap.size w2 (a.tmps.getD 17 undef) r.b := (Known.of (j := 5) (hk 17 (of_decide_eq_true (by kernel_rfl))) (by kernel_rfl) (by decide))
          refine track_run rfl ?_
          obtain ⟨A1, n1, hv⟩ := e17.shape
          rw [hv] at e17
          rw [Array.getD_eq_getD_getElem?] at hv
          clear hd
          simp only [Array.getD_eq_getD_getElem?] at e14
          go_simp
          exact hK _ w2 hS (.inl (Chg.refl _ _)) ⟨_, _, rfl, e17⟩
        · intro s hlo hhi a w2 hS hd hk K hK
          have e18 : AggR X.heap.size w2 (a.tmps.getD 18 undef) r := (Known.of (j := 6) (hk 18 (of_decide_eq_true (by kernel_rfl))) (by kernel_rfl) (by decide))
          refine track_run rfl ?_
          obtain rfl : s = 0 := Nat.le_zero.1 (Nat.le_trans hhi (of_decide_eq_true (by kernel_rfl)))
          replace hS : Chg none' X w2 := hS
          obtain ⟨A1, n1, hv, ho⟩ := e18
          rw [Array.getD_eq_getD_getElem?] at hv
          have cA : Chg none' w2 (w2.alloc (.cells #[vb r.kind, .slice A1 r.b.length n1] 35)) := (Chg.refl _ _).alloc _
          clear hd
          go_simp
          exact hK _ _ (hS.trans cA) (.inl cA) ⟨_, _, rfl, hS.size, heap_alloc_new w2 _, Row.mono (ho.alloc _).bytes fun b _ e => ho.base_ b e⟩
        · intro s hlo hhi a w2 hS hd hk K hK
          have e12 : a.tmps.getD 12 undef = vo := (Known.of (j := 0) (hk 12 (of_decide_eq_true (by kernel_rfl))) (by kernel_rfl) (by decide))
          have e19 : LitR X.heap.size w2 (a.tmps.getD 19 undef) r := (Known.of (j := 7) (hk 19 (of_decide_eq_true (by kernel_rfl))) (by kernel_rfl) (by decide))
          refine track_run rfl ?_
          obtain rfl : s = 0 := Nat.le_zero.1 (Nat.le_trans hhi (of_decide_eq_true (by kernel_rfl)))
          replace hS : Chg none' X w2 := hS
          refine wp_appRG (.tmp 12) (.tmp 19) rfl (hO.keep hS (fun _ _ => id) (fun _ _ => id)) e19.src (fun b hb => Nat.le_trans hbase hb) (fun b hb e => hvoX b hb e) e12 rfl (by simp only [List.length_singleton]; omega) (Nat.le_trans hbase hS.size) fun v' x o c b => ?_
          exact hK _ _ ((hS.mono fun _ _ => False.elim).trans c) (.inr ⟨.inr (fun u hu => hu), .inr (fun u hu => hu), .inr (fun u hu => hu), .inr (fun u hu => hu), .inr (fun u hu => hu), .inr (fun u hu => OwnB.keepH hu c hvoX), .inr (fun u hu => hu.keep c hvoX), .inr (fun u hu => hu.keep c hvoX), .inl (by kernel_rfl), .inl (by kernel_rfl), trivial⟩) ⟨o, fun q hq => (b q hq).imp id fun z => Nat.le_trans hS.size z⟩
        · intro s hlo hhi a w2 hS hd hk K hK
          have e20 : OwnRG (fun b => w.heap.size ≤ b) w.heap.size w2 (a.tmps.getD 20 undef) (ls ++ [r]) ∧ (∀ b, ((a.tmps.getD 20 undef)).ownBlock = some b → vo.ownBlock = some b ∨ X.heap.size ≤ b) := (Known.of (j := 8) (hk 20 (of_decide_eq_true (by kernel_rfl))) (by kernel_rfl) (by decide))
          refine track_run rfl ?_
          exact BigFrame.wp_assign _ rfl (hK _ w2 hS (.inl (Chg.refl _ _)) e20)
      -- END one
      · intro f x hS hk'
        have e3 : OwnRG (fun b => w.heap.size ≤ b) w.heap.size x (f 3) (ls ++ [r]) ∧ (∀ b, (f 3).ownBlock = some b → vo.ownBlock = some b ∨ X.heap.size ≤ b) := Known.of (j := 9) (hk' 3) (by kernel_rfl) (by decide)
        simp only [filled, List.foldl_cons, List.foldl_nil]
        simp only [Act.put, List.setIfInBounds_toArray, List.set_cons_succ, List.set_cons_zero]
        replace hS : Chg (ownOf vo) X x := hS
        clear hk'
        generalize f 3 = v3 at *
        go_wp2
        go_roundw
        case rel => exact ⟨k + 1, by omega, by go_num, by rw [E.out]; exact e3.1, (hchg.trans cX).trans' hS fun i hi e => by have := (hO.base_ i e).1; omega⟩
        case measure => simp [intOf]; omega
    · obtain rfl : k = rs.length := by omega
      rw [List.take_length] at hown
      go_wp2
      go_ret
      exact ⟨_, rfl, hown, hchg⟩

end Go.Proofs.Ytclbbddpedcfjaa
