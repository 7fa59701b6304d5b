/-
  Walks: the document's answer for frames of rows of records.
-/
import Derived.Test.YtclbbddpedcfjaaWFrames5
import Derived.Test.YtclbbddpedcfjaaFrames2
namespace Go.Proofs.Ytclbbddpedcfjaa
open Go.RowKit

set_option maxRecDepth 100000 in
set_option maxHeartbeats 2000000 in
theorem w_rall {v : Value} {rs : List Rec} (w : World) (h : Recs (old' w) w v rs) (hok : okAll rs) (hs : long rs ≤ 1000000000000) :
    Calls Try.prog 58 #[v] w fun e w' => ∃ u, e = .returned (.tuple #[u, .int .i64 0]) ∧ OwnB w.heap.size w' u (frames rs) ∧ Chg none' w w' := by
  obtain ⟨A, c, rfl, _, hm⟩ := h.shape
  unfold maxLen at hm
  go_enter Try.func58, Try.ntmps58
  go_wp2
  go_loopw [4, 5] (fun ov iv wr => ∃ k : Nat, k ≤ rs.length ∧ iv = .int .i64 k ∧ OwnB w.heap.size wr ov (frames (rs.take k)) ∧ Chg none' w wr) (fun _ i _ => rs.length - (intOf i).toNat)
  case atStart => exact ⟨0, Nat.zero_le _, rfl, OwnB.nil _ _, Chg.refl _ _⟩
  case round =>
    obtain ⟨k, hk, rfl, hown, hchg⟩ := hrel
    by_cases hlt : k < rs.length
    · obtain ⟨b1, o1, c1', u1, e1, _, ck1, cu1, hu1⟩ := (h.kept hchg fun _ _ => id).at_ hlt
      simp only [Value.slice.injEq] at e1
      obtain ⟨rfl, _, rfl⟩ := e1
      have E := Lib.hid (frames_take hlt)
      have L1 := long_le rs (k + 1)
      rw [long_take hlt] at L1
      have hok1 : rs[k].b.length ≤ 65536 := hok _ (List.getElem_mem hlt)
      have hfl := frames_len (rs.take k)
      have lk1 : (k : Int) < rs.length := by omega
      generalize frames (rs.take k) = fr at *
      generalize long (rs.take k) = m at *
      generalize rs[k] = r at *
      have cw : Chg none' wr wr.drew := (Chg.refl _ _).drew
      go_wp2
      -- BEGIN one
      refine wp_region_track2 [Vp.k (.slice (some ⟨b1, o1, none⟩) rs.length c),
        Vp.k (.int .i64 (k : Int)),
        Vp.k (.pointer (some ⟨b1, o1 + k * 2, none⟩)),
        Vp.k (.pointer (some ⟨b1, o1 + k * 2, none⟩)),
        Vp.k (vb r.kind),
        Vp.k (.slice (some ⟨b1, o1, none⟩) rs.length c),
        Vp.k (.int .i64 (k : Int)),
        Vp.k (.pointer (some ⟨b1, o1 + k * 2, none⟩)),
        Vp.k (.pointer (some ⟨b1, o1 + k * 2 + 1, none⟩)),
        Vp.k (u1),
        ⟨fun x v => ∃ u, v = .tuple #[u, .int .i64 0] ∧ OwnB wr.heap.size x u (frame r), fun _ _ _ hc h => let ⟨u, e, ho⟩ := h; ⟨u, e, ho.keep hc fun _ => none_own⟩⟩,
        ⟨fun x v => ∃ u, v = .tuple #[u, .int .i64 0] ∧ OwnB wr.heap.size x u (frame r), fun _ _ _ hc h => let ⟨u, e, ho⟩ := h; ⟨u, e, ho.keep hc fun _ => none_own⟩⟩,
        ⟨fun x v => OwnB wr.heap.size x v (frame r), fun _ _ _ hc h => h.keep hc fun _ => none_own⟩,
        Vp.k (.int .i64 0),
        ⟨fun x v => OwnB wr.heap.size x v (frame r), fun _ _ _ hc h => h.keep hc fun _ => none_own⟩,
        Vp.k (.int .i64 0)] (by kernel_rfl) (by kernel_rfl) (by kernel_rfl) ?_ ?_
      · refine ⟨?_, ?_, ?_, ?_, ?_, ?_, ?_, ?_, ?_, ?_, ?_, ?_, ?_, ?_, ?_, ?_, trivial⟩
        · intro a w2 hc hd hk K hK
          have e0 : a.tmps.getD 0 undef = .slice (some ⟨b1, o1, none⟩) rs.length c := (Known.init (hk 0 (of_decide_eq_true (by kernel_rfl))) (by kernel_rfl))
          refine track_run rfl ?_
          exact BigFrame.wp_move _ rfl (hK _ w2 (Chg.refl _ _) e0)
        · intro a w2 hc hd hk K hK
          have e5 : a.tmps.getD 5 undef = .int .i64 (k : Int) := (Known.init (hk 5 (of_decide_eq_true (by kernel_rfl))) (by kernel_rfl))
          refine track_run rfl ?_
          exact BigFrame.wp_move _ rfl (hK _ w2 (Chg.refl _ _) e5)
        · intro a w2 hc hd hk K hK
          have e15 : a.tmps.getD 15 undef = .slice (some ⟨b1, o1, none⟩) rs.length c := (Known.of (j := 0) (hk 15 (of_decide_eq_true (by kernel_rfl))) (by kernel_rfl) (by decide))
          have e16 : a.tmps.getD 16 undef = .int .i64 (k : Int) := (Known.of (j := 1) (hk 16 (of_decide_eq_true (by kernel_rfl))) (by kernel_rfl) (by decide))
          refine track_run rfl ?_
          clear hd
          simp only [Array.getD_eq_getD_getElem?] at e15 e16
          go_simp
          exact hK _ w2 (Chg.refl _ _) rfl
        · intro a w2 hc hd hk K hK
          have e17 : a.tmps.getD 17 undef = .pointer (some ⟨b1, o1 + k * 2, none⟩) := (Known.of (j := 2) (hk 17 (of_decide_eq_true (by kernel_rfl))) (by kernel_rfl) (by decide))
          refine track_run rfl ?_
          clear hd
          simp only [Array.getD_eq_getD_getElem?] at e17
          go_simp
          exact hK _ w2 (Chg.refl _ _) rfl
        · intro a w2 hc hd hk K hK
          have e18 : a.tmps.getD 18 undef = .pointer (some ⟨b1, o1 + k * 2, none⟩) := (Known.of (j := 3) (hk 18 (of_decide_eq_true (by kernel_rfl))) (by kernel_rfl) (by decide))
          refine track_run rfl ?_
          have cc := Chg.cell (cw.trans hc) ck1 id
          clear hd
          simp only [Array.getD_eq_getD_getElem?] at e18
          go_simp
          exact hK _ w2 (Chg.refl _ _) rfl
        · intro a w2 hc hd hk K hK
          have e0 : a.tmps.getD 0 undef = .slice (some ⟨b1, o1, none⟩) rs.length c := (Known.init (hk 0 (of_decide_eq_true (by kernel_rfl))) (by kernel_rfl))
          refine track_run rfl ?_
          exact BigFrame.wp_move _ rfl (hK _ w2 (Chg.refl _ _) e0)
        · intro a w2 hc hd hk K hK
          have e5 : a.tmps.getD 5 undef = .int .i64 (k : Int) := (Known.init (hk 5 (of_decide_eq_true (by kernel_rfl))) (by kernel_rfl))
          refine track_run rfl ?_
          exact BigFrame.wp_move _ rfl (hK _ w2 (Chg.refl _ _) e5)
        · intro a w2 hc hd hk K hK
          have e20 : a.tmps.getD 20 undef = .slice (some ⟨b1, o1, none⟩) rs.length c := (Known.of (j := 5) (hk 20 (of_decide_eq_true (by kernel_rfl))) (by kernel_rfl) (by decide))
          have e21 : a.tmps.getD 21 undef = .int .i64 (k : Int) := (Known.of (j := 6) (hk 21 (of_decide_eq_true (by kernel_rfl))) (by kernel_rfl) (by decide))
          refine track_run rfl ?_
          clear hd
          simp only [Array.getD_eq_getD_getElem?] at e20 e21
          go_simp
          exact hK _ w2 (Chg.refl _ _) rfl
        · intro a w2 hc hd hk K hK
          have e22 : a.tmps.getD 22 undef = .pointer (some ⟨b1, o1 + k * 2, none⟩) := (Known.of (j := 7) (hk 22 (of_decide_eq_true (by kernel_rfl))) (by kernel_rfl) (by decide))
          refine track_run rfl ?_
          clear hd
          simp only [Array.getD_eq_getD_getElem?] at e22
          go_simp
          exact hK _ w2 (Chg.refl _ _) rfl
        · intro a w2 hc hd hk K hK
          have e23 : a.tmps.getD 23 undef = .pointer (some ⟨b1, o1 + k * 2 + 1, none⟩) := (Known.of (j := 8) (hk 23 (of_decide_eq_true (by kernel_rfl))) (by kernel_rfl) (by decide))
          refine track_run rfl ?_
          have cc := Chg.cell (cw.trans hc) cu1 id
          clear hd
          simp only [Array.getD_eq_getD_getElem?] at e23
          go_simp
          exact hK _ w2 (Chg.refl _ _) rfl
        · intro a w2 hc hd hk K hK
          have e19 : a.tmps.getD 19 undef = vb r.kind := (Known.of (j := 4) (hk 19 (of_decide_eq_true (by kernel_rfl))) (by kernel_rfl) (by decide))
          have e24 : a.tmps.getD 24 undef = u1 := (Known.of (j := 9) (hk 24 (of_decide_eq_true (by kernel_rfl))) (by kernel_rfl) (by decide))
          refine track_run rfl ?_
          refine wp_call _ Try.func60 rfl rfl rfl (map_two _ _ _) ?_
          rw [e19, e24]
          refine (w_rone (r := r) _ (hu1.kept (cw.trans hc) fun _ _ => id).old hok1).mono ?_
          rintro e w3 ⟨u, rfl, o3, c3⟩
          exact ⟨_, rfl, hK _ w3 c3 ⟨u, rfl, o3.more (cw.trans hc).size⟩⟩
        · intro a w2 hc hd hk K hK
          have e25 : ∃ u, (a.tmps.getD 25 undef) = .tuple #[u, .int .i64 0] ∧ OwnB wr.heap.size w2 u (frame r) := (Known.of (j := 10) (hk 25 (of_decide_eq_true (by kernel_rfl))) (by kernel_rfl) (by decide))
          refine track_run rfl ?_
          exact BigFrame.wp_move _ rfl (hK _ w2 (Chg.refl _ _) e25)
        · intro a w2 hc hd hk K hK
          have e14 : ∃ u, (a.tmps.getD 14 undef) = .tuple #[u, .int .i64 0] ∧ OwnB wr.heap.size w2 u (frame r) := (Known.of (j := 11) (hk 14 (of_decide_eq_true (by kernel_rfl))) (by kernel_rfl) (by decide))
          refine track_run rfl ?_
          obtain ⟨u, q1, q2⟩ := e14
          rw [Array.getD_eq_getD_getElem?] at q1
          clear hd
          go_simp
          exact hK _ w2 (Chg.refl _ _) q2
        · intro a w2 hc hd hk K hK
          have e14 : ∃ u, (a.tmps.getD 14 undef) = .tuple #[u, .int .i64 0] ∧ OwnB wr.heap.size w2 u (frame r) := (Known.of (j := 11) (hk 14 (of_decide_eq_true (by kernel_rfl))) (by kernel_rfl) (by decide))
          refine track_run rfl ?_
          obtain ⟨u, q1, q2⟩ := e14
          rw [Array.getD_eq_getD_getElem?] at q1
          clear hd
          go_simp
          exact hK _ w2 (Chg.refl _ _) rfl
        · intro a w2 hc hd hk K hK
          have e26 : OwnB wr.heap.size w2 (a.tmps.getD 26 undef) (frame r) := (Known.of (j := 12) (hk 26 (of_decide_eq_true (by kernel_rfl))) (by kernel_rfl) (by decide))
          refine track_run rfl ?_
          exact BigFrame.wp_assign _ rfl (hK _ w2 (Chg.refl _ _) e26)
        · intro a w2 hc hd hk K hK
          have e27 : a.tmps.getD 27 undef = .int .i64 0 := (Known.of (j := 13) (hk 27 (of_decide_eq_true (by kernel_rfl))) (by kernel_rfl) (by decide))
          refine track_run rfl ?_
          exact BigFrame.wp_assign _ rfl (hK _ w2 (Chg.refl _ _) e27)
      -- END one
      · intro f w1 hc hk'
        have e6 : OwnB wr.heap.size w1 (f 6) (frame r) := Known.of (j := 14) (hk' 6) (by kernel_rfl) (by decide)
        have e7 : f 7 = .int .i64 0 := Known.of (j := 15) (hk' 7) (by kernel_rfl) (by decide)
        simp only [filled, List.foldl_cons, List.foldl_nil]
        rw [e7]
        simp only [Act.put, List.setIfInBounds_toArray, List.set_cons_succ, List.set_cons_zero]
        generalize f 6 = u6 at *
        have d1 : Chg none' wr w1 := cw.trans hc
        have o1' := hown.keep d1 fun _ => none_own
        have hfr : (frame r).length = r.b.length + 10 := frame_len r
        go_wp2_with (at_builtin; refine wpList_appB rfl (.tmp 31) (.tmp 32) rfl o1' e6.bytes rfl rfl (by omega) (hchg.trans d1).size ?_; intro v2 w2 o2 c2 b2)
        go_roundw
        case rel => exact ⟨k + 1, by omega, by go_num, by rw [E.out]; exact o2, (hchg.trans d1).trans' c2 fun i hi e => by have := o1'.base_ i e; omega⟩
        case measure => simp [intOf]; omega
    · obtain rfl : k = rs.length := by omega
      rw [List.take_length] at hown
      go_wp2
      go_ret2
      exact ⟨_, rfl, hown, hchg⟩

end Go.Proofs.Ytclbbddpedcfjaa
