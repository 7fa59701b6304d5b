/-
  The walk of FramesLays.
-/
import Derived.Test.YtpknkkkdohgedaaLawFramesSame
namespace Go.Proofs.Ytpknkkkdohgedaa
open Go.RowKit

set_option maxRecDepth 100000 in
set_option maxHeartbeats 4000000 in
theorem walk_FramesLays (w : World) {u : Value} {rs : List Rec} (h : Recs (old' w) w u rs) (hr : rs.length * 32 ≤ 140737488351232 ∧ ∀ r ∈ rs, r.b.length ≤ 140737488351232) (hb : (rs.map fun r => r.b.length + 3).sum + 1 ≤ 1048576) :
    Calls Try.prog 5 #[u] w fun e w' => e = .returned (.bool true) ∧ Chg none' w w' := by
  have l1 := long_bulk rs
  have L1 := w_long w h (by omega)
  by_cases hL : 2000 < long rs
  · clear hr
    have b1 : long rs ≤ 10000000 := by omega
    clear hb l1
    generalize long rs = m at *
    go_enter Try.func5, Try.ntmps5
    go_wp2_with fail
    refine L1.mono ?_
    rintro e w1 ⟨rfl, rfl⟩
    go_wp2_with fail
    refine (w_known05 _).mono ?_
    rintro e w2 ⟨rfl, c2⟩
    go_wp2
    go_ret
    exact ⟨rfl, c2⟩
  obtain ⟨A, c, rfl, _, hm⟩ := h.shape
  unfold maxLen at hm
  have hok := ok_long (rs := rs) (by omega)
  have A1 := fun W (x : Recs (old' W) W (.slice A rs.length c) rs) => w_all W x hok (by omega)
  have A2 := fun W (x : Recs (old' W) W (.slice A rs.length c) rs) => w_rall W x hok (by omega)
  have S1 := fun W (x : Recs all' W (.slice A rs.length c) rs) => w_fsame W x x
  rw [decide_eq_true rfl] at S1
  clear hr hb l1
  generalize long rs = m at *
  generalize frames rs = fr at *
  go_enter Try.func5, Try.ntmps5
  go_wp2_with fail
  refine L1.mono ?_
  rintro e w1 ⟨rfl, rfl⟩
  go_wp2_with fail
  go_at_call 18
  refine (A1 _ h.old).mono ?_
  rintro e w1 ⟨x1, rfl, o1, c1⟩
  have h1 := h.kept c1 fun _ _ => id
  go_wp2_with fail
  go_at_call 19
  refine (A2 _ h1.old).mono ?_
  rintro e w2 ⟨x2, rfl, o2, c2⟩
  have h2 := h1.kept c2 fun _ _ => id
  have d2 := c1.trans c2
  go_wp2_with fail
  go_at_call 16
  refine (w_same00 _ (o1.keep c2 fun _ => none_own).bytes o2.bytes).mono ?_
  rintro e w3 ⟨rfl, rfl⟩
  rw [beq_self_eq_true]
  go_wp2
  clear A1 A2 L1 h1 h2
  go_loopw [7] (fun iv wr => ∃ k : Nat, k ≤ rs.length ∧ iv = .int .i64 k ∧ Chg none' w wr) (fun i _ => rs.length - (intOf i).toNat)
  case atStart => exact ⟨0, Nat.zero_le _, rfl, d2⟩
  case round =>
    obtain ⟨k, hk, rfl, hchg⟩ := hrel
    by_cases hlt : k < rs.length
    · have hkw := h.kept hchg fun _ _ => id
      clear o1 o2 c1 c2 d2
      obtain ⟨b1, o1, c1', u1, e1, _, ck1, cu1, hu1⟩ := hkw.at_ hlt
      simp only [Value.slice.injEq] at e1
      obtain ⟨rfl, _, rfl⟩ := e1
      have hok1 : rs[k].b.length ≤ 65536 := hok _ (List.getElem_mem hlt)
      have lk1 : (k : Int) < rs.length := by omega
      clear S1 hok
      generalize rs[k] = r at *
      have cw : Chg none' wr wr.drew := (Chg.refl _ _).drew
      go_wp2
      -- BEGIN one
      refine wp_region_track2 [Vp.k (.slice (some ⟨b1, o1, none⟩) rs.length c),
        Vp.k (.int .i64 (k : Int)),
        Vp.k (.pointer (some ⟨b1, o1 + k * 2, none⟩)),
        Vp.k (.pointer (some ⟨b1, o1 + k * 2, none⟩)),
        Vp.k (vb r.kind),
        Vp.k (.slice (some ⟨b1, o1, none⟩) rs.length c),
        Vp.k (.int .i64 (k : Int)),
        Vp.k (.pointer (some ⟨b1, o1 + k * 2, none⟩)),
        Vp.k (.pointer (some ⟨b1, o1 + k * 2 + 1, none⟩)),
        Vp.k (u1),
        ⟨fun x v => ∃ u, v = .tuple #[u, .int .i64 0] ∧ OwnB wr.heap.size x u (frame r), fun _ _ _ hc h => let ⟨u, e, ho⟩ := h; ⟨u, e, ho.keep hc fun _ => none_own⟩⟩,
        ⟨fun x v => ∃ u, v = .tuple #[u, .int .i64 0] ∧ OwnB wr.heap.size x u (frame r), fun _ _ _ hc h => let ⟨u, e, ho⟩ := h; ⟨u, e, ho.keep hc fun _ => none_own⟩⟩,
        ⟨fun x v => OwnB wr.heap.size x v (frame r), fun _ _ _ hc h => h.keep hc fun _ => none_own⟩,
        Vp.k (.int .i64 0),
        ⟨fun x v => OwnB wr.heap.size x v (frame r), fun _ _ _ hc h => h.keep hc fun _ => none_own⟩,
        Vp.k (.int .i64 0)] (by kernel_rfl) (by kernel_rfl) (by kernel_rfl) ?_ ?_
      · refine ⟨?_, ?_, ?_, ?_, ?_, ?_, ?_, ?_, ?_, ?_, ?_, ?_, ?_, ?_, ?_, ?_, trivial⟩
        · intro a w2 hc hd hk K hK
          have e0 : a.tmps.getD 0 undef = .slice (some ⟨b1, o1, none⟩) rs.length c := (Known.init (hk 0 (of_decide_eq_true (by kernel_rfl))) (by kernel_rfl))
          refine track_run rfl ?_
          exact BigFrame.wp_move _ rfl (hK _ w2 (Chg.refl _ _) e0)
        · intro a w2 hc hd hk K hK
          have e7 : a.tmps.getD 7 undef = .int .i64 (k : Int) := (Known.init (hk 7 (of_decide_eq_true (by kernel_rfl))) (by kernel_rfl))
          refine track_run rfl ?_
          exact BigFrame.wp_move _ rfl (hK _ w2 (Chg.refl _ _) e7)
        · intro a w2 hc hd hk K hK
          have e42 : a.tmps.getD 42 undef = .slice (some ⟨b1, o1, none⟩) rs.length c := (Known.of (j := 0) (hk 42 (of_decide_eq_true (by kernel_rfl))) (by kernel_rfl) (by decide))
          have e43 : a.tmps.getD 43 undef = .int .i64 (k : Int) := (Known.of (j := 1) (hk 43 (of_decide_eq_true (by kernel_rfl))) (by kernel_rfl) (by decide))
          refine track_run rfl ?_
          clear hd
          simp only [Array.getD_eq_getD_getElem?] at e42 e43
          go_simp
          exact hK _ w2 (Chg.refl _ _) rfl
        · intro a w2 hc hd hk K hK
          have e44 : a.tmps.getD 44 undef = .pointer (some ⟨b1, o1 + k * 2, none⟩) := (Known.of (j := 2) (hk 44 (of_decide_eq_true (by kernel_rfl))) (by kernel_rfl) (by decide))
          refine track_run rfl ?_
          clear hd
          simp only [Array.getD_eq_getD_getElem?] at e44
          go_simp
          exact hK _ w2 (Chg.refl _ _) rfl
        · intro a w2 hc hd hk K hK
          have e45 : a.tmps.getD 45 undef = .pointer (some ⟨b1, o1 + k * 2, none⟩) := (Known.of (j := 3) (hk 45 (of_decide_eq_true (by kernel_rfl))) (by kernel_rfl) (by decide))
          refine track_run rfl ?_
          have cc := Chg.cell (cw.trans hc) ck1 id
          clear hd
          simp only [Array.getD_eq_getD_getElem?] at e45
          go_simp
          exact hK _ w2 (Chg.refl _ _) rfl
        · intro a w2 hc hd hk K hK
          have e0 : a.tmps.getD 0 undef = .slice (some ⟨b1, o1, none⟩) rs.length c := (Known.init (hk 0 (of_decide_eq_true (by kernel_rfl))) (by kernel_rfl))
          refine track_run rfl ?_
          exact BigFrame.wp_move _ rfl (hK _ w2 (Chg.refl _ _) e0)
        · intro a w2 hc hd hk K hK
          have e7 : a.tmps.getD 7 undef = .int .i64 (k : Int) := (Known.init (hk 7 (of_decide_eq_true (by kernel_rfl))) (by kernel_rfl))
          refine track_run rfl ?_
          exact BigFrame.wp_move _ rfl (hK _ w2 (Chg.refl _ _) e7)
        · intro a w2 hc hd hk K hK
          have e47 : a.tmps.getD 47 undef = .slice (some ⟨b1, o1, none⟩) rs.length c := (Known.of (j := 5) (hk 47 (of_decide_eq_true (by kernel_rfl))) (by kernel_rfl) (by decide))
          have e48 : a.tmps.getD 48 undef = .int .i64 (k : Int) := (Known.of (j := 6) (hk 48 (of_decide_eq_true (by kernel_rfl))) (by kernel_rfl) (by decide))
          refine track_run rfl ?_
          clear hd
          simp only [Array.getD_eq_getD_getElem?] at e47 e48
          go_simp
          exact hK _ w2 (Chg.refl _ _) rfl
        · intro a w2 hc hd hk K hK
          have e49 : a.tmps.getD 49 undef = .pointer (some ⟨b1, o1 + k * 2, none⟩) := (Known.of (j := 7) (hk 49 (of_decide_eq_true (by kernel_rfl))) (by kernel_rfl) (by decide))
          refine track_run rfl ?_
          clear hd
          simp only [Array.getD_eq_getD_getElem?] at e49
          go_simp
          exact hK _ w2 (Chg.refl _ _) rfl
        · intro a w2 hc hd hk K hK
          have e50 : a.tmps.getD 50 undef = .pointer (some ⟨b1, o1 + k * 2 + 1, none⟩) := (Known.of (j := 8) (hk 50 (of_decide_eq_true (by kernel_rfl))) (by kernel_rfl) (by decide))
          refine track_run rfl ?_
          have cc := Chg.cell (cw.trans hc) cu1 id
          clear hd
          simp only [Array.getD_eq_getD_getElem?] at e50
          go_simp
          exact hK _ w2 (Chg.refl _ _) rfl
        · intro a w2 hc hd hk K hK
          have e46 : a.tmps.getD 46 undef = vb r.kind := (Known.of (j := 4) (hk 46 (of_decide_eq_true (by kernel_rfl))) (by kernel_rfl) (by decide))
          have e51 : a.tmps.getD 51 undef = u1 := (Known.of (j := 9) (hk 51 (of_decide_eq_true (by kernel_rfl))) (by kernel_rfl) (by decide))
          refine track_run rfl ?_
          refine wp_call _ Try.func20 rfl rfl rfl (map_two _ _ _) ?_
          rw [e46, e51]
          refine (w_one (r := r) _ (hu1.kept (cw.trans hc) fun _ _ => id).old hok1).mono ?_
          rintro e w3 ⟨u, rfl, o3, c3⟩
          exact ⟨_, rfl, hK _ w3 c3 ⟨u, rfl, o3.more (cw.trans hc).size⟩⟩
        · intro a w2 hc hd hk K hK
          have e52 : ∃ u, (a.tmps.getD 52 undef) = .tuple #[u, .int .i64 0] ∧ OwnB wr.heap.size w2 u (frame r) := (Known.of (j := 10) (hk 52 (of_decide_eq_true (by kernel_rfl))) (by kernel_rfl) (by decide))
          refine track_run rfl ?_
          exact BigFrame.wp_move _ rfl (hK _ w2 (Chg.refl _ _) e52)
        · intro a w2 hc hd hk K hK
          have e41 : ∃ u, (a.tmps.getD 41 undef) = .tuple #[u, .int .i64 0] ∧ OwnB wr.heap.size w2 u (frame r) := (Known.of (j := 11) (hk 41 (of_decide_eq_true (by kernel_rfl))) (by kernel_rfl) (by decide))
          refine track_run rfl ?_
          obtain ⟨u, q1, q2⟩ := e41
          rw [Array.getD_eq_getD_getElem?] at q1
          clear hd
          go_simp
          exact hK _ w2 (Chg.refl _ _) q2
        · intro a w2 hc hd hk K hK
          have e41 : ∃ u, (a.tmps.getD 41 undef) = .tuple #[u, .int .i64 0] ∧ OwnB wr.heap.size w2 u (frame r) := (Known.of (j := 11) (hk 41 (of_decide_eq_true (by kernel_rfl))) (by kernel_rfl) (by decide))
          refine track_run rfl ?_
          obtain ⟨u, q1, q2⟩ := e41
          rw [Array.getD_eq_getD_getElem?] at q1
          clear hd
          go_simp
          exact hK _ w2 (Chg.refl _ _) rfl
        · intro a w2 hc hd hk K hK
          have e53 : OwnB wr.heap.size w2 (a.tmps.getD 53 undef) (frame r) := (Known.of (j := 12) (hk 53 (of_decide_eq_true (by kernel_rfl))) (by kernel_rfl) (by decide))
          refine track_run rfl ?_
          exact BigFrame.wp_assign _ rfl (hK _ w2 (Chg.refl _ _) e53)
        · intro a w2 hc hd hk K hK
          have e54 : a.tmps.getD 54 undef = .int .i64 0 := (Known.of (j := 13) (hk 54 (of_decide_eq_true (by kernel_rfl))) (by kernel_rfl) (by decide))
          refine track_run rfl ?_
          exact BigFrame.wp_assign _ rfl (hK _ w2 (Chg.refl _ _) e54)
      -- END one
      · intro f w1 hc hk'
        have e8 : OwnB wr.heap.size w1 (f 8) (frame r) := Known.of (j := 14) (hk' 8) (by kernel_rfl) (by decide)
        have e9 : f 9 = .int .i64 0 := Known.of (j := 15) (hk' 9) (by kernel_rfl) (by decide)
        simp only [filled, List.foldl_cons, List.foldl_nil]
        rw [e9]
        simp only [Act.put, List.setIfInBounds_toArray, List.set_cons_succ, List.set_cons_zero]
        generalize f 8 = u8 at *
        clear hk' e9
        have d1 : Chg none' wr w1 := cw.trans hc
        clear cw hc
        have ck2 := d1.cell ck1 id
        have cu2 := d1.cell cu1 id
        have hu2 := hu1.kept d1 fun _ _ => id
        have cw : Chg none' w1 w1.drew := (Chg.refl _ _).drew
        clear ck1 cu1
        go_wp2
        -- BEGIN two
        refine wp_region_track2 [Vp.k (.slice (some ⟨b1, o1, none⟩) rs.length c),
          Vp.k (.int .i64 (k : Int)),
          Vp.k (.pointer (some ⟨b1, o1 + k * 2, none⟩)),
          Vp.k (.pointer (some ⟨b1, o1 + k * 2, none⟩)),
          Vp.k (vb r.kind),
          Vp.k (.slice (some ⟨b1, o1, none⟩) rs.length c),
          Vp.k (.int .i64 (k : Int)),
          Vp.k (.pointer (some ⟨b1, o1 + k * 2, none⟩)),
          Vp.k (.pointer (some ⟨b1, o1 + k * 2 + 1, none⟩)),
          Vp.k (u1),
          ⟨fun x v => ∃ u, v = .tuple #[u, .int .i64 0] ∧ OwnB w1.heap.size x u (frame r), fun _ _ _ hc h => let ⟨u, e, ho⟩ := h; ⟨u, e, ho.keep hc fun _ => none_own⟩⟩,
          ⟨fun x v => ∃ u, v = .tuple #[u, .int .i64 0] ∧ OwnB w1.heap.size x u (frame r), fun _ _ _ hc h => let ⟨u, e, ho⟩ := h; ⟨u, e, ho.keep hc fun _ => none_own⟩⟩,
          ⟨fun x v => OwnB w1.heap.size x v (frame r), fun _ _ _ hc h => h.keep hc fun _ => none_own⟩,
          Vp.k (.int .i64 0),
          ⟨fun x v => OwnB w1.heap.size x v (frame r), fun _ _ _ hc h => h.keep hc fun _ => none_own⟩,
          Vp.k (.int .i64 0)] (by kernel_rfl) (by kernel_rfl) (by kernel_rfl) ?_ ?_
        · refine ⟨?_, ?_, ?_, ?_, ?_, ?_, ?_, ?_, ?_, ?_, ?_, ?_, ?_, ?_, ?_, ?_, trivial⟩
          · intro a w2 hc hd hk K hK
            have e0 : a.tmps.getD 0 undef = .slice (some ⟨b1, o1, none⟩) rs.length c := (Known.init (hk 0 (of_decide_eq_true (by kernel_rfl))) (by kernel_rfl))
            refine track_run rfl ?_
            exact BigFrame.wp_move _ rfl (hK _ w2 (Chg.refl _ _) e0)
          · intro a w2 hc hd hk K hK
            have e7 : a.tmps.getD 7 undef = .int .i64 (k : Int) := (Known.init (hk 7 (of_decide_eq_true (by kernel_rfl))) (by kernel_rfl))
            refine track_run rfl ?_
            exact BigFrame.wp_move _ rfl (hK _ w2 (Chg.refl _ _) e7)
          · intro a w2 hc hd hk K hK
            have e56 : a.tmps.getD 56 undef = .slice (some ⟨b1, o1, none⟩) rs.length c := (Known.of (j := 0) (hk 56 (of_decide_eq_true (by kernel_rfl))) (by kernel_rfl) (by decide))
            have e57 : a.tmps.getD 57 undef = .int .i64 (k : Int) := (Known.of (j := 1) (hk 57 (of_decide_eq_true (by kernel_rfl))) (by kernel_rfl) (by decide))
            refine track_run rfl ?_
            clear hd
            simp only [Array.getD_eq_getD_getElem?] at e56 e57
            go_simp
            exact hK _ w2 (Chg.refl _ _) rfl
          · intro a w2 hc hd hk K hK
            have e58 : a.tmps.getD 58 undef = .pointer (some ⟨b1, o1 + k * 2, none⟩) := (Known.of (j := 2) (hk 58 (of_decide_eq_true (by kernel_rfl))) (by kernel_rfl) (by decide))
            refine track_run rfl ?_
            clear hd
            simp only [Array.getD_eq_getD_getElem?] at e58
            go_simp
            exact hK _ w2 (Chg.refl _ _) rfl
          · intro a w2 hc hd hk K hK
            have e59 : a.tmps.getD 59 undef = .pointer (some ⟨b1, o1 + k * 2, none⟩) := (Known.of (j := 3) (hk 59 (of_decide_eq_true (by kernel_rfl))) (by kernel_rfl) (by decide))
            refine track_run rfl ?_
            have cc := Chg.cell (cw.trans hc) ck2 id
            clear hd
            simp only [Array.getD_eq_getD_getElem?] at e59
            go_simp
            exact hK _ w2 (Chg.refl _ _) rfl
          · intro a w2 hc hd hk K hK
            have e0 : a.tmps.getD 0 undef = .slice (some ⟨b1, o1, none⟩) rs.length c := (Known.init (hk 0 (of_decide_eq_true (by kernel_rfl))) (by kernel_rfl))
            refine track_run rfl ?_
            exact BigFrame.wp_move _ rfl (hK _ w2 (Chg.refl _ _) e0)
          · intro a w2 hc hd hk K hK
            have e7 : a.tmps.getD 7 undef = .int .i64 (k : Int) := (Known.init (hk 7 (of_decide_eq_true (by kernel_rfl))) (by kernel_rfl))
            refine track_run rfl ?_
            exact BigFrame.wp_move _ rfl (hK _ w2 (Chg.refl _ _) e7)
          · intro a w2 hc hd hk K hK
            have e61 : a.tmps.getD 61 undef = .slice (some ⟨b1, o1, none⟩) rs.length c := (Known.of (j := 5) (hk 61 (of_decide_eq_true (by kernel_rfl))) (by kernel_rfl) (by decide))
            have e62 : a.tmps.getD 62 undef = .int .i64 (k : Int) := (Known.of (j := 6) (hk 62 (of_decide_eq_true (by kernel_rfl))) (by kernel_rfl) (by decide))
            refine track_run rfl ?_
            clear hd
            simp only [Array.getD_eq_getD_getElem?] at e61 e62
            go_simp
            exact hK _ w2 (Chg.refl _ _) rfl
          · intro a w2 hc hd hk K hK
            have e63 : a.tmps.getD 63 undef = .pointer (some ⟨b1, o1 + k * 2, none⟩) := (Known.of (j := 7) (hk 63 (of_decide_eq_true (by kernel_rfl))) (by kernel_rfl) (by decide))
            refine track_run rfl ?_
            clear hd
            simp only [Array.getD_eq_getD_getElem?] at e63
            go_simp
            exact hK _ w2 (Chg.refl _ _) rfl
          · intro a w2 hc hd hk K hK
            have e64 : a.tmps.getD 64 undef = .pointer (some ⟨b1, o1 + k * 2 + 1, none⟩) := (Known.of (j := 8) (hk 64 (of_decide_eq_true (by kernel_rfl))) (by kernel_rfl) (by decide))
            refine track_run rfl ?_
            have cc := Chg.cell (cw.trans hc) cu2 id
            clear hd
            simp only [Array.getD_eq_getD_getElem?] at e64
            go_simp
            exact hK _ w2 (Chg.refl _ _) rfl
          · intro a w2 hc hd hk K hK
            have e60 : a.tmps.getD 60 undef = vb r.kind := (Known.of (j := 4) (hk 60 (of_decide_eq_true (by kernel_rfl))) (by kernel_rfl) (by decide))
            have e65 : a.tmps.getD 65 undef = u1 := (Known.of (j := 9) (hk 65 (of_decide_eq_true (by kernel_rfl))) (by kernel_rfl) (by decide))
            refine track_run rfl ?_
            refine wp_call _ Try.func21 rfl rfl rfl (map_two _ _ _) ?_
            rw [e60, e65]
            refine (w_rone (r := r) _ (hu2.kept (cw.trans hc) fun _ _ => id).old hok1).mono ?_
            rintro e w3 ⟨u, rfl, o3, c3⟩
            exact ⟨_, rfl, hK _ w3 c3 ⟨u, rfl, o3.more (cw.trans hc).size⟩⟩
          · intro a w2 hc hd hk K hK
            have e66 : ∃ u, (a.tmps.getD 66 undef) = .tuple #[u, .int .i64 0] ∧ OwnB w1.heap.size w2 u (frame r) := (Known.of (j := 10) (hk 66 (of_decide_eq_true (by kernel_rfl))) (by kernel_rfl) (by decide))
            refine track_run rfl ?_
            exact BigFrame.wp_move _ rfl (hK _ w2 (Chg.refl _ _) e66)
          · intro a w2 hc hd hk K hK
            have e55 : ∃ u, (a.tmps.getD 55 undef) = .tuple #[u, .int .i64 0] ∧ OwnB w1.heap.size w2 u (frame r) := (Known.of (j := 11) (hk 55 (of_decide_eq_true (by kernel_rfl))) (by kernel_rfl) (by decide))
            refine track_run rfl ?_
            obtain ⟨u, q1, q2⟩ := e55
            rw [Array.getD_eq_getD_getElem?] at q1
            clear hd
            go_simp
            exact hK _ w2 (Chg.refl _ _) q2
          · intro a w2 hc hd hk K hK
            have e55 : ∃ u, (a.tmps.getD 55 undef) = .tuple #[u, .int .i64 0] ∧ OwnB w1.heap.size w2 u (frame r) := (Known.of (j := 11) (hk 55 (of_decide_eq_true (by kernel_rfl))) (by kernel_rfl) (by decide))
            refine track_run rfl ?_
            obtain ⟨u, q1, q2⟩ := e55
            rw [Array.getD_eq_getD_getElem?] at q1
            clear hd
            go_simp
            exact hK _ w2 (Chg.refl _ _) rfl
          · intro a w2 hc hd hk K hK
            have e67 : OwnB w1.heap.size w2 (a.tmps.getD 67 undef) (frame r) := (Known.of (j := 12) (hk 67 (of_decide_eq_true (by kernel_rfl))) (by kernel_rfl) (by decide))
            refine track_run rfl ?_
            exact BigFrame.wp_assign _ rfl (hK _ w2 (Chg.refl _ _) e67)
          · intro a w2 hc hd hk K hK
            have e68 : a.tmps.getD 68 undef = .int .i64 0 := (Known.of (j := 13) (hk 68 (of_decide_eq_true (by kernel_rfl))) (by kernel_rfl) (by decide))
            refine track_run rfl ?_
            exact BigFrame.wp_assign _ rfl (hK _ w2 (Chg.refl _ _) e68)
        -- END two
        · intro f' w3 hc hk'
          have e10 : OwnB w1.heap.size w3 (f' 10) (frame r) := Known.of (j := 14) (hk' 10) (by kernel_rfl) (by decide)
          have e11 : f' 11 = .int .i64 0 := Known.of (j := 15) (hk' 11) (by kernel_rfl) (by decide)
          simp only [filled, List.foldl_cons, List.foldl_nil]
          rw [e11]
          simp only [Act.put, List.setIfInBounds_toArray, List.set_cons_succ, List.set_cons_zero]
          generalize f' 10 = u10 at *
          clear hk' e11
          have d3 : Chg none' w1 w3 := cw.trans hc
          clear cw hc ck2 cu2 hu2
          go_wp2_with fail
          go_at_call 16
          refine (w_same00 _ (e8.keep d3 fun _ => none_own).bytes e10.bytes).mono ?_
          rintro e w4 ⟨rfl, rfl⟩
          rw [beq_self_eq_true]
          go_wp2
          go_roundw
          case rel => exact ⟨k + 1, by omega, by go_num, (hchg.trans d1).trans d3⟩
          case measure => simp [intOf]; omega
    · obtain rfl : k = rs.length := by omega
      have hkw := h.kept hchg fun _ _ => id
      go_wp2_with fail
      go_at_call 22
      refine (S1 _ hkw.all).mono ?_
      rintro e w4 ⟨rfl, c4⟩
      go_wp2_with fail
      go_at_call 10
      refine (w_known05 _).mono ?_
      rintro e w5 ⟨rfl, c5⟩
      go_wp2
      go_ret
      exact ⟨rfl, (hchg.trans c4).trans c5⟩

end Go.Proofs.Ytpknkkkdohgedaa
