/-
  Walks: whether records are the same (the document's answer), and what the examples fix.
-/
import Derived.Test.YtclbbddpedcfjaaWFrames4
namespace Go.Proofs.Ytclbbddpedcfjaa
open Go.RowKit

theorem take_succ_eq {rs qs : List Rec} {k : Nat} (h : rs.take k = qs.take k) (h1 : k < rs.length) (h2 : k < qs.length) (h3 : rs[k] = qs[k]) : rs.take (k + 1) = qs.take (k + 1) := by
  rw [← List.take_append_getElem h1, ← List.take_append_getElem h2, h, h3]

set_option maxRecDepth 100000 in
set_option maxHeartbeats 2000000 in
theorem w_rsame {F G : Nat → Prop} {u v : Value} {rs qs : List Rec} (w : World) (h : Recs F w u rs) (hq : Recs G w v qs) :
    Calls Try.prog 15 #[u, v] w fun e w' => e = .returned (.bool (decide (rs = qs))) ∧ Chg none' w w' := by
  replace h := h.all
  replace hq := hq.all
  obtain ⟨A, c1, rfl, _, hm1⟩ := h.shape
  obtain ⟨B, c2, rfl, _, hm2⟩ := hq.shape
  unfold maxLen at hm1 hm2
  by_cases hl : rs.length = qs.length
  · go_enter Try.func15, Try.ntmps15
    have hl1 : ((rs.length : Int) == (qs.length : Int)) = true := by rw [hl, beq_self_eq_true]
    have hl2 : ((rs.length : Int) != (qs.length : Int)) = false := by rw [bne, hl1]; rfl
    have hle1 : rs.length ≤ qs.length := by omega
    have HL := Lib.hid hl; clear hl
    go_wp2
    go_loopw [5] (fun iv wr => ∃ k : Nat, k ≤ rs.length ∧ iv = .int .i64 k ∧ Hid (rs.take k = qs.take k) ∧ Chg none' w wr) (fun i _ => rs.length - (intOf i).toNat)
    case atStart => exact ⟨0, Nat.zero_le _, rfl, Lib.hid rfl, Chg.refl _ _⟩
    case round =>
      obtain ⟨k, hk, rfl, heq, hchg⟩ := hrel
      by_cases hlt : k < rs.length
      · have hlt2 : k < qs.length := by omega
        obtain ⟨b1, o1, c1', u1, e1, _, ck1, cu1, hu1⟩ := (h.kept hchg fun _ _ => id).at_ hlt
        obtain ⟨b2, o2, c2', u2, e2, _, ck2, cu2, hu2⟩ := (hq.kept hchg fun _ _ => id).at_ hlt2
        simp only [Value.slice.injEq] at e1 e2
        obtain ⟨rfl, _, rfl⟩ := e1
        obtain ⟨rfl, _, rfl⟩ := e2
        have hr : rs[k] = qs[k] ↔ rs[k].kind = qs[k].kind ∧ rs[k].b = qs[k].b := by
          constructor
          · intro e; rw [e]; exact ⟨rfl, rfl⟩
          · rintro ⟨q1, q2⟩
            generalize rs[k] = x at *
            generalize qs[k] = y at *
            cases x; cases y; simp at q1 q2; rw [q1, q2]
        have hs1 : rs[k] = qs[k] → rs.take (k + 1) = qs.take (k + 1) := take_succ_eq heq.out hlt hlt2
        have hs2 : ¬ rs[k] = qs[k] → decide (rs = qs) = false := fun hne => decide_eq_false fun e => hne (by subst e; rfl)
        generalize rs[k].kind = k1 at *
        generalize qs[k].kind = k2 at *
        obtain ⟨Z, hZ⟩ : ∃ Z : Bool, (rs[k].b == qs[k].b) = Z := ⟨_, rfl⟩
        have HR := Lib.hid hr
        have H1 := Lib.hid hs1
        have H2 := Lib.hid hs2
        have HZ := Lib.hid hZ
        clear hr hs1 hs2 hZ
        have lk1 : (k : Int) < rs.length := by omega
        have lk2 : (k : Int) < qs.length := by omega
        have cw : Chg none' wr wr.drew := (Chg.refl _ _).drew
        by_cases hkk : k1 = k2
        · subst hkk
          go_wp2
          -- BEGIN same
          refine wp_region_track2 [Vp.k (.slice (some ⟨b1, o1, none⟩) rs.length c1),
            Vp.k (.int .i64 (k : Int)),
            Vp.k (.pointer (some ⟨b1, o1 + k * 2, none⟩)),
            Vp.k (.pointer (some ⟨b1, o1 + k * 2, none⟩)),
            Vp.k (vb k1),
            Vp.k (.slice (some ⟨b2, o2, none⟩) qs.length c2),
            Vp.k (.int .i64 (k : Int)),
            Vp.k (.pointer (some ⟨b2, o2 + k * 2, none⟩)),
            Vp.k (.pointer (some ⟨b2, o2 + k * 2, none⟩)),
            Vp.k (vb k1),
            Vp.k (.bool false),
            Vp.k (.bool false),
            Vp.k (.slice (some ⟨b1, o1, none⟩) rs.length c1),
            Vp.k (.int .i64 (k : Int)),
            Vp.k (.pointer (some ⟨b1, o1 + k * 2, none⟩)),
            Vp.k (.pointer (some ⟨b1, o1 + k * 2 + 1, none⟩)),
            Vp.k (u1),
            Vp.k (.slice (some ⟨b2, o2, none⟩) qs.length c2),
            Vp.k (.int .i64 (k : Int)),
            Vp.k (.pointer (some ⟨b2, o2 + k * 2, none⟩)),
            Vp.k (.pointer (some ⟨b2, o2 + k * 2 + 1, none⟩)),
            Vp.k (u2),
            Vp.k (.bool Z),
            Vp.k (.bool !Z),
            Vp.k (.bool !Z)] (by kernel_rfl) (by kernel_rfl) (by kernel_rfl) ?_ ?_
          · refine ⟨?_, ?_, ?_, ?_, ?_, ?_, ?_, ?_, ?_, ?_, ?_, ?_, ?_, ?_, ?_, ?_, ?_, ?_, ?_, ?_, ?_, ?_, ?_, ?_, ?_, trivial⟩
            · intro a w2 hc hd hk K hK
              have e0 : a.tmps.getD 0 undef = .slice (some ⟨b1, o1, none⟩) rs.length c1 := (Known.init (hk 0 (of_decide_eq_true (by kernel_rfl))) (by kernel_rfl))
              refine track_run rfl ?_
              exact BigFrame.wp_move _ rfl (hK _ w2 (Chg.refl _ _) e0)
            · intro a w2 hc hd hk K hK
              have e5 : a.tmps.getD 5 undef = .int .i64 (k : Int) := (Known.init (hk 5 (of_decide_eq_true (by kernel_rfl))) (by kernel_rfl))
              refine track_run rfl ?_
              exact BigFrame.wp_move _ rfl (hK _ w2 (Chg.refl _ _) e5)
            · intro a w2 hc hd hk K hK
              have e17 : a.tmps.getD 17 undef = .slice (some ⟨b1, o1, none⟩) rs.length c1 := (Known.of (j := 0) (hk 17 (of_decide_eq_true (by kernel_rfl))) (by kernel_rfl) (by decide))
              have e18 : a.tmps.getD 18 undef = .int .i64 (k : Int) := (Known.of (j := 1) (hk 18 (of_decide_eq_true (by kernel_rfl))) (by kernel_rfl) (by decide))
              refine track_run rfl ?_
              clear hd
              simp only [Array.getD_eq_getD_getElem?] at e17 e18
              go_simp
              exact hK _ w2 (Chg.refl _ _) rfl
            · intro a w2 hc hd hk K hK
              have e19 : a.tmps.getD 19 undef = .pointer (some ⟨b1, o1 + k * 2, none⟩) := (Known.of (j := 2) (hk 19 (of_decide_eq_true (by kernel_rfl))) (by kernel_rfl) (by decide))
              refine track_run rfl ?_
              clear hd
              simp only [Array.getD_eq_getD_getElem?] at e19
              go_simp
              exact hK _ w2 (Chg.refl _ _) rfl
            · intro a w2 hc hd hk K hK
              have e20 : a.tmps.getD 20 undef = .pointer (some ⟨b1, o1 + k * 2, none⟩) := (Known.of (j := 3) (hk 20 (of_decide_eq_true (by kernel_rfl))) (by kernel_rfl) (by decide))
              refine track_run rfl ?_
              have cc := Chg.cell (cw.trans hc) ck1 id
              clear hd
              simp only [Array.getD_eq_getD_getElem?] at e20
              go_simp
              exact hK _ w2 (Chg.refl _ _) rfl
            · intro a w2 hc hd hk K hK
              have e1 : a.tmps.getD 1 undef = .slice (some ⟨b2, o2, none⟩) qs.length c2 := (Known.init (hk 1 (of_decide_eq_true (by kernel_rfl))) (by kernel_rfl))
              refine track_run rfl ?_
              exact BigFrame.wp_move _ rfl (hK _ w2 (Chg.refl _ _) e1)
            · intro a w2 hc hd hk K hK
              have e5 : a.tmps.getD 5 undef = .int .i64 (k : Int) := (Known.init (hk 5 (of_decide_eq_true (by kernel_rfl))) (by kernel_rfl))
              refine track_run rfl ?_
              exact BigFrame.wp_move _ rfl (hK _ w2 (Chg.refl _ _) e5)
            · intro a w2 hc hd hk K hK
              have e22 : a.tmps.getD 22 undef = .slice (some ⟨b2, o2, none⟩) qs.length c2 := (Known.of (j := 5) (hk 22 (of_decide_eq_true (by kernel_rfl))) (by kernel_rfl) (by decide))
              have e23 : a.tmps.getD 23 undef = .int .i64 (k : Int) := (Known.of (j := 6) (hk 23 (of_decide_eq_true (by kernel_rfl))) (by kernel_rfl) (by decide))
              refine track_run rfl ?_
              clear hd
              simp only [Array.getD_eq_getD_getElem?] at e22 e23
              go_simp
              exact hK _ w2 (Chg.refl _ _) rfl
            · intro a w2 hc hd hk K hK
              have e24 : a.tmps.getD 24 undef = .pointer (some ⟨b2, o2 + k * 2, none⟩) := (Known.of (j := 7) (hk 24 (of_decide_eq_true (by kernel_rfl))) (by kernel_rfl) (by decide))
              refine track_run rfl ?_
              clear hd
              simp only [Array.getD_eq_getD_getElem?] at e24
              go_simp
              exact hK _ w2 (Chg.refl _ _) rfl
            · intro a w2 hc hd hk K hK
              have e25 : a.tmps.getD 25 undef = .pointer (some ⟨b2, o2 + k * 2, none⟩) := (Known.of (j := 8) (hk 25 (of_decide_eq_true (by kernel_rfl))) (by kernel_rfl) (by decide))
              refine track_run rfl ?_
              have cc := Chg.cell (cw.trans hc) ck2 id
              clear hd
              simp only [Array.getD_eq_getD_getElem?] at e25
              go_simp
              exact hK _ w2 (Chg.refl _ _) rfl
            · intro a w2 hc hd hk K hK
              have e21 : a.tmps.getD 21 undef = vb k1 := (Known.of (j := 4) (hk 21 (of_decide_eq_true (by kernel_rfl))) (by kernel_rfl) (by decide))
              have e26 : a.tmps.getD 26 undef = vb k1 := (Known.of (j := 9) (hk 26 (of_decide_eq_true (by kernel_rfl))) (by kernel_rfl) (by decide))
              refine track_run rfl ?_
              clear hd
              simp only [Array.getD_eq_getD_getElem?] at e21 e26
              go_simp
              exact hK _ w2 (Chg.refl _ _) rfl
            · intro a w2 hc hd hk K hK
              have e27 : a.tmps.getD 27 undef = .bool false := (Known.of (j := 10) (hk 27 (of_decide_eq_true (by kernel_rfl))) (by kernel_rfl) (by decide))
              refine track_run rfl ?_
              exact BigFrame.wp_move _ rfl (hK _ w2 (Chg.refl _ _) e27)
            · intro a w2 hc hd hk K hK
              have e28 : a.tmps.getD 28 undef = Value.bool false := (Known.of (j := 11) (hk 28 (of_decide_eq_true (by kernel_rfl))) (by kernel_rfl) (by decide))
              have e0 : a.tmps.getD 0 undef = .slice (some ⟨b1, o1, none⟩) rs.length c1 := (Known.init (hk 0 (of_decide_eq_true (by kernel_rfl))) (by kernel_rfl))
              refine track_run (wanted_yes rfl rfl e28) ?_
              exact BigFrame.wp_move _ rfl (hK _ w2 (Chg.refl _ _) e0)
            · intro a w2 hc hd hk K hK
              have e28 : a.tmps.getD 28 undef = Value.bool false := (Known.of (j := 11) (hk 28 (of_decide_eq_true (by kernel_rfl))) (by kernel_rfl) (by decide))
              have e5 : a.tmps.getD 5 undef = .int .i64 (k : Int) := (Known.init (hk 5 (of_decide_eq_true (by kernel_rfl))) (by kernel_rfl))
              refine track_run (wanted_yes rfl rfl e28) ?_
              exact BigFrame.wp_move _ rfl (hK _ w2 (Chg.refl _ _) e5)
            · intro a w2 hc hd hk K hK
              have e28 : a.tmps.getD 28 undef = Value.bool false := (Known.of (j := 11) (hk 28 (of_decide_eq_true (by kernel_rfl))) (by kernel_rfl) (by decide))
              have e29 : a.tmps.getD 29 undef = .slice (some ⟨b1, o1, none⟩) rs.length c1 := (Known.of (j := 12) (hk 29 (of_decide_eq_true (by kernel_rfl))) (by kernel_rfl) (by decide))
              have e30 : a.tmps.getD 30 undef = .int .i64 (k : Int) := (Known.of (j := 13) (hk 30 (of_decide_eq_true (by kernel_rfl))) (by kernel_rfl) (by decide))
              refine track_run (wanted_yes rfl rfl e28) ?_
              clear hd
              simp only [Array.getD_eq_getD_getElem?] at e29 e30
              go_simp
              exact hK _ w2 (Chg.refl _ _) rfl
            · intro a w2 hc hd hk K hK
              have e28 : a.tmps.getD 28 undef = Value.bool false := (Known.of (j := 11) (hk 28 (of_decide_eq_true (by kernel_rfl))) (by kernel_rfl) (by decide))
              have e31 : a.tmps.getD 31 undef = .pointer (some ⟨b1, o1 + k * 2, none⟩) := (Known.of (j := 14) (hk 31 (of_decide_eq_true (by kernel_rfl))) (by kernel_rfl) (by decide))
              refine track_run (wanted_yes rfl rfl e28) ?_
              clear hd
              simp only [Array.getD_eq_getD_getElem?] at e31
              go_simp
              exact hK _ w2 (Chg.refl _ _) rfl
            · intro a w2 hc hd hk K hK
              have e28 : a.tmps.getD 28 undef = Value.bool false := (Known.of (j := 11) (hk 28 (of_decide_eq_true (by kernel_rfl))) (by kernel_rfl) (by decide))
              have e32 : a.tmps.getD 32 undef = .pointer (some ⟨b1, o1 + k * 2 + 1, none⟩) := (Known.of (j := 15) (hk 32 (of_decide_eq_true (by kernel_rfl))) (by kernel_rfl) (by decide))
              refine track_run (wanted_yes rfl rfl e28) ?_
              have cc := Chg.cell (cw.trans hc) cu1 id
              clear hd
              simp only [Array.getD_eq_getD_getElem?] at e32
              go_simp
              exact hK _ w2 (Chg.refl _ _) rfl
            · intro a w2 hc hd hk K hK
              have e28 : a.tmps.getD 28 undef = Value.bool false := (Known.of (j := 11) (hk 28 (of_decide_eq_true (by kernel_rfl))) (by kernel_rfl) (by decide))
              have e1 : a.tmps.getD 1 undef = .slice (some ⟨b2, o2, none⟩) qs.length c2 := (Known.init (hk 1 (of_decide_eq_true (by kernel_rfl))) (by kernel_rfl))
              refine track_run (wanted_yes rfl rfl e28) ?_
              exact BigFrame.wp_move _ rfl (hK _ w2 (Chg.refl _ _) e1)
            · intro a w2 hc hd hk K hK
              have e28 : a.tmps.getD 28 undef = Value.bool false := (Known.of (j := 11) (hk 28 (of_decide_eq_true (by kernel_rfl))) (by kernel_rfl) (by decide))
              have e5 : a.tmps.getD 5 undef = .int .i64 (k : Int) := (Known.init (hk 5 (of_decide_eq_true (by kernel_rfl))) (by kernel_rfl))
              refine track_run (wanted_yes rfl rfl e28) ?_
              exact BigFrame.wp_move _ rfl (hK _ w2 (Chg.refl _ _) e5)
            · intro a w2 hc hd hk K hK
              have e28 : a.tmps.getD 28 undef = Value.bool false := (Known.of (j := 11) (hk 28 (of_decide_eq_true (by kernel_rfl))) (by kernel_rfl) (by decide))
              have e34 : a.tmps.getD 34 undef = .slice (some ⟨b2, o2, none⟩) qs.length c2 := (Known.of (j := 17) (hk 34 (of_decide_eq_true (by kernel_rfl))) (by kernel_rfl) (by decide))
              have e35 : a.tmps.getD 35 undef = .int .i64 (k : Int) := (Known.of (j := 18) (hk 35 (of_decide_eq_true (by kernel_rfl))) (by kernel_rfl) (by decide))
              refine track_run (wanted_yes rfl rfl e28) ?_
              clear hd
              simp only [Array.getD_eq_getD_getElem?] at e34 e35
              go_simp
              exact hK _ w2 (Chg.refl _ _) rfl
            · intro a w2 hc hd hk K hK
              have e28 : a.tmps.getD 28 undef = Value.bool false := (Known.of (j := 11) (hk 28 (of_decide_eq_true (by kernel_rfl))) (by kernel_rfl) (by decide))
              have e36 : a.tmps.getD 36 undef = .pointer (some ⟨b2, o2 + k * 2, none⟩) := (Known.of (j := 19) (hk 36 (of_decide_eq_true (by kernel_rfl))) (by kernel_rfl) (by decide))
              refine track_run (wanted_yes rfl rfl e28) ?_
              clear hd
              simp only [Array.getD_eq_getD_getElem?] at e36
              go_simp
              exact hK _ w2 (Chg.refl _ _) rfl
            · intro a w2 hc hd hk K hK
              have e28 : a.tmps.getD 28 undef = Value.bool false := (Known.of (j := 11) (hk 28 (of_decide_eq_true (by kernel_rfl))) (by kernel_rfl) (by decide))
              have e37 : a.tmps.getD 37 undef = .pointer (some ⟨b2, o2 + k * 2 + 1, none⟩) := (Known.of (j := 20) (hk 37 (of_decide_eq_true (by kernel_rfl))) (by kernel_rfl) (by decide))
              refine track_run (wanted_yes rfl rfl e28) ?_
              have cc := Chg.cell (cw.trans hc) cu2 id
              clear hd
              simp only [Array.getD_eq_getD_getElem?] at e37
              go_simp
              exact hK _ w2 (Chg.refl _ _) rfl
            · intro a w2 hc hd hk K hK
              have e28 : a.tmps.getD 28 undef = Value.bool false := (Known.of (j := 11) (hk 28 (of_decide_eq_true (by kernel_rfl))) (by kernel_rfl) (by decide))
              have e33 : a.tmps.getD 33 undef = u1 := (Known.of (j := 16) (hk 33 (of_decide_eq_true (by kernel_rfl))) (by kernel_rfl) (by decide))
              have e38 : a.tmps.getD 38 undef = u2 := (Known.of (j := 21) (hk 38 (of_decide_eq_true (by kernel_rfl))) (by kernel_rfl) (by decide))
              refine track_run (wanted_yes rfl rfl e28) ?_
              refine wp_call _ Try.func21 rfl rfl rfl (map_two _ _ _) ?_
              rw [e33, e38]
              refine (w_same00 _ (hu1.kept (cw.trans hc) fun _ _ => id) (hu2.kept (cw.trans hc) fun _ _ => id)).mono ?_
              rintro e w3 ⟨rfl, rfl⟩
              exact ⟨_, rfl, hK _ w2 (Chg.refl _ _) (by rw [← HZ.out]; rfl)⟩
            · intro a w2 hc hd hk K hK
              have e28 : a.tmps.getD 28 undef = Value.bool false := (Known.of (j := 11) (hk 28 (of_decide_eq_true (by kernel_rfl))) (by kernel_rfl) (by decide))
              have e39 : a.tmps.getD 39 undef = .bool Z := (Known.of (j := 22) (hk 39 (of_decide_eq_true (by kernel_rfl))) (by kernel_rfl) (by decide))
              refine track_run (wanted_yes rfl rfl e28) ?_
              clear hd
              simp only [Array.getD_eq_getD_getElem?] at e39
              go_simp
              exact hK _ w2 (Chg.refl _ _) rfl
            · intro a w2 hc hd hk K hK
              have e28 : a.tmps.getD 28 undef = .bool false := (Known.of (j := 11) (hk 28 (of_decide_eq_true (by kernel_rfl))) (by kernel_rfl) (by decide))
              have e40 : a.tmps.getD 40 undef = .bool !Z := (Known.of (j := 23) (hk 40 (of_decide_eq_true (by kernel_rfl))) (by kernel_rfl) (by decide))
              refine track_run rfl ?_
              clear hd
              simp only [Array.getD_eq_getD_getElem?] at e28 e40
              go_simp
              exact hK _ w2 (Chg.refl _ _) rfl
          -- END same
          · intro f w3 hc hk'
            have e41 : f 41 = .bool !Z := Known.of (j := 24) (hk' 41) (by kernel_rfl) (by decide)
            simp only [filled, List.foldl_cons, List.foldl_nil]
            rw [e41]
            simp only [Act.put, List.setIfInBounds_toArray, List.set_cons_succ, List.set_cons_zero]
            have hc2 : Chg none' w w3 := hchg.trans (cw.trans hc)
            cases Z with
            | true =>
              have T := Lib.hid (H1.out (HR.out.2 ⟨(by first | rfl | trivial), by simpa using HZ.out⟩))
              go_wp2
              go_roundw
              case rel => exact ⟨k + 1, by omega, by go_num, T, hc2⟩
              case measure => simp [intOf]; omega
            | false =>
              have T := Lib.hid (H2.out (fun e => by have := HZ.out; rw [(HR.out.1 e).2] at this; simp at this))
              go_wp2
              first | go_ret | (rw [Exit.noGoto_ret]; go_ret)
              rw [T.out]
              exact ⟨rfl, hc2⟩
        · have n1 := ne_byte hkk
          have n2 : ((k1.toNat : Int) != (k2.toNat : Int)) = true := by rw [bne, n1]; rfl
          go_wp2
          -- BEGIN diff
          refine wp_region_track2 [Vp.k (.slice (some ⟨b1, o1, none⟩) rs.length c1),
            Vp.k (.int .i64 (k : Int)),
            Vp.k (.pointer (some ⟨b1, o1 + k * 2, none⟩)),
            Vp.k (.pointer (some ⟨b1, o1 + k * 2, none⟩)),
            Vp.k (vb k1),
            Vp.k (.slice (some ⟨b2, o2, none⟩) qs.length c2),
            Vp.k (.int .i64 (k : Int)),
            Vp.k (.pointer (some ⟨b2, o2 + k * 2, none⟩)),
            Vp.k (.pointer (some ⟨b2, o2 + k * 2, none⟩)),
            Vp.k (vb k2),
            Vp.k (.bool true),
            Vp.k (.bool true),
            Vp.k undef,
            Vp.k undef,
            Vp.k undef,
            Vp.k undef,
            Vp.k undef,
            Vp.k undef,
            Vp.k undef,
            Vp.k undef,
            Vp.k undef,
            Vp.k undef,
            Vp.k undef,
            Vp.k undef,
            Vp.k (.bool true)] (by kernel_rfl) (by kernel_rfl) (by kernel_rfl) ?_ ?_
          · refine ⟨?_, ?_, ?_, ?_, ?_, ?_, ?_, ?_, ?_, ?_, ?_, ?_, ?_, ?_, ?_, ?_, ?_, ?_, ?_, ?_, ?_, ?_, ?_, ?_, ?_, trivial⟩
            · intro a w2 hc hd hk K hK
              have e0 : a.tmps.getD 0 undef = .slice (some ⟨b1, o1, none⟩) rs.length c1 := (Known.init (hk 0 (of_decide_eq_true (by kernel_rfl))) (by kernel_rfl))
              refine track_run rfl ?_
              exact BigFrame.wp_move _ rfl (hK _ w2 (Chg.refl _ _) e0)
            · intro a w2 hc hd hk K hK
              have e5 : a.tmps.getD 5 undef = .int .i64 (k : Int) := (Known.init (hk 5 (of_decide_eq_true (by kernel_rfl))) (by kernel_rfl))
              refine track_run rfl ?_
              exact BigFrame.wp_move _ rfl (hK _ w2 (Chg.refl _ _) e5)
            · intro a w2 hc hd hk K hK
              have e17 : a.tmps.getD 17 undef = .slice (some ⟨b1, o1, none⟩) rs.length c1 := (Known.of (j := 0) (hk 17 (of_decide_eq_true (by kernel_rfl))) (by kernel_rfl) (by decide))
              have e18 : a.tmps.getD 18 undef = .int .i64 (k : Int) := (Known.of (j := 1) (hk 18 (of_decide_eq_true (by kernel_rfl))) (by kernel_rfl) (by decide))
              refine track_run rfl ?_
              clear hd
              simp only [Array.getD_eq_getD_getElem?] at e17 e18
              go_simp
              exact hK _ w2 (Chg.refl _ _) rfl
            · intro a w2 hc hd hk K hK
              have e19 : a.tmps.getD 19 undef = .pointer (some ⟨b1, o1 + k * 2, none⟩) := (Known.of (j := 2) (hk 19 (of_decide_eq_true (by kernel_rfl))) (by kernel_rfl) (by decide))
              refine track_run rfl ?_
              clear hd
              simp only [Array.getD_eq_getD_getElem?] at e19
              go_simp
              exact hK _ w2 (Chg.refl _ _) rfl
            · intro a w2 hc hd hk K hK
              have e20 : a.tmps.getD 20 undef = .pointer (some ⟨b1, o1 + k * 2, none⟩) := (Known.of (j := 3) (hk 20 (of_decide_eq_true (by kernel_rfl))) (by kernel_rfl) (by decide))
              refine track_run rfl ?_
              have cc := Chg.cell (cw.trans hc) ck1 id
              clear hd
              simp only [Array.getD_eq_getD_getElem?] at e20
              go_simp
              exact hK _ w2 (Chg.refl _ _) rfl
            · intro a w2 hc hd hk K hK
              have e1 : a.tmps.getD 1 undef = .slice (some ⟨b2, o2, none⟩) qs.length c2 := (Known.init (hk 1 (of_decide_eq_true (by kernel_rfl))) (by kernel_rfl))
              refine track_run rfl ?_
              exact BigFrame.wp_move _ rfl (hK _ w2 (Chg.refl _ _) e1)
            · intro a w2 hc hd hk K hK
              have e5 : a.tmps.getD 5 undef = .int .i64 (k : Int) := (Known.init (hk 5 (of_decide_eq_true (by kernel_rfl))) (by kernel_rfl))
              refine track_run rfl ?_
              exact BigFrame.wp_move _ rfl (hK _ w2 (Chg.refl _ _) e5)
            · intro a w2 hc hd hk K hK
              have e22 : a.tmps.getD 22 undef = .slice (some ⟨b2, o2, none⟩) qs.length c2 := (Known.of (j := 5) (hk 22 (of_decide_eq_true (by kernel_rfl))) (by kernel_rfl) (by decide))
              have e23 : a.tmps.getD 23 undef = .int .i64 (k : Int) := (Known.of (j := 6) (hk 23 (of_decide_eq_true (by kernel_rfl))) (by kernel_rfl) (by decide))
              refine track_run rfl ?_
              clear hd
              simp only [Array.getD_eq_getD_getElem?] at e22 e23
              go_simp
              exact hK _ w2 (Chg.refl _ _) rfl
            · intro a w2 hc hd hk K hK
              have e24 : a.tmps.getD 24 undef = .pointer (some ⟨b2, o2 + k * 2, none⟩) := (Known.of (j := 7) (hk 24 (of_decide_eq_true (by kernel_rfl))) (by kernel_rfl) (by decide))
              refine track_run rfl ?_
              clear hd
              simp only [Array.getD_eq_getD_getElem?] at e24
              go_simp
              exact hK _ w2 (Chg.refl _ _) rfl
            · intro a w2 hc hd hk K hK
              have e25 : a.tmps.getD 25 undef = .pointer (some ⟨b2, o2 + k * 2, none⟩) := (Known.of (j := 8) (hk 25 (of_decide_eq_true (by kernel_rfl))) (by kernel_rfl) (by decide))
              refine track_run rfl ?_
              have cc := Chg.cell (cw.trans hc) ck2 id
              clear hd
              simp only [Array.getD_eq_getD_getElem?] at e25
              go_simp
              exact hK _ w2 (Chg.refl _ _) rfl
            · intro a w2 hc hd hk K hK
              have e21 : a.tmps.getD 21 undef = vb k1 := (Known.of (j := 4) (hk 21 (of_decide_eq_true (by kernel_rfl))) (by kernel_rfl) (by decide))
              have e26 : a.tmps.getD 26 undef = vb k2 := (Known.of (j := 9) (hk 26 (of_decide_eq_true (by kernel_rfl))) (by kernel_rfl) (by decide))
              refine track_run rfl ?_
              clear hd
              simp only [Array.getD_eq_getD_getElem?] at e21 e26
              go_simp
              exact hK _ w2 (Chg.refl _ _) rfl
            · intro a w2 hc hd hk K hK
              have e27 : a.tmps.getD 27 undef = .bool true := (Known.of (j := 10) (hk 27 (of_decide_eq_true (by kernel_rfl))) (by kernel_rfl) (by decide))
              refine track_run rfl ?_
              exact BigFrame.wp_move _ rfl (hK _ w2 (Chg.refl _ _) e27)
            · intro a w2 hc hd hk K hK
              have e28 : a.tmps.getD 28 undef = Value.bool true := (Known.of (j := 11) (hk 28 (of_decide_eq_true (by kernel_rfl))) (by kernel_rfl) (by decide))
              exact track_skip (wanted_no rfl rfl e28 rfl) (hK undef w2 (Chg.refl _ _) rfl)
            · intro a w2 hc hd hk K hK
              have e28 : a.tmps.getD 28 undef = Value.bool true := (Known.of (j := 11) (hk 28 (of_decide_eq_true (by kernel_rfl))) (by kernel_rfl) (by decide))
              exact track_skip (wanted_no rfl rfl e28 rfl) (hK undef w2 (Chg.refl _ _) rfl)
            · intro a w2 hc hd hk K hK
              have e28 : a.tmps.getD 28 undef = Value.bool true := (Known.of (j := 11) (hk 28 (of_decide_eq_true (by kernel_rfl))) (by kernel_rfl) (by decide))
              exact track_skip (wanted_no rfl rfl e28 rfl) (hK undef w2 (Chg.refl _ _) rfl)
            · intro a w2 hc hd hk K hK
              have e28 : a.tmps.getD 28 undef = Value.bool true := (Known.of (j := 11) (hk 28 (of_decide_eq_true (by kernel_rfl))) (by kernel_rfl) (by decide))
              exact track_skip (wanted_no rfl rfl e28 rfl) (hK undef w2 (Chg.refl _ _) rfl)
            · intro a w2 hc hd hk K hK
              have e28 : a.tmps.getD 28 undef = Value.bool true := (Known.of (j := 11) (hk 28 (of_decide_eq_true (by kernel_rfl))) (by kernel_rfl) (by decide))
              exact track_skip (wanted_no rfl rfl e28 rfl) (hK undef w2 (Chg.refl _ _) rfl)
            · intro a w2 hc hd hk K hK
              have e28 : a.tmps.getD 28 undef = Value.bool true := (Known.of (j := 11) (hk 28 (of_decide_eq_true (by kernel_rfl))) (by kernel_rfl) (by decide))
              exact track_skip (wanted_no rfl rfl e28 rfl) (hK undef w2 (Chg.refl _ _) rfl)
            · intro a w2 hc hd hk K hK
              have e28 : a.tmps.getD 28 undef = Value.bool true := (Known.of (j := 11) (hk 28 (of_decide_eq_true (by kernel_rfl))) (by kernel_rfl) (by decide))
              exact track_skip (wanted_no rfl rfl e28 rfl) (hK undef w2 (Chg.refl _ _) rfl)
            · intro a w2 hc hd hk K hK
              have e28 : a.tmps.getD 28 undef = Value.bool true := (Known.of (j := 11) (hk 28 (of_decide_eq_true (by kernel_rfl))) (by kernel_rfl) (by decide))
              exact track_skip (wanted_no rfl rfl e28 rfl) (hK undef w2 (Chg.refl _ _) rfl)
            · intro a w2 hc hd hk K hK
              have e28 : a.tmps.getD 28 undef = Value.bool true := (Known.of (j := 11) (hk 28 (of_decide_eq_true (by kernel_rfl))) (by kernel_rfl) (by decide))
              exact track_skip (wanted_no rfl rfl e28 rfl) (hK undef w2 (Chg.refl _ _) rfl)
            · intro a w2 hc hd hk K hK
              have e28 : a.tmps.getD 28 undef = Value.bool true := (Known.of (j := 11) (hk 28 (of_decide_eq_true (by kernel_rfl))) (by kernel_rfl) (by decide))
              exact track_skip (wanted_no rfl rfl e28 rfl) (hK undef w2 (Chg.refl _ _) rfl)
            · intro a w2 hc hd hk K hK
              have e28 : a.tmps.getD 28 undef = Value.bool true := (Known.of (j := 11) (hk 28 (of_decide_eq_true (by kernel_rfl))) (by kernel_rfl) (by decide))
              exact track_skip (wanted_no rfl rfl e28 rfl) (hK undef w2 (Chg.refl _ _) rfl)
            · intro a w2 hc hd hk K hK
              have e28 : a.tmps.getD 28 undef = Value.bool true := (Known.of (j := 11) (hk 28 (of_decide_eq_true (by kernel_rfl))) (by kernel_rfl) (by decide))
              exact track_skip (wanted_no rfl rfl e28 rfl) (hK undef w2 (Chg.refl _ _) rfl)
            · intro a w2 hc hd hk K hK
              have e28 : a.tmps.getD 28 undef = .bool true := (Known.of (j := 11) (hk 28 (of_decide_eq_true (by kernel_rfl))) (by kernel_rfl) (by decide))
              refine track_run rfl ?_
              clear hd
              simp only [Array.getD_eq_getD_getElem?] at e28
              go_simp
              exact hK _ w2 (Chg.refl _ _) rfl
          -- END diff
          · intro f w3 hc hk'
            have e41 : f 41 = .bool true := Known.of (j := 24) (hk' 41) (by kernel_rfl) (by decide)
            simp only [filled, List.foldl_cons, List.foldl_nil]
            rw [e41]
            simp only [Act.put, List.setIfInBounds_toArray, List.set_cons_succ, List.set_cons_zero]
            have hc2 : Chg none' w w3 := hchg.trans (cw.trans hc)
            have T := Lib.hid (H2.out (fun e => hkk (HR.out.1 e).1))
            go_wp2
            first | go_ret | (rw [Exit.noGoto_ret]; go_ret)
            rw [T.out]
            exact ⟨rfl, hc2⟩
      · obtain rfl : k = rs.length := by omega
        have hd : decide (rs = qs) = true := by
          have := heq.out
          rw [List.take_length, HL.out, List.take_length] at this
          exact decide_eq_true this
        have HD := Lib.hid hd; clear hd
        go_wp2
        go_ret
        rw [HD.out]
        exact ⟨rfl, hchg⟩
  · go_enter Try.func15, Try.ntmps15
    have hl1 : ((rs.length : Int) == (qs.length : Int)) = false := by rw [beq_eq_false_iff_ne]; omega
    have hl2 : ((rs.length : Int) != (qs.length : Int)) = true := by rw [bne, hl1]; rfl
    have hd : decide (rs = qs) = false := decide_eq_false fun e => hl (by rw [e])
    have HD := Lib.hid hd; clear hd
    go_wp2
    go_ret
    rw [HD.out]
    exact ⟨rfl, Chg.refl _ _⟩

end Go.Proofs.Ytclbbddpedcfjaa
