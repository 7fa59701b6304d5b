/-
  Walks: is all of a log as it is to be?
-/
import Derived.Test.YtclbbddpedcfjaaRef7c
namespace Go.Proofs.Ytclbbddpedcfjaa
open Go.RowKit

set_option maxRecDepth 100000 in
set_option maxHeartbeats 4000000 in
theorem w_same07 {F G : Nat → Prop} {w : World} {g : Nat} {v : Value} {lg : Lg} (h : IsLog F w g lg) (hT : TOf G w v lg) :
    Calls Try.prog 29 #[.pointer (some ⟨g, 0, none⟩), v] w fun e w' => e = .returned (.bool true) ∧ Chg none' w w' := by
  obtain ⟨vL, vT, vl, rfl, hbL, hbT, hrl⟩ := hT.old
  obtain ⟨A, c, rfl, hlc, hm⟩ := hrl.shape
  unfold maxLen at hm
  obtain ⟨AL, nL, rfl⟩ := hbL.shape
  obtain ⟨AT, nT, rfl⟩ := hbT.shape
  have hmax := h.max
  have hll := len_long lg.l
  have hla := h.ok.last
  have hHM := Lib.hid (show lg.l.length ≤ 4194304 from by omega)
  clear hmax hll
  obtain ⟨X, hX⟩ : ∃ X, X = w.alloc (.cells #[.slice AL lg.d.L.length nL, .slice AT lg.d.T.length nT, .int .i64 (lg.d.n : Int), .slice A lg.l.length c, .int .i64 (lg.last : Int)] 60) := ⟨_, rfl⟩
  have q0 := heap_alloc_new w (.cells #[.slice AL lg.d.L.length nL, .slice AT lg.d.T.length nT, .int .i64 (lg.d.n : Int), .slice A lg.l.length c, .int .i64 (lg.last : Int)] 60)
  rw [← hX] at q0
  have cX : Chg none' w X := by rw [hX]; exact (Chg.refl _ _).alloc _
  obtain ⟨gb, hgb⟩ : ∃ gb, w.heap.size = gb := ⟨_, rfl⟩
  rw [hgb] at q0
  have h0 := h.keep0 cX
  have hT0 : TOf (fun b => G b ∧ b < w.heap.size) X (.agg #[.slice AL lg.d.L.length nL, .slice AT lg.d.T.length nT, .int .i64 (lg.d.n : Int), .slice A lg.l.length c, .int .i64 (lg.last : Int)]) lg := ⟨_, _, _, rfl, hbL.kept cX fun _ _ => id, hbT.kept cX fun _ _ => id, hrl.kept cX fun _ _ => id⟩
  have HX := Lib.hid hX.symm
  have HG := Lib.hid hgb
  clear hX hgb h hbL hbT hrl hT
  go_enter Try.func29, Try.ntmps29
  go_wp2_with fail
  rw [HX.out, HG.out]
  go_at_call 22
  refine (w_wdisk h0).mono ?_
  rintro e w1 ⟨gd, FD, rfl, hD1, xD, c1⟩
  have h1 := h0.keep0 c1
  go_wp2_with fail
  go_at_call 31
  refine (w_wlast h1).mono ?_
  rintro e w2 ⟨k, vs, vr, hk, rfl, os, or_, c2⟩
  obtain ⟨As, ns, rfl⟩ := os.shape
  obtain ⟨Ar, nr, rfl, _, _⟩ := or_.shape
  obtain ⟨a0, a1, a2, a3, a4⟩ := cells5 (heap_kept c2 (heap_kept c1 q0 id) id)
  have hT2 := hT0.keep (c1.trans c2) fun _ _ => id
  obtain ⟨ls, hls⟩ : ∃ ls, (snapOf lg.l k).length = ls := ⟨_, rfl⟩
  obtain ⟨lr, hlr⟩ : ∃ lr, (lg.l.drop k).length = lr := ⟨_, rfl⟩
  simp only [hls, hlr] at os or_ ⊢
  clear hls hlr
  go_wp2_with fail
  go_at_call 45
  refine (w_rlast7 hT2).mono ?_
  rintro e w3 ⟨k2, hk2, rfl, c3⟩
  obtain rfl := lastAt_one hk hk2
  have q3 := heap_kept c3 (heap_kept c2 (heap_kept c1 q0 id) id) id
  clear a0 a1 a2 a3 a4
  obtain ⟨ck0, ck1, ck2, ck3, ck4⟩ := cells5 q3
  have h3 := (h1.keep0 c2).keep0 c3
  have hD3 := (hD1.keep c2 fun _ _ => id).keep c3 fun _ _ => id
  have os3 := os.kept c3 fun _ _ => id
  have or3 := or_.kept c3 fun _ _ => id
  obtain ⟨vL, vT, vl, e, HbL, HbT, Hrl⟩ := hT2.keep c3 fun _ _ => id
  simp only [Value.agg.injEq, Array.mk.injEq, List.cons.injEq, and_true, true_and] at e
  obtain ⟨rfl, rfl, rfl⟩ := e
  have dX := ((cX.trans c1).trans c2).trans c3
  clear h0 h1 hT0 hT2 os or_ hk2 hD1 c1 c2 c3 q0
  by_cases k0 : k = 0
  · subst k0
    rw [show (((0 : Nat) : Int) - 1) = -1 from rfl]
    have cw : Chg none' w3 w3.drew := (Chg.refl _ _).drew
    have hml2 := hHM.out
    have hwp : IntKind.i64.wrap ((lg.l.length : Int) - lg.last) = (lg.l.length : Int) - lg.last := by rw [IntKind.wrap_i64]; omega
    have hA0 : A = none → c = 0 := by obtain ⟨A', c', e, _, _, q, _⟩ := Hrl; simp only [Value.slice.injEq] at e; obtain ⟨rfl, _, rfl⟩ := e; exact q
    have hw9 : Bytes all' w3 (.slice none 0 0) (snapOf lg.l 0) := Row.nil
    have hsub := Row.sub Hrl (lo := 0) (hi := lg.l.length) (Nat.zero_le _) (Nat.le_refl _)
    rw [List.take_length] at hsub
    have hw62 : IntKind.i64.wrap ((-1 : Int) + 1) = 0 := by rw [IntKind.wrap_i64]; rfl
    go_wp2
    -- BEGIN z7
    refine wp_region_track2 [Vp.k (.pointer (some ⟨g, 0, none⟩)),
      ⟨fun x v => OwnRG (fun b => w3.heap.size ≤ b) w3.heap.size x v lg.l, fun _ _ _ hc h => h.keep hc (fun _ _ => id) (fun _ _ => id)⟩,
      Vp.k (.pointer (some ⟨gb, 3, none⟩)),
      Vp.k (.slice A lg.l.length c),
      Vp.k (.bool true),
      Vp.k (.bool false),
      Vp.k (.bool false),
      Vp.k (.pointer (some ⟨g, 0, none⟩)),
      Vp.k (.int .i64 (lg.last : Int)),
      Vp.k (.pointer (some ⟨gb, 4, none⟩)),
      Vp.k (.int .i64 (lg.last : Int)),
      Vp.k (.bool false),
      Vp.k (.bool false),
      Vp.k (.bool false),
      Vp.k (.pointer (some ⟨g, 0, none⟩)),
      Vp.k (.int .i64 ((lg.l.length : Int) - lg.last)),
      Vp.k (.pointer (some ⟨gb, 3, none⟩)),
      Vp.k (.slice A lg.l.length c),
      Vp.k (.int .i64 (lg.l.length : Int)),
      Vp.k (.pointer (some ⟨gb, 4, none⟩)),
      Vp.k (.int .i64 (lg.last : Int)),
      Vp.k (.int .i64 ((lg.l.length : Int) - lg.last)),
      Vp.k (.bool false),
      Vp.k (.bool false),
      Vp.k (.bool false),
      Vp.k (.slice As ls ns),
      Vp.k (.slice none 0 0),
      Vp.k (.bool true),
      Vp.k (.bool false),
      Vp.k (.bool false),
      Vp.k (.bool false),
      Vp.k (.slice Ar lr nr),
      Vp.k (.pointer (some ⟨gb, 3, none⟩)),
      Vp.k (.slice A lg.l.length c),
      Vp.k (.int .i64 (-1)),
      Vp.k (.int .i64 0),
      Vp.k (sliced A 0 lg.l.length c 2),
      Vp.k (.bool true),
      Vp.k (.bool false),
      Vp.k (.bool false)] (by kernel_rfl) (by kernel_rfl) (by kernel_rfl) ?_ ?_
    · refine ⟨?_, ?_, ?_, ?_, ?_, ?_, ?_, ?_, ?_, ?_, ?_, ?_, ?_, ?_, ?_, ?_, ?_, ?_, ?_, ?_, ?_, ?_, ?_, ?_, ?_, ?_, ?_, ?_, ?_, ?_, ?_, ?_, ?_, ?_, ?_, ?_, ?_, ?_, ?_, ?_, trivial⟩
      · intro a w2 hc hd hk K hK
        have e0 : a.tmps.getD 0 undef = .pointer (some ⟨g, 0, none⟩) := (Known.init (hk 0 (of_decide_eq_true (by kernel_rfl))) (by kernel_rfl))
        refine track_run rfl ?_
        exact BigFrame.wp_move _ rfl (hK _ w2 (Chg.refl _ _) e0)
      · intro a w2 hc hd hk K hK
        have e27 : a.tmps.getD 27 undef = .pointer (some ⟨g, 0, none⟩) := (Known.of (j := 0) (hk 27 (of_decide_eq_true (by kernel_rfl))) (by kernel_rfl) (by decide))
        refine track_run rfl ?_
        refine wp_call _ Try.func14 rfl rfl rfl (map_one _ _) ?_
        rw [e27]
        refine (w_wrecords (h3.keep0 (cw.trans hc))).mono ?_
        rintro e w3' ⟨u, rfl, o3, c3'⟩
        exact ⟨_, rfl, hK _ w3' c3' ((o3.mono fun b _ hb => Nat.le_trans (cw.trans hc).size hb).less (cw.trans hc).size)⟩
      · intro a w2 hc hd hk K hK
        have e3 : a.tmps.getD 3 undef = .pointer (some ⟨gb, 0, none⟩) := (Known.init (hk 3 (of_decide_eq_true (by kernel_rfl))) (by kernel_rfl))
        refine track_run rfl ?_
        clear hd
        simp only [Array.getD_eq_getD_getElem?] at e3
        go_simp
        exact hK _ w2 (Chg.refl _ _) rfl
      · intro a w2 hc hd hk K hK
        have e29 : a.tmps.getD 29 undef = .pointer (some ⟨gb, 3, none⟩) := (Known.of (j := 2) (hk 29 (of_decide_eq_true (by kernel_rfl))) (by kernel_rfl) (by decide))
        refine track_run rfl ?_
        have cc := Chg.cell (cw.trans hc) ck3 id
        clear hd
        simp only [Array.getD_eq_getD_getElem?] at e29
        go_simp
        exact hK _ w2 (Chg.refl _ _) rfl
      · intro a w2 hc hd hk K hK
        have e28 : OwnRG (fun b => w3.heap.size ≤ b) w3.heap.size w2 (a.tmps.getD 28 undef) lg.l := (Known.of (j := 1) (hk 28 (of_decide_eq_true (by kernel_rfl))) (by kernel_rfl) (by decide))
        have e30 : a.tmps.getD 30 undef = .slice A lg.l.length c := (Known.of (j := 3) (hk 30 (of_decide_eq_true (by kernel_rfl))) (by kernel_rfl) (by decide))
        refine track_run rfl ?_
        refine wp_call _ Try.func15 rfl rfl rfl (map_two _ _ _) ?_
        rw [e30]
        refine (w_rsame _ e28.own.recs (Hrl.kept (cw.trans hc) fun _ _ => id)).mono ?_
        rintro e w3' ⟨rfl, c3'⟩
        rw [decide_eq_true rfl]
        exact ⟨_, rfl, hK _ w3' c3' rfl⟩
      · intro a w2 hc hd hk K hK
        have e31 : a.tmps.getD 31 undef = .bool true := (Known.of (j := 4) (hk 31 (of_decide_eq_true (by kernel_rfl))) (by kernel_rfl) (by decide))
        refine track_run rfl ?_
        clear hd
        simp only [Array.getD_eq_getD_getElem?] at e31
        go_simp
        exact hK _ w2 (Chg.refl _ _) rfl
      · intro a w2 hc hd hk K hK
        have e32 : a.tmps.getD 32 undef = .bool false := (Known.of (j := 5) (hk 32 (of_decide_eq_true (by kernel_rfl))) (by kernel_rfl) (by decide))
        refine track_run rfl ?_
        exact BigFrame.wp_move _ rfl (hK _ w2 (Chg.refl _ _) e32)
      · intro a w2 hc hd hk K hK
        have e33 : a.tmps.getD 33 undef = .bool false := (Known.of (j := 6) (hk 33 (of_decide_eq_true (by kernel_rfl))) (by kernel_rfl) (by decide))
        have e0 : a.tmps.getD 0 undef = .pointer (some ⟨g, 0, none⟩) := (Known.init (hk 0 (of_decide_eq_true (by kernel_rfl))) (by kernel_rfl))
        refine track_run (wanted_yes rfl rfl e33) ?_
        exact BigFrame.wp_move _ rfl (hK _ w2 (Chg.refl _ _) e0)
      · intro a w2 hc hd hk K hK
        have e33 : a.tmps.getD 33 undef = .bool false := (Known.of (j := 6) (hk 33 (of_decide_eq_true (by kernel_rfl))) (by kernel_rfl) (by decide))
        have e34 : a.tmps.getD 34 undef = .pointer (some ⟨g, 0, none⟩) := (Known.of (j := 7) (hk 34 (of_decide_eq_true (by kernel_rfl))) (by kernel_rfl) (by decide))
        refine track_run (wanted_yes rfl rfl e33) ?_
        refine wp_call _ Try.func16 rfl rfl rfl (map_one _ _) ?_
        rw [e34]
        refine (w_wlasting (h3.keep0 (cw.trans hc))).mono ?_
        rintro e w3' ⟨rfl, rfl⟩
        exact ⟨_, rfl, hK _ _ (Chg.refl _ _) rfl⟩
      · intro a w2 hc hd hk K hK
        have e33 : a.tmps.getD 33 undef = .bool false := (Known.of (j := 6) (hk 33 (of_decide_eq_true (by kernel_rfl))) (by kernel_rfl) (by decide))
        have e3 : a.tmps.getD 3 undef = .pointer (some ⟨gb, 0, none⟩) := (Known.init (hk 3 (of_decide_eq_true (by kernel_rfl))) (by kernel_rfl))
        refine track_run (wanted_yes rfl rfl e33) ?_
        clear hd
        simp only [Array.getD_eq_getD_getElem?] at e3
        go_simp
        exact hK _ w2 (Chg.refl _ _) rfl
      · intro a w2 hc hd hk K hK
        have e33 : a.tmps.getD 33 undef = .bool false := (Known.of (j := 6) (hk 33 (of_decide_eq_true (by kernel_rfl))) (by kernel_rfl) (by decide))
        have e36 : a.tmps.getD 36 undef = .pointer (some ⟨gb, 4, none⟩) := (Known.of (j := 9) (hk 36 (of_decide_eq_true (by kernel_rfl))) (by kernel_rfl) (by decide))
        refine track_run (wanted_yes rfl rfl e33) ?_
        have cc := Chg.cell (cw.trans hc) ck4 id
        clear hd
        simp only [Array.getD_eq_getD_getElem?] at e36
        go_simp
        exact hK _ w2 (Chg.refl _ _) rfl
      · intro a w2 hc hd hk K hK
        have e33 : a.tmps.getD 33 undef = .bool false := (Known.of (j := 6) (hk 33 (of_decide_eq_true (by kernel_rfl))) (by kernel_rfl) (by decide))
        have e35 : a.tmps.getD 35 undef = .int .i64 (lg.last : Int) := (Known.of (j := 8) (hk 35 (of_decide_eq_true (by kernel_rfl))) (by kernel_rfl) (by decide))
        have e37 : a.tmps.getD 37 undef = .int .i64 (lg.last : Int) := (Known.of (j := 10) (hk 37 (of_decide_eq_true (by kernel_rfl))) (by kernel_rfl) (by decide))
        refine track_run (wanted_yes rfl rfl e33) ?_
        clear hd
        simp only [Array.getD_eq_getD_getElem?] at e35 e37
        go_simp
        exact hK _ w2 (Chg.refl _ _) rfl
      · intro a w2 hc hd hk K hK
        have e33 : a.tmps.getD 33 undef = .bool false := (Known.of (j := 6) (hk 33 (of_decide_eq_true (by kernel_rfl))) (by kernel_rfl) (by decide))
        have e38 : a.tmps.getD 38 undef = .bool false := (Known.of (j := 11) (hk 38 (of_decide_eq_true (by kernel_rfl))) (by kernel_rfl) (by decide))
        refine track_run rfl ?_
        clear hd
        simp only [Array.getD_eq_getD_getElem?] at e33 e38
        go_simp
        exact hK _ w2 (Chg.refl _ _) rfl
      · intro a w2 hc hd hk K hK
        have e39 : a.tmps.getD 39 undef = .bool false := (Known.of (j := 12) (hk 39 (of_decide_eq_true (by kernel_rfl))) (by kernel_rfl) (by decide))
        refine track_run rfl ?_
        exact BigFrame.wp_move _ rfl (hK _ w2 (Chg.refl _ _) e39)
      · intro a w2 hc hd hk K hK
        have e40 : a.tmps.getD 40 undef = .bool false := (Known.of (j := 13) (hk 40 (of_decide_eq_true (by kernel_rfl))) (by kernel_rfl) (by decide))
        have e0 : a.tmps.getD 0 undef = .pointer (some ⟨g, 0, none⟩) := (Known.init (hk 0 (of_decide_eq_true (by kernel_rfl))) (by kernel_rfl))
        refine track_run (wanted_yes rfl rfl e40) ?_
        exact BigFrame.wp_move _ rfl (hK _ w2 (Chg.refl _ _) e0)
      · intro a w2 hc hd hk K hK
        have e40 : a.tmps.getD 40 undef = .bool false := (Known.of (j := 13) (hk 40 (of_decide_eq_true (by kernel_rfl))) (by kernel_rfl) (by decide))
        have e41 : a.tmps.getD 41 undef = .pointer (some ⟨g, 0, none⟩) := (Known.of (j := 14) (hk 41 (of_decide_eq_true (by kernel_rfl))) (by kernel_rfl) (by decide))
        refine track_run (wanted_yes rfl rfl e40) ?_
        refine wp_call _ Try.func17 rfl rfl rfl (map_one _ _) ?_
        rw [e41]
        refine (w_wpending (h3.keep0 (cw.trans hc))).mono ?_
        rintro e w3' ⟨rfl, c3'⟩
        exact ⟨_, rfl, hK _ _ c3' rfl⟩
      · intro a w2 hc hd hk K hK
        have e40 : a.tmps.getD 40 undef = .bool false := (Known.of (j := 13) (hk 40 (of_decide_eq_true (by kernel_rfl))) (by kernel_rfl) (by decide))
        have e3 : a.tmps.getD 3 undef = .pointer (some ⟨gb, 0, none⟩) := (Known.init (hk 3 (of_decide_eq_true (by kernel_rfl))) (by kernel_rfl))
        refine track_run (wanted_yes rfl rfl e40) ?_
        clear hd
        simp only [Array.getD_eq_getD_getElem?] at e3
        go_simp
        exact hK _ w2 (Chg.refl _ _) rfl
      · intro a w2 hc hd hk K hK
        have e40 : a.tmps.getD 40 undef = .bool false := (Known.of (j := 13) (hk 40 (of_decide_eq_true (by kernel_rfl))) (by kernel_rfl) (by decide))
        have e43 : a.tmps.getD 43 undef = .pointer (some ⟨gb, 3, none⟩) := (Known.of (j := 16) (hk 43 (of_decide_eq_true (by kernel_rfl))) (by kernel_rfl) (by decide))
        refine track_run (wanted_yes rfl rfl e40) ?_
        have cc := Chg.cell (cw.trans hc) ck3 id
        clear hd
        simp only [Array.getD_eq_getD_getElem?] at e43
        go_simp
        exact hK _ w2 (Chg.refl _ _) rfl
      · intro a w2 hc hd hk K hK
        have e40 : a.tmps.getD 40 undef = .bool false := (Known.of (j := 13) (hk 40 (of_decide_eq_true (by kernel_rfl))) (by kernel_rfl) (by decide))
        have e44 : a.tmps.getD 44 undef = .slice A lg.l.length c := (Known.of (j := 17) (hk 44 (of_decide_eq_true (by kernel_rfl))) (by kernel_rfl) (by decide))
        refine track_run (wanted_yes rfl rfl e40) ?_
        clear hd
        simp only [Array.getD_eq_getD_getElem?] at e44
        go_simp
        exact hK _ w2 (Chg.refl _ _) rfl
      · intro a w2 hc hd hk K hK
        have e40 : a.tmps.getD 40 undef = .bool false := (Known.of (j := 13) (hk 40 (of_decide_eq_true (by kernel_rfl))) (by kernel_rfl) (by decide))
        have e3 : a.tmps.getD 3 undef = .pointer (some ⟨gb, 0, none⟩) := (Known.init (hk 3 (of_decide_eq_true (by kernel_rfl))) (by kernel_rfl))
        refine track_run (wanted_yes rfl rfl e40) ?_
        clear hd
        simp only [Array.getD_eq_getD_getElem?] at e3
        go_simp
        exact hK _ w2 (Chg.refl _ _) rfl
      · intro a w2 hc hd hk K hK
        have e40 : a.tmps.getD 40 undef = .bool false := (Known.of (j := 13) (hk 40 (of_decide_eq_true (by kernel_rfl))) (by kernel_rfl) (by decide))
        have e46 : a.tmps.getD 46 undef = .pointer (some ⟨gb, 4, none⟩) := (Known.of (j := 19) (hk 46 (of_decide_eq_true (by kernel_rfl))) (by kernel_rfl) (by decide))
        refine track_run (wanted_yes rfl rfl e40) ?_
        have cc := Chg.cell (cw.trans hc) ck4 id
        clear hd
        simp only [Array.getD_eq_getD_getElem?] at e46
        go_simp
        exact hK _ w2 (Chg.refl _ _) rfl
      · intro a w2 hc hd hk K hK
        have e40 : a.tmps.getD 40 undef = .bool false := (Known.of (j := 13) (hk 40 (of_decide_eq_true (by kernel_rfl))) (by kernel_rfl) (by decide))
        have e45 : a.tmps.getD 45 undef = .int .i64 (lg.l.length : Int) := (Known.of (j := 18) (hk 45 (of_decide_eq_true (by kernel_rfl))) (by kernel_rfl) (by decide))
        have e47 : a.tmps.getD 47 undef = .int .i64 (lg.last : Int) := (Known.of (j := 20) (hk 47 (of_decide_eq_true (by kernel_rfl))) (by kernel_rfl) (by decide))
        refine track_run (wanted_yes rfl rfl e40) ?_
        clear hd
        simp only [Array.getD_eq_getD_getElem?] at e45 e47
        go_simp
        exact hK _ w2 (Chg.refl _ _) rfl
      · intro a w2 hc hd hk K hK
        have e40 : a.tmps.getD 40 undef = .bool false := (Known.of (j := 13) (hk 40 (of_decide_eq_true (by kernel_rfl))) (by kernel_rfl) (by decide))
        have e42 : a.tmps.getD 42 undef = .int .i64 ((lg.l.length : Int) - lg.last) := (Known.of (j := 15) (hk 42 (of_decide_eq_true (by kernel_rfl))) (by kernel_rfl) (by decide))
        have e48 : a.tmps.getD 48 undef = .int .i64 ((lg.l.length : Int) - lg.last) := (Known.of (j := 21) (hk 48 (of_decide_eq_true (by kernel_rfl))) (by kernel_rfl) (by decide))
        refine track_run (wanted_yes rfl rfl e40) ?_
        clear hd
        simp only [Array.getD_eq_getD_getElem?] at e42 e48
        go_simp
        exact hK _ w2 (Chg.refl _ _) rfl
      · intro a w2 hc hd hk K hK
        have e40 : a.tmps.getD 40 undef = .bool false := (Known.of (j := 13) (hk 40 (of_decide_eq_true (by kernel_rfl))) (by kernel_rfl) (by decide))
        have e49 : a.tmps.getD 49 undef = .bool false := (Known.of (j := 22) (hk 49 (of_decide_eq_true (by kernel_rfl))) (by kernel_rfl) (by decide))
        refine track_run rfl ?_
        clear hd
        simp only [Array.getD_eq_getD_getElem?] at e40 e49
        go_simp
        exact hK _ w2 (Chg.refl _ _) rfl
      · intro a w2 hc hd hk K hK
        have e50 : a.tmps.getD 50 undef = .bool false := (Known.of (j := 23) (hk 50 (of_decide_eq_true (by kernel_rfl))) (by kernel_rfl) (by decide))
        refine track_run rfl ?_
        exact BigFrame.wp_move _ rfl (hK _ w2 (Chg.refl _ _) e50)
      · intro a w2 hc hd hk K hK
        have e51 : a.tmps.getD 51 undef = .bool false := (Known.of (j := 24) (hk 51 (of_decide_eq_true (by kernel_rfl))) (by kernel_rfl) (by decide))
        have e6 : a.tmps.getD 6 undef = .slice As ls ns := (Known.init (hk 6 (of_decide_eq_true (by kernel_rfl))) (by kernel_rfl))
        refine track_run (wanted_yes rfl rfl e51) ?_
        exact BigFrame.wp_move _ rfl (hK _ w2 (Chg.refl _ _) e6)
      · intro a w2 hc hd hk K hK
        have e51 : a.tmps.getD 51 undef = .bool false := (Known.of (j := 24) (hk 51 (of_decide_eq_true (by kernel_rfl))) (by kernel_rfl) (by decide))
        have e9 : a.tmps.getD 9 undef = .slice none 0 0 := (Known.init (hk 9 (of_decide_eq_true (by kernel_rfl))) (by kernel_rfl))
        refine track_run (wanted_yes rfl rfl e51) ?_
        exact BigFrame.wp_move _ rfl (hK _ w2 (Chg.refl _ _) e9)
      · intro a w2 hc hd hk K hK
        have e51 : a.tmps.getD 51 undef = .bool false := (Known.of (j := 24) (hk 51 (of_decide_eq_true (by kernel_rfl))) (by kernel_rfl) (by decide))
        have e52 : a.tmps.getD 52 undef = .slice As ls ns := (Known.of (j := 25) (hk 52 (of_decide_eq_true (by kernel_rfl))) (by kernel_rfl) (by decide))
        have e53 : a.tmps.getD 53 undef = .slice none 0 0 := (Known.of (j := 26) (hk 53 (of_decide_eq_true (by kernel_rfl))) (by kernel_rfl) (by decide))
        refine track_run (wanted_yes rfl rfl e51) ?_
        refine wp_call _ Try.func21 rfl rfl rfl (map_two _ _ _) ?_
        rw [e52, e53]
        refine (w_same00 _ (Bytes.kept os3 (cw.trans hc) fun _ _ => id) (Bytes.kept hw9 (cw.trans hc) fun _ _ => id)).mono ?_
        rintro e w3' ⟨rfl, rfl⟩
        rw [beq_self_eq_true]
        exact ⟨_, rfl, hK _ _ (Chg.refl _ _) rfl⟩
      · intro a w2 hc hd hk K hK
        have e51 : a.tmps.getD 51 undef = .bool false := (Known.of (j := 24) (hk 51 (of_decide_eq_true (by kernel_rfl))) (by kernel_rfl) (by decide))
        have e54 : a.tmps.getD 54 undef = .bool true := (Known.of (j := 27) (hk 54 (of_decide_eq_true (by kernel_rfl))) (by kernel_rfl) (by decide))
        refine track_run (wanted_yes rfl rfl e51) ?_
        clear hd
        simp only [Array.getD_eq_getD_getElem?] at e54
        go_simp
        exact hK _ w2 (Chg.refl _ _) rfl
      · intro a w2 hc hd hk K hK
        have e51 : a.tmps.getD 51 undef = .bool false := (Known.of (j := 24) (hk 51 (of_decide_eq_true (by kernel_rfl))) (by kernel_rfl) (by decide))
        have e55 : a.tmps.getD 55 undef = .bool false := (Known.of (j := 28) (hk 55 (of_decide_eq_true (by kernel_rfl))) (by kernel_rfl) (by decide))
        refine track_run rfl ?_
        clear hd
        simp only [Array.getD_eq_getD_getElem?] at e51 e55
        go_simp
        exact hK _ w2 (Chg.refl _ _) rfl
      · intro a w2 hc hd hk K hK
        have e56 : a.tmps.getD 56 undef = .bool false := (Known.of (j := 29) (hk 56 (of_decide_eq_true (by kernel_rfl))) (by kernel_rfl) (by decide))
        refine track_run rfl ?_
        exact BigFrame.wp_move _ rfl (hK _ w2 (Chg.refl _ _) e56)
      · intro a w2 hc hd hk K hK
        have e57 : a.tmps.getD 57 undef = .bool false := (Known.of (j := 30) (hk 57 (of_decide_eq_true (by kernel_rfl))) (by kernel_rfl) (by decide))
        have e7 : a.tmps.getD 7 undef = .slice Ar lr nr := (Known.init (hk 7 (of_decide_eq_true (by kernel_rfl))) (by kernel_rfl))
        refine track_run (wanted_yes rfl rfl e57) ?_
        exact BigFrame.wp_move _ rfl (hK _ w2 (Chg.refl _ _) e7)
      · intro a w2 hc hd hk K hK
        have e57 : a.tmps.getD 57 undef = .bool false := (Known.of (j := 30) (hk 57 (of_decide_eq_true (by kernel_rfl))) (by kernel_rfl) (by decide))
        have e3 : a.tmps.getD 3 undef = .pointer (some ⟨gb, 0, none⟩) := (Known.init (hk 3 (of_decide_eq_true (by kernel_rfl))) (by kernel_rfl))
        refine track_run (wanted_yes rfl rfl e57) ?_
        clear hd
        simp only [Array.getD_eq_getD_getElem?] at e3
        go_simp
        exact hK _ w2 (Chg.refl _ _) rfl
      · intro a w2 hc hd hk K hK
        have e57 : a.tmps.getD 57 undef = .bool false := (Known.of (j := 30) (hk 57 (of_decide_eq_true (by kernel_rfl))) (by kernel_rfl) (by decide))
        have e59 : a.tmps.getD 59 undef = .pointer (some ⟨gb, 3, none⟩) := (Known.of (j := 32) (hk 59 (of_decide_eq_true (by kernel_rfl))) (by kernel_rfl) (by decide))
        refine track_run (wanted_yes rfl rfl e57) ?_
        have cc := Chg.cell (cw.trans hc) ck3 id
        clear hd
        simp only [Array.getD_eq_getD_getElem?] at e59
        go_simp
        exact hK _ w2 (Chg.refl _ _) rfl
      · intro a w2 hc hd hk K hK
        have e57 : a.tmps.getD 57 undef = .bool false := (Known.of (j := 30) (hk 57 (of_decide_eq_true (by kernel_rfl))) (by kernel_rfl) (by decide))
        have e8 : a.tmps.getD 8 undef = .int .i64 (-1) := (Known.init (hk 8 (of_decide_eq_true (by kernel_rfl))) (by kernel_rfl))
        refine track_run (wanted_yes rfl rfl e57) ?_
        exact BigFrame.wp_move _ rfl (hK _ w2 (Chg.refl _ _) e8)
      · intro a w2 hc hd hk K hK
        have e57 : a.tmps.getD 57 undef = .bool false := (Known.of (j := 30) (hk 57 (of_decide_eq_true (by kernel_rfl))) (by kernel_rfl) (by decide))
        have e61 : a.tmps.getD 61 undef = .int .i64 (-1) := (Known.of (j := 34) (hk 61 (of_decide_eq_true (by kernel_rfl))) (by kernel_rfl) (by decide))
        refine track_run (wanted_yes rfl rfl e57) ?_
        clear hd
        simp only [Array.getD_eq_getD_getElem?] at e61
        go_simp
        exact hK _ w2 (Chg.refl _ _) rfl
      · intro a w2 hc hd hk K hK
        have e57 : a.tmps.getD 57 undef = .bool false := (Known.of (j := 30) (hk 57 (of_decide_eq_true (by kernel_rfl))) (by kernel_rfl) (by decide))
        have e60 : a.tmps.getD 60 undef = .slice A lg.l.length c := (Known.of (j := 33) (hk 60 (of_decide_eq_true (by kernel_rfl))) (by kernel_rfl) (by decide))
        have e62 : a.tmps.getD 62 undef = .int .i64 0 := (Known.of (j := 35) (hk 62 (of_decide_eq_true (by kernel_rfl))) (by kernel_rfl) (by decide))
        refine track_run (wanted_yes rfl rfl e57) ?_
        simp only [Array.getD_eq_getD_getElem?] at e60 e62
        rcases A with _ | ⟨ab, ao, ax⟩
        · obtain rfl : c = 0 := hA0 rfl
          have hl0 : lg.l.length = 0 := by omega
          rw [hl0] at e60
          have hv : sliced none 0 lg.l.length 0 2 = .slice none 0 0 := by rw [hl0]; rfl
          clear hd hl0
          go_simp
          exact hK _ w2 (Chg.refl _ _) hv.symm
        · have hv : sliced (some ⟨ab, ao, ax⟩) 0 lg.l.length c 2 = .slice (some ⟨ab, ao, ax⟩) lg.l.length c := by unfold sliced; split <;> simp [Addr.add]
          clear hd
          go_simp
          exact hK _ w2 (Chg.refl _ _) hv.symm
      · intro a w2 hc hd hk K hK
        have e57 : a.tmps.getD 57 undef = .bool false := (Known.of (j := 30) (hk 57 (of_decide_eq_true (by kernel_rfl))) (by kernel_rfl) (by decide))
        have e58 : a.tmps.getD 58 undef = .slice Ar lr nr := (Known.of (j := 31) (hk 58 (of_decide_eq_true (by kernel_rfl))) (by kernel_rfl) (by decide))
        have e63 : a.tmps.getD 63 undef = sliced A 0 lg.l.length c 2 := (Known.of (j := 36) (hk 63 (of_decide_eq_true (by kernel_rfl))) (by kernel_rfl) (by decide))
        refine track_run (wanted_yes rfl rfl e57) ?_
        refine wp_call _ Try.func15 rfl rfl rfl (map_two _ _ _) ?_
        rw [e58, e63]
        refine (w_rsame _ (Recs.kept or3 (cw.trans hc) fun _ _ => id) (Recs.kept hsub (cw.trans hc) fun _ _ => id)).mono ?_
        rintro e w3' ⟨rfl, c3'⟩
        rw [decide_eq_true rfl]
        exact ⟨_, rfl, hK _ w3' c3' rfl⟩
      · intro a w2 hc hd hk K hK
        have e57 : a.tmps.getD 57 undef = .bool false := (Known.of (j := 30) (hk 57 (of_decide_eq_true (by kernel_rfl))) (by kernel_rfl) (by decide))
        have e64 : a.tmps.getD 64 undef = .bool true := (Known.of (j := 37) (hk 64 (of_decide_eq_true (by kernel_rfl))) (by kernel_rfl) (by decide))
        refine track_run (wanted_yes rfl rfl e57) ?_
        clear hd
        simp only [Array.getD_eq_getD_getElem?] at e64
        go_simp
        exact hK _ w2 (Chg.refl _ _) rfl
      · intro a w2 hc hd hk K hK
        have e57 : a.tmps.getD 57 undef = .bool false := (Known.of (j := 30) (hk 57 (of_decide_eq_true (by kernel_rfl))) (by kernel_rfl) (by decide))
        have e65 : a.tmps.getD 65 undef = .bool false := (Known.of (j := 38) (hk 65 (of_decide_eq_true (by kernel_rfl))) (by kernel_rfl) (by decide))
        refine track_run rfl ?_
        clear hd
        simp only [Array.getD_eq_getD_getElem?] at e57 e65
        go_simp
        exact hK _ w2 (Chg.refl _ _) rfl
    -- END z7
    · intro f w4 hc hk'
      have e66 : f 66 = .bool false := Known.of (j := 39) (hk' 66) (by kernel_rfl) (by decide)
      simp only [filled, List.foldl_cons, List.foldl_nil]
      rw [e66]
      simp only [Act.put, List.setIfInBounds_toArray, List.set_cons_succ, List.set_cons_zero]
      clear hk' e66
      have c4 := cw.trans hc
      replace ck0 := Chg.cell c4 ck0 id
      replace ck1 := Chg.cell c4 ck1 id
      replace HbL := HbL.kept c4 fun _ _ => id
      replace HbT := HbT.kept c4 fun _ _ => id
      have hD4 := hD3.keep c4 fun _ _ => id
      clear ck2 ck3 ck4 hD3 h3 q3 os3 or3 Hrl hsub hw9 cw hc hw62 hwp
      go_wp2
      have cw : Chg none' w4 w4.drew := (Chg.refl _ _).drew
      -- BEGIN z9
      refine wp_region_track2 [Vp.k (.pointer (some ⟨gd, 0, none⟩)),
        ⟨fun x v => OwnB w4.heap.size x v (lg.d.L), fun _ _ _ hc h => h.keep hc fun _ => none_own⟩,
        Vp.k (.pointer (some ⟨gb, 0, none⟩)),
        Vp.k (.pointer (some ⟨gb, 0, none⟩)),
        Vp.k (.slice AL lg.d.L.length nL),
        Vp.k (.bool true),
        Vp.k (.bool true),
        Vp.k (.pointer (some ⟨gd, 0, none⟩)),
        ⟨fun x v => OwnB w4.heap.size x v (lg.d.T), fun _ _ _ hc h => h.keep hc fun _ => none_own⟩,
        Vp.k (.pointer (some ⟨gb, 0, none⟩)),
        Vp.k (.pointer (some ⟨gb, 1, none⟩)),
        Vp.k (.slice AT lg.d.T.length nT),
        Vp.k (.bool true),
        Vp.k (.bool true),
        Vp.k (.bool true)] (by kernel_rfl) (by kernel_rfl) (by kernel_rfl) ?_ ?_
      · refine ⟨?_, ?_, ?_, ?_, ?_, ?_, ?_, ?_, ?_, ?_, ?_, ?_, ?_, ?_, ?_, trivial⟩
        · intro a w2 hc hd hk K hK
          have e5 : a.tmps.getD 5 undef = .pointer (some ⟨gd, 0, none⟩) := (Known.init (hk 5 (of_decide_eq_true (by kernel_rfl))) (by kernel_rfl))
          refine track_run rfl ?_
          exact BigFrame.wp_move _ rfl (hK _ w2 (Chg.refl _ _) e5)
        · intro a w2 hc hd hk K hK
          have e67 : a.tmps.getD 67 undef = .pointer (some ⟨gd, 0, none⟩) := (Known.of (j := 0) (hk 67 (of_decide_eq_true (by kernel_rfl))) (by kernel_rfl) (by decide))
          refine track_run rfl ?_
          refine wp_call _ Try.func25 rfl rfl rfl (map_one _ _) ?_
          rw [e67]
          refine (w_lasting (hD4.keep (cw.trans hc) fun _ _ => id)).mono ?_
          rintro e w5 ⟨u, rfl, o5, c5⟩
          exact ⟨_, rfl, hK _ w5 c5 (o5.more (cw.trans hc).size)⟩
        · intro a w2 hc hd hk K hK
          have e3 : a.tmps.getD 3 undef = .pointer (some ⟨gb, 0, none⟩) := (Known.init (hk 3 (of_decide_eq_true (by kernel_rfl))) (by kernel_rfl))
          refine track_run rfl ?_
          clear hd
          simp only [Array.getD_eq_getD_getElem?] at e3
          go_simp
          exact hK _ w2 (Chg.refl _ _) rfl
        · intro a w2 hc hd hk K hK
          have e69 : a.tmps.getD 69 undef = .pointer (some ⟨gb, 0, none⟩) := (Known.of (j := 2) (hk 69 (of_decide_eq_true (by kernel_rfl))) (by kernel_rfl) (by decide))
          refine track_run rfl ?_
          clear hd
          simp only [Array.getD_eq_getD_getElem?] at e69
          go_simp
          exact hK _ w2 (Chg.refl _ _) rfl
        · intro a w2 hc hd hk K hK
          have e70 : a.tmps.getD 70 undef = .pointer (some ⟨gb, 0, none⟩) := (Known.of (j := 3) (hk 70 (of_decide_eq_true (by kernel_rfl))) (by kernel_rfl) (by decide))
          refine track_run rfl ?_
          have cc := Chg.cell (cw.trans hc) ck0 id
          clear hd
          simp only [Array.getD_eq_getD_getElem?] at e70
          go_simp
          exact hK _ w2 (Chg.refl _ _) rfl
        · intro a w2 hc hd hk K hK
          have e68 : OwnB w4.heap.size w2 (a.tmps.getD 68 undef) (lg.d.L) := (Known.of (j := 1) (hk 68 (of_decide_eq_true (by kernel_rfl))) (by kernel_rfl) (by decide))
          have e71 : a.tmps.getD 71 undef = .slice AL lg.d.L.length nL := (Known.of (j := 4) (hk 71 (of_decide_eq_true (by kernel_rfl))) (by kernel_rfl) (by decide))
          refine track_run rfl ?_
          refine wp_call _ Try.func21 rfl rfl rfl (map_two _ _ _) ?_
          rw [e71]
          refine (w_same00 _ e68.bytes (HbL.kept (cw.trans hc) fun _ _ => id)).mono ?_
          rintro e w5 ⟨rfl, rfl⟩
          rw [beq_self_eq_true]
          exact ⟨_, rfl, hK _ _ (Chg.refl _ _) rfl⟩
        · intro a w2 hc hd hk K hK
          have e72 : a.tmps.getD 72 undef = .bool true := (Known.of (j := 5) (hk 72 (of_decide_eq_true (by kernel_rfl))) (by kernel_rfl) (by decide))
          refine track_run rfl ?_
          exact BigFrame.wp_move _ rfl (hK _ w2 (Chg.refl _ _) e72)
        · intro a w2 hc hd hk K hK
          have e73 : a.tmps.getD 73 undef = .bool true := (Known.of (j := 6) (hk 73 (of_decide_eq_true (by kernel_rfl))) (by kernel_rfl) (by decide))
          have e5 : a.tmps.getD 5 undef = .pointer (some ⟨gd, 0, none⟩) := (Known.init (hk 5 (of_decide_eq_true (by kernel_rfl))) (by kernel_rfl))
          refine track_run (wanted_yes rfl rfl e73) ?_
          exact BigFrame.wp_move _ rfl (hK _ w2 (Chg.refl _ _) e5)
        · intro a w2 hc hd hk K hK
          have e73 : a.tmps.getD 73 undef = .bool true := (Known.of (j := 6) (hk 73 (of_decide_eq_true (by kernel_rfl))) (by kernel_rfl) (by decide))
          have e74 : a.tmps.getD 74 undef = .pointer (some ⟨gd, 0, none⟩) := (Known.of (j := 7) (hk 74 (of_decide_eq_true (by kernel_rfl))) (by kernel_rfl) (by decide))
          refine track_run (wanted_yes rfl rfl e73) ?_
          refine wp_call _ Try.func42 rfl rfl rfl (map_one _ _) ?_
          rw [e74]
          refine (w_tail (hD4.keep (cw.trans hc) fun _ _ => id)).mono ?_
          rintro e w5 ⟨u, rfl, o5, c5⟩
          exact ⟨_, rfl, hK _ w5 c5 (o5.more (cw.trans hc).size)⟩
        · intro a w2 hc hd hk K hK
          have e73 : a.tmps.getD 73 undef = .bool true := (Known.of (j := 6) (hk 73 (of_decide_eq_true (by kernel_rfl))) (by kernel_rfl) (by decide))
          have e3 : a.tmps.getD 3 undef = .pointer (some ⟨gb, 0, none⟩) := (Known.init (hk 3 (of_decide_eq_true (by kernel_rfl))) (by kernel_rfl))
          refine track_run (wanted_yes rfl rfl e73) ?_
          clear hd
          simp only [Array.getD_eq_getD_getElem?] at e3
          go_simp
          exact hK _ w2 (Chg.refl _ _) rfl
        · intro a w2 hc hd hk K hK
          have e73 : a.tmps.getD 73 undef = .bool true := (Known.of (j := 6) (hk 73 (of_decide_eq_true (by kernel_rfl))) (by kernel_rfl) (by decide))
          have e76 : a.tmps.getD 76 undef = .pointer (some ⟨gb, 0, none⟩) := (Known.of (j := 9) (hk 76 (of_decide_eq_true (by kernel_rfl))) (by kernel_rfl) (by decide))
          refine track_run (wanted_yes rfl rfl e73) ?_
          clear hd
          simp only [Array.getD_eq_getD_getElem?] at e76
          go_simp
          exact hK _ w2 (Chg.refl _ _) rfl
        · intro a w2 hc hd hk K hK
          have e73 : a.tmps.getD 73 undef = .bool true := (Known.of (j := 6) (hk 73 (of_decide_eq_true (by kernel_rfl))) (by kernel_rfl) (by decide))
          have e77 : a.tmps.getD 77 undef = .pointer (some ⟨gb, 1, none⟩) := (Known.of (j := 10) (hk 77 (of_decide_eq_true (by kernel_rfl))) (by kernel_rfl) (by decide))
          refine track_run (wanted_yes rfl rfl e73) ?_
          have cc := Chg.cell (cw.trans hc) ck1 id
          clear hd
          simp only [Array.getD_eq_getD_getElem?] at e77
          go_simp
          exact hK _ w2 (Chg.refl _ _) rfl
        · intro a w2 hc hd hk K hK
          have e73 : a.tmps.getD 73 undef = .bool true := (Known.of (j := 6) (hk 73 (of_decide_eq_true (by kernel_rfl))) (by kernel_rfl) (by decide))
          have e75 : OwnB w4.heap.size w2 (a.tmps.getD 75 undef) (lg.d.T) := (Known.of (j := 8) (hk 75 (of_decide_eq_true (by kernel_rfl))) (by kernel_rfl) (by decide))
          have e78 : a.tmps.getD 78 undef = .slice AT lg.d.T.length nT := (Known.of (j := 11) (hk 78 (of_decide_eq_true (by kernel_rfl))) (by kernel_rfl) (by decide))
          refine track_run (wanted_yes rfl rfl e73) ?_
          refine wp_call _ Try.func21 rfl rfl rfl (map_two _ _ _) ?_
          rw [e78]
          refine (w_same00 _ e75.bytes (HbT.kept (cw.trans hc) fun _ _ => id)).mono ?_
          rintro e w5 ⟨rfl, rfl⟩
          rw [beq_self_eq_true]
          exact ⟨_, rfl, hK _ _ (Chg.refl _ _) rfl⟩
        · intro a w2 hc hd hk K hK
          have e73 : a.tmps.getD 73 undef = .bool true := (Known.of (j := 6) (hk 73 (of_decide_eq_true (by kernel_rfl))) (by kernel_rfl) (by decide))
          have e79 : a.tmps.getD 79 undef = .bool true := (Known.of (j := 12) (hk 79 (of_decide_eq_true (by kernel_rfl))) (by kernel_rfl) (by decide))
          refine track_run rfl ?_
          clear hd
          simp only [Array.getD_eq_getD_getElem?] at e73 e79
          go_simp
          exact hK _ w2 (Chg.refl _ _) rfl
        · intro a w2 hc hd hk K hK
          have e80 : a.tmps.getD 80 undef = .bool true := (Known.of (j := 13) (hk 80 (of_decide_eq_true (by kernel_rfl))) (by kernel_rfl) (by decide))
          refine track_run rfl ?_
          exact BigFrame.wp_assign _ rfl (hK _ w2 (Chg.refl _ _) e80)
      -- END z9
      · intro f w8 hc hk'
        have e4 : f 4 = .bool true := Known.of (j := 14) (hk' 4) (by kernel_rfl) (by decide)
        simp only [filled, List.foldl_cons, List.foldl_nil]
        rw [e4]
        simp only [Act.put, List.setIfInBounds_toArray, List.set_cons_succ, List.set_cons_zero]
        go_wp2
        go_ret
        exact ⟨rfl, (dX.trans c4).trans (cw.trans hc)⟩
  · obtain ⟨m, rfl⟩ : ∃ m, k = m + 1 := ⟨k - 1, by omega⟩
    rw [show (((m + 1 : Nat) : Int) - 1) = m by omega]
    have hml : m < lg.l.length := hk.1
    obtain ⟨b, off, c', um, e1, _, cm0, cm1, hum⟩ := Hrl.at_ hml
    simp only [Value.slice.injEq] at e1
    obtain ⟨rfl, _, rfl⟩ := e1
    obtain ⟨Au, cu, rfl⟩ := hum.shape
    have hsn : snapOf lg.l (m + 1) = lg.l[m].b := by simp [snapOf, hml]
    have hmi : (m : Int) < lg.l.length := by omega
    have cw : Chg none' w3 w3.drew := (Chg.refl _ _).drew
    have hml2 := hHM.out
    have hwp : IntKind.i64.wrap ((lg.l.length : Int) - lg.last) = (lg.l.length : Int) - lg.last := by rw [IntKind.wrap_i64]; omega
    have hw9 : Bytes (fun b => G b ∧ b < w.heap.size) w3 (.slice Au lg.l[m].b.length cu) (snapOf lg.l (m + 1)) := by rw [hsn]; exact hum
    have hsub := Row.sub Hrl (lo := m + 1) (hi := lg.l.length) hk.1 (Nat.le_refl _)
    rw [List.take_length] at hsub
    have hw62 : IntKind.i64.wrap ((m : Int) + 1) = ((m + 1 : Nat) : Int) := by rw [IntKind.wrap_i64]; omega
    have hsl : sliced (some ⟨b, off, none⟩) (m + 1) lg.l.length c 2 = .slice (if c = m + 1 then some ⟨b, off, none⟩ else some ⟨b, off + (m + 1) * 2, none⟩) (lg.l.length - (m + 1)) (c - (m + 1)) := by
      unfold sliced
      split <;> simp [Addr.add_lit]
    clear hum
    go_wp2
    -- BEGIN s7
    refine wp_region_track2 [Vp.k (.pointer (some ⟨g, 0, none⟩)),
      ⟨fun x v => OwnRG (fun b => w3.heap.size ≤ b) w3.heap.size x v lg.l, fun _ _ _ hc h => h.keep hc (fun _ _ => id) (fun _ _ => id)⟩,
      Vp.k (.pointer (some ⟨gb, 3, none⟩)),
      Vp.k (.slice (some ⟨b, off, none⟩) lg.l.length c),
      Vp.k (.bool true),
      Vp.k (.bool false),
      Vp.k (.bool false),
      Vp.k (.pointer (some ⟨g, 0, none⟩)),
      Vp.k (.int .i64 (lg.last : Int)),
      Vp.k (.pointer (some ⟨gb, 4, none⟩)),
      Vp.k (.int .i64 (lg.last : Int)),
      Vp.k (.bool false),
      Vp.k (.bool false),
      Vp.k (.bool false),
      Vp.k (.pointer (some ⟨g, 0, none⟩)),
      Vp.k (.int .i64 ((lg.l.length : Int) - lg.last)),
      Vp.k (.pointer (some ⟨gb, 3, none⟩)),
      Vp.k (.slice (some ⟨b, off, none⟩) lg.l.length c),
      Vp.k (.int .i64 (lg.l.length : Int)),
      Vp.k (.pointer (some ⟨gb, 4, none⟩)),
      Vp.k (.int .i64 (lg.last : Int)),
      Vp.k (.int .i64 ((lg.l.length : Int) - lg.last)),
      Vp.k (.bool false),
      Vp.k (.bool false),
      Vp.k (.bool false),
      Vp.k (.slice As ls ns),
      Vp.k (.slice Au lg.l[m].b.length cu),
      Vp.k (.bool true),
      Vp.k (.bool false),
      Vp.k (.bool false),
      Vp.k (.bool false),
      Vp.k (.slice Ar lr nr),
      Vp.k (.pointer (some ⟨gb, 3, none⟩)),
      Vp.k (.slice (some ⟨b, off, none⟩) lg.l.length c),
      Vp.k (.int .i64 (m : Int)),
      Vp.k (.int .i64 ((m + 1 : Nat) : Int)),
      Vp.k (sliced (some ⟨b, off, none⟩) (m + 1) lg.l.length c 2),
      Vp.k (.bool true),
      Vp.k (.bool false),
      Vp.k (.bool false)] (by kernel_rfl) (by kernel_rfl) (by kernel_rfl) ?_ ?_
    · refine ⟨?_, ?_, ?_, ?_, ?_, ?_, ?_, ?_, ?_, ?_, ?_, ?_, ?_, ?_, ?_, ?_, ?_, ?_, ?_, ?_, ?_, ?_, ?_, ?_, ?_, ?_, ?_, ?_, ?_, ?_, ?_, ?_, ?_, ?_, ?_, ?_, ?_, ?_, ?_, ?_, trivial⟩
      · intro a w2 hc hd hk K hK
        have e0 : a.tmps.getD 0 undef = .pointer (some ⟨g, 0, none⟩) := (Known.init (hk 0 (of_decide_eq_true (by kernel_rfl))) (by kernel_rfl))
        refine track_run rfl ?_
        exact BigFrame.wp_move _ rfl (hK _ w2 (Chg.refl _ _) e0)
      · intro a w2 hc hd hk K hK
        have e27 : a.tmps.getD 27 undef = .pointer (some ⟨g, 0, none⟩) := (Known.of (j := 0) (hk 27 (of_decide_eq_true (by kernel_rfl))) (by kernel_rfl) (by decide))
        refine track_run rfl ?_
        refine wp_call _ Try.func14 rfl rfl rfl (map_one _ _) ?_
        rw [e27]
        refine (w_wrecords (h3.keep0 (cw.trans hc))).mono ?_
        rintro e w3' ⟨u, rfl, o3, c3'⟩
        exact ⟨_, rfl, hK _ w3' c3' ((o3.mono fun b _ hb => Nat.le_trans (cw.trans hc).size hb).less (cw.trans hc).size)⟩
      · intro a w2 hc hd hk K hK
        have e3 : a.tmps.getD 3 undef = .pointer (some ⟨gb, 0, none⟩) := (Known.init (hk 3 (of_decide_eq_true (by kernel_rfl))) (by kernel_rfl))
        refine track_run rfl ?_
        clear hd
        simp only [Array.getD_eq_getD_getElem?] at e3
        go_simp
        exact hK _ w2 (Chg.refl _ _) rfl
      · intro a w2 hc hd hk K hK
        have e29 : a.tmps.getD 29 undef = .pointer (some ⟨gb, 3, none⟩) := (Known.of (j := 2) (hk 29 (of_decide_eq_true (by kernel_rfl))) (by kernel_rfl) (by decide))
        refine track_run rfl ?_
        have cc := Chg.cell (cw.trans hc) ck3 id
        clear hd
        simp only [Array.getD_eq_getD_getElem?] at e29
        go_simp
        exact hK _ w2 (Chg.refl _ _) rfl
      · intro a w2 hc hd hk K hK
        have e28 : OwnRG (fun b => w3.heap.size ≤ b) w3.heap.size w2 (a.tmps.getD 28 undef) lg.l := (Known.of (j := 1) (hk 28 (of_decide_eq_true (by kernel_rfl))) (by kernel_rfl) (by decide))
        have e30 : a.tmps.getD 30 undef = .slice (some ⟨b, off, none⟩) lg.l.length c := (Known.of (j := 3) (hk 30 (of_decide_eq_true (by kernel_rfl))) (by kernel_rfl) (by decide))
        refine track_run rfl ?_
        refine wp_call _ Try.func15 rfl rfl rfl (map_two _ _ _) ?_
        rw [e30]
        refine (w_rsame _ e28.own.recs (Hrl.kept (cw.trans hc) fun _ _ => id)).mono ?_
        rintro e w3' ⟨rfl, c3'⟩
        rw [decide_eq_true rfl]
        exact ⟨_, rfl, hK _ w3' c3' rfl⟩
      · intro a w2 hc hd hk K hK
        have e31 : a.tmps.getD 31 undef = .bool true := (Known.of (j := 4) (hk 31 (of_decide_eq_true (by kernel_rfl))) (by kernel_rfl) (by decide))
        refine track_run rfl ?_
        clear hd
        simp only [Array.getD_eq_getD_getElem?] at e31
        go_simp
        exact hK _ w2 (Chg.refl _ _) rfl
      · intro a w2 hc hd hk K hK
        have e32 : a.tmps.getD 32 undef = .bool false := (Known.of (j := 5) (hk 32 (of_decide_eq_true (by kernel_rfl))) (by kernel_rfl) (by decide))
        refine track_run rfl ?_
        exact BigFrame.wp_move _ rfl (hK _ w2 (Chg.refl _ _) e32)
      · intro a w2 hc hd hk K hK
        have e33 : a.tmps.getD 33 undef = .bool false := (Known.of (j := 6) (hk 33 (of_decide_eq_true (by kernel_rfl))) (by kernel_rfl) (by decide))
        have e0 : a.tmps.getD 0 undef = .pointer (some ⟨g, 0, none⟩) := (Known.init (hk 0 (of_decide_eq_true (by kernel_rfl))) (by kernel_rfl))
        refine track_run (wanted_yes rfl rfl e33) ?_
        exact BigFrame.wp_move _ rfl (hK _ w2 (Chg.refl _ _) e0)
      · intro a w2 hc hd hk K hK
        have e33 : a.tmps.getD 33 undef = .bool false := (Known.of (j := 6) (hk 33 (of_decide_eq_true (by kernel_rfl))) (by kernel_rfl) (by decide))
        have e34 : a.tmps.getD 34 undef = .pointer (some ⟨g, 0, none⟩) := (Known.of (j := 7) (hk 34 (of_decide_eq_true (by kernel_rfl))) (by kernel_rfl) (by decide))
        refine track_run (wanted_yes rfl rfl e33) ?_
        refine wp_call _ Try.func16 rfl rfl rfl (map_one _ _) ?_
        rw [e34]
        refine (w_wlasting (h3.keep0 (cw.trans hc))).mono ?_
        rintro e w3' ⟨rfl, rfl⟩
        exact ⟨_, rfl, hK _ _ (Chg.refl _ _) rfl⟩
      · intro a w2 hc hd hk K hK
        have e33 : a.tmps.getD 33 undef = .bool false := (Known.of (j := 6) (hk 33 (of_decide_eq_true (by kernel_rfl))) (by kernel_rfl) (by decide))
        have e3 : a.tmps.getD 3 undef = .pointer (some ⟨gb, 0, none⟩) := (Known.init (hk 3 (of_decide_eq_true (by kernel_rfl))) (by kernel_rfl))
        refine track_run (wanted_yes rfl rfl e33) ?_
        clear hd
        simp only [Array.getD_eq_getD_getElem?] at e3
        go_simp
        exact hK _ w2 (Chg.refl _ _) rfl
      · intro a w2 hc hd hk K hK
        have e33 : a.tmps.getD 33 undef = .bool false := (Known.of (j := 6) (hk 33 (of_decide_eq_true (by kernel_rfl))) (by kernel_rfl) (by decide))
        have e36 : a.tmps.getD 36 undef = .pointer (some ⟨gb, 4, none⟩) := (Known.of (j := 9) (hk 36 (of_decide_eq_true (by kernel_rfl))) (by kernel_rfl) (by decide))
        refine track_run (wanted_yes rfl rfl e33) ?_
        have cc := Chg.cell (cw.trans hc) ck4 id
        clear hd
        simp only [Array.getD_eq_getD_getElem?] at e36
        go_simp
        exact hK _ w2 (Chg.refl _ _) rfl
      · intro a w2 hc hd hk K hK
        have e33 : a.tmps.getD 33 undef = .bool false := (Known.of (j := 6) (hk 33 (of_decide_eq_true (by kernel_rfl))) (by kernel_rfl) (by decide))
        have e35 : a.tmps.getD 35 undef = .int .i64 (lg.last : Int) := (Known.of (j := 8) (hk 35 (of_decide_eq_true (by kernel_rfl))) (by kernel_rfl) (by decide))
        have e37 : a.tmps.getD 37 undef = .int .i64 (lg.last : Int) := (Known.of (j := 10) (hk 37 (of_decide_eq_true (by kernel_rfl))) (by kernel_rfl) (by decide))
        refine track_run (wanted_yes rfl rfl e33) ?_
        clear hd
        simp only [Array.getD_eq_getD_getElem?] at e35 e37
        go_simp
        exact hK _ w2 (Chg.refl _ _) rfl
      · intro a w2 hc hd hk K hK
        have e33 : a.tmps.getD 33 undef = .bool false := (Known.of (j := 6) (hk 33 (of_decide_eq_true (by kernel_rfl))) (by kernel_rfl) (by decide))
        have e38 : a.tmps.getD 38 undef = .bool false := (Known.of (j := 11) (hk 38 (of_decide_eq_true (by kernel_rfl))) (by kernel_rfl) (by decide))
        refine track_run rfl ?_
        clear hd
        simp only [Array.getD_eq_getD_getElem?] at e33 e38
        go_simp
        exact hK _ w2 (Chg.refl _ _) rfl
      · intro a w2 hc hd hk K hK
        have e39 : a.tmps.getD 39 undef = .bool false := (Known.of (j := 12) (hk 39 (of_decide_eq_true (by kernel_rfl))) (by kernel_rfl) (by decide))
        refine track_run rfl ?_
        exact BigFrame.wp_move _ rfl (hK _ w2 (Chg.refl _ _) e39)
      · intro a w2 hc hd hk K hK
        have e40 : a.tmps.getD 40 undef = .bool false := (Known.of (j := 13) (hk 40 (of_decide_eq_true (by kernel_rfl))) (by kernel_rfl) (by decide))
        have e0 : a.tmps.getD 0 undef = .pointer (some ⟨g, 0, none⟩) := (Known.init (hk 0 (of_decide_eq_true (by kernel_rfl))) (by kernel_rfl))
        refine track_run (wanted_yes rfl rfl e40) ?_
        exact BigFrame.wp_move _ rfl (hK _ w2 (Chg.refl _ _) e0)
      · intro a w2 hc hd hk K hK
        have e40 : a.tmps.getD 40 undef = .bool false := (Known.of (j := 13) (hk 40 (of_decide_eq_true (by kernel_rfl))) (by kernel_rfl) (by decide))
        have e41 : a.tmps.getD 41 undef = .pointer (some ⟨g, 0, none⟩) := (Known.of (j := 14) (hk 41 (of_decide_eq_true (by kernel_rfl))) (by kernel_rfl) (by decide))
        refine track_run (wanted_yes rfl rfl e40) ?_
        refine wp_call _ Try.func17 rfl rfl rfl (map_one _ _) ?_
        rw [e41]
        refine (w_wpending (h3.keep0 (cw.trans hc))).mono ?_
        rintro e w3' ⟨rfl, c3'⟩
        exact ⟨_, rfl, hK _ _ c3' rfl⟩
      · intro a w2 hc hd hk K hK
        have e40 : a.tmps.getD 40 undef = .bool false := (Known.of (j := 13) (hk 40 (of_decide_eq_true (by kernel_rfl))) (by kernel_rfl) (by decide))
        have e3 : a.tmps.getD 3 undef = .pointer (some ⟨gb, 0, none⟩) := (Known.init (hk 3 (of_decide_eq_true (by kernel_rfl))) (by kernel_rfl))
        refine track_run (wanted_yes rfl rfl e40) ?_
        clear hd
        simp only [Array.getD_eq_getD_getElem?] at e3
        go_simp
        exact hK _ w2 (Chg.refl _ _) rfl
      · intro a w2 hc hd hk K hK
        have e40 : a.tmps.getD 40 undef = .bool false := (Known.of (j := 13) (hk 40 (of_decide_eq_true (by kernel_rfl))) (by kernel_rfl) (by decide))
        have e43 : a.tmps.getD 43 undef = .pointer (some ⟨gb, 3, none⟩) := (Known.of (j := 16) (hk 43 (of_decide_eq_true (by kernel_rfl))) (by kernel_rfl) (by decide))
        refine track_run (wanted_yes rfl rfl e40) ?_
        have cc := Chg.cell (cw.trans hc) ck3 id
        clear hd
        simp only [Array.getD_eq_getD_getElem?] at e43
        go_simp
        exact hK _ w2 (Chg.refl _ _) rfl
      · intro a w2 hc hd hk K hK
        have e40 : a.tmps.getD 40 undef = .bool false := (Known.of (j := 13) (hk 40 (of_decide_eq_true (by kernel_rfl))) (by kernel_rfl) (by decide))
        have e44 : a.tmps.getD 44 undef = .slice (some ⟨b, off, none⟩) lg.l.length c := (Known.of (j := 17) (hk 44 (of_decide_eq_true (by kernel_rfl))) (by kernel_rfl) (by decide))
        refine track_run (wanted_yes rfl rfl e40) ?_
        clear hd
        simp only [Array.getD_eq_getD_getElem?] at e44
        go_simp
        exact hK _ w2 (Chg.refl _ _) rfl
      · intro a w2 hc hd hk K hK
        have e40 : a.tmps.getD 40 undef = .bool false := (Known.of (j := 13) (hk 40 (of_decide_eq_true (by kernel_rfl))) (by kernel_rfl) (by decide))
        have e3 : a.tmps.getD 3 undef = .pointer (some ⟨gb, 0, none⟩) := (Known.init (hk 3 (of_decide_eq_true (by kernel_rfl))) (by kernel_rfl))
        refine track_run (wanted_yes rfl rfl e40) ?_
        clear hd
        simp only [Array.getD_eq_getD_getElem?] at e3
        go_simp
        exact hK _ w2 (Chg.refl _ _) rfl
      · intro a w2 hc hd hk K hK
        have e40 : a.tmps.getD 40 undef = .bool false := (Known.of (j := 13) (hk 40 (of_decide_eq_true (by kernel_rfl))) (by kernel_rfl) (by decide))
        have e46 : a.tmps.getD 46 undef = .pointer (some ⟨gb, 4, none⟩) := (Known.of (j := 19) (hk 46 (of_decide_eq_true (by kernel_rfl))) (by kernel_rfl) (by decide))
        refine track_run (wanted_yes rfl rfl e40) ?_
        have cc := Chg.cell (cw.trans hc) ck4 id
        clear hd
        simp only [Array.getD_eq_getD_getElem?] at e46
        go_simp
        exact hK _ w2 (Chg.refl _ _) rfl
      · intro a w2 hc hd hk K hK
        have e40 : a.tmps.getD 40 undef = .bool false := (Known.of (j := 13) (hk 40 (of_decide_eq_true (by kernel_rfl))) (by kernel_rfl) (by decide))
        have e45 : a.tmps.getD 45 undef = .int .i64 (lg.l.length : Int) := (Known.of (j := 18) (hk 45 (of_decide_eq_true (by kernel_rfl))) (by kernel_rfl) (by decide))
        have e47 : a.tmps.getD 47 undef = .int .i64 (lg.last : Int) := (Known.of (j := 20) (hk 47 (of_decide_eq_true (by kernel_rfl))) (by kernel_rfl) (by decide))
        refine track_run (wanted_yes rfl rfl e40) ?_
        clear hd
        simp only [Array.getD_eq_getD_getElem?] at e45 e47
        go_simp
        exact hK _ w2 (Chg.refl _ _) rfl
      · intro a w2 hc hd hk K hK
        have e40 : a.tmps.getD 40 undef = .bool false := (Known.of (j := 13) (hk 40 (of_decide_eq_true (by kernel_rfl))) (by kernel_rfl) (by decide))
        have e42 : a.tmps.getD 42 undef = .int .i64 ((lg.l.length : Int) - lg.last) := (Known.of (j := 15) (hk 42 (of_decide_eq_true (by kernel_rfl))) (by kernel_rfl) (by decide))
        have e48 : a.tmps.getD 48 undef = .int .i64 ((lg.l.length : Int) - lg.last) := (Known.of (j := 21) (hk 48 (of_decide_eq_true (by kernel_rfl))) (by kernel_rfl) (by decide))
        refine track_run (wanted_yes rfl rfl e40) ?_
        clear hd
        simp only [Array.getD_eq_getD_getElem?] at e42 e48
        go_simp
        exact hK _ w2 (Chg.refl _ _) rfl
      · intro a w2 hc hd hk K hK
        have e40 : a.tmps.getD 40 undef = .bool false := (Known.of (j := 13) (hk 40 (of_decide_eq_true (by kernel_rfl))) (by kernel_rfl) (by decide))
        have e49 : a.tmps.getD 49 undef = .bool false := (Known.of (j := 22) (hk 49 (of_decide_eq_true (by kernel_rfl))) (by kernel_rfl) (by decide))
        refine track_run rfl ?_
        clear hd
        simp only [Array.getD_eq_getD_getElem?] at e40 e49
        go_simp
        exact hK _ w2 (Chg.refl _ _) rfl
      · intro a w2 hc hd hk K hK
        have e50 : a.tmps.getD 50 undef = .bool false := (Known.of (j := 23) (hk 50 (of_decide_eq_true (by kernel_rfl))) (by kernel_rfl) (by decide))
        refine track_run rfl ?_
        exact BigFrame.wp_move _ rfl (hK _ w2 (Chg.refl _ _) e50)
      · intro a w2 hc hd hk K hK
        have e51 : a.tmps.getD 51 undef = .bool false := (Known.of (j := 24) (hk 51 (of_decide_eq_true (by kernel_rfl))) (by kernel_rfl) (by decide))
        have e6 : a.tmps.getD 6 undef = .slice As ls ns := (Known.init (hk 6 (of_decide_eq_true (by kernel_rfl))) (by kernel_rfl))
        refine track_run (wanted_yes rfl rfl e51) ?_
        exact BigFrame.wp_move _ rfl (hK _ w2 (Chg.refl _ _) e6)
      · intro a w2 hc hd hk K hK
        have e51 : a.tmps.getD 51 undef = .bool false := (Known.of (j := 24) (hk 51 (of_decide_eq_true (by kernel_rfl))) (by kernel_rfl) (by decide))
        have e9 : a.tmps.getD 9 undef = .slice Au lg.l[m].b.length cu := (Known.init (hk 9 (of_decide_eq_true (by kernel_rfl))) (by kernel_rfl))
        refine track_run (wanted_yes rfl rfl e51) ?_
        exact BigFrame.wp_move _ rfl (hK _ w2 (Chg.refl _ _) e9)
      · intro a w2 hc hd hk K hK
        have e51 : a.tmps.getD 51 undef = .bool false := (Known.of (j := 24) (hk 51 (of_decide_eq_true (by kernel_rfl))) (by kernel_rfl) (by decide))
        have e52 : a.tmps.getD 52 undef = .slice As ls ns := (Known.of (j := 25) (hk 52 (of_decide_eq_true (by kernel_rfl))) (by kernel_rfl) (by decide))
        have e53 : a.tmps.getD 53 undef = .slice Au lg.l[m].b.length cu := (Known.of (j := 26) (hk 53 (of_decide_eq_true (by kernel_rfl))) (by kernel_rfl) (by decide))
        refine track_run (wanted_yes rfl rfl e51) ?_
        refine wp_call _ Try.func21 rfl rfl rfl (map_two _ _ _) ?_
        rw [e52, e53]
        refine (w_same00 _ (Bytes.kept os3 (cw.trans hc) fun _ _ => id) (Bytes.kept hw9 (cw.trans hc) fun _ _ => id)).mono ?_
        rintro e w3' ⟨rfl, rfl⟩
        rw [beq_self_eq_true]
        exact ⟨_, rfl, hK _ _ (Chg.refl _ _) rfl⟩
      · intro a w2 hc hd hk K hK
        have e51 : a.tmps.getD 51 undef = .bool false := (Known.of (j := 24) (hk 51 (of_decide_eq_true (by kernel_rfl))) (by kernel_rfl) (by decide))
        have e54 : a.tmps.getD 54 undef = .bool true := (Known.of (j := 27) (hk 54 (of_decide_eq_true (by kernel_rfl))) (by kernel_rfl) (by decide))
        refine track_run (wanted_yes rfl rfl e51) ?_
        clear hd
        simp only [Array.getD_eq_getD_getElem?] at e54
        go_simp
        exact hK _ w2 (Chg.refl _ _) rfl
      · intro a w2 hc hd hk K hK
        have e51 : a.tmps.getD 51 undef = .bool false := (Known.of (j := 24) (hk 51 (of_decide_eq_true (by kernel_rfl))) (by kernel_rfl) (by decide))
        have e55 : a.tmps.getD 55 undef = .bool false := (Known.of (j := 28) (hk 55 (of_decide_eq_true (by kernel_rfl))) (by kernel_rfl) (by decide))
        refine track_run rfl ?_
        clear hd
        simp only [Array.getD_eq_getD_getElem?] at e51 e55
        go_simp
        exact hK _ w2 (Chg.refl _ _) rfl
      · intro a w2 hc hd hk K hK
        have e56 : a.tmps.getD 56 undef = .bool false := (Known.of (j := 29) (hk 56 (of_decide_eq_true (by kernel_rfl))) (by kernel_rfl) (by decide))
        refine track_run rfl ?_
        exact BigFrame.wp_move _ rfl (hK _ w2 (Chg.refl _ _) e56)
      · intro a w2 hc hd hk K hK
        have e57 : a.tmps.getD 57 undef = .bool false := (Known.of (j := 30) (hk 57 (of_decide_eq_true (by kernel_rfl))) (by kernel_rfl) (by decide))
        have e7 : a.tmps.getD 7 undef = .slice Ar lr nr := (Known.init (hk 7 (of_decide_eq_true (by kernel_rfl))) (by kernel_rfl))
        refine track_run (wanted_yes rfl rfl e57) ?_
        exact BigFrame.wp_move _ rfl (hK _ w2 (Chg.refl _ _) e7)
      · intro a w2 hc hd hk K hK
        have e57 : a.tmps.getD 57 undef = .bool false := (Known.of (j := 30) (hk 57 (of_decide_eq_true (by kernel_rfl))) (by kernel_rfl) (by decide))
        have e3 : a.tmps.getD 3 undef = .pointer (some ⟨gb, 0, none⟩) := (Known.init (hk 3 (of_decide_eq_true (by kernel_rfl))) (by kernel_rfl))
        refine track_run (wanted_yes rfl rfl e57) ?_
        clear hd
        simp only [Array.getD_eq_getD_getElem?] at e3
        go_simp
        exact hK _ w2 (Chg.refl _ _) rfl
      · intro a w2 hc hd hk K hK
        have e57 : a.tmps.getD 57 undef = .bool false := (Known.of (j := 30) (hk 57 (of_decide_eq_true (by kernel_rfl))) (by kernel_rfl) (by decide))
        have e59 : a.tmps.getD 59 undef = .pointer (some ⟨gb, 3, none⟩) := (Known.of (j := 32) (hk 59 (of_decide_eq_true (by kernel_rfl))) (by kernel_rfl) (by decide))
        refine track_run (wanted_yes rfl rfl e57) ?_
        have cc := Chg.cell (cw.trans hc) ck3 id
        clear hd
        simp only [Array.getD_eq_getD_getElem?] at e59
        go_simp
        exact hK _ w2 (Chg.refl _ _) rfl
      · intro a w2 hc hd hk K hK
        have e57 : a.tmps.getD 57 undef = .bool false := (Known.of (j := 30) (hk 57 (of_decide_eq_true (by kernel_rfl))) (by kernel_rfl) (by decide))
        have e8 : a.tmps.getD 8 undef = .int .i64 (m : Int) := (Known.init (hk 8 (of_decide_eq_true (by kernel_rfl))) (by kernel_rfl))
        refine track_run (wanted_yes rfl rfl e57) ?_
        exact BigFrame.wp_move _ rfl (hK _ w2 (Chg.refl _ _) e8)
      · intro a w2 hc hd hk K hK
        have e57 : a.tmps.getD 57 undef = .bool false := (Known.of (j := 30) (hk 57 (of_decide_eq_true (by kernel_rfl))) (by kernel_rfl) (by decide))
        have e61 : a.tmps.getD 61 undef = .int .i64 (m : Int) := (Known.of (j := 34) (hk 61 (of_decide_eq_true (by kernel_rfl))) (by kernel_rfl) (by decide))
        refine track_run (wanted_yes rfl rfl e57) ?_
        clear hd
        simp only [Array.getD_eq_getD_getElem?] at e61
        go_simp
        exact hK _ w2 (Chg.refl _ _) rfl
      · intro a w2 hc hd hk K hK
        have e57 : a.tmps.getD 57 undef = .bool false := (Known.of (j := 30) (hk 57 (of_decide_eq_true (by kernel_rfl))) (by kernel_rfl) (by decide))
        have e60 : a.tmps.getD 60 undef = .slice (some ⟨b, off, none⟩) lg.l.length c := (Known.of (j := 33) (hk 60 (of_decide_eq_true (by kernel_rfl))) (by kernel_rfl) (by decide))
        have e62 : a.tmps.getD 62 undef = .int .i64 ((m + 1 : Nat) : Int) := (Known.of (j := 35) (hk 62 (of_decide_eq_true (by kernel_rfl))) (by kernel_rfl) (by decide))
        refine track_run (wanted_yes rfl rfl e57) ?_
        simp only [Array.getD_eq_getD_getElem?] at e60 e62
        have hb1 : (0 : Int) ≤ (m : Int) + 1 := by omega
        have hb2 : (m : Int) + 1 ≤ lg.l.length := by omega
        clear hd
        go_simp
        exact hK _ w2 (Chg.refl _ _) hsl.symm
      · intro a w2 hc hd hk K hK
        have e57 : a.tmps.getD 57 undef = .bool false := (Known.of (j := 30) (hk 57 (of_decide_eq_true (by kernel_rfl))) (by kernel_rfl) (by decide))
        have e58 : a.tmps.getD 58 undef = .slice Ar lr nr := (Known.of (j := 31) (hk 58 (of_decide_eq_true (by kernel_rfl))) (by kernel_rfl) (by decide))
        have e63 : a.tmps.getD 63 undef = sliced (some ⟨b, off, none⟩) (m + 1) lg.l.length c 2 := (Known.of (j := 36) (hk 63 (of_decide_eq_true (by kernel_rfl))) (by kernel_rfl) (by decide))
        refine track_run (wanted_yes rfl rfl e57) ?_
        refine wp_call _ Try.func15 rfl rfl rfl (map_two _ _ _) ?_
        rw [e58, e63]
        refine (w_rsame _ (Recs.kept or3 (cw.trans hc) fun _ _ => id) (Recs.kept hsub (cw.trans hc) fun _ _ => id)).mono ?_
        rintro e w3' ⟨rfl, c3'⟩
        rw [decide_eq_true rfl]
        exact ⟨_, rfl, hK _ w3' c3' rfl⟩
      · intro a w2 hc hd hk K hK
        have e57 : a.tmps.getD 57 undef = .bool false := (Known.of (j := 30) (hk 57 (of_decide_eq_true (by kernel_rfl))) (by kernel_rfl) (by decide))
        have e64 : a.tmps.getD 64 undef = .bool true := (Known.of (j := 37) (hk 64 (of_decide_eq_true (by kernel_rfl))) (by kernel_rfl) (by decide))
        refine track_run (wanted_yes rfl rfl e57) ?_
        clear hd
        simp only [Array.getD_eq_getD_getElem?] at e64
        go_simp
        exact hK _ w2 (Chg.refl _ _) rfl
      · intro a w2 hc hd hk K hK
        have e57 : a.tmps.getD 57 undef = .bool false := (Known.of (j := 30) (hk 57 (of_decide_eq_true (by kernel_rfl))) (by kernel_rfl) (by decide))
        have e65 : a.tmps.getD 65 undef = .bool false := (Known.of (j := 38) (hk 65 (of_decide_eq_true (by kernel_rfl))) (by kernel_rfl) (by decide))
        refine track_run rfl ?_
        clear hd
        simp only [Array.getD_eq_getD_getElem?] at e57 e65
        go_simp
        exact hK _ w2 (Chg.refl _ _) rfl
    -- END s7
    · intro f w4 hc hk'
      have e66 : f 66 = .bool false := Known.of (j := 39) (hk' 66) (by kernel_rfl) (by decide)
      simp only [filled, List.foldl_cons, List.foldl_nil]
      rw [e66]
      simp only [Act.put, List.setIfInBounds_toArray, List.set_cons_succ, List.set_cons_zero]
      clear hk' e66
      have c4 := cw.trans hc
      replace ck0 := Chg.cell c4 ck0 id
      replace ck1 := Chg.cell c4 ck1 id
      replace HbL := HbL.kept c4 fun _ _ => id
      replace HbT := HbT.kept c4 fun _ _ => id
      have hD4 := hD3.keep c4 fun _ _ => id
      clear ck2 ck3 ck4 hD3 h3 q3 os3 or3 Hrl hsub hw9 cw hc hw62 hwp
      go_wp2
      have cw : Chg none' w4 w4.drew := (Chg.refl _ _).drew
      -- BEGIN s9
      refine wp_region_track2 [Vp.k (.pointer (some ⟨gd, 0, none⟩)),
        ⟨fun x v => OwnB w4.heap.size x v (lg.d.L), fun _ _ _ hc h => h.keep hc fun _ => none_own⟩,
        Vp.k (.pointer (some ⟨gb, 0, none⟩)),
        Vp.k (.pointer (some ⟨gb, 0, none⟩)),
        Vp.k (.slice AL lg.d.L.length nL),
        Vp.k (.bool true),
        Vp.k (.bool true),
        Vp.k (.pointer (some ⟨gd, 0, none⟩)),
        ⟨fun x v => OwnB w4.heap.size x v (lg.d.T), fun _ _ _ hc h => h.keep hc fun _ => none_own⟩,
        Vp.k (.pointer (some ⟨gb, 0, none⟩)),
        Vp.k (.pointer (some ⟨gb, 1, none⟩)),
        Vp.k (.slice AT lg.d.T.length nT),
        Vp.k (.bool true),
        Vp.k (.bool true),
        Vp.k (.bool true)] (by kernel_rfl) (by kernel_rfl) (by kernel_rfl) ?_ ?_
      · refine ⟨?_, ?_, ?_, ?_, ?_, ?_, ?_, ?_, ?_, ?_, ?_, ?_, ?_, ?_, ?_, trivial⟩
        · intro a w2 hc hd hk K hK
          have e5 : a.tmps.getD 5 undef = .pointer (some ⟨gd, 0, none⟩) := (Known.init (hk 5 (of_decide_eq_true (by kernel_rfl))) (by kernel_rfl))
          refine track_run rfl ?_
          exact BigFrame.wp_move _ rfl (hK _ w2 (Chg.refl _ _) e5)
        · intro a w2 hc hd hk K hK
          have e67 : a.tmps.getD 67 undef = .pointer (some ⟨gd, 0, none⟩) := (Known.of (j := 0) (hk 67 (of_decide_eq_true (by kernel_rfl))) (by kernel_rfl) (by decide))
          refine track_run rfl ?_
          refine wp_call _ Try.func25 rfl rfl rfl (map_one _ _) ?_
          rw [e67]
          refine (w_lasting (hD4.keep (cw.trans hc) fun _ _ => id)).mono ?_
          rintro e w5 ⟨u, rfl, o5, c5⟩
          exact ⟨_, rfl, hK _ w5 c5 (o5.more (cw.trans hc).size)⟩
        · intro a w2 hc hd hk K hK
          have e3 : a.tmps.getD 3 undef = .pointer (some ⟨gb, 0, none⟩) := (Known.init (hk 3 (of_decide_eq_true (by kernel_rfl))) (by kernel_rfl))
          refine track_run rfl ?_
          clear hd
          simp only [Array.getD_eq_getD_getElem?] at e3
          go_simp
          exact hK _ w2 (Chg.refl _ _) rfl
        · intro a w2 hc hd hk K hK
          have e69 : a.tmps.getD 69 undef = .pointer (some ⟨gb, 0, none⟩) := (Known.of (j := 2) (hk 69 (of_decide_eq_true (by kernel_rfl))) (by kernel_rfl) (by decide))
          refine track_run rfl ?_
          clear hd
          simp only [Array.getD_eq_getD_getElem?] at e69
          go_simp
          exact hK _ w2 (Chg.refl _ _) rfl
        · intro a w2 hc hd hk K hK
          have e70 : a.tmps.getD 70 undef = .pointer (some ⟨gb, 0, none⟩) := (Known.of (j := 3) (hk 70 (of_decide_eq_true (by kernel_rfl))) (by kernel_rfl) (by decide))
          refine track_run rfl ?_
          have cc := Chg.cell (cw.trans hc) ck0 id
          clear hd
          simp only [Array.getD_eq_getD_getElem?] at e70
          go_simp
          exact hK _ w2 (Chg.refl _ _) rfl
        · intro a w2 hc hd hk K hK
          have e68 : OwnB w4.heap.size w2 (a.tmps.getD 68 undef) (lg.d.L) := (Known.of (j := 1) (hk 68 (of_decide_eq_true (by kernel_rfl))) (by kernel_rfl) (by decide))
          have e71 : a.tmps.getD 71 undef = .slice AL lg.d.L.length nL := (Known.of (j := 4) (hk 71 (of_decide_eq_true (by kernel_rfl))) (by kernel_rfl) (by decide))
          refine track_run rfl ?_
          refine wp_call _ Try.func21 rfl rfl rfl (map_two _ _ _) ?_
          rw [e71]
          refine (w_same00 _ e68.bytes (HbL.kept (cw.trans hc) fun _ _ => id)).mono ?_
          rintro e w5 ⟨rfl, rfl⟩
          rw [beq_self_eq_true]
          exact ⟨_, rfl, hK _ _ (Chg.refl _ _) rfl⟩
        · intro a w2 hc hd hk K hK
          have e72 : a.tmps.getD 72 undef = .bool true := (Known.of (j := 5) (hk 72 (of_decide_eq_true (by kernel_rfl))) (by kernel_rfl) (by decide))
          refine track_run rfl ?_
          exact BigFrame.wp_move _ rfl (hK _ w2 (Chg.refl _ _) e72)
        · intro a w2 hc hd hk K hK
          have e73 : a.tmps.getD 73 undef = .bool true := (Known.of (j := 6) (hk 73 (of_decide_eq_true (by kernel_rfl))) (by kernel_rfl) (by decide))
          have e5 : a.tmps.getD 5 undef = .pointer (some ⟨gd, 0, none⟩) := (Known.init (hk 5 (of_decide_eq_true (by kernel_rfl))) (by kernel_rfl))
          refine track_run (wanted_yes rfl rfl e73) ?_
          exact BigFrame.wp_move _ rfl (hK _ w2 (Chg.refl _ _) e5)
        · intro a w2 hc hd hk K hK
          have e73 : a.tmps.getD 73 undef = .bool true := (Known.of (j := 6) (hk 73 (of_decide_eq_true (by kernel_rfl))) (by kernel_rfl) (by decide))
          have e74 : a.tmps.getD 74 undef = .pointer (some ⟨gd, 0, none⟩) := (Known.of (j := 7) (hk 74 (of_decide_eq_true (by kernel_rfl))) (by kernel_rfl) (by decide))
          refine track_run (wanted_yes rfl rfl e73) ?_
          refine wp_call _ Try.func42 rfl rfl rfl (map_one _ _) ?_
          rw [e74]
          refine (w_tail (hD4.keep (cw.trans hc) fun _ _ => id)).mono ?_
          rintro e w5 ⟨u, rfl, o5, c5⟩
          exact ⟨_, rfl, hK _ w5 c5 (o5.more (cw.trans hc).size)⟩
        · intro a w2 hc hd hk K hK
          have e73 : a.tmps.getD 73 undef = .bool true := (Known.of (j := 6) (hk 73 (of_decide_eq_true (by kernel_rfl))) (by kernel_rfl) (by decide))
          have e3 : a.tmps.getD 3 undef = .pointer (some ⟨gb, 0, none⟩) := (Known.init (hk 3 (of_decide_eq_true (by kernel_rfl))) (by kernel_rfl))
          refine track_run (wanted_yes rfl rfl e73) ?_
          clear hd
          simp only [Array.getD_eq_getD_getElem?] at e3
          go_simp
          exact hK _ w2 (Chg.refl _ _) rfl
        · intro a w2 hc hd hk K hK
          have e73 : a.tmps.getD 73 undef = .bool true := (Known.of (j := 6) (hk 73 (of_decide_eq_true (by kernel_rfl))) (by kernel_rfl) (by decide))
          have e76 : a.tmps.getD 76 undef = .pointer (some ⟨gb, 0, none⟩) := (Known.of (j := 9) (hk 76 (of_decide_eq_true (by kernel_rfl))) (by kernel_rfl) (by decide))
          refine track_run (wanted_yes rfl rfl e73) ?_
          clear hd
          simp only [Array.getD_eq_getD_getElem?] at e76
          go_simp
          exact hK _ w2 (Chg.refl _ _) rfl
        · intro a w2 hc hd hk K hK
          have e73 : a.tmps.getD 73 undef = .bool true := (Known.of (j := 6) (hk 73 (of_decide_eq_true (by kernel_rfl))) (by kernel_rfl) (by decide))
          have e77 : a.tmps.getD 77 undef = .pointer (some ⟨gb, 1, none⟩) := (Known.of (j := 10) (hk 77 (of_decide_eq_true (by kernel_rfl))) (by kernel_rfl) (by decide))
          refine track_run (wanted_yes rfl rfl e73) ?_
          have cc := Chg.cell (cw.trans hc) ck1 id
          clear hd
          simp only [Array.getD_eq_getD_getElem?] at e77
          go_simp
          exact hK _ w2 (Chg.refl _ _) rfl
        · intro a w2 hc hd hk K hK
          have e73 : a.tmps.getD 73 undef = .bool true := (Known.of (j := 6) (hk 73 (of_decide_eq_true (by kernel_rfl))) (by kernel_rfl) (by decide))
          have e75 : OwnB w4.heap.size w2 (a.tmps.getD 75 undef) (lg.d.T) := (Known.of (j := 8) (hk 75 (of_decide_eq_true (by kernel_rfl))) (by kernel_rfl) (by decide))
          have e78 : a.tmps.getD 78 undef = .slice AT lg.d.T.length nT := (Known.of (j := 11) (hk 78 (of_decide_eq_true (by kernel_rfl))) (by kernel_rfl) (by decide))
          refine track_run (wanted_yes rfl rfl e73) ?_
          refine wp_call _ Try.func21 rfl rfl rfl (map_two _ _ _) ?_
          rw [e78]
          refine (w_same00 _ e75.bytes (HbT.kept (cw.trans hc) fun _ _ => id)).mono ?_
          rintro e w5 ⟨rfl, rfl⟩
          rw [beq_self_eq_true]
          exact ⟨_, rfl, hK _ _ (Chg.refl _ _) rfl⟩
        · intro a w2 hc hd hk K hK
          have e73 : a.tmps.getD 73 undef = .bool true := (Known.of (j := 6) (hk 73 (of_decide_eq_true (by kernel_rfl))) (by kernel_rfl) (by decide))
          have e79 : a.tmps.getD 79 undef = .bool true := (Known.of (j := 12) (hk 79 (of_decide_eq_true (by kernel_rfl))) (by kernel_rfl) (by decide))
          refine track_run rfl ?_
          clear hd
          simp only [Array.getD_eq_getD_getElem?] at e73 e79
          go_simp
          exact hK _ w2 (Chg.refl _ _) rfl
        · intro a w2 hc hd hk K hK
          have e80 : a.tmps.getD 80 undef = .bool true := (Known.of (j := 13) (hk 80 (of_decide_eq_true (by kernel_rfl))) (by kernel_rfl) (by decide))
          refine track_run rfl ?_
          exact BigFrame.wp_assign _ rfl (hK _ w2 (Chg.refl _ _) e80)
      -- END s9
      · intro f w8 hc hk'
        have e4 : f 4 = .bool true := Known.of (j := 14) (hk' 4) (by kernel_rfl) (by decide)
        simp only [filled, List.foldl_cons, List.foldl_nil]
        rw [e4]
        simp only [Act.put, List.setIfInBounds_toArray, List.set_cons_succ, List.set_cons_zero]
        go_wp2
        go_ret
        exact ⟨rfl, (dX.trans c4).trans (cw.trans hc)⟩

end Go.Proofs.Ytclbbddpedcfjaa
