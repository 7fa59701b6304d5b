/-
  The walk of HashOne.
-/
import Derived.Test.YtojmldhbdfboiaaWHash3
import Derived.Test.YtojmldhbdfboiaaOpen
import Derived.Test.YtojmldhbdfboiaaRegion
namespace Go.Proofs.Ytojmldhbdfboiaa
open Go.RowKit

set_option maxHeartbeats 1000000 in
theorem walk_HashOne (w : World) {v : Value} {bs : List UInt8} (h : Bytes (old' w) w v bs) (hr : bs.length ≤ 140737488351232) (k : Int) (hk : (Lit.int .u16 k).wf = true) (x : Int) (hx : (Lit.int .u8 x).wf = true) :
    Calls Try.prog 4 #[v, .int .u16 k, .int .u8 x] w fun e w' => e = .returned (.bool true) ∧ Chg none' w w' := by
  obtain ⟨x, rfl⟩ := int_u8 hx
  obtain ⟨k0, k1⟩ := int_u16 hk
  clear hx hk
  have h' := h
  obtain ⟨A, c, rfl, h1, h2, h3, h4⟩ := h
  unfold maxLen at h2
  by_cases hlen : bs.length = 0
  · have hb : ((bs.length : Int) == 0) = true := by rw [hlen]; rfl
    clear h' h4 h1
    go_enter Try.func4, Try.ntmps4
    go_wp2_with fail
    refine (w_known04 _).mono ?_
    rintro e w1 ⟨rfl, c1⟩
    go_wp2_with fail
    go_ret
    exact ⟨rfl, c1⟩
  have hb : ((bs.length : Int) == 0) = false := by rw [beq_eq_false_iff_ne]; omega
  by_cases hlen2 : 2000 < bs.length
  · clear h' h4 h1
    go_enter Try.func4, Try.ntmps4
    go_wp2_with fail
    refine (w_known04 _).mono ?_
    rintro e w1 ⟨rfl, c1⟩
    go_wp2_with fail
    go_ret
    exact ⟨rfl, c1⟩
  by_cases hx0 : x = 0
  · subst hx0
    clear h' h4 h1
    go_enter Try.func4, Try.ntmps4
    go_wp2_with fail
    refine (w_known04 _).mono ?_
    rintro e w1 ⟨rfl, c1⟩
    go_wp2_with fail
    go_ret
    exact ⟨rfl, c1⟩
  have hxb : ((x.toNat : Int) == 0) = false := by
    rw [beq_eq_false_iff_ne]
    intro e
    exact hx0 (UInt8.toNat_inj.1 (by simpa using e))
  obtain ⟨j, hj⟩ : ∃ j : Nat, k.tmod bs.length = (j : Int) := ⟨(k.tmod bs.length).toNat, by have := Int.tmod_nonneg (bs.length : Int) k0; omega⟩
  have hjl : j < bs.length := by have := Int.tmod_lt_of_pos k (show (0 : Int) < bs.length by omega); omega
  go_enter Try.func4, Try.ntmps4
  go_wp2_with fail
  refine (w_copy w h' (by omega)).mono ?_
  rintro e w1 ⟨v1, rfl, own1, c1⟩
  obtain ⟨g, cap, cur, rfl, hg0, hg1, hh, hl, hm, hs, hc⟩ := own1.form (by omega)
  have cj : w1.cell? ⟨g, j, none⟩ = some (vb bs[j]) := by rw [cell_of_row _ _ _ _ _ _ hh]; exact hc j _ (by simp [hjl])
  have fj : w1.frozen? ⟨g, j, none⟩ = false := by simp [World.frozen?, hh]
  obtain ⟨y, hy⟩ : ∃ y, y = bs[j] ^^^ x := ⟨_, rfl⟩
  have hxor : bits .xor .u8 (bs[j].toNat : Int) (x.toNat : Int) = (y.toNat : Int) := by rw [hy]; exact bits_xor8 bs[j] x
  have hne : sum bs ≠ sum (bs.set j y) := by
    intro e
    have hs1 : bs = bs.take j ++ bs[j] :: bs.drop (j + 1) := by rw [List.getElem_cons_drop, List.take_append_drop]
    have hs2 : bs.set j y = bs.take j ++ y :: bs.drop (j + 1) := List.set_eq_take_append_cons_drop.trans (if_pos hjl)
    rw [hs2] at e
    conv at e => lhs; rw [hs1]
    have := sum_byte e
    rw [hy] at this
    exact xor_ne hx0 this.symm
  have Hy := Lib.hid hy; clear hy
  obtain ⟨W, hW⟩ : ∃ W, W = w1.setCell ⟨g, j, none⟩ (vb y) := ⟨_, rfl⟩
  have hC : OwnB w.heap.size W (.slice (some ⟨g, 0, none⟩) bs.length cap) (bs.set j y) := by rw [hW]; exact own1.set j hjl _
  have hB : Bytes (old' w) W (.slice A bs.length c) bs := by
    rw [hW]
    refine (h'.kept c1 fun _ _ => id).kept (S := fun b => b = g) ((Chg.refl (fun b => b = g) _).setCell (.inr rfl) _) ?_
    intro b hb e
    subst e
    unfold old' at hb
    omega
  have cW : Chg none' w W := by rw [hW]; exact c1.setCell (.inl hg0) _
  have HW := Lib.hid hW.symm; clear hW
  clear hh hl hm hs hc
  go_wp2_with fail
  rw [HW.out]
  clear cj fj hxor HW own1 c1 h' h1 h2 h3 h4 hg1
  have cw : Chg none' W W.drew := (Chg.refl _ _).drew
  have n1 := ne_word' (a := sum bs) (b := sum (bs.set j y)) hne
  have n2 := ne_word' (a := stir (sum bs)) (b := stir (sum (bs.set j y))) (fun e => hne (stir_inj.1 e))
  refine wp_region_track [Vp.k (.slice A bs.length c),
    ⟨fun w v => Rows all' w v [bs], fun _ _ _ hc h => h.kept hc fun _ _ => id⟩,
    Vp.k (vw (sum bs)),
    Vp.k (.slice (some ⟨g, 0, none⟩) bs.length cap),
    ⟨fun w v => Rows all' w v [(bs.set j y)], fun _ _ _ hc h => h.kept hc fun _ _ => id⟩,
    Vp.k (vw (sum (bs.set j y))),
    Vp.k (.bool true),
    Vp.k (.bool true),
    Vp.k (.slice A bs.length c),
    Vp.k (.string ⟨bs.toArray⟩),
    Vp.k (vw (stir (sum bs))),
    Vp.k (.slice (some ⟨g, 0, none⟩) bs.length cap),
    Vp.k (.string ⟨(bs.set j y).toArray⟩),
    Vp.k (vw (stir (sum (bs.set j y)))),
    Vp.k (.bool true),
    Vp.k (.bool true),
    Vp.k (.bool true),
    Vp.k (.slice A bs.length c),
    ⟨fun w v => Rows all' w v [bs], fun _ _ _ hc h => h.kept hc fun _ _ => id⟩,
    Vp.k (vw (sum bs)),
    Vp.k (.slice A bs.length c),
    Vp.k (.int .i64 (j : Int)),
    ⟨fun w v => Bytes all' w v (bs.take j), fun _ _ _ hc h => h.kept hc fun _ _ => id⟩,
    Vp.k (.slice A bs.length c),
    Vp.k (.int .i64 (j : Int)),
    ⟨fun w v => Bytes all' w v (bs.drop j), fun _ _ _ hc h => h.kept hc fun _ _ => id⟩,
    ⟨fun w v => Rows all' w v [bs.take j, bs.drop j], fun _ _ _ hc h => h.kept hc fun _ _ => id⟩,
    Vp.k (vw (sum bs)),
    Vp.k (.bool true),
    Vp.k (.bool true),
    Vp.k (.bool true),
    Vp.k (.bool true),
    Vp.k (.bool true),
    Vp.k (.bool true)] (by kernel_rfl) (by kernel_rfl) (by kernel_rfl) ?_ ?_
  · refine ⟨?_, ?_, ?_, ?_, ?_, ?_, ?_, ?_, ?_, ?_, ?_, ?_, ?_, ?_, ?_, ?_, ?_, ?_, ?_, ?_, ?_, ?_, ?_, ?_, ?_, ?_, ?_, ?_, ?_, ?_, ?_, ?_, ?_, ?_, trivial⟩
    · intro a w2 hc hd hk K hK
      have e0 : a.tmps.getD 0 undef = .slice A bs.length c := (Known.init (hk 0 (of_decide_eq_true (by kernel_rfl))) (by kernel_rfl))
      refine track_run rfl ?_
      exact BigFrame.wp_move _ rfl (hK _ w2 (Chg.refl _ _) e0)
    · intro a w2 hc hd hk K hK
      have e38 : a.tmps.getD 38 undef = .slice A bs.length c := (Known.of (j := 0) (hk 38 (of_decide_eq_true (by kernel_rfl))) (by kernel_rfl) (by decide))
      refine track_run rfl ?_
      clear hd
      simp only [Array.getD_eq_getD_getElem?] at e38
      go_simp
      exact hK _ _ ((Chg.refl _ _).alloc _) (rows_lit1 ((hB.kept (cw.trans hc) fun _ _ => id)).all)
    · intro a w2 hc hd hk K hK
      have e39 : Rows all' w2 (a.tmps.getD 39 undef) [bs] := (Known.of (j := 1) (hk 39 (of_decide_eq_true (by kernel_rfl))) (by kernel_rfl) (by decide))
      refine track_run rfl ?_
      refine wp_call _ Try.func16 rfl rfl rfl (map_one _ _) ?_
      refine (w_sum _ e39).mono ?_
      rintro e w3 ⟨rfl, rfl⟩
      exact ⟨_, rfl, hK _ w2 (Chg.refl _ _) (by simp [Vp.k])⟩
    · intro a w2 hc hd hk K hK
      have e7 : a.tmps.getD 7 undef = .slice (some ⟨g, 0, none⟩) bs.length cap := (Known.init (hk 7 (of_decide_eq_true (by kernel_rfl))) (by kernel_rfl))
      refine track_run rfl ?_
      exact BigFrame.wp_move _ rfl (hK _ w2 (Chg.refl _ _) e7)
    · intro a w2 hc hd hk K hK
      have e41 : a.tmps.getD 41 undef = .slice (some ⟨g, 0, none⟩) bs.length cap := (Known.of (j := 3) (hk 41 (of_decide_eq_true (by kernel_rfl))) (by kernel_rfl) (by decide))
      refine track_run rfl ?_
      clear hd
      simp only [Array.getD_eq_getD_getElem?] at e41
      go_simp
      exact hK _ _ ((Chg.refl _ _).alloc _) (rows_lit1 ((hC.bytes.kept (cw.trans hc) fun _ _ => id)).all)
    · intro a w2 hc hd hk K hK
      have e42 : Rows all' w2 (a.tmps.getD 42 undef) [(bs.set j y)] := (Known.of (j := 4) (hk 42 (of_decide_eq_true (by kernel_rfl))) (by kernel_rfl) (by decide))
      refine track_run rfl ?_
      refine wp_call _ Try.func16 rfl rfl rfl (map_one _ _) ?_
      refine (w_sum _ e42).mono ?_
      rintro e w3 ⟨rfl, rfl⟩
      exact ⟨_, rfl, hK _ w2 (Chg.refl _ _) (by simp [Vp.k])⟩
    · intro a w2 hc hd hk K hK
      have e40 : a.tmps.getD 40 undef = vw (sum bs) := (Known.of (j := 2) (hk 40 (of_decide_eq_true (by kernel_rfl))) (by kernel_rfl) (by decide))
      have e43 : a.tmps.getD 43 undef = vw (sum (bs.set j y)) := (Known.of (j := 5) (hk 43 (of_decide_eq_true (by kernel_rfl))) (by kernel_rfl) (by decide))
      refine track_run rfl ?_
      clear hd
      simp only [Array.getD_eq_getD_getElem?] at e40 e43
      go_simp
      exact hK _ w2 (Chg.refl _ _) rfl
    · intro a w2 hc hd hk K hK
      have e44 : a.tmps.getD 44 undef = .bool true := (Known.of (j := 6) (hk 44 (of_decide_eq_true (by kernel_rfl))) (by kernel_rfl) (by decide))
      refine track_run rfl ?_
      exact BigFrame.wp_move _ rfl (hK _ w2 (Chg.refl _ _) e44)
    · intro a w2 hc hd hk K hK
      have e45 : a.tmps.getD 45 undef = Value.bool true := (Known.of (j := 7) (hk 45 (of_decide_eq_true (by kernel_rfl))) (by kernel_rfl) (by decide))
      have e0 : a.tmps.getD 0 undef = .slice A bs.length c := (Known.init (hk 0 (of_decide_eq_true (by kernel_rfl))) (by kernel_rfl))
      refine track_run (wanted_yes rfl rfl e45) ?_
      exact BigFrame.wp_move _ rfl (hK _ w2 (Chg.refl _ _) e0)
    · intro a w2 hc hd hk K hK
      have e45 : a.tmps.getD 45 undef = Value.bool true := (Known.of (j := 7) (hk 45 (of_decide_eq_true (by kernel_rfl))) (by kernel_rfl) (by decide))
      have e46 : a.tmps.getD 46 undef = .slice A bs.length c := (Known.of (j := 8) (hk 46 (of_decide_eq_true (by kernel_rfl))) (by kernel_rfl) (by decide))
      refine track_run (wanted_yes rfl rfl e45) ?_
      have kb := ((hB.kept (cw.trans hc) fun _ _ => id)).conv
      clear hd
      simp only [Array.getD_eq_getD_getElem?] at e46
      go_simp
      exact hK _ w2 (Chg.refl _ _) rfl
    · intro a w2 hc hd hk K hK
      have e45 : a.tmps.getD 45 undef = Value.bool true := (Known.of (j := 7) (hk 45 (of_decide_eq_true (by kernel_rfl))) (by kernel_rfl) (by decide))
      have e47 : a.tmps.getD 47 undef = .string ⟨bs.toArray⟩ := (Known.of (j := 9) (hk 47 (of_decide_eq_true (by kernel_rfl))) (by kernel_rfl) (by decide))
      refine track_run (wanted_yes rfl rfl e45) ?_
      refine wp_call _ Try.func17 rfl rfl rfl (map_one _ _) ?_
      rw [e47]
      refine (w_keyb _ (by first | exact hr | (rw [List.length_set]; exact hr))).mono ?_
      rintro e w3 ⟨rfl, c3⟩
      exact ⟨_, rfl, hK _ w3 c3 rfl⟩
    · intro a w2 hc hd hk K hK
      have e45 : a.tmps.getD 45 undef = Value.bool true := (Known.of (j := 7) (hk 45 (of_decide_eq_true (by kernel_rfl))) (by kernel_rfl) (by decide))
      have e7 : a.tmps.getD 7 undef = .slice (some ⟨g, 0, none⟩) bs.length cap := (Known.init (hk 7 (of_decide_eq_true (by kernel_rfl))) (by kernel_rfl))
      refine track_run (wanted_yes rfl rfl e45) ?_
      exact BigFrame.wp_move _ rfl (hK _ w2 (Chg.refl _ _) e7)
    · intro a w2 hc hd hk K hK
      have e45 : a.tmps.getD 45 undef = Value.bool true := (Known.of (j := 7) (hk 45 (of_decide_eq_true (by kernel_rfl))) (by kernel_rfl) (by decide))
      have e49 : a.tmps.getD 49 undef = .slice (some ⟨g, 0, none⟩) bs.length cap := (Known.of (j := 11) (hk 49 (of_decide_eq_true (by kernel_rfl))) (by kernel_rfl) (by decide))
      refine track_run (wanted_yes rfl rfl e45) ?_
      have kb := ((hC.bytes.kept (cw.trans hc) fun _ _ => id)).conv
      clear hd
      simp only [Array.getD_eq_getD_getElem?] at e49
      go_simp
      exact hK _ w2 (Chg.refl _ _) rfl
    · intro a w2 hc hd hk K hK
      have e45 : a.tmps.getD 45 undef = Value.bool true := (Known.of (j := 7) (hk 45 (of_decide_eq_true (by kernel_rfl))) (by kernel_rfl) (by decide))
      have e50 : a.tmps.getD 50 undef = .string ⟨(bs.set j y).toArray⟩ := (Known.of (j := 12) (hk 50 (of_decide_eq_true (by kernel_rfl))) (by kernel_rfl) (by decide))
      refine track_run (wanted_yes rfl rfl e45) ?_
      refine wp_call _ Try.func17 rfl rfl rfl (map_one _ _) ?_
      rw [e50]
      refine (w_keyb _ (by first | exact hr | (rw [List.length_set]; exact hr))).mono ?_
      rintro e w3 ⟨rfl, c3⟩
      exact ⟨_, rfl, hK _ w3 c3 rfl⟩
    · intro a w2 hc hd hk K hK
      have e45 : a.tmps.getD 45 undef = Value.bool true := (Known.of (j := 7) (hk 45 (of_decide_eq_true (by kernel_rfl))) (by kernel_rfl) (by decide))
      have e48 : a.tmps.getD 48 undef = vw (stir (sum bs)) := (Known.of (j := 10) (hk 48 (of_decide_eq_true (by kernel_rfl))) (by kernel_rfl) (by decide))
      have e51 : a.tmps.getD 51 undef = vw (stir (sum (bs.set j y))) := (Known.of (j := 13) (hk 51 (of_decide_eq_true (by kernel_rfl))) (by kernel_rfl) (by decide))
      refine track_run (wanted_yes rfl rfl e45) ?_
      clear hd
      simp only [Array.getD_eq_getD_getElem?] at e48 e51
      go_simp
      exact hK _ w2 (Chg.refl _ _) rfl
    · intro a w2 hc hd hk K hK
      have e45 : a.tmps.getD 45 undef = .bool true := (Known.of (j := 7) (hk 45 (of_decide_eq_true (by kernel_rfl))) (by kernel_rfl) (by decide))
      have e52 : a.tmps.getD 52 undef = .bool true := (Known.of (j := 14) (hk 52 (of_decide_eq_true (by kernel_rfl))) (by kernel_rfl) (by decide))
      refine track_run rfl ?_
      clear hd
      simp only [Array.getD_eq_getD_getElem?] at e45 e52
      go_simp
      exact hK _ w2 (Chg.refl _ _) rfl
    · intro a w2 hc hd hk K hK
      have e53 : a.tmps.getD 53 undef = .bool true := (Known.of (j := 15) (hk 53 (of_decide_eq_true (by kernel_rfl))) (by kernel_rfl) (by decide))
      refine track_run rfl ?_
      exact BigFrame.wp_move _ rfl (hK _ w2 (Chg.refl _ _) e53)
    · intro a w2 hc hd hk K hK
      have e54 : a.tmps.getD 54 undef = Value.bool true := (Known.of (j := 16) (hk 54 (of_decide_eq_true (by kernel_rfl))) (by kernel_rfl) (by decide))
      have e0 : a.tmps.getD 0 undef = .slice A bs.length c := (Known.init (hk 0 (of_decide_eq_true (by kernel_rfl))) (by kernel_rfl))
      refine track_run (wanted_yes rfl rfl e54) ?_
      exact BigFrame.wp_move _ rfl (hK _ w2 (Chg.refl _ _) e0)
    · intro a w2 hc hd hk K hK
      have e54 : a.tmps.getD 54 undef = Value.bool true := (Known.of (j := 16) (hk 54 (of_decide_eq_true (by kernel_rfl))) (by kernel_rfl) (by decide))
      have e55 : a.tmps.getD 55 undef = .slice A bs.length c := (Known.of (j := 17) (hk 55 (of_decide_eq_true (by kernel_rfl))) (by kernel_rfl) (by decide))
      refine track_run (wanted_yes rfl rfl e54) ?_
      clear hd
      simp only [Array.getD_eq_getD_getElem?] at e55
      go_simp
      exact hK _ _ ((Chg.refl _ _).alloc _) (rows_lit1 ((hB.kept (cw.trans hc) fun _ _ => id)).all)
    · intro a w2 hc hd hk K hK
      have e54 : a.tmps.getD 54 undef = Value.bool true := (Known.of (j := 16) (hk 54 (of_decide_eq_true (by kernel_rfl))) (by kernel_rfl) (by decide))
      have e56 : Rows all' w2 (a.tmps.getD 56 undef) [bs] := (Known.of (j := 18) (hk 56 (of_decide_eq_true (by kernel_rfl))) (by kernel_rfl) (by decide))
      refine track_run (wanted_yes rfl rfl e54) ?_
      refine wp_call _ Try.func16 rfl rfl rfl (map_one _ _) ?_
      refine (w_sum _ e56).mono ?_
      rintro e w3 ⟨rfl, rfl⟩
      exact ⟨_, rfl, hK _ w2 (Chg.refl _ _) (by simp [Vp.k])⟩
    · intro a w2 hc hd hk K hK
      have e54 : a.tmps.getD 54 undef = Value.bool true := (Known.of (j := 16) (hk 54 (of_decide_eq_true (by kernel_rfl))) (by kernel_rfl) (by decide))
      have e0 : a.tmps.getD 0 undef = .slice A bs.length c := (Known.init (hk 0 (of_decide_eq_true (by kernel_rfl))) (by kernel_rfl))
      refine track_run (wanted_yes rfl rfl e54) ?_
      exact BigFrame.wp_move _ rfl (hK _ w2 (Chg.refl _ _) e0)
    · intro a w2 hc hd hk K hK
      have e54 : a.tmps.getD 54 undef = Value.bool true := (Known.of (j := 16) (hk 54 (of_decide_eq_true (by kernel_rfl))) (by kernel_rfl) (by decide))
      have e8 : a.tmps.getD 8 undef = .int .i64 (j : Int) := (Known.init (hk 8 (of_decide_eq_true (by kernel_rfl))) (by kernel_rfl))
      refine track_run (wanted_yes rfl rfl e54) ?_
      exact BigFrame.wp_move _ rfl (hK _ w2 (Chg.refl _ _) e8)
    · intro a w2 hc hd hk K hK
      have e54 : a.tmps.getD 54 undef = Value.bool true := (Known.of (j := 16) (hk 54 (of_decide_eq_true (by kernel_rfl))) (by kernel_rfl) (by decide))
      have e58 : a.tmps.getD 58 undef = .slice A bs.length c := (Known.of (j := 20) (hk 58 (of_decide_eq_true (by kernel_rfl))) (by kernel_rfl) (by decide))
      have e59 : a.tmps.getD 59 undef = .int .i64 (j : Int) := (Known.of (j := 21) (hk 59 (of_decide_eq_true (by kernel_rfl))) (by kernel_rfl) (by decide))
      refine track_run (wanted_yes rfl rfl e54) ?_
      exact ((hB.kept (cw.trans hc) fun _ _ => id)).wp_hi rfl e58 e59 (Nat.le_of_lt hjl) fun v' h => hK _ w2 (Chg.refl _ _) h.all
    · intro a w2 hc hd hk K hK
      have e54 : a.tmps.getD 54 undef = Value.bool true := (Known.of (j := 16) (hk 54 (of_decide_eq_true (by kernel_rfl))) (by kernel_rfl) (by decide))
      have e0 : a.tmps.getD 0 undef = .slice A bs.length c := (Known.init (hk 0 (of_decide_eq_true (by kernel_rfl))) (by kernel_rfl))
      refine track_run (wanted_yes rfl rfl e54) ?_
      exact BigFrame.wp_move _ rfl (hK _ w2 (Chg.refl _ _) e0)
    · intro a w2 hc hd hk K hK
      have e54 : a.tmps.getD 54 undef = Value.bool true := (Known.of (j := 16) (hk 54 (of_decide_eq_true (by kernel_rfl))) (by kernel_rfl) (by decide))
      have e8 : a.tmps.getD 8 undef = .int .i64 (j : Int) := (Known.init (hk 8 (of_decide_eq_true (by kernel_rfl))) (by kernel_rfl))
      refine track_run (wanted_yes rfl rfl e54) ?_
      exact BigFrame.wp_move _ rfl (hK _ w2 (Chg.refl _ _) e8)
    · intro a w2 hc hd hk K hK
      have e54 : a.tmps.getD 54 undef = Value.bool true := (Known.of (j := 16) (hk 54 (of_decide_eq_true (by kernel_rfl))) (by kernel_rfl) (by decide))
      have e61 : a.tmps.getD 61 undef = .slice A bs.length c := (Known.of (j := 23) (hk 61 (of_decide_eq_true (by kernel_rfl))) (by kernel_rfl) (by decide))
      have e62 : a.tmps.getD 62 undef = .int .i64 (j : Int) := (Known.of (j := 24) (hk 62 (of_decide_eq_true (by kernel_rfl))) (by kernel_rfl) (by decide))
      refine track_run (wanted_yes rfl rfl e54) ?_
      exact ((hB.kept (cw.trans hc) fun _ _ => id)).wp_lo rfl e61 e62 (Nat.le_of_lt hjl) fun v' h => hK _ w2 (Chg.refl _ _) h.all
    · intro a w2 hc hd hk K hK
      have e54 : a.tmps.getD 54 undef = Value.bool true := (Known.of (j := 16) (hk 54 (of_decide_eq_true (by kernel_rfl))) (by kernel_rfl) (by decide))
      have e60 : Bytes all' w2 (a.tmps.getD 60 undef) (bs.take j) := (Known.of (j := 22) (hk 60 (of_decide_eq_true (by kernel_rfl))) (by kernel_rfl) (by decide))
      have e63 : Bytes all' w2 (a.tmps.getD 63 undef) (bs.drop j) := (Known.of (j := 25) (hk 63 (of_decide_eq_true (by kernel_rfl))) (by kernel_rfl) (by decide))
      refine track_run (wanted_yes rfl rfl e54) ?_
      obtain ⟨A1, l1, p1, q1⟩ := e60.shape3
      obtain ⟨A2, l2, p2, q2⟩ := e63.shape3
      rw [q1] at e60
      rw [q2] at e63
      rw [Array.getD_eq_getD_getElem?] at q1 q2
      clear hd
      go_simp
      exact hK _ _ ((Chg.refl _ _).alloc _) (rows_lit2 e60 e63)
    · intro a w2 hc hd hk K hK
      have e54 : a.tmps.getD 54 undef = Value.bool true := (Known.of (j := 16) (hk 54 (of_decide_eq_true (by kernel_rfl))) (by kernel_rfl) (by decide))
      have e64 : Rows all' w2 (a.tmps.getD 64 undef) [bs.take j, bs.drop j] := (Known.of (j := 26) (hk 64 (of_decide_eq_true (by kernel_rfl))) (by kernel_rfl) (by decide))
      refine track_run (wanted_yes rfl rfl e54) ?_
      refine wp_call _ Try.func16 rfl rfl rfl (map_one _ _) ?_
      refine (w_sum _ e64).mono ?_
      rintro e w3 ⟨rfl, rfl⟩
      exact ⟨_, rfl, hK _ w2 (Chg.refl _ _) (by simp [Vp.k])⟩
    · intro a w2 hc hd hk K hK
      have e54 : a.tmps.getD 54 undef = Value.bool true := (Known.of (j := 16) (hk 54 (of_decide_eq_true (by kernel_rfl))) (by kernel_rfl) (by decide))
      have e57 : a.tmps.getD 57 undef = vw (sum bs) := (Known.of (j := 19) (hk 57 (of_decide_eq_true (by kernel_rfl))) (by kernel_rfl) (by decide))
      have e65 : a.tmps.getD 65 undef = vw (sum bs) := (Known.of (j := 27) (hk 65 (of_decide_eq_true (by kernel_rfl))) (by kernel_rfl) (by decide))
      refine track_run (wanted_yes rfl rfl e54) ?_
      clear hd
      simp only [Array.getD_eq_getD_getElem?] at e57 e65
      go_simp
      exact hK _ w2 (Chg.refl _ _) rfl
    · intro a w2 hc hd hk K hK
      have e54 : a.tmps.getD 54 undef = .bool true := (Known.of (j := 16) (hk 54 (of_decide_eq_true (by kernel_rfl))) (by kernel_rfl) (by decide))
      have e66 : a.tmps.getD 66 undef = .bool true := (Known.of (j := 28) (hk 66 (of_decide_eq_true (by kernel_rfl))) (by kernel_rfl) (by decide))
      refine track_run rfl ?_
      clear hd
      simp only [Array.getD_eq_getD_getElem?] at e54 e66
      go_simp
      exact hK _ w2 (Chg.refl _ _) rfl
    · intro a w2 hc hd hk K hK
      have e67 : a.tmps.getD 67 undef = .bool true := (Known.of (j := 29) (hk 67 (of_decide_eq_true (by kernel_rfl))) (by kernel_rfl) (by decide))
      refine track_run rfl ?_
      exact BigFrame.wp_move _ rfl (hK _ w2 (Chg.refl _ _) e67)
    · intro a w2 hc hd hk K hK
      have e68 : a.tmps.getD 68 undef = Value.bool true := (Known.of (j := 30) (hk 68 (of_decide_eq_true (by kernel_rfl))) (by kernel_rfl) (by decide))
      refine track_run (wanted_yes rfl rfl e68) ?_
      refine wp_call _ Try.func14 rfl rfl rfl (map_none _) ?_
      refine (w_known04 _).mono ?_
      rintro e w3 ⟨rfl, c3⟩
      exact ⟨_, rfl, hK _ w3 c3 rfl⟩
    · intro a w2 hc hd hk K hK
      have e68 : a.tmps.getD 68 undef = .bool true := (Known.of (j := 30) (hk 68 (of_decide_eq_true (by kernel_rfl))) (by kernel_rfl) (by decide))
      have e69 : a.tmps.getD 69 undef = .bool true := (Known.of (j := 31) (hk 69 (of_decide_eq_true (by kernel_rfl))) (by kernel_rfl) (by decide))
      refine track_run rfl ?_
      clear hd
      simp only [Array.getD_eq_getD_getElem?] at e68 e69
      go_simp
      exact hK _ w2 (Chg.refl _ _) rfl
    · intro a w2 hc hd hk K hK
      have e70 : a.tmps.getD 70 undef = .bool true := (Known.of (j := 32) (hk 70 (of_decide_eq_true (by kernel_rfl))) (by kernel_rfl) (by decide))
      refine track_run rfl ?_
      exact BigFrame.wp_assign _ rfl (hK _ w2 (Chg.refl _ _) e70)
  · intro a w3 hc hd hs hk
    have e6 : a.tmps.getD 6 undef = .bool true := Known.of (j := 33) (hk 6) (by kernel_rfl) (by decide)
    go_wp2
    refine bodyPost_ret (results_tmp rfl _ _ _) hd ?_
    rw [e6]
    exact ⟨rfl, cW.trans (cw.trans hc)⟩

end Go.Proofs.Ytojmldhbdfboiaa
