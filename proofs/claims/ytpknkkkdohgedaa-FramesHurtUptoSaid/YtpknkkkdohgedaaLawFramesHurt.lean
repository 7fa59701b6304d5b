/-
  The walk of FramesHurt.
-/
import Derived.Test.YtpknkkkdohgedaaLawFramesBack
import Derived.Deep.Cut
namespace Go.Proofs.Ytpknkkkdohgedaa
open Go.RowKit

/-- What lies ahead of a byte that is another one is found as it was. -/
theorem scan_hurt {rs : List Rec} (hok : okAll rs) {k p : Nat} (hk : k ≤ rs.length) (hp : long (rs.take k) ≤ p) (y : UInt8) :
    k ≤ (scan ((frames rs).set p y)).1.length ∧ (scan ((frames rs).set p y)).1.take k = rs.take k := by
  have e : (frames rs).set p y = frames (rs.take k) ++ (frames (rs.drop k)).set (p - long (rs.take k)) y := by
    conv => lhs; rw [← List.take_append_drop k rs]
    rw [frames_append, List.set_append_right (h := by rw [frames_len]; exact hp), frames_len]
  have hl : (rs.take k).length = k := by rw [List.length_take]; omega
  rw [e, scan_frames _ _ (fun r hr => hok r (List.mem_of_mem_take hr))]
  simp only
  constructor
  · rw [List.length_append]; omega
  · rw [List.take_left' hl]

theorem Recs.wp_hi {F : Nat → Prop} {w : World} {v : Value} {rs : List Rec} {o : Oper} {a : Act} {K : Act → World → Prop} {Q : Exit → Act → World → Prop} (h : Recs F w v rs) {x y : Operand} {j : Nat} (ho : o.op = .slice 24 x none (some y) none) (hx : a.eval x = v) (hy : a.eval y = .int .i64 j) (hj : j ≤ rs.length)
    (hK : ∀ v', Recs F w v' (rs.take j) → K (a.put o.dst v') w) : o.wp Try.prog a w K Q := by
  obtain ⟨v', hr, hb⟩ := Row.slice_hi Try.underlying24 (run_size_of info_rec) h hj
  exact wp_val (by unfold execOp; simp [ho, hx, hy, run_sliceAt_slice w _ _ _ _ _ (und_elem Try.underlying24), hr, Result.andThen]) (hK v' hb)

set_option maxRecDepth 100000 in
set_option maxHeartbeats 4000000 in
theorem walk_FramesHurt (w : World) {u : Value} {rs : List Rec} (h : Recs (old' w) w u rs) (hr : rs.length * 32 ≤ 140737488351232 ∧ ∀ r ∈ rs, r.b.length ≤ 140737488351232) (hb : (rs.map fun r => r.b.length + 3).sum + 1 ≤ 1048576)
    (a : Int) (ha : (Lit.int .u8 a).wf = true) (b : Int) (hb' : (Lit.int .u16 b).wf = true) (x : Int) (hx : (Lit.int .u8 x).wf = true) :
    Calls Try.prog 8 #[u, .int .u8 a, .int .u16 b, .int .u8 x] w fun e w' => e = .returned (.bool true) ∧ Chg none' w w' := by
  obtain ⟨a0, a1⟩ : 0 ≤ a ∧ a < 256 := by
    obtain ⟨q, rfl⟩ := int_u8 ha
    have := q.toNat_lt
    omega
  obtain ⟨b0, b1⟩ := int_u16 hb'
  obtain ⟨x, rfl⟩ := int_u8 hx
  clear ha hb' hx
  have l1 := long_bulk rs
  have L1 := w_long w h (by omega)
  by_cases hL : 1500 < long rs
  · clear hr
    have b1 : long rs ≤ 10000000 := by omega
    clear hb l1
    generalize long rs = m at *
    go_enter Try.func8, Try.ntmps8
    go_wp2_with fail
    refine L1.mono ?_
    rintro e w1 ⟨rfl, rfl⟩
    go_wp2_with fail
    refine (w_known05 _).mono ?_
    rintro e w2 ⟨rfl, c2⟩
    go_wp2
    go_ret
    exact ⟨rfl, c2⟩
  obtain ⟨A, c, rfl, _, hm⟩ := h.shape
  unfold maxLen at hm
  by_cases hl0 : rs.length = 0
  · have hz : ((rs.length : Int) == 0) = true := by rw [beq_iff_eq]; omega
    clear hr hb l1 hl0
    generalize long rs = m at *
    go_enter Try.func8, Try.ntmps8
    go_wp2_with fail
    refine L1.mono ?_
    rintro e w1 ⟨rfl, rfl⟩
    go_wp2_with fail
    refine (w_known05 _).mono ?_
    rintro e w2 ⟨rfl, c2⟩
    go_wp2
    go_ret
    exact ⟨rfl, c2⟩
  have hz0 : ((rs.length : Int) == 0) = false := by rw [beq_eq_false_iff_ne]; omega
  by_cases hx0 : x = 0
  · have hz2 : ((x.toNat : Int) == 0) = true := by rw [beq_iff_eq, hx0]; rfl
    clear hx0
    clear hr hb l1 hl0
    generalize long rs = m at *
    go_enter Try.func8, Try.ntmps8
    go_wp2_with fail
    refine L1.mono ?_
    rintro e w1 ⟨rfl, rfl⟩
    go_wp2_with fail
    refine (w_known05 _).mono ?_
    rintro e w2 ⟨rfl, c2⟩
    go_wp2
    go_ret
    exact ⟨rfl, c2⟩
  have hz1 : ((x.toNat : Int) == 0) = false := ne_byte (b := 0) hx0
  have hok := ok_long (rs := rs) (by omega)
  have hrl := len_long rs
  have fl := frames_len rs
  have A1 := fun W (x : Recs (old' W) W (.slice A rs.length c) rs) => w_all W x hok (by omega)
  have L2 := fun W (x : Recs (old' W) W (.slice A rs.length c) rs) => w_long W x (by omega)
  obtain ⟨k, hk⟩ : ∃ k : Nat, a % (rs.length : Int) = k := ⟨(a % (rs.length : Int)).toNat, by have := Int.emod_nonneg a (b := (rs.length : Int)) (by omega); omega⟩
  have hkl : k < rs.length := by have := Int.emod_lt_of_pos a (b := (rs.length : Int)) (by omega); omega
  have L3 := fun W z (x : Recs (old' W) W z (rs.take k)) => w_long W x (by have := long_le rs k; omega)
  have E := Lib.hid (long_take hkl)
  have le1 := long_le rs (k + 1)
  rw [E.out] at le1
  have SH := fun p (hp : long (rs.take k) ≤ p) y => scan_hurt hok (Nat.le_of_lt hkl) hp y
  have S2 := fun W x y (hx : Recs all' W x (rs.take k)) (hy : Recs all' W y (rs.take k)) => w_rsame W hx hy
  rw [decide_eq_true rfl] at S2
  obtain ⟨b2, g2, c2', u2, e2, _, ck2, cu2, hu2⟩ := h.at_ hkl
  simp only [Value.slice.injEq] at e2
  obtain ⟨rfl, _, rfl⟩ := e2
  obtain ⟨Au, cu, rfl⟩ := hu2.shape
  obtain ⟨n, hn⟩ : ∃ n : Nat, b % ((rs[k].b.length : Int) + 1) = n := ⟨(b % ((rs[k].b.length : Int) + 1)).toNat, by have := Int.emod_nonneg b (b := (rs[k].b.length : Int) + 1) (by omega); omega⟩
  have hnl : n ≤ rs[k].b.length := by have := Int.emod_lt_of_pos b (b := (rs[k].b.length : Int) + 1) (by omega); omega
  have flb : fl = fl := rfl
  clear flb hr hb l1 hok
  generalize long (rs.take k) = fm at *
  generalize long rs = m at *
  generalize frames rs = fr at *
  have fb : (((fr.length : Nat) : Int) == (m : Int)) = true := by rw [beq_iff_eq]; omega
  have fb' : (((fr.length : Nat) : Int) != (m : Int)) = false := by rw [bne, fb]; rfl
  have FL := Lib.hid fl
  clear fl
  go_enter Try.func8, Try.ntmps8
  go_wp2_with fail
  refine L1.mono ?_
  rintro e w1 ⟨rfl, rfl⟩
  go_wp2_with fail
  go_at_call 18
  refine (A1 _ h.old).mono ?_
  rintro e w1 ⟨x1, rfl, o1, c1⟩
  have h1 := h.kept c1 fun _ _ => id
  replace cu2 := c1.cell cu2 id
  clear ck2
  obtain ⟨B, cb, rfl⟩ := o1.shape
  go_wp2_with fail
  go_at_call 17
  refine (L2 _ h1.old).mono ?_
  rintro e w2 ⟨rfl, rfl⟩
  go_upto_region 7 with (fail)
  rw [hk]
  have HK := Lib.hid hk
  clear hk
  go_wp2_with fail
  go_at_call 17
  refine (L3 _ _ (Row.hi' h1.old (Nat.le_of_lt hkl))).mono ?_
  rintro e w2 ⟨rfl, rfl⟩
  go_upto_region 10 with (fail)
  rw [hn]
  have HN := Lib.hid hn
  clear hn
  clear A1 L1 L2 L3
  obtain ⟨p, hp, hpf⟩ : ∃ p : Nat, (if 0 < n then (fm : Int) + 5 + n else (fm : Int) + 1) = p ∧ fm ≤ p ∧ p < fr.length := by
    have := FL.out
    by_cases h0 : 0 < n
    · exact ⟨fm + 5 + n, by rw [if_pos h0]; omega, by omega⟩
    · exact ⟨fm + 1, by rw [if_neg h0]; omega, by omega⟩
  obtain ⟨hpf, hpl⟩ := hpf
  have hpl' : (p : Int) < fr.length := by omega
  obtain ⟨y, hy⟩ : ∃ y, y = fr[p] ^^^ x := ⟨_, rfl⟩
  have hxor : bits .xor .u8 (fr[p].toNat : Int) (x.toNat : Int) = (y.toNat : Int) := by rw [hy]; exact bits_xor8 fr[p] x
  obtain ⟨s1, s2⟩ := SH p hpf y
  have SC := fun W z (x : Bytes (old' W) W z (fr.set p y)) => w_scan W x (by have := FL.out; rw [List.length_set]; omega)
  have RC := fun W z (x : Bytes (old' W) W z (fr.set p y)) => w_rscan _ W (Nat.le_refl _) x (by have := FL.out; rw [List.length_set]; omega)
  clear SH
  generalize scan (fr.set p y) = sc at *
  obtain ⟨q, q1, q2⟩ := sc
  simp only at s1 s2 SC RC
  have HS := Lib.hid s2
  clear s2
  have S1 := fun W x y (hx : Recs all' W x q) (hy : Recs all' W y q) => w_rsame W hx hy
  rw [decide_eq_true rfl] at S1
  by_cases h0 : 0 < n
  all_goals
    first
    | rw [if_pos h0] at hp
    | rw [if_neg h0] at hp
    have HP := Lib.hid hp
    clear hp hy
    go_wp2_with fail
    rw [HP.out]
    go_at_call 23
    refine (w_copy _ o1.bytes (by have := FL.out; omega)).mono ?_
    rintro e w3 ⟨x3, rfl, o3, c3⟩
    obtain ⟨g, cap, cur, rfl, hg0, hg1, hh, hl, hm, hs, hc⟩ := o3.form (by omega)
    have cj : w3.cell? ⟨g, p, none⟩ = some (vb fr[p]) := by rw [cell_of_row _ _ _ _ _ _ hh]; exact hc p _ (by simp [hpl])
    have fj : w3.frozen? ⟨g, p, none⟩ = false := by simp [World.frozen?, hh]
    obtain ⟨W, hW⟩ : ∃ W, W = w3.setCell ⟨g, p, none⟩ (vb y) := ⟨_, rfl⟩
    have hC : OwnB w1.heap.size W (.slice (some ⟨g, 0, none⟩) fr.length cap) (fr.set p y) := by rw [hW]; exact o3.set p hpl _
    have cW : Chg none' w W := by rw [hW]; exact (c1.trans c3).setCell (.inl (Nat.le_trans c1.size hg0)) _
    have HW := Lib.hid hW.symm; clear hW
    clear hh hl hm hs hc
    go_upto_region 14 with (fail)
    rw [HW.out]
    clear cj fj hxor HW o3 cu2 hg0 hg1
    go_wp2_with fail
    go_at_call 11
    refine (SC _ _ hC.bytes.old).mono ?_
    rintro e w5 ⟨x5, rfl, o5, c5⟩
    go_wp2_with fail
    go_at_call 12
    refine (RC _ _ (hC.keep c5 fun _ => none_own).bytes.old).mono ?_
    rintro e w6 ⟨x6, rfl, o6, c6⟩
    have hq := o5.recs.kept c6 fun _ _ => id
    obtain ⟨Aq, cq, rfl, hqc, hqm⟩ := hq.shape
    go_wp2_with fail
    go_at_call 15
    refine (S1 _ _ _ hq o6.recs).mono ?_
    rintro e w7 ⟨rfl, c7⟩
    replace hq := hq.kept c7 fun _ _ => id
    have d7 := ((cW.trans c5).trans c6).trans c7
    have hl := h.kept d7 fun _ _ => id
    go_wp2
    clear S1 SC RC
    have cw : Chg none' w7 w7.drew := (Chg.refl _ _).drew
    -- BEGIN one
    refine wp_region_track2 [Vp.k (.slice Aq q.length cq),
      Vp.k (.int .i64 (k : Int)),
      ⟨fun w v => Recs all' w v (rs.take k), fun _ _ _ hc h => h.kept hc fun _ _ => id⟩,
      Vp.k (.slice (some ⟨b2, g2, none⟩) rs.length c),
      Vp.k (.int .i64 (k : Int)),
      ⟨fun w v => Recs all' w v (rs.take k), fun _ _ _ hc h => h.kept hc fun _ _ => id⟩,
      Vp.k (.bool true),
      Vp.k (.bool true),
      Vp.k (.bool true),
      Vp.k (.bool true),
      Vp.k (.bool true)] (by kernel_rfl) (by kernel_rfl) (by kernel_rfl) ?_ ?_
    · refine ⟨?_, ?_, ?_, ?_, ?_, ?_, ?_, ?_, ?_, ?_, ?_, trivial⟩
      · intro a w2 hc hd hk K hK
        have e16 : a.tmps.getD 16 undef = .slice Aq q.length cq := (Known.init (hk 16 (of_decide_eq_true (by kernel_rfl))) (by kernel_rfl))
        refine track_run rfl ?_
        exact BigFrame.wp_move _ rfl (hK _ w2 (Chg.refl _ _) e16)
      · intro a w2 hc hd hk K hK
        have e11 : a.tmps.getD 11 undef = .int .i64 (k : Int) := (Known.init (hk 11 (of_decide_eq_true (by kernel_rfl))) (by kernel_rfl))
        refine track_run rfl ?_
        exact BigFrame.wp_move _ rfl (hK _ w2 (Chg.refl _ _) e11)
      · intro a w2 hc hd hk K hK
        have e119 : a.tmps.getD 119 undef = .slice Aq q.length cq := (Known.of (j := 0) (hk 119 (of_decide_eq_true (by kernel_rfl))) (by kernel_rfl) (by decide))
        have e120 : a.tmps.getD 120 undef = .int .i64 (k : Int) := (Known.of (j := 1) (hk 120 (of_decide_eq_true (by kernel_rfl))) (by kernel_rfl) (by decide))
        refine track_run rfl ?_
        exact Recs.wp_hi (hq.kept (cw.trans hc) fun _ _ => id) (x := .tmp 119) (y := .tmp 120) rfl e119 e120 s1 fun v' h => hK _ w2 (Chg.refl _ _) (by rw [HS.out] at h; exact h)
      · intro a w2 hc hd hk K hK
        have e0 : a.tmps.getD 0 undef = .slice (some ⟨b2, g2, none⟩) rs.length c := (Known.init (hk 0 (of_decide_eq_true (by kernel_rfl))) (by kernel_rfl))
        refine track_run rfl ?_
        exact BigFrame.wp_move _ rfl (hK _ w2 (Chg.refl _ _) e0)
      · intro a w2 hc hd hk K hK
        have e11 : a.tmps.getD 11 undef = .int .i64 (k : Int) := (Known.init (hk 11 (of_decide_eq_true (by kernel_rfl))) (by kernel_rfl))
        refine track_run rfl ?_
        exact BigFrame.wp_move _ rfl (hK _ w2 (Chg.refl _ _) e11)
      · intro a w2 hc hd hk K hK
        have e122 : a.tmps.getD 122 undef = .slice (some ⟨b2, g2, none⟩) rs.length c := (Known.of (j := 3) (hk 122 (of_decide_eq_true (by kernel_rfl))) (by kernel_rfl) (by decide))
        have e123 : a.tmps.getD 123 undef = .int .i64 (k : Int) := (Known.of (j := 4) (hk 123 (of_decide_eq_true (by kernel_rfl))) (by kernel_rfl) (by decide))
        refine track_run rfl ?_
        exact Recs.wp_hi (hl.kept (cw.trans hc) fun _ _ => id) (x := .tmp 122) (y := .tmp 123) rfl e122 e123 (Nat.le_of_lt hkl) fun v' h => hK _ w2 (Chg.refl _ _) h.all
      · intro a w2 hc hd hk K hK
        have e121 : Recs all' w2 (a.tmps.getD 121 undef) (rs.take k) := (Known.of (j := 2) (hk 121 (of_decide_eq_true (by kernel_rfl))) (by kernel_rfl) (by decide))
        have e124 : Recs all' w2 (a.tmps.getD 124 undef) (rs.take k) := (Known.of (j := 5) (hk 124 (of_decide_eq_true (by kernel_rfl))) (by kernel_rfl) (by decide))
        refine track_run rfl ?_
        refine wp_call _ Try.func15 rfl rfl rfl (map_two _ _ _) ?_
        refine (S2 _ _ _ e121 e124).mono ?_
        rintro e w3 ⟨rfl, c3⟩
        exact ⟨_, rfl, hK _ w3 c3 rfl⟩
      · intro a w2 hc hd hk K hK
        have e125 : a.tmps.getD 125 undef = .bool true := (Known.of (j := 6) (hk 125 (of_decide_eq_true (by kernel_rfl))) (by kernel_rfl) (by decide))
        refine track_run rfl ?_
        exact BigFrame.wp_move _ rfl (hK _ w2 (Chg.refl _ _) e125)
      · intro a w2 hc hd hk K hK
        have e126 : a.tmps.getD 126 undef = .bool true := (Known.of (j := 7) (hk 126 (of_decide_eq_true (by kernel_rfl))) (by kernel_rfl) (by decide))
        refine track_run (wanted_yes rfl rfl e126) ?_
        refine wp_call _ Try.func10 rfl rfl rfl (map_none _) ?_
        refine (w_known05 _).mono ?_
        rintro e w3 ⟨rfl, c3⟩
        exact ⟨_, rfl, hK _ w3 c3 rfl⟩
      · intro a w2 hc hd hk K hK
        have e126 : a.tmps.getD 126 undef = .bool true := (Known.of (j := 7) (hk 126 (of_decide_eq_true (by kernel_rfl))) (by kernel_rfl) (by decide))
        have e127 : a.tmps.getD 127 undef = .bool true := (Known.of (j := 8) (hk 127 (of_decide_eq_true (by kernel_rfl))) (by kernel_rfl) (by decide))
        refine track_run rfl ?_
        clear hd
        simp only [Array.getD_eq_getD_getElem?] at e126 e127
        go_simp
        exact hK _ w2 (Chg.refl _ _) rfl
      · intro a w2 hc hd hk K hK
        have e128 : a.tmps.getD 128 undef = .bool true := (Known.of (j := 9) (hk 128 (of_decide_eq_true (by kernel_rfl))) (by kernel_rfl) (by decide))
        refine track_run rfl ?_
        exact BigFrame.wp_assign _ rfl (hK _ w2 (Chg.refl _ _) e128)
    -- END one
    · intro f w8 hc hk'
      have e8 : f 8 = .bool true := Known.of (j := 10) (hk' 8) (by kernel_rfl) (by decide)
      simp only [filled, List.foldl_cons, List.foldl_nil]
      rw [e8]
      simp only [Act.put, List.setIfInBounds_toArray, List.set_cons_succ, List.set_cons_zero]
      go_wp2
      go_ret
      exact ⟨rfl, d7.trans (cw.trans hc)⟩

end Go.Proofs.Ytpknkkkdohgedaa
