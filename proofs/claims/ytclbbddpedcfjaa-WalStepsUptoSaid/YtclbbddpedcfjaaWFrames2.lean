/-
  Walks: the first frame of bytes.
-/
import Derived.Test.YtclbbddpedcfjaaWFrames
namespace Go.Proofs.Ytclbbddpedcfjaa
open Go.RowKit

theorem first_of {bs : List UInt8} (h : 0 < bs.length) : bs.getD 0 0 = bs[0] := by rw [List.getD_eq_getElem?_getD, List.getElem?_eq_getElem h]; rfl
theorem Bytes.lo_ {F : Nat → Prop} {w : World} {b o c : Nat} {bs : List UInt8} (h : Bytes F w (.slice (some ⟨b, o, none⟩) bs.length c) bs) {j : Nat} (hj : j ≤ bs.length) (hc : ¬ c = j) : Bytes F w (.slice (some ⟨b, o + j, none⟩) (bs.length - j) (c - j)) (bs.drop j) := by
  have := Row.sub h hj (Nat.le_refl _)
  simp only [sliced, if_neg hc, Addr.add_lit, List.take_length, Nat.mul_one, Option.map_some] at this
  exact this
theorem Bytes.hi_ {F : Nat → Prop} {w : World} {b o c : Nat} {bs : List UInt8} (h : Bytes F w (.slice (some ⟨b, o, none⟩) bs.length c) bs) {j : Nat} (hj : j ≤ bs.length) : Bytes F w (.slice (some ⟨b, o, none⟩) j c) (bs.take j) := by
  have := Row.sub h (Nat.zero_le j) hj
  have hc : ¬ c = 0 ∨ c = 0 := by omega
  unfold sliced at this
  simp only [Nat.sub_zero, List.drop_zero, Nat.zero_mul] at this
  by_cases hc : c = 0
  · rw [if_pos hc] at this
    unfold Bytes; simpa using this
  · rw [if_neg hc] at this
    unfold Bytes; simpa [Addr.add_lit] using this
theorem ne_byte {a b : UInt8} (h : a ≠ b) : ((a.toNat : Int) == (b.toNat : Int)) = false := by
  rw [beq_eq_false_iff_ne]
  intro e
  exact h (UInt8.toNat_inj.1 (by exact_mod_cast e))

/-- What is told of the first frame. -/
def NextOut (bs : List UInt8) (base : Nat) (e : Ending) (w' : World) : Prop :=
  (nextErr bs = 0 ∧ ∃ u, e = .returned (.tuple #[vb (nextRec bs).kind, u, .int .i64 (nextLen bs + 10 : Nat), .int .i64 0]) ∧ OwnB base w' u (nextRec bs).b) ∨
  (nextErr bs ≠ 0 ∧ e = .returned (.tuple #[.int .u8 0, .slice none 0 0, .int .i64 0, .int .i64 (nextErr bs)]))

set_option maxRecDepth 100000 in
set_option maxHeartbeats 1000000 in
theorem w_next {v : Value} {bs : List UInt8} (w : World) (h : Bytes (old' w) w v bs) (hl : bs.length ≤ 140737488355328) :
    Calls Try.prog 53 #[v] w fun e w' => NextOut bs w.heap.size e w' ∧ Chg none' w w' := by
  obtain ⟨A, c, rfl⟩ := h.shape
  by_cases h0 : bs.length = 0
  · have e0 : nextErr bs = 4 := by unfold nextErr; rw [if_pos h0]
    go_enter Try.func53, Try.ntmps53
    go_wp2
    ((try simp only [Exit.inBlock, Exit.then]); refine bodyPost_ret (results_tmp4 rfl _ _ _) rfl ?_)
    exact ⟨.inr ⟨by rw [e0]; decide, by rw [e0]; rfl⟩, Chg.refl _ _⟩
  obtain ⟨b, o, c', e1, hF, c0⟩ := h.at_ (i := 0) (by omega)
  simp only [Value.slice.injEq] at e1
  obtain ⟨rfl, _, rfl⟩ := e1
  rw [Nat.add_zero] at c0
  by_cases h1 : bs.getD 0 0 ≠ 165
  · have e0 : nextErr bs = 11 := by unfold nextErr; rw [if_neg h0, if_pos h1]
    rw [first_of (by omega)] at h1
    have n1 := ne_byte h1
    have n2 : ((bs[0].toNat : Int) == 165) = false := n1
    go_enter Try.func53, Try.ntmps53
    go_wp2
    ((try simp only [Exit.inBlock, Exit.then]); refine bodyPost_ret (results_tmp4 rfl _ _ _) rfl ?_)
    exact ⟨.inr ⟨by rw [e0]; decide, by rw [e0]; rfl⟩, Chg.refl _ _⟩
  have h1' : bs.getD 0 0 = 165 := by simpa using h1
  rw [first_of (by omega)] at h1'
  rw [h1'] at c0
  by_cases h2 : bs.length < 6
  · have e0 : nextErr bs = 12 := by unfold nextErr; rw [if_neg h0, if_neg h1, if_pos h2]
    go_enter Try.func53, Try.ntmps53
    go_wp2
    ((try simp only [Exit.inBlock, Exit.then]); refine bodyPost_ret (results_tmp4 rfl _ _ _) rfl ?_)
    exact ⟨.inr ⟨by rw [e0]; decide, by rw [e0]; rfl⟩, Chg.refl _ _⟩
  have h6 : 6 ≤ bs.length := by omega
  have hcl : bs.length ≤ c := by obtain ⟨A, c', e, q, _⟩ := h; simp only [Value.slice.injEq] at e; omega
  have hc2 : ¬ c = 2 := by omega
  have bt := h.lo_ (j := 2) (by omega) hc2
  obtain ⟨n, hn⟩ : ∃ n, nextLen bs = n := ⟨_, rfl⟩
  have hn' : get4 (bs.drop 2) = n := hn
  have h5 : n < 4294967296 := by rw [← hn]; exact get4_lt _
  have wg := w_get w bt (by rw [List.length_drop]; omega)
  rw [hn'] at wg
  by_cases h3 : 65536 < n
  · have e0 : nextErr bs = 11 := by unfold nextErr; rw [if_neg h0, if_neg h1, if_neg h2, hn, if_pos h3]
    have H3 : (65536 : Int) < (n : Int) := by omega
    go_enter Try.func53, Try.ntmps53
    go_wp2_with fail
    refine wg.mono ?_
    rintro e w1 ⟨rfl, c1⟩
    go_wp2
    ((try simp only [Exit.inBlock, Exit.then]); refine bodyPost_ret (results_tmp4 rfl _ _ _) rfl ?_)
    exact ⟨.inr ⟨by rw [e0]; decide, by rw [e0]; rfl⟩, c1⟩
  have H3 : ¬ (65536 : Int) < (n : Int) := by omega
  by_cases h4 : bs.length < n + 10
  · have e0 : nextErr bs = 12 := by unfold nextErr; rw [if_neg h0, if_neg h1, if_neg h2, hn, if_neg h3, if_pos h4]
    have H4 : (bs.length : Int) < 6 + (n : Int) + 4 := by omega
    go_enter Try.func53, Try.ntmps53
    go_wp2_with fail
    refine wg.mono ?_
    rintro e w1 ⟨rfl, c1⟩
    go_wp2
    ((try simp only [Exit.inBlock, Exit.then]); refine bodyPost_ret (results_tmp4 rfl _ _ _) rfl ?_)
    exact ⟨.inr ⟨by rw [e0]; decide, by rw [e0]; rfl⟩, c1⟩
  have H4 : ¬ (bs.length : Int) < 6 + (n : Int) + 4 := by omega
  have hM : ([] : List UInt8).length + ((bs.take (n + 6)).drop 6).length ≤ 140737488355328 := by rw [List.length_drop, List.length_take, List.length_nil]; omega
  obtain ⟨p, hp⟩ : ∃ p, crc (bs.take (n + 6)) = p := ⟨_, rfl⟩
  obtain ⟨q, hq⟩ : ∃ q, get4 (bs.drop (n + 6)) = q := ⟨_, rfl⟩
  obtain ⟨kk, hkk⟩ : ∃ k, (nextRec bs).kind = k := ⟨_, rfl⟩
  obtain ⟨mm, hmm⟩ : ∃ m, (nextRec bs).b = m := ⟨_, rfl⟩
  have hmm' : (bs.take (n + 6)).drop 6 = mm := by rw [← hmm, ← hn]; rfl
  rw [hmm'] at hM
  have ck : w.cell? ⟨b, o + 1, none⟩ = some (vb kk) := by
    obtain ⟨b1, o1, k1, e1, _, q1⟩ := h.at_ (i := 1) (by omega)
    simp only [Value.slice.injEq, Option.some.injEq, Addr.mk.injEq] at e1
    obtain ⟨⟨rfl, rfl, _⟩, _, _⟩ := e1
    rw [q1, ← hkk]
    unfold nextRec
    rw [List.getD_eq_getElem?_getD, List.getElem?_eq_getElem (by omega)]
    rfl
  obtain ⟨X, hX⟩ : ∃ X : Bool, X = !decide (p = q) := ⟨_, rfl⟩
  have x1 : ((p : Int) == (q : Int)) = !X := by
    rw [hX, Bool.not_not]
    by_cases hh : p = q
    · rw [decide_eq_true hh, hh, beq_self_eq_true]
    · rw [decide_eq_false hh, beq_eq_false_iff_ne]; omega
  have x2 : ((p : Int) != (q : Int)) = X := by rw [bne, x1, Bool.not_not]
  have Hx := Lib.hid hX
  have Hp := Lib.hid hp
  have Hq := Lib.hid hq
  have Hm := Lib.hid hmm'
  have Hfin : (p = q → nextErr bs = 0) ∧ (p ≠ q → nextErr bs = 20) := by
    unfold nextErr
    rw [if_neg h0, if_neg h1, if_neg h2, hn, if_neg h3, if_neg h4, hp, hq]
    exact ⟨fun e => if_neg (by simpa using e), fun e => if_pos e⟩
  replace Hfin := Lib.hid Hfin
  have l1 : (1 : Int) < bs.length := by omega
  have hE : IntKind.i64.wrap ((n : Int) + 6 + 4) = ((n + 10 : Nat) : Int) := by simp [IntKind.wrap, IntKind.bits, IntKind.signed] <;> omega
  have l6 : n + 6 ≤ bs.length := by omega
  have l7 : 4 ≤ (bs.drop (n + 6)).length := by rw [List.length_drop]; omega
  unfold NextOut
  rw [hn, hkk, hmm]
  clear hX hp hq hmm' hmm hkk hn hn' h1 h1'
  go_enter Try.func53, Try.ntmps53
  go_wp2_with fail
  refine wg.mono ?_
  rintro e w1 ⟨rfl, c1⟩
  go_wp2
  have hj : 6 + (n : Int) = ((n + 6 : Nat) : Int) := by omega
  first | rw [hj] | rw [show (n : Int) + 6 = ((n + 6 : Nat) : Int) by omega]
  clear hj
  have cw : Chg none' w w1.drew := c1.drew
  -- BEGIN one
  refine wp_region_track [Vp.k (.slice (some ⟨b, o, none⟩) bs.length c),
    Vp.k (.int .i64 ((n + 6 : Nat) : Int)),
    ⟨fun w v => Bytes all' w v (bs.take (n + 6)), fun _ _ _ hc h => h.kept hc fun _ _ => id⟩,
    ⟨fun w v => Rows all' w v [bs.take (n + 6)], fun _ _ _ hc h => h.kept hc fun _ _ => id⟩,
    Vp.k (.int .u32 (p : Int)),
    Vp.k (.slice (some ⟨b, o, none⟩) bs.length c),
    Vp.k (.int .i64 ((n + 6 : Nat) : Int)),
    ⟨fun w v => Bytes all' w v (bs.drop (n + 6)), fun _ _ _ hc h => h.kept hc fun _ _ => id⟩,
    Vp.k (.int .u32 (q : Int)),
    Vp.k (.bool X),
    Vp.k (.bool X)] (by kernel_rfl) (by kernel_rfl) (by kernel_rfl) ?_ ?_
  · refine ⟨?_, ?_, ?_, ?_, ?_, ?_, ?_, ?_, ?_, ?_, ?_, trivial⟩
    · intro a w2 hc hd hk K hK
      have e0 : a.tmps.getD 0 undef = .slice (some ⟨b, o, none⟩) bs.length c := (Known.init (hk 0 (of_decide_eq_true (by kernel_rfl))) (by kernel_rfl))
      refine track_run rfl ?_
      exact BigFrame.wp_move _ rfl (hK _ w2 (Chg.refl _ _) e0)
    · intro a w2 hc hd hk K hK
      have e7 : a.tmps.getD 7 undef = .int .i64 ((n + 6 : Nat) : Int) := (Known.init (hk 7 (of_decide_eq_true (by kernel_rfl))) (by kernel_rfl))
      refine track_run rfl ?_
      exact BigFrame.wp_move _ rfl (hK _ w2 (Chg.refl _ _) e7)
    · intro a w2 hc hd hk K hK
      have e37 : a.tmps.getD 37 undef = .slice (some ⟨b, o, none⟩) bs.length c := (Known.of (j := 0) (hk 37 (of_decide_eq_true (by kernel_rfl))) (by kernel_rfl) (by decide))
      have e38 : a.tmps.getD 38 undef = .int .i64 ((n + 6 : Nat) : Int) := (Known.of (j := 1) (hk 38 (of_decide_eq_true (by kernel_rfl))) (by kernel_rfl) (by decide))
      refine track_run rfl ?_
      exact ((h.kept (cw.trans hc) fun _ _ => id)).wp_hi rfl e37 e38 l6 fun v' h => hK _ w2 (Chg.refl _ _) h.all
    · intro a w2 hc hd hk K hK
      have e39 : Bytes all' w2 (a.tmps.getD 39 undef) (bs.take (n + 6)) := (Known.of (j := 2) (hk 39 (of_decide_eq_true (by kernel_rfl))) (by kernel_rfl) (by decide))
      refine track_run rfl ?_
      obtain ⟨A1, l1, p1, q1⟩ := e39.shape3
      rw [q1] at e39
      rw [Array.getD_eq_getD_getElem?] at q1
      clear hd
      go_simp
      exact hK _ _ ((Chg.refl _ _).alloc _) (rows_lit1 e39)
    · intro a w2 hc hd hk K hK
      have e40 : Rows all' w2 (a.tmps.getD 40 undef) [bs.take (n + 6)] := (Known.of (j := 3) (hk 40 (of_decide_eq_true (by kernel_rfl))) (by kernel_rfl) (by decide))
      refine track_run rfl ?_
      refine wp_call _ Try.func52 rfl rfl rfl (map_one _ _) ?_
      refine (w_check _ e40).mono ?_
      rintro e w3 ⟨rfl, rfl⟩
      exact ⟨_, rfl, hK _ w2 (Chg.refl _ _) (by have hh := Hp.out; show Value.int .u32 _ = Value.int .u32 _; rw [← hh]; simp [crc])⟩
    · intro a w2 hc hd hk K hK
      have e0 : a.tmps.getD 0 undef = .slice (some ⟨b, o, none⟩) bs.length c := (Known.init (hk 0 (of_decide_eq_true (by kernel_rfl))) (by kernel_rfl))
      refine track_run rfl ?_
      exact BigFrame.wp_move _ rfl (hK _ w2 (Chg.refl _ _) e0)
    · intro a w2 hc hd hk K hK
      have e7 : a.tmps.getD 7 undef = .int .i64 ((n + 6 : Nat) : Int) := (Known.init (hk 7 (of_decide_eq_true (by kernel_rfl))) (by kernel_rfl))
      refine track_run rfl ?_
      exact BigFrame.wp_move _ rfl (hK _ w2 (Chg.refl _ _) e7)
    · intro a w2 hc hd hk K hK
      have e42 : a.tmps.getD 42 undef = .slice (some ⟨b, o, none⟩) bs.length c := (Known.of (j := 5) (hk 42 (of_decide_eq_true (by kernel_rfl))) (by kernel_rfl) (by decide))
      have e43 : a.tmps.getD 43 undef = .int .i64 ((n + 6 : Nat) : Int) := (Known.of (j := 6) (hk 43 (of_decide_eq_true (by kernel_rfl))) (by kernel_rfl) (by decide))
      refine track_run rfl ?_
      exact ((h.kept (cw.trans hc) fun _ _ => id)).wp_lo rfl e42 e43 l6 fun v' h => hK _ w2 (Chg.refl _ _) h.all
    · intro a w2 hc hd hk K hK
      have e44 : Bytes all' w2 (a.tmps.getD 44 undef) (bs.drop (n + 6)) := (Known.of (j := 7) (hk 44 (of_decide_eq_true (by kernel_rfl))) (by kernel_rfl) (by decide))
      refine track_run rfl ?_
      refine wp_call _ Try.func62 rfl rfl rfl (map_one _ _) ?_
      refine (w_get _ e44 l7).mono ?_
      rintro e w3 ⟨rfl, c3⟩
      exact ⟨_, rfl, hK _ w3 c3 (by rw [Hq.out]; rfl)⟩
    · intro a w2 hc hd hk K hK
      have e41 : a.tmps.getD 41 undef = .int .u32 (p : Int) := (Known.of (j := 4) (hk 41 (of_decide_eq_true (by kernel_rfl))) (by kernel_rfl) (by decide))
      have e45 : a.tmps.getD 45 undef = .int .u32 (q : Int) := (Known.of (j := 8) (hk 45 (of_decide_eq_true (by kernel_rfl))) (by kernel_rfl) (by decide))
      refine track_run rfl ?_
      clear hd
      simp only [Array.getD_eq_getD_getElem?] at e41 e45
      go_simp
      exact hK _ w2 (Chg.refl _ _) rfl
    · intro a w2 hc hd hk K hK
      have e46 : a.tmps.getD 46 undef = .bool X := (Known.of (j := 9) (hk 46 (of_decide_eq_true (by kernel_rfl))) (by kernel_rfl) (by decide))
      refine track_run rfl ?_
      exact BigFrame.wp_assign _ rfl (hK _ w2 (Chg.refl _ _) e46)
  -- END one
  · intro a w3 hc hd hs hk
    have hs' : a.tmps.size = 56 := hs
    have f0 : a.tmps.getD 0 undef = .slice (some ⟨b, o, none⟩) bs.length c := Known.init (hk 0) (by kernel_rfl)
    have f7 : a.tmps.getD 7 undef = .int .i64 ((n + 6 : Nat) : Int) := Known.init (hk 7) (by kernel_rfl)
    have e36 : a.tmps.getD 36 undef = .bool X := Known.of (j := 10) (hk 36) (by kernel_rfl) (by decide)
    go_wp2
    by_cases hcx : p = q
    · have en := Lib.hid (Hfin.out.1 hcx)
      have xf : X = false := by rw [Hx.out, decide_eq_true hcx]; rfl
      rw [xf] at e36
      refine wp_cond_false (c := .tmp 36) (show a.eval (.tmp 36) = .bool false from e36) ?_
      go_wp2
      have cw : Chg none' w w3.drew := (cw.trans hc).drew
      -- BEGIN two
      refine wp_region_track [Vp.k (.slice (some ⟨b, o, none⟩) bs.length c),
        Vp.k (.pointer (some ⟨b, o + 1, none⟩)),
        Vp.k (vb kk),
        Vp.k (.slice (some ⟨b, o, none⟩) bs.length c),
        Vp.k (.int .i64 ((n + 6 : Nat) : Int)),
        ⟨fun w v => Bytes all' w v (mm), fun _ _ _ hc h => h.kept hc fun _ _ => id⟩,
        ⟨fun x v => OwnB w.heap.size x v (mm), fun _ _ _ hc h => h.keep hc fun _ => none_own⟩,
        Vp.k (.int .i64 ((n + 6 : Nat) : Int)),
        Vp.k (.int .i64 ((n + 10 : Nat) : Int)),
        Vp.k (vb kk),
        ⟨fun x v => OwnB w.heap.size x v (mm), fun _ _ _ hc h => h.keep hc fun _ => none_own⟩,
        Vp.k (.int .i64 ((n + 10 : Nat) : Int)),
        Vp.k (.int .i64 0)] (by kernel_rfl) (by kernel_rfl) (by rw [List.all_eq_true]; simp [hs]) ?_ ?_
      · refine ⟨?_, ?_, ?_, ?_, ?_, ?_, ?_, ?_, ?_, ?_, ?_, ?_, ?_, trivial⟩
        · intro a w2 hc hd hk K hK
          have e0 : a.tmps.getD 0 undef = .slice (some ⟨b, o, none⟩) bs.length c := (Known.init (hk 0 (of_decide_eq_true (by kernel_rfl))) (by kernel_rfl)).trans f0
          refine track_run rfl ?_
          exact BigFrame.wp_move _ rfl (hK _ w2 (Chg.refl _ _) e0)
        · intro a w2 hc hd hk K hK
          have e47 : a.tmps.getD 47 undef = .slice (some ⟨b, o, none⟩) bs.length c := (Known.of (j := 0) (hk 47 (of_decide_eq_true (by kernel_rfl))) (by kernel_rfl) (by decide))
          refine track_run rfl ?_
          clear hd
          simp only [Array.getD_eq_getD_getElem?] at e47
          go_simp
          exact hK _ w2 (Chg.refl _ _) rfl
        · intro a w2 hc hd hk K hK
          have e48 : a.tmps.getD 48 undef = .pointer (some ⟨b, o + 1, none⟩) := (Known.of (j := 1) (hk 48 (of_decide_eq_true (by kernel_rfl))) (by kernel_rfl) (by decide))
          refine track_run rfl ?_
          have cc := Chg.cell (cw.trans hc) ck id
          clear hd
          simp only [Array.getD_eq_getD_getElem?] at e48
          go_simp
          exact hK _ w2 (Chg.refl _ _) rfl
        · intro a w2 hc hd hk K hK
          have e0 : a.tmps.getD 0 undef = .slice (some ⟨b, o, none⟩) bs.length c := (Known.init (hk 0 (of_decide_eq_true (by kernel_rfl))) (by kernel_rfl)).trans f0
          refine track_run rfl ?_
          exact BigFrame.wp_move _ rfl (hK _ w2 (Chg.refl _ _) e0)
        · intro a w2 hc hd hk K hK
          have e7 : a.tmps.getD 7 undef = .int .i64 ((n + 6 : Nat) : Int) := (Known.init (hk 7 (of_decide_eq_true (by kernel_rfl))) (by kernel_rfl)).trans f7
          refine track_run rfl ?_
          exact BigFrame.wp_move _ rfl (hK _ w2 (Chg.refl _ _) e7)
        · intro a w2 hc hd hk K hK
          have e50 : a.tmps.getD 50 undef = .slice (some ⟨b, o, none⟩) bs.length c := (Known.of (j := 3) (hk 50 (of_decide_eq_true (by kernel_rfl))) (by kernel_rfl) (by decide))
          have e51 : a.tmps.getD 51 undef = .int .i64 ((n + 6 : Nat) : Int) := (Known.of (j := 4) (hk 51 (of_decide_eq_true (by kernel_rfl))) (by kernel_rfl) (by decide))
          refine track_run rfl ?_
          exact ((h.kept (cw.trans hc) fun _ _ => id)).wp_mid (j := 6) (k := n + 6) rfl e50 rfl e51 (Nat.le_add_left 6 n) l6 fun v' h => hK _ w2 (Chg.refl _ _) (bytes_eq h.all Hm.out)
        · intro a w2 hc hd hk K hK
          have e52 : Bytes all' w2 (a.tmps.getD 52 undef) mm := (Known.of (j := 5) (hk 52 (of_decide_eq_true (by kernel_rfl))) (by kernel_rfl) (by decide))
          refine track_run rfl ?_
          refine wp_appB (.const (.slice none 0 0)) (.tmp 52) rfl (OwnB.nil w.heap.size w2) e52 rfl rfl hM (cw.trans hc).size fun v' w3 q1 q2 q3 => hK v' w3 (q2.mono fun i _ e => by simp [ownOf, Value.ownBlock] at e) q1
        · intro a w2 hc hd hk K hK
          have e7 : a.tmps.getD 7 undef = .int .i64 ((n + 6 : Nat) : Int) := (Known.init (hk 7 (of_decide_eq_true (by kernel_rfl))) (by kernel_rfl)).trans f7
          refine track_run rfl ?_
          exact BigFrame.wp_move _ rfl (hK _ w2 (Chg.refl _ _) e7)
        · intro a w2 hc hd hk K hK
          have e54 : a.tmps.getD 54 undef = .int .i64 ((n + 6 : Nat) : Int) := (Known.of (j := 7) (hk 54 (of_decide_eq_true (by kernel_rfl))) (by kernel_rfl) (by decide))
          refine track_run rfl ?_
          clear hd
          simp only [Array.getD_eq_getD_getElem?] at e54
          go_simp
          exact hK _ w2 (Chg.refl _ _) (congrArg (Value.int .i64) (by omega))
        · intro a w2 hc hd hk K hK
          have e49 : a.tmps.getD 49 undef = vb kk := (Known.of (j := 2) (hk 49 (of_decide_eq_true (by kernel_rfl))) (by kernel_rfl) (by decide))
          refine track_run rfl ?_
          exact BigFrame.wp_assign _ rfl (hK _ w2 (Chg.refl _ _) e49)
        · intro a w2 hc hd hk K hK
          have e53 : OwnB w.heap.size w2 (a.tmps.getD 53 undef) mm := (Known.of (j := 6) (hk 53 (of_decide_eq_true (by kernel_rfl))) (by kernel_rfl) (by decide))
          refine track_run rfl ?_
          exact BigFrame.wp_assign _ rfl (hK _ w2 (Chg.refl _ _) e53)
        · intro a w2 hc hd hk K hK
          have e55 : a.tmps.getD 55 undef = .int .i64 ((n + 10 : Nat) : Int) := (Known.of (j := 8) (hk 55 (of_decide_eq_true (by kernel_rfl))) (by kernel_rfl) (by decide))
          refine track_run rfl ?_
          exact BigFrame.wp_assign _ rfl (hK _ w2 (Chg.refl _ _) e55)
        · intro a w2 hc hd hk K hK
          refine track_run rfl ?_
          exact BigFrame.wp_assign _ rfl (hK _ w2 (Chg.refl _ _) rfl)
      -- END two
      · intro a2 w4 hc' hd2 hs2 hk2
        have e2 : a2.tmps.getD 2 undef = vb kk := Known.of (j := 9) (hk2 2) (by kernel_rfl) (by decide)
        have e3 : OwnB w.heap.size w4 (a2.tmps.getD 3 undef) mm := Known.of (j := 10) (hk2 3) (by kernel_rfl) (by decide)
        have e4 : a2.tmps.getD 4 undef = .int .i64 ((n + 10 : Nat) : Int) := Known.of (j := 11) (hk2 4) (by kernel_rfl) (by decide)
        have e5 : a2.tmps.getD 5 undef = .int .i64 0 := Known.of (j := 12) (hk2 5) (by kernel_rfl) (by decide)
        go_wp2
        refine bodyPost_ret (results_tmp4 rfl _ _ _) (hd2.trans hd) ?_
        rw [e2, e4, e5]
        refine ⟨.inl ⟨en.out, _, ?_, e3⟩, cw.trans hc'⟩
        first | rfl | simp
    · have en := Lib.hid (Hfin.out.2 hcx)
      have xt : X = true := by rw [Hx.out, decide_eq_false hcx]; rfl
      rw [xt] at e36
      refine wp_cond_true (c := .tmp 36) (show a.eval (.tmp 36) = .bool true from e36) ?_
      go_wp2
      refine bodyPost_ret (results_tmp4 rfl _ _ _) rfl ?_
      refine ⟨.inr ⟨by rw [en.out]; decide, ?_⟩, cw.trans hc⟩
      rw [en.out]
      simp [hs']

end Go.Proofs.Ytclbbddpedcfjaa
