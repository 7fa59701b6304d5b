/-
  Walks: the document's answer for the first frame.
-/
import Derived.Test.YtclbbddpedcfjaaWFrames2
import Derived.Test.YtclbbddpedcfjaaRegion2
namespace Go.Proofs.Ytclbbddpedcfjaa
open Go.RowKit

/-- The length, as far as it is read. -/
def lenTo (bs : List UInt8) (k : Nat) : Nat := (List.range k).foldl (fun n i => n * 256 + (bs.getD (2 + i) 0).toNat) 0
theorem lenTo_succ (bs : List UInt8) (k : Nat) : lenTo bs (k + 1) = lenTo bs k * 256 + (bs.getD (2 + k) 0).toNat := by
  unfold lenTo
  rw [List.range_succ, List.foldl_append]
  rfl
theorem lenTo_four (bs : List UInt8) : lenTo bs 4 = nextLen bs := by
  unfold nextLen
  rw [get4_eq]
  rw [lenTo_succ, lenTo_succ, lenTo_succ, lenTo_succ, show lenTo bs 0 = 0 from rfl]
  simp only [List.getD_eq_getElem?_getD, List.getElem?_drop]
  omega
theorem lenTo_lt (bs : List UInt8) (k : Nat) : lenTo bs k < 256 ^ k := by
  induction k with
  | zero => exact Nat.zero_lt_one
  | succ k ih =>
    rw [lenTo_succ, Nat.pow_succ]
    have := (bs.getD (2 + k) 0).toNat_lt
    omega

set_option maxRecDepth 100000 in
set_option maxHeartbeats 2000000 in
theorem w_rnext {v : Value} {bs : List UInt8} (w : World) (h : Bytes (old' w) w v bs) (hl : bs.length ≤ 140737488355328) :
    Calls Try.prog 54 #[v] w fun e w' => NextOut bs w.heap.size e w' ∧ Chg none' w w' := by
  obtain ⟨A, c, rfl⟩ := h.shape
  by_cases h0 : bs.length = 0
  · have e0 : nextErr bs = 4 := by unfold nextErr; rw [if_pos h0]
    go_enter Try.func54, Try.ntmps54
    go_wp2
    ((try simp only [Exit.inBlock, Exit.then]); refine bodyPost_ret (results_tmp4 rfl _ _ _) rfl ?_)
    exact ⟨.inr ⟨by rw [e0]; decide, by rw [e0]; rfl⟩, Chg.refl _ _⟩
  obtain ⟨b, o, c', e1, hF, c0⟩ := h.at_ (i := 0) (by omega)
  simp only [Value.slice.injEq] at e1
  obtain ⟨rfl, _, rfl⟩ := e1
  rw [Nat.add_zero] at c0
  by_cases h1 : bs.getD 0 0 ≠ 165
  · have e0 : nextErr bs = 11 := by unfold nextErr; rw [if_neg h0, if_pos h1]
    rw [first_of (by omega)] at h1
    have n1 := ne_byte h1
    have n2 : ((bs[0].toNat : Int) == 165) = false := n1
    go_enter Try.func54, Try.ntmps54
    go_wp2
    ((try simp only [Exit.inBlock, Exit.then]); refine bodyPost_ret (results_tmp4 rfl _ _ _) rfl ?_)
    exact ⟨.inr ⟨by rw [e0]; decide, by rw [e0]; rfl⟩, Chg.refl _ _⟩
  have h1' : bs.getD 0 0 = 165 := by simpa using h1
  rw [← first_of (by omega), h1'] at c0
  by_cases h2 : bs.length < 6
  · have e0 : nextErr bs = 12 := by unfold nextErr; rw [if_neg h0, if_neg h1, if_pos h2]
    go_enter Try.func54, Try.ntmps54
    go_wp2
    ((try simp only [Exit.inBlock, Exit.then]); refine bodyPost_ret (results_tmp4 rfl _ _ _) rfl ?_)
    exact ⟨.inr ⟨by rw [e0]; decide, by rw [e0]; rfl⟩, Chg.refl _ _⟩
  have h6 : 6 ≤ bs.length := by omega
  have hcl : bs.length ≤ c := by obtain ⟨A, c', e, q, _⟩ := h; simp only [Value.slice.injEq] at e; omega
  go_enter Try.func54, Try.ntmps54
  go_wp2
  go_loop [6, 7] (fun nv iv => ∃ k : Nat, k ≤ 4 ∧ iv = .int .i64 (2 + k : Nat) ∧ nv = .int .i64 (lenTo bs k)) (fun _ i => 6 - (intOf i).toNat)
  case atStart => exact ⟨0, by omega, rfl, rfl⟩
  case round =>
    obtain ⟨k, hk, rfl, rfl⟩ := hrel
    by_cases hlt : k < 4
    · obtain ⟨b1, o1, k1, e1, _, q1⟩ := h.at_ (i := 2 + k) (by omega)
      simp only [Value.slice.injEq, Option.some.injEq, Addr.mk.injEq] at e1
      obtain ⟨⟨rfl, rfl, _⟩, _, _⟩ := e1
      have hs := lenTo_succ bs k
      rw [List.getD_eq_getElem?_getD, List.getElem?_eq_getElem (show 2 + k < bs.length by omega)] at hs
      have b1 := lenTo_lt bs k
      have b2 : lenTo bs k < 16777216 := Nat.lt_of_lt_of_le b1 (Nat.le_trans (Nat.pow_le_pow_right (by decide) (show k ≤ 3 by omega)) (by decide))
      have u := u8_lt bs[2 + k]
      have E := Lib.hid hs; clear hs b1
      generalize lenTo bs k = m at *
      go_wp2
      go_round
      case rel => exact ⟨k + 1, by omega, by go_num, by rw [E.out]; simp⟩
      case measure => simp [intOf]; omega
    · obtain rfl : k = 4 := by omega
      rw [lenTo_four bs]
      obtain ⟨n, hn⟩ : ∃ n, nextLen bs = n := ⟨_, rfl⟩
      have h5 : n < 4294967296 := by rw [← hn]; exact get4_lt _
      rw [hn]
      by_cases h3 : 65536 < n
      · have e0 : nextErr bs = 11 := by unfold nextErr; rw [if_neg h0, if_neg h1, if_neg h2, hn, if_pos h3]
        have E0 := Lib.hid e0; clear e0
        have H3 : (65536 : Int) < (n : Int) := by omega
        go_wp2
        ((try simp only [Exit.inBlock, Exit.then]); refine bodyPost_ret (results_tmp4 rfl _ _ _) rfl ?_)
        exact ⟨.inr ⟨by rw [E0.out]; decide, by rw [E0.out]; rfl⟩, Chg.refl _ _⟩
      have H3 : ¬ (65536 : Int) < (n : Int) := by omega
      by_cases h4 : bs.length < n + 10
      · have e0 : nextErr bs = 12 := by unfold nextErr; rw [if_neg h0, if_neg h1, if_neg h2, hn, if_neg h3, if_pos h4]
        have E0 := Lib.hid e0; clear e0
        have H4 : (bs.length : Int) < (n : Int) + 10 := by omega
        go_wp2
        ((try simp only [Exit.inBlock, Exit.then]); refine bodyPost_ret (results_tmp4 rfl _ _ _) rfl ?_)
        exact ⟨.inr ⟨by rw [E0.out]; decide, by rw [E0.out]; rfl⟩, Chg.refl _ _⟩
      have H4 : ¬ (bs.length : Int) < (n : Int) + 10 := by omega
      obtain ⟨kk, hkk⟩ : ∃ k, (nextRec bs).kind = k := ⟨_, rfl⟩
      obtain ⟨mm, hmm⟩ : ∃ m, (nextRec bs).b = m := ⟨_, rfl⟩
      have hmm' : (bs.take (n + 6)).drop 6 = mm := by rw [← hmm, ← hn]; rfl
      have lm : mm.length ≤ 65536 := by rw [← hmm', List.length_drop, List.length_take]; omega
      have ck : w.cell? ⟨b, o + 1, none⟩ = some (vb kk) := by
        obtain ⟨b1, o1, k1, e1, _, q1⟩ := h.at_ (i := 1) (by omega)
        simp only [Value.slice.injEq, Option.some.injEq, Addr.mk.injEq] at e1
        obtain ⟨⟨rfl, rfl, _⟩, _, _⟩ := e1
        rw [q1, ← hkk]
        unfold nextRec
        rw [List.getD_eq_getElem?_getD, List.getElem?_eq_getElem (by omega)]
        rfl
      have hrec : (⟨kk, mm⟩ : Rec) = nextRec bs := by rw [← hkk, ← hmm]
      obtain ⟨X, hX⟩ : ∃ X : Bool, X = (frame ⟨kk, mm⟩ == bs.take (n + 10)) := ⟨_, rfl⟩
      have Hfin : (X = true → nextErr bs = 0) ∧ (X = false → nextErr bs = 20) := by
        have hf := frame_there (b := bs) h1' (by omega)
        rw [← hrec, hn] at hf
        unfold nextErr
        rw [if_neg h0, if_neg h1, if_neg h2, hn, if_neg h3, if_neg h4, hX]
        refine ⟨fun e => if_neg ?_, fun e => if_pos ?_⟩
        · rw [beq_iff_eq] at e; simpa using hf.1 e
        · rw [beq_eq_false_iff_ne] at e; exact fun q => e (hf.2 q)
      replace Hfin := Lib.hid Hfin
      have Hx := Lib.hid hX
      have Hm := Lib.hid hmm'
      have l1 : (1 : Int) < bs.length := by omega
      have l6 : n + 6 ≤ bs.length := by omega
      have l10 : n + 10 ≤ bs.length := by omega
      have l11 : (n : Int) + 10 ≤ (c : Int) := by omega
      have Hok : X = true → ∀ (u : Value) (w' : World), OwnB w.heap.size w' u mm → NextOut bs w.heap.size (.returned (.tuple #[vb kk, u, .int .i64 (n + 10 : Nat), .int .i64 0])) w' := fun e u w' ho => .inl ⟨Hfin.out.1 e, u, by rw [hkk, hn], by rw [hmm]; exact ho⟩
      have Hno : X = false → ∀ (w' : World), NextOut bs w.heap.size (.returned (.tuple #[.int .u8 0, .slice none 0 0, .int .i64 0, .int .i64 20])) w' := fun e w' => .inr ⟨by rw [Hfin.out.2 e]; decide, by rw [Hfin.out.2 e]; rfl⟩
      replace Hok := Lib.hid Hok
      replace Hno := Lib.hid Hno
      clear hX hmm' hmm hkk hn h1 h1' hrec
      go_wp2
      have hE6 : IntKind.i64.wrap (6 + (n : Int)) = ((n + 6 : Nat) : Int) := by simp [IntKind.wrap, IntKind.bits, IntKind.signed] <;> omega
      have hE10 : IntKind.i64.wrap ((n : Int) + 10) = ((n + 10 : Nat) : Int) := by simp [IntKind.wrap, IntKind.bits, IntKind.signed] <;> omega
      have cw : Chg none' w w.drew := (Chg.refl _ _).drew
      -- BEGIN one
      refine wp_region_track2 [Vp.k (.slice (some ⟨b, o, none⟩) bs.length c),
        Vp.k (.pointer (some ⟨b, o + 1, none⟩)),
        Vp.k (vb kk),
        Vp.k (.slice (some ⟨b, o, none⟩) bs.length c),
        Vp.k (.int .i64 (n : Int)),
        Vp.k (.int .i64 ((n + 6 : Nat) : Int)),
        ⟨fun w v => Bytes all' w v (mm), fun _ _ _ hc h => h.kept hc fun _ _ => id⟩,
        ⟨fun x v => ∃ u, v = .tuple #[u, .int .i64 0] ∧ OwnB w.heap.size x u (frame ⟨kk, mm⟩), fun _ _ _ hc h => let ⟨u, e, ho⟩ := h; ⟨u, e, ho.keep hc fun _ => none_own⟩⟩,
        ⟨fun x v => ∃ u, v = .tuple #[u, .int .i64 0] ∧ OwnB w.heap.size x u (frame ⟨kk, mm⟩), fun _ _ _ hc h => let ⟨u, e, ho⟩ := h; ⟨u, e, ho.keep hc fun _ => none_own⟩⟩,
        ⟨fun x v => OwnB w.heap.size x v (frame ⟨kk, mm⟩), fun _ _ _ hc h => h.keep hc fun _ => none_own⟩,
        Vp.k (.int .i64 0),
        ⟨fun x v => OwnB w.heap.size x v (frame ⟨kk, mm⟩), fun _ _ _ hc h => h.keep hc fun _ => none_own⟩,
        Vp.k (.int .i64 0)] (by kernel_rfl) (by kernel_rfl) (by kernel_rfl) ?_ ?_
      · refine ⟨?_, ?_, ?_, ?_, ?_, ?_, ?_, ?_, ?_, ?_, ?_, ?_, ?_, trivial⟩
        · intro a w2 hc hd hk K hK
          have e0 : a.tmps.getD 0 undef = .slice (some ⟨b, o, none⟩) bs.length c := (Known.init (hk 0 (of_decide_eq_true (by kernel_rfl))) (by kernel_rfl))
          refine track_run rfl ?_
          exact BigFrame.wp_move _ rfl (hK _ w2 (Chg.refl _ _) e0)
        · intro a w2 hc hd hk K hK
          have e40 : a.tmps.getD 40 undef = .slice (some ⟨b, o, none⟩) bs.length c := (Known.of (j := 0) (hk 40 (of_decide_eq_true (by kernel_rfl))) (by kernel_rfl) (by decide))
          refine track_run rfl ?_
          clear hd
          simp only [Array.getD_eq_getD_getElem?] at e40
          go_simp
          exact hK _ w2 (Chg.refl _ _) rfl
        · intro a w2 hc hd hk K hK
          have e41 : a.tmps.getD 41 undef = .pointer (some ⟨b, o + 1, none⟩) := (Known.of (j := 1) (hk 41 (of_decide_eq_true (by kernel_rfl))) (by kernel_rfl) (by decide))
          refine track_run rfl ?_
          have cc := Chg.cell (cw.trans hc) ck id
          clear hd
          simp only [Array.getD_eq_getD_getElem?] at e41
          go_simp
          exact hK _ w2 (Chg.refl _ _) rfl
        · intro a w2 hc hd hk K hK
          have e0 : a.tmps.getD 0 undef = .slice (some ⟨b, o, none⟩) bs.length c := (Known.init (hk 0 (of_decide_eq_true (by kernel_rfl))) (by kernel_rfl))
          refine track_run rfl ?_
          exact BigFrame.wp_move _ rfl (hK _ w2 (Chg.refl _ _) e0)
        · intro a w2 hc hd hk K hK
          have e6 : a.tmps.getD 6 undef = .int .i64 (n : Int) := (Known.init (hk 6 (of_decide_eq_true (by kernel_rfl))) (by kernel_rfl))
          refine track_run rfl ?_
          exact BigFrame.wp_move _ rfl (hK _ w2 (Chg.refl _ _) e6)
        · intro a w2 hc hd hk K hK
          have e44 : a.tmps.getD 44 undef = .int .i64 (n : Int) := (Known.of (j := 4) (hk 44 (of_decide_eq_true (by kernel_rfl))) (by kernel_rfl) (by decide))
          refine track_run rfl ?_
          clear hd
          simp only [Array.getD_eq_getD_getElem?] at e44
          go_simp
          exact hK _ w2 (Chg.refl _ _) (congrArg (Value.int .i64) (by omega))
        · intro a w2 hc hd hk K hK
          have e43 : a.tmps.getD 43 undef = .slice (some ⟨b, o, none⟩) bs.length c := (Known.of (j := 3) (hk 43 (of_decide_eq_true (by kernel_rfl))) (by kernel_rfl) (by decide))
          have e45 : a.tmps.getD 45 undef = .int .i64 ((n + 6 : Nat) : Int) := (Known.of (j := 5) (hk 45 (of_decide_eq_true (by kernel_rfl))) (by kernel_rfl) (by decide))
          refine track_run rfl ?_
          exact ((h.kept (cw.trans hc) fun _ _ => id)).wp_mid (j := 6) (k := n + 6) rfl e43 rfl e45 (Nat.le_add_left 6 n) l6 fun v' h => hK _ w2 (Chg.refl _ _) (bytes_eq h.all Hm.out)
        · intro a w2 hc hd hk K hK
          have e42 : a.tmps.getD 42 undef = vb kk := (Known.of (j := 2) (hk 42 (of_decide_eq_true (by kernel_rfl))) (by kernel_rfl) (by decide))
          have e46 : Bytes all' w2 (a.tmps.getD 46 undef) mm := (Known.of (j := 6) (hk 46 (of_decide_eq_true (by kernel_rfl))) (by kernel_rfl) (by decide))
          refine track_run rfl ?_
          refine wp_call _ Try.func60 rfl rfl rfl (map_two _ _ _) ?_
          rw [e42]
          refine (w_rone (r := ⟨kk, mm⟩) _ e46.old lm).mono ?_
          rintro e w3 ⟨u, rfl, o3, c3⟩
          exact ⟨_, rfl, hK _ w3 c3 ⟨u, rfl, o3.more (cw.trans hc).size⟩⟩
        · intro a w2 hc hd hk K hK
          have e47 : ∃ u, (a.tmps.getD 47 undef) = .tuple #[u, .int .i64 0] ∧ OwnB w.heap.size w2 u (frame ⟨kk, mm⟩) := (Known.of (j := 7) (hk 47 (of_decide_eq_true (by kernel_rfl))) (by kernel_rfl) (by decide))
          refine track_run rfl ?_
          exact BigFrame.wp_move _ rfl (hK _ w2 (Chg.refl _ _) e47)
        · intro a w2 hc hd hk K hK
          have e39 : ∃ u, (a.tmps.getD 39 undef) = .tuple #[u, .int .i64 0] ∧ OwnB w.heap.size w2 u (frame ⟨kk, mm⟩) := (Known.of (j := 8) (hk 39 (of_decide_eq_true (by kernel_rfl))) (by kernel_rfl) (by decide))
          refine track_run rfl ?_
          obtain ⟨u, q1, q2⟩ := e39
          rw [Array.getD_eq_getD_getElem?] at q1
          clear hd
          go_simp
          exact hK _ w2 (Chg.refl _ _) q2
        · intro a w2 hc hd hk K hK
          have e39 : ∃ u, (a.tmps.getD 39 undef) = .tuple #[u, .int .i64 0] ∧ OwnB w.heap.size w2 u (frame ⟨kk, mm⟩) := (Known.of (j := 8) (hk 39 (of_decide_eq_true (by kernel_rfl))) (by kernel_rfl) (by decide))
          refine track_run rfl ?_
          obtain ⟨u, q1, q2⟩ := e39
          rw [Array.getD_eq_getD_getElem?] at q1
          clear hd
          go_simp
          exact hK _ w2 (Chg.refl _ _) rfl
        · intro a w2 hc hd hk K hK
          have e48 : OwnB w.heap.size w2 (a.tmps.getD 48 undef) (frame ⟨kk, mm⟩) := (Known.of (j := 9) (hk 48 (of_decide_eq_true (by kernel_rfl))) (by kernel_rfl) (by decide))
          refine track_run rfl ?_
          exact BigFrame.wp_assign _ rfl (hK _ w2 (Chg.refl _ _) e48)
        · intro a w2 hc hd hk K hK
          have e49 : a.tmps.getD 49 undef = .int .i64 0 := (Known.of (j := 10) (hk 49 (of_decide_eq_true (by kernel_rfl))) (by kernel_rfl) (by decide))
          refine track_run rfl ?_
          exact BigFrame.wp_assign _ rfl (hK _ w2 (Chg.refl _ _) e49)
      -- END one
      · intro f w3 hc hk
        have f8 : OwnB w.heap.size w3 (f 8) (frame ⟨kk, mm⟩) := Known.of (j := 11) (hk 8) (by kernel_rfl) (by decide)
        simp only [filled, List.foldl_cons, List.foldl_nil]
        generalize f 8 = u8 at *
        have hb3 := (h.kept (cw.trans hc) fun _ _ => id).hi_ l10
        go_wp2_with fail
        refine (w_same00 _ f8.bytes hb3).mono ?_
        rintro e w4 ⟨rfl, rfl⟩
        cases hX : X with
        | false =>
          have Hn := Lib.hid (Hno.out hX)
          have xx : (frame ⟨kk, mm⟩ == bs.take (n + 10)) = false := by rw [← Hx.out, hX]
          go_wp2
          ((try simp only [Exit.inBlock, Exit.then]); refine bodyPost_ret (results_tmp4 rfl _ _ _) rfl ?_)
          exact ⟨Hn.out _, cw.trans hc⟩
        | true =>
          have Ho := Lib.hid (Hok.out hX)
          have xx : (frame ⟨kk, mm⟩ == bs.take (n + 10)) = true := by rw [← Hx.out, hX]
          go_wp2
          have cw : Chg none' w w3.drew := (cw.trans hc).drew
          -- BEGIN two
          refine wp_region_track2 [Vp.k (.slice (some ⟨b, o, none⟩) bs.length c),
            Vp.k (.pointer (some ⟨b, o + 1, none⟩)),
            Vp.k (vb kk),
            Vp.k (.slice (some ⟨b, o, none⟩) bs.length c),
            Vp.k (.int .i64 (n : Int)),
            Vp.k (.int .i64 ((n + 6 : Nat) : Int)),
            ⟨fun w v => Bytes all' w v (mm), fun _ _ _ hc h => h.kept hc fun _ _ => id⟩,
            ⟨fun x v => OwnB w.heap.size x v (mm), fun _ _ _ hc h => h.keep hc fun _ => none_own⟩,
            Vp.k (.int .i64 (n : Int)),
            Vp.k (.int .i64 ((n + 10 : Nat) : Int)),
            Vp.k (vb kk),
            ⟨fun x v => OwnB w.heap.size x v (mm), fun _ _ _ hc h => h.keep hc fun _ => none_own⟩,
            Vp.k (.int .i64 ((n + 10 : Nat) : Int)),
            Vp.k (.int .i64 0)] (by kernel_rfl) (by kernel_rfl) (by kernel_rfl) ?_ ?_
          · refine ⟨?_, ?_, ?_, ?_, ?_, ?_, ?_, ?_, ?_, ?_, ?_, ?_, ?_, ?_, trivial⟩
            · intro a w2 hc hd hk K hK
              have e0 : a.tmps.getD 0 undef = .slice (some ⟨b, o, none⟩) bs.length c := (Known.init (hk 0 (of_decide_eq_true (by kernel_rfl))) (by kernel_rfl))
              refine track_run rfl ?_
              exact BigFrame.wp_move _ rfl (hK _ w2 (Chg.refl _ _) e0)
            · intro a w2 hc hd hk K hK
              have e57 : a.tmps.getD 57 undef = .slice (some ⟨b, o, none⟩) bs.length c := (Known.of (j := 0) (hk 57 (of_decide_eq_true (by kernel_rfl))) (by kernel_rfl) (by decide))
              refine track_run rfl ?_
              clear hd
              simp only [Array.getD_eq_getD_getElem?] at e57
              go_simp
              exact hK _ w2 (Chg.refl _ _) rfl
            · intro a w2 hc hd hk K hK
              have e58 : a.tmps.getD 58 undef = .pointer (some ⟨b, o + 1, none⟩) := (Known.of (j := 1) (hk 58 (of_decide_eq_true (by kernel_rfl))) (by kernel_rfl) (by decide))
              refine track_run rfl ?_
              have cc := Chg.cell (cw.trans hc) ck id
              clear hd
              simp only [Array.getD_eq_getD_getElem?] at e58
              go_simp
              exact hK _ w2 (Chg.refl _ _) rfl
            · intro a w2 hc hd hk K hK
              have e0 : a.tmps.getD 0 undef = .slice (some ⟨b, o, none⟩) bs.length c := (Known.init (hk 0 (of_decide_eq_true (by kernel_rfl))) (by kernel_rfl))
              refine track_run rfl ?_
              exact BigFrame.wp_move _ rfl (hK _ w2 (Chg.refl _ _) e0)
            · intro a w2 hc hd hk K hK
              have e6 : a.tmps.getD 6 undef = .int .i64 (n : Int) := (Known.init (hk 6 (of_decide_eq_true (by kernel_rfl))) (by kernel_rfl))
              refine track_run rfl ?_
              exact BigFrame.wp_move _ rfl (hK _ w2 (Chg.refl _ _) e6)
            · intro a w2 hc hd hk K hK
              have e61 : a.tmps.getD 61 undef = .int .i64 (n : Int) := (Known.of (j := 4) (hk 61 (of_decide_eq_true (by kernel_rfl))) (by kernel_rfl) (by decide))
              refine track_run rfl ?_
              clear hd
              simp only [Array.getD_eq_getD_getElem?] at e61
              go_simp
              exact hK _ w2 (Chg.refl _ _) (congrArg (Value.int .i64) (by omega))
            · intro a w2 hc hd hk K hK
              have e60 : a.tmps.getD 60 undef = .slice (some ⟨b, o, none⟩) bs.length c := (Known.of (j := 3) (hk 60 (of_decide_eq_true (by kernel_rfl))) (by kernel_rfl) (by decide))
              have e62 : a.tmps.getD 62 undef = .int .i64 ((n + 6 : Nat) : Int) := (Known.of (j := 5) (hk 62 (of_decide_eq_true (by kernel_rfl))) (by kernel_rfl) (by decide))
              refine track_run rfl ?_
              exact ((h.kept (cw.trans hc) fun _ _ => id)).wp_mid (j := 6) (k := n + 6) rfl e60 rfl e62 (Nat.le_add_left 6 n) l6 fun v' h => hK _ w2 (Chg.refl _ _) (bytes_eq h.all Hm.out)
            · intro a w2 hc hd hk K hK
              have e63 : Bytes all' w2 (a.tmps.getD 63 undef) mm := (Known.of (j := 6) (hk 63 (of_decide_eq_true (by kernel_rfl))) (by kernel_rfl) (by decide))
              refine track_run rfl ?_
              refine wp_call _ Try.func55 rfl rfl rfl (map_one _ _) ?_
              refine (w_copy _ e63 (by omega)).mono ?_
              rintro e w3 ⟨u, rfl, o3, c3⟩
              exact ⟨_, rfl, hK _ w3 c3 (o3.more (cw.trans hc).size)⟩
            · intro a w2 hc hd hk K hK
              have e6 : a.tmps.getD 6 undef = .int .i64 (n : Int) := (Known.init (hk 6 (of_decide_eq_true (by kernel_rfl))) (by kernel_rfl))
              refine track_run rfl ?_
              exact BigFrame.wp_move _ rfl (hK _ w2 (Chg.refl _ _) e6)
            · intro a w2 hc hd hk K hK
              have e65 : a.tmps.getD 65 undef = .int .i64 (n : Int) := (Known.of (j := 8) (hk 65 (of_decide_eq_true (by kernel_rfl))) (by kernel_rfl) (by decide))
              refine track_run rfl ?_
              clear hd
              simp only [Array.getD_eq_getD_getElem?] at e65
              go_simp
              exact hK _ w2 (Chg.refl _ _) (congrArg (Value.int .i64) (by omega))
            · intro a w2 hc hd hk K hK
              have e59 : a.tmps.getD 59 undef = vb kk := (Known.of (j := 2) (hk 59 (of_decide_eq_true (by kernel_rfl))) (by kernel_rfl) (by decide))
              refine track_run rfl ?_
              exact BigFrame.wp_assign _ rfl (hK _ w2 (Chg.refl _ _) e59)
            · intro a w2 hc hd hk K hK
              have e64 : OwnB w.heap.size w2 (a.tmps.getD 64 undef) mm := (Known.of (j := 7) (hk 64 (of_decide_eq_true (by kernel_rfl))) (by kernel_rfl) (by decide))
              refine track_run rfl ?_
              exact BigFrame.wp_assign _ rfl (hK _ w2 (Chg.refl _ _) e64)
            · intro a w2 hc hd hk K hK
              have e66 : a.tmps.getD 66 undef = .int .i64 ((n + 10 : Nat) : Int) := (Known.of (j := 9) (hk 66 (of_decide_eq_true (by kernel_rfl))) (by kernel_rfl) (by decide))
              refine track_run rfl ?_
              exact BigFrame.wp_assign _ rfl (hK _ w2 (Chg.refl _ _) e66)
            · intro a w2 hc hd hk K hK
              refine track_run rfl ?_
              exact BigFrame.wp_assign _ rfl (hK _ w2 (Chg.refl _ _) rfl)
          -- END two
          · intro f' w5 hc' hk'
            have e2 : f' 2 = vb kk := Known.of (j := 10) (hk' 2) (by kernel_rfl) (by decide)
            have e3 : OwnB w.heap.size w5 (f' 3) mm := Known.of (j := 11) (hk' 3) (by kernel_rfl) (by decide)
            have e4 : f' 4 = .int .i64 ((n + 10 : Nat) : Int) := Known.of (j := 12) (hk' 4) (by kernel_rfl) (by decide)
            have e5 : f' 5 = .int .i64 0 := Known.of (j := 13) (hk' 5) (by kernel_rfl) (by decide)
            simp only [filled, List.foldl_cons, List.foldl_nil]
            rw [e2, e4, e5]
            generalize f' 3 = u3 at *
            go_wp2
            ((try simp only [Exit.inBlock, Exit.then]); refine bodyPost_ret (results_tmp4 rfl _ _ _) rfl ?_)
            exact ⟨Ho.out u3 _ e3, cw.trans hc'⟩

end Go.Proofs.Ytclbbddpedcfjaa
