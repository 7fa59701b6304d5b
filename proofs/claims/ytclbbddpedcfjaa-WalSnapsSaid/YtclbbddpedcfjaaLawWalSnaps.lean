/-
  The walk of WalSnaps.
-/
import Derived.Test.YtclbbddpedcfjaaLog8
import Derived.Test.YtclbbddpedcfjaaLast
import Derived.BigQuiet
namespace Go.Proofs.Ytclbbddpedcfjaa
open Go.RowKit

theorem lastAt_snap {b : List UInt8} {l : List Rec} {k : Nat} (hl : ∀ r ∈ l, r.kind ≠ 0) (h : LastAt (⟨0, b⟩ :: l) k) : k = 1 := by
  obtain ⟨h1, h2, h3⟩ := h
  rcases Nat.lt_trichotomy k 1 with q | q | q
  · obtain rfl : k = 0 := by omega
    exact absurd rfl (h3 0 ⟨0, b⟩ (Nat.le_refl _) rfl)
  · exact q
  · obtain ⟨m, rfl⟩ : ∃ m, k = m + 2 := ⟨k - 2, by omega⟩
    simp only [List.length_cons] at h1
    have hm : m < l.length := by omega
    exact absurd (h2 l[m] (by omega) (by simp [hm])) (hl _ (List.getElem_mem hm))
theorem snap_crash (lg : Lg) {b : List UInt8} (q : Nat) (hb : b.length ≤ 65536) : (wopen (dcrash (wsnap lg b).d q)).l = [⟨0, b⟩] ∧ (wopen (dcrash (wsnap lg b).d q)).last = 1 ∧ (wopen (dcrash (wsnap lg b).d q)).d.L.length + (wopen (dcrash (wsnap lg b).d q)).d.T.length = b.length + 10 := by
  have e : (dcrash (wsnap lg b).d q).L ++ (dcrash (wsnap lg b).d q).T = frames [⟨0, b⟩] := by simp [dcrash, wsnap, frames]
  rw [wopen_frames e (fun r hr => by simp at hr; subst hr; exact hb)]
  exact ⟨rfl, rfl, by simp [frames_len, long]⟩
def tot (l : List (List UInt8)) : Nat := (l.map List.length).sum
theorem tot_take {l : List (List UInt8)} {j : Nat} (h : j < l.length) : tot (l.take (j + 1)) = tot (l.take j) + l[j].length := by
  unfold tot
  rw [← List.take_append_getElem h, List.map_append, List.sum_append]
  simp
theorem tot_le {l : List (List UInt8)} {m : Nat} (h : ∀ b ∈ l, b.length ≤ m) : tot l ≤ l.length * m := by
  unfold tot
  induction l with
  | nil => simp
  | cons c r ih =>
    have := ih fun b hb => h b (List.mem_cons_of_mem _ hb)
    have := h c (List.mem_cons_self ..)
    simp only [List.map_cons, List.sum_cons, List.length_cons]
    rw [Nat.add_mul]
    omega
theorem tot_take_le (l : List (List UInt8)) (k : Nat) : tot (l.take k) ≤ tot l := by
  conv => rhs; rw [← List.take_append_drop k l]
  unfold tot
  rw [List.map_append, List.sum_append]
  omega
theorem tot_mem {l : List (List UInt8)} {b : List UInt8} (h : b ∈ l) : b.length ≤ tot l := by
  unfold tot
  induction l with
  | nil => simp at h
  | cons c r ih =>
    simp only [List.map_cons, List.sum_cons]
    rcases List.mem_cons.1 h with e | e
    · subst e; omega
    · have := ih e; omega
theorem tot_long (k : UInt8) (l : List (List UInt8)) : long (recsOf k l) = tot l + 10 * l.length := by
  rw [long_recsOf]
  unfold tot
  induction l with
  | nil => rfl
  | cons c r ih => simp only [List.map_cons, List.sum_cons, List.length_cons]; omega

theorem chg_drewN (w : World) (n : Nat) : Chg none' w (w.drewN n) := ⟨rfl, rfl, rfl, Nat.le_refl _, fun _ _ _ => rfl⟩

set_option maxRecDepth 1000000 in
set_option maxHeartbeats 4000000 in
theorem walk_WalSnaps (w : World) {v : Value} {xs : List Do7} (h : Do7s (old' w) w v xs) (hr : xs.length * 48 ≤ 140737488351232 ∧ ∀ x ∈ xs, In7 x) {u : Value} {bs : List UInt8} (hb : Bytes (old' w) w u bs) (hbl : bs.length ≤ 140737488351232) {mv : Value} {bss : List (List UInt8)} (hm : Rows (old' w) w mv bss) (hmr : bss.length * 24 ≤ 140737488351232 ∧ ∀ b ∈ bss, b.length ≤ 140737488351232) (a : Int) (ha : (Lit.int .u16 a).wf = true) :
    Calls Try.prog 8 #[v, u, mv, .int .u16 a] w fun e w' => e = .returned (.bool true) ∧ Chg none' w w' := by
  obtain ⟨a0, a1⟩ := int_u16 ha
  obtain ⟨A, c, rfl, _, hmx⟩ := h.shape
  unfold maxLen at hmx
  obtain ⟨Am, cm, rfl, _, hmm⟩ := hm.shape
  unfold maxLen at hmm
  obtain ⟨Ab, cb, rfl⟩ := hb.shape
  obtain ⟨q, rfl⟩ : ∃ q : Nat, a = q := ⟨a.toNat, by omega⟩
  clear ha
  go_enter Try.func8, Try.ntmps8
  go_wp2_with fail
  refine (w_long07 _ h).mono ?_
  rintro e w1 ⟨⟨lng, rfl⟩, rfl⟩
  by_cases hL : 600 < lng
  · clear h hr hb hm hmr hmx hmm hbl
    go_wp2_with fail
    refine (w_known07 _).mono ?_
    rintro e w2 ⟨rfl, c2⟩
    go_wp2
    go_ret
    exact ⟨rfl, c2⟩
  by_cases hB : (300 : Int) < bs.length
  · clear h hr hb hm hmr hmx hmm hbl
    go_wp2_with fail
    refine (w_known07 _).mono ?_
    rintro e w2 ⟨rfl, c2⟩
    go_wp2
    go_ret
    exact ⟨rfl, c2⟩
  by_cases hM : (10 : Int) < bss.length
  · clear h hr hb hm hmr hmx hmm hbl
    go_wp2_with fail
    refine (w_known07 _).mono ?_
    rintro e w2 ⟨rfl, c2⟩
    go_wp2
    go_ret
    exact ⟨rfl, c2⟩
  have HBM := Lib.hid (show bs.length ≤ 300 ∧ bss.length ≤ 10 from ⟨by omega, by omega⟩)
  have zL : decide (600 < lng) = false := by simpa using hL
  have zB : decide ((300 : Int) < bs.length) = false := by simpa using hB
  have zM : decide ((10 : Int) < bss.length) = false := by simpa using hM
  clear hL hB hM
  have H := Lib.hid h
  have HR := Lib.hid hr
  have HB := Lib.hid hb
  have HBL := Lib.hid hbl
  have HM := Lib.hid hm
  have HMR := Lib.hid hmr
  clear h hr hb hm hmr hbl
  go_wp2_with fail
  refine (w_wnew _).mono ?_
  rintro e w1 ⟨g, F, rfl, hd, xd, c1⟩
  go_wp2
  go_loopw [9, 10] (fun pv iv wr => ∃ k : Nat, k ≤ xs.length ∧ iv = .int .i64 k ∧ LogTo w wr pv (wdos ⟨⟨[], [], 0⟩, [], 0⟩ (xs.take k))) (fun _ i _ => xs.length - (intOf i).toNat)
  case atStart => exact ⟨0, Nat.zero_le _, rfl, g, rfl, c1, F, xd, hd⟩
  case round =>
    clear hd
    obtain ⟨k, hk, rfl, gl, rfl, hchg, Fk, hext, hD⟩ := hrel
    by_cases hlt : k < xs.length
    · obtain ⟨b1, o1, c1', u1, e1, hF1, ck0, ck1, ck2, ck3, hu1⟩ := (H.out.kept hchg fun _ _ => id).at_ hlt
      simp only [Value.slice.injEq] at e1
      obtain ⟨rfl, _, rfl⟩ := e1
      have hin := HR.out.2 _ (List.getElem_mem hlt)
      have E := Lib.hid (wdos_take (d := ⟨⟨[], [], 0⟩, [], 0⟩) hlt)
      have hn := wdos_n ⟨⟨[], [], 0⟩, [], 0⟩ (xs.take k)
      rw [List.length_take] at hn
      have K := w_wdo xs[k] hD (by have := HR.out.1; simp only at hn; omega) hu1 (fun b hb hf => by rcases hext b hf with q | q; exact q; unfold old' at hb; omega) hin
      obtain ⟨Au, cu, rfl, _, _⟩ := hu1.shape
      have hlk : (k : Int) < xs.length := by omega
      generalize xs[k] = x at *
      go_wp2_with fail
      ((with_reducible refine K.mono ?_))
      rintro e w2 ⟨g2, F2, rfl, hD2, x2, c2⟩
      clear K
      go_wp2
      go_roundw
      case rel => exact ⟨k + 1, by omega, by go_num, g2, rfl, hchg.ext hext c2, F2, hext.trans x2 hchg.size, by rw [E.out]; exact hD2⟩
      case measure => simp [intOf]; omega
    · obtain rfl : k = xs.length := by omega
      rw [List.take_length] at hD
      generalize wdos ⟨⟨[], [], 0⟩, [], 0⟩ xs = lg at *
      obtain ⟨h300, h10⟩ := HBM.out
      have K := w_wsnap hD (HB.out.kept hchg fun _ _ => id) (fun b hb hf => by rcases hext b hf with z | z; exact z; unfold old' at hb; omega) (by omega)
      have es : wsnapE lg bs = (wsnap lg bs, 0) := by unfold wsnapE; rw [if_pos (by omega)]
      rw [es] at K
      simp only [show ((0 : Nat) : Int) = 0 from rfl] at K
      obtain ⟨s1, s2, s3⟩ := snap_crash lg (b := bs) q (by omega)
      have KC := fun W F (x : IsLog F W gl (wsnap lg bs)) => w_wcrash x q
      have KP := fun W F (x : IsLog F W gl (wsnap lg bs)) => w_wpending x
      rw [show ((wsnap lg bs).l.length : Int) - (wsnap lg bs).last = 0 by simp [wsnap]] at KP
      generalize wopen (dcrash (wsnap lg bs).d q) = lc at KC s1 s2 s3
      have KL := fun W F g (x : IsLog F W g lc) => w_wlasting x
      rw [s2] at KL
      simp only [show ((1 : Nat) : Int) = 1 from rfl] at KL
      have KT := fun W F g (x : IsLog F W g lc) => w_wlast x
      rw [s1] at KT
      have HS := Lib.hid (show lc.l = [⟨0, bs⟩] ∧ lc.last = 1 ∧ lc.d.L.length + lc.d.T.length = bs.length + 10 from ⟨s1, s2, s3⟩)
      clear s1 s2 s3 es h300 h10
      generalize wsnap lg bs = ls at *
      go_wp2_with fail
      go_at_call 30
      ((with_reducible refine K.mono ?_))
      rintro e w2 ⟨F2, rfl, hD2, x2, c2⟩
      clear K
      have d2 := hchg.ext hext c2
      have y2 : Ext none' F2 w := hext.trans x2 hchg.size
      go_wp2_with fail
      go_at_call 20
      refine (KC _ _ hD2).mono ?_
      rintro e w3 ⟨gc, FC, rfl, hC3, x3, c3⟩
      have hD3 := hD2.keep0 c3
      go_wp2_with fail
      go_at_call 16
      refine (KL _ _ _ hC3).mono ?_
      rintro e w4 ⟨rfl, rfl⟩
      go_wp2_with fail
      go_at_call 17
      refine (KP _ _ hD3).mono ?_
      rintro e w4 ⟨rfl, c4⟩
      have hC4 := hC3.keep0 c4
      have d4 := (d2.trans c3).trans c4
      have y3 : Ext none' FC w := fun b hb => (x3 b hb).imp id (Nat.le_trans d2.size)
      clear hD3 hD2 hC3 hD KC KP
      go_wp2_with fail
      go_at_call 31
      refine (KT _ _ _ hC4).mono ?_
      rintro e w5 ⟨k, vs, vr, hk, rfl, os, or_, c5⟩
      obtain rfl := lastAt_snap (fun r hr => by simp at hr) hk
      have hC5 := hC4.keep0 c5
      have d5 := d4.trans c5
      have KS := w_same00 _ (show Bytes _ w5 vs bs from os) (HB.out.kept d5 fun _ _ => id)
      rw [beq_self_eq_true] at KS
      obtain ⟨As, ns, rfl⟩ := (show Bytes _ w5 vs bs from os).shape
      obtain ⟨Ar, nr, rfl, _, _⟩ := (show Recs _ w5 vr [] from or_).shape
      simp only [List.length_nil] at *
      clear hk KT KL hC4
      go_wp2_with fail
      go_at_call 21
      refine KS.mono ?_
      rintro e w6 ⟨rfl, rfl⟩
      clear KS os or_
      go_wp2
      go_loop [18, 19] (fun nv iv => ∃ k : Nat, k ≤ bss.length ∧ iv = .int .i64 k ∧ nv = .int .i64 ((tot (bss.take k) : Nat) : Int)) (fun _ i => bss.length - (intOf i).toNat)
      case atStart => exact ⟨0, Nat.zero_le _, rfl, by simp [tot]⟩
      case round =>
        obtain ⟨k, hk, rfl, rfl⟩ := hrel
        by_cases hlt : k < bss.length
        · obtain ⟨b1, o1, c1', u1, e1, _, ck1, hu1⟩ := Rows.at_ (HM.out.kept d5 fun _ _ => id) hlt
          simp only [Value.slice.injEq] at e1
          obtain ⟨rfl, _, rfl⟩ := e1
          obtain ⟨Au, cu, rfl⟩ := hu1.shape
          have E := Lib.hid (tot_take hlt)
          have hle := tot_take_le bss (k + 1)
          have hle2 := tot_le HMR.out.2
          rw [E.out] at hle
          have hle3 : bss.length * 140737488351232 ≤ 10 * 140737488351232 := Nat.mul_le_mul_right _ HBM.out.2
          have hle4 : tot (bss.take k) + bss[k].length ≤ 1407374883512320 := by omega
          clear hle hle2 hle3 hu1
          have hlk : (k : Int) < bss.length := by omega
          generalize tot (bss.take k) = m at *
          generalize bss[k].length = bl at *
          go_wp2
          go_round
          case rel => exact ⟨k + 1, by omega, by go_num, by rw [E.out]; first | done | simp | (simp; omega)⟩
          case measure => simp [intOf]; omega
        · obtain rfl : k = bss.length := by omega
          rw [List.take_length]
          obtain ⟨N, hN⟩ : ∃ N, tot bss = N := ⟨_, rfl⟩
          rw [hN]
          by_cases hN6 : 600 < N
          · have zN : decide (600 < (N : Int)) = true := decide_eq_true (by omega)
            clear hN6
            go_wp2_with fail
            go_at_call 10
            refine (w_known07 _).mono ?_
            rintro e w6 ⟨rfl, c6⟩
            go_wp2
            go_ret
            exact ⟨rfl, d5.trans c6⟩
          have zN : decide (600 < (N : Int)) = false := decide_eq_false (by omega)
          have HN := Lib.hid (show tot bss ≤ 600 by omega)
          clear hN6 hN
          have K := show Calls Try.prog 12 #[.pointer (some ⟨gc, 0, none⟩), .int .u8 3, .slice Am bss.length cm] w5 _ from w_wappend hC5 3 (HM.out.kept d5 fun _ _ => id) (fun b hb hf => by rcases y3 b hf with z | z; exact z; unfold old' at hb; omega) (fun b hb => by have := HMR.out.2 b hb; omega) HMR.out.1
          rw [wappE_ok (by decide) (fun b hb => by have := tot_mem hb; have := HN.out; omega) (by rw [HS.out.2.2, frames_len, tot_long]; have := HN.out; have := HBM.out; omega)] at K
          simp only [show ((0 : Nat) : Int) = 0 from rfl] at K
          have t1 : (wapp lc 3 bss).l = ⟨0, bs⟩ :: recsOf 3 bss := by show lc.l ++ _ = _; rw [HS.out.1]; rfl
          have t2 : (wapp lc 3 bss).last = 1 := HS.out.2.1
          generalize wapp lc 3 bss = la at K t1 t2
          have hrl : (recsOf 3 bss).length = bss.length := by simp [recsOf]
          have KT := fun W F (x : IsLog F W gc la) => w_wlast x
          have KP := fun W F (x : IsLog F W gc la) => w_wpending x
          rw [t1] at KT
          rw [show (la.l.length : Int) - la.last = bss.length by rw [t1, t2, List.length_cons, hrl]; omega] at KP
          have HRL := Lib.hid hrl
          clear t1 t2 hrl
          go_wp2_with fail
          go_at_call 12
          ((with_reducible refine K.mono ?_))
          rintro e w6 ⟨FD, rfl, hC6, x6, c6⟩
          clear K
          have d6 := d5.ext y3 c6
          clear hC5 c6 x6
          go_wp2_with fail
          go_at_call 31
          refine (KT _ _ hC6).mono ?_
          rintro e w7 ⟨k, vs, vr, hk, rfl, os, or_, c7⟩
          obtain rfl := lastAt_snap (fun r hr => by obtain ⟨b, _, rfl⟩ := List.mem_map.1 hr; show (3 : UInt8) ≠ 0; decide) hk
          have hC7 := hC6.keep0 c7
          have d7 := d6.trans c7
          have KS := w_same00 _ (show Bytes _ w7 vs bs from os) (HB.out.kept d7 fun _ _ => id)
          rw [beq_self_eq_true] at KS
          obtain ⟨As, ns, rfl⟩ := (show Bytes _ w7 vs bs from os).shape
          replace or_ := show Recs _ w7 vr (recsOf 3 bss) from or_
          obtain ⟨Ar, nr, rfl, hnr, hmr⟩ := or_.shape
          unfold maxLen at hmr
          rw [HRL.out] at hnr ⊢
          have HO := Lib.hid or_
          clear hk KT hC6 os or_
          have z7 : ((bss.length : Int) == bss.length) = true := beq_self_eq_true _
          have z8 : ((bss.length : Int) != bss.length) = false := by rw [bne, z7]; rfl
          go_wp2_with fail
          go_at_call 21
          refine KS.mono ?_
          rintro e w8 ⟨rfl, rfl⟩
          clear KS
          go_wp2_with fail
          go_at_call 17
          refine (KP _ _ hC7).mono ?_
          rintro e w8 ⟨rfl, c8⟩
          clear hC7 KP
          have d8 := d7.trans c8
          go_wp2
          go_loopw [20] (fun iv wx => ∃ k : Nat, k ≤ bss.length ∧ iv = .int .i64 k ∧ Chg none' w8 wx) (fun i _ => bss.length - (intOf i).toNat)
          case atStart => exact ⟨0, Nat.zero_le _, rfl, Chg.refl _ _⟩
          case round =>
            obtain ⟨k, hk, rfl, hcx⟩ := hrel
            have dx := d8.trans hcx
            by_cases hlt : k < bss.length
            · obtain ⟨b1, o1, c1', u1, e1, _, ck1, hu1⟩ := Rows.at_ (HM.out.kept dx fun _ _ => id) hlt
              simp only [Value.slice.injEq] at e1
              obtain ⟨rfl, _, rfl⟩ := e1
              obtain ⟨b2, o2, cc, u2, e2, _, ck2, ck3, hu2⟩ := Recs.at_ (HO.out.kept (c8.trans hcx) fun _ _ => id) (i := k) (by have := HRL.out; omega)
              simp only [Value.slice.injEq] at e2
              obtain ⟨rfl, _, rfl⟩ := e2
              have hk3 : (recsOf 3 bss)[k]'(by have := HRL.out; omega) = ⟨3, bss[k]⟩ := by simp [recsOf]
              rw [hk3] at ck2 hu2
              replace ck2 := show _ = some (Value.int .u8 3) from ck2
              have KS := fun n : Nat => w_same00 (wr.drewN n) (hu2.kept (chg_drewN wr n) fun _ _ => id) (hu1.kept (chg_drewN wr n) fun _ _ => id)
              simp only [beq_self_eq_true] at KS
              obtain ⟨Au, cu, rfl⟩ := hu1.shape
              obtain ⟨Av, cv, rfl⟩ := hu2.shape
              have hlk : (k : Int) < bss.length := by omega
              clear hu1 hu2 hk3
              simp only at KS ck3
              go_wp2_with fail
              go_quiet (first | (go_at_call 21; exact Calls.quiet_of_same ((KS _).mono fun _ _ ⟨p, q⟩ => ⟨p, q.symm⟩)))
              go_wp2
              go_roundw
              case rel => exact ⟨k + 1, by omega, by go_num, hcx.trans (chg_drewN wr _)⟩
              case measure => simp [intOf]; omega
            · obtain rfl : k = bss.length := by omega
              go_wp2_with fail
              go_at_call 10
              refine (w_known07 _).mono ?_
              rintro e w9 ⟨rfl, c9⟩
              go_wp2
              go_ret
              exact ⟨rfl, dx.trans c9⟩

end Go.Proofs.Ytclbbddpedcfjaa
