/-
  The walk of WalLasts.
-/
import Derived.Test.YtclbbddpedcfjaaLog8
namespace Go.Proofs.Ytclbbddpedcfjaa
open Go.RowKit

set_option maxRecDepth 1000000 in
set_option maxHeartbeats 4000000 in
theorem walk_WalLasts (w : World) {v : Value} {xs : List Do7} (h : Do7s (old' w) w v xs) (hr : xs.length * 48 ≤ 140737488351232 ∧ ∀ x ∈ xs, In7 x) (a : Int) (ha : (Lit.int .u16 a).wf = true) :
    Calls Try.prog 4 #[v, .int .u16 a] w fun e w' => e = .returned (.bool true) ∧ Chg none' w w' := by
  obtain ⟨a0, a1⟩ := int_u16 ha
  obtain ⟨A, c, rfl, _, hm⟩ := h.shape
  unfold maxLen at hm
  obtain ⟨q, rfl⟩ : ∃ q : Nat, a = q := ⟨a.toNat, by omega⟩
  clear ha
  go_enter Try.func4, Try.ntmps4
  go_wp2_with fail
  refine (w_long07 _ h).mono ?_
  rintro e w1 ⟨⟨lng, rfl⟩, rfl⟩
  by_cases hL : 1000 < lng
  · go_wp2_with fail
    refine (w_known07 _).mono ?_
    rintro e w2 ⟨rfl, c2⟩
    go_wp2
    go_ret
    exact ⟨rfl, c2⟩
  replace hL : decide (1000 < lng) = false := by simpa using hL
  go_wp2_with fail
  refine (w_wnew _).mono ?_
  rintro e w1 ⟨g, F, rfl, hd, xd, c1⟩
  go_wp2
  go_loopw [5, 6] (fun pv iv wr => ∃ k : Nat, k ≤ xs.length ∧ iv = .int .i64 k ∧ LogTo w wr pv (wdos ⟨⟨[], [], 0⟩, [], 0⟩ (xs.take k))) (fun _ i _ => xs.length - (intOf i).toNat)
  case atStart => exact ⟨0, Nat.zero_le _, rfl, g, rfl, c1, F, xd, hd⟩
  case round =>
    clear hd
    obtain ⟨k, hk, rfl, gl, rfl, hchg, Fk, hext, hD⟩ := hrel
    by_cases hlt : k < xs.length
    · obtain ⟨b1, o1, c1', u1, e1, hF1, ck0, ck1, ck2, ck3, hu1⟩ := (h.kept hchg fun _ _ => id).at_ hlt
      simp only [Value.slice.injEq] at e1
      obtain ⟨rfl, _, rfl⟩ := e1
      have hin := hr.2 _ (List.getElem_mem hlt)
      have E := Lib.hid (wdos_take (d := ⟨⟨[], [], 0⟩, [], 0⟩) hlt)
      have hn := wdos_n ⟨⟨[], [], 0⟩, [], 0⟩ (xs.take k)
      rw [List.length_take] at hn
      have K := w_wdo xs[k] hD (by simp only at hn; omega) hu1 (fun b hb hf => by rcases hext b hf with q | q; exact q; unfold old' at hb; omega) hin
      obtain ⟨Au, cu, rfl, _, _⟩ := hu1.shape
      have hlk : (k : Int) < xs.length := by omega
      generalize xs[k] = x at *
      go_wp2_with fail
      ((with_reducible refine K.mono ?_))
      rintro e w2 ⟨g2, F2, rfl, hD2, x2, c2⟩
      clear K
      go_wp2
      go_roundw
      case rel => exact ⟨k + 1, by omega, by go_num, g2, rfl, hchg.ext hext c2, F2, hext.trans x2 hchg.size, by rw [E.out]; exact hD2⟩
      case measure => simp [intOf]; omega
    · obtain rfl : k = xs.length := by omega
      rw [List.take_length] at hD
      generalize wdos ⟨⟨[], [], 0⟩, [], 0⟩ xs = lg at *
      have hok := hD.ok
      have hmax := hD.max
      have hll := len_long lg.l
      have hla := hok.last
      have hdl : lg.d.L.length + lg.d.T.length = long lg.l := by rw [← frames_len, ← hok.all, List.length_append]
      obtain ⟨m, m1, m2, m3, _⟩ := wcrash_recs hok q
      obtain ⟨m', _, _, n3, n4⟩ := wcrash_recs hok 1073741824
      have n5 := n4 (by omega)
      subst n5
      rw [List.take_length] at n3
      have m5 := wopen_last (dcrash lg.d q)
      have KC := fun W (x : IsLog Fk W gl lg) => w_wcrash x q
      have KD := fun W (x : IsLog Fk W gl lg) => w_wcrash x 1073741824
      simp only [show ((1073741824 : Nat) : Int) = 1073741824 from rfl] at KD
      generalize wopen (dcrash lg.d q) = lc at *
      generalize wopen (dcrash lg.d 1073741824) = ld at *
      have HKD := Lib.hid KD
      have HN3 := Lib.hid n3
      clear KD n3 n4
      go_wp2_with fail
      go_at_call 16
      refine (w_wlasting hD).mono ?_
      rintro e w2 ⟨rfl, rfl⟩
      go_wp2_with fail
      go_at_call 14
      refine (w_wrecords hD).mono ?_
      rintro e w2 ⟨va, rfl, oa, c2⟩
      have hD2 := hD.keep0 c2
      obtain ⟨Aa, na, rfl, hna, _⟩ := oa.own.recs.shape
      go_wp2_with fail
      go_at_call 20
      refine (KC _ hD2).mono ?_
      rintro e w3 ⟨gc, F3, rfl, hC3, x3, c3⟩
      have hD3 := hD2.keep0 c3
      have oa3 := oa.keep c3 (fun _ _ => id) (fun _ _ => id)
      have y1 : lg.last ≤ lg.l.length := by omega
      have hlcl : lc.l.length = m := by rw [m3, List.length_take]; omega
      have y2 : lg.last ≤ lc.l.length := by omega
      have y3 : lc.l.length ≤ lg.l.length := by omega
      have HQ := Lib.hid (show lc.l.length ≤ lg.l.length ∧ lc.l = lg.l.take lc.l.length ∧ lc.last = lc.l.length from ⟨by omega, by rw [hlcl]; exact m3, m5⟩)
      clear hlcl m1 m2 m3 m5 hll hla hmax hdl hok
      go_wp2_with fail
      go_at_call 14
      refine (w_wrecords hC3).mono ?_
      rintro e w4 ⟨vr, rfl, or_, c4⟩
      have hD4 := hD3.keep0 c4
      have hC4 := hC3.keep0 c4
      have oa4 := oa3.keep c4 (fun _ _ => id) (fun _ _ => id)
      obtain ⟨q1, q2, q3⟩ := HQ.out
      have sa := Row.hi' oa4.own.recs (j := lc.l.length) (by omega)
      rw [← q2] at sa
      have KS := w_rsame w4 (F := all') (G := all') (rs := lc.l) (qs := lc.l) or_.own.recs sa
      rw [decide_eq_true rfl] at KS
      obtain ⟨Ar, nr, rfl, _, _⟩ := or_.own.recs.shape
      have z4 : (lc.l.length : Int) ≤ na := by omega
      have KP := fun W (x : IsLog F3 W gc lc) => w_wpending x
      rw [q3] at KP
      simp only [Int.sub_self] at KP
      clear q1 q2 q3 KC
      go_wp2_with fail
      go_at_call 15
      refine KS.mono ?_
      rintro e w5 ⟨rfl, c5⟩
      have hD5 := hD4.keep0 c5
      have hC5 := hC4.keep0 c5
      have oa5 := oa4.keep c5 (fun _ _ => id) (fun _ _ => id)
      clear KS sa
      go_wp2_with fail
      go_at_call 17
      refine (KP _ hC5).mono ?_
      rintro e w6 ⟨rfl, c6⟩
      have hD6 := hD5.keep0 c6
      have oa6 := oa5.keep c6 (fun _ _ => id) (fun _ _ => id)
      go_wp2_with fail
      go_at_call 14
      refine (w_wrecords hD6).mono ?_
      rintro e w7 ⟨vw, rfl, ow, c7⟩
      have hD7 := hD6.keep0 c7
      have oa7 := oa6.keep c7 (fun _ _ => id) (fun _ _ => id)
      have KS := w_rsame _ ow.own.recs oa7.own.recs
      rw [decide_eq_true rfl] at KS
      go_wp2_with fail
      go_at_call 15
      refine KS.mono ?_
      rintro e w8 ⟨rfl, c8⟩
      have hD8 := hD7.keep0 c8
      have oa8 := oa7.keep c8 (fun _ _ => id) (fun _ _ => id)
      clear KS
      have z5 : ((lg.last : Int) == lg.last) = true := beq_self_eq_true _
      have z6 : ((lg.last : Int) != lg.last) = false := by rw [bne, z5]; rfl
      go_wp2_with fail
      go_at_call 16
      refine (w_wlasting hD8).mono ?_
      rintro e w9 ⟨rfl, rfl⟩
      have d8 := ((((((hchg.trans c2).trans c3).trans c4).trans c5).trans c6).trans c7).trans c8
      clear hD2 hD3 hD4 hD5 hD6 hD7 oa oa3 oa4 oa5 oa6 oa7 hC3 hC4 hC5 KP
      go_wp2_with fail
      go_at_call 20
      refine (HKD.out _ hD8).mono ?_
      rintro e w9 ⟨ge, F9, rfl, hE9, x9, c9⟩
      have oa9 := oa8.keep c9 (fun _ _ => id) (fun _ _ => id)
      go_wp2_with fail
      go_at_call 14
      refine (w_wrecords hE9).mono ?_
      rintro e w10 ⟨vz, rfl, oz, c10⟩
      rw [HN3.out] at oz
      have KS := w_rsame _ oz.own.recs (oa9.keep c10 (fun _ _ => id) (fun _ _ => id)).own.recs
      rw [decide_eq_true rfl] at KS
      go_wp2_with fail
      go_at_call 15
      refine KS.mono ?_
      rintro e w11 ⟨rfl, c11⟩
      clear KS
      go_wp2_with fail
      go_at_call 10
      refine (w_known07 _).mono ?_
      rintro e w12 ⟨rfl, c12⟩
      go_wp2
      go_ret
      exact ⟨rfl, (((d8.trans c9).trans c10).trans c11).trans c12⟩

end Go.Proofs.Ytclbbddpedcfjaa
