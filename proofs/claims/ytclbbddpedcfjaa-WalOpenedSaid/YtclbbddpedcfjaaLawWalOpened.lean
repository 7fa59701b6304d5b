/-
  The walk of WalOpened.
-/
import Derived.Test.YtclbbddpedcfjaaLog8
import Derived.Test.YtclbbddpedcfjaaScanG
namespace Go.Proofs.Ytclbbddpedcfjaa
open Go.RowKit

set_option maxRecDepth 1000000 in
set_option maxHeartbeats 4000000 in
theorem walk_WalOpened (w : World) {v : Value} {xs : List Do7} (h : Do7s (old' w) w v xs) (hr : xs.length * 48 ≤ 140737488351232 ∧ ∀ x ∈ xs, In7 x) :
    Calls Try.prog 6 #[v] w fun e w' => e = .returned (.bool true) ∧ Chg none' w w' := by
  obtain ⟨A, c, rfl, _, hm⟩ := h.shape
  unfold maxLen at hm
  go_enter Try.func6, Try.ntmps6
  go_wp2_with fail
  refine (w_long07 _ h).mono ?_
  rintro e w1 ⟨⟨lng, rfl⟩, rfl⟩
  by_cases hL : 1000 < lng
  · go_wp2_with fail
    refine (w_known07 _).mono ?_
    rintro e w2 ⟨rfl, c2⟩
    go_wp2
    go_ret
    exact ⟨rfl, c2⟩
  replace hL : decide (1000 < lng) = false := by simpa using hL
  go_wp2_with fail
  refine (w_wnew _).mono ?_
  rintro e w1 ⟨g, F, rfl, hd, xd, c1⟩
  go_wp2
  go_loopw [3, 4] (fun pv iv wr => ∃ k : Nat, k ≤ xs.length ∧ iv = .int .i64 k ∧ LogTo w wr pv (wdos ⟨⟨[], [], 0⟩, [], 0⟩ (xs.take k))) (fun _ i _ => xs.length - (intOf i).toNat)
  case atStart => exact ⟨0, Nat.zero_le _, rfl, g, rfl, c1, F, xd, hd⟩
  case round =>
    clear hd
    obtain ⟨k, hk, rfl, gl, rfl, hchg, Fk, hext, hD⟩ := hrel
    by_cases hlt : k < xs.length
    · obtain ⟨b1, o1, c1', u1, e1, hF1, ck0, ck1, ck2, ck3, hu1⟩ := (h.kept hchg fun _ _ => id).at_ hlt
      simp only [Value.slice.injEq] at e1
      obtain ⟨rfl, _, rfl⟩ := e1
      have hin := hr.2 _ (List.getElem_mem hlt)
      have E := Lib.hid (wdos_take (d := ⟨⟨[], [], 0⟩, [], 0⟩) hlt)
      have hn := wdos_n ⟨⟨[], [], 0⟩, [], 0⟩ (xs.take k)
      rw [List.length_take] at hn
      have K := w_wdo xs[k] hD (by simp only at hn; omega) hu1 (fun b hb hf => by rcases hext b hf with q | q; exact q; unfold old' at hb; omega) hin
      obtain ⟨Au, cu, rfl, _, _⟩ := hu1.shape
      have hlk : (k : Int) < xs.length := by omega
      generalize xs[k] = x at *
      go_wp2_with fail
      ((with_reducible refine K.mono ?_))
      rintro e w2 ⟨g2, F2, rfl, hD2, x2, c2⟩
      clear K
      go_wp2
      go_roundw
      case rel => exact ⟨k + 1, by omega, by go_num, g2, rfl, hchg.ext hext c2, F2, hext.trans x2 hchg.size, by rw [E.out]; exact hD2⟩
      case measure => simp [intOf]; omega
    · obtain rfl : k = xs.length := by omega
      rw [List.take_length] at hD
      generalize wdos ⟨⟨[], [], 0⟩, [], 0⟩ xs = lg at *
      have z0 : ((lg.d.L ++ lg.d.T).length : Int) - (scan (lg.d.L ++ lg.d.T)).2.1 = 0 := by rw [(wopen_self hD.ok).2.2.2, hD.ok.all, frames_len]; omega
      have KO := fun W gd FD (x : IsDisk FD W gd lg.d) => w_wopenG x
      rw [z0] at KO
      have HS := Lib.hid (wopen_self hD.ok)
      have HA := Lib.hid hD.ok.all
      have HM := Lib.hid (show lg.last ≤ lg.l.length ∧ lg.l.length ≤ 4194304 from ⟨hD.ok.last, Nat.le_trans (len_long lg.l) hD.max⟩)
      clear z0
      generalize wopen lg.d = lc at *
      go_wp2_with fail
      go_at_call 22
      refine (w_wdisk hD).mono ?_
      rintro e w2 ⟨gd, FD, rfl, hK, xK, c2⟩
      go_wp2_with fail
      go_at_call 23
      refine (KO _ _ _ hK).mono ?_
      rintro e w3 ⟨gc, FC, rfl, hC, xC, c3, hCk⟩
      clear KO
      have hK3 := hK.keep c3 fun _ _ => id
      have b1 : Bytes (fun b => w3.heap.size ≤ b) (w3.alloc (.cells #[.int .u8 1, .int .u8 2, .int .u8 3] 5)) (.slice (some ⟨w3.heap.size, 0, none⟩) 3 3) [1, 2, 3] := bytes_constG (bs := [1, 2, 3]) (n := 3) rfl (by decide) rfl (Nat.le_refl _) rfl
      have cA : Chg none' w3 (w3.alloc (.cells #[.int .u8 1, .int .u8 2, .int .u8 3] 5)) := (Chg.refl _ _).alloc _
      have K := show Calls Try.prog 24 #[.pointer (some ⟨gd, 0, none⟩), .slice (some ⟨w3.heap.size + 1, 0, none⟩) 1 1] ((w3.alloc (.cells #[.int .u8 1, .int .u8 2, .int .u8 3] 5)).alloc (.cells #[.slice (some ⟨w3.heap.size, 0, none⟩) 3 3] 23)) _ from w_dapp1 (hK3.keep cA fun _ _ => id) b1 (by simp) (fun b hb hf => by have := hK3.flt b hf; omega) (by simp)
      generalize dappE lg.d [1, 2, 3] = de at K
      have cB : Chg FD w3 (w3.alloc (.cells #[.int .u8 1, .int .u8 2, .int .u8 3] 5)) := cA.mono fun _ _ => False.elim
      go_wp2_with fail
      ((with_reducible refine K.mono ?_))
      rintro e w4 ⟨FD4, rfl, hK4, xK4, c4⟩
      have c34 := cB.trans c4
      have d4 : Chg none' wr w4 := (c2.trans c3).ext xK c34
      have hC4 := hCk FD w4 c34 fun b hb => hK.flt b hb
      have hD4 := hD.keep0 d4
      clear K cB b1 cA c34 hCk hC hD hK hK3 hK4 c4 c2 c3 xK4
      obtain ⟨s1, s2, s3, s4⟩ := HS.out
      have KR := fun W (x : IsLog FC W gc lc) => w_wrecords x
      have KP := fun W (x : IsLog FC W gc lc) => w_wpending x
      have KL := fun W (x : IsLog FC W gc lc) => w_wlasting x
      have KQ := fun W (x : IsLog Fk W gl lg) => w_wpending x
      have KB := fun W gd FD (x : IsDisk FD W gd lc.d) => w_lasting x
      have KV := fun W gd FD (x : IsDisk FD W gd lg.d) => w_dbytes x
      rw [s1] at KR
      rw [s1, s2] at KP
      simp only [Int.sub_self] at KP
      rw [s2] at KL
      rw [s3] at KB
      rw [HA.out] at KV
      obtain ⟨m1, m2⟩ := HM.out
      obtain ⟨p, hp⟩ : ∃ p : Nat, lg.l.length = lg.last + p := ⟨lg.l.length - lg.last, by omega⟩
      rw [show (lg.l.length : Int) - lg.last = p by omega] at KQ
      have z3 : ((lg.l.length : Int) == (lg.last : Int) + p) = true := by rw [beq_iff_eq]; omega
      have z4 : ((lg.l.length : Int) != (lg.last : Int) + p) = false := by rw [bne, z3]; rfl
      have y1 : (lg.last : Int) + p ≤ 4194304 := by omega
      clear s1 s2 s3 s4 m1 m2 hp HS HM HA
      go_wp2_with fail
      go_at_call 14
      refine (KR _ hC4).mono ?_
      rintro e w5 ⟨vc, rfl, oc, c5⟩
      have hC5 := hC4.keep0 c5
      have hD5 := hD4.keep0 c5
      go_wp2_with fail
      go_at_call 14
      refine (w_wrecords hD5).mono ?_
      rintro e w6 ⟨vw, rfl, ow, c6⟩
      have hC6 := hC5.keep0 c6
      have hD6 := hD5.keep0 c6
      have KS := w_rsame _ (oc.keep c6 (fun _ _ => id) (fun _ _ => id)).own.recs ow.own.recs
      rw [decide_eq_true rfl] at KS
      go_wp2_with fail
      go_at_call 15
      refine KS.mono ?_
      rintro e w7 ⟨rfl, c7⟩
      have hC7 := hC6.keep0 c7
      have hD7 := hD6.keep0 c7
      clear KS
      go_wp2_with fail
      go_at_call 17
      refine (KP _ hC7).mono ?_
      rintro e w8 ⟨rfl, c8⟩
      have hC8 := hC7.keep0 c8
      have hD8 := hD7.keep0 c8
      go_wp2_with fail
      go_at_call 16
      refine (KL _ hC8).mono ?_
      rintro e w9 ⟨rfl, rfl⟩
      go_wp2_with fail
      go_at_call 16
      refine (w_wlasting hD8).mono ?_
      rintro e w9 ⟨rfl, rfl⟩
      go_wp2_with fail
      go_at_call 17
      refine (KQ _ hD8).mono ?_
      rintro e w9 ⟨rfl, c9⟩
      have hC9 := hC8.keep0 c9
      have hD9 := hD8.keep0 c9
      have d9 := ((((hchg.trans d4).trans c5).trans c6).trans c7).trans (c8.trans c9)
      clear hD4 hD5 hD6 hD7 hD8 hC4 hC5 hC6 hC7 hC8 oc ow KR KP KL KQ
      go_wp2_with fail
      go_at_call 22
      refine (w_wdisk hD9).mono ?_
      rintro e w10 ⟨gv, FV, rfl, hV, xV, c10⟩
      go_wp2_with fail
      go_at_call 22
      refine (w_wdisk (hC9.keep0 c10)).mono ?_
      rintro e w11 ⟨gx, FX, rfl, hX, xX, c11⟩
      have hV11 := hV.keep c11 fun _ _ => id
      go_wp2_with fail
      go_at_call 25
      refine (KB _ _ _ hX).mono ?_
      rintro e w12 ⟨vx, rfl, ox, c12⟩
      have hV12 := hV11.keep c12 fun _ _ => id
      go_wp2_with fail
      go_at_call 26
      refine (KV _ _ _ hV12).mono ?_
      rintro e w13 ⟨vv, rfl, ov, c13⟩
      have KS := w_same00 _ (ox.keep c13 fun _ => none_own).bytes ov.bytes
      rw [beq_self_eq_true] at KS
      go_wp2_with fail
      go_at_call 21
      refine KS.mono ?_
      rintro e w14 ⟨rfl, rfl⟩
      clear KS
      go_wp2_with fail
      go_at_call 10
      refine (w_known07 _).mono ?_
      rintro e w15 ⟨rfl, c15⟩
      go_wp2
      go_ret
      exact ⟨rfl, (((((d9.trans c10).trans c11).trans c12).trans c13).trans c15)⟩

end Go.Proofs.Ytclbbddpedcfjaa
