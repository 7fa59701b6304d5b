/-
  The walk of WalKinds.
-/
import Derived.Test.YtclbbddpedcfjaaLong7
namespace Go.Proofs.Ytclbbddpedcfjaa
open Go.RowKit

set_option maxRecDepth 1000000 in
set_option maxHeartbeats 4000000 in
theorem walk_WalKinds (w : World) {v : Value} {xs : List Do7} (h : Do7s (old' w) w v xs) (hr : xs.length * 48 ≤ 140737488351232 ∧ ∀ x ∈ xs, In7 x) (hbk : (xs.map wt7).sum + 1 ≤ 1048576) (kd : Int) (hkd : (Lit.int .u8 kd).wf = true) {u : Value} {bs : List UInt8} (hb : Bytes (old' w) w u bs) (hbl : bs.length ≤ 140737488351232) (_ : bs.length + 1 ≤ 1048576) :
    Calls Try.prog 5 #[v, .int .u8 kd, u] w fun e w' => e = .returned (.bool true) ∧ Chg none' w w' := by
  obtain ⟨A, c, rfl, _, hm⟩ := h.shape
  unfold maxLen at hm
  obtain ⟨kd, rfl⟩ := int_u8 hkd
  clear hkd
  obtain ⟨Ab, cb, rfl⟩ := hb.shape
  have hLb := long7_bulk xs
  go_enter Try.func5, Try.ntmps5
  go_wp2_with fail
  refine (w_long07x _ h hbk).mono ?_
  rintro e w1 ⟨rfl, rfl⟩
  obtain ⟨L, hLe⟩ : ∃ L, long7 xs = L := ⟨_, rfl⟩
  rw [hLe] at hLb ⊢
  by_cases hL : 800 < L
  · go_wp2_with fail
    refine (w_known07 _).mono ?_
    rintro e w2 ⟨rfl, c2⟩
    go_wp2
    go_ret
    exact ⟨rfl, c2⟩
  by_cases hB : 300 < bs.length
  · go_wp2_with fail
    refine (w_known07 _).mono ?_
    rintro e w2 ⟨rfl, c2⟩
    go_wp2
    go_ret
    exact ⟨rfl, c2⟩
  replace hL : L ≤ 800 := by omega
  replace hB : bs.length ≤ 300 := by omega
  clear hLb
  go_wp2_with fail
  refine (w_wnew _).mono ?_
  rintro e w1 ⟨g, F, rfl, hd, xd, c1⟩
  go_wp2
  go_loopw [7, 8] (fun pv iv wr => ∃ k : Nat, k ≤ xs.length ∧ iv = .int .i64 k ∧ LogTo w wr pv (wdos ⟨⟨[], [], 0⟩, [], 0⟩ (xs.take k)) ∧ long (wdos ⟨⟨[], [], 0⟩, [], 0⟩ (xs.take k)).l ≤ 10 + long7 (xs.take k)) (fun _ i _ => xs.length - (intOf i).toNat)
  case atStart => exact ⟨0, Nat.zero_le _, rfl, ⟨g, rfl, c1, F, xd, hd⟩, by simp [wdos, long]⟩
  case round =>
    clear hd
    obtain ⟨k, hk, rfl, ⟨gl, rfl, hchg, Fk, hext, hD⟩, hlg⟩ := hrel
    by_cases hlt : k < xs.length
    · obtain ⟨b1, o1, c1', u1, e1, hF1, ck0, ck1, ck2, ck3, hu1⟩ := (h.kept hchg fun _ _ => id).at_ hlt
      simp only [Value.slice.injEq] at e1
      obtain ⟨rfl, _, rfl⟩ := e1
      have hin := hr.2 _ (List.getElem_mem hlt)
      have E := Lib.hid (wdos_take (d := ⟨⟨[], [], 0⟩, [], 0⟩) hlt)
      have hn := wdos_n ⟨⟨[], [], 0⟩, [], 0⟩ (xs.take k)
      rw [List.length_take] at hn
      have E2 := Lib.hid (long7_take hlt)
      have hl2 := wdo_long _ hD.ok xs[k] _ hlg
      have K := w_wdo xs[k] hD (by simp only at hn; omega) hu1 (fun b hb hf => by rcases hext b hf with q | q; exact q; unfold old' at hb; omega) hin
      obtain ⟨Au, cu, rfl, _, _⟩ := hu1.shape
      have hlk : (k : Int) < xs.length := by omega
      generalize long7 (xs.take k) = M at *
      have HL2 := Lib.hid hl2
      clear hl2 hlg
      generalize xs[k] = x at *
      go_wp2_with fail
      ((with_reducible refine K.mono ?_))
      rintro e w2 ⟨g2, F2, rfl, hD2, x2, c2⟩
      clear K
      go_wp2
      go_roundw
      case rel => exact ⟨k + 1, by omega, by go_num, ⟨g2, rfl, hchg.ext hext c2, F2, hext.trans x2 hchg.size, by rw [E.out]; exact hD2⟩, by rw [E.out, E2.out]; exact HL2.out⟩
      case measure => simp [intOf]; omega
    · obtain rfl : k = xs.length := by omega
      rw [List.take_length] at hD hlg
      rw [hLe] at hlg
      generalize wdos ⟨⟨[], [], 0⟩, [], 0⟩ xs = lg at *
      have hal : lg.d.L.length + lg.d.T.length = long lg.l := by rw [← List.length_append, hD.ok.all, frames_len]
      obtain ⟨p, hp⟩ : ∃ p : Nat, lg.l.length = lg.last + p := ⟨lg.l.length - lg.last, by have := hD.ok.last; omega⟩
      have hll := len_long lg.l
      have KP := fun W F (x : IsLog F W gl lg) => w_wpending x
      rw [show (lg.l.length : Int) - lg.last = p by omega] at KP
      have y1 : (lg.last : Int) + p ≤ 4194304 := by omega
      have HA := Lib.hid (show long lg.l ≤ 810 ∧ lg.d.L.length + lg.d.T.length = long lg.l ∧ lg.l.length = lg.last + p from ⟨by omega, hal, hp⟩)
      clear hll hal hp hlg hLe
      go_wp2_with fail
      go_at_call 16
      refine (w_wlasting hD).mono ?_
      rintro e w2 ⟨rfl, rfl⟩
      go_wp2_with fail
      go_at_call 17
      refine (KP _ _ hD).mono ?_
      rintro e w2 ⟨rfl, c2⟩
      have hD2 := hD.keep0 c2
      have d2 := hchg.trans c2
      have hx2 : Ext none' Fk w := hext
      have hbt := hb.kept d2 fun _ _ => id
      have cA : Chg none' w2 (w2.alloc (.cells #[.slice Ab bs.length cb] 23)) := (Chg.refl _ _).alloc _
      have r1 := rows_lit1G (t := 23) (G := fun b => old' w b ∨ w2.heap.size ≤ b) (Row.mono hbt fun _ _ => .inl) (.inr (Nat.le_refl _)) rfl
      have K := show Calls Try.prog 12 #[.pointer (some ⟨gl, 0, none⟩), .int .u8 (kd.toNat : Int), .slice (some ⟨w2.heap.size, 0, none⟩) 1 1] (w2.alloc (.cells #[.slice Ab bs.length cb] 23)) _ from w_wappend (hD2.keep0 cA) kd r1 (fun b hb hf => by
        rcases hb with q | q
        · rcases hext b hf with z | z
          · exact z
          · unfold old' at q; omega
        · have := hD2.flt b hf; omega) (by simp; omega) (by simp)
      clear r1
      by_cases hk0 : kd = 0
      · unfold wappE at K
        rw [if_pos hk0] at K
        simp only [show ((2 : Nat) : Int) = 2 from rfl] at K
        have z0 : ((kd.toNat : Int) == 0) = true := by rw [hk0]; rfl
        clear hk0
        go_wp2_with fail
        go_at_call 12
        ((with_reducible refine K.mono ?_))
        rintro e w3 ⟨F3, rfl, hD3, x3, c3⟩
        clear K
        have d3 := d2.ext hext ((cA.mono fun _ _ => False.elim).trans c3)
        go_wp2_with fail
        go_at_call 16
        refine (w_wlasting hD3).mono ?_
        rintro e w4 ⟨rfl, rfl⟩
        go_wp2_with fail
        go_at_call 17
        refine (KP _ _ hD3).mono ?_
        rintro e w4 ⟨rfl, c4⟩
        go_wp2_with fail
        go_at_call 10
        refine (w_known07 _).mono ?_
        rintro e w5 ⟨rfl, c5⟩
        go_wp2
        go_ret
        exact ⟨rfl, (d3.trans c4).trans c5⟩
      · rw [wappE_ok hk0 (fun b hb => by simp at hb; subst hb; omega) (by rw [HA.out.2.1, frames_len, long_recsOf]; have := HA.out.1; simp; omega)] at K
        simp only [show ((0 : Nat) : Int) = 0 from rfl] at K
        have z0 : ((kd.toNat : Int) == 0) = false := ne_byte (b := 0) hk0
        clear hk0 KP
        obtain ⟨lh, hlh⟩ : ∃ l, wapp lg kd [bs] = l := ⟨_, rfl⟩
        have g1 : lh.l = lg.l ++ [⟨kd, bs⟩] := by rw [← hlh]; simp [wapp, recsOf]
        have g2 : lh.last = lg.last := by rw [← hlh]; rfl
        rw [hlh] at K
        clear hlh
        have g3 : lh.l.length = lg.last + p + 1 := by rw [g1, List.length_append, List.length_singleton, HA.out.2.2]
        have g4 : ∀ hh : lg.last + p < lh.l.length, lh.l[lg.last + p]'hh = ⟨kd, bs⟩ := fun hh => by
          have e := HA.out.2.2
          rw [List.getElem_of_eq g1, List.getElem_append_right (by omega)]
          simp [e]
        have KL := fun W F (x : IsLog F W gl lh) => w_wlasting x
        have KP := fun W F (x : IsLog F W gl lh) => w_wpending x
        have KR := fun W F (x : IsLog F W gl lh) => w_wrecords x
        rw [show (lh.l.length : Int) - lh.last = (p : Int) + 1 by omega] at KP
        rw [g2] at KL
        clear g1 g2
        generalize lh.l = L' at KR g3 g4
        have z1 : ((L'.length : Int) == (lg.last : Int) + p + 1) = true := by rw [beq_iff_eq]; omega
        have y2 : (lg.last : Int) + p < L'.length := by omega
        have ht : ((lg.last : Int) + p).toNat = lg.last + p := by omega
        have G3 := Lib.hid g3
        have G4 := Lib.hid g4
        clear g4 g3
        go_wp2_with fail
        go_at_call 12
        ((with_reducible refine K.mono ?_))
        rintro e w3 ⟨F3, rfl, hD3, x3, c3⟩
        clear K
        have d3 := d2.ext hext ((cA.mono fun _ _ => False.elim).trans c3)
        go_wp2_with fail
        go_at_call 14
        refine (KR _ _ hD3).mono ?_
        rintro e w4 ⟨vr, rfl, or_, c4⟩
        have hD4 := hD3.keep0 c4
        go_wp2_with fail
        go_at_call 16
        refine (KL _ _ hD4).mono ?_
        rintro e w5 ⟨rfl, rfl⟩
        go_wp2_with fail
        go_at_call 17
        refine (KP _ _ hD4).mono ?_
        rintro e w5 ⟨rfl, c5⟩
        have d5 := (d3.trans c4).trans c5
        have hb5 := hb.kept d5 fun _ _ => id
        obtain ⟨b1, o1, cc, u1, rfl, _, ck, cu, hu⟩ := Recs.at_ (or_.keep c5 (fun _ _ => id) (fun _ _ => id)).own.recs (i := lg.last + p) (by have := G3.out; omega)
        rw [G4.out (by have := G3.out; omega)] at ck hu
        have KS := w_same00 _ hu hb5
        rw [beq_self_eq_true] at KS
        obtain ⟨Au, cv, rfl⟩ := hu.shape
        clear hu or_ hbt KR KL KP hD2 hD3 hD4
        go_wp2_with fail
        go_at_call 21
        refine KS.mono ?_
        rintro e w6 ⟨rfl, rfl⟩
        clear KS
        go_wp2_with fail
        go_at_call 10
        refine (w_known07 _).mono ?_
        rintro e w6 ⟨rfl, c6⟩
        go_wp2
        go_ret
        exact ⟨rfl, d5.trans c6⟩

end Go.Proofs.Ytclbbddpedcfjaa
