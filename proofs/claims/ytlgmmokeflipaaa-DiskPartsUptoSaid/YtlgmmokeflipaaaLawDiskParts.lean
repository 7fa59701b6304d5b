/-
  The walk of DiskParts.
-/
import Derived.Test.YtlgmmokeflipaaaLawDiskSyncs
namespace Go.Proofs.Ytlgmmokeflipaaa
open Go.RowKit

/-- One disk is done to; another one stays. -/
def Beside (w wr : World) (g1 : Nat) (d1 : Dk) (g2 : Nat) (d2 : Dk) : Prop :=
  Chg none' w wr ∧ ∃ F1 F2, Ext none' F1 w ∧ Ext none' F2 w ∧ (∀ b, F1 b → ¬ F2 b) ∧ IsDisk F1 wr g1 d1 ∧ IsDisk F2 wr g2 d2
theorem Beside.step {w wr w2 : World} {g1 g2 : Nat} {d1 d2' : Dk} {F1 F2 F3 : Nat → Prop} (h : Chg none' w wr) (x1 : Ext none' F1 w) (x2 : Ext none' F2 w) (dis : ∀ b, F1 b → ¬ F2 b) (h1 : IsDisk F1 wr g1 d1) (h2 : IsDisk F3 w2 g2 d2') (x3 : Ext F2 F3 wr) (c : Chg F2 wr w2) :
    Beside w w2 g1 d1 g2 d2' :=
  ⟨h.ext x2 c, F1, F3, x1, x2.trans x3 h.size, fun b hb h3 => by
    rcases x3 b h3 with q | q
    · exact dis b hb q
    · have := h1.flt b hb; omega, h1.keep c fun b hb => dis b hb, h2⟩

theorem flen_bulk (bss : List (List UInt8)) (k : Nat) (h : k ≤ bss.length) : k + flen (bss.take k) ≤ (bss.map fun b => b.length + 1).sum := by
  induction bss generalizing k with
  | nil => simp at h; subst h; simp [flen]
  | cons b r ih =>
    cases k with
    | zero => simp [flen]
    | succ k =>
      have := ih k (by simpa using h)
      simp only [List.take_succ_cons, List.map_cons, List.sum_cons] at *
      unfold flen at *
      simp only [List.flatten_cons, List.length_append]
      omega

set_option maxRecDepth 100000 in
set_option maxHeartbeats 4000000 in
theorem walk_DiskParts (w : World) {u : Value} {bss : List (List UInt8)} (hb : Rows (old' w) w u bss) (hbr : bss.length * 24 ≤ 140737488351232 ∧ ∀ b ∈ bss, b.length ≤ 140737488351232) (hbb : (bss.map fun b => b.length + 1).sum + 1 ≤ 1048576)
    {v : Value} {xs : List Do6} (h : Do6s (old' w) w v xs) (hr : xs.length * 40 ≤ 140737488351232 ∧ ∀ x ∈ xs, x.b.length ≤ 140737488351232) (_ : (xs.map fun x => x.b.length + 3).sum + 1 ≤ 1048576) :
    Calls Try.prog 8 #[u, v] w fun e w' => e = .returned (.bool true) ∧ Chg none' w w' := by
  obtain ⟨A, c, rfl, _, hm⟩ := h.shape
  obtain ⟨B, cb, rfl, _, hmb⟩ := hb.shape
  unfold maxLen at hm hmb
  have hfb := flen_bulk bss bss.length (Nat.le_refl _)
  rw [List.take_length] at hfb
  go_enter Try.func8, Try.ntmps8
  go_wp2
  go_loop [5, 6] (fun nv iv => ∃ k : Nat, k ≤ bss.length ∧ iv = .int .i64 k ∧ nv = .int .i64 ((k + flen (bss.take k) : Nat) : Int)) (fun _ i => bss.length - (intOf i).toNat)
  case atStart => exact ⟨0, Nat.zero_le _, rfl, by simp [flen]⟩
  case round =>
    obtain ⟨k, hk, rfl, rfl⟩ := hrel
    by_cases hlt : k < bss.length
    · obtain ⟨b1, o1, c1', u1, e1, _, ck1, hu1⟩ := hb.at_ hlt
      simp only [Value.slice.injEq] at e1
      obtain ⟨rfl, _, rfl⟩ := e1
      obtain ⟨Au, cu, rfl⟩ := hu1.shape
      have E := Lib.hid (flen_take hlt)
      have hle := flen_le bss (k + 1)
      rw [E.out] at hle
      generalize flen (bss.take k) = m at *
      generalize bss[k].length = bl at *
      go_wp2
      go_round
      case rel => exact ⟨k + 1, by omega, by go_num, by rw [E.out]; simp; omega⟩
      case measure => simp [intOf]; omega
    · obtain rfl : k = bss.length := by omega
      rw [List.take_length]
      by_cases hN : 1000 < bss.length + flen bss
      · have z1 : (1000 : Int) < (bss.length : Int) + flen bss := by omega
        go_wp2_with fail
        go_at_call 9
        refine (w_known06 _).mono ?_
        rintro e w2 ⟨rfl, c2⟩
        go_wp2
        go_ret
        exact ⟨rfl, c2⟩
      have z1 : ¬ (1000 : Int) < (bss.length : Int) + flen bss := by omega
      go_wp2_with fail
      refine (w_long06 _ h).mono ?_
      rintro e w1 ⟨⟨t, rfl⟩, rfl⟩
      cases t
      · go_wp2_with fail
        go_at_call 17
        refine (w_new _).mono ?_
        rintro e w1 ⟨gd, F, rfl, hd, xd, c1⟩
        have hb1 := hb.kept c1 fun _ _ => id
        have K := w_dappend_yes hd hb1 (fun b hb => by have := hbr.2 b hb; omega) (fun b hb hf => by rcases xd b hf with e | e; exact e; unfold old' at hb; omega) (by simp; omega)
        rw [show dapp (⟨[], [], 0⟩ : Dk) bss.flatten = ⟨[], bss.flatten, 0⟩ by simp [dapp]] at K
        go_wp2_with fail
        go_at_call 12
        refine K.mono ?_
        rintro e w2 ⟨F2, rfl, hd2, x2, c2⟩
        clear K
        have d2 := c1.ext xd c2
        have y2 := xd.trans x2 c1.size
        go_wp2_with fail
        go_at_call 17
        refine (w_new _).mono ?_
        rintro e w3 ⟨go, F3, rfl, ho3, xo, c3⟩
        have hd3 := hd2.keep c3 fun _ _ => id
        have dis : ∀ b, F2 b → ¬ F3 b := fun b hb h3 => by rcases xo b h3 with e | e; exact e; have := hd2.flt b hb; omega
        go_wp2
        clear z1
        go_loopw [10] (fun iv wr => ∃ k : Nat, k ≤ bss.length ∧ iv = .int .i64 k ∧ Beside w wr gd ⟨[], bss.flatten, 0⟩ go (dapp ⟨[], [], 0⟩ (bss.take k).flatten)) (fun i _ => bss.length - (intOf i).toNat)
        case atStart => exact ⟨0, Nat.zero_le _, rfl, d2.trans c3, F2, F3, y2, fun b hb => (xo b hb).imp id (Nat.le_trans d2.size), dis, hd3, by simpa [dapp] using ho3⟩
        case round =>
          obtain ⟨k, hk, rfl, hchg, G1, G2, e1, e2, dis, hD, hO⟩ := hrel
          by_cases hlt : k < bss.length
          · obtain ⟨b1, o1, c1', u1, eu, _, ck1, hu1⟩ := (hb.kept hchg fun _ _ => id).at_ hlt
            simp only [Value.slice.injEq] at eu
            obtain ⟨rfl, _, rfl⟩ := eu
            have hbl := hbr.2 _ (List.getElem_mem hlt)
            have E := Lib.hid (flat_take hlt)
            have hle := flen_le bss (k + 1)
            rw [flen_take hlt] at hle
            have hfl : flen (bss.take k) = (bss.take k).flatten.length := rfl
            have hG : ∀ b, old' w b → ¬ G2 b := fun b hb hf => by rcases e2 b hf with q | q; exact q; unfold old' at hb; omega
            have K := w_dapp1 (gg := wr.heap.size) (t := 22) hO hu1 (by omega) hG rfl
            rw [dappE_in (by simp only [dapp, List.length_nil, List.nil_append]; omega)] at K
            obtain ⟨Au, cu, rfl⟩ := hu1.shape
            clear hfl hle
            generalize bss[k] = bk at *
            go_wp2_with fail
            go_at_call 12
            refine K.mono ?_
            rintro e w4 ⟨F4, rfl, hO4, x4, c4⟩
            clear K
            go_wp2
            go_roundw
            case rel => exact ⟨k + 1, by omega, by go_num, by rw [E.out, dapp_app]; exact Beside.step hchg e1 e2 dis hD hO4 x4 c4⟩
            case measure => simp [intOf]; omega
          · obtain rfl : k = bss.length := by omega
            rw [List.take_length] at hO
            have hlk := flen_le bss bss.length
            obtain ⟨fb, hfbl⟩ : ∃ fb, bss.flatten = fb := ⟨_, rfl⟩
            have hfl : fb.length ≤ 1000 := by rw [← hfbl]; show flen bss ≤ 1000; omega
            rw [hfbl] at hO hD
            rw [show dapp (⟨[], [], 0⟩ : Dk) fb = ⟨[], fb, 0⟩ by simp [dapp]] at hO
            go_wp2_with fail
            go_at_call 25
            refine (w_dcopy hD).mono ?_
            rintro e w4 ⟨gc, F4, rfl, hC4, xc, c4⟩
            have hD4 := hD.keep c4 fun _ _ => id
            have hO4 := hO.keep c4 fun _ _ => id
            have disD : ∀ b, G1 b → ¬ F4 b := fun b hb h3 => by rcases xc b h3 with e | e; exact e; have := hD.flt b hb; omega
            have disO : ∀ b, G2 b → ¬ F4 b := fun b hb h3 => by rcases xc b h3 with e | e; exact e; have := hO.flt b hb; omega
            have d4 := hchg.trans c4
            have x4 : Ext none' F4 w := fun b hb => (xc b hb).imp id (Nat.le_trans hchg.size)
            go_wp2_with fail
            go_at_call 18
            refine (w_dbytes hC4).mono ?_
            rintro e w5 ⟨v5, rfl, o5, c5⟩
            have hD5 := hD4.keep c5 fun _ _ => id
            have hO5 := hO4.keep c5 fun _ _ => id
            have hC5 := hC4.keep c5 fun _ _ => id
            go_wp2_with fail
            go_at_call 18
            refine (w_dbytes hD5).mono ?_
            rintro e w6 ⟨v6, rfl, o6, c6⟩
            have hD6 := hD5.keep c6 fun _ _ => id
            have hO6 := hO5.keep c6 fun _ _ => id
            have hC6 := hC5.keep c6 fun _ _ => id
            go_wp2_with fail
            go_at_call 15
            refine (w_same00 _ (o5.keep c6 fun _ => none_own).bytes o6.bytes).mono ?_
            rintro e w7 ⟨rfl, rfl⟩
            rw [beq_self_eq_true]
            go_wp2_with fail
            go_at_call 21
            refine (w_syncs hC6).mono ?_
            rintro e w7 ⟨rfl, rfl⟩
            go_wp2_with fail
            go_at_call 21
            refine (w_syncs hD6).mono ?_
            rintro e w7 ⟨rfl, rfl⟩
            have d6 := (d4.trans c5).trans c6
            clear hD4 hD5 hO4 hO5 hC4 hC5 hD hO
            go_wp2
            go_loopw [12] (fun iv wr => ∃ k : Nat, k ≤ xs.length ∧ iv = .int .i64 k ∧ Chg none' w wr ∧ IsDisk G1 wr gd ⟨[], fb, 0⟩ ∧ IsDisk G2 wr go ⟨[], fb, 0⟩ ∧ ∃ FC, Ext none' FC w ∧ (∀ b, G1 b ∨ G2 b → ¬ FC b) ∧ IsDisk FC wr gc (ddos ⟨[], fb, 0⟩ (xs.take k))) (fun i _ => xs.length - (intOf i).toNat)
            case atStart => exact ⟨0, Nat.zero_le _, rfl, d6, hD6, hO6, F4, x4, fun b hb => hb.elim (disD b) (disO b), hC6⟩
            case round =>
              obtain ⟨k, hk, rfl, hchg, hD, hO, FC, hext, dis, hC⟩ := hrel
              by_cases hlt : k < xs.length
              · obtain ⟨b1, o1, c1', u1, e1, hF1, ck0, ck1, ck2, hu1⟩ := (h.kept hchg fun _ _ => id).at_ hlt
                simp only [Value.slice.injEq] at e1
                obtain ⟨rfl, _, rfl⟩ := e1
                have hb := hr.2 _ (List.getElem_mem hlt)
                have E := Lib.hid (ddos_take (d := ⟨[], fb, 0⟩) hlt)
                have hn := ddos_n ⟨[], fb, 0⟩ (xs.take k)
                rw [List.length_take] at hn
                have K := w_ddo xs[k] hC (by simp only at hn; omega) hu1 (by omega) fun b hb hf => by rcases hext b hf with q | q; exact q; unfold old' at hb; omega
                obtain ⟨Au, cu, rfl⟩ := hu1.shape
                generalize xs[k] = x at *
                go_wp2_with fail
                ((with_reducible refine K.mono ?_))
                rintro e w7 ⟨F7, rfl, hC7, x7, c7⟩
                clear K
                go_wp2
                go_roundw
                case rel => exact ⟨k + 1, by omega, by go_num, hchg.ext hext c7, hD.keep c7 fun b hb => dis b (.inl hb), hO.keep c7 fun b hb => dis b (.inr hb), F7, hext.trans x7 hchg.size, fun b hb h7 => by
                    rcases x7 b h7 with q | q
                    · exact dis b hb q
                    · rcases hb with hb | hb
                      · have := hD.flt b hb; omega
                      · have := hO.flt b hb; omega, by rw [E.out]; exact hC7⟩
                case measure => simp [intOf]; omega
              · obtain rfl : k = xs.length := by omega
                clear hC dis
                have KB := w_dbytes hO
                simp only [List.nil_append] at KB
                go_wp2_with fail
                go_at_call 18
                refine KB.mono ?_
                rintro e w7 ⟨v7, rfl, o7, c7⟩
                have hD7 := hD.keep c7 fun _ _ => id
                have hO7 := hO.keep c7 fun _ _ => id
                go_wp2_with fail
                go_at_call 11
                refine (w_of _ o7.bytes (by omega)).mono ?_
                rintro e w8 ⟨gf, F8, rfl, hF8, x8, c8⟩
                have hD8 := hD7.keep c8 fun _ _ => id
                have hO8 := hO7.keep c8 fun _ _ => id
                go_wp2_with fail
                go_at_call 14
                refine (w_tail hD8).mono ?_
                rintro e w9 ⟨v9, rfl, o9, c9⟩
                have hD9 := hD8.keep c9 fun _ _ => id
                have hO9 := hO8.keep c9 fun _ _ => id
                have hF9 := hF8.keep c9 fun _ _ => id
                go_wp2_with fail
                go_at_call 14
                refine (w_tail hO9).mono ?_
                rintro e w10 ⟨v10, rfl, o10, c10⟩
                have hD10 := hD9.keep c10 fun _ _ => id
                have hF10 := hF9.keep c10 fun _ _ => id
                go_wp2_with fail
                go_at_call 15
                refine (w_same00 _ (o9.keep c10 fun _ => none_own).bytes o10.bytes).mono ?_
                rintro e w11 ⟨rfl, rfl⟩
                rw [beq_self_eq_true]
                go_wp2_with fail
                go_at_call 13
                refine (w_lasting hD10).mono ?_
                rintro e w11 ⟨v11, rfl, o11, c11⟩
                dsimp only at o11
                obtain ⟨A11, n11, rfl⟩ := o11.shape
                have hD11 := hD10.keep c11 fun _ _ => id
                have hF11 := hF10.keep c11 fun _ _ => id
                go_wp2_with fail
                go_at_call 13
                refine (w_lasting hF11).mono ?_
                rintro e w12 ⟨v12, rfl, o12, c12⟩
                have hD12 := hD11.keep c12 fun _ _ => id
                have hF12 := hF11.keep c12 fun _ _ => id
                go_wp2_with fail
                go_at_call 14
                refine (w_tail hD12).mono ?_
                rintro e w13 ⟨v13, rfl, o13, c13⟩
                have hF13 := hF12.keep c13 fun _ _ => id
                go_wp2_with fail
                go_at_call 15
                refine (w_same00 _ (o12.keep c13 fun _ => none_own).bytes o13.bytes).mono ?_
                rintro e w14 ⟨rfl, rfl⟩
                rw [beq_self_eq_true]
                go_wp2_with fail
                go_at_call 14
                refine (w_tail hF13).mono ?_
                rintro e w14 ⟨v14, rfl, o14, c14⟩
                dsimp only at o14
                obtain ⟨A14, n14, rfl⟩ := o14.shape
                have dz := ((((((((hchg.trans c7).trans c8).trans c9).trans c10).trans c11).trans c12).trans c13).trans c14)
                go_wp2_with fail
                go_at_call 9
                refine (w_known06 _).mono ?_
                rintro e w15 ⟨rfl, c15⟩
                go_wp2
                go_ret
                exact ⟨rfl, dz.trans c15⟩
      · go_wp2_with fail
        go_at_call 9
        refine (w_known06 _).mono ?_
        rintro e w2 ⟨rfl, c2⟩
        go_wp2
        go_ret
        exact ⟨rfl, c2⟩

end Go.Proofs.Ytlgmmokeflipaaa
