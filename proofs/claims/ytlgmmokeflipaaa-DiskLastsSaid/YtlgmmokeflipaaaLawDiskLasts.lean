/-
  The walk of DiskLasts.
-/
import Derived.Test.YtlgmmokeflipaaaLawDiskSyncs
namespace Go.Proofs.Ytlgmmokeflipaaa
open Go.RowKit

theorem crash_all (L T : List UInt8) (a : Nat) : (L ++ T).take (L ++ T.take a).length = L ++ T.take a := by
  have e : L ++ T = (L ++ T.take a) ++ T.drop a := by rw [List.append_assoc, List.take_append_drop]
  rw [e, List.take_left' rfl]
/-- What lasts behind a thing that is done, and is no replacement. -/
theorem ddo_lasts (d : Dk) (x : Do6) (h3 : x.kind ≠ 3) : d.L.length ≤ (ddo d x).1.L.length ∧ (ddo d x).1.L.take d.L.length = d.L := by
  unfold ddo
  split
  · unfold dappE; split <;> simp [dapp]
  split
  · simp [dsync]
  split <;> simp [dcrash]
theorem ddo_begin (d : Dk) (x : Do6) (h1 : x.kind ≠ 1) (h3 : x.kind ≠ 3) : (ddo d x).1.L.length ≤ (d.L ++ d.T).length ∧ (d.L ++ d.T).take (ddo d x).1.L.length = (ddo d x).1.L := by
  unfold ddo
  rw [if_neg h1]
  split
  · exact ⟨Nat.le_refl _, List.take_length⟩
  split
  · simp
  · have h := crash_all d.L d.T x.kept.toNat
    exact ⟨by simp only [dcrash, List.length_append, List.length_take]; omega, h⟩

set_option maxRecDepth 100000 in
set_option maxHeartbeats 4000000 in
theorem walk_DiskLasts (w : World) {v : Value} {xs : List Do6} (h : Do6s (old' w) w v xs) (hr : xs.length * 40 ≤ 140737488351232 ∧ ∀ x ∈ xs, x.b.length ≤ 140737488351232) :
    Calls Try.prog 4 #[v] w fun e w' => e = .returned (.bool true) ∧ Chg none' w w' := by
  obtain ⟨A, c, rfl, _, hm⟩ := h.shape
  unfold maxLen at hm
  go_enter Try.func4, Try.ntmps4
  go_wp2_with fail
  refine (w_long06 _ h).mono ?_
  rintro e w1 ⟨⟨t, rfl⟩, rfl⟩
  cases t
  · go_wp2_with fail
    refine (w_new _).mono ?_
    rintro e w1 ⟨g, F, rfl, hd, xd, c1⟩
    go_wp2
    go_loopw [4] (fun iv wr => ∃ k : Nat, k ≤ xs.length ∧ iv = .int .i64 k ∧ DoneTo w wr g (ddos ⟨[], [], 0⟩ (xs.take k))) (fun i _ => xs.length - (intOf i).toNat)
    case atStart => exact ⟨0, Nat.zero_le _, rfl, c1, F, xd, hd⟩
    case round =>
      obtain ⟨k, hk, rfl, hchg, Fk, hext, hD⟩ := hrel
      by_cases hlt : k < xs.length
      · have hks := h.kept hchg fun _ _ => id
        obtain ⟨b1, o1, c1', u1, e1, hF1, ck0, ck1, ck2, hu1⟩ := hks.at_ hlt
        simp only [Value.slice.injEq] at e1
        obtain ⟨rfl, _, rfl⟩ := e1
        have hb := hr.2 _ (List.getElem_mem hlt)
        have E := Lib.hid (ddos_take (d := ⟨[], [], 0⟩) hlt)
        have hn := ddos_n ⟨[], [], 0⟩ (xs.take k)
        rw [List.length_take] at hn
        simp only at hn
        have hG : ∀ b, old' w b → ¬ Fk b := fun b hb hf => by rcases hext b hf with q | q; exact q; unfold old' at hb; omega
        generalize ddos ⟨[], [], 0⟩ (xs.take k) = d at *
        obtain ⟨Au, cu, rfl⟩ := hu1.shape
        generalize xs[k] = x at *
        have hlen := hD.len
        have hlk : (k : Int) < xs.length := by omega
        go_wp2_with fail
        go_at_call 13
        refine (w_lasting hD).mono ?_
        rintro e w2 ⟨vw, rfl, ow, c2⟩
        have aw := OwnB.new_apart hD ow
        have hD2 := hD.keep c2 fun _ _ => id
        go_wp2_with fail
        go_at_call 18
        refine (w_dbytes hD2).mono ?_
        rintro e w3 ⟨va, rfl, oa, c3⟩
        have aa := OwnB.new_apart hD2 oa
        have hD3 := hD2.keep c3 fun _ _ => id
        have ow3 := ow.keep c3 fun _ => none_own
        have d3 := c2.trans c3
        have K := w_ddo x hD3 (by omega) (hu1.kept d3 fun _ _ => id) (by omega) hG
        have f1 := ddo_lasts d x
        have f2 := ddo_begin d x
        have f3 : x.kind = 3 → ddo d x = if x.b.length ≤ 4194304 then (⟨x.b, [], d.n⟩, 0) else (d, 3) := fun e => by unfold ddo; rw [if_neg (by omega), if_neg (by omega), if_pos e]
        have f4 : x.kind = 2 → (ddo d x).1.L = d.L ++ d.T := fun e => by unfold ddo; rw [if_neg (by omega), if_pos e]; rfl
        obtain ⟨D2, n2, hdd⟩ : ∃ D2 n2, ddo d x = (D2, n2) := ⟨_, _, rfl⟩
        rw [hdd] at K f1 f2 f3 f4 E
        simp only at K f1 f2 f3 f4 E
        clear hdd
        replace ck0 := d3.cell ck0 id
        replace ck1 := d3.cell ck1 id
        replace ck2 := d3.cell ck2 id
        go_wp2_with fail
        ((with_reducible refine K.mono ?_))
        rintro e w4 ⟨F4, rfl, hD4, x4, c4⟩
        clear K
        obtain ⟨ow4, aw4⟩ := ow3.past aw c4 x4
        obtain ⟨oa4, aa4⟩ := oa.past aa c4 x4
        have d4 := hchg.trans d3 |>.ext hext c4
        have y4 := hext.trans x4 (hchg.trans d3).size
        go_wp2_with fail
        go_at_call 13
        refine (w_lasting hD4).mono ?_
        rintro e w5 ⟨vn, rfl, on, c5⟩
        have hD5 := hD4.keep c5 fun _ _ => id
        have ow5 := ow4.keep c5 fun _ => none_own
        have oa5 := oa4.keep c5 fun _ => none_own
        have d5 := d4.trans c5
        replace ck0 := (c4.cell ck0 (hG _ hF1))
        replace ck0 := c5.cell ck0 id
        replace ck1 := (c4.cell ck1 (hG _ hF1))
        replace ck1 := c5.cell ck1 id
        have hu5 := ((hu1.kept d3 fun _ _ => id).kept c4 hG).kept c5 fun _ _ => id
        have fin : DoneTo w w5 g (ddos ⟨[], [], 0⟩ (xs.take (k + 1))) := ⟨d5, F4, y4, by rw [E.out]; exact hD5⟩
        have FIN := Lib.hid fin
        clear ck2 hks fin
        by_cases k3 : x.kind = 3
        · have z3 : (x.kind == 3) = true := by rw [k3]; rfl
          have e3 := f3 k3
          clear f1 f2 f3 f4 k3
          by_cases hl : x.b.length ≤ 4194304
          · rw [if_pos hl] at e3
            obtain ⟨rfl, rfl⟩ := Prod.mk.inj e3
            clear e3
            dsimp only at on
            rw [show ((0 : Nat) : Int) = 0 from rfl]
            go_wp2_with fail
            go_at_call 15
            refine (w_same00 _ on.bytes hu5).mono ?_
            rintro e w6 ⟨rfl, rfl⟩
            rw [beq_self_eq_true]
            go_wp2_with fail
            go_at_call 14
            refine (w_tail hD5).mono ?_
            rintro e w6 ⟨vt, rfl, ot, c6⟩
            dsimp only at ot
            obtain ⟨At, nt, rfl⟩ := ot.shape
            go_wp2
            go_roundw
            case rel => exact ⟨k + 1, by omega, by go_num, d5.trans c6, F4, y4, by rw [E.out]; exact hD5.keep c6 fun _ _ => id⟩
            case measure => simp [intOf]; omega
          · rw [if_neg hl] at e3
            obtain ⟨rfl, rfl⟩ := Prod.mk.inj e3
            clear e3
            rw [show ((3 : Nat) : Int) = 3 from rfl]
            go_wp2
            go_roundw
            case rel => exact ⟨k + 1, by omega, by go_num, FIN.out⟩
            case measure => simp [intOf]; omega
        · have z3 : (x.kind == 3) = false := by rw [beq_eq_false_iff_ne]; exact k3
          obtain ⟨g1, g2⟩ := f1 k3
          have g3 := fun k1 => f2 k1 k3
          clear f1 f2 f3
          have HG2 := Lib.hid g2
          generalize d.L ++ d.T = al at *
          generalize D2.L = nl at *
          generalize d.L = wl at *
          clear g2
          obtain ⟨An, nn, rfl⟩ := on.shape
          obtain ⟨Aw, nw, rfl⟩ := ow5.shape
          obtain ⟨Aa, na, rfl⟩ := oa5.shape
          have hcn : (wl.length : Int) ≤ nn := by
            obtain ⟨A, c', e, q, _⟩ := on.bytes
            simp only [Value.slice.injEq] at e
            omega
          have s1 := Row.hi' on.bytes (j := wl.length) g1
          rw [HG2.out] at s1
          have t1 : ¬ (nl.length : Int) < wl.length := by omega
          by_cases k1 : x.kind = 1
          · have z1 : (x.kind == 1) = true := by rw [k1]; rfl
            have z1' : (x.kind != 1) = false := by rw [bne, z1]; rfl
            have z2 : (x.kind == 2) = false := by rw [k1]; rfl
            clear g3 f4 k1 k3
            go_wp2_with fail
            go_at_call 15
            refine (w_same00 _ s1 ow5.bytes).mono ?_
            rintro e w6 ⟨rfl, rfl⟩
            rw [beq_self_eq_true]
            go_wp2
            go_roundw
            case rel => exact ⟨k + 1, by omega, by go_num, FIN.out⟩
            case measure => simp [intOf]; omega
          · have z1 : (x.kind == 1) = false := by rw [beq_eq_false_iff_ne]; exact k1
            have z1' : (x.kind != 1) = true := by rw [bne, z1]; rfl
            obtain ⟨g3, g4⟩ := g3 k1
            have t2 : ¬ (al.length : Int) < nl.length := by omega
            have hca : (nl.length : Int) ≤ na := by
              obtain ⟨A, c', e, q, _⟩ := oa5.bytes
              simp only [Value.slice.injEq] at e
              omega
            have s2 := Row.hi' oa5.bytes (j := nl.length) g3
            rw [g4] at s2
            clear g4
            by_cases k2 : x.kind = 2
            · have z2 : (x.kind == 2) = true := by rw [k2]; rfl
              have e4 := Lib.hid (f4 k2)
              clear f4 k1 k2 k3
              go_wp2_with fail
              go_at_call 15
              refine (w_same00 _ s1 ow5.bytes).mono ?_
              rintro e w6 ⟨rfl, rfl⟩
              rw [beq_self_eq_true]
              go_wp2_with fail
              go_at_call 15
              refine (w_same00 _ on.bytes s2).mono ?_
              rintro e w6 ⟨rfl, rfl⟩
              rw [beq_self_eq_true]
              go_wp2_with fail
              go_at_call 15
              refine (w_same00 _ on.bytes oa5.bytes).mono ?_
              rintro e w6 ⟨rfl, rfl⟩
              rw [show (nl == al) = true by rw [e4.out]; exact beq_self_eq_true _]
              go_wp2
              go_roundw
              case rel => exact ⟨k + 1, by omega, by go_num, FIN.out⟩
              case measure => simp [intOf]; omega
            · have z2 : (x.kind == 2) = false := by rw [beq_eq_false_iff_ne]; exact k2
              clear f4 k1 k2 k3
              go_wp2_with fail
              go_at_call 15
              refine (w_same00 _ s1 ow5.bytes).mono ?_
              rintro e w6 ⟨rfl, rfl⟩
              rw [beq_self_eq_true]
              go_wp2_with fail
              go_at_call 15
              refine (w_same00 _ on.bytes s2).mono ?_
              rintro e w6 ⟨rfl, rfl⟩
              rw [beq_self_eq_true]
              go_wp2
              go_roundw
              case rel => exact ⟨k + 1, by omega, by go_num, FIN.out⟩
              case measure => simp [intOf]; omega
      · obtain rfl : k = xs.length := by omega
        go_wp2_with fail
        go_at_call 9
        refine (w_known06 _).mono ?_
        rintro e w2 ⟨rfl, c2⟩
        go_wp2
        go_ret
        exact ⟨rfl, hchg.trans c2⟩
  · go_wp2_with fail
    refine (w_known06 _).mono ?_
    rintro e w2 ⟨rfl, c2⟩
    go_wp2
    go_ret
    exact ⟨rfl, c2⟩

end Go.Proofs.Ytlgmmokeflipaaa
