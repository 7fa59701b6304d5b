/-
  The walk of DiskCrashes.
-/
import Derived.Test.YtlgmmokeflipaaaLawDiskSyncs
namespace Go.Proofs.Ytlgmmokeflipaaa
open Go.RowKit

theorem crash_take (L T : List UInt8) (a b : Nat) : (L ++ T.take (a + b)).take (L ++ T.take a).length = L ++ T.take a := by
  have e : L ++ T.take (a + b) = (L ++ T.take a) ++ (T.take (a + b)).drop a := by
    rw [List.append_assoc]
    congr 1
    have := List.take_append_drop a (T.take (a + b))
    rw [List.take_take, Nat.min_eq_left (by omega)] at this
    exact this.symm
  rw [e, List.take_left' rfl]

set_option maxRecDepth 100000 in
set_option maxHeartbeats 2000000 in
theorem walk_DiskCrashes (w : World) {v : Value} {xs : List Do6} (h : Do6s (old' w) w v xs) (hr : xs.length * 40 ≤ 140737488351232 ∧ ∀ x ∈ xs, x.b.length ≤ 140737488351232) (a : Int) (ha : (Lit.int .u8 a).wf = true) (b : Int) (hb' : (Lit.int .u8 b).wf = true) :
    Calls Try.prog 7 #[v, .int .u8 a, .int .u8 b] w fun e w' => e = .returned (.bool true) ∧ Chg none' w w' := by
  obtain ⟨q, hq, rfl⟩ : ∃ q : Nat, q < 256 ∧ a = q := by
    obtain ⟨y, rfl⟩ := int_u8 ha
    exact ⟨y.toNat, y.toNat_lt, rfl⟩
  obtain ⟨r, hr', rfl⟩ : ∃ q : Nat, q < 256 ∧ b = q := by
    obtain ⟨y, rfl⟩ := int_u8 hb'
    exact ⟨y.toNat, y.toNat_lt, rfl⟩
  obtain ⟨A, c, rfl, _, hm⟩ := h.shape
  unfold maxLen at hm
  clear ha hb'
  go_enter Try.func7, Try.ntmps7
  go_wp2_with fail
  refine (w_long06 _ h).mono ?_
  rintro e w1 ⟨⟨t, rfl⟩, rfl⟩
  cases t
  · go_wp2_with fail
    refine (w_new _).mono ?_
    rintro e w1 ⟨g, F, rfl, hd, xd, c1⟩
    go_wp2
    go_loopw [8] (fun iv wr => ∃ k : Nat, k ≤ xs.length ∧ iv = .int .i64 k ∧ DoneTo w wr g (ddos ⟨[], [], 0⟩ (xs.take k))) (fun i _ => xs.length - (intOf i).toNat)
    case atStart => exact ⟨0, Nat.zero_le _, rfl, c1, F, xd, hd⟩
    case round =>
      obtain ⟨k, hk, rfl, hchg, F', hext, hD⟩ := hrel
      by_cases hlt : k < xs.length
      · obtain ⟨b1, o1, c1', u1, e1, hF1, ck0, ck1, ck2, hu1⟩ := (h.kept hchg fun _ _ => id).at_ hlt
        simp only [Value.slice.injEq] at e1
        obtain ⟨rfl, _, rfl⟩ := e1
        have hb := hr.2 _ (List.getElem_mem hlt)
        have E := Lib.hid (ddos_take (d := ⟨[], [], 0⟩) hlt)
        have hn := ddos_n ⟨[], [], 0⟩ (xs.take k)
        rw [List.length_take] at hn
        have K := w_ddo xs[k] hD (by simp only at hn; omega) hu1 (by omega) fun b hb hf => by rcases hext b hf with e | e; exact e; unfold old' at hb; omega
        obtain ⟨Au, cu, rfl⟩ := hu1.shape
        generalize xs[k] = x at *
        go_wp2_with fail
        ((with_reducible refine K.mono ?_))
        rintro e w2 ⟨F2, rfl, hD2, x2, c2⟩
        clear K
        go_wp2
        go_roundw
        case rel => exact ⟨k + 1, by omega, by go_num, hchg.ext hext c2, F2, hext.trans x2 hchg.size, by rw [E.out]; exact hD2⟩
        case measure => simp [intOf]; omega
      · obtain rfl : k = xs.length := by omega
        rw [List.take_length] at hD
        have hn := ddos_n ⟨[], [], 0⟩ xs
        generalize ddos ⟨[], [], 0⟩ xs = d at *
        simp only at hn
        have hlen := hD.len
        go_wp2_with fail
        go_at_call 25
        refine (w_dcopy hD).mono ?_
        rintro e w2 ⟨gx, Fx, rfl, hX2, xX, c2⟩
        have hD2 := hD.keep c2 fun _ _ => id
        have pX : ∀ b, F' b → ¬ Fx b := fun b hb hf => by rcases xX b hf with e | e; exact e; have := hD.flt b hb; omega
        have d2 := hchg.trans c2
        go_wp2_with fail
        go_at_call 25
        refine (w_dcopy hD2).mono ?_
        rintro e w3 ⟨gy, Fy, rfl, hY3, xY, c3⟩
        have hD3 := hD2.keep c3 fun _ _ => id
        have hX3 := hX2.keep c3 fun _ _ => id
        have pY : ∀ b, F' b → ¬ Fy b := fun b hb hf => by rcases xY b hf with e | e; exact e; have := hD2.flt b hb; omega
        have pXY : ∀ b, Fx b → ¬ Fy b := fun b hb hf => by rcases xY b hf with e | e; exact e; have := hX2.flt b hb; omega
        have d3 := d2.trans c3
        go_wp2_with fail
        go_at_call 25
        refine (w_dcopy hD3).mono ?_
        rintro e w4 ⟨gz, Fz, rfl, hZ4, xZ, c4⟩
        have hD4 := hD3.keep c4 fun _ _ => id
        have hX4 := hX3.keep c4 fun _ _ => id
        have hY4 := hY3.keep c4 fun _ _ => id
        have pZ : ∀ b, F' b → ¬ Fz b := fun b hb hf => by rcases xZ b hf with e | e; exact e; have := hD3.flt b hb; omega
        have pXZ : ∀ b, Fx b → ¬ Fz b := fun b hb hf => by rcases xZ b hf with e | e; exact e; have := hX3.flt b hb; omega
        have pYZ : ∀ b, Fy b → ¬ Fz b := fun b hb hf => by rcases xZ b hf with e | e; exact e; have := hY3.flt b hb; omega
        have d4 := d3.trans c4
        clear hD hD2 hD3 hX2 hX3 hY3
        have hct := crash_take d.L d.T q r
        have ex : dcrash d q = ⟨d.L ++ d.T.take q, [], d.n⟩ := rfl
        have ey : dcrash d (q + r) = ⟨d.L ++ d.T.take (q + r), [], d.n⟩ := rfl
        have ez : dcrash d 0 = ⟨d.L, [], d.n⟩ := by simp [dcrash]
        have hll : (d.L ++ d.T.take q).length ≤ (d.L ++ d.T.take (q + r)).length := by simp only [List.length_append, List.length_take]; omega
        have hlm : (d.L ++ d.T.take (q + r)).length ≤ (d.L ++ d.T.take 1000000).length := by simp only [List.length_append, List.length_take]; omega
        have e1 : dcrash d 1000000 = ⟨d.L ++ d.T.take 1000000, [], d.n⟩ := rfl
        have KX := w_dcrash hX4 q
        have KY := fun W (h : IsDisk Fy W gy d) => w_dcrash h (q + r)
        have KZ := fun W (h : IsDisk Fz W gz d) => w_dcrash h 0
        have KD := fun W (h : IsDisk F' W g d) => w_dcrash h 1000000
        rw [ex] at KX
        rw [ey] at KY
        rw [ez] at KZ
        rw [e1] at KD
        simp only [Int.natCast_add] at KY
        simp only [show ((0 : Nat) : Int) = 0 from rfl] at KZ
        simp only [show ((1000000 : Nat) : Int) = 1000000 from rfl] at KD
        generalize d.L ++ d.T.take q = lp at *
        generalize d.L ++ d.T.take (q + r) = lq at *
        generalize d.L ++ d.T.take 1000000 = lm at *
        have HC := Lib.hid hct
        clear hct ex ey ez e1
        go_wp2_with fail
        go_at_call 22
        refine KX.mono ?_
        rintro e w5 ⟨Fx', rfl, hX5, yX, c5⟩
        have hD5 := hD4.keep c5 pX
        have hY5 := hY4.keep c5 fun b hb hx => pXY b hx hb
        have hZ5 := hZ4.keep c5 fun b hb hx => pXZ b hx hb
        have d5 := d4.trans' c5 fun i hi e => by rcases xX i e with e | e; exact e; have := hchg.size; omega
        go_wp2_with fail
        go_at_call 22
        refine (KY _ hY5).mono ?_
        rintro e w6 ⟨Fy', rfl, hY6, yY, c6⟩
        have hD6 := hD5.keep c6 pY
        have hX6 := hX5.keep c6 fun b hb hy => by
          rcases yX b hb with e | e
          · exact pXY b e hy
          · have := hY4.flt b hy; omega
        have hZ6 := hZ5.keep c6 fun b hb hx => pYZ b hx hb
        have d6 := d5.trans' c6 fun i hi e => by rcases xY i e with e | e; exact e; have := d2.size; omega
        go_wp2_with fail
        go_at_call 22
        refine (KZ _ hZ6).mono ?_
        rintro e w7 ⟨Fz', rfl, hZ7, yZ, c7⟩
        have hD7 := hD6.keep c7 pZ
        have hX7 := hX6.keep c7 fun b hb hz => by
          rcases yX b hb with e | e
          · exact pXZ b e hz
          · have := hZ4.flt b hz; omega
        have hY7 := hY6.keep c7 fun b hb hz => by
          rcases yY b hb with e | e
          · exact pYZ b e hz
          · have := hZ5.flt b hz; omega
        have d7 := d6.trans' c7 fun i hi e => by rcases xZ i e with e | e; exact e; have := d3.size; omega
        clear hD4 hD5 hD6 hX4 hX5 hX6 hY4 hY5 hY6 hZ4 hZ5 hZ6 KX KY KZ
        go_wp2_with fail
        go_at_call 13
        refine (w_lasting hX7).mono ?_
        rintro e w8 ⟨vp, rfl, op, c8⟩
        have hD8 := hD7.keep c8 fun _ _ => id
        go_wp2_with fail
        go_at_call 13
        refine (w_lasting (hY7.keep c8 fun _ _ => id)).mono ?_
        rintro e w9 ⟨vq, rfl, oq, c9⟩
        have hD9 := hD8.keep c9 fun _ _ => id
        have hZ9 := (hZ7.keep c8 fun _ _ => id).keep c9 fun _ _ => id
        have op9 := op.keep c9 fun _ => none_own
        dsimp only at op op9 oq
        obtain ⟨Ap, np, rfl⟩ := op.shape
        obtain ⟨Aq, nq, rfl⟩ := oq.shape
        have hqn : (lp.length : Int) ≤ nq := by
          obtain ⟨A, c', e, q, _⟩ := oq.bytes
          simp only [Value.slice.injEq] at e
          omega
        have hsl := Row.hi' oq.bytes (j := lp.length) hll
        rw [HC.out] at hsl
        have d9 := (d7.trans c8).trans c9
        go_wp2_with fail
        go_at_call 15
        refine (w_same00 _ hsl op9.bytes).mono ?_
        rintro e w10 ⟨rfl, rfl⟩
        rw [beq_self_eq_true]
        have KB := w_dbytes hZ9
        simp only [List.append_nil] at KB
        go_wp2_with fail
        go_at_call 18
        refine KB.mono ?_
        rintro e w10 ⟨vz, rfl, oz, c10⟩
        have hD10 := hD9.keep c10 fun _ _ => id
        go_wp2_with fail
        go_at_call 13
        refine (w_lasting hD10).mono ?_
        rintro e w11 ⟨vl, rfl, ol, c11⟩
        have hD11 := hD10.keep c11 fun _ _ => id
        go_wp2_with fail
        go_at_call 15
        refine (w_same00 _ (oz.keep c11 fun _ => none_own).bytes ol.bytes).mono ?_
        rintro e w12 ⟨rfl, rfl⟩
        rw [beq_self_eq_true]
        have d11 := (d9.trans c10).trans c11
        clear KB hD7 hD8 hD9 hD10
        go_wp2_with fail
        go_at_call 22
        refine (KD _ hD11).mono ?_
        rintro e w12 ⟨F2, rfl, hD12, x12, c12⟩
        have d12 := d11.ext hext c12
        have KB := w_dbytes hD12
        simp only [List.append_nil] at KB
        go_wp2_with fail
        go_at_call 18
        refine KB.mono ?_
        rintro e w13 ⟨vb, rfl, ob, c13⟩
        obtain ⟨Ab, nb, rfl⟩ := ob.shape
        go_wp2_with fail
        go_at_call 14
        refine (w_tail (hD12.keep c13 fun _ _ => id)).mono ?_
        rintro e w14 ⟨vt, rfl, ot, c14⟩
        dsimp only at ot
        obtain ⟨At, nt, rfl⟩ := ot.shape
        go_wp2_with fail
        go_at_call 9
        refine (w_known06 _).mono ?_
        rintro e w15 ⟨rfl, c15⟩
        go_wp2
        go_ret
        exact ⟨rfl, ((d12.trans c13).trans c14).trans c15⟩
  · go_wp2_with fail
    refine (w_known06 _).mono ?_
    rintro e w2 ⟨rfl, c2⟩
    go_wp2
    go_ret
    exact ⟨rfl, c2⟩

end Go.Proofs.Ytlgmmokeflipaaa
