/-
  The walk of DiskOwn.
-/
import Derived.Test.YtlgmmokeflipaaaLawDiskSyncs
namespace Go.Proofs.Ytlgmmokeflipaaa
open Go.RowKit

/-- Bytes of the call's own that are written over: nothing else has changed. -/
def Spoilt (w wr : World) (v : Value) (n : Nat) : Prop := Chg (fun b => v.ownBlock = some b) w wr ∧ ∃ bs : List UInt8, bs.length = n ∧ OwnB 0 wr v bs

set_option maxRecDepth 100000 in
set_option maxHeartbeats 4000000 in
theorem walk_DiskOwn (w : World) {v : Value} {bs : List UInt8} (h : Bytes (old' w) w v bs) (hr0 : bs.length ≤ 140737488351232) {u : Value} {ls : List UInt8} (hu : Bytes (old' w) w u ls) (hr1 : ls.length ≤ 140737488351232) :
    Calls Try.prog 3 #[v, u] w fun e w' => e = .returned (.bool true) ∧ Chg none' w w' := by
  obtain ⟨A, c, rfl⟩ := h.shape
  obtain ⟨B, d, rfl⟩ := hu.shape
  by_cases h1 : 300 < bs.length
  · go_enter Try.func3, Try.ntmps3
    go_wp2_with fail
    refine (w_known06 _).mono ?_
    rintro e w1 ⟨rfl, c1⟩
    go_wp2
    go_ret
    exact ⟨rfl, c1⟩
  by_cases h2 : 300 < ls.length
  · go_enter Try.func3, Try.ntmps3
    go_wp2_with fail
    refine (w_known06 _).mono ?_
    rintro e w1 ⟨rfl, c1⟩
    go_wp2
    go_ret
    exact ⟨rfl, c1⟩
  go_enter Try.func3, Try.ntmps3
  go_wp2_with fail
  go_at_call 10
  refine (w_copy _ h (by omega)).mono ?_
  rintro e w1 ⟨vx, rfl, ox, c1⟩
  have hu1 := hu.kept c1 fun _ _ => id
  go_wp2_with fail
  go_at_call 10
  refine (w_copy _ hu1 (by omega)).mono ?_
  rintro e w2 ⟨vy, rfl, oy, c2⟩
  have ox2 := ox.keep c2 fun _ => none_own
  have d2 := c1.trans c2
  go_wp2_with fail
  go_at_call 11
  refine (w_of _ ox2.bytes (by omega)).mono ?_
  rintro e w3 ⟨g, F, rfl, hD3, xD, c3⟩
  have ox3 := ox2.keep c3 fun _ => none_own
  have oy3 := oy.keep c3 fun _ => none_own
  have px : ∀ b, vx.ownBlock = some b → ¬ F b := fun b hb hf => by rcases xD b hf with e | e; exact e; have := ox2.lt b hb; omega
  have py : ∀ b, vy.ownBlock = some b → ¬ F b := fun b hb hf => by rcases xD b hf with e | e; exact e; have := oy.lt b hb; omega
  have pxy : ∀ b, vx.ownBlock = some b → vy.ownBlock ≠ some b := fun b hb hy => by have := ox.lt b hb; have := oy.base_ b hy; omega
  have d3 := d2.trans c3
  obtain ⟨Ax, nx, rfl⟩ := ox.shape
  obtain ⟨Ay, ny, rfl⟩ := oy.shape
  have K := w_dapp1 (gg := w3.heap.size) (t := 22) hD3 oy3.bytes (by omega) py rfl
  rw [dappE_in (by simp; omega)] at K
  go_wp2_with fail
  go_at_call 12
  refine K.mono ?_
  rintro e w4 ⟨F4, rfl, hD4, x4, c4⟩
  clear K
  obtain ⟨ox4, px4⟩ := ox3.past px c4 x4
  obtain ⟨oy4, py4⟩ := oy3.past py c4 x4
  have d4 := d3.ext (fun b hb => (xD b hb).imp id (Nat.le_trans d2.size)) c4
  have y4 := (show Ext none' F w from fun b hb => (xD b hb).imp id (Nat.le_trans d2.size)).trans x4 d3.size
  have ed : dapp (⟨bs, [], 0⟩ : Dk) ls = ⟨bs, ls, 0⟩ := rfl
  rw [ed] at hD4
  clear hD3 ox2 ox3 oy3
  go_wp2
  -- BEGIN loops
  go_loopw [10] (fun iv wr => ∃ k : Nat, k ≤ bs.length ∧ iv = .int .i64 k ∧ Spoilt w4 wr (.slice Ax bs.length nx) bs.length) (fun i _ => bs.length - (intOf i).toNat)
  case atStart => exact ⟨0, Nat.zero_le _, rfl, Chg.refl _ _, bs, rfl, (ox4).more (Nat.zero_le _)⟩
  case round =>
    obtain ⟨k, hk, rfl, hchg, bs', hbl, hown⟩ := hrel
    by_cases hlt : k < bs.length
    · rw [← hbl] at hown hlt
      obtain ⟨g', cap, cur, hv, _, _, hh, hl, hm, hs, hc⟩ := hown.form (by omega)
      rw [hbl] at hlt hv hl hown
      simp only [Value.slice.injEq] at hv
      obtain ⟨rfl, _, rfl⟩ := hv
      have hk' : k < bs'.length := by omega
      have cj := cell_of_row wr g' k _ _ _ hh
      rw [hc k bs'[k] (by simp [hk'])] at cj
      have fj : wr.frozen? ⟨g', k, none⟩ = false := by simp [World.frozen?, hh]
      have hnext : ∀ y : UInt8, Spoilt w4 (wr.setCell ⟨g', k, none⟩ (vb y)) (.slice (some ⟨g', 0, none⟩) bs.length nx) bs.length := fun y => ⟨hchg.setCell (p := ⟨g', k, none⟩) (.inr rfl) _, bs'.set k y, by rw [List.length_set]; exact hbl, by
        have := OwnB.set (bs := bs') (g := g') (cap := nx) (by rw [hbl]; exact hown) k hk' y
        rwa [hbl] at this⟩
      have hy := hnext (bs'[k] + 1)
      have hyv : ((bs'[k] + 1).toNat : Int) = ((bs'[k].toNat : Int) + 1) % 256 := by rw [UInt8.toNat_add]; simp
      simp only [vb] at hy
      rw [hyv] at hy
      have HY := Lib.hid hy
      have hlk : (k : Int) < bs.length := by omega
      clear hy hyv hnext hh hl hm hs hc hbl
      generalize bs'[k] = z at *
      go_wp2
      go_roundw
      case rel => exact ⟨k + 1, by omega, by go_num, HY.out⟩
      case measure => simp [intOf]; omega
    · obtain rfl : k = bs.length := by omega
      have hD5 := hD4.keep hchg fun b hb e => px4 b e hb
      have oy5 := oy4.keep hchg fun b hb e => pxy b e hb
      have d5 := d4.trans' hchg fun i hi e => by have := ox.base_ i e; omega
      clear hbl hown bs'
      obtain ⟨w5, rfl⟩ : ∃ w5 : World, w5 = wr := ⟨_, rfl⟩
      go_wp2
      go_loopw [11] (fun iv wr => ∃ k : Nat, k ≤ ls.length ∧ iv = .int .i64 k ∧ Spoilt w5 wr (.slice Ay ls.length ny) ls.length) (fun i _ => ls.length - (intOf i).toNat)
      case atStart => exact ⟨0, Nat.zero_le _, rfl, Chg.refl _ _, ls, rfl, (oy5).more (Nat.zero_le _)⟩
      case round =>
        obtain ⟨k, hk, rfl, hchg, bs', hbl, hown⟩ := hrel
        by_cases hlt : k < ls.length
        · rw [← hbl] at hown hlt
          obtain ⟨g', cap, cur, hv, _, _, hh, hl, hm, hs, hc⟩ := hown.form (by omega)
          rw [hbl] at hlt hv hl hown
          simp only [Value.slice.injEq] at hv
          obtain ⟨rfl, _, rfl⟩ := hv
          have hk' : k < bs'.length := by omega
          have cj := cell_of_row wr g' k _ _ _ hh
          rw [hc k bs'[k] (by simp [hk'])] at cj
          have fj : wr.frozen? ⟨g', k, none⟩ = false := by simp [World.frozen?, hh]
          have hnext : ∀ y : UInt8, Spoilt w5 (wr.setCell ⟨g', k, none⟩ (vb y)) (.slice (some ⟨g', 0, none⟩) ls.length ny) ls.length := fun y => ⟨hchg.setCell (p := ⟨g', k, none⟩) (.inr rfl) _, bs'.set k y, by rw [List.length_set]; exact hbl, by
            have := OwnB.set (bs := bs') (g := g') (cap := ny) (by rw [hbl]; exact hown) k hk' y
            rwa [hbl] at this⟩
          have hy := hnext (bs'[k] + 1)
          have hyv : ((bs'[k] + 1).toNat : Int) = ((bs'[k].toNat : Int) + 1) % 256 := by rw [UInt8.toNat_add]; simp
          simp only [vb] at hy
          rw [hyv] at hy
          have HY := Lib.hid hy
          have hlk : (k : Int) < ls.length := by omega
          clear hy hyv hnext hh hl hm hs hc hbl
          generalize bs'[k] = z at *
          go_wp2
          go_roundw
          case rel => exact ⟨k + 1, by omega, by go_num, HY.out⟩
          case measure => simp [intOf]; omega
        · obtain rfl : k = ls.length := by omega
          have hD5b := hD5.keep hchg fun b hb e => py4 b e hb
          have d5b := d5.trans' hchg fun i hi e => by have := oy.base_ i e; have := c1.size; omega
          clear hbl hown bs'
          go_wp2_with fail
          go_at_call 13
          refine (w_lasting hD5b).mono ?_
          rintro e w5c ⟨vp, rfl, op, c5c⟩
          have ap := OwnB.new_apart hD5b op
          have hD5c := hD5b.keep c5c fun _ _ => id
          go_wp2_with fail
          go_at_call 14
          refine (w_tail hD5c).mono ?_
          rintro e w6 ⟨vq, rfl, oq, c6⟩
          have hD6 := hD5c.keep c6 fun _ _ => id
          have op6 := op.keep c6 fun _ => none_own
          have ap6 := ap
          have d6 := (d5b.trans c5c).trans c6
          have apq : ∀ b, vp.ownBlock = some b → vq.ownBlock ≠ some b := fun b hb hq => by have := op.lt b hb; have := oq.base_ b hq; omega
          have aq := OwnB.new_apart hD5c oq
          dsimp only at op oq op6
          obtain ⟨Ap, np, rfl⟩ := op.shape
          obtain ⟨Aq, nq, rfl⟩ := oq.shape
          go_wp2
          go_loopw [14] (fun iv wr => ∃ k : Nat, k ≤ bs.length ∧ iv = .int .i64 k ∧ Spoilt w6 wr (.slice Ap bs.length np) bs.length) (fun i _ => bs.length - (intOf i).toNat)
          case atStart => exact ⟨0, Nat.zero_le _, rfl, Chg.refl _ _, bs, rfl, (op6).more (Nat.zero_le _)⟩
          case round =>
            obtain ⟨k, hk, rfl, hchg, bs', hbl, hown⟩ := hrel
            by_cases hlt : k < bs.length
            · rw [← hbl] at hown hlt
              obtain ⟨g', cap, cur, hv, _, _, hh, hl, hm, hs, hc⟩ := hown.form (by omega)
              rw [hbl] at hlt hv hl hown
              simp only [Value.slice.injEq] at hv
              obtain ⟨rfl, _, rfl⟩ := hv
              have hk' : k < bs'.length := by omega
              have cj := cell_of_row wr g' k _ _ _ hh
              rw [hc k bs'[k] (by simp [hk'])] at cj
              have fj : wr.frozen? ⟨g', k, none⟩ = false := by simp [World.frozen?, hh]
              have hnext : ∀ y : UInt8, Spoilt w6 (wr.setCell ⟨g', k, none⟩ (vb y)) (.slice (some ⟨g', 0, none⟩) bs.length np) bs.length := fun y => ⟨hchg.setCell (p := ⟨g', k, none⟩) (.inr rfl) _, bs'.set k y, by rw [List.length_set]; exact hbl, by
                have := OwnB.set (bs := bs') (g := g') (cap := np) (by rw [hbl]; exact hown) k hk' y
                rwa [hbl] at this⟩
              have hy := hnext (bs'[k] + 1)
              have hyv : ((bs'[k] + 1).toNat : Int) = ((bs'[k].toNat : Int) + 1) % 256 := by rw [UInt8.toNat_add]; simp
              simp only [vb] at hy
              rw [hyv] at hy
              have HY := Lib.hid hy
              have hlk : (k : Int) < bs.length := by omega
              clear hy hyv hnext hh hl hm hs hc hbl
              generalize bs'[k] = z at *
              go_wp2
              go_roundw
              case rel => exact ⟨k + 1, by omega, by go_num, HY.out⟩
              case measure => simp [intOf]; omega
            · obtain rfl : k = bs.length := by omega
              have hD7 := hD6.keep hchg fun b hb e => ap6 b e hb
              have oq7 := oq.keep hchg fun b hb e => apq b e hb
              have aq7 := aq
              have d7 := d6.trans' hchg fun i hi e => by have := op.base_ i e; have := d5b.size; omega
              clear hbl hown bs'
              obtain ⟨w7, rfl⟩ : ∃ w7 : World, w7 = wr := ⟨_, rfl⟩
              go_wp2
              go_loopw [15] (fun iv wr => ∃ k : Nat, k ≤ ls.length ∧ iv = .int .i64 k ∧ Spoilt w7 wr (.slice Aq ls.length nq) ls.length) (fun i _ => ls.length - (intOf i).toNat)
              case atStart => exact ⟨0, Nat.zero_le _, rfl, Chg.refl _ _, ls, rfl, (oq7).more (Nat.zero_le _)⟩
              case round =>
                obtain ⟨k, hk, rfl, hchg, bs', hbl, hown⟩ := hrel
                by_cases hlt : k < ls.length
                · rw [← hbl] at hown hlt
                  obtain ⟨g', cap, cur, hv, _, _, hh, hl, hm, hs, hc⟩ := hown.form (by omega)
                  rw [hbl] at hlt hv hl hown
                  simp only [Value.slice.injEq] at hv
                  obtain ⟨rfl, _, rfl⟩ := hv
                  have hk' : k < bs'.length := by omega
                  have cj := cell_of_row wr g' k _ _ _ hh
                  rw [hc k bs'[k] (by simp [hk'])] at cj
                  have fj : wr.frozen? ⟨g', k, none⟩ = false := by simp [World.frozen?, hh]
                  have hnext : ∀ y : UInt8, Spoilt w7 (wr.setCell ⟨g', k, none⟩ (vb y)) (.slice (some ⟨g', 0, none⟩) ls.length nq) ls.length := fun y => ⟨hchg.setCell (p := ⟨g', k, none⟩) (.inr rfl) _, bs'.set k y, by rw [List.length_set]; exact hbl, by
                    have := OwnB.set (bs := bs') (g := g') (cap := nq) (by rw [hbl]; exact hown) k hk' y
                    rwa [hbl] at this⟩
                  have hy := hnext (bs'[k] + 1)
                  have hyv : ((bs'[k] + 1).toNat : Int) = ((bs'[k].toNat : Int) + 1) % 256 := by rw [UInt8.toNat_add]; simp
                  simp only [vb] at hy
                  rw [hyv] at hy
                  have HY := Lib.hid hy
                  have hlk : (k : Int) < ls.length := by omega
                  clear hy hyv hnext hh hl hm hs hc hbl
                  generalize bs'[k] = z at *
                  go_wp2
                  go_roundw
                  case rel => exact ⟨k + 1, by omega, by go_num, HY.out⟩
                  case measure => simp [intOf]; omega
                · obtain rfl : k = ls.length := by omega
                  have hD8 := hD7.keep hchg fun b hb e => aq7 b e hb
                  have d8 := d7.trans' hchg fun i hi e => by have := oq.base_ i e; have := d5b.size; have := c5c.size; omega
                  go_wp2_with fail
                  go_at_call 13
                  refine (w_lasting hD8).mono ?_
                  rintro e w9 ⟨vl, rfl, ol, c9⟩
                  have hD9 := hD8.keep c9 fun _ _ => id
                  have d9 := d8.trans c9
                  go_wp2_with fail
                  go_at_call 15
                  refine (w_same00 _ ol.bytes (h.kept d9 fun _ _ => id)).mono ?_
                  rintro e w10 ⟨rfl, rfl⟩
                  rw [beq_self_eq_true]
                  go_wp2_with fail
                  go_at_call 14
                  refine (w_tail hD9).mono ?_
                  rintro e w10 ⟨vt, rfl, ot, c10⟩
                  have d10 := d9.trans c10
                  go_wp2_with fail
                  go_at_call 15
                  refine (w_same00 _ ot.bytes (hu.kept d10 fun _ _ => id)).mono ?_
                  rintro e w11 ⟨rfl, rfl⟩
                  rw [beq_self_eq_true]
                  go_wp2_with fail
                  go_at_call 9
                  refine (w_known06 _).mono ?_
                  rintro e w12 ⟨rfl, c12⟩
                  go_wp2
                  go_ret
                  exact ⟨rfl, d10.trans c12⟩
  -- END loops

end Go.Proofs.Ytlgmmokeflipaaa
