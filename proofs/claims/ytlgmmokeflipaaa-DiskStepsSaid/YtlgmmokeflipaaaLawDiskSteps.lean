/-
  The walk of DiskSteps.
-/
import Derived.Test.YtlgmmokeflipaaaLawDiskSyncs
import Derived.Deep.RegionHeld3
namespace Go.Proofs.Ytlgmmokeflipaaa
open Go.RowKit

/-- What the loop bears along: the disk, and, in three cells, what it is to be. -/
def BothTo (w wr : World) (g gt : Nat) (d : Dk) : Prop :=
  Chg none' w wr ∧ w.heap.size ≤ gt ∧ ∃ F, Ext none' F w ∧ IsDisk F wr g d ∧ ¬ F gt ∧ ∃ vL vT, wr.heap[gt]? = some (.cells #[vL, vT, .int .i64 (d.n : Int)] 44 (0, 0)) ∧ Bytes (fun b => ¬ F b ∧ b ≠ gt) wr vL d.L ∧ Bytes (fun b => ¬ F b ∧ b ≠ gt) wr vT d.T

set_option maxRecDepth 100000 in
set_option maxHeartbeats 4000000 in
theorem walk_DiskSteps (w : World) {u : Value} {bs : List UInt8} (hb : Bytes (old' w) w u bs) (hbr : bs.length ≤ 140737488351232) {v : Value} {xs : List Do6} (h : Do6s (old' w) w v xs) (hr : xs.length * 40 ≤ 140737488351232 ∧ ∀ x ∈ xs, x.b.length ≤ 140737488351232) :
    Calls Try.prog 6 #[u, v] w fun e w' => e = .returned (.bool true) ∧ Chg none' w w' := by
  obtain ⟨A, c, rfl, _, hm⟩ := h.shape
  unfold maxLen at hm
  obtain ⟨B, cb, rfl⟩ := hb.shape
  by_cases h1 : 300 < bs.length
  · go_enter Try.func6, Try.ntmps6
    go_wp2_with fail
    refine (w_known06 _).mono ?_
    rintro e w1 ⟨rfl, c1⟩
    go_wp2
    go_ret
    exact ⟨rfl, c1⟩
  go_enter Try.func6, Try.ntmps6
  go_wp2_with fail
  refine (w_long06 _ h).mono ?_
  rintro e w1 ⟨⟨t, rfl⟩, rfl⟩
  cases t
  · go_wp2_with fail
    go_at_call 11
    refine (w_of _ hb (by omega)).mono ?_
    rintro e w1 ⟨g, F, rfl, hd, xd, c1⟩
    go_wp2
    have hb1 := hb.kept c1 fun _ _ => id
    have cA : Chg none' w1 (w1.alloc (.cells #[.slice B bs.length cb, .slice none 0 0, .int .i64 0] 44)) := (Chg.refl _ _).alloc _
    go_loopw [8] (fun iv wr => ∃ k : Nat, k ≤ xs.length ∧ iv = .int .i64 k ∧ BothTo w wr g w1.heap.size (ddos ⟨bs, [], 0⟩ (xs.take k))) (fun i _ => xs.length - (intOf i).toNat)
    case atStart =>
      have hgF : ¬ F w1.heap.size := fun hf => by have := hd.flt _ hf; omega
      have hbF : Bytes (fun b => ¬ F b ∧ b ≠ w1.heap.size) (w1.alloc (.cells #[.slice B bs.length cb, .slice none 0 0, .int .i64 0] 44)) (.slice B bs.length cb) bs :=
        Row.mono (hb1.kept cA fun _ _ => id) fun b _ hb => ⟨fun hf => by rcases xd b hf with e | e; exact e; unfold old' at hb; omega, fun e => by have := c1.size; unfold old' at hb; omega⟩
      exact ⟨0, Nat.zero_le _, rfl, c1.trans cA, c1.size, F, xd, hd.keep cA fun _ _ => id, hgF, _, _, heap_alloc_new w1 _, hbF, Row.nil⟩
    case round =>
      obtain ⟨k, hk, rfl, hchg, hgt, Fk, hext, hD, hFgt, vL, vT, hh, hL, hT⟩ := hrel
      generalize w1.heap.size = gt at *
      by_cases hlt : k < xs.length
      · obtain ⟨b1, o1, c1', u1, e1, hF1, ck0, ck1, ck2, hu1⟩ := (h.kept hchg fun _ _ => id).at_ hlt
        simp only [Value.slice.injEq] at e1
        obtain ⟨rfl, _, rfl⟩ := e1
        have hbl := hr.2 _ (List.getElem_mem hlt)
        have E := Lib.hid (ddos_take (d := ⟨bs, [], 0⟩) hlt)
        have hn := ddos_n ⟨bs, [], 0⟩ (xs.take k)
        rw [List.length_take] at hn
        simp only at hn
        have hG : ∀ b, old' w b → ¬ Fk b := fun b hb hf => by rcases hext b hf with q | q; exact q; unfold old' at hb; omega
        have hn' : (ddos ⟨bs, [], 0⟩ (xs.take k)).n ≤ 1000000000000000 := by omega
        generalize ddos ⟨bs, [], 0⟩ (xs.take k) = d at *
        obtain ⟨Au, cu, rfl⟩ := hu1.shape
        generalize xs[k] = x at *
        have hlen := hD.len
        have hlk : (k : Int) < xs.length := by omega
        obtain ⟨AL, nL, rfl⟩ := hL.shape
        obtain ⟨AT, nT, rfl⟩ := hT.shape
        have K := w_ddo x hD hn' hu1 (by omega) hG
        obtain ⟨D2, n2, hdd⟩ : ∃ D2 n2, ddo d x = (D2, n2) := ⟨_, _, rfl⟩
        rw [hdd] at K E
        simp only at K E
        go_wp2_with fail
        ((with_reducible refine K.mono ?_))
        rintro e w2 ⟨F2, rfl, hD2, x2, c2⟩
        clear K
        have d2 := hchg.ext hext c2
        have xe2 := hext.trans x2 hchg.size
        replace ck0 := c2.cell ck0 (hG _ hF1)
        replace ck1 := c2.cell ck1 (hG _ hF1)
        replace ck2 := c2.cell ck2 (hG _ hF1)
        have hu2 := hu1.kept c2 hG
        have hh2 := (c2.block gt (heap_lt hh) hFgt).trans hh
        have hL2 := Bytes.kept (Row.mono (F' := fun b => (¬ Fk b ∧ b ≠ gt) ∧ b < wr.heap.size) hL fun b h1 h2 => ⟨h2, h1⟩) c2 (fun b hb => hb.1.1)
        have hT2 := Bytes.kept (Row.mono (F' := fun b => (¬ Fk b ∧ b ≠ gt) ∧ b < wr.heap.size) hT fun b h1 h2 => ⟨h2, h1⟩) c2 (fun b hb => hb.1.1)
        have hgtr := heap_lt hh
        have zn : ((n2 : Int) == (n2 : Int)) = true := beq_self_eq_true _
        have zn' : ((n2 : Int) != (n2 : Int)) = false := by rw [bne, zn]; rfl
        have a0 : w2.cell? ⟨gt, 0, none⟩ = some (.slice AL d.L.length nL) := by rw [cell_of_row _ _ _ _ _ _ hh2]; rfl
        have a1 : w2.cell? ⟨gt, 1, none⟩ = some (.slice AT d.T.length nT) := by rw [cell_of_row _ _ _ _ _ _ hh2]; rfl
        have a2 : w2.cell? ⟨gt, 2, none⟩ = some (.int .i64 (d.n : Int)) := by rw [cell_of_row _ _ _ _ _ _ hh2]; rfl
        go_upto_region 11 with (fail)
        have hgt2 := heap_lt hh2
        have hb2 : b1 < w2.heap.size := World.block_lt_of_cell? w2 _ ck0
        have HS3 : ∀ W : World, (W.cell? ⟨gt, 0, none⟩ = some (.slice AL d.L.length nL) ∧ W.cell? ⟨gt, 1, none⟩ = some (.slice AT d.T.length nT) ∧ W.cell? ⟨gt, 2, none⟩ = some (.int .i64 (d.n : Int)) ∧ W.cell? ⟨b1, o1 + k * 3, none⟩ = some (.int .i64 x.kind) ∧ W.cell? ⟨b1, o1 + k * 3 + 1, none⟩ = some (.slice Au x.b.length cu) ∧ W.cell? ⟨b1, o1 + k * 3 + 2, none⟩ = some (.int .i64 x.kept) ∧ Chg none' w2 W) → ∀ W' : World, Chg (fun b => w2.heap.size ≤ b) W W' → (W'.cell? ⟨gt, 0, none⟩ = some (.slice AL d.L.length nL) ∧ W'.cell? ⟨gt, 1, none⟩ = some (.slice AT d.T.length nT) ∧ W'.cell? ⟨gt, 2, none⟩ = some (.int .i64 (d.n : Int)) ∧ W'.cell? ⟨b1, o1 + k * 3, none⟩ = some (.int .i64 x.kind) ∧ W'.cell? ⟨b1, o1 + k * 3 + 1, none⟩ = some (.slice Au x.b.length cu) ∧ W'.cell? ⟨b1, o1 + k * 3 + 2, none⟩ = some (.int .i64 x.kept) ∧ Chg none' w2 W') := fun W c W' k =>
          ⟨k.cell c.1 (by simp; omega), k.cell c.2.1 (by simp; omega), k.cell c.2.2.1 (by simp; omega), k.cell c.2.2.2.1 (by simp; omega), k.cell c.2.2.2.2.1 (by simp; omega), k.cell c.2.2.2.2.2.1 (by simp; omega), c.2.2.2.2.2.2.trans' k fun i hi e => by omega⟩
        have HL3 : ∀ W : World, (W.cell? ⟨gt, 0, none⟩ = some (.slice AL d.L.length nL) ∧ W.cell? ⟨gt, 1, none⟩ = some (.slice AT d.T.length nT) ∧ W.cell? ⟨gt, 2, none⟩ = some (.int .i64 (d.n : Int)) ∧ W.cell? ⟨b1, o1 + k * 3, none⟩ = some (.int .i64 x.kind) ∧ W.cell? ⟨b1, o1 + k * 3 + 1, none⟩ = some (.slice Au x.b.length cu) ∧ W.cell? ⟨b1, o1 + k * 3 + 2, none⟩ = some (.int .i64 x.kept) ∧ Chg none' w2 W) → Bytes (fun b => (¬ Fk b ∧ b ≠ gt) ∧ b < wr.heap.size) W (.slice AL d.L.length nL) d.L := fun W c => hL2.kept c.2.2.2.2.2.2 fun _ _ => id
        have HT3 : ∀ W : World, (W.cell? ⟨gt, 0, none⟩ = some (.slice AL d.L.length nL) ∧ W.cell? ⟨gt, 1, none⟩ = some (.slice AT d.T.length nT) ∧ W.cell? ⟨gt, 2, none⟩ = some (.int .i64 (d.n : Int)) ∧ W.cell? ⟨b1, o1 + k * 3, none⟩ = some (.int .i64 x.kind) ∧ W.cell? ⟨b1, o1 + k * 3 + 1, none⟩ = some (.slice Au x.b.length cu) ∧ W.cell? ⟨b1, o1 + k * 3 + 2, none⟩ = some (.int .i64 x.kept) ∧ Chg none' w2 W) → Bytes (fun b => (¬ Fk b ∧ b ≠ gt) ∧ b < wr.heap.size) W (.slice AT d.T.length nT) d.T := fun W c => hT2.kept c.2.2.2.2.2.2 fun _ _ => id
        have HU3 : ∀ W : World, (W.cell? ⟨gt, 0, none⟩ = some (.slice AL d.L.length nL) ∧ W.cell? ⟨gt, 1, none⟩ = some (.slice AT d.T.length nT) ∧ W.cell? ⟨gt, 2, none⟩ = some (.int .i64 (d.n : Int)) ∧ W.cell? ⟨b1, o1 + k * 3, none⟩ = some (.int .i64 x.kind) ∧ W.cell? ⟨b1, o1 + k * 3 + 1, none⟩ = some (.slice Au x.b.length cu) ∧ W.cell? ⟨b1, o1 + k * 3 + 2, none⟩ = some (.int .i64 x.kept) ∧ Chg none' w2 W) → Bytes (old' w) W (.slice Au x.b.length cu) x.b := fun W c => hu2.kept c.2.2.2.2.2.2 fun _ _ => id
        have cD : Chg none' w2 w2.drew := (Chg.refl _ _).drew
        have hbl' : x.b.length ≤ 140737488355328 := by omega
        go_region_held3 (fun W => W.cell? ⟨gt, 0, none⟩ = some (.slice AL d.L.length nL) ∧ W.cell? ⟨gt, 1, none⟩ = some (.slice AT d.T.length nT) ∧ W.cell? ⟨gt, 2, none⟩ = some (.int .i64 (d.n : Int)) ∧ W.cell? ⟨b1, o1 + k * 3, none⟩ = some (.int .i64 x.kind) ∧ W.cell? ⟨b1, o1 + k * 3 + 1, none⟩ = some (.slice Au x.b.length cu) ∧ W.cell? ⟨b1, o1 + k * 3 + 2, none⟩ = some (.int .i64 x.kept) ∧ Chg none' w2 W)
          (first | exact ⟨by assumption, by assumption, by assumption, by assumption, by assumption, by assumption, by assumption⟩ | exact HS3 _ (by assumption) _ (cj.mono fun _ _ => False.elim) | exact HS3 _ (by assumption) _ ((Chg.refl _ _).alloc _) | exact HS3 _ (by assumption) _ ((((Chg.refl (fun b => w2.heap.size ≤ b) _).setCell (.inr (by simp)) _).setCell (.inr (by simp)) _).setCell (.inr (by simp)) _) | exact HS3 _ S3 _ ((Chg.refl _ _).alloc _) | go_keep)
          (first | (go_at_call 23; refine (w_rstep6 x (HL3 _ (by assumption)) (HT3 _ (by assumption)) (HU3 _ (by assumption)) hlen hn' hbl').mono ?_; rintro e w3 ⟨⟨vL', vT', rfl, bL, bT⟩, cj⟩; rw [hdd] at bL bT ⊢; simp only at bL bT ⊢; obtain ⟨AL', nL', rfl⟩ := bL.shape; obtain ⟨AT', nT', rfl⟩ := bT.shape; have S3 := HS3 _ (by assumption) _ (cj.mono fun _ _ => False.elim); try (have qC := (cj.block w2.heap.size (by simp) id).trans (heap_alloc_new w2.drew (.cells #[.slice none 0 0, .slice none 0 0, .int .i64 0] 44)); have y0 : w3.cell? ⟨w2.heap.size, 0, none⟩ = some (.slice none 0 0) := (by rw [cell_of_row _ _ _ _ _ _ qC]; rfl); have y1 : w3.cell? ⟨w2.heap.size, 1, none⟩ = some (.slice none 0 0) := (by rw [cell_of_row _ _ _ _ _ _ qC]; rfl); have y2 : w3.cell? ⟨w2.heap.size, 2, none⟩ = some (.int .i64 0) := (by rw [cell_of_row _ _ _ _ _ _ qC]; rfl); have g0 : w3.frozen? ⟨w2.heap.size, 0, none⟩ = false := (by simp [World.frozen?, qC]); have g1 : w3.frozen? ⟨w2.heap.size, 1, none⟩ = false := (by simp [World.frozen?, qC]); have g2 : w3.frozen? ⟨w2.heap.size, 2, none⟩ = false := (by simp [World.frozen?, qC]))))
        · obtain ⟨W4, hW4⟩ : ∃ W4, W4 = w3.alloc (.cells #[.slice AL' D2.L.length nL', .slice AT' D2.T.length nT', .int .i64 (D2.n : Int)] 44) := ⟨_, rfl⟩
          rw [← hW4]
          have qN := heap_alloc_new w3 (.cells #[.slice AL' D2.L.length nL', .slice AT' D2.T.length nT', .int .i64 (D2.n : Int)] 44)
          rw [← hW4] at qN
          have cN : Chg none' w3 W4 := by rw [hW4]; exact (Chg.refl _ _).alloc _
          have c4 : Chg none' w2 W4 := (cD.trans cj).trans cN
          have bL4 := Row.mono (F' := fun b => ((¬ Fk b ∧ b ≠ gt) ∧ b < wr.heap.size) ∨ w2.heap.size ≤ b) (bL.kept cN fun _ _ => id) fun b _ hb => hb.imp id id
          have bT4 := Row.mono (F' := fun b => ((¬ Fk b ∧ b ≠ gt) ∧ b < wr.heap.size) ∨ w2.heap.size ≤ b) (bT.kept cN fun _ _ => id) fun b _ hb => hb.imp id id
          clear hW4
          generalize w3.heap.size = gu at *
          have G5 : ∀ b, ((¬ Fk b ∧ b ≠ gt) ∧ b < wr.heap.size) ∨ w2.heap.size ≤ b → ¬ F2 b ∧ b ≠ gt := fun b hb => by
            rcases hb with hb | hb
            · refine ⟨fun hf => ?_, hb.1.2⟩
              rcases x2 b hf with q | q
              · exact hb.1.1 q
              · omega
            · refine ⟨fun hf => ?_, by omega⟩
              have := hD2.flt b hf
              omega
          have hF2gt : ¬ F2 gt := fun hf => by
            rcases x2 gt hf with q | q
            · exact hFgt q
            · omega
          have bL5 := Row.mono (F' := fun b => ¬ F2 b ∧ b ≠ gt) bL4 fun b _ hb => G5 b hb
          have bT5 := Row.mono (F' := fun b => ¬ F2 b ∧ b ≠ gt) bT4 fun b _ hb => G5 b hb
          have hh4 := (c4.block gt hgt2 id).trans hh2
          have hD4 := hD2.keep c4 fun _ _ => id
          have p0 : W4.cell? ⟨gu, 0, none⟩ = some (.slice AL' D2.L.length nL') := by rw [cell_of_row _ _ _ _ _ _ qN]; rfl
          have p1 : W4.cell? ⟨gu, 1, none⟩ = some (.slice AT' D2.T.length nT') := by rw [cell_of_row _ _ _ _ _ _ qN]; rfl
          have p2 : W4.cell? ⟨gu, 2, none⟩ = some (.int .i64 (D2.n : Int)) := by rw [cell_of_row _ _ _ _ _ _ qN]; rfl
          have a0 : W4.cell? ⟨gt, 0, none⟩ = some (.slice AL d.L.length nL) := by rw [cell_of_row _ _ _ _ _ _ hh4]; rfl
          have a1 : W4.cell? ⟨gt, 1, none⟩ = some (.slice AT d.T.length nT) := by rw [cell_of_row _ _ _ _ _ _ hh4]; rfl
          have a2 : W4.cell? ⟨gt, 2, none⟩ = some (.int .i64 (d.n : Int)) := by rw [cell_of_row _ _ _ _ _ _ hh4]; rfl
          have i0 : W4.frozen? ⟨gt, 0, none⟩ = false := by simp [World.frozen?, hh4]
          have i1 : W4.frozen? ⟨gt, 1, none⟩ = false := by simp [World.frozen?, hh4]
          have i2 : W4.frozen? ⟨gt, 2, none⟩ = false := by simp [World.frozen?, hh4]
          go_upto_region 13 with (fail)
          obtain ⟨W5, hW5⟩ : ∃ W5, W5 = ((W4.setCell ⟨gt, 0, none⟩ (.slice AL' D2.L.length nL')).setCell ⟨gt, 1, none⟩ (.slice AT' D2.T.length nT')).setCell ⟨gt, 2, none⟩ (.int .i64 (D2.n : Int)) := ⟨_, rfl⟩
          rw [← hW5]
          have qE := step_end (a' := .slice AL' D2.L.length nL') (b' := .slice AT' D2.T.length nT') (c' := .int .i64 (D2.n : Int)) hh4
          rw [← hW5] at qE
          have c5 : Chg (fun b => b = gt) W4 W5 := by rw [hW5]; exact (((Chg.refl (fun b => b = gt) _).setCell (.inr rfl) _).setCell (.inr rfl) _).setCell (.inr rfl) _
          clear hW5 p0 p1 p2 a0 a1 a2 i0 i1 i2
          have p0 : W5.cell? ⟨gt, 0, none⟩ = some (.slice AL' D2.L.length nL') := by rw [cell_of_row _ _ _ _ _ _ qE]; rfl
          have p1 : W5.cell? ⟨gt, 1, none⟩ = some (.slice AT' D2.T.length nT') := by rw [cell_of_row _ _ _ _ _ _ qE]; rfl
          have p2 : W5.cell? ⟨gt, 2, none⟩ = some (.int .i64 (D2.n : Int)) := by rw [cell_of_row _ _ _ _ _ _ qE]; rfl
          have hD5 := hD4.keep c5 fun b hb e => hF2gt (e ▸ hb)
          have bL6 := Bytes.kept bL5 c5 (fun b hb => hb.2)
          have bT6 := Bytes.kept bT5 c5 (fun b hb => hb.2)
          have d5 : Chg none' w W5 := (d2.trans c4).trans' c5 fun i hi e => by omega
          go_wp2_with fail
          go_at_call 24
          refine (w_same06 hD5 bL6 bT6).mono ?_
          rintro e w6 ⟨rfl, c6⟩
          go_wp2
          go_roundw
          case rel => exact ⟨k + 1, by omega, by go_num, d5.trans c6, hgt, F2, xe2, by rw [E.out]; exact hD5.keep c6 fun _ _ => id, hF2gt, _, _, by rw [E.out]; exact (c6.block gt (heap_lt qE) id).trans qE, by rw [E.out]; exact bL6.kept c6 fun _ _ => id, by rw [E.out]; exact bT6.kept c6 fun _ _ => id⟩
          case measure => simp [intOf]; omega
        · obtain ⟨W4, hW4⟩ : ∃ W4, W4 = ((w3.setCell ⟨w2.heap.size, 0, none⟩ (.slice AL' D2.L.length nL')).setCell ⟨w2.heap.size, 1, none⟩ (.slice AT' D2.T.length nT')).setCell ⟨w2.heap.size, 2, none⟩ (.int .i64 (D2.n : Int)) := ⟨_, rfl⟩
          rw [← hW4]
          have cA2 : Chg none' w2.drew (w2.drew.alloc (.cells #[.slice none 0 0, .slice none 0 0, .int .i64 0] 44)) := (Chg.refl _ _).alloc _
          have qC := (cj.block w2.heap.size (by simp) id).trans (heap_alloc_new w2.drew (.cells #[.slice none 0 0, .slice none 0 0, .int .i64 0] 44))
          have qN := step_end (a' := .slice AL' D2.L.length nL') (b' := .slice AT' D2.T.length nT') (c' := .int .i64 (D2.n : Int)) qC
          rw [← hW4] at qN
          have cN : Chg (fun b => b = w2.heap.size) w3 W4 := by rw [hW4]; exact (((Chg.refl (fun b => b = w2.heap.size) _).setCell (.inr rfl) _).setCell (.inr rfl) _).setCell (.inr rfl) _
          have c4 : Chg none' w2 W4 := ((cD.trans cA2).trans cj).trans' cN fun i hi e => by omega
          have hns : ∀ b, (((¬ Fk b ∧ b ≠ gt) ∧ b < wr.heap.size) ∨ (w2.drew.alloc (.cells #[.slice none 0 0, .slice none 0 0, .int .i64 0] 44)).heap.size ≤ b) → ¬ b = w2.heap.size := fun b hb e => by
            have := c2.size
            rcases hb with hb | hb
            · omega
            · simp at hb; omega
          have bL4 := Row.mono (F' := fun b => ((¬ Fk b ∧ b ≠ gt) ∧ b < wr.heap.size) ∨ w2.heap.size ≤ b) (bL.kept cN hns) fun b _ hb => hb.imp id fun q => by simp at q; omega
          have bT4 := Row.mono (F' := fun b => ((¬ Fk b ∧ b ≠ gt) ∧ b < wr.heap.size) ∨ w2.heap.size ≤ b) (bT.kept cN hns) fun b _ hb => hb.imp id fun q => by simp at q; omega
          clear hW4 hns
          have G5 : ∀ b, ((¬ Fk b ∧ b ≠ gt) ∧ b < wr.heap.size) ∨ w2.heap.size ≤ b → ¬ F2 b ∧ b ≠ gt := fun b hb => by
            rcases hb with hb | hb
            · refine ⟨fun hf => ?_, hb.1.2⟩
              rcases x2 b hf with q | q
              · exact hb.1.1 q
              · omega
            · refine ⟨fun hf => ?_, by omega⟩
              have := hD2.flt b hf
              omega
          have hF2gt : ¬ F2 gt := fun hf => by
            rcases x2 gt hf with q | q
            · exact hFgt q
            · omega
          have bL5 := Row.mono (F' := fun b => ¬ F2 b ∧ b ≠ gt) bL4 fun b _ hb => G5 b hb
          have bT5 := Row.mono (F' := fun b => ¬ F2 b ∧ b ≠ gt) bT4 fun b _ hb => G5 b hb
          have hh4 := (c4.block gt hgt2 id).trans hh2
          have hD4 := hD2.keep c4 fun _ _ => id
          have p0 : W4.cell? ⟨w2.heap.size, 0, none⟩ = some (.slice AL' D2.L.length nL') := by rw [cell_of_row _ _ _ _ _ _ qN]; rfl
          have p1 : W4.cell? ⟨w2.heap.size, 1, none⟩ = some (.slice AT' D2.T.length nT') := by rw [cell_of_row _ _ _ _ _ _ qN]; rfl
          have p2 : W4.cell? ⟨w2.heap.size, 2, none⟩ = some (.int .i64 (D2.n : Int)) := by rw [cell_of_row _ _ _ _ _ _ qN]; rfl
          have a0 : W4.cell? ⟨gt, 0, none⟩ = some (.slice AL d.L.length nL) := by rw [cell_of_row _ _ _ _ _ _ hh4]; rfl
          have a1 : W4.cell? ⟨gt, 1, none⟩ = some (.slice AT d.T.length nT) := by rw [cell_of_row _ _ _ _ _ _ hh4]; rfl
          have a2 : W4.cell? ⟨gt, 2, none⟩ = some (.int .i64 (d.n : Int)) := by rw [cell_of_row _ _ _ _ _ _ hh4]; rfl
          have i0 : W4.frozen? ⟨gt, 0, none⟩ = false := by simp [World.frozen?, hh4]
          have i1 : W4.frozen? ⟨gt, 1, none⟩ = false := by simp [World.frozen?, hh4]
          have i2 : W4.frozen? ⟨gt, 2, none⟩ = false := by simp [World.frozen?, hh4]
          go_upto_region 13 with (fail)
          obtain ⟨W5, hW5⟩ : ∃ W5, W5 = ((W4.setCell ⟨gt, 0, none⟩ (.slice AL' D2.L.length nL')).setCell ⟨gt, 1, none⟩ (.slice AT' D2.T.length nT')).setCell ⟨gt, 2, none⟩ (.int .i64 (D2.n : Int)) := ⟨_, rfl⟩
          rw [← hW5]
          have qE := step_end (a' := .slice AL' D2.L.length nL') (b' := .slice AT' D2.T.length nT') (c' := .int .i64 (D2.n : Int)) hh4
          rw [← hW5] at qE
          have c5 : Chg (fun b => b = gt) W4 W5 := by rw [hW5]; exact (((Chg.refl (fun b => b = gt) _).setCell (.inr rfl) _).setCell (.inr rfl) _).setCell (.inr rfl) _
          clear hW5 p0 p1 p2 a0 a1 a2 i0 i1 i2
          have p0 : W5.cell? ⟨gt, 0, none⟩ = some (.slice AL' D2.L.length nL') := by rw [cell_of_row _ _ _ _ _ _ qE]; rfl
          have p1 : W5.cell? ⟨gt, 1, none⟩ = some (.slice AT' D2.T.length nT') := by rw [cell_of_row _ _ _ _ _ _ qE]; rfl
          have p2 : W5.cell? ⟨gt, 2, none⟩ = some (.int .i64 (D2.n : Int)) := by rw [cell_of_row _ _ _ _ _ _ qE]; rfl
          have hD5 := hD4.keep c5 fun b hb e => hF2gt (e ▸ hb)
          have bL6 := Bytes.kept bL5 c5 (fun b hb => hb.2)
          have bT6 := Bytes.kept bT5 c5 (fun b hb => hb.2)
          have d5 : Chg none' w W5 := (d2.trans c4).trans' c5 fun i hi e => by omega
          go_wp2_with fail
          go_at_call 24
          refine (w_same06 hD5 bL6 bT6).mono ?_
          rintro e w6 ⟨rfl, c6⟩
          go_wp2
          go_roundw
          case rel => exact ⟨k + 1, by omega, by go_num, d5.trans c6, hgt, F2, xe2, by rw [E.out]; exact hD5.keep c6 fun _ _ => id, hF2gt, _, _, by rw [E.out]; exact (c6.block gt (heap_lt qE) id).trans qE, by rw [E.out]; exact bL6.kept c6 fun _ _ => id, by rw [E.out]; exact bT6.kept c6 fun _ _ => id⟩
          case measure => simp [intOf]; omega
      · obtain rfl : k = xs.length := by omega
        go_wp2_with fail
        go_at_call 9
        refine (w_known06 _).mono ?_
        rintro e w2 ⟨rfl, c2⟩
        go_wp2
        go_ret
        exact ⟨rfl, hchg.trans c2⟩
  · go_wp2_with fail
    refine (w_known06 _).mono ?_
    rintro e w2 ⟨rfl, c2⟩
    go_wp2
    go_ret
    exact ⟨rfl, c2⟩

end Go.Proofs.Ytlgmmokeflipaaa
