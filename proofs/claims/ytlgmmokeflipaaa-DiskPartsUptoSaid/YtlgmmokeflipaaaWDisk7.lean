/-
  Walks: what the examples of chapter 06 fix; how much is looked at; whether a disk is as it is to be.
-/
import Derived.Test.YtlgmmokeflipaaaWDisk6
namespace Go.Proofs.Ytlgmmokeflipaaa
open Go.RowKit

section
variable {F : Nat → Prop} {w : World} {g : Nat} {d : Dk}
set_option maxRecDepth 100000 in
set_option maxHeartbeats 400000 in
theorem w_syncs (h : IsDisk F w g d) :
    Calls Try.prog 21 #[.pointer (some ⟨g, 0, none⟩)] w fun e w' => e = .returned (.int .i64 (d.n : Int)) ∧ w = w' := by
  obtain ⟨vL, vT, h⟩ := h
  have c0 := h.cell2
  go_enter Try.func21, Try.ntmps21
  go_wp2
  go_ret
  exact ⟨rfl, rfl⟩
end

set_option maxRecDepth 100000 in
set_option maxHeartbeats 2000000 in
theorem w_ddo {F G : Nat → Prop} {w : World} {g : Nat} {d : Dk} {u : Value} (x : Do6) (h : IsDisk F w g d) (hn : d.n ≤ 1000000000000000) (hu : Bytes G w u x.b) (hb : x.b.length ≤ 140737488355328) (hG : ∀ b, G b → ¬ F b) :
    Calls Try.prog 19 #[.pointer (some ⟨g, 0, none⟩), .agg #[.int .i64 x.kind, u, .int .i64 x.kept]] w fun e w' => ∃ F', e = .returned (.int .i64 ((ddo d x).2 : Nat)) ∧ IsDisk F' w' g (ddo d x).1 ∧ Ext F F' w ∧ Chg F w w' := by
  obtain ⟨A, c, rfl⟩ := hu.shape
  have cW : Chg none' w (w.alloc (.cells #[.int .i64 x.kind, .slice A x.b.length c, .int .i64 x.kept] 37)) := (Chg.refl none' _).alloc _
  have h' := h.keep cW fun _ _ => id
  have hu' := hu.kept cW fun _ _ => id
  have fin : ∀ (e : Ending) (w' : World) (n : Nat) (d' : Dk), (∃ F', e = .returned (.int .i64 (n : Nat)) ∧ IsDisk F' w' g d' ∧ Ext F F' (w.alloc (.cells #[.int .i64 x.kind, .slice A x.b.length c, .int .i64 x.kept] 37)) ∧ Chg F (w.alloc (.cells #[.int .i64 x.kind, .slice A x.b.length c, .int .i64 x.kept] 37)) w') →
      ∃ F', e = .returned (.int .i64 (n : Nat)) ∧ IsDisk F' w' g d' ∧ Ext F F' w ∧ Chg F w w' := fun e w' n d' ⟨F', q0, q1, q2, q3⟩ =>
    ⟨F', q0, q1, fun b hb => (q2 b hb).imp id (Nat.le_trans cW.size), (cW.mono fun _ _ => False.elim).trans q3⟩
  have fin0 : IsDisk F (w.alloc (.cells #[.int .i64 x.kind, .slice A x.b.length c, .int .i64 x.kept] 37)) g d ∧ Ext F F w ∧ Chg F w (w.alloc (.cells #[.int .i64 x.kind, .slice A x.b.length c, .int .i64 x.kept] 37)) := ⟨h', Ext.refl _ _, cW.mono fun _ _ => False.elim⟩
  unfold ddo
  by_cases k1 : x.kind = 1
  · have z1 : (x.kind == 1) = true := by rw [k1]; rfl
    rw [if_pos k1]
    have K := w_dapp1 (gg := w.heap.size + 1) (t := 22) h' hu' hb hG (by simp)
    clear k1 h hu
    go_enter Try.func19, Try.ntmps19
    go_wp2_with fail
    ((with_reducible refine K.mono ?_))
    rintro e w1 ⟨F', rfl, q1, q2, q3⟩
    go_wp2
    go_ret
    exact fin _ _ _ _ ⟨F', rfl, q1, q2, q3⟩
  have z1 : (x.kind == 1) = false := by rw [beq_eq_false_iff_ne]; exact k1
  rw [if_neg k1]
  by_cases k2 : x.kind = 2
  · have z2 : (x.kind == 2) = true := by rw [k2]; rfl
    rw [if_pos k2]
    clear k1 k2 h hu
    go_enter Try.func19, Try.ntmps19
    go_wp2_with fail
    refine (w_dsync h' hn).mono ?_
    rintro e w1 ⟨F', rfl, q1, q2, q3⟩
    go_wp2
    go_ret
    exact fin _ _ 0 _ ⟨F', rfl, q1, q2, q3⟩
  have z2 : (x.kind == 2) = false := by rw [beq_eq_false_iff_ne]; exact k2
  rw [if_neg k2]
  by_cases k3 : x.kind = 3
  · have z3 : (x.kind == 3) = true := by rw [k3]; rfl
    rw [if_pos k3]
    by_cases hl : x.b.length ≤ 4194304
    · rw [if_pos hl]
      clear k1 k2 k3 h hu
      go_enter Try.func19, Try.ntmps19
      go_wp2_with fail
      refine (w_drepl h' hu' hl).mono ?_
      rintro e w1 ⟨F', rfl, q1, q2, q3⟩
      go_wp2
      go_ret
      exact fin _ _ 0 _ ⟨F', rfl, q1, q2, q3⟩
    · rw [if_neg hl]
      clear k1 k2 k3 h hu
      go_enter Try.func19, Try.ntmps19
      go_wp2_with fail
      refine (w_drepl_no hu' (by omega)).mono ?_
      rintro e w1 ⟨rfl, rfl⟩
      go_wp2
      go_ret
      exact ⟨F, rfl, fin0⟩
  have z3 : (x.kind == 3) = false := by rw [beq_eq_false_iff_ne]; exact k3
  rw [if_neg k3]
  by_cases k4 : x.kept < 0
  · rw [if_pos k4]
    clear k1 k2 k3 h hu
    go_enter Try.func19, Try.ntmps19
    go_wp2_with fail
    refine (w_dcrash_no k4).mono ?_
    rintro e w1 ⟨rfl, rfl⟩
    go_wp2
    go_ret
    exact ⟨F, rfl, fin0⟩
  · rw [if_neg k4]
    have K := w_dcrash h' x.kept.toNat
    rw [show ((x.kept.toNat : Nat) : Int) = x.kept by omega] at K
    clear k1 k2 k3 h hu
    go_enter Try.func19, Try.ntmps19
    go_wp2_with fail
    ((with_reducible refine K.mono ?_))
    rintro e w1 ⟨F', rfl, q1, q2, q3⟩
    go_wp2
    go_ret
    exact fin _ _ 0 _ ⟨F', rfl, q1, q2, q3⟩

set_option maxRecDepth 100000 in
set_option maxHeartbeats 2000000 in
theorem w_known06 (w : World) :
    Calls Try.prog 9 #[] w fun e w' => e = .returned (.bool true) ∧ Chg none' w w' := by
  have kc := fun (w : World) (C : Array Value) (n c : Nat) => Lib.run_convert_bytes_const (P := Try.prog) w 22 5 C n c Try.underlying22 Try.underlying5
  go_enter Try.func9, Try.ntmps9
  go_wp2_with fail
  refine (w_new _).mono ?_
  rintro e w1 ⟨g, F1, rfl, h1, x1, c1⟩
  have kc2 := kc (w1.alloc (.cells #[.int .u8 97] 5 (1, 2))) #[.int .u8 98] 1 1
  rw [show (w1.alloc (.cells #[.int .u8 97] 5 (1, 2))).heap.size = w1.heap.size + 1 by simp] at kc2
  have h1' := h1.keep (((((Chg.refl none' _).alloc (.cells #[.int .u8 97] 5 (1, 2))).alloc (.cells #[.int .u8 98] 5 (1, 2))).alloc (.cells #[.slice (some ⟨w1.heap.size, 0, none⟩) 1 1, .slice (some ⟨w1.heap.size + 1, 0, none⟩) 1 1] 22))) fun _ _ => id
  have b1 : Bytes (fun b => w1.heap.size ≤ b) ((w1.alloc (.cells #[.int .u8 97] 5 (1, 2))).alloc (.cells #[.int .u8 98] 5 (1, 2))) (.slice (some ⟨w1.heap.size, 0, none⟩) 1 1) [97] := (bytes_constG (bs := [97]) (n := 1) rfl (by decide) rfl (Nat.le_refl _)).alloc _
  have b2 : Bytes (fun b => w1.heap.size ≤ b) ((w1.alloc (.cells #[.int .u8 97] 5 (1, 2))).alloc (.cells #[.int .u8 98] 5 (1, 2))) (.slice (some ⟨w1.heap.size + 1, 0, none⟩) 1 1) [98] := bytes_constG (bs := [98]) (n := 1) rfl (by decide) rfl (by simp) (by simp)
  have r1 := rows_lit2G (g := w1.heap.size + 1 + 1) (t := 22) b1 b2 (by simp; omega) (by simp)
  have K1 := w_dappE h1' r1 (by simp) fun b hb hF => by have := h1.flt b hF; omega
  rw [show [([97] : List UInt8), [98]].flatten = [97, 98] from rfl, dappE_in (by decide)] at K1
  go_wp2_with fail
  ((with_reducible refine K1.mono ?_))
  rintro e w2 ⟨F2, rfl, h2, x2, c2⟩
  clear K1 h1' b1 b2 r1
  have a2 : Chg none' w (((w1.alloc (.cells #[.int .u8 97] 5 (1, 2))).alloc (.cells #[.int .u8 98] 5 (1, 2))).alloc (.cells #[.slice (some ⟨w1.heap.size, 0, none⟩) 1 1, .slice (some ⟨w1.heap.size + 1, 0, none⟩) 1 1] 22)) := ((c1.alloc _).alloc _).alloc _
  have d2 := a2.ext x1 c2
  have y2 := x1.trans x2 a2.size
  clear a2
  have e2 : dsync (dapp (⟨[], [], 0⟩ : Dk) [97, 98]) = ⟨[97, 98], [], 1⟩ := rfl
  have K2 := w_dsync h2 (by decide)
  rw [e2] at K2
  go_wp2_with fail
  ((with_reducible refine K2.mono ?_))
  rintro e w3 ⟨F3, rfl, h3, x3, c3⟩
  clear K2
  have d3 := (d2.ext y2 c3).alloc (.cells #[.int .u8 99, .int .u8 100, .int .u8 101] 5 (3, 4))
  have y3 := y2.trans x3 d2.size
  have b3 : Bytes (fun b => w3.heap.size ≤ b) (w3.alloc (.cells #[.int .u8 99, .int .u8 100, .int .u8 101] 5 (3, 4))) (.slice (some ⟨w3.heap.size, 0, none⟩) 3 3) [99, 100, 101] := bytes_constG (bs := [99, 100, 101]) (n := 3) rfl (by decide) rfl (Nat.le_refl _) rfl
  have K3 := w_dapp1 (gg := w3.heap.size + 1) (t := 22) (h3.keep ((Chg.refl none' _).alloc (.cells #[.int .u8 99, .int .u8 100, .int .u8 101] 5 (3, 4))) fun _ _ => id) b3 (by decide) (fun b hb hF => by have := h3.flt b hF; omega) (by simp)
  rw [dappE_in (by decide)] at K3
  go_wp2_with fail
  ((with_reducible refine K3.mono ?_))
  rintro e w4 ⟨F4, rfl, h4, x4, c4⟩
  clear K3 b3
  have d4 := d3.ext y3 c4
  have y4 := y3.trans x4 d3.size
  have e4 : dcrash (dapp (⟨[97, 98], [], 1⟩ : Dk) [99, 100, 101]) 1 = ⟨[97, 98, 99], [], 1⟩ := rfl
  have K4 := w_dcrash h4 1
  rw [e4, show ((1 : Nat) : Int) = 1 from rfl] at K4
  go_wp2_with fail
  ((with_reducible refine K4.mono ?_))
  rintro e w5 ⟨F5, rfl, h5, x5, c5⟩
  clear K4
  have d5 := (d4.ext y4 c5)
  go_wp2_with fail
  refine (w_lasting h5).mono ?_
  rintro e w6 ⟨v6, rfl, o6, c6⟩
  have h6 := h5.keep c6 fun _ _ => id
  have cv := o6.bytes.conv
  go_wp2_with fail
  refine (w_syncs h6).mono ?_
  rintro e w7 ⟨rfl, rfl⟩
  go_wp2_with fail
  refine (w_sync_nil _).mono ?_
  rintro e w7 ⟨rfl, rfl⟩
  go_wp2
  go_ret
  exact ⟨rfl, d5.trans c6⟩

set_option maxRecDepth 100000 in
set_option maxHeartbeats 2000000 in
theorem w_same06 {F G : Nat → Prop} {w : World} {g : Nat} {d : Dk} {vL vT : Value} (h : IsDisk F w g d) (hL : Bytes G w vL d.L) (hT : Bytes G w vT d.T) :
    Calls Try.prog 24 #[.pointer (some ⟨g, 0, none⟩), .agg #[vL, vT, .int .i64 (d.n : Int)]] w fun e w' => e = .returned (.bool true) ∧ Chg none' w w' := by
  obtain ⟨AL, nL, rfl⟩ := hL.shape
  obtain ⟨AT, nT, rfl⟩ := hT.shape
  have hlj : d.L.length + d.T.length ≤ 140737488355328 := by have := h.len; omega
  obtain ⟨X, hX⟩ : ∃ X, X = w.alloc (.cells #[.slice AL d.L.length nL, .slice AT d.T.length nT, .int .i64 (d.n : Int)] 44) := ⟨_, rfl⟩
  have q0 := heap_alloc_new w (.cells #[.slice AL d.L.length nL, .slice AT d.T.length nT, .int .i64 (d.n : Int)] 44)
  rw [← hX] at q0
  have cX : Chg none' w X := by rw [hX]; exact (Chg.refl _ _).alloc _
  obtain ⟨gb, hgb⟩ : ∃ gb, w.heap.size = gb := ⟨_, rfl⟩
  rw [hgb] at q0
  have ck0 : X.cell? ⟨gb, 0, none⟩ = some (.slice AL d.L.length nL) := by rw [cell_of_row _ _ _ _ _ _ q0]; rfl
  have ck1 : X.cell? ⟨gb, 1, none⟩ = some (.slice AT d.T.length nT) := by rw [cell_of_row _ _ _ _ _ _ q0]; rfl
  have ck2 : X.cell? ⟨gb, 2, none⟩ = some (.int .i64 (d.n : Int)) := by rw [cell_of_row _ _ _ _ _ _ q0]; rfl
  have hd6 := h.keep cX fun _ _ => id
  have HL := hL.kept cX fun _ _ => id
  have HT := hT.kept cX fun _ _ => id
  have HX := Lib.hid hX.symm
  have HG := Lib.hid hgb
  clear hX hgb q0 h hL hT
  go_enter Try.func24, Try.ntmps24
  go_wp2
  rw [HX.out, HG.out]
  have cw : Chg none' X X.drew := (Chg.refl _ _).drew
  -- BEGIN same
  refine wp_region_track2 [Vp.k (.pointer (some ⟨g, 0, none⟩)),
    ⟨fun x v => OwnB X.heap.size x v (d.L), fun _ _ _ hc h => h.keep hc fun _ => none_own⟩,
    Vp.k (.pointer (some ⟨gb, 0, none⟩)),
    Vp.k (.slice AL d.L.length nL),
    Vp.k (.bool true),
    Vp.k (.bool true),
    Vp.k (.pointer (some ⟨g, 0, none⟩)),
    ⟨fun x v => OwnB X.heap.size x v (d.T), fun _ _ _ hc h => h.keep hc fun _ => none_own⟩,
    Vp.k (.pointer (some ⟨gb, 1, none⟩)),
    Vp.k (.slice AT d.T.length nT),
    Vp.k (.bool true),
    Vp.k (.bool true),
    Vp.k (.bool true),
    Vp.k (.pointer (some ⟨g, 0, none⟩)),
    ⟨fun x v => OwnB X.heap.size x v (d.L ++ d.T), fun _ _ _ hc h => h.keep hc fun _ => none_own⟩,
    Vp.k (.pointer (some ⟨gb, 0, none⟩)),
    Vp.k (.slice AL d.L.length nL),
    Vp.k (.pointer (some ⟨gb, 1, none⟩)),
    Vp.k (.slice AT d.T.length nT),
    ⟨fun x v => OwnB X.heap.size x v (d.L ++ d.T), fun _ _ _ hc h => h.keep hc fun _ => none_own⟩,
    Vp.k (.bool true),
    Vp.k (.bool true),
    Vp.k (.bool true),
    Vp.k (.pointer (some ⟨g, 0, none⟩)),
    Vp.k (.int .i64 (d.n : Int)),
    Vp.k (.pointer (some ⟨gb, 2, none⟩)),
    Vp.k (.int .i64 (d.n : Int)),
    Vp.k (.bool true),
    Vp.k (.bool true),
    Vp.k (.bool true)] (by kernel_rfl) (by kernel_rfl) (by kernel_rfl) ?_ ?_
  · refine ⟨?_, ?_, ?_, ?_, ?_, ?_, ?_, ?_, ?_, ?_, ?_, ?_, ?_, ?_, ?_, ?_, ?_, ?_, ?_, ?_, ?_, ?_, ?_, ?_, ?_, ?_, ?_, ?_, ?_, ?_, trivial⟩
    · intro a w2 hc hd hk K hK
      have e0 : a.tmps.getD 0 undef = .pointer (some ⟨g, 0, none⟩) := (Known.init (hk 0 (of_decide_eq_true (by kernel_rfl))) (by kernel_rfl))
      refine track_run rfl ?_
      exact BigFrame.wp_move _ rfl (hK _ w2 (Chg.refl _ _) e0)
    · intro a w2 hc hd hk K hK
      have e5 : a.tmps.getD 5 undef = .pointer (some ⟨g, 0, none⟩) := (Known.of (j := 0) (hk 5 (of_decide_eq_true (by kernel_rfl))) (by kernel_rfl) (by decide))
      refine track_run rfl ?_
      refine wp_call _ Try.func13 rfl rfl rfl (map_one _ _) ?_
      rw [e5]
      refine (w_lasting (hd6.keep (cw.trans hc) fun _ _ => id)).mono ?_
      rintro e w3 ⟨u, rfl, o3, c3⟩
      exact ⟨_, rfl, hK _ w3 c3 (o3.more (cw.trans hc).size)⟩
    · intro a w2 hc hd hk K hK
      have e3 : a.tmps.getD 3 undef = .pointer (some ⟨gb, 0, none⟩) := (Known.init (hk 3 (of_decide_eq_true (by kernel_rfl))) (by kernel_rfl))
      refine track_run rfl ?_
      clear hd
      simp only [Array.getD_eq_getD_getElem?] at e3
      go_simp
      exact hK _ w2 (Chg.refl _ _) rfl
    · intro a w2 hc hd hk K hK
      have e7 : a.tmps.getD 7 undef = .pointer (some ⟨gb, 0, none⟩) := (Known.of (j := 2) (hk 7 (of_decide_eq_true (by kernel_rfl))) (by kernel_rfl) (by decide))
      refine track_run rfl ?_
      have cc := Chg.cell (cw.trans hc) ck0 id
      clear hd
      simp only [Array.getD_eq_getD_getElem?] at e7
      go_simp
      exact hK _ w2 (Chg.refl _ _) rfl
    · intro a w2 hc hd hk K hK
      have e6 : OwnB X.heap.size w2 (a.tmps.getD 6 undef) (d.L) := (Known.of (j := 1) (hk 6 (of_decide_eq_true (by kernel_rfl))) (by kernel_rfl) (by decide))
      have e8 : a.tmps.getD 8 undef = .slice AL d.L.length nL := (Known.of (j := 3) (hk 8 (of_decide_eq_true (by kernel_rfl))) (by kernel_rfl) (by decide))
      refine track_run rfl ?_
      refine wp_call _ Try.func15 rfl rfl rfl (map_two _ _ _) ?_
      rw [e8]
      refine (w_same00 _ e6.bytes (HL.kept (cw.trans hc) fun _ _ => id)).mono ?_
      rintro e w3 ⟨rfl, rfl⟩
      rw [beq_self_eq_true]
      exact ⟨_, rfl, hK _ _ (Chg.refl _ _) rfl⟩
    · intro a w2 hc hd hk K hK
      have e9 : a.tmps.getD 9 undef = .bool true := (Known.of (j := 4) (hk 9 (of_decide_eq_true (by kernel_rfl))) (by kernel_rfl) (by decide))
      refine track_run rfl ?_
      exact BigFrame.wp_move _ rfl (hK _ w2 (Chg.refl _ _) e9)
    · intro a w2 hc hd hk K hK
      have e10 : a.tmps.getD 10 undef = .bool true := (Known.of (j := 5) (hk 10 (of_decide_eq_true (by kernel_rfl))) (by kernel_rfl) (by decide))
      have e0 : a.tmps.getD 0 undef = .pointer (some ⟨g, 0, none⟩) := (Known.init (hk 0 (of_decide_eq_true (by kernel_rfl))) (by kernel_rfl))
      refine track_run (wanted_yes rfl rfl e10) ?_
      exact BigFrame.wp_move _ rfl (hK _ w2 (Chg.refl _ _) e0)
    · intro a w2 hc hd hk K hK
      have e10 : a.tmps.getD 10 undef = .bool true := (Known.of (j := 5) (hk 10 (of_decide_eq_true (by kernel_rfl))) (by kernel_rfl) (by decide))
      have e11 : a.tmps.getD 11 undef = .pointer (some ⟨g, 0, none⟩) := (Known.of (j := 6) (hk 11 (of_decide_eq_true (by kernel_rfl))) (by kernel_rfl) (by decide))
      refine track_run (wanted_yes rfl rfl e10) ?_
      refine wp_call _ Try.func14 rfl rfl rfl (map_one _ _) ?_
      rw [e11]
      refine (w_tail (hd6.keep (cw.trans hc) fun _ _ => id)).mono ?_
      rintro e w3 ⟨u, rfl, o3, c3⟩
      exact ⟨_, rfl, hK _ w3 c3 (o3.more (cw.trans hc).size)⟩
    · intro a w2 hc hd hk K hK
      have e10 : a.tmps.getD 10 undef = .bool true := (Known.of (j := 5) (hk 10 (of_decide_eq_true (by kernel_rfl))) (by kernel_rfl) (by decide))
      have e3 : a.tmps.getD 3 undef = .pointer (some ⟨gb, 0, none⟩) := (Known.init (hk 3 (of_decide_eq_true (by kernel_rfl))) (by kernel_rfl))
      refine track_run (wanted_yes rfl rfl e10) ?_
      clear hd
      simp only [Array.getD_eq_getD_getElem?] at e3
      go_simp
      exact hK _ w2 (Chg.refl _ _) rfl
    · intro a w2 hc hd hk K hK
      have e10 : a.tmps.getD 10 undef = .bool true := (Known.of (j := 5) (hk 10 (of_decide_eq_true (by kernel_rfl))) (by kernel_rfl) (by decide))
      have e13 : a.tmps.getD 13 undef = .pointer (some ⟨gb, 1, none⟩) := (Known.of (j := 8) (hk 13 (of_decide_eq_true (by kernel_rfl))) (by kernel_rfl) (by decide))
      refine track_run (wanted_yes rfl rfl e10) ?_
      have cc := Chg.cell (cw.trans hc) ck1 id
      clear hd
      simp only [Array.getD_eq_getD_getElem?] at e13
      go_simp
      exact hK _ w2 (Chg.refl _ _) rfl
    · intro a w2 hc hd hk K hK
      have e10 : a.tmps.getD 10 undef = .bool true := (Known.of (j := 5) (hk 10 (of_decide_eq_true (by kernel_rfl))) (by kernel_rfl) (by decide))
      have e12 : OwnB X.heap.size w2 (a.tmps.getD 12 undef) (d.T) := (Known.of (j := 7) (hk 12 (of_decide_eq_true (by kernel_rfl))) (by kernel_rfl) (by decide))
      have e14 : a.tmps.getD 14 undef = .slice AT d.T.length nT := (Known.of (j := 9) (hk 14 (of_decide_eq_true (by kernel_rfl))) (by kernel_rfl) (by decide))
      refine track_run (wanted_yes rfl rfl e10) ?_
      refine wp_call _ Try.func15 rfl rfl rfl (map_two _ _ _) ?_
      rw [e14]
      refine (w_same00 _ e12.bytes (HT.kept (cw.trans hc) fun _ _ => id)).mono ?_
      rintro e w3 ⟨rfl, rfl⟩
      rw [beq_self_eq_true]
      exact ⟨_, rfl, hK _ _ (Chg.refl _ _) rfl⟩
    · intro a w2 hc hd hk K hK
      have e10 : a.tmps.getD 10 undef = .bool true := (Known.of (j := 5) (hk 10 (of_decide_eq_true (by kernel_rfl))) (by kernel_rfl) (by decide))
      have e15 : a.tmps.getD 15 undef = .bool true := (Known.of (j := 10) (hk 15 (of_decide_eq_true (by kernel_rfl))) (by kernel_rfl) (by decide))
      refine track_run rfl ?_
      clear hd
      simp only [Array.getD_eq_getD_getElem?] at e10 e15
      go_simp
      exact hK _ w2 (Chg.refl _ _) rfl
    · intro a w2 hc hd hk K hK
      have e16 : a.tmps.getD 16 undef = .bool true := (Known.of (j := 11) (hk 16 (of_decide_eq_true (by kernel_rfl))) (by kernel_rfl) (by decide))
      refine track_run rfl ?_
      exact BigFrame.wp_move _ rfl (hK _ w2 (Chg.refl _ _) e16)
    · intro a w2 hc hd hk K hK
      have e17 : a.tmps.getD 17 undef = .bool true := (Known.of (j := 12) (hk 17 (of_decide_eq_true (by kernel_rfl))) (by kernel_rfl) (by decide))
      have e0 : a.tmps.getD 0 undef = .pointer (some ⟨g, 0, none⟩) := (Known.init (hk 0 (of_decide_eq_true (by kernel_rfl))) (by kernel_rfl))
      refine track_run (wanted_yes rfl rfl e17) ?_
      exact BigFrame.wp_move _ rfl (hK _ w2 (Chg.refl _ _) e0)
    · intro a w2 hc hd hk K hK
      have e17 : a.tmps.getD 17 undef = .bool true := (Known.of (j := 12) (hk 17 (of_decide_eq_true (by kernel_rfl))) (by kernel_rfl) (by decide))
      have e18 : a.tmps.getD 18 undef = .pointer (some ⟨g, 0, none⟩) := (Known.of (j := 13) (hk 18 (of_decide_eq_true (by kernel_rfl))) (by kernel_rfl) (by decide))
      refine track_run (wanted_yes rfl rfl e17) ?_
      refine wp_call _ Try.func18 rfl rfl rfl (map_one _ _) ?_
      rw [e18]
      refine (w_dbytes (hd6.keep (cw.trans hc) fun _ _ => id)).mono ?_
      rintro e w3 ⟨u, rfl, o3, c3⟩
      exact ⟨_, rfl, hK _ w3 c3 (o3.more (cw.trans hc).size)⟩
    · intro a w2 hc hd hk K hK
      have e17 : a.tmps.getD 17 undef = .bool true := (Known.of (j := 12) (hk 17 (of_decide_eq_true (by kernel_rfl))) (by kernel_rfl) (by decide))
      have e3 : a.tmps.getD 3 undef = .pointer (some ⟨gb, 0, none⟩) := (Known.init (hk 3 (of_decide_eq_true (by kernel_rfl))) (by kernel_rfl))
      refine track_run (wanted_yes rfl rfl e17) ?_
      clear hd
      simp only [Array.getD_eq_getD_getElem?] at e3
      go_simp
      exact hK _ w2 (Chg.refl _ _) rfl
    · intro a w2 hc hd hk K hK
      have e17 : a.tmps.getD 17 undef = .bool true := (Known.of (j := 12) (hk 17 (of_decide_eq_true (by kernel_rfl))) (by kernel_rfl) (by decide))
      have e20 : a.tmps.getD 20 undef = .pointer (some ⟨gb, 0, none⟩) := (Known.of (j := 15) (hk 20 (of_decide_eq_true (by kernel_rfl))) (by kernel_rfl) (by decide))
      refine track_run (wanted_yes rfl rfl e17) ?_
      have cc := Chg.cell (cw.trans hc) ck0 id
      clear hd
      simp only [Array.getD_eq_getD_getElem?] at e20
      go_simp
      exact hK _ w2 (Chg.refl _ _) rfl
    · intro a w2 hc hd hk K hK
      have e17 : a.tmps.getD 17 undef = .bool true := (Known.of (j := 12) (hk 17 (of_decide_eq_true (by kernel_rfl))) (by kernel_rfl) (by decide))
      have e3 : a.tmps.getD 3 undef = .pointer (some ⟨gb, 0, none⟩) := (Known.init (hk 3 (of_decide_eq_true (by kernel_rfl))) (by kernel_rfl))
      refine track_run (wanted_yes rfl rfl e17) ?_
      clear hd
      simp only [Array.getD_eq_getD_getElem?] at e3
      go_simp
      exact hK _ w2 (Chg.refl _ _) rfl
    · intro a w2 hc hd hk K hK
      have e17 : a.tmps.getD 17 undef = .bool true := (Known.of (j := 12) (hk 17 (of_decide_eq_true (by kernel_rfl))) (by kernel_rfl) (by decide))
      have e22 : a.tmps.getD 22 undef = .pointer (some ⟨gb, 1, none⟩) := (Known.of (j := 17) (hk 22 (of_decide_eq_true (by kernel_rfl))) (by kernel_rfl) (by decide))
      refine track_run (wanted_yes rfl rfl e17) ?_
      have cc := Chg.cell (cw.trans hc) ck1 id
      clear hd
      simp only [Array.getD_eq_getD_getElem?] at e22
      go_simp
      exact hK _ w2 (Chg.refl _ _) rfl
    · intro a w2 hc hd hk K hK
      have e17 : a.tmps.getD 17 undef = .bool true := (Known.of (j := 12) (hk 17 (of_decide_eq_true (by kernel_rfl))) (by kernel_rfl) (by decide))
      have e21 : a.tmps.getD 21 undef = .slice AL d.L.length nL := (Known.of (j := 16) (hk 21 (of_decide_eq_true (by kernel_rfl))) (by kernel_rfl) (by decide))
      have e23 : a.tmps.getD 23 undef = .slice AT d.T.length nT := (Known.of (j := 18) (hk 23 (of_decide_eq_true (by kernel_rfl))) (by kernel_rfl) (by decide))
      refine track_run (wanted_yes rfl rfl e17) ?_
      refine wp_call _ Try.func28 rfl rfl rfl (map_two _ _ _) ?_
      rw [e21, e23]
      refine (w_join _ (HL.kept (cw.trans hc) fun _ _ => id) (HT.kept (cw.trans hc) fun _ _ => id) hlj).mono ?_
      rintro e w3 ⟨u, rfl, o3, c3⟩
      exact ⟨_, rfl, hK _ w3 c3 (o3.more (cw.trans hc).size)⟩
    · intro a w2 hc hd hk K hK
      have e17 : a.tmps.getD 17 undef = .bool true := (Known.of (j := 12) (hk 17 (of_decide_eq_true (by kernel_rfl))) (by kernel_rfl) (by decide))
      have e19 : OwnB X.heap.size w2 (a.tmps.getD 19 undef) (d.L ++ d.T) := (Known.of (j := 14) (hk 19 (of_decide_eq_true (by kernel_rfl))) (by kernel_rfl) (by decide))
      have e24 : OwnB X.heap.size w2 (a.tmps.getD 24 undef) (d.L ++ d.T) := (Known.of (j := 19) (hk 24 (of_decide_eq_true (by kernel_rfl))) (by kernel_rfl) (by decide))
      refine track_run (wanted_yes rfl rfl e17) ?_
      refine wp_call _ Try.func15 rfl rfl rfl (map_two _ _ _) ?_
      refine (w_same00 _ e19.bytes e24.bytes).mono ?_
      rintro e w3 ⟨rfl, rfl⟩
      rw [beq_self_eq_true]
      exact ⟨_, rfl, hK _ _ (Chg.refl _ _) rfl⟩
    · intro a w2 hc hd hk K hK
      have e17 : a.tmps.getD 17 undef = .bool true := (Known.of (j := 12) (hk 17 (of_decide_eq_true (by kernel_rfl))) (by kernel_rfl) (by decide))
      have e25 : a.tmps.getD 25 undef = .bool true := (Known.of (j := 20) (hk 25 (of_decide_eq_true (by kernel_rfl))) (by kernel_rfl) (by decide))
      refine track_run rfl ?_
      clear hd
      simp only [Array.getD_eq_getD_getElem?] at e17 e25
      go_simp
      exact hK _ w2 (Chg.refl _ _) rfl
    · intro a w2 hc hd hk K hK
      have e26 : a.tmps.getD 26 undef = .bool true := (Known.of (j := 21) (hk 26 (of_decide_eq_true (by kernel_rfl))) (by kernel_rfl) (by decide))
      refine track_run rfl ?_
      exact BigFrame.wp_move _ rfl (hK _ w2 (Chg.refl _ _) e26)
    · intro a w2 hc hd hk K hK
      have e27 : a.tmps.getD 27 undef = .bool true := (Known.of (j := 22) (hk 27 (of_decide_eq_true (by kernel_rfl))) (by kernel_rfl) (by decide))
      have e0 : a.tmps.getD 0 undef = .pointer (some ⟨g, 0, none⟩) := (Known.init (hk 0 (of_decide_eq_true (by kernel_rfl))) (by kernel_rfl))
      refine track_run (wanted_yes rfl rfl e27) ?_
      exact BigFrame.wp_move _ rfl (hK _ w2 (Chg.refl _ _) e0)
    · intro a w2 hc hd hk K hK
      have e27 : a.tmps.getD 27 undef = .bool true := (Known.of (j := 22) (hk 27 (of_decide_eq_true (by kernel_rfl))) (by kernel_rfl) (by decide))
      have e28 : a.tmps.getD 28 undef = .pointer (some ⟨g, 0, none⟩) := (Known.of (j := 23) (hk 28 (of_decide_eq_true (by kernel_rfl))) (by kernel_rfl) (by decide))
      refine track_run (wanted_yes rfl rfl e27) ?_
      refine wp_call _ Try.func21 rfl rfl rfl (map_one _ _) ?_
      rw [e28]
      refine (w_syncs (hd6.keep (cw.trans hc) fun _ _ => id)).mono ?_
      rintro e w3 ⟨rfl, rfl⟩
      exact ⟨_, rfl, hK _ _ (Chg.refl _ _) rfl⟩
    · intro a w2 hc hd hk K hK
      have e27 : a.tmps.getD 27 undef = .bool true := (Known.of (j := 22) (hk 27 (of_decide_eq_true (by kernel_rfl))) (by kernel_rfl) (by decide))
      have e3 : a.tmps.getD 3 undef = .pointer (some ⟨gb, 0, none⟩) := (Known.init (hk 3 (of_decide_eq_true (by kernel_rfl))) (by kernel_rfl))
      refine track_run (wanted_yes rfl rfl e27) ?_
      clear hd
      simp only [Array.getD_eq_getD_getElem?] at e3
      go_simp
      exact hK _ w2 (Chg.refl _ _) rfl
    · intro a w2 hc hd hk K hK
      have e27 : a.tmps.getD 27 undef = .bool true := (Known.of (j := 22) (hk 27 (of_decide_eq_true (by kernel_rfl))) (by kernel_rfl) (by decide))
      have e30 : a.tmps.getD 30 undef = .pointer (some ⟨gb, 2, none⟩) := (Known.of (j := 25) (hk 30 (of_decide_eq_true (by kernel_rfl))) (by kernel_rfl) (by decide))
      refine track_run (wanted_yes rfl rfl e27) ?_
      have cc := Chg.cell (cw.trans hc) ck2 id
      clear hd
      simp only [Array.getD_eq_getD_getElem?] at e30
      go_simp
      exact hK _ w2 (Chg.refl _ _) rfl
    · intro a w2 hc hd hk K hK
      have e27 : a.tmps.getD 27 undef = .bool true := (Known.of (j := 22) (hk 27 (of_decide_eq_true (by kernel_rfl))) (by kernel_rfl) (by decide))
      have e29 : a.tmps.getD 29 undef = .int .i64 (d.n : Int) := (Known.of (j := 24) (hk 29 (of_decide_eq_true (by kernel_rfl))) (by kernel_rfl) (by decide))
      have e31 : a.tmps.getD 31 undef = .int .i64 (d.n : Int) := (Known.of (j := 26) (hk 31 (of_decide_eq_true (by kernel_rfl))) (by kernel_rfl) (by decide))
      refine track_run (wanted_yes rfl rfl e27) ?_
      clear hd
      simp only [Array.getD_eq_getD_getElem?] at e29 e31
      go_simp
      exact hK _ w2 (Chg.refl _ _) rfl
    · intro a w2 hc hd hk K hK
      have e27 : a.tmps.getD 27 undef = .bool true := (Known.of (j := 22) (hk 27 (of_decide_eq_true (by kernel_rfl))) (by kernel_rfl) (by decide))
      have e32 : a.tmps.getD 32 undef = .bool true := (Known.of (j := 27) (hk 32 (of_decide_eq_true (by kernel_rfl))) (by kernel_rfl) (by decide))
      refine track_run rfl ?_
      clear hd
      simp only [Array.getD_eq_getD_getElem?] at e27 e32
      go_simp
      exact hK _ w2 (Chg.refl _ _) rfl
    · intro a w2 hc hd hk K hK
      have e33 : a.tmps.getD 33 undef = .bool true := (Known.of (j := 28) (hk 33 (of_decide_eq_true (by kernel_rfl))) (by kernel_rfl) (by decide))
      refine track_run rfl ?_
      exact BigFrame.wp_assign _ rfl (hK _ w2 (Chg.refl _ _) e33)
  -- END same
  · intro f w8 hc hk'
    have e4 : f 4 = .bool true := Known.of (j := 29) (hk' 4) (by kernel_rfl) (by decide)
    simp only [filled, List.foldl_cons, List.foldl_nil]
    rw [e4]
    simp only [Act.put, List.setIfInBounds_toArray, List.set_cons_succ, List.set_cons_zero]
    go_wp2
    go_ret
    exact ⟨rfl, (cX.trans cw).trans hc⟩

end Go.Proofs.Ytlgmmokeflipaaa
