/-
  The walk of WalOpens.
-/
import Derived.Test.YtclbbddpedcfjaaSame7
namespace Go.Proofs.Ytclbbddpedcfjaa
open Go.RowKit

/-- The log that bytes hold. -/
noncomputable def lgOf (S : List UInt8) : Lg := ⟨⟨S.take (scan S).2.1, [], 0⟩, (scan S).1, (scan S).1.length⟩
theorem w_opens {W : World} {F : Nat → Prop} {gd : Nat} {bs ts S : List UInt8} (h : IsDisk F W gd ⟨bs, ts, 0⟩) (hS : bs ++ ts = S) :
    Calls Try.prog 23 #[.pointer (some ⟨gd, 0, none⟩)] W fun e w' => ∃ g F, e = .returned (.tuple #[.pointer (some ⟨g, 0, none⟩), .int .i64 ((S.length : Int) - (scan S).2.1), .int .i64 0]) ∧ IsLog F w' g (lgOf S) ∧ Ext none' F W ∧ Chg none' W w' := by
  subst hS
  exact w_wopen h
theorem wopen_id {lg : Lg} (h : LgOk lg) (h1 : lg.last = lg.l.length) (h2 : lg.d.T = []) : wopen lg.d = lg := by
  have hL := h.L
  rw [h1, List.take_length] at hL
  rw [wopen_frames h.all h.ok, ← hL, ← h1, ← h2]
theorem w_reopens {W : World} {F : Nat → Prop} {gd : Nat} {lg : Lg} (h : IsDisk F W gd lg.d) (hok : LgOk lg) (h1 : lg.last = lg.l.length) (h2 : lg.d.T = []) :
    Calls Try.prog 23 #[.pointer (some ⟨gd, 0, none⟩)] W fun e w' => ∃ g F, e = .returned (.tuple #[.pointer (some ⟨g, 0, none⟩), .int .i64 0, .int .i64 0]) ∧ IsLog F w' g lg ∧ Ext none' F W ∧ Chg none' W w' := by
  have K := w_wopen h
  have z0 : ((lg.d.L ++ lg.d.T).length : Int) - (scan (lg.d.L ++ lg.d.T)).2.1 = 0 := by rw [(wopen_self hok).2.2.2, hok.all, frames_len]; omega
  rw [z0, wopen_id hok h1 h2] at K
  exact K

set_option maxRecDepth 1000000 in
set_option maxHeartbeats 4000000 in
theorem walk_WalOpens (w : World) {v : Value} {bs : List UInt8} (hb : Bytes (old' w) w v bs) (hbl : bs.length ≤ 140737488351232) {u : Value} {ts : List UInt8} (ht : Bytes (old' w) w u ts) (htl : ts.length ≤ 140737488351232) :
    Calls Try.prog 7 #[v, u] w fun e w' => e = .returned (.bool true) ∧ Chg none' w w' := by
  obtain ⟨Ab, cb, rfl⟩ := hb.shape
  obtain ⟨At, ct, rfl⟩ := ht.shape
  go_enter Try.func7, Try.ntmps7
  by_cases h15 : 1500 < (bs.length : Int) + ts.length
  · clear hb ht
    go_wp2_with fail
    go_at_call 10
    refine (w_known07 _).mono ?_
    rintro e w2 ⟨rfl, c2⟩
    go_wp2
    go_ret
    exact ⟨rfl, c2⟩
  have zG : decide (1500 < (bs.length : Int) + ts.length) = false := decide_eq_false h15
  have hB : bs.length ≤ 1500 := by omega
  have hTl : ts.length ≤ 1500 := by omega
  clear h15 hbl htl
  obtain ⟨S, hS⟩ : ∃ S, bs ++ ts = S := ⟨_, rfl⟩
  have hSl : S.length ≤ 3000 := by rw [← hS, List.length_append]; omega
  have HS := Lib.hid hS
  clear hS
  go_wp2_with fail
  go_at_call 27
  refine (w_of _ hb (by omega)).mono ?_
  rintro e w1 ⟨gd, FD, rfl, hD1, xD1, c1⟩
  have ht1 := ht.kept c1 fun _ _ => id
  have KA := w_dapp1 (t := 23) hD1 ht1 (by omega) (fun b hb hf => by rcases xD1 b hf with z | z; exact z; unfold old' at hb; omega) rfl
  rw [dappE_in (by simp; omega)] at KA
  simp only [show ((0 : Nat) : Int) = 0 from rfl] at KA
  go_wp2_with fail
  go_at_call 24
  ((with_reducible refine KA.mono ?_))
  rintro e w2 ⟨F2, rfl, hD2, x2, c2⟩
  clear KA hD1
  replace hD2 : IsDisk F2 w2 gd ⟨bs, ts, 0⟩ := hD2
  have d2 := c1.ext xD1 c2
  go_wp2_with fail
  go_at_call 23
  obtain ⟨N, hN⟩ : ∃ N : Int, (S.length : Int) - (scan S).2.1 = N := ⟨_, rfl⟩
  have KO := w_opens hD2 HS.out
  rw [hN] at KO
  have HN := Lib.hid hN
  clear hN
  refine KO.mono ?_
  rintro e w3 ⟨g, F3, rfl, hL3, x3, c3⟩
  have hD3 := hD2.keep c3 fun _ _ => id
  have d3 := d2.trans c3
  have hb3 := hb.kept d3 fun _ _ => id
  clear hD2 ht1 KO
  go_upto_region 8 with (at_builtin; refine wpList_appB (base := w3.heap.size) rfl (.tmp 38) (.tmp 39) rfl (OwnB.nil _ _) hb3 rfl rfl (by simp; omega) (Nat.le_refl _) ?_; intro v4 w4 o4 c4 b4)
  have c4' : Chg none' w3 w4 := Chg.mono c4 fun b _ (e : ownOf (.slice none 0 0) b) => by cases e
  have ht4 := ht.kept (d3.trans c4') fun _ _ => id
  go_upto_region 9 with (at_builtin; refine wpList_appB rfl (.tmp 41) (.tmp 42) rfl o4 ht4 rfl rfl (by simp; omega) c4.size ?_; intro v5 w5 o5 c5 b5)
  rw [List.nil_append, HS.out] at o5
  have c35 : Chg none' w3 w5 := c4'.trans' c5 fun i hi e => by have := o4.base_ i e; omega
  have d5 := d3.trans c35
  have hL5 := hL3.keep0 c35
  have hD5 := hD3.keep c35 fun _ _ => id
  obtain ⟨A5, n5, rfl⟩ := o5.shape
  have KR := w_ropen (w := w5) o5.bytes.old (by omega)
  rw [HN.out] at KR
  clear hL3 hD3 o4 ht4 hb3 hb ht b4 b5
  go_wp2_with fail
  go_at_call 28
  refine KR.mono ?_
  rintro e w6 ⟨x6, rfl, hT6, c6⟩
  clear KR
  replace hT6 : TOf (fun b => w5.heap.size ≤ b) w6 x6 (lgOf S) := hT6
  have hL6 := hL5.keep0 c6
  have hD6 := hD5.keep c6 fun _ _ => id
  have o6 := o5.keep c6 fun _ => none_own
  have hlast : (lgOf S).last = (lgOf S).l.length := rfl
  have htail : (lgOf S).d.T = [] := rfl
  have HLT := Lib.hid (show _ ∧ _ from ⟨hlast, htail⟩)
  have d6 := d5.trans c6
  clear hlast htail hL5 hD5 o5
  generalize lgOf S = lg at *
  obtain ⟨vL, vT, vl, rfl, hbL, hbT, hrl⟩ := hT6
  obtain ⟨AL, nL, rfl⟩ := hbL.shape
  obtain ⟨AT, nT, rfl⟩ := hbT.shape
  obtain ⟨A, c, rfl, _, _⟩ := hrl.shape
  obtain ⟨X, hX⟩ : ∃ X, w6.alloc (.cells #[.slice AL lg.d.L.length nL, .slice AT lg.d.T.length nT, .int .i64 (lg.d.n : Int), .slice A lg.l.length c, .int .i64 (lg.last : Int)] 60) = X := ⟨_, rfl⟩
  have q0 := heap_alloc_new w6 (.cells #[.slice AL lg.d.L.length nL, .slice AT lg.d.T.length nT, .int .i64 (lg.d.n : Int), .slice A lg.l.length c, .int .i64 (lg.last : Int)] 60)
  have cX : Chg none' w6 X := by rw [← hX]; exact (Chg.refl _ _).alloc _
  rw [hX] at q0
  obtain ⟨gb, hgb⟩ : ∃ gb, w6.heap.size = gb := ⟨_, rfl⟩
  rw [hgb] at q0
  have hTX : TOf (fun b => w5.heap.size ≤ b) X (.agg #[.slice AL lg.d.L.length nL, .slice AT lg.d.T.length nT, .int .i64 (lg.d.n : Int), .slice A lg.l.length c, .int .i64 (lg.last : Int)]) lg := ⟨_, _, _, rfl, hbL.kept cX fun _ _ => id, hbT.kept cX fun _ _ => id, hrl.kept cX fun _ _ => id⟩
  have hLX := hL6.keep0 cX
  have hDX := hD6.keep cX fun _ _ => id
  have oX := o6.keep cX fun _ => none_own
  have dX := d6.trans cX
  have zN : (N == N) = true := beq_self_eq_true _
  have zN' : (N != N) = false := by rw [bne, zN]; rfl
  clear hL6 hD6 o6 hbL hbT hrl
  obtain ⟨a0, a1, a2, a3, a4⟩ := cells5 q0
  go_wp2_with fail
  go_at_call 29
  refine (w_same07 hLX hTX).mono ?_
  rintro e w7 ⟨rfl, c7⟩
  clear hX hgb a0 a1 a2 a3 a4
  have hL7 := hLX.keep0 c7
  have hD7 := hDX.keep c7 fun _ _ => id
  have o7 := oX.keep c7 fun _ => none_own
  have d7 := dX.trans c7
  have q7 := heap_kept c7 q0 id
  have hT7 := hTX.keep c7 fun _ _ => id
  clear hLX hDX oX hTX q0
  go_wp2_with fail
  go_at_call 22
  refine (w_wdisk hL7).mono ?_
  rintro e w8 ⟨gk, FK, rfl, hK, xK, c8⟩
  have KO := w_reopens hK hL7.ok HLT.out.1 HLT.out.2
  have q8 := heap_kept c8 q7 id
  go_wp2_with fail
  go_at_call 23
  refine KO.mono ?_
  rintro e w9 ⟨gv, FV, rfl, hV, xV, c9⟩
  clear KO
  have hD9 := (hD7.keep c8 fun _ _ => id).keep c9 fun _ _ => id
  have o9 := (o7.keep c8 fun _ => none_own).keep c9 fun _ => none_own
  have hT9 := (hT7.keep c8 fun _ _ => id).keep c9 fun _ _ => id
  obtain ⟨a0, a1, a2, a3, a4⟩ := cells5 (heap_kept c9 q8 id)
  have d9 := (d7.trans c8).trans c9
  clear hL7 hK q7 q8
  go_wp2_with fail
  go_at_call 29
  refine (w_same07 hV hT9).mono ?_
  rintro e w10 ⟨rfl, c10⟩
  clear a0 a1 a2 a3 a4
  go_wp2_with fail
  go_at_call 26
  refine (w_dbytes (hD9.keep c10 fun _ _ => id)).mono ?_
  rintro e w11 ⟨vb', rfl, ob, c11⟩
  have eS : (⟨bs, ts, 0⟩ : Dk).L ++ (⟨bs, ts, 0⟩ : Dk).T = S := HS.out
  rw [eS] at ob
  clear eS
  have KS := w_same00 w11 ob.bytes ((o9.keep c10 fun _ => none_own).keep c11 fun _ => none_own).bytes
  rw [beq_self_eq_true] at KS
  obtain ⟨Ao, no, rfl⟩ := ob.shape
  clear ob hD9 o9 hT9 hV
  go_wp2_with fail
  go_at_call 21
  refine KS.mono ?_
  rintro e w12 ⟨rfl, rfl⟩
  clear KS
  go_wp2_with fail
  go_at_call 10
  refine (w_known07 _).mono ?_
  rintro e w13 ⟨rfl, c13⟩
  go_wp2
  go_ret
  exact ⟨rfl, ((d9.trans c10).trans c11).trans c13⟩

end Go.Proofs.Ytclbbddpedcfjaa
