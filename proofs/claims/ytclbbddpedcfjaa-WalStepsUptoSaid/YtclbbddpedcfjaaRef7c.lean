/-
  Walks: the document's answer for a log: Append, Step. (Printed by gen_ref7c.py.)
-/
import Derived.Test.YtclbbddpedcfjaaLog8
import Derived.Test.YtclbbddpedcfjaaRef7b
namespace Go.Proofs.Ytclbbddpedcfjaa
open Go.RowKit

theorem heap_kept {S : Nat → Prop} {w w' : World} {g : Nat} {x : Obj} (c : Chg S w w') (h : w.heap[g]? = some x) (hS : ¬ S g) : w'.heap[g]? = some x := (c.block g (heap_lt h) hS).trans h

set_option maxRecDepth 100000 in
set_option maxHeartbeats 2000000 in
theorem w_rapp7 {G : Nat → Prop} {w : World} {v u : Value} {lg : Lg} {bss : List (List UInt8)} (kd : UInt8) (hk : kd ≠ 0) (h : TOf G w v lg) (hb : Rows G w u bss) (hgood : (∀ b ∈ bss, b.length ≤ 65536) ∧ lg.d.L.length + lg.d.T.length + (frames (recsOf kd bss)).length ≤ 4194304) (hn : lg.d.n ≤ 1000000000000000) (hll : lg.l.length ≤ 4194304) :
    Calls Try.prog 47 #[v, vb kd, u] w fun e w' => ∃ x, e = .returned (.tuple #[x, .int .i64 0]) ∧ TOf (fun b => G b ∨ w.heap.size ≤ b) w' x (wapp lg kd bss) ∧ Chg none' w w' := by
  obtain ⟨vL, vT, vl, rfl, hL, hT, hl⟩ := h.old
  obtain ⟨A, c, rfl, hlc, hm⟩ := hl.shape
  unfold maxLen at hm
  obtain ⟨AL, nL, rfl⟩ := hL.shape
  obtain ⟨AT, nT, rfl⟩ := hT.shape
  replace hb : Rows (fun b => G b ∧ b < w.heap.size) w u bss := hb.mono fun b h1 h2 => ⟨h2, h1⟩
  obtain ⟨Ab, nb, rfl, _, _⟩ := hb.shape
  have z0 : ((kd.toNat : Int) == 0) = false := ne_byte (b := 0) hk
  have hfl := frames_len (recsOf kd bss)
  have hlr := len_long (recsOf kd bss)
  have hrl : (recsOf kd bss).length = bss.length := by simp [recsOf]
  have hok := recsOf_ok (k := kd) hgood.1
  obtain ⟨fs, hfs⟩ : ∃ fs, frames (recsOf kd bss) = fs := ⟨_, rfl⟩
  have hg2 := hgood.2
  rw [hfs] at hg2 hfl
  have hddo : ddo lg.d ⟨1, fs, 0⟩ = (dapp lg.d fs, 0) := by simp [ddo, dappE_in hg2]
  have HDD := Lib.hid (show _ ∧ _ from ⟨hddo, hfs⟩)
  obtain ⟨d', hd'⟩ : ∃ d', dapp lg.d fs = d' := ⟨_, rfl⟩
  have HD := Lib.hid hd'
  obtain ⟨rs, hrs⟩ : ∃ rs, recsOf kd bss = rs := ⟨_, rfl⟩
  rw [hrs] at hfl hlr hrl hok
  have HR := Lib.hid hrs
  have HG := Lib.hid hgood
  have hOK := Lib.hid hok
  have hbn : bss.length ≤ 4194304 := by omega
  have hrn : rs.length ≤ 4194304 := by omega
  have hln : long rs ≤ 4194304 := by omega
  clear hfs hddo hd' hrs hfl hlr hgood hok hk hrl
  go_enter Try.func47, Try.ntmps47
  go_wp2_with fail
  obtain ⟨W0, hW0⟩ : ∃ W0, W0 = (w.alloc (.cells #[.slice AL lg.d.L.length nL, .slice AT lg.d.T.length nT, .int .i64 (lg.d.n : Int), .slice A lg.l.length c, .int .i64 (lg.last : Int)] 60)).alloc (.cells #[.slice none 0 0, .slice none 0 0, .int .i64 0, .slice none 0 0, .int .i64 0] 60) := ⟨_, rfl⟩
  rw [← hW0]
  obtain ⟨q0, q1, cW, hsz⟩ := two_heap hW0
  clear hW0
  have hb0 := hb.kept cW fun _ _ => id
  have KR := w_records (w := W0) kd hb0 (fun b hb => by have := cW.size; omega) (by omega)
  rw [HR.out] at KR
  go_at_call 57
  refine KR.mono ?_
  rintro e w1 ⟨vr, rfl, or_, c1⟩
  clear KR hb0
  have hs1 := c1.size
  have hrec := or_.recsG (H := fun b => (G b ∧ b < w.heap.size) ∨ (w.heap.size + 2 ≤ b ∧ b < w1.heap.size)) (fun b h1 h2 => .inr ⟨by omega, h2⟩) (fun b _ h => .inl h)
  have KA := w_rall w1 hrec.old hOK.out (by omega)
  rw [← HR.out, HDD.out.2] at KA
  obtain ⟨Ar, nr, rfl, _, _⟩ := hrec.shape
  have q0a := heap_kept c1 q0 id
  have q1a := heap_kept c1 q1 id
  go_wp2_with fail
  go_at_call 58
  refine KA.mono ?_
  rintro e w2 ⟨vf, rfl, of, c2⟩
  clear KA
  have hs2 := c2.size
  have q0b := heap_kept c2 q0a id
  have q1b := heap_kept c2 q1a id
  obtain ⟨a0, a1, a2, a3, a4⟩ := cells5 q0b
  have c02 := (cW.trans c1).trans c2
  have KS := w_rstep6 (w := w2) (d := lg.d) ⟨1, fs, 0⟩ (hL.kept c02 fun _ _ => id) (hT.kept c02 fun _ _ => id) (u := vf) (H := fun b => w1.heap.size ≤ b) (Row.mono of.bytes fun b _ e => of.base_ b e) (by omega) hn (by simp only; omega)
  rw [HDD.out.1, HD.out] at KS
  obtain ⟨Af, nf, rfl⟩ := of.shape
  go_wp2_with fail
  go_at_call 59
  refine KS.mono ?_
  rintro e w3 ⟨⟨vL', vT', rfl, bL, bT⟩, c3⟩
  clear KS a0 a1 a2 a3 a4
  simp only at bL bT
  obtain ⟨AL', nL', rfl⟩ := bL.shape
  obtain ⟨AT', nT', rfl⟩ := bT.shape
  have hs3 := c3.size
  have q0c := heap_kept c3 q0b id
  have q1c := heap_kept c3 q1b id
  have l0 := heap_lt q0c
  have l1 := heap_lt q1c
  obtain ⟨a0, a1, a2, a3, a4⟩ := cells5 q0c
  have c03 := c02.trans c3
  have cT : Chg none' w3 (w3.alloc (.cells #[.slice AL' d'.L.length nL', .slice AT' d'.T.length nT', .int .i64 (d'.n : Int)] 58)) := (Chg.refl _ _).alloc _
  have q3 := heap_alloc_new w3 (.cells #[.slice AL' d'.L.length nL', .slice AT' d'.T.length nT', .int .i64 (d'.n : Int)] 58)
  obtain ⟨W3, hW3⟩ : ∃ W3, w3.alloc (.cells #[.slice AL' d'.L.length nL', .slice AT' d'.T.length nT', .int .i64 (d'.n : Int)] 58) = W3 := ⟨_, rfl⟩
  have hsW : W3.heap.size = w3.heap.size + 1 := by rw [← hW3]; simp
  have q0d := heap_kept cT q0c id
  have q1d := heap_kept cT q1c id
  rw [hW3] at cT q3 q0d q1d
  have src1 := (Recs.kept hl (c03.trans cT) fun _ _ => id).src
  have hrec3 := Recs.kept hrec ((c2.trans c3).trans cT) fun _ _ => id
  have hGG : ∀ b, (G b ∧ b < w.heap.size) → (G b ∧ b < w.heap.size) ∨ (w.heap.size + 2 ≤ b ∧ b < w1.heap.size) := fun b h => .inl h
  have hF1 : ∀ b, (G b ∧ b < w.heap.size) → ¬ ownOf (.slice none 0 0) b := fun b _ e => by simp [ownOf, Value.ownBlock] at e
  have hn1 : (([] : List Rec).length + lg.l.length) * 32 ≤ 140737488355328 := by simp only [List.length_nil]; omega
  go_upto_region 11 with (fail)
  try rw [hW3]
  clear hW3
  clear a0 a1 a2 a3 a4
  obtain ⟨a0, a1, a2, a3, a4⟩ := cells5 q0d
  go_upto_region 12 with (at_builtin; refine wpList_appRG (base := W3.heap.size) rfl (.tmp 41) (.tmp 43) rfl (OwnRG.nil _ _ _) src1 hGG hF1 rfl rfl hn1 (Nat.le_refl _) ?_; intro v4 w4 o4 c4 b4)
  have c4' : Chg none' W3 w4 := Chg.mono c4 fun b _ (e : ownOf (.slice none 0 0) b) => by cases e
  have src2 := (Recs.kept hrec3 c4' fun _ _ => id).src
  have hF2 : ∀ b, (G b ∧ b < w.heap.size) ∨ (w.heap.size + 2 ≤ b ∧ b < w1.heap.size) → ¬ ownOf v4 b := fun b hb e => by have := (o4.base_ b e).1; rcases hb with ⟨_, hb⟩ | hb <;> omega
  have hn2 : (([] ++ lg.l : List Rec).length + rs.length) * 32 ≤ 140737488355328 := by rw [List.nil_append]; omega
  go_upto_region 13 with (at_builtin; refine wpList_appRG rfl (.tmp 45) (.tmp 46) rfl o4 src2 (fun _ => id) hF2 rfl rfl hn2 c4.size ?_; intro v5 w5 o5 c5 b5)
  have q0e := heap_kept c4' q0d id
  have q1e := heap_kept c4' q1d id
  have q3e := heap_kept c4' q3 id
  have hx4 : ∀ b, b < W3.heap.size → ¬ ownOf v4 b := fun b hb e => by have := (o4.base_ b e).1; omega
  have q0f := heap_kept c5 q0e (hx4 _ (heap_lt q0d))
  have q1f := heap_kept c5 q1e (hx4 _ (heap_lt q1d))
  have q3f := heap_kept c5 q3e (hx4 _ (heap_lt q3))
  clear a0 a1 a2 a3 a4
  obtain ⟨a0, a1, a2, a3, a4⟩ := cells5 q0f
  obtain ⟨z1, z2, z3⟩ := cells3 q3f
  obtain ⟨y0, y1, y2, y3, y4⟩ := cells5 q1f
  obtain ⟨g0, g1, g2, g3, g4⟩ := free5 q1f
  obtain ⟨ls, hls⟩ : ∃ ls, [] ++ lg.l ++ rs = ls := ⟨_, rfl⟩
  rw [hls] at o5
  have HLS := Lib.hid hls
  clear hls
  have or5 := o5.recsG (H := fun b => ((G b ∧ b < w.heap.size) ∨ (w.heap.size + 2 ≤ b ∧ b < w1.heap.size)) ∨ W3.heap.size ≤ b) (fun b h1 h2 => .inr h1) (fun b _ h => .inl h)
  obtain ⟨A5, n5, rfl, _, _⟩ := or5.shape
  have l1f := heap_lt q1f
  go_wp2
  obtain ⟨W4, hW4⟩ : ∃ W4, W4 = (((((w5.setCell ⟨w.heap.size + 1, 0, none⟩ (.slice AL' d'.L.length nL')).setCell ⟨w.heap.size + 1, 1, none⟩ (.slice AT' d'.T.length nT')).setCell ⟨w.heap.size + 1, 2, none⟩ (.int .i64 (d'.n : Int))).setCell ⟨w.heap.size + 1, 3, none⟩ (.slice A5 ls.length n5)).setCell ⟨w.heap.size + 1, 4, none⟩ (.int .i64 (lg.last : Int))) := ⟨_, rfl⟩
  rw [← hW4]
  have E5 := end5 (a' := .slice AL' d'.L.length nL') (b' := .slice AT' d'.T.length nT') (c' := .int .i64 (d'.n : Int)) (d' := .slice A5 ls.length n5) (e' := .int .i64 (lg.last : Int)) q1f
  have qE : W4.heap[w.heap.size + 1]? = some (.cells #[.slice AL' d'.L.length nL', .slice AT' d'.T.length nT', .int .i64 (d'.n : Int), .slice A5 ls.length n5, .int .i64 (lg.last : Int)] 60 (0, 0)) := by rw [hW4]; exact E5.1
  have cE : Chg (fun b => b = w.heap.size + 1) w5 W4 := by rw [hW4]; exact E5.2
  obtain ⟨e0, e1, e2, e3, e4⟩ := cells5 qE
  refine bodyPost_ret (v := .tuple #[.agg #[.slice AL' d'.L.length nL', .slice AT' d'.T.length nT', .int .i64 (d'.n : Int), .slice A5 ls.length n5, .int .i64 (lg.last : Int)], .int .i64 0]) (by simp [results, Try.results47, go_sem, e0, e1, e2, e3, e4]) rfl ?_
  have cX : Chg none' w w5 := ((c03.trans cT).trans c4').trans' c5 fun i hi e => hx4 i (by have := cW.size; omega) e
  have cN : Chg none' w W4 := cX.trans' cE fun i hi e => by omega
  have hs4 := c4.size
  have c45 : Chg (fun b => W3.heap.size ≤ b) W3 w5 := (c4'.mono fun _ _ => False.elim).trans (c5.mono fun b _ e => (o4.base_ b e).1)
  have hL5 := (bL.kept cT fun _ _ => id)
  have hne : ∀ b, (G b ∧ b < w.heap.size) ∨ w2.heap.size ≤ b → ¬ b = w.heap.size + 1 := in_or (by omega) (by omega)
  have key : ∀ {u : Value} {bs : List UInt8}, Bytes (fun b => (G b ∧ b < w.heap.size) ∨ w2.heap.size ≤ b) w3 u bs → Bytes (fun b => G b ∨ w.heap.size ≤ b) W4 u bs := fun {u bs} hx => by
    have h1 : Bytes (fun b => ((G b ∧ b < w.heap.size) ∨ w2.heap.size ≤ b) ∧ b < w3.heap.size) w3 u bs := Row.mono hx fun b hb q => ⟨q, hb⟩
    have h2 := (h1.kept cT fun _ _ => id).kept c45 fun b hb e => by omega
    exact Row.mono (h2.kept cE fun b hb => hne b hb.1) fun b _ hb => or_mono (by omega) b hb.1
  have rl5 : Recs (fun b => G b ∨ w.heap.size ≤ b) W4 (.slice A5 ls.length n5) (wapp lg kd bss).l := by
    have e : (wapp lg kd bss).l = ls := by rw [← HLS.out, List.nil_append, ← HR.out]; rfl
    rw [e]
    exact Recs.mono (or5.kept cE fun b hb e => by rcases hb with (⟨_, hb⟩ | hb) | hb <;> omega) fun b _ hb => by
      rcases hb with (⟨hb, _⟩ | hb) | hb
      · exact .inl hb
      · exact .inr (by omega)
      · exact .inr (by omega)
  exact ⟨_, rfl, tof (lg := wapp lg kd bss) (d' := d') (by rw [← HD.out, ← HDD.out.2]; rfl) (key bL) (key bT) rl5, cN⟩

set_option maxRecDepth 100000 in
set_option maxHeartbeats 2000000 in
theorem w_rstep7_app {G : Nat → Prop} {w : World} {v u : Value} {lg : Lg} (x : Do7) (h : TOf G w v lg) (hu : Rows G w u x.r) (hd : lg.d.L.length + lg.d.T.length ≤ 4194304) (hn : lg.d.n ≤ 1000000000000000) (hll : lg.l.length ≤ 4194304) (k1 : x.kind = 1) (hk : x.of ≠ 0) (hgood : (∀ b ∈ x.r, b.length ≤ 65536) ∧ lg.d.L.length + lg.d.T.length + (frames (recsOf x.of x.r)).length ≤ 4194304) :
    Calls Try.prog 32 #[v, .agg #[.int .i64 x.kind, vb x.of, u, .int .i64 x.kept]] w fun e w' => ∃ y, e = .returned (.tuple #[y, .int .i64 (0)]) ∧ TOf (fun b => G b ∨ w.heap.size ≤ b) w' y (wapp lg x.of x.r) ∧ Chg none' w w' := by
  obtain ⟨vL, vT, vl, rfl, hL, hT, hl⟩ := h.old
  obtain ⟨A, c, rfl, hlc, hm⟩ := hl.shape
  unfold maxLen at hm
  obtain ⟨AL, nL, rfl⟩ := hL.shape
  obtain ⟨AT, nT, rfl⟩ := hT.shape
  replace hu : Rows (fun b => G b ∧ b < w.heap.size) w u x.r := hu.mono fun b h1 h2 => ⟨h2, h1⟩
  obtain ⟨Au, cu, rfl, _, hcu⟩ := hu.shape
  unfold maxLen at hcu
  have z1 : (x.kind == 1) = true := by rw [k1]; rfl
  have HH := Lib.hid (show _ ∧ _ from ⟨hk, hgood⟩)
  clear k1 hk hgood
  obtain ⟨lg', hlg'⟩ : ∃ lg', wapp lg x.of x.r = lg' := ⟨_, rfl⟩
  rw [hlg']
  have HL := Lib.hid hlg'
  clear hlg'
  go_enter Try.func32, Try.ntmps32
  go_wp2_with fail
  obtain ⟨W0, hW0⟩ : ∃ W0, W0 = ((w.alloc (.cells #[.slice AL lg.d.L.length nL, .slice AT lg.d.T.length nT, .int .i64 (lg.d.n : Int), .slice A lg.l.length c, .int .i64 (lg.last : Int)] 60)).alloc (.cells #[.int .i64 x.kind, vb x.of, .slice Au x.r.length cu, .int .i64 x.kept] 43)).alloc (.cells #[.slice none 0 0, .slice none 0 0, .int .i64 0, .slice none 0 0, .int .i64 0] 60) := ⟨_, rfl⟩
  rw [← hW0]
  obtain ⟨q0, q1, q2, cW⟩ := step_heap hW0
  have hsz : W0.heap.size = w.heap.size + 3 := by rw [hW0]; simp
  clear hW0
  have hT0 : TOf (fun b => G b ∧ b < w.heap.size) W0 (.agg #[.slice AL lg.d.L.length nL, .slice AT lg.d.T.length nT, .int .i64 (lg.d.n : Int), .slice A lg.l.length c, .int .i64 (lg.last : Int)]) lg := ⟨_, _, _, rfl, hL.kept cW fun _ _ => id, hT.kept cW fun _ _ => id, hl.kept cW fun _ _ => id⟩
  have hu0 := hu.kept cW fun _ _ => id
  have K := w_rapp7 x.of HH.out.1 hT0 hu0 HH.out.2 hn hll
  rw [HL.out] at K
  go_at_call 47
  refine K.mono ?_
  rintro e w1 ⟨y, rfl, hT1, c1⟩
  clear K hT0 hu0
  obtain ⟨vL', vT', vl', rfl, bL, bT, rl⟩ := hT1
  obtain ⟨AL', nL', rfl⟩ := bL.shape
  obtain ⟨AT', nT', rfl⟩ := bT.shape
  obtain ⟨Al', nl', rfl, _, _⟩ := rl.shape
  have q2' := heap_kept c1 q2 id
  have l2 := heap_lt q2'
  obtain ⟨y0, y1, y2, y3, y4⟩ := cells5 q2'
  obtain ⟨g0, g1, g2, g3, g4⟩ := free5 q2'
  go_wp2
  obtain ⟨W4, hW4⟩ : ∃ W4, W4 = (((((w1.setCell ⟨w.heap.size + 1 + 1, 0, none⟩ (.slice AL' lg'.d.L.length nL')).setCell ⟨w.heap.size + 1 + 1, 1, none⟩ (.slice AT' lg'.d.T.length nT')).setCell ⟨w.heap.size + 1 + 1, 2, none⟩ (.int .i64 (lg'.d.n : Int))).setCell ⟨w.heap.size + 1 + 1, 3, none⟩ (.slice Al' lg'.l.length nl')).setCell ⟨w.heap.size + 1 + 1, 4, none⟩ (.int .i64 (lg'.last : Int))) := ⟨_, rfl⟩
  rw [← hW4]
  have E5 := end5 (a' := .slice AL' lg'.d.L.length nL') (b' := .slice AT' lg'.d.T.length nT') (c' := .int .i64 (lg'.d.n : Int)) (d' := .slice Al' lg'.l.length nl') (e' := .int .i64 (lg'.last : Int)) q2'
  have qE : W4.heap[w.heap.size + 1 + 1]? = some (.cells #[.slice AL' lg'.d.L.length nL', .slice AT' lg'.d.T.length nT', .int .i64 (lg'.d.n : Int), .slice Al' lg'.l.length nl', .int .i64 (lg'.last : Int)] 60 (0, 0)) := by rw [hW4]; exact E5.1
  have cE : Chg (fun b => b = w.heap.size + 1 + 1) w1 W4 := by rw [hW4]; exact E5.2
  obtain ⟨e0, e1, e2, e3, e4⟩ := cells5 qE
  refine bodyPost_ret (v := .tuple #[.agg #[.slice AL' lg'.d.L.length nL', .slice AT' lg'.d.T.length nT', .int .i64 (lg'.d.n : Int), .slice Al' lg'.l.length nl', .int .i64 (lg'.last : Int)], .int .i64 0]) (by simp [results, Try.results32, go_sem, e0, e1, e2, e3, e4]) rfl ?_
  have hs1 := c1.size
  have cN : Chg none' w W4 := (cW.trans c1).trans' cE fun i hi e => by omega
  have hne := in_or (G := G) (n := w.heap.size) (m := W0.heap.size) (g := w.heap.size + 1 + 1) (by omega) (by omega)
  exact ⟨_, rfl, tof (lg := lg') (d' := lg'.d) rfl (Row.mono (bL.kept cE hne) fun b _ => or_mono (by omega) b) (Row.mono (bT.kept cE hne) fun b _ => or_mono (by omega) b) (Recs.mono (rl.kept cE hne) fun b _ => or_mono (by omega) b), cN⟩

set_option maxRecDepth 100000 in
set_option maxHeartbeats 2000000 in
theorem w_rstep7_app0 {G : Nat → Prop} {w : World} {v u : Value} {lg : Lg} (x : Do7) (h : TOf G w v lg) (hu : Rows G w u x.r) (hd : lg.d.L.length + lg.d.T.length ≤ 4194304) (hn : lg.d.n ≤ 1000000000000000) (hll : lg.l.length ≤ 4194304) (k1 : x.kind = 1) (hk : x.of = 0) :
    Calls Try.prog 32 #[v, .agg #[.int .i64 x.kind, vb x.of, u, .int .i64 x.kept]] w fun e w' => ∃ y, e = .returned (.tuple #[y, .int .i64 (2)]) ∧ TOf (fun b => G b ∨ w.heap.size ≤ b) w' y (lg) ∧ Chg none' w w' := by
  obtain ⟨vL, vT, vl, rfl, hL, hT, hl⟩ := h.old
  obtain ⟨A, c, rfl, hlc, hm⟩ := hl.shape
  unfold maxLen at hm
  obtain ⟨AL, nL, rfl⟩ := hL.shape
  obtain ⟨AT, nT, rfl⟩ := hT.shape
  replace hu : Rows (fun b => G b ∧ b < w.heap.size) w u x.r := hu.mono fun b h1 h2 => ⟨h2, h1⟩
  obtain ⟨Au, cu, rfl, _, hcu⟩ := hu.shape
  unfold maxLen at hcu
  have z1 : (x.kind == 1) = true := by rw [k1]; rfl
  have hx : vb x.of = .int .u8 0 := by rw [hk]; rfl
  have HH := Lib.hid hx
  clear k1 hk hx
  go_enter Try.func32, Try.ntmps32
  go_wp2_with fail
  obtain ⟨W0, hW0⟩ : ∃ W0, W0 = ((w.alloc (.cells #[.slice AL lg.d.L.length nL, .slice AT lg.d.T.length nT, .int .i64 (lg.d.n : Int), .slice A lg.l.length c, .int .i64 (lg.last : Int)] 60)).alloc (.cells #[.int .i64 x.kind, vb x.of, .slice Au x.r.length cu, .int .i64 x.kept] 43)).alloc (.cells #[.slice none 0 0, .slice none 0 0, .int .i64 0, .slice none 0 0, .int .i64 0] 60) := ⟨_, rfl⟩
  rw [← hW0]
  obtain ⟨q0, q1, q2, cW⟩ := step_heap hW0
  have hsz : W0.heap.size = w.heap.size + 3 := by rw [hW0]; simp
  clear hW0
  have hT0 : TOf (fun b => G b ∧ b < w.heap.size) W0 (.agg #[.slice AL lg.d.L.length nL, .slice AT lg.d.T.length nT, .int .i64 (lg.d.n : Int), .slice A lg.l.length c, .int .i64 (lg.last : Int)]) lg := ⟨_, _, _, rfl, hL.kept cW fun _ _ => id, hT.kept cW fun _ _ => id, hl.kept cW fun _ _ => id⟩
  have hu0 := hu.kept cW fun _ _ => id
  have K := w_rapp7_no hT0 hu0
  rw [← HH.out] at K
  go_at_call 47
  refine K.mono ?_
  rintro e w1 ⟨y, rfl, hT1, c1⟩
  clear K hT0 hu0
  obtain ⟨vL', vT', vl', rfl, bL, bT, rl⟩ := hT1
  obtain ⟨AL', nL', rfl⟩ := bL.shape
  obtain ⟨AT', nT', rfl⟩ := bT.shape
  obtain ⟨Al', nl', rfl, _, _⟩ := rl.shape
  have q2' := heap_kept c1 q2 id
  have l2 := heap_lt q2'
  obtain ⟨y0, y1, y2, y3, y4⟩ := cells5 q2'
  obtain ⟨g0, g1, g2, g3, g4⟩ := free5 q2'
  go_wp2
  obtain ⟨W4, hW4⟩ : ∃ W4, W4 = (((((w1.setCell ⟨w.heap.size + 1 + 1, 0, none⟩ (.slice AL' lg.d.L.length nL')).setCell ⟨w.heap.size + 1 + 1, 1, none⟩ (.slice AT' lg.d.T.length nT')).setCell ⟨w.heap.size + 1 + 1, 2, none⟩ (.int .i64 (lg.d.n : Int))).setCell ⟨w.heap.size + 1 + 1, 3, none⟩ (.slice Al' lg.l.length nl')).setCell ⟨w.heap.size + 1 + 1, 4, none⟩ (.int .i64 (lg.last : Int))) := ⟨_, rfl⟩
  rw [← hW4]
  have E5 := end5 (a' := .slice AL' lg.d.L.length nL') (b' := .slice AT' lg.d.T.length nT') (c' := .int .i64 (lg.d.n : Int)) (d' := .slice Al' lg.l.length nl') (e' := .int .i64 (lg.last : Int)) q2'
  have qE : W4.heap[w.heap.size + 1 + 1]? = some (.cells #[.slice AL' lg.d.L.length nL', .slice AT' lg.d.T.length nT', .int .i64 (lg.d.n : Int), .slice Al' lg.l.length nl', .int .i64 (lg.last : Int)] 60 (0, 0)) := by rw [hW4]; exact E5.1
  have cE : Chg (fun b => b = w.heap.size + 1 + 1) w1 W4 := by rw [hW4]; exact E5.2
  obtain ⟨e0, e1, e2, e3, e4⟩ := cells5 qE
  refine bodyPost_ret (v := .tuple #[.agg #[.slice AL' lg.d.L.length nL', .slice AT' lg.d.T.length nT', .int .i64 (lg.d.n : Int), .slice Al' lg.l.length nl', .int .i64 (lg.last : Int)], .int .i64 2]) (by simp [results, Try.results32, go_sem, e0, e1, e2, e3, e4]) rfl ?_
  have hs1 := c1.size
  have cN : Chg none' w W4 := (cW.trans c1).trans' cE fun i hi e => by omega
  have hne := in_or (G := G) (n := w.heap.size) (m := W0.heap.size) (g := w.heap.size + 1 + 1) (by omega) (by omega)
  exact ⟨_, rfl, tof (lg := lg) (d' := lg.d) rfl (Row.mono (bL.kept cE hne) fun b _ => or_mono (by omega) b) (Row.mono (bT.kept cE hne) fun b _ => or_mono (by omega) b) (Recs.mono (rl.kept cE hne) fun b _ => or_mono (by omega) b), cN⟩

set_option maxRecDepth 100000 in
set_option maxHeartbeats 2000000 in
theorem w_rstep7_sync {G : Nat → Prop} {w : World} {v u : Value} {lg : Lg} (x : Do7) (h : TOf G w v lg) (hu : Rows G w u x.r) (hd : lg.d.L.length + lg.d.T.length ≤ 4194304) (hn : lg.d.n ≤ 1000000000000000) (hll : lg.l.length ≤ 4194304) (k1 : x.kind = 2) :
    Calls Try.prog 32 #[v, .agg #[.int .i64 x.kind, vb x.of, u, .int .i64 x.kept]] w fun e w' => ∃ y, e = .returned (.tuple #[y, .int .i64 (0)]) ∧ TOf (fun b => G b ∨ w.heap.size ≤ b) w' y (wsync lg) ∧ Chg none' w w' := by
  obtain ⟨vL, vT, vl, rfl, hL, hT, hl⟩ := h.old
  obtain ⟨A, c, rfl, hlc, hm⟩ := hl.shape
  unfold maxLen at hm
  obtain ⟨AL, nL, rfl⟩ := hL.shape
  obtain ⟨AT, nT, rfl⟩ := hT.shape
  replace hu : Rows (fun b => G b ∧ b < w.heap.size) w u x.r := hu.mono fun b h1 h2 => ⟨h2, h1⟩
  obtain ⟨Au, cu, rfl, _, hcu⟩ := hu.shape
  unfold maxLen at hcu
  have z1 : (x.kind == 1) = false := by rw [k1]; rfl
  have z2 : (x.kind == 2) = true := by rw [k1]; rfl
  clear k1
  obtain ⟨lg', hlg'⟩ : ∃ lg', wsync lg = lg' := ⟨_, rfl⟩
  rw [hlg']
  have HL := Lib.hid hlg'
  clear hlg'
  go_enter Try.func32, Try.ntmps32
  go_wp2_with fail
  obtain ⟨W0, hW0⟩ : ∃ W0, W0 = ((w.alloc (.cells #[.slice AL lg.d.L.length nL, .slice AT lg.d.T.length nT, .int .i64 (lg.d.n : Int), .slice A lg.l.length c, .int .i64 (lg.last : Int)] 60)).alloc (.cells #[.int .i64 x.kind, vb x.of, .slice Au x.r.length cu, .int .i64 x.kept] 43)).alloc (.cells #[.slice none 0 0, .slice none 0 0, .int .i64 0, .slice none 0 0, .int .i64 0] 60) := ⟨_, rfl⟩
  rw [← hW0]
  obtain ⟨q0, q1, q2, cW⟩ := step_heap hW0
  have hsz : W0.heap.size = w.heap.size + 3 := by rw [hW0]; simp
  clear hW0
  have hT0 : TOf (fun b => G b ∧ b < w.heap.size) W0 (.agg #[.slice AL lg.d.L.length nL, .slice AT lg.d.T.length nT, .int .i64 (lg.d.n : Int), .slice A lg.l.length c, .int .i64 (lg.last : Int)]) lg := ⟨_, _, _, rfl, hL.kept cW fun _ _ => id, hT.kept cW fun _ _ => id, hl.kept cW fun _ _ => id⟩
  have hu0 := hu.kept cW fun _ _ => id
  have K := w_rsync7 hT0 hd hn
  rw [HL.out] at K
  go_at_call 48
  refine K.mono ?_
  rintro e w1 ⟨y, rfl, hT1, c1⟩
  clear K hT0 hu0
  obtain ⟨vL', vT', vl', rfl, bL, bT, rl⟩ := hT1
  obtain ⟨AL', nL', rfl⟩ := bL.shape
  obtain ⟨AT', nT', rfl⟩ := bT.shape
  obtain ⟨Al', nl', rfl, _, _⟩ := rl.shape
  have q2' := heap_kept c1 q2 id
  have l2 := heap_lt q2'
  obtain ⟨y0, y1, y2, y3, y4⟩ := cells5 q2'
  obtain ⟨g0, g1, g2, g3, g4⟩ := free5 q2'
  go_wp2
  obtain ⟨W4, hW4⟩ : ∃ W4, W4 = (((((w1.setCell ⟨w.heap.size + 1 + 1, 0, none⟩ (.slice AL' lg'.d.L.length nL')).setCell ⟨w.heap.size + 1 + 1, 1, none⟩ (.slice AT' lg'.d.T.length nT')).setCell ⟨w.heap.size + 1 + 1, 2, none⟩ (.int .i64 (lg'.d.n : Int))).setCell ⟨w.heap.size + 1 + 1, 3, none⟩ (.slice Al' lg'.l.length nl')).setCell ⟨w.heap.size + 1 + 1, 4, none⟩ (.int .i64 (lg'.last : Int))) := ⟨_, rfl⟩
  rw [← hW4]
  have E5 := end5 (a' := .slice AL' lg'.d.L.length nL') (b' := .slice AT' lg'.d.T.length nT') (c' := .int .i64 (lg'.d.n : Int)) (d' := .slice Al' lg'.l.length nl') (e' := .int .i64 (lg'.last : Int)) q2'
  have qE : W4.heap[w.heap.size + 1 + 1]? = some (.cells #[.slice AL' lg'.d.L.length nL', .slice AT' lg'.d.T.length nT', .int .i64 (lg'.d.n : Int), .slice Al' lg'.l.length nl', .int .i64 (lg'.last : Int)] 60 (0, 0)) := by rw [hW4]; exact E5.1
  have cE : Chg (fun b => b = w.heap.size + 1 + 1) w1 W4 := by rw [hW4]; exact E5.2
  obtain ⟨e0, e1, e2, e3, e4⟩ := cells5 qE
  refine bodyPost_ret (v := .tuple #[.agg #[.slice AL' lg'.d.L.length nL', .slice AT' lg'.d.T.length nT', .int .i64 (lg'.d.n : Int), .slice Al' lg'.l.length nl', .int .i64 (lg'.last : Int)], .int .i64 0]) (by simp [results, Try.results32, go_sem, e0, e1, e2, e3, e4]) rfl ?_
  have hs1 := c1.size
  have cN : Chg none' w W4 := (cW.trans c1).trans' cE fun i hi e => by omega
  have hne := in_or (G := G) (n := w.heap.size) (m := W0.heap.size) (g := w.heap.size + 1 + 1) (by omega) (by omega)
  exact ⟨_, rfl, tof (lg := lg') (d' := lg'.d) rfl (Row.mono (bL.kept cE hne) fun b _ => or_mono (by omega) b) (Row.mono (bT.kept cE hne) fun b _ => or_mono (by omega) b) (Recs.mono (rl.kept cE hne) fun b _ => or_mono (by omega) b), cN⟩

set_option maxRecDepth 100000 in
set_option maxHeartbeats 2000000 in
theorem w_rstep7_snap {G : Nat → Prop} {w : World} {v u : Value} {lg : Lg} (x : Do7) (h : TOf G w v lg) (hu : Rows G w u x.r) (hd : lg.d.L.length + lg.d.T.length ≤ 4194304) (hn : lg.d.n ≤ 1000000000000000) (hll : lg.l.length ≤ 4194304) (k1 : x.kind = 3) (hb : ∀ b ∈ x.r, b.length ≤ 65536) :
    Calls Try.prog 32 #[v, .agg #[.int .i64 x.kind, vb x.of, u, .int .i64 x.kept]] w fun e w' => ∃ y, e = .returned (.tuple #[y, .int .i64 (0)]) ∧ TOf (fun b => G b ∨ w.heap.size ≤ b) w' y (wsnap lg (x.r.headD [])) ∧ Chg none' w w' := by
  obtain ⟨vL, vT, vl, rfl, hL, hT, hl⟩ := h.old
  obtain ⟨A, c, rfl, hlc, hm⟩ := hl.shape
  unfold maxLen at hm
  obtain ⟨AL, nL, rfl⟩ := hL.shape
  obtain ⟨AT, nT, rfl⟩ := hT.shape
  replace hu : Rows (fun b => G b ∧ b < w.heap.size) w u x.r := hu.mono fun b h1 h2 => ⟨h2, h1⟩
  obtain ⟨Au, cu, rfl, _, hcu⟩ := hu.shape
  unfold maxLen at hcu
  have z1 : (x.kind == 1) = false := by rw [k1]; rfl
  have z2 : (x.kind == 2) = false := by rw [k1]; rfl
  have z3 : (x.kind == 3) = true := by rw [k1]; rfl
  clear k1
  have HB := Lib.hid hb
  clear hb
  by_cases hl0 : 0 < x.r.length
  · obtain ⟨b1, o1, c1', u1, e1, hF1, ck1, hu1⟩ := hu.at_ hl0
    have lb := hF1.2
    simp only [Value.slice.injEq] at e1
    obtain ⟨rfl, _, rfl⟩ := e1
    rw [Nat.add_zero] at ck1
    have hhd : x.r.headD [] = x.r[0] := by
      rw [List.headD_eq_head?_getD, List.head?_eq_getElem?, List.getElem?_eq_getElem hl0]; rfl
    rw [hhd]
    have hb0 := HB.out _ (List.getElem_mem hl0)
    clear hhd
    obtain ⟨b0, hb0e⟩ : ∃ b0, x.r[0] = b0 := ⟨_, rfl⟩
    simp only [hb0e] at hu1 hb0 ⊢
    clear hb0e
    obtain ⟨Ax, cx, rfl⟩ := hu1.shape
    have hl' : (0 : Int) < x.r.length := by omega
    obtain ⟨lg', hlg'⟩ : ∃ lg', wsnap lg b0 = lg' := ⟨_, rfl⟩
    rw [hlg']
    have HL := Lib.hid hlg'
    clear hlg'
    go_enter Try.func32, Try.ntmps32
    go_upto_region 8 with (fail)
    obtain ⟨W0, hW0⟩ : ∃ W0, W0 = ((w.alloc (.cells #[.slice AL lg.d.L.length nL, .slice AT lg.d.T.length nT, .int .i64 (lg.d.n : Int), .slice A lg.l.length c, .int .i64 (lg.last : Int)] 60)).alloc (.cells #[.int .i64 x.kind, vb x.of, .slice (some ⟨b1, o1, none⟩) x.r.length cu, .int .i64 x.kept] 43)).alloc (.cells #[.slice none 0 0, .slice none 0 0, .int .i64 0, .slice none 0 0, .int .i64 0] 60) := ⟨_, rfl⟩
    rw [← hW0]
    obtain ⟨q0, q1, q2, cW⟩ := step_heap hW0
    have hsz : W0.heap.size = w.heap.size + 3 := by rw [hW0]; simp
    clear hW0
    have hT0 : TOf (fun b => G b ∧ b < w.heap.size) W0 (.agg #[.slice AL lg.d.L.length nL, .slice AT lg.d.T.length nT, .int .i64 (lg.d.n : Int), .slice A lg.l.length c, .int .i64 (lg.last : Int)]) lg := ⟨_, _, _, rfl, hL.kept cW fun _ _ => id, hT.kept cW fun _ _ => id, hl.kept cW fun _ _ => id⟩
    have hu0 := hu.kept cW fun _ _ => id
    have b2 : W0.cell? ⟨w.heap.size + 1, 2, none⟩ = some (.slice (some ⟨b1, o1, none⟩) x.r.length cu) := by rw [cell_of_row _ _ _ _ _ _ q1]; rfl
    have ck0 := cW.cell ck1 id
    obtain ⟨a0, a1, a2, a3, a4⟩ := cells5 q0
    go_wp2_with fail
    clear a0 a1 a2 a3 a4 b2 ck0
    have K := w_rsnap7 hT0 (hu1.kept cW fun _ _ => id) hb0 hd hn
    rw [HL.out] at K
    go_at_call 49
    refine K.mono ?_
    rintro e w1 ⟨y, rfl, hT1, c1⟩
    clear K hT0 hu0 hu1
    obtain ⟨vL', vT', vl', rfl, bL, bT, rl⟩ := hT1
    obtain ⟨AL', nL', rfl⟩ := bL.shape
    obtain ⟨AT', nT', rfl⟩ := bT.shape
    obtain ⟨Al', nl', rfl, _, _⟩ := rl.shape
    have q2' := heap_kept c1 q2 id
    have l2 := heap_lt q2'
    obtain ⟨y0, y1, y2, y3, y4⟩ := cells5 q2'
    obtain ⟨g0, g1, g2, g3, g4⟩ := free5 q2'
    go_wp2
    obtain ⟨W4, hW4⟩ : ∃ W4, W4 = (((((w1.setCell ⟨w.heap.size + 1 + 1, 0, none⟩ (.slice AL' lg'.d.L.length nL')).setCell ⟨w.heap.size + 1 + 1, 1, none⟩ (.slice AT' lg'.d.T.length nT')).setCell ⟨w.heap.size + 1 + 1, 2, none⟩ (.int .i64 (lg'.d.n : Int))).setCell ⟨w.heap.size + 1 + 1, 3, none⟩ (.slice Al' lg'.l.length nl')).setCell ⟨w.heap.size + 1 + 1, 4, none⟩ (.int .i64 (lg'.last : Int))) := ⟨_, rfl⟩
    rw [← hW4]
    have E5 := end5 (a' := .slice AL' lg'.d.L.length nL') (b' := .slice AT' lg'.d.T.length nT') (c' := .int .i64 (lg'.d.n : Int)) (d' := .slice Al' lg'.l.length nl') (e' := .int .i64 (lg'.last : Int)) q2'
    have qE : W4.heap[w.heap.size + 1 + 1]? = some (.cells #[.slice AL' lg'.d.L.length nL', .slice AT' lg'.d.T.length nT', .int .i64 (lg'.d.n : Int), .slice Al' lg'.l.length nl', .int .i64 (lg'.last : Int)] 60 (0, 0)) := by rw [hW4]; exact E5.1
    have cE : Chg (fun b => b = w.heap.size + 1 + 1) w1 W4 := by rw [hW4]; exact E5.2
    obtain ⟨e0, e1, e2, e3, e4⟩ := cells5 qE
    refine bodyPost_ret (v := .tuple #[.agg #[.slice AL' lg'.d.L.length nL', .slice AT' lg'.d.T.length nT', .int .i64 (lg'.d.n : Int), .slice Al' lg'.l.length nl', .int .i64 (lg'.last : Int)], .int .i64 0]) (by simp [results, Try.results32, go_sem, e0, e1, e2, e3, e4]) rfl ?_
    have hs1 := c1.size
    have cN : Chg none' w W4 := (cW.trans c1).trans' cE fun i hi e => by omega
    have hne := in_or (G := G) (n := w.heap.size) (m := W0.heap.size) (g := w.heap.size + 1 + 1) (by omega) (by omega)
    exact ⟨_, rfl, tof (lg := lg') (d' := lg'.d) rfl (Row.mono (bL.kept cE hne) fun b _ => or_mono (by omega) b) (Row.mono (bT.kept cE hne) fun b _ => or_mono (by omega) b) (Recs.mono (rl.kept cE hne) fun b _ => or_mono (by omega) b), cN⟩
  · have hhd : x.r.headD [] = [] := by rw [List.eq_nil_of_length_eq_zero (by omega : x.r.length = 0)]; rfl
    rw [hhd]
    clear hhd
    have hl' : ¬ (0 : Int) < x.r.length := by omega
    obtain ⟨lg', hlg'⟩ : ∃ lg', wsnap lg [] = lg' := ⟨_, rfl⟩
    rw [hlg']
    have HL := Lib.hid hlg'
    clear hlg'
    go_enter Try.func32, Try.ntmps32
    go_wp2_with fail
    obtain ⟨W0, hW0⟩ : ∃ W0, W0 = ((w.alloc (.cells #[.slice AL lg.d.L.length nL, .slice AT lg.d.T.length nT, .int .i64 (lg.d.n : Int), .slice A lg.l.length c, .int .i64 (lg.last : Int)] 60)).alloc (.cells #[.int .i64 x.kind, vb x.of, .slice Au x.r.length cu, .int .i64 x.kept] 43)).alloc (.cells #[.slice none 0 0, .slice none 0 0, .int .i64 0, .slice none 0 0, .int .i64 0] 60) := ⟨_, rfl⟩
    rw [← hW0]
    obtain ⟨q0, q1, q2, cW⟩ := step_heap hW0
    have hsz : W0.heap.size = w.heap.size + 3 := by rw [hW0]; simp
    clear hW0
    have hT0 : TOf (fun b => G b ∧ b < w.heap.size) W0 (.agg #[.slice AL lg.d.L.length nL, .slice AT lg.d.T.length nT, .int .i64 (lg.d.n : Int), .slice A lg.l.length c, .int .i64 (lg.last : Int)]) lg := ⟨_, _, _, rfl, hL.kept cW fun _ _ => id, hT.kept cW fun _ _ => id, hl.kept cW fun _ _ => id⟩
    have hu0 := hu.kept cW fun _ _ => id
    have K := w_rsnap7 (u := .slice none 0 0) (bs := []) hT0 Row.nil (by simp) hd hn
    rw [HL.out] at K
    go_at_call 49
    refine K.mono ?_
    rintro e w1 ⟨y, rfl, hT1, c1⟩
    clear K hT0 hu0
    obtain ⟨vL', vT', vl', rfl, bL, bT, rl⟩ := hT1
    obtain ⟨AL', nL', rfl⟩ := bL.shape
    obtain ⟨AT', nT', rfl⟩ := bT.shape
    obtain ⟨Al', nl', rfl, _, _⟩ := rl.shape
    have q2' := heap_kept c1 q2 id
    have l2 := heap_lt q2'
    obtain ⟨y0, y1, y2, y3, y4⟩ := cells5 q2'
    obtain ⟨g0, g1, g2, g3, g4⟩ := free5 q2'
    go_wp2
    obtain ⟨W4, hW4⟩ : ∃ W4, W4 = (((((w1.setCell ⟨w.heap.size + 1 + 1, 0, none⟩ (.slice AL' lg'.d.L.length nL')).setCell ⟨w.heap.size + 1 + 1, 1, none⟩ (.slice AT' lg'.d.T.length nT')).setCell ⟨w.heap.size + 1 + 1, 2, none⟩ (.int .i64 (lg'.d.n : Int))).setCell ⟨w.heap.size + 1 + 1, 3, none⟩ (.slice Al' lg'.l.length nl')).setCell ⟨w.heap.size + 1 + 1, 4, none⟩ (.int .i64 (lg'.last : Int))) := ⟨_, rfl⟩
    rw [← hW4]
    have E5 := end5 (a' := .slice AL' lg'.d.L.length nL') (b' := .slice AT' lg'.d.T.length nT') (c' := .int .i64 (lg'.d.n : Int)) (d' := .slice Al' lg'.l.length nl') (e' := .int .i64 (lg'.last : Int)) q2'
    have qE : W4.heap[w.heap.size + 1 + 1]? = some (.cells #[.slice AL' lg'.d.L.length nL', .slice AT' lg'.d.T.length nT', .int .i64 (lg'.d.n : Int), .slice Al' lg'.l.length nl', .int .i64 (lg'.last : Int)] 60 (0, 0)) := by rw [hW4]; exact E5.1
    have cE : Chg (fun b => b = w.heap.size + 1 + 1) w1 W4 := by rw [hW4]; exact E5.2
    obtain ⟨e0, e1, e2, e3, e4⟩ := cells5 qE
    refine bodyPost_ret (v := .tuple #[.agg #[.slice AL' lg'.d.L.length nL', .slice AT' lg'.d.T.length nT', .int .i64 (lg'.d.n : Int), .slice Al' lg'.l.length nl', .int .i64 (lg'.last : Int)], .int .i64 0]) (by simp [results, Try.results32, go_sem, e0, e1, e2, e3, e4]) rfl ?_
    have hs1 := c1.size
    have cN : Chg none' w W4 := (cW.trans c1).trans' cE fun i hi e => by omega
    have hne := in_or (G := G) (n := w.heap.size) (m := W0.heap.size) (g := w.heap.size + 1 + 1) (by omega) (by omega)
    exact ⟨_, rfl, tof (lg := lg') (d' := lg'.d) rfl (Row.mono (bL.kept cE hne) fun b _ => or_mono (by omega) b) (Row.mono (bT.kept cE hne) fun b _ => or_mono (by omega) b) (Recs.mono (rl.kept cE hne) fun b _ => or_mono (by omega) b), cN⟩

set_option maxRecDepth 100000 in
set_option maxHeartbeats 2000000 in
theorem w_rstep7_crash {G : Nat → Prop} {w : World} {v u : Value} {lg : Lg} (x : Do7) (h : TOf G w v lg) (hu : Rows G w u x.r) (hd : lg.d.L.length + lg.d.T.length ≤ 4194304) (hn : lg.d.n ≤ 1000000000000000) (hll : lg.l.length ≤ 4194304) (k1 : x.kind ≠ 1) (k2 : x.kind ≠ 2) (k3 : x.kind ≠ 3) (q : Nat) (hq : x.kept = q) :
    Calls Try.prog 32 #[v, .agg #[.int .i64 x.kind, vb x.of, u, .int .i64 x.kept]] w fun e w' => ∃ y, e = .returned (.tuple #[y, .int .i64 (0)]) ∧ TOf (fun b => G b ∨ w.heap.size ≤ b) w' y (wopen (dcrash lg.d q)) ∧ Chg none' w w' := by
  obtain ⟨vL, vT, vl, rfl, hL, hT, hl⟩ := h.old
  obtain ⟨A, c, rfl, hlc, hm⟩ := hl.shape
  unfold maxLen at hm
  obtain ⟨AL, nL, rfl⟩ := hL.shape
  obtain ⟨AT, nT, rfl⟩ := hT.shape
  replace hu : Rows (fun b => G b ∧ b < w.heap.size) w u x.r := hu.mono fun b h1 h2 => ⟨h2, h1⟩
  obtain ⟨Au, cu, rfl, _, hcu⟩ := hu.shape
  unfold maxLen at hcu
  have z1 : (x.kind == 1) = false := by rw [beq_eq_false_iff_ne]; exact k1
  have z2 : (x.kind == 2) = false := by rw [beq_eq_false_iff_ne]; exact k2
  have z3 : (x.kind == 3) = false := by rw [beq_eq_false_iff_ne]; exact k3
  clear k1 k2 k3
  obtain ⟨lg', hlg'⟩ : ∃ lg', wopen (dcrash lg.d q) = lg' := ⟨_, rfl⟩
  rw [hlg']
  have HL := Lib.hid hlg'
  clear hlg'
  have HQ := Lib.hid hq
  clear hq
  go_enter Try.func32, Try.ntmps32
  go_wp2_with fail
  obtain ⟨W0, hW0⟩ : ∃ W0, W0 = ((w.alloc (.cells #[.slice AL lg.d.L.length nL, .slice AT lg.d.T.length nT, .int .i64 (lg.d.n : Int), .slice A lg.l.length c, .int .i64 (lg.last : Int)] 60)).alloc (.cells #[.int .i64 x.kind, vb x.of, .slice Au x.r.length cu, .int .i64 x.kept] 43)).alloc (.cells #[.slice none 0 0, .slice none 0 0, .int .i64 0, .slice none 0 0, .int .i64 0] 60) := ⟨_, rfl⟩
  rw [← hW0]
  obtain ⟨q0, q1, q2, cW⟩ := step_heap hW0
  have hsz : W0.heap.size = w.heap.size + 3 := by rw [hW0]; simp
  clear hW0
  have hT0 : TOf (fun b => G b ∧ b < w.heap.size) W0 (.agg #[.slice AL lg.d.L.length nL, .slice AT lg.d.T.length nT, .int .i64 (lg.d.n : Int), .slice A lg.l.length c, .int .i64 (lg.last : Int)]) lg := ⟨_, _, _, rfl, hL.kept cW fun _ _ => id, hT.kept cW fun _ _ => id, hl.kept cW fun _ _ => id⟩
  have hu0 := hu.kept cW fun _ _ => id
  have K := w_rcrash7 hT0 q hd hn
  rw [HL.out, ← HQ.out] at K
  go_at_call 50
  refine K.mono ?_
  rintro e w1 ⟨y, rfl, hT1, c1⟩
  replace hT1 : TOf (fun b => (G b ∧ b < w.heap.size) ∨ W0.heap.size ≤ b) w1 y lg' := hT1.mono fun b _ hb => .inr hb
  clear K hT0 hu0
  obtain ⟨vL', vT', vl', rfl, bL, bT, rl⟩ := hT1
  obtain ⟨AL', nL', rfl⟩ := bL.shape
  obtain ⟨AT', nT', rfl⟩ := bT.shape
  obtain ⟨Al', nl', rfl, _, _⟩ := rl.shape
  have q2' := heap_kept c1 q2 id
  have l2 := heap_lt q2'
  obtain ⟨y0, y1, y2, y3, y4⟩ := cells5 q2'
  obtain ⟨g0, g1, g2, g3, g4⟩ := free5 q2'
  go_wp2
  obtain ⟨W4, hW4⟩ : ∃ W4, W4 = ((((((w1.setCell ⟨w.heap.size + 1 + 1, 0, none⟩ (.slice AL' lg'.d.L.length nL')).setCell ⟨w.heap.size + 1 + 1, 1, none⟩ (.slice AT' lg'.d.T.length nT')).setCell ⟨w.heap.size + 1 + 1, 2, none⟩ (.int .i64 (lg'.d.n : Int))).setCell ⟨w.heap.size + 1 + 1, 3, none⟩ (.slice Al' lg'.l.length nl')).setCell ⟨w.heap.size + 1 + 1, 4, none⟩ (.int .i64 (lg'.last : Int))).alloc (.cells #[.slice AL' lg'.d.L.length nL', .slice AT' lg'.d.T.length nT', .int .i64 (lg'.d.n : Int), .slice Al' lg'.l.length nl', .int .i64 (lg'.last : Int)] 60)) := ⟨_, rfl⟩
  rw [← hW4]
  have E5 := end5 (a' := .slice AL' lg'.d.L.length nL') (b' := .slice AT' lg'.d.T.length nT') (c' := .int .i64 (lg'.d.n : Int)) (d' := .slice Al' lg'.l.length nl') (e' := .int .i64 (lg'.last : Int)) q2'
  have qE : W4.heap[w.heap.size + 1 + 1]? = some (.cells #[.slice AL' lg'.d.L.length nL', .slice AT' lg'.d.T.length nT', .int .i64 (lg'.d.n : Int), .slice Al' lg'.l.length nl', .int .i64 (lg'.last : Int)] 60 (0, 0)) := by rw [hW4]; exact heap_alloc_keep (E5.1)
  have cE : Chg (fun b => b = w.heap.size + 1 + 1) w1 W4 := by rw [hW4]; exact (E5.2.alloc _)
  obtain ⟨e0, e1, e2, e3, e4⟩ := cells5 qE
  refine bodyPost_ret (v := .tuple #[.agg #[.slice AL' lg'.d.L.length nL', .slice AT' lg'.d.T.length nT', .int .i64 (lg'.d.n : Int), .slice Al' lg'.l.length nl', .int .i64 (lg'.last : Int)], .int .i64 0]) (by simp [results, Try.results32, go_sem, e0, e1, e2, e3, e4]) rfl ?_
  have hs1 := c1.size
  have cN : Chg none' w W4 := (cW.trans c1).trans' cE fun i hi e => by omega
  have hne := in_or (G := G) (n := w.heap.size) (m := W0.heap.size) (g := w.heap.size + 1 + 1) (by omega) (by omega)
  exact ⟨_, rfl, tof (lg := lg') (d' := lg'.d) rfl (Row.mono (bL.kept cE hne) fun b _ => or_mono (by omega) b) (Row.mono (bT.kept cE hne) fun b _ => or_mono (by omega) b) (Recs.mono (rl.kept cE hne) fun b _ => or_mono (by omega) b), cN⟩

set_option maxRecDepth 100000 in
set_option maxHeartbeats 2000000 in
theorem w_rstep7_crash_no {G : Nat → Prop} {w : World} {v u : Value} {lg : Lg} (x : Do7) (h : TOf G w v lg) (hu : Rows G w u x.r) (hd : lg.d.L.length + lg.d.T.length ≤ 4194304) (hn : lg.d.n ≤ 1000000000000000) (hll : lg.l.length ≤ 4194304) (k1 : x.kind ≠ 1) (k2 : x.kind ≠ 2) (k3 : x.kind ≠ 3) (hq : x.kept < 0) :
    Calls Try.prog 32 #[v, .agg #[.int .i64 x.kind, vb x.of, u, .int .i64 x.kept]] w fun e w' => ∃ y, e = .returned (.tuple #[y, .int .i64 (2)]) ∧ TOf (fun b => G b ∨ w.heap.size ≤ b) w' y (lg) ∧ Chg none' w w' := by
  obtain ⟨vL, vT, vl, rfl, hL, hT, hl⟩ := h.old
  obtain ⟨A, c, rfl, hlc, hm⟩ := hl.shape
  unfold maxLen at hm
  obtain ⟨AL, nL, rfl⟩ := hL.shape
  obtain ⟨AT, nT, rfl⟩ := hT.shape
  replace hu : Rows (fun b => G b ∧ b < w.heap.size) w u x.r := hu.mono fun b h1 h2 => ⟨h2, h1⟩
  obtain ⟨Au, cu, rfl, _, hcu⟩ := hu.shape
  unfold maxLen at hcu
  have z1 : (x.kind == 1) = false := by rw [beq_eq_false_iff_ne]; exact k1
  have z2 : (x.kind == 2) = false := by rw [beq_eq_false_iff_ne]; exact k2
  have z3 : (x.kind == 3) = false := by rw [beq_eq_false_iff_ne]; exact k3
  clear k1 k2 k3
  go_enter Try.func32, Try.ntmps32
  go_wp2_with fail
  obtain ⟨W0, hW0⟩ : ∃ W0, W0 = ((w.alloc (.cells #[.slice AL lg.d.L.length nL, .slice AT lg.d.T.length nT, .int .i64 (lg.d.n : Int), .slice A lg.l.length c, .int .i64 (lg.last : Int)] 60)).alloc (.cells #[.int .i64 x.kind, vb x.of, .slice Au x.r.length cu, .int .i64 x.kept] 43)).alloc (.cells #[.slice none 0 0, .slice none 0 0, .int .i64 0, .slice none 0 0, .int .i64 0] 60) := ⟨_, rfl⟩
  rw [← hW0]
  obtain ⟨q0, q1, q2, cW⟩ := step_heap hW0
  have hsz : W0.heap.size = w.heap.size + 3 := by rw [hW0]; simp
  clear hW0
  have hT0 : TOf (fun b => G b ∧ b < w.heap.size) W0 (.agg #[.slice AL lg.d.L.length nL, .slice AT lg.d.T.length nT, .int .i64 (lg.d.n : Int), .slice A lg.l.length c, .int .i64 (lg.last : Int)]) lg := ⟨_, _, _, rfl, hL.kept cW fun _ _ => id, hT.kept cW fun _ _ => id, hl.kept cW fun _ _ => id⟩
  have hu0 := hu.kept cW fun _ _ => id
  have K := w_rcrash7_no hT0 hq hd hn
  go_at_call 50
  refine K.mono ?_
  rintro e w1 ⟨rfl, c1⟩
  clear K hT0 hu0
  have q0' := heap_kept c1 q0 id
  have q2' := heap_kept c1 q2 id
  have l2 := heap_lt q2'
  have l0 := heap_lt q0'
  obtain ⟨a0, a1, a2, a3, a4⟩ := cells5 q0'
  obtain ⟨y0, y1, y2, y3, y4⟩ := cells5 q2'
  obtain ⟨g0, g1, g2, g3, g4⟩ := free5 q2'
  go_wp2
  obtain ⟨W4, hW4⟩ : ∃ W4, W4 = ((((((w1.setCell ⟨w.heap.size + 1 + 1, 0, none⟩ (.slice AL lg.d.L.length nL)).setCell ⟨w.heap.size + 1 + 1, 1, none⟩ (.slice AT lg.d.T.length nT)).setCell ⟨w.heap.size + 1 + 1, 2, none⟩ (.int .i64 (lg.d.n : Int))).setCell ⟨w.heap.size + 1 + 1, 3, none⟩ (.slice A lg.l.length c)).setCell ⟨w.heap.size + 1 + 1, 4, none⟩ (.int .i64 (lg.last : Int))).alloc (.cells #[.slice none 0 0, .slice none 0 0, .int .i64 0, .slice none 0 0, .int .i64 0] 60)) := ⟨_, rfl⟩
  rw [← hW4]
  have E5 := end5 (a' := .slice AL lg.d.L.length nL) (b' := .slice AT lg.d.T.length nT) (c' := .int .i64 (lg.d.n : Int)) (d' := .slice A lg.l.length c) (e' := .int .i64 (lg.last : Int)) q2'
  have qE : W4.heap[w.heap.size + 1 + 1]? = some (.cells #[.slice AL lg.d.L.length nL, .slice AT lg.d.T.length nT, .int .i64 (lg.d.n : Int), .slice A lg.l.length c, .int .i64 (lg.last : Int)] 60 (0, 0)) := by rw [hW4]; exact heap_alloc_keep (E5.1)
  have cE : Chg (fun b => b = w.heap.size + 1 + 1) w1 W4 := by rw [hW4]; exact (E5.2.alloc _)
  obtain ⟨e0, e1, e2, e3, e4⟩ := cells5 qE
  refine bodyPost_ret (v := .tuple #[.agg #[.slice AL lg.d.L.length nL, .slice AT lg.d.T.length nT, .int .i64 (lg.d.n : Int), .slice A lg.l.length c, .int .i64 (lg.last : Int)], .int .i64 2]) (by simp [results, Try.results32, go_sem, e0, e1, e2, e3, e4]) rfl ?_
  have cN : Chg none' w W4 := (cW.trans c1).trans' cE fun i hi e => by omega
  exact ⟨_, rfl, tof (d' := lg.d) rfl (Row.mono (hL.kept cN fun _ _ => id) fun b _ hb => .inl hb.1) (Row.mono (hT.kept cN fun _ _ => id) fun b _ hb => .inl hb.1) (Recs.mono (hl.kept cN fun _ _ => id) fun b _ hb => .inl hb.1), cN⟩

end Go.Proofs.Ytclbbddpedcfjaa
