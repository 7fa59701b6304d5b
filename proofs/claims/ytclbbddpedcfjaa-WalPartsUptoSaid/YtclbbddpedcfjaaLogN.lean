/-
  Append for a log whose records' bytes lie in blocks laid since a world of size n. (Printed by gen_logn.py out of XLog4.)
-/
import Derived.Test.YtclbbddpedcfjaaLog4
namespace Go.Proofs.Ytclbbddpedcfjaa
open Go.RowKit

/-- A log; its records' bytes lie in blocks from n on. -/
def IsLogN (n : Nat) (F : Nat → Prop) (w : World) (g : Nat) (lg : Lg) : Prop := ∃ gd FD vl, LogB F w g gd FD vl lg ∧ OwnRG (fun b => ¬ F b ∧ n ≤ b) 0 w vl lg.l ∧ LgOk lg
theorem OwnRG.emp {G G' : Nat → Prop} {base : Nat} {w : World} {v : Value} (h : OwnRG G base w v []) : OwnRG G' base w v [] := by
  obtain ⟨ps, e, q1, q2⟩ := h
  obtain rfl : ps = [] := List.map_eq_nil_iff.1 e
  exact ⟨[], rfl, q1, fun p hp => by simp at hp⟩
section
variable {n : Nat} {F S : Nat → Prop} {w w' : World} {g : Nat} {lg : Lg}
theorem IsLogN.log (h : IsLogN n F w g lg) : IsLog F w g lg := let ⟨a, b, c, d, _, e⟩ := h; ⟨a, b, c, d, e⟩
theorem IsLog.nilN (h : IsLog F w g lg) (hl : lg.l = []) (n : Nat) : IsLogN n F w g lg := by
  obtain ⟨a, b, c, d, e⟩ := h
  have hr := d.recs
  rw [hl] at hr
  exact ⟨a, b, c, d, by rw [hl]; exact hr.emp, e⟩
theorem IsLogN.keep (h : IsLogN n F w g lg) (c : Chg S w w') (hF : ∀ b, F b → ¬ S b) (hS : ∀ b, S b → b < n) : IsLogN n F w' g lg := by
  obtain ⟨gd, FD, vl, h, hr, e⟩ := h
  have hr' := hr.keep c (fun b hb => hF b (h.fl b hb)) fun b hb q => by have := hS b q; omega
  exact ⟨gd, FD, vl, ⟨(c.block g (h.flt g h.fg) (hF g h.fg)).trans h.heap, h.disk.keep c fun b hb => hF b (h.fD b hb), hr'.mono fun _ _ hb => hb.1, h.gD, h.gl, h.lD, h.fg, h.fD, h.fl, fun b hb => Nat.lt_of_lt_of_le (h.flt b hb) c.size⟩, hr', e⟩
theorem IsLogN.keep0 (h : IsLogN n F w g lg) (c : Chg none' w w') : IsLogN n F w' g lg := h.keep c (fun _ _ => id) fun _ => False.elim
end

/-- The row of records, told of a world behind the append. -/
structure NewRsN (n : Nat) (F : Nat → Prop) (g : Nat) (vl : Value) (L' : List Rec) (X x : World) (v : Value) : Prop where
  own : OwnRG (fun b => ¬ F b ∧ n ≤ b) 0 x v L'
  blk : ∀ b, v.ownBlock = some b → vl.ownBlock = some b ∨ X.heap.size ≤ b
  gl : vl.ownBlock ≠ some g
  glt : g < X.heap.size
  fg : F g
section
variable {n : Nat} {F : Nat → Prop} {g : Nat} {vl : Value} {L' : List Rec} {X x x' : World} {v : Value} {S : Nat → Prop}
theorem NewRsN.keep (h : NewRsN n F g vl L' X x v) (c : Chg S x x') (h1 : ∀ b, v.ownBlock = some b → ¬ S b) (h2 : ∀ b, ¬ F b → ¬ S b) : NewRsN n F g vl L' X x' v := ⟨h.own.keep c h1 fun b hb => h2 b hb.1, h.blk, h.gl, h.glt, h.fg⟩
theorem NewRsN.ne (h : NewRsN n F g vl L' X x v) : v.ownBlock ≠ some g := fun e => by
  rcases h.blk g e with q | q
  · exact h.gl q
  · have := h.glt; omega
theorem NewRsN.set (h : NewRsN n F g vl L' X x v) {i : Nat} {y : Value} : NewRsN n F g vl L' X (x.setCell ⟨g, i, none⟩ y) v :=
  h.keep ((Chg.refl (fun b => b = g) _).setCell (.inr rfl) _) (fun b e q => h.ne (q ▸ e)) fun b hb q => hb (q ▸ h.fg)
theorem NewRsN.shape (h : NewRsN n F g vl L' X x v) : ∃ A n, v = .slice A L'.length n := let ⟨A, n, e, _⟩ := h.own.own.recs.shape; ⟨A, n, e⟩
end
/-- The world's states: the record is laid by itself; it is in the row; the row is the log's. -/
def WalSN (n : Nat) (F : Nat → Prop) (g : Nat) (vl : Value) (L' : List Rec) (X : World) : Nat → World → Prop
  | 0, x => Chg none' X x
  | 1, x => Chg (ownOf vl) X x
  | _, x => ∃ x1 v', Chg (ownOf vl) X x1 ∧ NewRsN n F g vl L' X x1 v' ∧ x = x1.setCell ⟨g, 1, none⟩ v'

section
variable {F : Nat → Prop} {w : World} {g : Nat} {lg : Lg}
set_option maxRecDepth 100000 in
set_option maxHeartbeats 4000000 in
theorem w_wappendN {n : Nat} (h : IsLogN n F w g lg) (hnw : n ≤ w.heap.size) (kd : UInt8) (hk0 : kd ≠ 0) {G : Nat → Prop} {v : Value} {bss : List (List UInt8)} (hr : Rows G w v bss) (hG : ∀ b, G b → ¬ F b) (hbn : bss.length * 24 ≤ 140737488351232)
    (hgood : (∀ b ∈ bss, b.length ≤ 65536) ∧ lg.d.L.length + lg.d.T.length + (frames (recsOf kd bss)).length ≤ 4194304) :
    Calls Try.prog 12 #[.pointer (some ⟨g, 0, none⟩), vb kd, v] w fun e w' => ∃ F', e = .returned (.int .i64 0) ∧ IsLogN n F' w' g (wapp lg kd bss) ∧ Ext F F' w ∧ Chg F w w' := by
  have hbl : ∀ b ∈ bss, b.length ≤ 140737488355328 := fun b hb => Nat.le_trans (hgood.1 b hb) (by decide)
  have z0 : ((kd.toNat : Int) == 0) = false := ne_byte (b := 0) hk0
  clear hk0
  have hmax := h.log.max
  have hlen := len_long lg.l
  obtain ⟨gd, FD, vl, h, hN0, hok⟩ := h
  obtain ⟨A, c, rfl, _, hm⟩ := hr.shape
  unfold maxLen at hm
  go_enter Try.func12, Try.ntmps12
  go_wp2
  go_step3
  go_wp2
  go_step3
  go_wp2
  go_loopw [7, 8, 22] (fun av ev iv wr => ∃ k : Nat, k ≤ bss.length ∧ iv = .int .i64 k ∧ ev = .int .i64 0 ∧ (∀ b ∈ bss.take k, b.length ≤ 65536) ∧ OwnBs (fun b => w.heap.size ≤ b) w.heap.size wr av ((recsOf kd (bss.take k)).map frame) ∧ Chg none' w wr) (fun _ _ i _ => bss.length - (intOf i).toNat)
  case atStart => exact ⟨0, Nat.zero_le _, rfl, rfl, fun b hb => by simp at hb, OwnBs.nil _ _ _, Chg.refl _ _⟩
  case round =>
    obtain ⟨k, hk, rfl, rfl, hall, hown, hchg⟩ := hrel
    by_cases hlt : k < bss.length
    · obtain ⟨b1, o1, c1', u1, e1, _, ck1, hu1⟩ := (hr.kept hchg fun _ _ => id).at_ hlt
      simp only [Value.slice.injEq] at e1
      obtain ⟨rfl, _, rfl⟩ := e1
      obtain ⟨Au, cu, rfl⟩ := hu1.shape
      have hb1 := hbl _ (List.getElem_mem hlt)
      by_cases hs : bss[k].length ≤ 65536
      · have E := Lib.hid (recsOf_take kd hlt)
        have hall' : ∀ b ∈ bss.take (k + 1), b.length ≤ 65536 := fun b hb => by
          rw [← List.take_append_getElem hlt] at hb
          rcases List.mem_append.1 hb with q | q
          · exact hall b q
          · simp at q; subst q; exact hs
        have hll : ((recsOf kd (bss.take k)).map frame).length = k := by simp [recsOf]; omega
        have K1 := w_one (r := ⟨kd, bss[k]⟩) wr hu1.old hs
        have HA := Lib.hid hall'
        have HN := Lib.hid hll
        clear hall hall' hll
        generalize bss[k] = bk at *
        obtain ⟨fs, hfs⟩ : ∃ fs, (recsOf kd (bss.take k)).map frame = fs := ⟨_, rfl⟩
        rw [hfs] at hown HN
        have HF := Lib.hid hfs
        clear hfs
        go_wp2_with fail
        refine K1.mono ?_
        rintro e w1 ⟨v1, rfl, o1', c1⟩
        clear K1
        obtain ⟨A1, n1, rfl⟩ := o1'.shape
        have cA : Chg none' w1 (w1.alloc (.cells #[.slice A1 (frame ⟨kd, bk⟩).length n1] 23)) := (Chg.refl _ _).alloc _
        have d1 : Chg none' wr (w1.alloc (.cells #[.slice A1 (frame ⟨kd, bk⟩).length n1] 23)) := c1.trans cA
        have hown1 := hown.keep d1 (fun _ _ => id) (fun _ _ => id)
        have hfr : Bytes (fun b => wr.heap.size ≤ b) (w1.alloc (.cells #[.slice A1 (frame ⟨kd, bk⟩).length n1] 23)) (.slice A1 (frame ⟨kd, bk⟩).length n1) (frame ⟨kd, bk⟩) := Row.mono (o1'.alloc _).bytes fun b _ e => o1'.base_ b e
        go_wp2_with (at_builtin; refine wpList_appBs rfl (.tmp 34) (.tmp 36) rfl hown1 (src_one rfl rfl) hfr (fun b hb => Nat.le_trans hchg.size hb) (fun b hb e => by have := (hown.base_ b e).2; omega) rfl rfl (by rw [HN.out]; omega) (hchg.trans d1).size ?_; intro v2 w2 o2 c2 b2)
        go_roundw
        case rel => exact ⟨k + 1, by omega, by go_num, rfl, HA.out, by rw [E.out, List.map_append, HF.out]; exact o2, (hchg.trans d1).trans' c2 fun i hi e => by have := (hown.base_ i e).1; omega⟩
        case measure => simp [intOf]; omega
      · exact absurd (hgood.1 _ (List.getElem_mem hlt)) hs
    · obtain rfl : k = bss.length := by omega
      rw [List.take_length] at hown hall
      have hlog := h.keep0 hchg
      have k0 := hlog.cell0
      have hrw := hown.rows
      have hfl : ∀ b ∈ (recsOf kd bss).map frame, b.length ≤ 140737488355328 := fun b hb => by
        obtain ⟨r, hr, rfl⟩ := List.mem_map.1 hb
        have := recsOf_ok (k := kd) hall r hr
        rw [frame_len]; omega
      have hGD : ∀ b, (w.heap.size ≤ b ∨ ownOf u7 b) → ¬ FD b := fun b hb hf => by
        have := h.disk.flt b hf
        rcases hb with hb | hb
        · omega
        · have := (hown.base_ b hb).1; omega
      have KA := w_dappE hlog.disk hrw hfl hGD
      rw [show ((recsOf kd bss).map frame).flatten = frames (recsOf kd bss) from rfl] at KA
      obtain ⟨Aa, na, rfl, _, _⟩ := hrw.shape
      rw [List.length_map] at KA
      by_cases hmx : lg.d.L.length + lg.d.T.length + (frames (recsOf kd bss)).length ≤ 4194304
      · have HY := Lib.hid (show (∀ b ∈ bss, b.length ≤ 65536) ∧ lg.d.L.length + lg.d.T.length + (frames (recsOf kd bss)).length ≤ 4194304 from ⟨hall, hmx⟩)
        rw [dappE_in hmx] at KA
        have hrl : (recsOf kd bss).length = bss.length := by simp [recsOf]
        have hll := frames_len (recsOf kd bss)
        have hln := len_long (recsOf kd bss)
        have hbn2 : bss.length ≤ 4194304 := by omega
        clear hmx hll hln hrl hfl
        go_wp2_with fail
        ((with_reducible refine KA.mono ?_))
        rintro e w2 ⟨FD2, rfl, q1, q2, q3⟩
        clear KA
        have hl2 := hlog.redisk q1 q2 q3
        have hN2 : OwnRG (fun b => ¬ (F b ∨ FD2 b) ∧ n ≤ b) 0 w2 vl lg.l := ((hN0.keep hchg (fun _ _ => id) (fun _ _ => id)).mono (G' := fun b => ¬ (F b ∨ FD2 b) ∧ n ≤ b) fun b hb hh => ⟨fun z => by
          rcases z with z | z
          · exact hh.1 z
          · rcases q2 b z with y | y
            · exact hh.1 (h.fD b y)
            · omega, hh.2⟩).keep q3 (fun b e => hlog.lD b e) fun b hb hf => hb.1 (.inl (h.fD b hf))
        have d2 : Chg F w w2 := (hchg.mono fun _ _ => False.elim).trans (q3.mono fun b _ => h.fD b)
        have x2 : Ext F (fun b => F b ∨ FD2 b) w := fun b hb => by
          rcases hb with r | r
          · exact .inl r
          · exact (q2 b r).imp (h.fD b) (Nat.le_trans hchg.size)
        clear hlog hrw hown k0 q1 q2 q3 hGD hall hN0
        go_wp2
        go_loopw [53] (fun iv wr => ∃ k : Nat, k ≤ bss.length ∧ iv = .int .i64 k ∧ Chg F w wr ∧ ∃ Fk vk, Ext F Fk w ∧ LogB Fk wr g gd FD2 vk ⟨dapp lg.d (frames (recsOf kd bss)), lg.l ++ recsOf kd (bss.take k), lg.last⟩ ∧ OwnRG (fun b => ¬ Fk b ∧ n ≤ b) 0 wr vk (lg.l ++ recsOf kd (bss.take k))) (fun i _ => bss.length - (intOf i).toNat)
        case atStart => exact ⟨0, Nat.zero_le _, rfl, d2, _, _, x2, by simpa [recsOf] using hl2, by simpa [recsOf] using hN2⟩
        case round =>
          clear hl2 d2 x2 hN2
          obtain ⟨k, hk, rfl, hchg, Fk, vk, hext, hB, hBN⟩ := hrel
          by_cases hlt : k < bss.length
          · obtain ⟨b1, o1, c1', u1, e1, _, ck1, hu1⟩ := (hr.kept hchg hG).at_ hlt
            simp only [Value.slice.injEq] at e1
            obtain ⟨rfl, _, rfl⟩ := e1
            obtain ⟨Au, cu, rfl⟩ := hu1.shape
            have hb1 := hbl _ (List.getElem_mem hlt)
            have E := Lib.hid (recsOf_take kd hlt)
            generalize bss[k] = bk at *
            obtain ⟨r, hrk⟩ : ∃ r : Rec, r = ⟨kd, bk⟩ := ⟨_, rfl⟩
            obtain ⟨rfl, rfl⟩ : kd = r.kind ∧ bk = r.b := by rw [hrk]; exact ⟨rfl, rfl⟩
            obtain ⟨ls, hls⟩ : ∃ ls, lg.l ++ recsOf r.kind (bss.take k) = ls := ⟨_, rfl⟩
            have hlsl : ls.length ≤ 10000000 := by rw [← hls]; simp [recsOf]; omega
            rw [hls] at hB hBN
            have HLS := Lib.hid hls
            clear hls hrk
            obtain ⟨X, hX⟩ : ∃ X, X = wr.drew := ⟨_, rfl⟩
            have cX : Chg none' wr X := by rw [hX]; exact (Chg.refl _ _).drew
            have hL := hB.keep0 cX
            have cl1 := hL.cell1
            have hO := hBN.keep cX (fun _ _ => id) (fun _ _ => id)
            have hnX : n ≤ X.heap.size := Nat.le_trans hnw (Nat.le_trans hchg.size cX.size)
            clear hBN
            have hu := hu1.kept cX fun _ _ => id
            have hrl := hb1
            have hFX : ∀ b, Fk b → b < X.heap.size := hL.flt
            have hvoX : ∀ b, X.heap.size ≤ b → ¬ ownOf vk b := fun b hb e => by have := hFX b (hL.fl b e); omega
            have hgX : ∀ b, X.heap.size ≤ b → ¬ b = g := fun b hb e => by have := hFX g hL.fg; omega
            have HX0 : WalSN n Fk g vk (ls ++ [r]) X 0 wr.drew := by rw [hX]; exact Chg.refl _ _
            clear hX
            go_wp2
            -- BEGIN app
            refine wp_region_ms2 [Vp.k (.pointer (some ⟨g, 0, none⟩)),
              Vp.k (.pointer (some ⟨g, 0, none⟩)),
              Vp.k (.pointer (some ⟨g, 0, none⟩)),
              Vp.k (.pointer (some ⟨g, 0, none⟩)),
              Vp.k (.pointer (some ⟨g, 1, none⟩)),
              Vp.k (vk),
              Vp.k (vb r.kind),
              Vp.k (.slice Au r.b.length cu),
              ⟨fun x v => OwnB X.heap.size x v r.b, fun _ _ _ hc h => h.keep hc fun _ => none_own⟩,
              ⟨fun x v => AggR X.heap.size x v r, fun _ _ _ hc h => h.keep hc fun _ _ => id⟩,
              ⟨fun x v => LitR X.heap.size x v r, fun _ _ _ hc h => h.keep hc fun _ _ => id⟩,
              ⟨fun x v => NewRsN n Fk g vk (ls ++ [r]) X x v, fun _ _ _ hc h => h.keep hc (fun _ _ => id) (fun _ _ => id)⟩,
              Vp.k (.pointer (some ⟨g, 0, none⟩)),
              Vp.k (.pointer (some ⟨g, 0, none⟩)),
              Vp.k (.pointer (some ⟨g, 1, none⟩)),
              Vp.any] [11, 15] (WalSN n Fk g vk (ls ++ [r]) X) (by kernel_rfl) (by kernel_rfl) (by kernel_rfl) (by kernel_rfl) HX0 ?_ ?_
            · refine ⟨?_, ?_, ?_, ?_, ?_, ?_, ?_, ?_, ?_, ?_, ?_, ?_, ?_, ?_, ?_, ?_, trivial⟩
              · intro s hlo hhi a w2 hS hd hk K hK
                have e0 : a.tmps.getD 0 undef = .pointer (some ⟨g, 0, none⟩) := (Known.init (hk 0 (of_decide_eq_true (by kernel_rfl))) (by kernel_rfl))
                refine track_run rfl ?_
                exact BigFrame.wp_move _ rfl (hK _ w2 hS (.inl (Chg.refl _ _)) e0)
              · intro s hlo hhi a w2 hS hd hk K hK
                have e0 : a.tmps.getD 0 undef = .pointer (some ⟨g, 0, none⟩) := (Known.init (hk 0 (of_decide_eq_true (by kernel_rfl))) (by kernel_rfl))
                refine track_run rfl ?_
                exact BigFrame.wp_move _ rfl (hK _ w2 hS (.inl (Chg.refl _ _)) e0)
              · intro s hlo hhi a w2 hS hd hk K hK
                have e58 : a.tmps.getD 58 undef = .pointer (some ⟨g, 0, none⟩) := (Known.of (j := 1) (hk 58 (of_decide_eq_true (by kernel_rfl))) (by kernel_rfl) (by decide))
                refine track_run rfl ?_
                clear hd
                simp only [Array.getD_eq_getD_getElem?] at e58
                go_simp
                exact hK _ w2 hS (.inl (Chg.refl _ _)) rfl
              · intro s hlo hhi a w2 hS hd hk K hK
                have e59 : a.tmps.getD 59 undef = .pointer (some ⟨g, 0, none⟩) := (Known.of (j := 2) (hk 59 (of_decide_eq_true (by kernel_rfl))) (by kernel_rfl) (by decide))
                refine track_run rfl ?_
                clear hd
                simp only [Array.getD_eq_getD_getElem?] at e59
                go_simp
                exact hK _ w2 hS (.inl (Chg.refl _ _)) rfl
              · intro s hlo hhi a w2 hS hd hk K hK
                have e60 : a.tmps.getD 60 undef = .pointer (some ⟨g, 0, none⟩) := (Known.of (j := 3) (hk 60 (of_decide_eq_true (by kernel_rfl))) (by kernel_rfl) (by decide))
                refine track_run rfl ?_
                clear hd
                simp only [Array.getD_eq_getD_getElem?] at e60
                go_simp
                exact hK _ w2 hS (.inl (Chg.refl _ _)) rfl
              · intro s hlo hhi a w2 hS hd hk K hK
                have e61 : a.tmps.getD 61 undef = .pointer (some ⟨g, 1, none⟩) := (Known.of (j := 4) (hk 61 (of_decide_eq_true (by kernel_rfl))) (by kernel_rfl) (by decide))
                refine track_run rfl ?_
                obtain rfl : s = 0 := Nat.le_zero.1 (Nat.le_trans hhi (of_decide_eq_true (by kernel_rfl)))
                replace hS : Chg none' X w2 := hS
                have cc := Chg.cell hS cl1 id
                clear hd
                simp only [Array.getD_eq_getD_getElem?] at e61
                go_simp
                exact hK _ w2 hS (.inl (Chg.refl _ _)) rfl
              · intro s hlo hhi a w2 hS hd hk K hK
                have e1 : a.tmps.getD 1 undef = vb r.kind := (Known.init (hk 1 (of_decide_eq_true (by kernel_rfl))) (by kernel_rfl))
                refine track_run rfl ?_
                exact BigFrame.wp_move _ rfl (hK _ w2 hS (.inl (Chg.refl _ _)) e1)
              · intro s hlo hhi a w2 hS hd hk K hK
                have e13 : a.tmps.getD 13 undef = .slice Au r.b.length cu := (Known.init (hk 13 (of_decide_eq_true (by kernel_rfl))) (by kernel_rfl))
                refine track_run rfl ?_
                exact BigFrame.wp_move _ rfl (hK _ w2 hS (.inl (Chg.refl _ _)) e13)
              · intro s hlo hhi a w2 hS hd hk K hK
                have e64 : a.tmps.getD 64 undef = .slice Au r.b.length cu := (Known.of (j := 7) (hk 64 (of_decide_eq_true (by kernel_rfl))) (by kernel_rfl) (by decide))
                refine track_run rfl ?_
                obtain rfl : s = 0 := Nat.le_zero.1 (Nat.le_trans hhi (of_decide_eq_true (by kernel_rfl)))
                replace hS : Chg none' X w2 := hS
                refine wp_appB (.const (.slice none 0 0)) (.tmp 64) rfl (OwnB.nil X.heap.size w2) (hu.kept hS fun _ _ => id) rfl e64 (by simpa using hrl) hS.size fun v' x o c b => ?_
                have c0 : Chg none' w2 x := c.mono fun i _ e => by simp [ownOf, Value.ownBlock] at e
                exact hK _ _ (hS.trans c0) (.inl c0) (by simpa using o)
              · intro s hlo hhi a w2 hS hd hk K hK
                have e63 : a.tmps.getD 63 undef = vb r.kind := (Known.of (j := 6) (hk 63 (of_decide_eq_true (by kernel_rfl))) (by kernel_rfl) (by decide))
                have e65 : OwnB X.heap.size w2 (a.tmps.getD 65 undef) r.b := (Known.of (j := 8) (hk 65 (of_decide_eq_true (by kernel_rfl))) (by kernel_rfl) (by decide))
                refine track_run rfl ?_
                obtain ⟨A1, n1, hv⟩ := e65.shape
                rw [hv] at e65
                rw [Array.getD_eq_getD_getElem?] at hv
                clear hd
                simp only [Array.getD_eq_getD_getElem?] at e63
                go_simp
                exact hK _ w2 hS (.inl (Chg.refl _ _)) ⟨_, _, rfl, e65⟩
              · intro s hlo hhi a w2 hS hd hk K hK
                have e66 : AggR X.heap.size w2 (a.tmps.getD 66 undef) r := (Known.of (j := 9) (hk 66 (of_decide_eq_true (by kernel_rfl))) (by kernel_rfl) (by decide))
                refine track_run rfl ?_
                obtain rfl : s = 0 := Nat.le_zero.1 (Nat.le_trans hhi (of_decide_eq_true (by kernel_rfl)))
                replace hS : Chg none' X w2 := hS
                obtain ⟨A1, n1, hv, ho⟩ := e66
                rw [Array.getD_eq_getD_getElem?] at hv
                have cA : Chg none' w2 (w2.alloc (.cells #[vb r.kind, .slice A1 r.b.length n1] 35)) := (Chg.refl _ _).alloc _
                clear hd
                go_simp
                exact hK _ _ (hS.trans cA) (.inl cA) ⟨_, _, rfl, hS.size, heap_alloc_new w2 _, Row.mono (ho.alloc _).bytes fun b _ e => ho.base_ b e⟩
              · intro s hlo hhi a w2 hS hd hk K hK
                have e62 : a.tmps.getD 62 undef = vk := (Known.of (j := 5) (hk 62 (of_decide_eq_true (by kernel_rfl))) (by kernel_rfl) (by decide))
                have e67 : LitR X.heap.size w2 (a.tmps.getD 67 undef) r := (Known.of (j := 10) (hk 67 (of_decide_eq_true (by kernel_rfl))) (by kernel_rfl) (by decide))
                refine track_run rfl ?_
                obtain rfl : s = 0 := Nat.le_zero.1 (Nat.le_trans hhi (of_decide_eq_true (by kernel_rfl)))
                replace hS : Chg none' X w2 := hS
                refine wp_appRG (.tmp 62) (.tmp 67) rfl (hO.keep hS (fun _ _ => id) (fun _ _ => id)) e67.src (fun b hb => ⟨fun hf => by have := hFX b hf; omega, Nat.le_trans hnX hb⟩) (fun b hb e => hvoX b hb e) e62 rfl (by simp only [List.length_singleton]; omega) (Nat.zero_le _) fun v' x o c b => ?_
                exact hK _ _ ((hS.mono fun _ _ => False.elim).trans c) (.inr ⟨.inr (fun u hu => hu), .inr (fun u hu => hu), .inr (fun u hu => hu), .inr (fun u hu => hu), .inr (fun u hu => hu), .inr (fun u hu => hu), .inr (fun u hu => hu), .inr (fun u hu => hu), .inr (fun u hu => OwnB.keepH hu c hvoX), .inr (fun u hu => hu.keep c hvoX), .inr (fun u hu => hu.keep c hvoX), .inl (by kernel_rfl), .inl (by kernel_rfl), .inl (by kernel_rfl), .inl (by kernel_rfl), .inl (by kernel_rfl), trivial⟩) ⟨o, fun q hq => (b q hq).imp id fun z => Nat.le_trans hS.size z, hL.gl, hL.flt g hL.fg, hL.fg⟩
              · intro s hlo hhi a w2 hS hd hk K hK
                have e57 : a.tmps.getD 57 undef = .pointer (some ⟨g, 0, none⟩) := (Known.of (j := 0) (hk 57 (of_decide_eq_true (by kernel_rfl))) (by kernel_rfl) (by decide))
                refine track_run rfl ?_
                clear hd
                simp only [Array.getD_eq_getD_getElem?] at e57
                go_simp
                exact hK _ w2 hS (.inl (Chg.refl _ _)) rfl
              · intro s hlo hhi a w2 hS hd hk K hK
                have e69 : a.tmps.getD 69 undef = .pointer (some ⟨g, 0, none⟩) := (Known.of (j := 12) (hk 69 (of_decide_eq_true (by kernel_rfl))) (by kernel_rfl) (by decide))
                refine track_run rfl ?_
                clear hd
                simp only [Array.getD_eq_getD_getElem?] at e69
                go_simp
                exact hK _ w2 hS (.inl (Chg.refl _ _)) rfl
              · intro s hlo hhi a w2 hS hd hk K hK
                have e70 : a.tmps.getD 70 undef = .pointer (some ⟨g, 0, none⟩) := (Known.of (j := 13) (hk 70 (of_decide_eq_true (by kernel_rfl))) (by kernel_rfl) (by decide))
                refine track_run rfl ?_
                clear hd
                simp only [Array.getD_eq_getD_getElem?] at e70
                go_simp
                exact hK _ w2 hS (.inl (Chg.refl _ _)) rfl
              · intro s hlo hhi a w2 hS hd hk K hK
                have e71 : a.tmps.getD 71 undef = .pointer (some ⟨g, 1, none⟩) := (Known.of (j := 14) (hk 71 (of_decide_eq_true (by kernel_rfl))) (by kernel_rfl) (by decide))
                have e68 : NewRsN n Fk g vk (ls ++ [r]) X w2 (a.tmps.getD 68 undef) := (Known.of (j := 11) (hk 68 (of_decide_eq_true (by kernel_rfl))) (by kernel_rfl) (by decide))
                refine track_run rfl ?_
                obtain rfl : s = 1 := Nat.le_antisymm (Nat.le_trans hhi (of_decide_eq_true (by kernel_rfl))) (Nat.le_trans (of_decide_eq_true (by kernel_rfl)) hlo)
                replace hS : Chg (ownOf vk) X w2 := hS
                obtain ⟨cc, fc⟩ := hL.at1 hS
                obtain ⟨A3, n3, hv⟩ := e68.shape
                rw [hv] at e68
                rw [Array.getD_eq_getD_getElem?] at hv
                clear hd
                simp only [Array.getD_eq_getD_getElem?] at e71
                go_simp
                exact hK undef _ ⟨w2, _, hS, e68, by simp⟩ (.inr ⟨.inr (fun u hu => hu), .inr (fun u hu => hu), .inr (fun u hu => hu), .inr (fun u hu => hu), .inr (fun u hu => hu), .inr (fun u hu => hu), .inr (fun u hu => hu), .inr (fun u hu => hu), .inr (fun u hu => hu.keepH ((Chg.refl (fun b => b = g) _).setCell (.inr rfl) _) hgX), .inr (fun u hu => hu.keep ((Chg.refl (fun b => b = g) _).setCell (.inr rfl) _) hgX), .inr (fun u hu => hu.keep ((Chg.refl (fun b => b = g) _).setCell (.inr rfl) _) hgX), .inr (fun u hu => hu.set), .inr (fun u hu => hu), .inr (fun u hu => hu), .inr (fun u hu => hu), .inl (by kernel_rfl), trivial⟩) trivial
            -- END app
            · intro f x hS hk'
              simp only [filled, List.foldl_cons, List.foldl_nil]
              simp only [Act.put, List.setIfInBounds_toArray, List.set_cons_succ, List.set_cons_zero]
              clear hk'
              obtain ⟨x1, v', hc, hv, rfl⟩ := hS
              have hL2 := hL.setRecs hc (fun _ => id) (hv.own.mono fun _ _ hb => hb.1) hv.blk
              have hN3 : OwnRG (fun b => ¬ (Fk b ∨ v'.ownBlock = some b) ∧ n ≤ b) 0 (x1.setCell ⟨g, 1, none⟩ v') v' (ls ++ [r]) := by
                obtain ⟨ps, e, q1, q2⟩ := hv.own
                have h3 : OwnRG (fun b => ¬ (Fk b ∨ v'.ownBlock = some b) ∧ n ≤ b) 0 x1 v' (ls ++ [r]) := ⟨ps, e, q1, fun p hp => Row.mono (q2 p hp) fun b _ hb => ⟨⟨fun q => q.elim hb.1.1 hb.2, hb.1.2⟩, hb.2⟩⟩
                exact h3.keep ((Chg.refl (fun b => b = g) _).setCell (.inr rfl) _) (fun b e q => hv.ne (q ▸ e)) fun b hb q => hb.1 (.inl (q ▸ hL.fg))
              have hx2 : Ext F (fun b => Fk b ∨ v'.ownBlock = some b) w := fun b hb => by
                rcases hb with q | q
                · exact hext b q
                · rcases hv.blk b q with z | z
                  · exact hext b (hL.fl b z)
                  · exact .inr (Nat.le_trans (Nat.le_trans hchg.size cX.size) z)
              go_wp2
              go_roundw
              case rel => exact ⟨k + 1, by omega, by go_num, (((hchg.ext hext (cX.mono fun _ _ => False.elim)).ext hext (hc.mono fun b _ e => hL.fl b e))).ext hext ((Chg.refl _ _).setCell (.inr hL.fg) _), _, _, hx2, by rw [E.out, ← List.append_assoc, HLS.out]; exact hL2, by rw [E.out, ← List.append_assoc, HLS.out]; exact hN3⟩
              case measure => simp [intOf]; omega
          · obtain rfl : k = bss.length := by omega
            rw [List.take_length] at hB hBN
            go_wp2
            first | go_ret | (rw [Exit.noGoto_ret]; go_ret)
            exact ⟨_, rfl, ⟨_, _, _, hB, hBN, hok.app HY.out.1⟩, hext, hchg⟩
      · exact absurd hgood.2 hmx
end

end Go.Proofs.Ytclbbddpedcfjaa
