/-
  The walk of WalParts.
-/
import Derived.Test.YtclbbddpedcfjaaLong7
import Derived.Test.YtclbbddpedcfjaaLogN
namespace Go.Proofs.Ytclbbddpedcfjaa
open Go.RowKit

theorem wapp_one (lg : Lg) (k : UInt8) {bss : List (List UInt8)} {i : Nat} (h : i < bss.length) : wapp (wapp lg k (bss.take i)) k [bss[i]] = wapp lg k (bss.take (i + 1)) := by
  unfold wapp
  rw [recsOf_take k h]
  simp [dapp, frames, recsOf]
theorem rsum_mem {l : List (List UInt8)} {b : List UInt8} (h : b ∈ l) : b.length + 10 ≤ rsum l := by
  unfold rsum
  induction l with
  | nil => simp at h
  | cons c r ih =>
    simp only [List.map_cons, List.sum_cons]
    rcases List.mem_cons.1 h with e | e
    · subst e; omega
    · have := ih e; omega
theorem rsum_len (l : List (List UInt8)) : l.length ≤ rsum l := by
  unfold rsum
  induction l with
  | nil => simp
  | cons c r ih => simp only [List.map_cons, List.sum_cons, List.length_cons]; omega

set_option maxRecDepth 1000000 in
set_option maxHeartbeats 4000000 in
theorem walk_WalParts (w : World) {u : Value} {bss : List (List UInt8)} (hb : Rows (old' w) w u bss) (hbr : bss.length * 24 ≤ 140737488351232 ∧ ∀ b ∈ bss, b.length ≤ 140737488351232) (hbb : (bss.map fun b => b.length + 1).sum + 1 ≤ 1048576) (a : Int) (ha : (Lit.int .u8 a).wf = true) :
    Calls Try.prog 3 #[u, .int .u8 a] w fun e w' => e = .returned (.bool true) ∧ Chg none' w w' := by
  obtain ⟨B, cb, rfl, _, hmb⟩ := hb.shape
  unfold maxLen at hmb
  obtain ⟨q, rfl⟩ := int_u8 ha
  clear ha
  have hfb := rsum_bulk bss
  have hq := q.toNat_lt
  go_enter Try.func3, Try.ntmps3
  go_wp2
  go_loop [5, 6] (fun nv iv => ∃ k : Nat, k ≤ bss.length ∧ iv = .int .i64 k ∧ nv = .int .i64 ((rsum (bss.take k) : Nat) : Int)) (fun _ i => bss.length - (intOf i).toNat)
  case atStart => exact ⟨0, Nat.zero_le _, rfl, by simp [rsum]⟩
  case round =>
    obtain ⟨k, hk, rfl, rfl⟩ := hrel
    by_cases hlt : k < bss.length
    · obtain ⟨b1, o1, c1', u1, e1, _, ck1, hu1⟩ := hb.at_ hlt
      simp only [Value.slice.injEq] at e1
      obtain ⟨rfl, _, rfl⟩ := e1
      obtain ⟨Au, cu, rfl⟩ := hu1.shape
      have E := Lib.hid (rsum_take hlt)
      have hle := rsum_le bss (k + 1)
      rw [E.out] at hle
      generalize rsum (bss.take k) = m at *
      generalize bss[k].length = bl at *
      go_wp2
      go_round
      case rel => exact ⟨k + 1, by omega, by go_num, by rw [E.out]; simp; omega⟩
      case measure => simp [intOf]; omega
    · obtain rfl : k = bss.length := by omega
      rw [List.take_length]
      obtain ⟨N, hN⟩ : ∃ N, rsum bss = N := ⟨_, rfl⟩
      rw [hN] at hfb ⊢
      by_cases hL : 800 < N
      · go_wp2_with fail
        go_at_call 10
        refine (w_known07 _).mono ?_
        rintro e w2 ⟨rfl, c2⟩
        go_wp2
        go_ret
        exact ⟨rfl, c2⟩
      replace hL : N ≤ 800 := by omega
      have hz : ∃ kd : UInt8, (q.toNat : Int) % 255 + 1 = (kd.toNat : Int) ∧ kd ≠ 0 := by
        refine ⟨UInt8.ofNat (q.toNat % 255 + 1), ?_, fun e => ?_⟩
        · simp; omega
        · have := congrArg UInt8.toNat e
          simp at this
          omega
      obtain ⟨kd, hkd, hk0⟩ := hz
      have hmem : ∀ b ∈ bss, b.length ≤ 800 := fun b hb => by have := rsum_mem hb; omega
      have hbl : bss.length ≤ 800 := by have := rsum_len bss; omega
      have hgood : (∀ b ∈ bss, b.length ≤ 65536) ∧ ([] : List UInt8).length + ([] : List UInt8).length + (frames (recsOf kd bss)).length ≤ 4194304 := ⟨fun b hb => by have := hmem b hb; omega, by rw [frames_len, long_recsOf]; show 0 + 0 + rsum bss ≤ _; omega⟩
      have HK := Lib.hid hkd
      clear hkd
      go_wp2_with fail
      go_at_call 11
      refine (w_wnew _).mono ?_
      rintro e w1 ⟨ga, F1, rfl, hA1, x1, c1⟩
      rw [HK.out]
      go_wp2_with fail
      go_at_call 11
      refine (w_wnew _).mono ?_
      rintro e w2 ⟨gb, F2, rfl, hB2, x2, c2⟩
      have hA2 := hA1.keep0 c2
      have d2 := c1.trans c2
      have dis : ∀ b, F1 b → ¬ F2 b := fun b h1 h2 => by rcases x2 b h2 with z | z; exact z; have := hA1.flt b h1; omega
      have K := show Calls Try.prog 12 #[.pointer (some ⟨ga, 0, none⟩), .int .u8 (kd.toNat : Int), .slice B bss.length cb] w2 _ from w_wappendN (hA2.nilN rfl w2.heap.size) (Nat.le_refl _) kd hk0 (hb.kept d2 fun _ _ => id) (fun b hb hf => by rcases x1 b hf with z | z; exact z; unfold old' at hb; omega) hbr.1 hgood
      go_wp2_with fail
      go_at_call 12
      ((with_reducible refine K.mono ?_))
      rintro e w3 ⟨F3, rfl, hA3, x3, c3⟩
      clear K
      have d3 := d2.ext x1 c3
      have y2 : Ext none' F2 w := fun b hb => (x2 b hb).imp id (Nat.le_trans c1.size)
      have y3 : Ext none' F3 w := x1.trans x3 d2.size
      have hB3 := (((hB2.nilN rfl w2.heap.size).keep c3 (fun b h2 h1 => dis b h1 h2) fun b h1 => hA2.flt b h1).log).nilN rfl w3.heap.size
      have hF2 : ∀ b, F2 b → b < w2.heap.size := hB2.flt
      have hF3 : ∀ b, F3 b → b < w3.heap.size := hA3.log.flt
      have dis3 : ∀ b, F3 b → ¬ F2 b := fun b h3 h2 => by rcases x3 b h3 with z | z; exact dis b z h2; have := hF2 b h2; omega
      clear hA1 hA2 hB2 hgood
      have HG := Lib.hid (show rsum bss ≤ 800 by omega)
      clear hN hfb
      go_wp2
      go_loopw [11] (fun iv wr => ∃ k : Nat, k ≤ bss.length ∧ iv = .int .i64 k ∧ Chg F2 w3 wr ∧ ∃ Gk, Ext F2 Gk w3 ∧ IsLogN w3.heap.size Gk wr gb (wapp ⟨⟨[], [], 0⟩, [], 0⟩ kd (bss.take k))) (fun i _ => bss.length - (intOf i).toNat)
      case atStart => exact ⟨0, Nat.zero_le _, rfl, Chg.refl _ _, F2, Ext.refl _ _, by simpa [wapp, dapp, recsOf, frames] using hB3⟩
      case round =>
        clear hB3
        obtain ⟨k, hk, rfl, hchg, Gk, hext, hBk⟩ := hrel
        have dr := d3.ext y2 hchg
        have hGk : ∀ b, Gk b → w.heap.size ≤ b := fun b hg => by
          rcases hext b hg with z | z
          · rcases y2 b z with r | r
            · exact r.elim
            · exact r
          · have := d3.size; omega
        by_cases hlt : k < bss.length
        · obtain ⟨b1, o1, c1', u1, e1, _, ck1, hu1⟩ := (hb.kept dr fun _ _ => id).at_ hlt
          simp only [Value.slice.injEq] at e1
          obtain ⟨rfl, _, rfl⟩ := e1
          obtain ⟨Au, cu, rfl⟩ := hu1.shape
          have cA : Chg none' wr (wr.alloc (.cells #[.slice Au bss[k].length cu] 23)) := (Chg.refl _ _).alloc _
          have r1 := rows_lit1G (t := 23) (G := fun b => old' w b ∨ wr.heap.size ≤ b) (Row.mono hu1 fun _ _ => .inl) (.inr (Nat.le_refl _)) rfl
          have hm1 := hmem _ (List.getElem_mem hlt)
          have K := show Calls Try.prog 12 #[.pointer (some ⟨gb, 0, none⟩), .int .u8 (kd.toNat : Int), .slice (some ⟨wr.heap.size, 0, none⟩) 1 1] (wr.alloc (.cells #[.slice Au bss[k].length cu] 23)) _ from w_wappendN (hBk.keep0 cA) (Nat.le_trans hchg.size cA.size) kd hk0 r1 (fun b hb hf => by
            rcases hb with z | z
            · have := hGk b hf; unfold old' at z; omega
            · have := hBk.log.flt b hf; omega) (by simp) ⟨fun b hb => by simp at hb; subst hb; omega, by
              have e1 := rsum_take hlt
              have e2 := rsum_le bss (k + 1)
              have e3 := HG.out
              simp only [wapp, dapp, List.nil_append, List.length_nil, frames_len, long_recsOf]
              change 0 + rsum (bss.take k) + rsum [bss[k]] ≤ _
              have e4 : rsum [bss[k]] = bss[k].length + 10 := by simp [rsum]
              omega⟩
          rw [wapp_one _ kd hlt] at K
          clear r1 hm1
          obtain ⟨lh, hlh⟩ : ∃ lh, wapp ⟨⟨[], [], 0⟩, [], 0⟩ kd (bss.take (k + 1)) = lh := ⟨_, rfl⟩
          rw [hlh] at K
          have HL := Lib.hid hlh
          clear hlh
          generalize bss[k] = bk at *
          have hlk : (k : Int) < bss.length := by omega
          go_wp2_with fail
          go_at_call 12
          ((with_reducible refine K.mono ?_))
          rintro e w4 ⟨F4, rfl, hB4, x4, c4⟩
          clear K
          go_wp2
          go_roundw
          case rel => exact ⟨k + 1, by omega, by go_num, hchg.ext hext ((cA.mono fun _ _ => False.elim).trans c4), F4, hext.trans x4 (Nat.le_trans hchg.size cA.size), by rw [HL.out]; exact hB4⟩
          case measure => simp [intOf]; omega
        · obtain rfl : k = bss.length := by omega
          rw [List.take_length] at hBk
          have hA4 := hA3.keep hchg dis3 hF2
          obtain ⟨lg, hlg⟩ : ∃ lg, wapp ⟨⟨[], [], 0⟩, [], 0⟩ kd bss = lg := ⟨_, rfl⟩
          have g1 : lg.l = recsOf kd bss := by rw [← hlg]; simp [wapp]
          have g2 : lg.last = 0 := by rw [← hlg]; rfl
          have g3 : lg.d.n = 0 := by rw [← hlg]; rfl
          rw [hlg] at hBk hA4
          clear hA3 hlg
          obtain ⟨ls, hls⟩ : ∃ ls, wsync lg = ls := ⟨_, rfl⟩
          have s1 : ls.l = recsOf kd bss := by rw [← hls, ← g1]; rfl
          have s2 : ls.last = bss.length := by rw [← hls]; show lg.l.length = _; rw [g1]; simp [recsOf]
          have KS := w_wsync hA4.log (by omega)
          rw [hls] at KS
          clear hls
          have hLl : (recsOf kd bss).length = bss.length := by simp [recsOf]
          generalize recsOf kd bss = L at *
          have KRa := fun W F (x : IsLog F W ga ls) => w_wrecords x
          have KRb := fun W F (x : IsLog F W gb lg) => w_wrecords x
          have KLa := fun W F (x : IsLog F W ga ls) => w_wlasting x
          have KPa := fun W F (x : IsLog F W ga ls) => w_wpending x
          have KPb := fun W F (x : IsLog F W gb lg) => w_wpending x
          rw [s1] at KRa
          rw [g1] at KRb
          rw [s2] at KLa
          rw [s1, s2, hLl] at KPa
          rw [g1, g2, hLl] at KPb
          simp only [Int.sub_self] at KPa
          rw [show (bss.length : Int) - ((0 : Nat) : Int) = bss.length by omega] at KPb
          clear g1 g2 g3 s1 s2
          have dis4 : ∀ b, Gk b → ¬ F3 b := fun b hg h3 => by rcases hext b hg with z | z; exact dis3 b h3 z; have := hF3 b h3; omega
          go_wp2_with fail
          go_at_call 13
          refine KS.mono ?_
          rintro e w5 ⟨F5, rfl, hA5, x5, c5⟩
          clear KS
          have hB5 := hBk.keep c5 dis4 hF3
          have d5 := dr.ext y3 c5
          clear hBk hA4
          go_wp2_with fail
          go_at_call 14
          refine (KRa _ _ hA5).mono ?_
          rintro e w6 ⟨vr, rfl, or_, c6⟩
          have hA6 := hA5.keep0 c6
          have hB6 := hB5.keep0 c6
          go_wp2_with fail
          go_at_call 14
          refine (KRb _ _ hB6.log).mono ?_
          rintro e w7 ⟨vb', rfl, ob, c7⟩
          have hA7 := hA6.keep0 c7
          have hB7 := hB6.keep0 c7
          have or7 := or_.keep c7 (fun _ _ => id) (fun _ _ => id)
          have KS := w_rsame _ or7.own.recs ob.own.recs
          rw [decide_eq_true rfl] at KS
          go_wp2_with fail
          go_at_call 15
          refine KS.mono ?_
          rintro e w8 ⟨rfl, c8⟩
          clear KS
          have hA8 := hA7.keep0 c8
          have hB8 := hB7.keep0 c8
          have or8 := or7.keep c8 (fun _ _ => id) (fun _ _ => id)
          go_wp2_with fail
          go_at_call 16
          refine (KLa _ _ hA8).mono ?_
          rintro e w9 ⟨rfl, rfl⟩
          go_wp2_with fail
          go_at_call 17
          refine (KPa _ _ hA8).mono ?_
          rintro e w9 ⟨rfl, c9⟩
          have hA9 := hA8.keep0 c9
          have hB9 := hB8.keep0 c9
          have or9 := or8.keep c9 (fun _ _ => id) (fun _ _ => id)
          go_wp2_with fail
          go_at_call 17
          refine (KPb _ _ hB9.log).mono ?_
          rintro e w10 ⟨rfl, c10⟩
          have or10 := or9.keep c10 (fun _ _ => id) (fun _ _ => id)
          have d10 := (((c6.trans c7).trans c8).trans c9).trans c10
          have hbase := or10.base_
          obtain ⟨Ar, nr, rfl, hnr, hmr⟩ := or10.own.recs.shape
          have hst : (∃ gr cur, Ar = some ⟨gr, 0, none⟩ ∧ w10.heap[gr]? = some (.cells cur 35 (0, 0)) ∧ L.length * 2 ≤ cur.size) ∨ L.length = 0 := by
            obtain ⟨ps, e, q1, _⟩ := or10
            rcases q1.2 with ⟨ev, en⟩ | ⟨gr, cap, cur, ev, _, eh, hle, _, hsz, _⟩
            · simp only [Value.slice.injEq] at ev
              exact .inr ev.2.1
            · simp only [Value.slice.injEq] at ev
              exact .inl ⟨gr, cur, ev.1, eh, by rw [ev.2.1]; omega⟩
          clear or_ or7 or8 or9 or10 hA6 hA7 hA8 hA9 hB6 hB7 hB8 hB9 ob c6 c7 c8 c9 c10 KLa KPa KPb
          go_wp2
          go_loopw [14] (fun iv wr => ∃ k : Nat, k ≤ L.length ∧ iv = .int .i64 k ∧ Chg (ownOf (.slice Ar L.length nr)) w10 wr ∧ ((∃ gr cur, Ar = some ⟨gr, 0, none⟩ ∧ wr.heap[gr]? = some (.cells cur 35 (0, 0)) ∧ L.length * 2 ≤ cur.size) ∨ L.length = 0)) (fun i _ => L.length - (intOf i).toNat)
          case atStart => exact ⟨0, Nat.zero_le _, rfl, Chg.refl _ _, hst⟩
          case round =>
            clear hst
            obtain ⟨k, hk, rfl, hchg2, hst⟩ := hrel
            by_cases hlt : k < L.length
            · obtain ⟨gr, cur, rfl, hh, hsz⟩ : ∃ gr cur, Ar = some ⟨gr, 0, none⟩ ∧ wr.heap[gr]? = some (.cells cur 35 (0, 0)) ∧ L.length * 2 ≤ cur.size := by
                rcases hst with z | z
                · exact z
                · omega
              have hlk : (k : Int) < L.length := by omega
              obtain ⟨y, ck⟩ : ∃ y, wr.cell? ⟨gr, k * 2, none⟩ = some y := ⟨_, by rw [cell_of_row _ _ _ _ _ _ hh]; exact Array.getElem?_eq_getElem (by omega)⟩
              have fk : wr.frozen? ⟨gr, k * 2, none⟩ = false := by simp [World.frozen?, hh]
              have hh2 := heap_setCell_at (i := k * 2) hh (.int .u8 0)
              have HH := Lib.hid (show (wr.setCell ⟨gr, k * 2, none⟩ (.int .u8 0)).heap[gr]? = some (.cells (cur.setIfInBounds (k * 2) (.int .u8 0)) 35 (0, 0)) ∧ L.length * 2 ≤ (cur.setIfInBounds (k * 2) (.int .u8 0)).size from ⟨hh2, by simpa using hsz⟩)
              clear hh2 hh hsz hst
              go_wp2
              go_roundw
              case rel => exact ⟨k + 1, by omega, by go_num, hchg2.setCell (p := ⟨gr, k * 2, none⟩) (.inr rfl) _, .inl ⟨gr, _, rfl, HH.out.1, HH.out.2⟩⟩
              case measure => simp [intOf]; omega
            · obtain rfl : k = L.length := by omega
              have dd := d10.trans' hchg2 fun i hi e => by have := (hbase i e).1; omega
              have hA11 := hA5.keep0 dd
              have hB11 := hB5.keep0 dd
              clear hst hchg2
              go_wp2_with fail
              go_at_call 14
              refine (KRa _ _ hA11).mono ?_
              rintro e w12 ⟨va, rfl, oa, c12⟩
              go_wp2_with fail
              go_at_call 14
              refine (KRb _ _ (hB11.keep0 c12).log).mono ?_
              rintro e w13 ⟨vc, rfl, oc, c13⟩
              have KS := w_rsame _ (oa.keep c13 (fun _ _ => id) (fun _ _ => id)).own.recs oc.own.recs
              rw [decide_eq_true rfl] at KS
              go_wp2_with fail
              go_at_call 15
              refine KS.mono ?_
              rintro e w14 ⟨rfl, c14⟩
              clear KS
              go_wp2_with fail
              go_at_call 10
              refine (w_known07 _).mono ?_
              rintro e w15 ⟨rfl, c15⟩
              go_wp2
              go_ret
              exact ⟨rfl, ((((d5.trans dd).trans c12).trans c13).trans c14).trans c15⟩

end Go.Proofs.Ytclbbddpedcfjaa
