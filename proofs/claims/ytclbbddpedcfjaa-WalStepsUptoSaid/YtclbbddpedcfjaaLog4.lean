/-
  Walks: records that are laid into a log.
-/
import Derived.Test.YtclbbddpedcfjaaLog3
namespace Go.Proofs.Ytclbbddpedcfjaa
open Go.RowKit

theorem own_recG {G : Nat → Prop} {W : World} {base g : Nat} {t : TypeId} {u : Value} {r : Rec} (ht : t = 35) (hb : base ≤ W.heap.size) (hg : W.heap.size = g) (h : Bytes G W u r.b) :
    OwnRG G base (W.alloc (.cells #[vb r.kind, u] t)) (.slice (some ⟨g, 0, none⟩) 1 1) [r] := by
  subst ht hg
  refine ⟨[(r, u)], rfl, ⟨rfl, .inr ⟨W.heap.size, 1, _, rfl, hb, heap_alloc_new W _, Nat.le_refl _, by simp [maxLen], rfl, rfl⟩⟩, fun p hp => ?_⟩
  simp at hp
  subst hp
  have h2 : Bytes (fun b => G b ∧ b < W.heap.size) W u r.b := Row.mono h fun b h1 h2 => ⟨h2, h1⟩
  exact Row.mono (h2.alloc _) fun b _ hb => ⟨hb.1, fun e => by
    simp [ownOf, Value.ownBlock] at e
    omega⟩

set_option maxRecDepth 100000 in
set_option maxHeartbeats 400000 in
theorem w_one_long {G : Nat → Prop} {v : Value} {b : List UInt8} (w : World) (k : UInt8) (h : Bytes G w v b) (hb : 65536 < b.length) :
    Calls Try.prog 34 #[vb k, v] w fun e w' => e = .returned (.tuple #[.slice none 0 0, .int .i64 3]) ∧ w = w' := by
  obtain ⟨A, c, rfl⟩ := h.shape
  go_enter Try.func34, Try.ntmps34
  go_wp2
  go_ret2
  exact ⟨rfl, rfl⟩

/-- The row of records, told of a world behind the append. -/
structure NewRs (F : Nat → Prop) (g : Nat) (vl : Value) (L' : List Rec) (X x : World) (v : Value) : Prop where
  own : OwnRG (fun b => ¬ F b) 0 x v L'
  blk : ∀ b, v.ownBlock = some b → vl.ownBlock = some b ∨ X.heap.size ≤ b
  gl : vl.ownBlock ≠ some g
  glt : g < X.heap.size
  fg : F g
section
variable {F : Nat → Prop} {g : Nat} {vl : Value} {L' : List Rec} {X x x' : World} {v : Value} {S : Nat → Prop}
theorem NewRs.keep (h : NewRs F g vl L' X x v) (c : Chg S x x') (h1 : ∀ b, v.ownBlock = some b → ¬ S b) (h2 : ∀ b, ¬ F b → ¬ S b) : NewRs F g vl L' X x' v := ⟨h.own.keep c h1 h2, h.blk, h.gl, h.glt, h.fg⟩
theorem NewRs.ne (h : NewRs F g vl L' X x v) : v.ownBlock ≠ some g := fun e => by
  rcases h.blk g e with q | q
  · exact h.gl q
  · have := h.glt; omega
theorem NewRs.set (h : NewRs F g vl L' X x v) {i : Nat} {y : Value} : NewRs F g vl L' X (x.setCell ⟨g, i, none⟩ y) v :=
  h.keep ((Chg.refl (fun b => b = g) _).setCell (.inr rfl) _) (fun b e q => h.ne (q ▸ e)) fun b hb q => hb (q ▸ h.fg)
theorem NewRs.shape (h : NewRs F g vl L' X x v) : ∃ A n, v = .slice A L'.length n := let ⟨A, n, e, _⟩ := h.own.own.recs.shape; ⟨A, n, e⟩
end
/-- The world's states: the record is laid by itself; it is in the row; the row is the log's. -/
def WalS (F : Nat → Prop) (g : Nat) (vl : Value) (L' : List Rec) (X : World) : Nat → World → Prop
  | 0, x => Chg none' X x
  | 1, x => Chg (ownOf vl) X x
  | _, x => ∃ x1 v', Chg (ownOf vl) X x1 ∧ NewRs F g vl L' X x1 v' ∧ x = x1.setCell ⟨g, 1, none⟩ v'
theorem LogB.at1 {F : Nat → Prop} {X x : World} {g gd : Nat} {FD : Nat → Prop} {vl : Value} {lg : Lg} (h : LogB F X g gd FD vl lg) (c : Chg (ownOf vl) X x) : x.cell? ⟨g, 1, none⟩ = some vl ∧ x.frozen? ⟨g, 1, none⟩ = false := by
  have hh := (c.block g (h.flt g h.fg) h.gl).trans h.heap
  exact ⟨by rw [cell_of_row _ _ _ _ _ _ hh]; rfl, by simp [World.frozen?, hh]⟩

def recsOf (k : UInt8) (bss : List (List UInt8)) : List Rec := bss.map fun b => ⟨k, b⟩
theorem recsOf_take (k : UInt8) {bss : List (List UInt8)} {i : Nat} (h : i < bss.length) : recsOf k (bss.take (i + 1)) = recsOf k (bss.take i) ++ [⟨k, bss[i]⟩] := by
  unfold recsOf; rw [← List.take_append_getElem h, List.map_append]; rfl
theorem recsOf_ok {k : UInt8} {bss : List (List UInt8)} (h : ∀ b ∈ bss, b.length ≤ 65536) : okAll (recsOf k bss) := fun r hr => by
  obtain ⟨b, hb, rfl⟩ := List.mem_map.1 hr
  exact h b hb
/-- What records that are laid leave, and tell. -/
def wapp (lg : Lg) (k : UInt8) (bss : List (List UInt8)) : Lg := ⟨dapp lg.d (frames (recsOf k bss)), lg.l ++ recsOf k bss, lg.last⟩
open Classical in
noncomputable def wappE (lg : Lg) (k : UInt8) (bss : List (List UInt8)) : Lg × Nat :=
  if k = 0 then (lg, 2) else if (∀ b ∈ bss, b.length ≤ 65536) ∧ lg.d.L.length + lg.d.T.length + (frames (recsOf k bss)).length ≤ 4194304 then (wapp lg k bss, 0) else (lg, 3)
theorem LgOk.app {lg : Lg} (h : LgOk lg) {k : UInt8} {bss : List (List UInt8)} (hb : ∀ b ∈ bss, b.length ≤ 65536) : LgOk (wapp lg k bss) := by
  have hl := h.last
  refine ⟨fun r hr => ?_, by unfold wapp; simp only [List.length_append]; omega, by unfold wapp dapp; simp only; rw [List.take_append_of_le_length hl]; exact h.L, by unfold wapp dapp; simp only; rw [← List.append_assoc, h.all, frames_append]⟩
  rcases List.mem_append.1 hr with q | q
  · exact h.ok r q
  · exact recsOf_ok hb r q

/-- What a snapshot leaves, and tells. -/
def wsnapE (lg : Lg) (b : List UInt8) : Lg × Nat := if b.length ≤ 65536 then (wsnap lg b, 0) else (lg, 3)

section
variable {F : Nat → Prop} {w : World} {g : Nat} {lg : Lg}
set_option maxRecDepth 100000 in
set_option maxHeartbeats 2000000 in
theorem w_wsnap (h : IsLog F w g lg) {G : Nat → Prop} {v : Value} {b : List UInt8} (hb : Bytes G w v b) (hG : ∀ b, G b → ¬ F b) (hbl : b.length ≤ 140737488355328) :
    Calls Try.prog 30 #[.pointer (some ⟨g, 0, none⟩), v] w fun e w' => ∃ F', e = .returned (.int .i64 ((wsnapE lg b).2 : Nat)) ∧ IsLog F' w' g (wsnapE lg b).1 ∧ Ext F F' w ∧ Chg F w w' := by
  unfold wsnapE
  by_cases hl : b.length ≤ 65536
  · rw [if_pos hl]
    obtain ⟨gd, FD, vl, h, hok⟩ := h
    have hfl : (frame ⟨0, b⟩).length ≤ 4194304 := by rw [frame_len]; simp only; omega
    have K1 : Calls Try.prog 34 #[.int .u8 0, v] w fun e w' => ∃ u, e = .returned (.tuple #[u, .int .i64 0]) ∧ OwnB w.heap.size w' u (frame ⟨0, b⟩) ∧ Chg none' w w' := w_one (r := ⟨0, b⟩) w hb.old hl
    obtain ⟨A, c, rfl⟩ := hb.shape
    go_enter Try.func30, Try.ntmps30
    go_wp2_with fail
    refine K1.mono ?_
    rintro e w1 ⟨v1, rfl, o1, c1⟩
    clear K1
    have h1 := h.keep0 c1
    have k0 := h1.cell0
    go_wp2_with fail
    refine (w_drepl h1.disk o1.bytes hfl).mono ?_
    rintro e w2 ⟨FD', rfl, q1, q2, q3⟩
    have h2 := h1.redisk q1 q2 q3
    have hb2 := (hb.kept c1 fun _ _ => id).kept q3 fun b hb hf => hG b hb (h.fD b hf)
    go_wp2_with (at_builtin; refine wpList_appB rfl (.const (.slice none 0 0)) (.tmp 30) rfl (OwnB.nil w2.heap.size w2) hb2 rfl rfl (by simpa using hbl) (Nat.le_refl _) ?_; intro v3 w3 o3 c3 b3; rw [List.nil_append] at o3; have c3' : Chg none' w2 w3 := c3.mono fun i _ e => (by simp [ownOf, Value.ownBlock] at e); have h3 := h2.keep0 c3'; obtain ⟨A3, n3, rfl⟩ := o3.shape; have h4 := h3.keep0 (w' := w3.alloc (.cells #[.int .u8 0, .slice A3 b.length n3] 35)) ((Chg.refl _ _).alloc _); have k1 := h4.cell1; have f1 := h4.free 1; have hh := heap_setCell_at (i := 1) h4.heap (.slice (some ⟨w3.heap.size, 0, none⟩) 1 1); have k2 : ((w3.alloc (.cells #[.int .u8 0, .slice A3 b.length n3] 35)).setCell ⟨g, 1, none⟩ (.slice (some ⟨w3.heap.size, 0, none⟩) 1 1)).cell? ⟨g, 2, none⟩ = some (.int .i64 (lg.last : Int)) := (by rw [cell_of_row _ _ _ _ _ _ hh]; rfl); have f2 : ((w3.alloc (.cells #[.int .u8 0, .slice A3 b.length n3] 35)).setCell ⟨g, 1, none⟩ (.slice (some ⟨w3.heap.size, 0, none⟩) 1 1)).frozen? ⟨g, 2, none⟩ = false := (by simp [World.frozen?, hh]); clear hh)
    go_ret
    have cA : Chg none' w3 (w3.alloc (.cells #[.int .u8 0, .slice A3 b.length n3] 35)) := (Chg.refl _ _).alloc _
    have o4 := own_recG (G := fun b => ¬ (F b ∨ FD' b)) (r := ⟨0, b⟩) (t := 35) (base := 0) (g := w3.heap.size) rfl (Nat.zero_le _) rfl (Row.mono o3.bytes fun b hb e hf => by have := o3.base_ b e; have := h2.flt b hf; omega)
    have h5 := (h3.setRecs cA (fun _ => False.elim) o4 fun b e => by simp [Value.ownBlock] at e; subst e; exact .inr (Nat.le_refl _)).setLast 1
    have d3 : Chg F w w3 := ((c1.mono fun _ _ => False.elim).trans (q3.mono fun b _ => h.fD b)).trans (c3'.mono fun _ _ => False.elim)
    refine ⟨_, rfl, ⟨_, _, _, h5, LgOk.snap (lg := lg) hl⟩, fun b hb => ?_, ((d3.alloc _).setCell (.inr h.fg) _).setCell (.inr h.fg) _⟩
    rcases hb with (r | r) | r
    · exact .inl r
    · exact (q2 b r).imp (h.fD b) (Nat.le_trans c1.size)
    · simp [Value.ownBlock] at r; subst r; exact .inr d3.size
  · rw [if_neg hl]
    have K1 : Calls Try.prog 34 #[.int .u8 0, v] w fun e w' => e = .returned (.tuple #[.slice none 0 0, .int .i64 3]) ∧ w = w' := w_one_long w 0 hb (by omega)
    go_enter Try.func30, Try.ntmps30
    go_wp2_with fail
    refine K1.mono ?_
    rintro e w1 ⟨rfl, rfl⟩
    go_wp2
    go_ret
    exact ⟨F, rfl, h, Ext.refl _ _, Chg.refl _ _⟩

set_option maxRecDepth 100000 in
set_option maxHeartbeats 4000000 in
theorem w_wappend (h : IsLog F w g lg) (kd : UInt8) {G : Nat → Prop} {v : Value} {bss : List (List UInt8)} (hr : Rows G w v bss) (hG : ∀ b, G b → ¬ F b) (hbl : ∀ b ∈ bss, b.length ≤ 140737488355328) (hbn : bss.length * 24 ≤ 140737488351232) :
    Calls Try.prog 12 #[.pointer (some ⟨g, 0, none⟩), vb kd, v] w fun e w' => ∃ F', e = .returned (.int .i64 ((wappE lg kd bss).2 : Nat)) ∧ IsLog F' w' g (wappE lg kd bss).1 ∧ Ext F F' w ∧ Chg F w w' := by
  unfold wappE
  by_cases hk0 : kd = 0
  · rw [if_pos hk0]
    have z0 : ((kd.toNat : Int) == 0) = true := by rw [hk0]; rfl
    clear hk0
    go_enter Try.func12, Try.ntmps12
    go_wp2
    go_step3
    go_wp2
    first | go_ret | (rw [Exit.noGoto_ret]; go_ret)
    exact ⟨F, rfl, h, Ext.refl _ _, Chg.refl _ _⟩
  rw [if_neg hk0]
  have z0 : ((kd.toNat : Int) == 0) = false := ne_byte (b := 0) hk0
  clear hk0
  have hmax := h.max
  have hlen := len_long lg.l
  obtain ⟨gd, FD, vl, h, hok⟩ := h
  obtain ⟨A, c, rfl, _, hm⟩ := hr.shape
  unfold maxLen at hm
  go_enter Try.func12, Try.ntmps12
  go_wp2
  go_step3
  go_wp2
  go_step3
  go_wp2
  go_loopw [7, 8, 22] (fun av ev iv wr => ∃ k : Nat, k ≤ bss.length ∧ iv = .int .i64 k ∧ ev = .int .i64 0 ∧ (∀ b ∈ bss.take k, b.length ≤ 65536) ∧ OwnBs (fun b => w.heap.size ≤ b) w.heap.size wr av ((recsOf kd (bss.take k)).map frame) ∧ Chg none' w wr) (fun _ _ i _ => bss.length - (intOf i).toNat)
  case atStart => exact ⟨0, Nat.zero_le _, rfl, rfl, fun b hb => by simp at hb, OwnBs.nil _ _ _, Chg.refl _ _⟩
  case round =>
    obtain ⟨k, hk, rfl, rfl, hall, hown, hchg⟩ := hrel
    by_cases hlt : k < bss.length
    · obtain ⟨b1, o1, c1', u1, e1, _, ck1, hu1⟩ := (hr.kept hchg fun _ _ => id).at_ hlt
      simp only [Value.slice.injEq] at e1
      obtain ⟨rfl, _, rfl⟩ := e1
      obtain ⟨Au, cu, rfl⟩ := hu1.shape
      have hb1 := hbl _ (List.getElem_mem hlt)
      by_cases hs : bss[k].length ≤ 65536
      · have E := Lib.hid (recsOf_take kd hlt)
        have hall' : ∀ b ∈ bss.take (k + 1), b.length ≤ 65536 := fun b hb => by
          rw [← List.take_append_getElem hlt] at hb
          rcases List.mem_append.1 hb with q | q
          · exact hall b q
          · simp at q; subst q; exact hs
        have hll : ((recsOf kd (bss.take k)).map frame).length = k := by simp [recsOf]; omega
        have K1 := w_one (r := ⟨kd, bss[k]⟩) wr hu1.old hs
        have HA := Lib.hid hall'
        have HN := Lib.hid hll
        clear hall hall' hll
        generalize bss[k] = bk at *
        obtain ⟨fs, hfs⟩ : ∃ fs, (recsOf kd (bss.take k)).map frame = fs := ⟨_, rfl⟩
        rw [hfs] at hown HN
        have HF := Lib.hid hfs
        clear hfs
        go_wp2_with fail
        refine K1.mono ?_
        rintro e w1 ⟨v1, rfl, o1', c1⟩
        clear K1
        obtain ⟨A1, n1, rfl⟩ := o1'.shape
        have cA : Chg none' w1 (w1.alloc (.cells #[.slice A1 (frame ⟨kd, bk⟩).length n1] 23)) := (Chg.refl _ _).alloc _
        have d1 : Chg none' wr (w1.alloc (.cells #[.slice A1 (frame ⟨kd, bk⟩).length n1] 23)) := c1.trans cA
        have hown1 := hown.keep d1 (fun _ _ => id) (fun _ _ => id)
        have hfr : Bytes (fun b => wr.heap.size ≤ b) (w1.alloc (.cells #[.slice A1 (frame ⟨kd, bk⟩).length n1] 23)) (.slice A1 (frame ⟨kd, bk⟩).length n1) (frame ⟨kd, bk⟩) := Row.mono (o1'.alloc _).bytes fun b _ e => o1'.base_ b e
        go_wp2_with (at_builtin; refine wpList_appBs rfl (.tmp 34) (.tmp 36) rfl hown1 (src_one rfl rfl) hfr (fun b hb => Nat.le_trans hchg.size hb) (fun b hb e => by have := (hown.base_ b e).2; omega) rfl rfl (by rw [HN.out]; omega) (hchg.trans d1).size ?_; intro v2 w2 o2 c2 b2)
        go_roundw
        case rel => exact ⟨k + 1, by omega, by go_num, rfl, HA.out, by rw [E.out, List.map_append, HF.out]; exact o2, (hchg.trans d1).trans' c2 fun i hi e => by have := (hown.base_ i e).1; omega⟩
        case measure => simp [intOf]; omega
      · have hno : ¬ ((∀ b ∈ bss, b.length ≤ 65536) ∧ lg.d.L.length + lg.d.T.length + (frames (recsOf kd bss)).length ≤ 4194304) := fun hh => hs (hh.1 _ (List.getElem_mem hlt))
        have K1 := w_one_long wr kd hu1 (by omega)
        have HN := Lib.hid hno
        clear hno hall hs
        generalize bss[k] = bk at *
        go_wp2_with fail
        refine K1.mono ?_
        rintro e w1 ⟨rfl, rfl⟩
        go_wp2
        first | go_ret | (rw [Exit.noGoto_ret]; go_ret)
        rw [if_neg HN.out]
        exact ⟨F, rfl, ⟨_, _, _, h.keep0 hchg, hok⟩, Ext.refl _ _, hchg.mono fun _ _ => False.elim⟩
    · obtain rfl : k = bss.length := by omega
      rw [List.take_length] at hown hall
      have hlog := h.keep0 hchg
      have k0 := hlog.cell0
      have hrw := hown.rows
      have hfl : ∀ b ∈ (recsOf kd bss).map frame, b.length ≤ 140737488355328 := fun b hb => by
        obtain ⟨r, hr, rfl⟩ := List.mem_map.1 hb
        have := recsOf_ok (k := kd) hall r hr
        rw [frame_len]; omega
      have hGD : ∀ b, (w.heap.size ≤ b ∨ ownOf u7 b) → ¬ FD b := fun b hb hf => by
        have := h.disk.flt b hf
        rcases hb with hb | hb
        · omega
        · have := (hown.base_ b hb).1; omega
      have KA := w_dappE hlog.disk hrw hfl hGD
      rw [show ((recsOf kd bss).map frame).flatten = frames (recsOf kd bss) from rfl] at KA
      obtain ⟨Aa, na, rfl, _, _⟩ := hrw.shape
      rw [List.length_map] at KA
      by_cases hmx : lg.d.L.length + lg.d.T.length + (frames (recsOf kd bss)).length ≤ 4194304
      · have HY := Lib.hid (show (∀ b ∈ bss, b.length ≤ 65536) ∧ lg.d.L.length + lg.d.T.length + (frames (recsOf kd bss)).length ≤ 4194304 from ⟨hall, hmx⟩)
        rw [dappE_in hmx] at KA
        have hrl : (recsOf kd bss).length = bss.length := by simp [recsOf]
        have hll := frames_len (recsOf kd bss)
        have hln := len_long (recsOf kd bss)
        have hbn2 : bss.length ≤ 4194304 := by omega
        clear hmx hll hln hrl hfl
        go_wp2_with fail
        ((with_reducible refine KA.mono ?_))
        rintro e w2 ⟨FD2, rfl, q1, q2, q3⟩
        clear KA
        have hl2 := hlog.redisk q1 q2 q3
        have d2 : Chg F w w2 := (hchg.mono fun _ _ => False.elim).trans (q3.mono fun b _ => h.fD b)
        have x2 : Ext F (fun b => F b ∨ FD2 b) w := fun b hb => by
          rcases hb with r | r
          · exact .inl r
          · exact (q2 b r).imp (h.fD b) (Nat.le_trans hchg.size)
        clear hlog hrw hown k0 q1 q2 q3 hGD hall
        go_wp2
        go_loopw [53] (fun iv wr => ∃ k : Nat, k ≤ bss.length ∧ iv = .int .i64 k ∧ Chg F w wr ∧ ∃ Fk vk, Ext F Fk w ∧ LogB Fk wr g gd FD2 vk ⟨dapp lg.d (frames (recsOf kd bss)), lg.l ++ recsOf kd (bss.take k), lg.last⟩) (fun i _ => bss.length - (intOf i).toNat)
        case atStart => exact ⟨0, Nat.zero_le _, rfl, d2, _, _, x2, by simpa [recsOf] using hl2⟩
        case round =>
          clear hl2 d2 x2
          obtain ⟨k, hk, rfl, hchg, Fk, vk, hext, hB⟩ := hrel
          by_cases hlt : k < bss.length
          · obtain ⟨b1, o1, c1', u1, e1, _, ck1, hu1⟩ := (hr.kept hchg hG).at_ hlt
            simp only [Value.slice.injEq] at e1
            obtain ⟨rfl, _, rfl⟩ := e1
            obtain ⟨Au, cu, rfl⟩ := hu1.shape
            have hb1 := hbl _ (List.getElem_mem hlt)
            have E := Lib.hid (recsOf_take kd hlt)
            generalize bss[k] = bk at *
            obtain ⟨r, hrk⟩ : ∃ r : Rec, r = ⟨kd, bk⟩ := ⟨_, rfl⟩
            obtain ⟨rfl, rfl⟩ : kd = r.kind ∧ bk = r.b := by rw [hrk]; exact ⟨rfl, rfl⟩
            obtain ⟨ls, hls⟩ : ∃ ls, lg.l ++ recsOf r.kind (bss.take k) = ls := ⟨_, rfl⟩
            have hlsl : ls.length ≤ 10000000 := by rw [← hls]; simp [recsOf]; omega
            rw [hls] at hB
            have HLS := Lib.hid hls
            clear hls hrk
            obtain ⟨X, hX⟩ : ∃ X, X = wr.drew := ⟨_, rfl⟩
            have cX : Chg none' wr X := by rw [hX]; exact (Chg.refl _ _).drew
            have hL := hB.keep0 cX
            have cl1 := hL.cell1
            have hO := hL.recs
            have hu := hu1.kept cX fun _ _ => id
            have hrl := hb1
            have hFX : ∀ b, Fk b → b < X.heap.size := hL.flt
            have hvoX : ∀ b, X.heap.size ≤ b → ¬ ownOf vk b := fun b hb e => by have := hFX b (hL.fl b e); omega
            have hgX : ∀ b, X.heap.size ≤ b → ¬ b = g := fun b hb e => by have := hFX g hL.fg; omega
            have HX0 : WalS Fk g vk (ls ++ [r]) X 0 wr.drew := by rw [hX]; exact Chg.refl _ _
            clear hX
            go_wp2
            -- BEGIN app
            refine wp_region_ms2 [Vp.k (.pointer (some ⟨g, 0, none⟩)),
              Vp.k (.pointer (some ⟨g, 0, none⟩)),
              Vp.k (.pointer (some ⟨g, 0, none⟩)),
              Vp.k (.pointer (some ⟨g, 0, none⟩)),
              Vp.k (.pointer (some ⟨g, 1, none⟩)),
              Vp.k (vk),
              Vp.k (vb r.kind),
              Vp.k (.slice Au r.b.length cu),
              ⟨fun x v => OwnB X.heap.size x v r.b, fun _ _ _ hc h => h.keep hc fun _ => none_own⟩,
              ⟨fun x v => AggR X.heap.size x v r, fun _ _ _ hc h => h.keep hc fun _ _ => id⟩,
              ⟨fun x v => LitR X.heap.size x v r, fun _ _ _ hc h => h.keep hc fun _ _ => id⟩,
              ⟨fun x v => NewRs Fk g vk (ls ++ [r]) X x v, fun _ _ _ hc h => h.keep hc (fun _ _ => id) (fun _ _ => id)⟩,
              Vp.k (.pointer (some ⟨g, 0, none⟩)),
              Vp.k (.pointer (some ⟨g, 0, none⟩)),
              Vp.k (.pointer (some ⟨g, 1, none⟩)),
              Vp.any] [11, 15] (WalS Fk g vk (ls ++ [r]) X) (by kernel_rfl) (by kernel_rfl) (by kernel_rfl) (by kernel_rfl) HX0 ?_ ?_
            · refine ⟨?_, ?_, ?_, ?_, ?_, ?_, ?_, ?_, ?_, ?_, ?_, ?_, ?_, ?_, ?_, ?_, trivial⟩
              · intro s hlo hhi a w2 hS hd hk K hK
                have e0 : a.tmps.getD 0 undef = .pointer (some ⟨g, 0, none⟩) := (Known.init (hk 0 (of_decide_eq_true (by kernel_rfl))) (by kernel_rfl))
                refine track_run rfl ?_
                exact BigFrame.wp_move _ rfl (hK _ w2 hS (.inl (Chg.refl _ _)) e0)
              · intro s hlo hhi a w2 hS hd hk K hK
                have e0 : a.tmps.getD 0 undef = .pointer (some ⟨g, 0, none⟩) := (Known.init (hk 0 (of_decide_eq_true (by kernel_rfl))) (by kernel_rfl))
                refine track_run rfl ?_
                exact BigFrame.wp_move _ rfl (hK _ w2 hS (.inl (Chg.refl _ _)) e0)
              · intro s hlo hhi a w2 hS hd hk K hK
                have e58 : a.tmps.getD 58 undef = .pointer (some ⟨g, 0, none⟩) := (Known.of (j := 1) (hk 58 (of_decide_eq_true (by kernel_rfl))) (by kernel_rfl) (by decide))
                refine track_run rfl ?_
                clear hd
                simp only [Array.getD_eq_getD_getElem?] at e58
                go_simp
                exact hK _ w2 hS (.inl (Chg.refl _ _)) rfl
              · intro s hlo hhi a w2 hS hd hk K hK
                have e59 : a.tmps.getD 59 undef = .pointer (some ⟨g, 0, none⟩) := (Known.of (j := 2) (hk 59 (of_decide_eq_true (by kernel_rfl))) (by kernel_rfl) (by decide))
                refine track_run rfl ?_
                clear hd
                simp only [Array.getD_eq_getD_getElem?] at e59
                go_simp
                exact hK _ w2 hS (.inl (Chg.refl _ _)) rfl
              · intro s hlo hhi a w2 hS hd hk K hK
                have e60 : a.tmps.getD 60 undef = .pointer (some ⟨g, 0, none⟩) := (Known.of (j := 3) (hk 60 (of_decide_eq_true (by kernel_rfl))) (by kernel_rfl) (by decide))
                refine track_run rfl ?_
                clear hd
                simp only [Array.getD_eq_getD_getElem?] at e60
                go_simp
                exact hK _ w2 hS (.inl (Chg.refl _ _)) rfl
              · intro s hlo hhi a w2 hS hd hk K hK
                have e61 : a.tmps.getD 61 undef = .pointer (some ⟨g, 1, none⟩) := (Known.of (j := 4) (hk 61 (of_decide_eq_true (by kernel_rfl))) (by kernel_rfl) (by decide))
                refine track_run rfl ?_
                obtain rfl : s = 0 := Nat.le_zero.1 (Nat.le_trans hhi (of_decide_eq_true (by kernel_rfl)))
                replace hS : Chg none' X w2 := hS
                have cc := Chg.cell hS cl1 id
                clear hd
                simp only [Array.getD_eq_getD_getElem?] at e61
                go_simp
                exact hK _ w2 hS (.inl (Chg.refl _ _)) rfl
              · intro s hlo hhi a w2 hS hd hk K hK
                have e1 : a.tmps.getD 1 undef = vb r.kind := (Known.init (hk 1 (of_decide_eq_true (by kernel_rfl))) (by kernel_rfl))
                refine track_run rfl ?_
                exact BigFrame.wp_move _ rfl (hK _ w2 hS (.inl (Chg.refl _ _)) e1)
              · intro s hlo hhi a w2 hS hd hk K hK
                have e13 : a.tmps.getD 13 undef = .slice Au r.b.length cu := (Known.init (hk 13 (of_decide_eq_true (by kernel_rfl))) (by kernel_rfl))
                refine track_run rfl ?_
                exact BigFrame.wp_move _ rfl (hK _ w2 hS (.inl (Chg.refl _ _)) e13)
              · intro s hlo hhi a w2 hS hd hk K hK
                have e64 : a.tmps.getD 64 undef = .slice Au r.b.length cu := (Known.of (j := 7) (hk 64 (of_decide_eq_true (by kernel_rfl))) (by kernel_rfl) (by decide))
                refine track_run rfl ?_
                obtain rfl : s = 0 := Nat.le_zero.1 (Nat.le_trans hhi (of_decide_eq_true (by kernel_rfl)))
                replace hS : Chg none' X w2 := hS
                refine wp_appB (.const (.slice none 0 0)) (.tmp 64) rfl (OwnB.nil X.heap.size w2) (hu.kept hS fun _ _ => id) rfl e64 (by simpa using hrl) hS.size fun v' x o c b => ?_
                have c0 : Chg none' w2 x := c.mono fun i _ e => by simp [ownOf, Value.ownBlock] at e
                exact hK _ _ (hS.trans c0) (.inl c0) (by simpa using o)
              · intro s hlo hhi a w2 hS hd hk K hK
                have e63 : a.tmps.getD 63 undef = vb r.kind := (Known.of (j := 6) (hk 63 (of_decide_eq_true (by kernel_rfl))) (by kernel_rfl) (by decide))
                have e65 : OwnB X.heap.size w2 (a.tmps.getD 65 undef) r.b := (Known.of (j := 8) (hk 65 (of_decide_eq_true (by kernel_rfl))) (by kernel_rfl) (by decide))
                refine track_run rfl ?_
                obtain ⟨A1, n1, hv⟩ := e65.shape
                rw [hv] at e65
                rw [Array.getD_eq_getD_getElem?] at hv
                clear hd
                simp only [Array.getD_eq_getD_getElem?] at e63
                go_simp
                exact hK _ w2 hS (.inl (Chg.refl _ _)) ⟨_, _, rfl, e65⟩
              · intro s hlo hhi a w2 hS hd hk K hK
                have e66 : AggR X.heap.size w2 (a.tmps.getD 66 undef) r := (Known.of (j := 9) (hk 66 (of_decide_eq_true (by kernel_rfl))) (by kernel_rfl) (by decide))
                refine track_run rfl ?_
                obtain rfl : s = 0 := Nat.le_zero.1 (Nat.le_trans hhi (of_decide_eq_true (by kernel_rfl)))
                replace hS : Chg none' X w2 := hS
                obtain ⟨A1, n1, hv, ho⟩ := e66
                rw [Array.getD_eq_getD_getElem?] at hv
                have cA : Chg none' w2 (w2.alloc (.cells #[vb r.kind, .slice A1 r.b.length n1] 35)) := (Chg.refl _ _).alloc _
                clear hd
                go_simp
                exact hK _ _ (hS.trans cA) (.inl cA) ⟨_, _, rfl, hS.size, heap_alloc_new w2 _, Row.mono (ho.alloc _).bytes fun b _ e => ho.base_ b e⟩
              · intro s hlo hhi a w2 hS hd hk K hK
                have e62 : a.tmps.getD 62 undef = vk := (Known.of (j := 5) (hk 62 (of_decide_eq_true (by kernel_rfl))) (by kernel_rfl) (by decide))
                have e67 : LitR X.heap.size w2 (a.tmps.getD 67 undef) r := (Known.of (j := 10) (hk 67 (of_decide_eq_true (by kernel_rfl))) (by kernel_rfl) (by decide))
                refine track_run rfl ?_
                obtain rfl : s = 0 := Nat.le_zero.1 (Nat.le_trans hhi (of_decide_eq_true (by kernel_rfl)))
                replace hS : Chg none' X w2 := hS
                refine wp_appRG (.tmp 62) (.tmp 67) rfl (hO.keep hS (fun _ _ => id) (fun _ _ => id)) e67.src (fun b hb hf => by have := hFX b hf; omega) (fun b hb e => hvoX b hb e) e62 rfl (by simp only [List.length_singleton]; omega) (Nat.zero_le _) fun v' x o c b => ?_
                exact hK _ _ ((hS.mono fun _ _ => False.elim).trans c) (.inr ⟨.inr (fun u hu => hu), .inr (fun u hu => hu), .inr (fun u hu => hu), .inr (fun u hu => hu), .inr (fun u hu => hu), .inr (fun u hu => hu), .inr (fun u hu => hu), .inr (fun u hu => hu), .inr (fun u hu => OwnB.keepH hu c hvoX), .inr (fun u hu => hu.keep c hvoX), .inr (fun u hu => hu.keep c hvoX), .inl (by kernel_rfl), .inl (by kernel_rfl), .inl (by kernel_rfl), .inl (by kernel_rfl), .inl (by kernel_rfl), trivial⟩) ⟨o, fun q hq => (b q hq).imp id fun z => Nat.le_trans hS.size z, hL.gl, hL.flt g hL.fg, hL.fg⟩
              · intro s hlo hhi a w2 hS hd hk K hK
                have e57 : a.tmps.getD 57 undef = .pointer (some ⟨g, 0, none⟩) := (Known.of (j := 0) (hk 57 (of_decide_eq_true (by kernel_rfl))) (by kernel_rfl) (by decide))
                refine track_run rfl ?_
                clear hd
                simp only [Array.getD_eq_getD_getElem?] at e57
                go_simp
                exact hK _ w2 hS (.inl (Chg.refl _ _)) rfl
              · intro s hlo hhi a w2 hS hd hk K hK
                have e69 : a.tmps.getD 69 undef = .pointer (some ⟨g, 0, none⟩) := (Known.of (j := 12) (hk 69 (of_decide_eq_true (by kernel_rfl))) (by kernel_rfl) (by decide))
                refine track_run rfl ?_
                clear hd
                simp only [Array.getD_eq_getD_getElem?] at e69
                go_simp
                exact hK _ w2 hS (.inl (Chg.refl _ _)) rfl
              · intro s hlo hhi a w2 hS hd hk K hK
                have e70 : a.tmps.getD 70 undef = .pointer (some ⟨g, 0, none⟩) := (Known.of (j := 13) (hk 70 (of_decide_eq_true (by kernel_rfl))) (by kernel_rfl) (by decide))
                refine track_run rfl ?_
                clear hd
                simp only [Array.getD_eq_getD_getElem?] at e70
                go_simp
                exact hK _ w2 hS (.inl (Chg.refl _ _)) rfl
              · intro s hlo hhi a w2 hS hd hk K hK
                have e71 : a.tmps.getD 71 undef = .pointer (some ⟨g, 1, none⟩) := (Known.of (j := 14) (hk 71 (of_decide_eq_true (by kernel_rfl))) (by kernel_rfl) (by decide))
                have e68 : NewRs Fk g vk (ls ++ [r]) X w2 (a.tmps.getD 68 undef) := (Known.of (j := 11) (hk 68 (of_decide_eq_true (by kernel_rfl))) (by kernel_rfl) (by decide))
                refine track_run rfl ?_
                obtain rfl : s = 1 := Nat.le_antisymm (Nat.le_trans hhi (of_decide_eq_true (by kernel_rfl))) (Nat.le_trans (of_decide_eq_true (by kernel_rfl)) hlo)
                replace hS : Chg (ownOf vk) X w2 := hS
                obtain ⟨cc, fc⟩ := hL.at1 hS
                obtain ⟨A3, n3, hv⟩ := e68.shape
                rw [hv] at e68
                rw [Array.getD_eq_getD_getElem?] at hv
                clear hd
                simp only [Array.getD_eq_getD_getElem?] at e71
                go_simp
                exact hK undef _ ⟨w2, _, hS, e68, by simp⟩ (.inr ⟨.inr (fun u hu => hu), .inr (fun u hu => hu), .inr (fun u hu => hu), .inr (fun u hu => hu), .inr (fun u hu => hu), .inr (fun u hu => hu), .inr (fun u hu => hu), .inr (fun u hu => hu), .inr (fun u hu => hu.keepH ((Chg.refl (fun b => b = g) _).setCell (.inr rfl) _) hgX), .inr (fun u hu => hu.keep ((Chg.refl (fun b => b = g) _).setCell (.inr rfl) _) hgX), .inr (fun u hu => hu.keep ((Chg.refl (fun b => b = g) _).setCell (.inr rfl) _) hgX), .inr (fun u hu => hu.set), .inr (fun u hu => hu), .inr (fun u hu => hu), .inr (fun u hu => hu), .inl (by kernel_rfl), trivial⟩) trivial
            -- END app
            · intro f x hS hk'
              simp only [filled, List.foldl_cons, List.foldl_nil]
              simp only [Act.put, List.setIfInBounds_toArray, List.set_cons_succ, List.set_cons_zero]
              clear hk'
              obtain ⟨x1, v', hc, hv, rfl⟩ := hS
              have hL2 := hL.setRecs hc (fun _ => id) hv.own hv.blk
              have hx2 : Ext F (fun b => Fk b ∨ v'.ownBlock = some b) w := fun b hb => by
                rcases hb with q | q
                · exact hext b q
                · rcases hv.blk b q with z | z
                  · exact hext b (hL.fl b z)
                  · exact .inr (Nat.le_trans (Nat.le_trans hchg.size cX.size) z)
              go_wp2
              go_roundw
              case rel => exact ⟨k + 1, by omega, by go_num, (((hchg.ext hext (cX.mono fun _ _ => False.elim)).ext hext (hc.mono fun b _ e => hL.fl b e))).ext hext ((Chg.refl _ _).setCell (.inr hL.fg) _), _, _, hx2, by rw [E.out, ← List.append_assoc, HLS.out]; exact hL2⟩
              case measure => simp [intOf]; omega
          · obtain rfl : k = bss.length := by omega
            rw [List.take_length] at hB
            go_wp2
            first | go_ret | (rw [Exit.noGoto_ret]; go_ret)
            rw [if_pos HY.out]
            exact ⟨_, rfl, ⟨_, _, _, hB, hok.app HY.out.1⟩, hext, hchg⟩
      · have HY := Lib.hid (show ¬ ((∀ b ∈ bss, b.length ≤ 65536) ∧ lg.d.L.length + lg.d.T.length + (frames (recsOf kd bss)).length ≤ 4194304) from fun q => hmx q.2)
        rw [show dappE lg.d (frames (recsOf kd bss)) = (lg.d, 3) from if_neg hmx, show ((3 : Nat) : Int) = 3 from rfl] at KA
        clear hmx hfl
        go_wp2_with fail
        ((with_reducible refine KA.mono ?_))
        rintro e w2 ⟨FD2, rfl, q1, q2, q3⟩
        clear KA
        have hl2 := hlog.redisk q1 q2 q3
        go_wp2
        first | go_ret | (rw [Exit.noGoto_ret]; go_ret)
        rw [if_neg HY.out]
        refine ⟨_, rfl, ⟨_, _, _, hl2, hok⟩, fun b hb => ?_, (hchg.mono fun _ _ => False.elim).trans (q3.mono fun b _ => h.fD b)⟩
        rcases hb with r | r
        · exact .inl r
        · exact (q2 b r).imp (h.fD b) (Nat.le_trans hchg.size)
end

end Go.Proofs.Ytclbbddpedcfjaa
