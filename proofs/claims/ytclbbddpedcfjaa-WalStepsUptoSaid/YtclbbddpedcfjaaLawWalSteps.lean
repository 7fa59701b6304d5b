/-
  The walk of WalSteps. (Printed by gen_steps7.py.)
-/
import Derived.Test.YtclbbddpedcfjaaSame7
import Derived.Test.YtclbbddpedcfjaaLong7
import Derived.Deep.RegionHeld3
namespace Go.Proofs.Ytclbbddpedcfjaa
open Go.RowKit

theorem len_lng {x : Do7} {b : List UInt8} (h : b ∈ x.r) : b.length + 10 ≤ lng7 x := by
  unfold lng7
  have : b.length + 10 ≤ (x.r.map fun b => b.length + 10).sum := by
    generalize x.r = l at h
    induction l with
    | nil => simp at h
    | cons c r ih =>
      simp only [List.map_cons, List.sum_cons]
      rcases List.mem_cons.1 h with e | e
      · subst e; omega
      · have := ih e; omega
  omega
theorem lng_le {xs : List Do7} {x : Do7} (h : x ∈ xs) : lng7 x ≤ long7 xs := by
  unfold long7
  induction xs with
  | nil => simp at h
  | cons c r ih =>
    simp only [List.map_cons, List.sum_cons]
    rcases List.mem_cons.1 h with e | e
    · subst e; omega
    · have := ih e; omega

/-- The answer's step. -/
theorem w_rstep7 {G : Nat → Prop} {w : World} {v u : Value} {lg : Lg} (x : Do7) (h : TOf G w v lg) (hu : Rows G w u x.r) (hd : lg.d.L.length + lg.d.T.length ≤ 4000000) (hn : lg.d.n ≤ 1000000000000000) (hll : lg.l.length ≤ 4194304) (hx : lng7 x ≤ 1000) :
    Calls Try.prog 32 #[v, .agg #[.int .i64 x.kind, vb x.of, u, .int .i64 x.kept]] w fun e w' => ∃ y, e = .returned (.tuple #[y, .int .i64 ((wdo lg x).2 : Nat)]) ∧ TOf (fun b => G b ∨ w.heap.size ≤ b) w' y (wdo lg x).1 ∧ Chg none' w w' := by
  have hb : ∀ b ∈ x.r, b.length ≤ 65536 := fun b hb => by have := len_lng hb; omega
  have hd' : lg.d.L.length + lg.d.T.length ≤ 4194304 := by omega
  have hf : (frames (recsOf x.of x.r)).length ≤ 1000 := by
    rw [frames_len, long_recsOf]
    unfold lng7 at hx
    omega
  unfold wdo
  by_cases k1 : x.kind = 1
  · rw [if_pos k1]
    by_cases hk : x.of = 0
    · unfold wappE
      rw [if_pos hk]
      exact w_rstep7_app0 x h hu hd' hn hll k1 hk
    · rw [wappE_ok hk hb (by omega)]
      exact w_rstep7_app x h hu hd' hn hll k1 hk ⟨hb, by omega⟩
  rw [if_neg k1]
  by_cases k2 : x.kind = 2
  · rw [if_pos k2]
    exact w_rstep7_sync x h hu hd' hn hll k2
  rw [if_neg k2]
  by_cases k3 : x.kind = 3
  · rw [if_pos k3]
    have hh : (x.r.headD []).length ≤ 65536 := by
      rw [List.headD_eq_head?_getD]
      cases hr : x.r with
      | nil => simp
      | cons b r => exact hb b (by rw [hr]; exact List.mem_cons_self ..)
    rw [show wsnapE lg (x.r.headD []) = (wsnap lg (x.r.headD []), 0) from if_pos hh]
    exact w_rstep7_snap x h hu hd' hn hll k3 hb
  rw [if_neg k3]
  by_cases k4 : x.kept < 0
  · rw [if_pos k4]
    exact w_rstep7_crash_no x h hu hd' hn hll k1 k2 k3 k4
  · rw [if_neg k4]
    exact w_rstep7_crash x h hu hd' hn hll k1 k2 k3 x.kept.toNat (by omega)

theorem bytes_not {F : Nat → Prop} {w : World} {u : Value} {bs : List UInt8} {gt : Nat} {cs : Array Value} {t : TypeId} {fr : Nat × Nat} (h : Bytes F w u bs) (hh : w.heap[gt]? = some (.cells cs t fr)) (hcs : ∀ v ∈ cs.toList, ∀ x : UInt8, v ≠ vb x) : Bytes (fun b => F b ∧ b ≠ gt) w u bs := by
  obtain ⟨A, c, rfl, h1, h2, h3, h4⟩ := h
  refine ⟨A, c, rfl, h1, h2, h3, fun i x hi => ?_⟩
  obtain ⟨b, o, cs', hA, hf, hb, hl, hx, r⟩ := h4 i x hi
  refine ⟨b, o, cs', hA, ⟨hf, fun e => ?_⟩, hb, hl, hx, r⟩
  subst e
  have hq := r 0 (vb x) (by rw [show cs' = [vb x] from hx]; rfl)
  rw [cell_of_row _ _ _ _ _ _ hh] at hq
  exact hcs _ (by rw [← Array.getElem?_toList] at hq; exact List.mem_of_getElem? hq) x rfl
/-- A store into a block of another kind leaves a log as it was. -/
theorem IsLog.keepT {F : Nat → Prop} {w w' : World} {g : Nat} {lg : Lg} {gt : Nat} {cs : Array Value} {t : TypeId} {fr : Nat × Nat} (h : IsLog F w g lg) (c : Chg (fun b => b = gt) w w') (hF : ¬ F gt) (hh : w.heap[gt]? = some (.cells cs t fr)) (hcs : ∀ v ∈ cs.toList, ∀ x : UInt8, v ≠ vb x) : IsLog F w' g lg := by
  obtain ⟨gd, FD, vl, h, hok⟩ := h
  have hS : ∀ b, F b → ¬ b = gt := fun b hb e => hF (e ▸ hb)
  have hr : OwnRG (fun b => ¬ F b) 0 w' vl lg.l := by
    obtain ⟨ps, e, q1, q2⟩ := h.recs
    have h1 : OwnRG (fun b => ¬ F b ∧ b ≠ gt) 0 w vl lg.l := ⟨ps, e, q1, fun p hp => Row.mono (bytes_not (q2 p hp) hh hcs) fun b _ hb => ⟨⟨hb.1.1, hb.2⟩, hb.1.2⟩⟩
    exact (h1.keep c (fun b hb => hS b (h.fl b hb)) fun b hb => hb.2).mono fun _ _ hb => hb.1
  exact ⟨gd, FD, vl, ⟨(c.block g (h.flt g h.fg) (hS g h.fg)).trans h.heap, h.disk.keep c fun b hb => hS b (h.fD b hb), hr, h.gD, h.gl, h.lD, h.fg, h.fD, h.fl, fun b hb => Nat.lt_of_lt_of_le (h.flt b hb) c.size⟩, hok⟩
theorem no_u8 {a b c : Value} {i j : Int} (ha : ∃ A n m, a = .slice A n m) (hb : ∃ A n m, b = .slice A n m) (hc : ∃ A n m, c = .slice A n m) : ∀ v ∈ (#[a, b, .int .i64 i, c, .int .i64 j] : Array Value).toList, ∀ x : UInt8, v ≠ vb x := by
  obtain ⟨_, _, _, rfl⟩ := ha
  obtain ⟨_, _, _, rfl⟩ := hb
  obtain ⟨_, _, _, rfl⟩ := hc
  intro v hv x
  simp at hv
  rcases hv with rfl | rfl | rfl | rfl | rfl <;> simp [vb]

/-- What the loop bears along: the log, and, in five cells, what it is to be. -/
def BothTo7 (w wr : World) (pv : Value) (gt : Nat) (lg : Lg) : Prop :=
  ∃ g, pv = .pointer (some ⟨g, 0, none⟩) ∧ Chg none' w wr ∧ w.heap.size ≤ gt ∧ ∃ F, Ext none' F w ∧ IsLog F wr g lg ∧ ¬ F gt ∧ ∃ vL vT vl, wr.heap[gt]? = some (.cells #[vL, vT, .int .i64 (lg.d.n : Int), vl, .int .i64 (lg.last : Int)] 60 (0, 0)) ∧ TOf (fun b => ¬ F b ∧ b ≠ gt) wr (.agg #[vL, vT, .int .i64 (lg.d.n : Int), vl, .int .i64 (lg.last : Int)]) lg

set_option maxRecDepth 1000000 in
set_option maxHeartbeats 4000000 in
theorem walk_WalSteps (w : World) {v : Value} {xs : List Do7} (h : Do7s (old' w) w v xs) (hr : xs.length * 48 ≤ 140737488351232 ∧ ∀ x ∈ xs, In7 x) (hbk : (xs.map wt7).sum + 1 ≤ 1048576) :
    Calls Try.prog 9 #[v] w fun e w' => e = .returned (.bool true) ∧ Chg none' w w' := by
  obtain ⟨A, c, rfl, _, hm⟩ := h.shape
  unfold maxLen at hm
  go_enter Try.func9, Try.ntmps9
  go_wp2_with fail
  refine (w_long07x _ h hbk).mono ?_
  rintro e w1 ⟨rfl, rfl⟩
  obtain ⟨L, hLe⟩ : ∃ L, long7 xs = L := ⟨_, rfl⟩
  rw [hLe]
  by_cases hL : (1000 : Int) < L
  · go_wp2_with fail
    refine (w_known07 _).mono ?_
    rintro e w2 ⟨rfl, c2⟩
    go_wp2
    go_ret
    exact ⟨rfl, c2⟩
  have zL : decide ((1000 : Int) < L) = false := decide_eq_false hL
  have HL := Lib.hid (show long7 xs ≤ 1000 by omega)
  clear hL hLe hbk
  go_wp2_with fail
  refine (w_wnew _).mono ?_
  rintro e w1 ⟨g, F, rfl, hd, xd, c1⟩
  go_wp2
  have cA : Chg none' w1 (w1.alloc (.cells #[.slice none 0 0, .slice none 0 0, .int .i64 0, .slice none 0 0, .int .i64 0] 60)) := (Chg.refl _ _).alloc _
  go_loopw [3, 5] (fun pv iv wr => ∃ k : Nat, k ≤ xs.length ∧ iv = .int .i64 k ∧ BothTo7 w wr pv w1.heap.size (wdos ⟨⟨[], [], 0⟩, [], 0⟩ (xs.take k)) ∧ long (wdos ⟨⟨[], [], 0⟩, [], 0⟩ (xs.take k)).l ≤ 10 + long7 (xs.take k)) (fun _ i _ => xs.length - (intOf i).toNat)
  case atStart =>
    have hgF : ¬ F w1.heap.size := fun hf => by have := hd.flt _ hf; omega
    exact ⟨0, Nat.zero_le _, rfl, ⟨g, rfl, c1.trans cA, c1.size, F, xd, hd.keep0 cA, hgF, _, _, _, heap_alloc_new w1 _, ⟨_, _, _, rfl, Row.nil, Row.nil, Row.nil⟩⟩, by simp [wdos, long]⟩
  case round =>
    obtain ⟨k, hk, rfl, ⟨gl, rfl, hchg, hgt, Fk, hext, hD, hFgt, vL, vT, vl, hh, hT⟩, hlg⟩ := hrel
    clear hd
    generalize w1.heap.size = gt at *
    by_cases hlt : k < xs.length
    · obtain ⟨b1, o1, c1', u1, e1, hF1, ck0, ck1, ck2, ck3, hu1⟩ := (h.kept hchg fun _ _ => id).at_ hlt
      simp only [Value.slice.injEq] at e1
      obtain ⟨rfl, _, rfl⟩ := e1
      have hin := hr.2 _ (List.getElem_mem hlt)
      have hlx := Nat.le_trans (lng_le (List.getElem_mem hlt)) HL.out
      have hlk7 : long7 (xs.take k) ≤ 1000 := Nat.le_trans (long7_le xs k) HL.out
      have E := Lib.hid (wdos_take (d := ⟨⟨[], [], 0⟩, [], 0⟩) hlt)
      have E2 := Lib.hid (long7_take hlt)
      have HL2 := Lib.hid (wdo_long _ hD.ok xs[k] _ hlg)
      have hn := wdos_n ⟨⟨[], [], 0⟩, [], 0⟩ (xs.take k)
      rw [List.length_take] at hn
      simp only at hn
      have hG : ∀ b, old' w b → ¬ Fk b := fun b hb hf => by rcases hext b hf with q | q; exact q; unfold old' at hb; omega
      have hn' : (wdos ⟨⟨[], [], 0⟩, [], 0⟩ (xs.take k)).d.n ≤ 1000000000000000 := by omega
      generalize wdos ⟨⟨[], [], 0⟩, [], 0⟩ (xs.take k) = lg at *
      generalize long7 (xs.take k) = M at *
      have hlgl := len_long lg.l
      have hHD : lg.d.L.length + lg.d.T.length ≤ 4000000 ∧ lg.d.n ≤ 1000000000000000 ∧ lg.l.length ≤ 4194304 ∧ lng7 xs[k] ≤ 1000 := ⟨by rw [← List.length_append, hD.ok.all, frames_len]; omega, hn', by omega, hlx⟩
      obtain ⟨Au, cu, rfl, _, _⟩ := hu1.shape
      generalize xs[k] = x at *
      have HHD := Lib.hid hHD
      have hlk : (k : Int) < xs.length := by omega
      obtain ⟨vL, vT, vl, e, HbL, HbT, Hrl⟩ := hT
      simp only [Value.agg.injEq, Array.mk.injEq, List.cons.injEq, and_true, true_and] at e
      obtain ⟨rfl, rfl, rfl⟩ := e
      obtain ⟨AL, nL, rfl⟩ := HbL.shape
      obtain ⟨AT, nT, rfl⟩ := HbT.shape
      obtain ⟨Al, nl, rfl, _, _⟩ := Hrl.shape
      have hT : TOf (fun b => ¬ Fk b ∧ b ≠ gt) wr (.agg #[.slice AL lg.d.L.length nL, .slice AT lg.d.T.length nT, .int .i64 (lg.d.n : Int), .slice Al lg.l.length nl, .int .i64 (lg.last : Int)]) lg := ⟨_, _, _, rfl, HbL, HbT, Hrl⟩
      have K := w_wdo x hD hn' hu1 hG hin
      obtain ⟨D2, n2, hdd⟩ : ∃ D2 n2, wdo lg x = (D2, n2) := ⟨_, _, rfl⟩
      rw [hdd] at K
      have E3 := Lib.hid (show wdos ⟨⟨[], [], 0⟩, [], 0⟩ (xs.take (k + 1)) = D2 by rw [E.out, hdd])
      replace HL2 := Lib.hid (show long D2.l ≤ 10 + (M + lng7 x) by have := HL2.out; rw [hdd] at this; exact this)
      have HDD := Lib.hid hdd
      simp only at K
      clear hdd hHD hlgl hlx hlk7 hlg hn HbL HbT Hrl
      go_wp2_with fail
      ((with_reducible refine K.mono ?_))
      rintro e w2 ⟨g2, F2, rfl, hD2, x2, c2⟩
      clear K
      have d2 := hchg.ext hext c2
      have xe2 := hext.trans x2 hchg.size
      replace ck0 := c2.cell ck0 (hG _ hF1)
      replace ck1 := c2.cell ck1 (hG _ hF1)
      replace ck2 := c2.cell ck2 (hG _ hF1)
      replace ck3 := c2.cell ck3 (hG _ hF1)
      have hu2 : Rows (fun b => (¬ Fk b ∧ b ≠ gt) ∧ b < wr.heap.size) w2 (.slice Au x.r.length cu) x.r := Rows.mono (hu1.kept c2 hG) fun b _ hb => ⟨⟨hG b hb, fun e => by unfold old' at hb; omega⟩, by have := hchg.size; unfold old' at hb; omega⟩
      have hh2 := heap_kept c2 hh hFgt
      have hT2 := TOf.keep (TOf.mono (H := fun b => (¬ Fk b ∧ b ≠ gt) ∧ b < wr.heap.size) hT fun b h1 h2 => ⟨h2, h1⟩) c2 (fun b hb => hb.1.1)
      have hgtr := heap_lt hh
      have zn : ((n2 : Int) == (n2 : Int)) = true := beq_self_eq_true _
      have zn' : ((n2 : Int) != (n2 : Int)) = false := by rw [bne, zn]; rfl
      obtain ⟨a0, a1, a2, a3, a4⟩ := cells5 hh2
      go_upto_region 10 with (fail)
      have hgt2 := heap_lt hh2
      have hb2 : b1 < w2.heap.size := World.block_lt_of_cell? w2 _ ck0
      have HS3' : ∀ W : World, (W.cell? ⟨gt, 0, none⟩ = some (.slice AL lg.d.L.length nL) ∧ W.cell? ⟨gt, 1, none⟩ = some (.slice AT lg.d.T.length nT) ∧ W.cell? ⟨gt, 2, none⟩ = some (.int .i64 (lg.d.n : Int)) ∧ W.cell? ⟨gt, 3, none⟩ = some (.slice Al lg.l.length nl) ∧ W.cell? ⟨gt, 4, none⟩ = some (.int .i64 (lg.last : Int)) ∧ W.cell? ⟨b1, o1 + k * 4, none⟩ = some (.int .i64 x.kind) ∧ W.cell? ⟨b1, o1 + k * 4 + 1, none⟩ = some (vb x.of) ∧ W.cell? ⟨b1, o1 + k * 4 + 2, none⟩ = some (.slice Au x.r.length cu) ∧ W.cell? ⟨b1, o1 + k * 4 + 3, none⟩ = some (.int .i64 x.kept) ∧ Chg none' w2 W) → ∀ W' : World, Chg (fun b => w2.heap.size ≤ b) W W' → (W'.cell? ⟨gt, 0, none⟩ = some (.slice AL lg.d.L.length nL) ∧ W'.cell? ⟨gt, 1, none⟩ = some (.slice AT lg.d.T.length nT) ∧ W'.cell? ⟨gt, 2, none⟩ = some (.int .i64 (lg.d.n : Int)) ∧ W'.cell? ⟨gt, 3, none⟩ = some (.slice Al lg.l.length nl) ∧ W'.cell? ⟨gt, 4, none⟩ = some (.int .i64 (lg.last : Int)) ∧ W'.cell? ⟨b1, o1 + k * 4, none⟩ = some (.int .i64 x.kind) ∧ W'.cell? ⟨b1, o1 + k * 4 + 1, none⟩ = some (vb x.of) ∧ W'.cell? ⟨b1, o1 + k * 4 + 2, none⟩ = some (.slice Au x.r.length cu) ∧ W'.cell? ⟨b1, o1 + k * 4 + 3, none⟩ = some (.int .i64 x.kept) ∧ Chg none' w2 W') := fun W c W' k =>
        ⟨k.cell c.1 (by simp; omega), k.cell c.2.1 (by simp; omega), k.cell c.2.2.1 (by simp; omega), k.cell c.2.2.2.1 (by simp; omega), k.cell c.2.2.2.2.1 (by simp; omega), k.cell c.2.2.2.2.2.1 (by simp; omega), k.cell c.2.2.2.2.2.2.1 (by simp; omega), k.cell c.2.2.2.2.2.2.2.1 (by simp; omega), k.cell c.2.2.2.2.2.2.2.2.1 (by simp; omega), c.2.2.2.2.2.2.2.2.2.trans' k fun i hi e => by omega⟩
      have HT3 : ∀ W : World, (W.cell? ⟨gt, 0, none⟩ = some (.slice AL lg.d.L.length nL) ∧ W.cell? ⟨gt, 1, none⟩ = some (.slice AT lg.d.T.length nT) ∧ W.cell? ⟨gt, 2, none⟩ = some (.int .i64 (lg.d.n : Int)) ∧ W.cell? ⟨gt, 3, none⟩ = some (.slice Al lg.l.length nl) ∧ W.cell? ⟨gt, 4, none⟩ = some (.int .i64 (lg.last : Int)) ∧ W.cell? ⟨b1, o1 + k * 4, none⟩ = some (.int .i64 x.kind) ∧ W.cell? ⟨b1, o1 + k * 4 + 1, none⟩ = some (vb x.of) ∧ W.cell? ⟨b1, o1 + k * 4 + 2, none⟩ = some (.slice Au x.r.length cu) ∧ W.cell? ⟨b1, o1 + k * 4 + 3, none⟩ = some (.int .i64 x.kept) ∧ Chg none' w2 W) → TOf (fun b => (¬ Fk b ∧ b ≠ gt) ∧ b < wr.heap.size) W (.agg #[.slice AL lg.d.L.length nL, .slice AT lg.d.T.length nT, .int .i64 (lg.d.n : Int), .slice Al lg.l.length nl, .int .i64 (lg.last : Int)]) lg := fun W c => hT2.keep c.2.2.2.2.2.2.2.2.2 fun _ _ => id
      have HU3 : ∀ W : World, (W.cell? ⟨gt, 0, none⟩ = some (.slice AL lg.d.L.length nL) ∧ W.cell? ⟨gt, 1, none⟩ = some (.slice AT lg.d.T.length nT) ∧ W.cell? ⟨gt, 2, none⟩ = some (.int .i64 (lg.d.n : Int)) ∧ W.cell? ⟨gt, 3, none⟩ = some (.slice Al lg.l.length nl) ∧ W.cell? ⟨gt, 4, none⟩ = some (.int .i64 (lg.last : Int)) ∧ W.cell? ⟨b1, o1 + k * 4, none⟩ = some (.int .i64 x.kind) ∧ W.cell? ⟨b1, o1 + k * 4 + 1, none⟩ = some (vb x.of) ∧ W.cell? ⟨b1, o1 + k * 4 + 2, none⟩ = some (.slice Au x.r.length cu) ∧ W.cell? ⟨b1, o1 + k * 4 + 3, none⟩ = some (.int .i64 x.kept) ∧ Chg none' w2 W) → Rows (fun b => (¬ Fk b ∧ b ≠ gt) ∧ b < wr.heap.size) W (.slice Au x.r.length cu) x.r := fun W c => hu2.kept c.2.2.2.2.2.2.2.2.2 fun _ _ => id
      have KK' : ∀ W : World, (W.cell? ⟨gt, 0, none⟩ = some (.slice AL lg.d.L.length nL) ∧ W.cell? ⟨gt, 1, none⟩ = some (.slice AT lg.d.T.length nT) ∧ W.cell? ⟨gt, 2, none⟩ = some (.int .i64 (lg.d.n : Int)) ∧ W.cell? ⟨gt, 3, none⟩ = some (.slice Al lg.l.length nl) ∧ W.cell? ⟨gt, 4, none⟩ = some (.int .i64 (lg.last : Int)) ∧ W.cell? ⟨b1, o1 + k * 4, none⟩ = some (.int .i64 x.kind) ∧ W.cell? ⟨b1, o1 + k * 4 + 1, none⟩ = some (vb x.of) ∧ W.cell? ⟨b1, o1 + k * 4 + 2, none⟩ = some (.slice Au x.r.length cu) ∧ W.cell? ⟨b1, o1 + k * 4 + 3, none⟩ = some (.int .i64 x.kept) ∧ Chg none' w2 W) → Calls Try.prog 32 #[.agg #[.slice AL lg.d.L.length nL, .slice AT lg.d.T.length nT, .int .i64 (lg.d.n : Int), .slice Al lg.l.length nl, .int .i64 (lg.last : Int)], .agg #[.int .i64 x.kind, vb x.of, .slice Au x.r.length cu, .int .i64 x.kept]] W fun e w3 => ∃ AL' nL' AT' nT' Al' nl', e = .returned (.tuple #[.agg #[.slice AL' D2.d.L.length nL', .slice AT' D2.d.T.length nT', .int .i64 (D2.d.n : Int), .slice Al' D2.l.length nl', .int .i64 (D2.last : Int)], .int .i64 (n2 : Int)]) ∧ Bytes (fun b => ((¬ Fk b ∧ b ≠ gt) ∧ b < wr.heap.size) ∨ W.heap.size ≤ b) w3 (.slice AL' D2.d.L.length nL') D2.d.L ∧ Bytes (fun b => ((¬ Fk b ∧ b ≠ gt) ∧ b < wr.heap.size) ∨ W.heap.size ≤ b) w3 (.slice AT' D2.d.T.length nT') D2.d.T ∧ Recs (fun b => ((¬ Fk b ∧ b ≠ gt) ∧ b < wr.heap.size) ∨ W.heap.size ≤ b) w3 (.slice Al' D2.l.length nl') D2.l ∧ Chg none' W w3 := fun W hW => by
        refine (w_rstep7 x (HT3 W hW) (HU3 W hW) HHD.out.1 HHD.out.2.1 HHD.out.2.2.1 HHD.out.2.2.2).mono ?_
        rintro e w3 ⟨y, rfl, hT3, cj⟩
        rw [HDD.out] at hT3 ⊢
        simp only at hT3 ⊢
        obtain ⟨vL', vT', vl', rfl, bL, bT, rl⟩ := hT3
        obtain ⟨AL', nL', rfl⟩ := bL.shape
        obtain ⟨AT', nT', rfl⟩ := bT.shape
        obtain ⟨Al', nl', rfl, _, _⟩ := rl.shape
        exact ⟨_, _, _, _, _, _, rfl, bL, bT, rl, cj⟩
      have KK := Lib.hid KK'
      have HS3 := Lib.hid HS3'
      clear KK' HS3' HT3 HU3
      have cD : Chg none' w2 w2.drew := (Chg.refl _ _).drew
      clear hT hT2 hu1 hu2 hD
      go_region_held3 (fun W => W.cell? ⟨gt, 0, none⟩ = some (.slice AL lg.d.L.length nL) ∧ W.cell? ⟨gt, 1, none⟩ = some (.slice AT lg.d.T.length nT) ∧ W.cell? ⟨gt, 2, none⟩ = some (.int .i64 (lg.d.n : Int)) ∧ W.cell? ⟨gt, 3, none⟩ = some (.slice Al lg.l.length nl) ∧ W.cell? ⟨gt, 4, none⟩ = some (.int .i64 (lg.last : Int)) ∧ W.cell? ⟨b1, o1 + k * 4, none⟩ = some (.int .i64 x.kind) ∧ W.cell? ⟨b1, o1 + k * 4 + 1, none⟩ = some (vb x.of) ∧ W.cell? ⟨b1, o1 + k * 4 + 2, none⟩ = some (.slice Au x.r.length cu) ∧ W.cell? ⟨b1, o1 + k * 4 + 3, none⟩ = some (.int .i64 x.kept) ∧ Chg none' w2 W)
        (first | with_reducible exact S3 | with_reducible exact HS3.out _ S3 _ ((((((Chg.refl (fun b => w2.heap.size ≤ b) _).setCell (.inr (by simp)) _).setCell (.inr (by simp)) _).setCell (.inr (by simp)) _).setCell (.inr (by simp)) _).setCell (.inr (by simp)) _) | with_reducible exact HS3.out _ S3 _ ((Chg.refl _ _).alloc _) | with_reducible exact HS3.out _ (by assumption) _ ((Chg.refl _ _).alloc _) | with_reducible exact ⟨by assumption, by assumption, by assumption, by assumption, by assumption, by assumption, by assumption, by assumption, by assumption, by assumption⟩ | go_keep)
        (first | (go_at_call 32; refine (KK.out _ (by assumption)).mono ?_; rintro e w3 ⟨AL', nL', AT', nT', Al', nl', rfl, bL, bT, rl, cj⟩; have S3 := HS3.out _ (by assumption) _ (cj.mono fun _ _ => False.elim); try (have qC := (cj.block w2.heap.size (by simp) id).trans (heap_alloc_new w2.drew (.cells #[.slice none 0 0, .slice none 0 0, .int .i64 0, .slice none 0 0, .int .i64 0] 60)); obtain ⟨y0, y1, y2, y3, y4⟩ := cells5 qC; obtain ⟨r0, r1, r2, r3, r4⟩ := free5 qC)))
      · obtain ⟨W4, hW4⟩ : ∃ W4, W4 = w3.alloc (.cells #[.slice AL' D2.d.L.length nL', .slice AT' D2.d.T.length nT', .int .i64 (D2.d.n : Int), .slice Al' D2.l.length nl', .int .i64 (D2.last : Int)] 60) := ⟨_, rfl⟩
        rw [← hW4]
        have qN := heap_alloc_new w3 (.cells #[.slice AL' D2.d.L.length nL', .slice AT' D2.d.T.length nT', .int .i64 (D2.d.n : Int), .slice Al' D2.l.length nl', .int .i64 (D2.last : Int)] 60)
        rw [← hW4] at qN
        have cN : Chg none' w3 W4 := by rw [hW4]; exact (Chg.refl _ _).alloc _
        have c4 : Chg none' w2 W4 := (cD.trans cj).trans cN
        have hT4 : TOf (fun b => ((¬ Fk b ∧ b ≠ gt) ∧ b < wr.heap.size) ∨ w2.heap.size ≤ b) W4 (.agg #[.slice AL' D2.d.L.length nL', .slice AT' D2.d.T.length nT', .int .i64 (D2.d.n : Int), .slice Al' D2.l.length nl', .int .i64 (D2.last : Int)]) D2 := TOf.mono (TOf.keep ⟨_, _, _, rfl, bL, bT, rl⟩ cN fun _ _ => id) fun b _ hb => hb.imp id id
        clear hW4
        generalize w3.heap.size = gu at *
        have G5 : ∀ b, ((¬ Fk b ∧ b ≠ gt) ∧ b < wr.heap.size) ∨ w2.heap.size ≤ b → ¬ F2 b ∧ b ≠ gt := fun b hb => by
          rcases hb with hb | hb
          · refine ⟨fun hf => ?_, hb.1.2⟩
            rcases x2 b hf with q | q
            · exact hb.1.1 q
            · omega
          · refine ⟨fun hf => ?_, by omega⟩
            have := hD2.flt b hf
            omega
        have hF2gt : ¬ F2 gt := fun hf => by
          rcases x2 gt hf with q | q
          · exact hFgt q
          · omega
        have hT5 := hT4.mono (H := fun b => ¬ F2 b ∧ b ≠ gt) fun b _ hb => G5 b hb
        have hh4 := heap_kept c4 hh2 id
        have hD4 := hD2.keep0 c4
        obtain ⟨p0, p1, p2, p3, p4⟩ := cells5 qN
        obtain ⟨a0, a1, a2, a3, a4⟩ := cells5 hh4
        obtain ⟨i0, i1, i2, i3, i4⟩ := free5 hh4
        go_upto_region 12 with (fail)
        obtain ⟨W5, hW5⟩ : ∃ W5, W5 = (((((W4.setCell ⟨gt, 0, none⟩ (.slice AL' D2.d.L.length nL')).setCell ⟨gt, 1, none⟩ (.slice AT' D2.d.T.length nT')).setCell ⟨gt, 2, none⟩ (.int .i64 (D2.d.n : Int))).setCell ⟨gt, 3, none⟩ (.slice Al' D2.l.length nl')).setCell ⟨gt, 4, none⟩ (.int .i64 (D2.last : Int))) := ⟨_, rfl⟩
        rw [← hW5]
        obtain ⟨qE, c5⟩ := end5 (a' := .slice AL' D2.d.L.length nL') (b' := .slice AT' D2.d.T.length nT') (c' := .int .i64 (D2.d.n : Int)) (d' := .slice Al' D2.l.length nl') (e' := .int .i64 (D2.last : Int)) hh4
        rw [← hW5] at qE c5
        clear hW5 p0 p1 p2 p3 p4 a0 a1 a2 a3 a4 i0 i1 i2 i3 i4
        obtain ⟨p0, p1, p2, p3, p4⟩ := cells5 qE
        have hD5 := hD4.keepT c5 hF2gt hh4 (no_u8 ⟨_, _, _, rfl⟩ ⟨_, _, _, rfl⟩ ⟨_, _, _, rfl⟩)
        have hT6 := hT5.keep c5 fun b hb => hb.2
        have d5 : Chg none' w W5 := (d2.trans c4).trans' c5 fun i hi e => by omega
        go_wp2_with fail
        go_at_call 29
        refine (w_same07 hD5 hT6).mono ?_
        rintro e w6 ⟨rfl, c6⟩
        go_wp2
        go_roundw
        case rel => exact ⟨k + 1, by omega, by go_num, ⟨g2, rfl, d5.trans c6, hgt, F2, xe2, by rw [E3.out]; exact hD5.keep0 c6, hF2gt, _, _, _, by rw [E3.out]; exact heap_kept c6 qE id, by rw [E3.out]; exact hT6.keep c6 fun _ _ => id⟩, by rw [E3.out, E2.out]; exact HL2.out⟩
        case measure => simp [intOf]; omega
      · obtain ⟨W4, hW4⟩ : ∃ W4, W4 = (((((w3.setCell ⟨w2.heap.size, 0, none⟩ (.slice AL' D2.d.L.length nL')).setCell ⟨w2.heap.size, 1, none⟩ (.slice AT' D2.d.T.length nT')).setCell ⟨w2.heap.size, 2, none⟩ (.int .i64 (D2.d.n : Int))).setCell ⟨w2.heap.size, 3, none⟩ (.slice Al' D2.l.length nl')).setCell ⟨w2.heap.size, 4, none⟩ (.int .i64 (D2.last : Int))) := ⟨_, rfl⟩
        rw [← hW4]
        have cA2 : Chg none' w2.drew (w2.drew.alloc (.cells #[.slice none 0 0, .slice none 0 0, .int .i64 0, .slice none 0 0, .int .i64 0] 60)) := (Chg.refl _ _).alloc _
        have qC := (cj.block w2.heap.size (by simp) id).trans (heap_alloc_new w2.drew (.cells #[.slice none 0 0, .slice none 0 0, .int .i64 0, .slice none 0 0, .int .i64 0] 60))
        obtain ⟨qN, cN⟩ := end5 (a' := .slice AL' D2.d.L.length nL') (b' := .slice AT' D2.d.T.length nT') (c' := .int .i64 (D2.d.n : Int)) (d' := .slice Al' D2.l.length nl') (e' := .int .i64 (D2.last : Int)) qC
        rw [← hW4] at qN cN
        have c4 : Chg none' w2 W4 := ((cD.trans cA2).trans cj).trans' cN fun i hi e => by omega
        have hns : ∀ b, (((¬ Fk b ∧ b ≠ gt) ∧ b < wr.heap.size) ∨ (w2.drew.alloc (.cells #[.slice none 0 0, .slice none 0 0, .int .i64 0, .slice none 0 0, .int .i64 0] 60)).heap.size ≤ b) → ¬ b = w2.heap.size := fun b hb e => by
          have := c2.size
          rcases hb with hb | hb
          · omega
          · simp at hb; omega
        have hT4 : TOf (fun b => ((¬ Fk b ∧ b ≠ gt) ∧ b < wr.heap.size) ∨ w2.heap.size ≤ b) W4 (.agg #[.slice AL' D2.d.L.length nL', .slice AT' D2.d.T.length nT', .int .i64 (D2.d.n : Int), .slice Al' D2.l.length nl', .int .i64 (D2.last : Int)]) D2 := TOf.mono (TOf.keep ⟨_, _, _, rfl, bL, bT, rl⟩ cN hns) fun b _ hb => hb.imp id fun q => by simp at q; omega
        clear hW4 hns
        have G5 : ∀ b, ((¬ Fk b ∧ b ≠ gt) ∧ b < wr.heap.size) ∨ w2.heap.size ≤ b → ¬ F2 b ∧ b ≠ gt := fun b hb => by
          rcases hb with hb | hb
          · refine ⟨fun hf => ?_, hb.1.2⟩
            rcases x2 b hf with q | q
            · exact hb.1.1 q
            · omega
          · refine ⟨fun hf => ?_, by omega⟩
            have := hD2.flt b hf
            omega
        have hF2gt : ¬ F2 gt := fun hf => by
          rcases x2 gt hf with q | q
          · exact hFgt q
          · omega
        have hT5 := hT4.mono (H := fun b => ¬ F2 b ∧ b ≠ gt) fun b _ hb => G5 b hb
        have hh4 := heap_kept c4 hh2 id
        have hD4 := hD2.keep0 c4
        obtain ⟨p0, p1, p2, p3, p4⟩ := cells5 qN
        obtain ⟨a0, a1, a2, a3, a4⟩ := cells5 hh4
        obtain ⟨i0, i1, i2, i3, i4⟩ := free5 hh4
        go_upto_region 12 with (fail)
        obtain ⟨W5, hW5⟩ : ∃ W5, W5 = (((((W4.setCell ⟨gt, 0, none⟩ (.slice AL' D2.d.L.length nL')).setCell ⟨gt, 1, none⟩ (.slice AT' D2.d.T.length nT')).setCell ⟨gt, 2, none⟩ (.int .i64 (D2.d.n : Int))).setCell ⟨gt, 3, none⟩ (.slice Al' D2.l.length nl')).setCell ⟨gt, 4, none⟩ (.int .i64 (D2.last : Int))) := ⟨_, rfl⟩
        rw [← hW5]
        obtain ⟨qE, c5⟩ := end5 (a' := .slice AL' D2.d.L.length nL') (b' := .slice AT' D2.d.T.length nT') (c' := .int .i64 (D2.d.n : Int)) (d' := .slice Al' D2.l.length nl') (e' := .int .i64 (D2.last : Int)) hh4
        rw [← hW5] at qE c5
        clear hW5 p0 p1 p2 p3 p4 a0 a1 a2 a3 a4 i0 i1 i2 i3 i4
        obtain ⟨p0, p1, p2, p3, p4⟩ := cells5 qE
        have hD5 := hD4.keepT c5 hF2gt hh4 (no_u8 ⟨_, _, _, rfl⟩ ⟨_, _, _, rfl⟩ ⟨_, _, _, rfl⟩)
        have hT6 := hT5.keep c5 fun b hb => hb.2
        have d5 : Chg none' w W5 := (d2.trans c4).trans' c5 fun i hi e => by omega
        go_wp2_with fail
        go_at_call 29
        refine (w_same07 hD5 hT6).mono ?_
        rintro e w6 ⟨rfl, c6⟩
        go_wp2
        go_roundw
        case rel => exact ⟨k + 1, by omega, by go_num, ⟨g2, rfl, d5.trans c6, hgt, F2, xe2, by rw [E3.out]; exact hD5.keep0 c6, hF2gt, _, _, _, by rw [E3.out]; exact heap_kept c6 qE id, by rw [E3.out]; exact hT6.keep c6 fun _ _ => id⟩, by rw [E3.out, E2.out]; exact HL2.out⟩
        case measure => simp [intOf]; omega
    · obtain rfl : k = xs.length := by omega
      go_wp2_with fail
      go_at_call 10
      refine (w_known07 _).mono ?_
      rintro e w2 ⟨rfl, c2⟩
      go_wp2
      go_ret
      exact ⟨rfl, hchg.trans c2⟩

end Go.Proofs.Ytclbbddpedcfjaa
