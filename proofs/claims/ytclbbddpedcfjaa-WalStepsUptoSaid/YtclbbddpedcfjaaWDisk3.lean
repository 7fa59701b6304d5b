/-
  Walks: a disk that is synced, or crashes.
-/
import Derived.Test.YtclbbddpedcfjaaWDisk2
import Derived.Test.YtclbbddpedcfjaaSlices0
namespace Go.Proofs.Ytclbbddpedcfjaa
open Go.RowKit

/-- The row that is to last, told of a world behind the append. -/
structure NewL (g : Nat) (vL : Value) (L' : List UInt8) (X x : World) (v : Value) : Prop where
  own : OwnB 0 x v L'
  blk : ∀ b, v.ownBlock = some b → vL.ownBlock = some b ∨ X.heap.size ≤ b
  gL : vL.ownBlock ≠ some g
  glt : g < X.heap.size
section
variable {g : Nat} {vL : Value} {L' : List UInt8} {X x x' : World} {v : Value} {S : Nat → Prop}
theorem NewL.keep (h : NewL g vL L' X x v) (c : Chg S x x') (hS : ∀ b, v.ownBlock = some b → ¬ S b) : NewL g vL L' X x' v := ⟨h.own.keep c hS, h.blk, h.gL, h.glt⟩
theorem NewL.ne (h : NewL g vL L' X x v) : v.ownBlock ≠ some g := fun e => by
  rcases h.blk g e with q | q
  · exact h.gL q
  · have := h.glt; omega
theorem NewL.set (h : NewL g vL L' X x v) {i : Nat} {y : Value} : NewL g vL L' X (x.setCell ⟨g, i, none⟩ y) v :=
  h.keep ((Chg.refl (fun b => b = g) _).setCell (.inr rfl) _) fun b e q => h.ne (q ▸ e)
theorem NewL.shape (h : NewL g vL L' X x v) : ∃ A n, v = .slice A L'.length n := h.own.shape
end

/-- The world's states: nothing is done; the row is appended; it is what lasts; there is no tail. -/
def SyncS (g : Nat) (vL : Value) (L' : List UInt8) (X : World) : Nat → World → Prop
  | 0, x => x = X
  | 1, x => Chg (ownOf vL) X x
  | 2, x => ∃ x1 v', Chg (ownOf vL) X x1 ∧ NewL g vL L' X x1 v' ∧ x = x1.setCell ⟨g, 0, none⟩ v'
  | _, x => ∃ x1 v', Chg (ownOf vL) X x1 ∧ NewL g vL L' X x1 v' ∧ x = (x1.setCell ⟨g, 0, none⟩ v').setCell ⟨g, 1, none⟩ (.slice none 0 0)

section
variable {F : Nat → Prop} {w X x : World} {g : Nat} {d : Dk} {vL vT : Value}
theorem DiskB.at0 (h : DiskB F X g vL vT d) (c : Chg (ownOf vL) X x) : x.cell? ⟨g, 0, none⟩ = some vL ∧ x.frozen? ⟨g, 0, none⟩ = false := by
  have hh : x.heap[g]? = some (.cells #[vL, vT, .int .i64 (d.n : Int)] 80 (0, 0)) := (c.block g h.glt h.gL).trans h.heap
  exact ⟨by rw [cell_of_row _ _ _ _ _ _ hh]; rfl, by simp [World.frozen?, hh]⟩
theorem DiskB.at1 {L' : List UInt8} {v' : Value} (h : DiskB F X g vL vT d) (c : Chg (ownOf vL) X x) (_ : NewL g vL L' X x v') : (x.setCell ⟨g, 0, none⟩ v').cell? ⟨g, 1, none⟩ = some vT ∧ (x.setCell ⟨g, 0, none⟩ v').frozen? ⟨g, 1, none⟩ = false := by
  have hh : x.heap[g]? = some (.cells #[vL, vT, .int .i64 (d.n : Int)] 80 (0, 0)) := (c.block g h.glt h.gL).trans h.heap
  have hh' := heap_setCell_at (i := 0) hh v'
  exact ⟨by rw [cell_of_row _ _ _ _ _ _ hh']; rfl, by simp [World.frozen?, hh']⟩
theorem SyncS.done {L' : List UInt8} (h : DiskB F X g vL vT d) (hs : SyncS g vL L' X 3 x) (hl : L'.length ≤ 4194304) : ∃ F', IsDisk F' x g ⟨L', [], d.n⟩ ∧ Ext F F' X ∧ Chg F X x := by
  obtain ⟨x1, v', c, hv, rfl⟩ := hs
  exact ⟨_, ⟨_, _, h.setL c (fun _ => id) hv.own hv.blk hl⟩, ext_new, ((c.mono fun b _ e => h.fL b e).setCell (.inr h.fg) _).setCell (.inr h.fg) _⟩
end

def dsync (d : Dk) : Dk := ⟨d.L ++ d.T, [], if d.T.length = 0 then d.n else d.n + 1⟩
def dcrash (d : Dk) (k : Nat) : Dk := ⟨d.L ++ d.T.take k, [], d.n⟩

set_option maxRecDepth 100000 in
set_option maxHeartbeats 4000000 in
theorem w_dsync {F : Nat → Prop} {w : World} {g : Nat} {d : Dk} (h : IsDisk F w g d) (hn : d.n ≤ 1000000000000000) :
    Calls Try.prog 35 #[.pointer (some ⟨g, 0, none⟩)] w fun e w' => ∃ F', e = .returned (.int .i64 0) ∧ IsDisk F' w' g (dsync d) ∧ Ext F F' w ∧ Chg F w w' := by
  obtain ⟨vL, vT, h⟩ := h
  obtain ⟨A1, n1, rfl⟩ := h.ownT.shape
  obtain ⟨W, m, hW, hm, hB, cW⟩ : ∃ W m, (if 0 < d.T.length then w.setCell ⟨g, 2, none⟩ (.int .i64 ((d.n : Int) + 1)) else w) = W ∧ (if d.T.length = 0 then d.n else d.n + 1) = m ∧ DiskB F W g vL (.slice A1 d.T.length n1) ⟨d.L, d.T, m⟩ ∧ Chg F w W := by
    by_cases h0 : d.T.length = 0
    · exact ⟨w, d.n, by rw [if_neg (by omega)], if_pos h0, h, Chg.refl _ _⟩
    · exact ⟨_, d.n + 1, by rw [if_pos (by omega)], if_neg h0, by simpa using h.setN (d.n + 1), (Chg.refl _ _).setCell (.inr h.fg) _⟩
  have HW := Lib.hid hW
  have HM := Lib.hid hm
  clear hW hm
  have hlen := h.len
  have hl47 : d.L.length + d.T.length ≤ 140737488355328 := by omega
  obtain ⟨L', hL⟩ : ∃ L', d.L ++ d.T = L' := ⟨_, rfl⟩
  have hll : L'.length ≤ 4194304 := by rw [← hL, List.length_append]; exact hlen
  have HL := Lib.hid hL
  clear hL
  have HLL := Lib.hid hll
  clear hll
  obtain ⟨X, hX⟩ : ∃ X, W.drew = X := ⟨_, rfl⟩
  have cX : Chg none' W X := by rw [← hX]; exact (Chg.refl _ _).drew
  have HX := Lib.hid hX
  clear hX
  have hD := hB.keep cX fun _ _ => id
  have c1 := h.cell1
  have c2 := h.cell2
  have f2 := h.free 2
  by_cases h0 : 0 < d.T.length
  all_goals
    have HW' := HW.out
    first
    | rw [if_pos h0] at HW'
    | rw [if_neg h0] at HW'
    have HV := Lib.hid HW'
    clear HW' HW
    go_enter Try.func35, Try.ntmps35
    go_upto_region 5 with (fail)
    rw [HV.out]
    clear c1 c2 f2 h hB
    -- BEGIN one
    refine wp_region_ms2 [Vp.k (.pointer (some ⟨g, 0, none⟩)),
      Vp.k (.pointer (some ⟨g, 0, none⟩)),
      Vp.k (.pointer (some ⟨g, 0, none⟩)),
      Vp.k (.pointer (some ⟨g, 0, none⟩)),
      Vp.k (.pointer (some ⟨g, 0, none⟩)),
      Vp.k (vL),
      Vp.k (.pointer (some ⟨g, 0, none⟩)),
      Vp.k (.pointer (some ⟨g, 0, none⟩)),
      Vp.k (.pointer (some ⟨g, 1, none⟩)),
      Vp.k (.slice A1 d.T.length n1),
      ⟨fun x v => NewL g vL L' X x v, fun _ _ _ hc h => h.keep hc fun _ _ => id⟩,
      Vp.k (.pointer (some ⟨g, 0, none⟩)),
      Vp.k (.pointer (some ⟨g, 0, none⟩)),
      Vp.any,
      Vp.k (.pointer (some ⟨g, 0, none⟩)),
      Vp.k (.pointer (some ⟨g, 1, none⟩)),
      Vp.any] [10, 13, 16] (SyncS g vL L' X) (by kernel_rfl) (by kernel_rfl) (by kernel_rfl) (by kernel_rfl) HX.out ?_ ?_
    · refine ⟨?_, ?_, ?_, ?_, ?_, ?_, ?_, ?_, ?_, ?_, ?_, ?_, ?_, ?_, ?_, ?_, ?_, trivial⟩
      · intro s hlo hhi a w2 hS hd hk K hK
        have e0 : a.tmps.getD 0 undef = .pointer (some ⟨g, 0, none⟩) := (Known.init (hk 0 (of_decide_eq_true (by kernel_rfl))) (by kernel_rfl))
        refine track_run rfl ?_
        exact BigFrame.wp_move _ rfl (hK _ w2 hS (.inl (Chg.refl _ _)) e0)
      · intro s hlo hhi a w2 hS hd hk K hK
        have e0 : a.tmps.getD 0 undef = .pointer (some ⟨g, 0, none⟩) := (Known.init (hk 0 (of_decide_eq_true (by kernel_rfl))) (by kernel_rfl))
        refine track_run rfl ?_
        exact BigFrame.wp_move _ rfl (hK _ w2 hS (.inl (Chg.refl _ _)) e0)
      · intro s hlo hhi a w2 hS hd hk K hK
        have e0 : a.tmps.getD 0 undef = .pointer (some ⟨g, 0, none⟩) := (Known.init (hk 0 (of_decide_eq_true (by kernel_rfl))) (by kernel_rfl))
        refine track_run rfl ?_
        exact BigFrame.wp_move _ rfl (hK _ w2 hS (.inl (Chg.refl _ _)) e0)
      · intro s hlo hhi a w2 hS hd hk K hK
        have e20 : a.tmps.getD 20 undef = .pointer (some ⟨g, 0, none⟩) := (Known.of (j := 2) (hk 20 (of_decide_eq_true (by kernel_rfl))) (by kernel_rfl) (by decide))
        refine track_run rfl ?_
        clear hd
        simp only [Array.getD_eq_getD_getElem?] at e20
        go_simp
        exact hK _ w2 hS (.inl (Chg.refl _ _)) rfl
      · intro s hlo hhi a w2 hS hd hk K hK
        have e21 : a.tmps.getD 21 undef = .pointer (some ⟨g, 0, none⟩) := (Known.of (j := 3) (hk 21 (of_decide_eq_true (by kernel_rfl))) (by kernel_rfl) (by decide))
        refine track_run rfl ?_
        clear hd
        simp only [Array.getD_eq_getD_getElem?] at e21
        go_simp
        exact hK _ w2 hS (.inl (Chg.refl _ _)) rfl
      · intro s hlo hhi a w2 hS hd hk K hK
        have e22 : a.tmps.getD 22 undef = .pointer (some ⟨g, 0, none⟩) := (Known.of (j := 4) (hk 22 (of_decide_eq_true (by kernel_rfl))) (by kernel_rfl) (by decide))
        refine track_run rfl ?_
        obtain rfl : s = 0 := Nat.le_zero.1 (Nat.le_trans hhi (of_decide_eq_true (by kernel_rfl)))
        obtain rfl : w2 = X := hS
        have cc := hD.cell0
        clear hd
        simp only [Array.getD_eq_getD_getElem?] at e22
        go_simp
        exact hK _ _ rfl (.inl (Chg.refl _ _)) rfl
      · intro s hlo hhi a w2 hS hd hk K hK
        have e0 : a.tmps.getD 0 undef = .pointer (some ⟨g, 0, none⟩) := (Known.init (hk 0 (of_decide_eq_true (by kernel_rfl))) (by kernel_rfl))
        refine track_run rfl ?_
        exact BigFrame.wp_move _ rfl (hK _ w2 hS (.inl (Chg.refl _ _)) e0)
      · intro s hlo hhi a w2 hS hd hk K hK
        have e24 : a.tmps.getD 24 undef = .pointer (some ⟨g, 0, none⟩) := (Known.of (j := 6) (hk 24 (of_decide_eq_true (by kernel_rfl))) (by kernel_rfl) (by decide))
        refine track_run rfl ?_
        clear hd
        simp only [Array.getD_eq_getD_getElem?] at e24
        go_simp
        exact hK _ w2 hS (.inl (Chg.refl _ _)) rfl
      · intro s hlo hhi a w2 hS hd hk K hK
        have e25 : a.tmps.getD 25 undef = .pointer (some ⟨g, 0, none⟩) := (Known.of (j := 7) (hk 25 (of_decide_eq_true (by kernel_rfl))) (by kernel_rfl) (by decide))
        refine track_run rfl ?_
        clear hd
        simp only [Array.getD_eq_getD_getElem?] at e25
        go_simp
        exact hK _ w2 hS (.inl (Chg.refl _ _)) rfl
      · intro s hlo hhi a w2 hS hd hk K hK
        have e26 : a.tmps.getD 26 undef = .pointer (some ⟨g, 1, none⟩) := (Known.of (j := 8) (hk 26 (of_decide_eq_true (by kernel_rfl))) (by kernel_rfl) (by decide))
        refine track_run rfl ?_
        obtain rfl : s = 0 := Nat.le_zero.1 (Nat.le_trans hhi (of_decide_eq_true (by kernel_rfl)))
        obtain rfl : w2 = X := hS
        have cc := hD.cell1
        clear hd
        simp only [Array.getD_eq_getD_getElem?] at e26
        go_simp
        exact hK _ _ rfl (.inl (Chg.refl _ _)) rfl
      · intro s hlo hhi a w2 hS hd hk K hK
        have e23 : a.tmps.getD 23 undef = vL := (Known.of (j := 5) (hk 23 (of_decide_eq_true (by kernel_rfl))) (by kernel_rfl) (by decide))
        have e27 : a.tmps.getD 27 undef = .slice A1 d.T.length n1 := (Known.of (j := 9) (hk 27 (of_decide_eq_true (by kernel_rfl))) (by kernel_rfl) (by decide))
        refine track_run rfl ?_
        obtain rfl : s = 0 := Nat.le_antisymm (Nat.le_trans hhi (of_decide_eq_true (by kernel_rfl))) (Nat.zero_le _)
        obtain rfl : w2 = X := hS
        refine wp_appB (.tmp 23) (.tmp 27) rfl hD.ownL hD.ownT.bytes e23 e27 hl47 (Nat.zero_le _) fun v' x o c b => ?_
        exact hK _ _ c (.inr ⟨.inr (fun u hu => hu), .inr (fun u hu => hu), .inr (fun u hu => hu), .inr (fun u hu => hu), .inr (fun u hu => hu), .inr (fun u hu => hu), .inr (fun u hu => hu), .inr (fun u hu => hu), .inr (fun u hu => hu), .inr (fun u hu => hu), .inl (by kernel_rfl), .inl (by kernel_rfl), .inl (by kernel_rfl), .inl (by kernel_rfl), .inl (by kernel_rfl), .inl (by kernel_rfl), .inl (by kernel_rfl), trivial⟩) ⟨by rw [← HL.out]; exact o, b, hD.gL, hD.glt⟩
      · intro s hlo hhi a w2 hS hd hk K hK
        have e18 : a.tmps.getD 18 undef = .pointer (some ⟨g, 0, none⟩) := (Known.of (j := 0) (hk 18 (of_decide_eq_true (by kernel_rfl))) (by kernel_rfl) (by decide))
        refine track_run rfl ?_
        clear hd
        simp only [Array.getD_eq_getD_getElem?] at e18
        go_simp
        exact hK _ w2 hS (.inl (Chg.refl _ _)) rfl
      · intro s hlo hhi a w2 hS hd hk K hK
        have e29 : a.tmps.getD 29 undef = .pointer (some ⟨g, 0, none⟩) := (Known.of (j := 11) (hk 29 (of_decide_eq_true (by kernel_rfl))) (by kernel_rfl) (by decide))
        refine track_run rfl ?_
        clear hd
        simp only [Array.getD_eq_getD_getElem?] at e29
        go_simp
        exact hK _ w2 hS (.inl (Chg.refl _ _)) rfl
      · intro s hlo hhi a w2 hS hd hk K hK
        have e30 : a.tmps.getD 30 undef = .pointer (some ⟨g, 0, none⟩) := (Known.of (j := 12) (hk 30 (of_decide_eq_true (by kernel_rfl))) (by kernel_rfl) (by decide))
        have e28 : NewL g vL L' X w2 (a.tmps.getD 28 undef) := (Known.of (j := 10) (hk 28 (of_decide_eq_true (by kernel_rfl))) (by kernel_rfl) (by decide))
        refine track_run rfl ?_
        obtain rfl : s = 1 := Nat.le_antisymm (Nat.le_trans hhi (of_decide_eq_true (by kernel_rfl))) (Nat.le_trans (of_decide_eq_true (by kernel_rfl)) hlo)
        replace hS : Chg (ownOf vL) X w2 := hS
        obtain ⟨cc, fc⟩ := hD.at0 hS
        obtain ⟨A3, n3, hv⟩ := e28.shape
        rw [hv] at e28
        rw [Array.getD_eq_getD_getElem?] at hv
        clear hd
        simp only [Array.getD_eq_getD_getElem?] at e30
        go_simp
        exact hK undef _ ⟨w2, _, hS, e28, rfl⟩ (.inr ⟨.inr (fun u hu => hu), .inr (fun u hu => hu), .inr (fun u hu => hu), .inr (fun u hu => hu), .inr (fun u hu => hu), .inr (fun u hu => hu), .inr (fun u hu => hu), .inr (fun u hu => hu), .inr (fun u hu => hu), .inr (fun u hu => hu), .inr (fun u hu => hu.set), .inr (fun u hu => hu), .inr (fun u hu => hu), .inl (by kernel_rfl), .inl (by kernel_rfl), .inl (by kernel_rfl), .inl (by kernel_rfl), trivial⟩) trivial
      · intro s hlo hhi a w2 hS hd hk K hK
        have e19 : a.tmps.getD 19 undef = .pointer (some ⟨g, 0, none⟩) := (Known.of (j := 1) (hk 19 (of_decide_eq_true (by kernel_rfl))) (by kernel_rfl) (by decide))
        refine track_run rfl ?_
        clear hd
        simp only [Array.getD_eq_getD_getElem?] at e19
        go_simp
        exact hK _ w2 hS (.inl (Chg.refl _ _)) rfl
      · intro s hlo hhi a w2 hS hd hk K hK
        have e31 : a.tmps.getD 31 undef = .pointer (some ⟨g, 0, none⟩) := (Known.of (j := 14) (hk 31 (of_decide_eq_true (by kernel_rfl))) (by kernel_rfl) (by decide))
        refine track_run rfl ?_
        clear hd
        simp only [Array.getD_eq_getD_getElem?] at e31
        go_simp
        exact hK _ w2 hS (.inl (Chg.refl _ _)) rfl
      · intro s hlo hhi a w2 hS hd hk K hK
        have e32 : a.tmps.getD 32 undef = .pointer (some ⟨g, 1, none⟩) := (Known.of (j := 15) (hk 32 (of_decide_eq_true (by kernel_rfl))) (by kernel_rfl) (by decide))
        refine track_run rfl ?_
        obtain rfl : s = 2 := Nat.le_antisymm (Nat.le_trans hhi (of_decide_eq_true (by kernel_rfl))) (Nat.le_trans (of_decide_eq_true (by kernel_rfl)) hlo)
        obtain ⟨x1, v', hS, hv, rfl⟩ := hS
        obtain ⟨cc, fc⟩ := hD.at1 hS hv
        clear hd
        simp only [Array.getD_eq_getD_getElem?] at e32
        go_simp
        exact hK undef _ ⟨x1, v', hS, hv, rfl⟩ (.inr ⟨.inr (fun u hu => hu), .inr (fun u hu => hu), .inr (fun u hu => hu), .inr (fun u hu => hu), .inr (fun u hu => hu), .inr (fun u hu => hu), .inr (fun u hu => hu), .inr (fun u hu => hu), .inr (fun u hu => hu), .inr (fun u hu => hu), .inr (fun u hu => hu.set), .inr (fun u hu => hu), .inr (fun u hu => hu), .inr (fun u hu => hu), .inr (fun u hu => hu), .inr (fun u hu => hu), .inl (by kernel_rfl), trivial⟩) trivial
    -- END one
    · intro f x hS hk'
      simp only [filled, List.foldl_cons, List.foldl_nil]
      simp only [Act.put, List.setIfInBounds_toArray, List.set_cons_succ, List.set_cons_zero]
      go_wp2
      go_ret
      obtain ⟨F', r1, r2, r3⟩ := SyncS.done hD hS HLL.out
      exact ⟨F', rfl, by unfold dsync; rw [HM.out, HL.out]; exact r1, fun b hb => (r2 b hb).imp id fun q => Nat.le_trans (Nat.le_trans cW.size cX.size) q, cW.trans ((cX.mono fun _ _ => False.elim).trans r3)⟩

theorem take_min {α : Type} (l : List α) (q : Nat) : l.take (min q l.length) = l.take q := by
  by_cases h : q ≤ l.length
  · rw [Nat.min_eq_left h]
  · rw [Nat.min_eq_right (by omega), List.take_of_length_le (Nat.le_refl _), List.take_of_length_le (by omega)]

set_option maxRecDepth 100000 in
set_option maxHeartbeats 1000000 in
theorem w_dcrash_no {w : World} {g : Nat} {q : Int} (hq : q < 0) :
    Calls Try.prog 38 #[.pointer (some ⟨g, 0, none⟩), .int .i64 q] w fun e w' => e = .returned (.int .i64 2) ∧ w = w' := by
  go_enter Try.func38, Try.ntmps38
  go_wp2
  go_ret
  exact ⟨rfl, rfl⟩

set_option maxRecDepth 100000 in
set_option maxHeartbeats 4000000 in
theorem w_dcrash {F : Nat → Prop} {w : World} {g : Nat} {d : Dk} (h : IsDisk F w g d) (q : Nat) :
    Calls Try.prog 38 #[.pointer (some ⟨g, 0, none⟩), .int .i64 (q : Int)] w fun e w' => ∃ F', e = .returned (.int .i64 0) ∧ IsDisk F' w' g (dcrash d q) ∧ Ext F F' w ∧ Chg F w w' := by
  obtain ⟨vL, vT, h⟩ := h
  obtain ⟨A1, n1, rfl⟩ := h.ownT.shape
  have hlen := h.len
  obtain ⟨k, hk⟩ : ∃ k, min q d.T.length = k := ⟨_, rfl⟩
  have hkl : k ≤ d.T.length := by omega
  have hkn : (k : Int) ≤ n1 := by
    obtain ⟨A, c', e, q, _⟩ := h.ownT.bytes
    simp only [Value.slice.injEq] at e
    omega
  have htk : (d.T.take k).length = k := by rw [List.length_take]; omega
  have hl47 : d.L.length + (d.T.take k).length ≤ 140737488355328 := by omega
  obtain ⟨L', hL⟩ : ∃ L', d.L ++ d.T.take k = L' := ⟨_, rfl⟩
  have hll : L'.length ≤ 4194304 := by rw [← hL, List.length_append, htk]; omega
  have HL := Lib.hid hL
  have HT := Lib.hid (take_min d.T q)
  have hk2 : (if d.T.length < q then (d.T.length : Int) else (q : Int)) = (k : Int) := by split <;> omega
  have HK := Lib.hid hk
  have HK2 := Lib.hid hk2
  have HLL := Lib.hid hll
  clear hL hk htk hll hk2
  obtain ⟨X, hX⟩ : ∃ X, w.drew = X := ⟨_, rfl⟩
  have cX : Chg none' w X := by rw [← hX]; exact (Chg.refl _ _).drew
  have HX := Lib.hid hX
  clear hX
  have hD := h.keep cX fun _ _ => id
  clear h
  go_enter Try.func38, Try.ntmps38
  go_upto_region 5 with (fail)
  -- BEGIN two
  refine wp_region_ms2 [Vp.k (.pointer (some ⟨g, 0, none⟩)),
    Vp.k (.pointer (some ⟨g, 0, none⟩)),
    Vp.k (.pointer (some ⟨g, 0, none⟩)),
    Vp.k (.pointer (some ⟨g, 0, none⟩)),
    Vp.k (.pointer (some ⟨g, 0, none⟩)),
    Vp.k (vL),
    Vp.k (.pointer (some ⟨g, 0, none⟩)),
    Vp.k (.pointer (some ⟨g, 0, none⟩)),
    Vp.k (.pointer (some ⟨g, 1, none⟩)),
    Vp.k (.slice A1 d.T.length n1),
    Vp.k (.int .i64 (q : Int)),
    Vp.k (.pointer (some ⟨g, 0, none⟩)),
    Vp.k (.pointer (some ⟨g, 0, none⟩)),
    Vp.k (.pointer (some ⟨g, 1, none⟩)),
    Vp.k (.slice A1 d.T.length n1),
    Vp.k (.int .i64 (d.T.length : Int)),
    Vp.k (.int .i64 (k : Int)),
    Vp.k (.slice A1 k n1),
    ⟨fun x v => NewL g vL L' X x v, fun _ _ _ hc h => h.keep hc fun _ _ => id⟩,
    Vp.k (.pointer (some ⟨g, 0, none⟩)),
    Vp.k (.pointer (some ⟨g, 0, none⟩)),
    Vp.any,
    Vp.k (.pointer (some ⟨g, 0, none⟩)),
    Vp.k (.pointer (some ⟨g, 1, none⟩)),
    Vp.any] [18, 21, 24] (SyncS g vL L' X) (by kernel_rfl) (by kernel_rfl) (by kernel_rfl) (by kernel_rfl) HX.out ?_ ?_
  · refine ⟨?_, ?_, ?_, ?_, ?_, ?_, ?_, ?_, ?_, ?_, ?_, ?_, ?_, ?_, ?_, ?_, ?_, ?_, ?_, ?_, ?_, ?_, ?_, ?_, ?_, trivial⟩
    · intro s hlo hhi a w2 hS hd hk K hK
      have e0 : a.tmps.getD 0 undef = .pointer (some ⟨g, 0, none⟩) := (Known.init (hk 0 (of_decide_eq_true (by kernel_rfl))) (by kernel_rfl))
      refine track_run rfl ?_
      exact BigFrame.wp_move _ rfl (hK _ w2 hS (.inl (Chg.refl _ _)) e0)
    · intro s hlo hhi a w2 hS hd hk K hK
      have e0 : a.tmps.getD 0 undef = .pointer (some ⟨g, 0, none⟩) := (Known.init (hk 0 (of_decide_eq_true (by kernel_rfl))) (by kernel_rfl))
      refine track_run rfl ?_
      exact BigFrame.wp_move _ rfl (hK _ w2 hS (.inl (Chg.refl _ _)) e0)
    · intro s hlo hhi a w2 hS hd hk K hK
      have e0 : a.tmps.getD 0 undef = .pointer (some ⟨g, 0, none⟩) := (Known.init (hk 0 (of_decide_eq_true (by kernel_rfl))) (by kernel_rfl))
      refine track_run rfl ?_
      exact BigFrame.wp_move _ rfl (hK _ w2 hS (.inl (Chg.refl _ _)) e0)
    · intro s hlo hhi a w2 hS hd hk K hK
      have e13 : a.tmps.getD 13 undef = .pointer (some ⟨g, 0, none⟩) := (Known.of (j := 2) (hk 13 (of_decide_eq_true (by kernel_rfl))) (by kernel_rfl) (by decide))
      refine track_run rfl ?_
      clear hd
      simp only [Array.getD_eq_getD_getElem?] at e13
      go_simp
      exact hK _ w2 hS (.inl (Chg.refl _ _)) rfl
    · intro s hlo hhi a w2 hS hd hk K hK
      have e14 : a.tmps.getD 14 undef = .pointer (some ⟨g, 0, none⟩) := (Known.of (j := 3) (hk 14 (of_decide_eq_true (by kernel_rfl))) (by kernel_rfl) (by decide))
      refine track_run rfl ?_
      clear hd
      simp only [Array.getD_eq_getD_getElem?] at e14
      go_simp
      exact hK _ w2 hS (.inl (Chg.refl _ _)) rfl
    · intro s hlo hhi a w2 hS hd hk K hK
      have e15 : a.tmps.getD 15 undef = .pointer (some ⟨g, 0, none⟩) := (Known.of (j := 4) (hk 15 (of_decide_eq_true (by kernel_rfl))) (by kernel_rfl) (by decide))
      refine track_run rfl ?_
      obtain rfl : s = 0 := Nat.le_zero.1 (Nat.le_trans hhi (of_decide_eq_true (by kernel_rfl)))
      obtain rfl : w2 = X := hS
      have cc := hD.cell0
      clear hd
      simp only [Array.getD_eq_getD_getElem?] at e15
      go_simp
      exact hK _ _ rfl (.inl (Chg.refl _ _)) rfl
    · intro s hlo hhi a w2 hS hd hk K hK
      have e0 : a.tmps.getD 0 undef = .pointer (some ⟨g, 0, none⟩) := (Known.init (hk 0 (of_decide_eq_true (by kernel_rfl))) (by kernel_rfl))
      refine track_run rfl ?_
      exact BigFrame.wp_move _ rfl (hK _ w2 hS (.inl (Chg.refl _ _)) e0)
    · intro s hlo hhi a w2 hS hd hk K hK
      have e17 : a.tmps.getD 17 undef = .pointer (some ⟨g, 0, none⟩) := (Known.of (j := 6) (hk 17 (of_decide_eq_true (by kernel_rfl))) (by kernel_rfl) (by decide))
      refine track_run rfl ?_
      clear hd
      simp only [Array.getD_eq_getD_getElem?] at e17
      go_simp
      exact hK _ w2 hS (.inl (Chg.refl _ _)) rfl
    · intro s hlo hhi a w2 hS hd hk K hK
      have e18 : a.tmps.getD 18 undef = .pointer (some ⟨g, 0, none⟩) := (Known.of (j := 7) (hk 18 (of_decide_eq_true (by kernel_rfl))) (by kernel_rfl) (by decide))
      refine track_run rfl ?_
      clear hd
      simp only [Array.getD_eq_getD_getElem?] at e18
      go_simp
      exact hK _ w2 hS (.inl (Chg.refl _ _)) rfl
    · intro s hlo hhi a w2 hS hd hk K hK
      have e19 : a.tmps.getD 19 undef = .pointer (some ⟨g, 1, none⟩) := (Known.of (j := 8) (hk 19 (of_decide_eq_true (by kernel_rfl))) (by kernel_rfl) (by decide))
      refine track_run rfl ?_
      obtain rfl : s = 0 := Nat.le_zero.1 (Nat.le_trans hhi (of_decide_eq_true (by kernel_rfl)))
      obtain rfl : w2 = X := hS
      have cc := hD.cell1
      clear hd
      simp only [Array.getD_eq_getD_getElem?] at e19
      go_simp
      exact hK _ _ rfl (.inl (Chg.refl _ _)) rfl
    · intro s hlo hhi a w2 hS hd hk K hK
      have e1 : a.tmps.getD 1 undef = .int .i64 (q : Int) := (Known.init (hk 1 (of_decide_eq_true (by kernel_rfl))) (by kernel_rfl))
      refine track_run rfl ?_
      exact BigFrame.wp_move _ rfl (hK _ w2 hS (.inl (Chg.refl _ _)) e1)
    · intro s hlo hhi a w2 hS hd hk K hK
      have e0 : a.tmps.getD 0 undef = .pointer (some ⟨g, 0, none⟩) := (Known.init (hk 0 (of_decide_eq_true (by kernel_rfl))) (by kernel_rfl))
      refine track_run rfl ?_
      exact BigFrame.wp_move _ rfl (hK _ w2 hS (.inl (Chg.refl _ _)) e0)
    · intro s hlo hhi a w2 hS hd hk K hK
      have e22 : a.tmps.getD 22 undef = .pointer (some ⟨g, 0, none⟩) := (Known.of (j := 11) (hk 22 (of_decide_eq_true (by kernel_rfl))) (by kernel_rfl) (by decide))
      refine track_run rfl ?_
      clear hd
      simp only [Array.getD_eq_getD_getElem?] at e22
      go_simp
      exact hK _ w2 hS (.inl (Chg.refl _ _)) rfl
    · intro s hlo hhi a w2 hS hd hk K hK
      have e23 : a.tmps.getD 23 undef = .pointer (some ⟨g, 0, none⟩) := (Known.of (j := 12) (hk 23 (of_decide_eq_true (by kernel_rfl))) (by kernel_rfl) (by decide))
      refine track_run rfl ?_
      clear hd
      simp only [Array.getD_eq_getD_getElem?] at e23
      go_simp
      exact hK _ w2 hS (.inl (Chg.refl _ _)) rfl
    · intro s hlo hhi a w2 hS hd hk K hK
      have e24 : a.tmps.getD 24 undef = .pointer (some ⟨g, 1, none⟩) := (Known.of (j := 13) (hk 24 (of_decide_eq_true (by kernel_rfl))) (by kernel_rfl) (by decide))
      refine track_run rfl ?_
      obtain rfl : s = 0 := Nat.le_zero.1 (Nat.le_trans hhi (of_decide_eq_true (by kernel_rfl)))
      obtain rfl : w2 = X := hS
      have cc := hD.cell1
      clear hd
      simp only [Array.getD_eq_getD_getElem?] at e24
      go_simp
      exact hK _ _ rfl (.inl (Chg.refl _ _)) rfl
    · intro s hlo hhi a w2 hS hd hk K hK
      have e25 : a.tmps.getD 25 undef = .slice A1 d.T.length n1 := (Known.of (j := 14) (hk 25 (of_decide_eq_true (by kernel_rfl))) (by kernel_rfl) (by decide))
      refine track_run rfl ?_
      clear hd
      simp only [Array.getD_eq_getD_getElem?] at e25
      go_simp
      exact hK _ w2 hS (.inl (Chg.refl _ _)) rfl
    · intro s hlo hhi a w2 hS hd hk K hK
      have e21 : a.tmps.getD 21 undef = .int .i64 (q : Int) := (Known.of (j := 10) (hk 21 (of_decide_eq_true (by kernel_rfl))) (by kernel_rfl) (by decide))
      have e26 : a.tmps.getD 26 undef = .int .i64 (d.T.length : Int) := (Known.of (j := 15) (hk 26 (of_decide_eq_true (by kernel_rfl))) (by kernel_rfl) (by decide))
      refine track_run rfl ?_
      clear hd
      simp only [Array.getD_eq_getD_getElem?] at e21 e26
      go_simp
      exact hK _ w2 hS (.inl (Chg.refl _ _)) (congrArg (Value.int .i64) HK2.out)
    · intro s hlo hhi a w2 hS hd hk K hK
      have e20 : a.tmps.getD 20 undef = .slice A1 d.T.length n1 := (Known.of (j := 9) (hk 20 (of_decide_eq_true (by kernel_rfl))) (by kernel_rfl) (by decide))
      have e27 : a.tmps.getD 27 undef = .int .i64 (k : Int) := (Known.of (j := 16) (hk 27 (of_decide_eq_true (by kernel_rfl))) (by kernel_rfl) (by decide))
      refine track_run rfl ?_
      clear hd
      simp only [Array.getD_eq_getD_getElem?] at e20 e27
      go_simp
      exact hK _ w2 hS (.inl (Chg.refl _ _)) rfl
    · intro s hlo hhi a w2 hS hd hk K hK
      have e16 : a.tmps.getD 16 undef = vL := (Known.of (j := 5) (hk 16 (of_decide_eq_true (by kernel_rfl))) (by kernel_rfl) (by decide))
      have e28 : a.tmps.getD 28 undef = .slice A1 k n1 := (Known.of (j := 17) (hk 28 (of_decide_eq_true (by kernel_rfl))) (by kernel_rfl) (by decide))
      refine track_run rfl ?_
      obtain rfl : s = 0 := Nat.le_antisymm (Nat.le_trans hhi (of_decide_eq_true (by kernel_rfl))) (Nat.zero_le _)
      obtain rfl : w2 = X := hS
      refine wp_appB (.tmp 16) (.tmp 28) rfl hD.ownL (Row.hi' hD.ownT.bytes hkl) e16 e28 hl47 (Nat.zero_le _) fun v' x o c b => ?_
      exact hK _ _ c (.inr ⟨.inr (fun u hu => hu), .inr (fun u hu => hu), .inr (fun u hu => hu), .inr (fun u hu => hu), .inr (fun u hu => hu), .inr (fun u hu => hu), .inr (fun u hu => hu), .inr (fun u hu => hu), .inr (fun u hu => hu), .inr (fun u hu => hu), .inr (fun u hu => hu), .inr (fun u hu => hu), .inr (fun u hu => hu), .inr (fun u hu => hu), .inr (fun u hu => hu), .inr (fun u hu => hu), .inr (fun u hu => hu), .inr (fun u hu => hu), .inl (by kernel_rfl), .inl (by kernel_rfl), .inl (by kernel_rfl), .inl (by kernel_rfl), .inl (by kernel_rfl), .inl (by kernel_rfl), .inl (by kernel_rfl), trivial⟩) ⟨by rw [← HL.out]; exact o, b, hD.gL, hD.glt⟩
    · intro s hlo hhi a w2 hS hd hk K hK
      have e11 : a.tmps.getD 11 undef = .pointer (some ⟨g, 0, none⟩) := (Known.of (j := 0) (hk 11 (of_decide_eq_true (by kernel_rfl))) (by kernel_rfl) (by decide))
      refine track_run rfl ?_
      clear hd
      simp only [Array.getD_eq_getD_getElem?] at e11
      go_simp
      exact hK _ w2 hS (.inl (Chg.refl _ _)) rfl
    · intro s hlo hhi a w2 hS hd hk K hK
      have e30 : a.tmps.getD 30 undef = .pointer (some ⟨g, 0, none⟩) := (Known.of (j := 19) (hk 30 (of_decide_eq_true (by kernel_rfl))) (by kernel_rfl) (by decide))
      refine track_run rfl ?_
      clear hd
      simp only [Array.getD_eq_getD_getElem?] at e30
      go_simp
      exact hK _ w2 hS (.inl (Chg.refl _ _)) rfl
    · intro s hlo hhi a w2 hS hd hk K hK
      have e31 : a.tmps.getD 31 undef = .pointer (some ⟨g, 0, none⟩) := (Known.of (j := 20) (hk 31 (of_decide_eq_true (by kernel_rfl))) (by kernel_rfl) (by decide))
      have e29 : NewL g vL L' X w2 (a.tmps.getD 29 undef) := (Known.of (j := 18) (hk 29 (of_decide_eq_true (by kernel_rfl))) (by kernel_rfl) (by decide))
      refine track_run rfl ?_
      obtain rfl : s = 1 := Nat.le_antisymm (Nat.le_trans hhi (of_decide_eq_true (by kernel_rfl))) (Nat.le_trans (of_decide_eq_true (by kernel_rfl)) hlo)
      replace hS : Chg (ownOf vL) X w2 := hS
      obtain ⟨cc, fc⟩ := hD.at0 hS
      obtain ⟨A3, n3, hv⟩ := e29.shape
      rw [hv] at e29
      rw [Array.getD_eq_getD_getElem?] at hv
      clear hd
      simp only [Array.getD_eq_getD_getElem?] at e31
      go_simp
      exact hK undef _ ⟨w2, _, hS, e29, rfl⟩ (.inr ⟨.inr (fun u hu => hu), .inr (fun u hu => hu), .inr (fun u hu => hu), .inr (fun u hu => hu), .inr (fun u hu => hu), .inr (fun u hu => hu), .inr (fun u hu => hu), .inr (fun u hu => hu), .inr (fun u hu => hu), .inr (fun u hu => hu), .inr (fun u hu => hu), .inr (fun u hu => hu), .inr (fun u hu => hu), .inr (fun u hu => hu), .inr (fun u hu => hu), .inr (fun u hu => hu), .inr (fun u hu => hu), .inr (fun u hu => hu), .inr (fun u hu => hu.set), .inr (fun u hu => hu), .inr (fun u hu => hu), .inl (by kernel_rfl), .inl (by kernel_rfl), .inl (by kernel_rfl), .inl (by kernel_rfl), trivial⟩) trivial
    · intro s hlo hhi a w2 hS hd hk K hK
      have e12 : a.tmps.getD 12 undef = .pointer (some ⟨g, 0, none⟩) := (Known.of (j := 1) (hk 12 (of_decide_eq_true (by kernel_rfl))) (by kernel_rfl) (by decide))
      refine track_run rfl ?_
      clear hd
      simp only [Array.getD_eq_getD_getElem?] at e12
      go_simp
      exact hK _ w2 hS (.inl (Chg.refl _ _)) rfl
    · intro s hlo hhi a w2 hS hd hk K hK
      have e32 : a.tmps.getD 32 undef = .pointer (some ⟨g, 0, none⟩) := (Known.of (j := 22) (hk 32 (of_decide_eq_true (by kernel_rfl))) (by kernel_rfl) (by decide))
      refine track_run rfl ?_
      clear hd
      simp only [Array.getD_eq_getD_getElem?] at e32
      go_simp
      exact hK _ w2 hS (.inl (Chg.refl _ _)) rfl
    · intro s hlo hhi a w2 hS hd hk K hK
      have e33 : a.tmps.getD 33 undef = .pointer (some ⟨g, 1, none⟩) := (Known.of (j := 23) (hk 33 (of_decide_eq_true (by kernel_rfl))) (by kernel_rfl) (by decide))
      refine track_run rfl ?_
      obtain rfl : s = 2 := Nat.le_antisymm (Nat.le_trans hhi (of_decide_eq_true (by kernel_rfl))) (Nat.le_trans (of_decide_eq_true (by kernel_rfl)) hlo)
      obtain ⟨x1, v', hS, hv, rfl⟩ := hS
      obtain ⟨cc, fc⟩ := hD.at1 hS hv
      clear hd
      simp only [Array.getD_eq_getD_getElem?] at e33
      go_simp
      exact hK undef _ ⟨x1, v', hS, hv, rfl⟩ (.inr ⟨.inr (fun u hu => hu), .inr (fun u hu => hu), .inr (fun u hu => hu), .inr (fun u hu => hu), .inr (fun u hu => hu), .inr (fun u hu => hu), .inr (fun u hu => hu), .inr (fun u hu => hu), .inr (fun u hu => hu), .inr (fun u hu => hu), .inr (fun u hu => hu), .inr (fun u hu => hu), .inr (fun u hu => hu), .inr (fun u hu => hu), .inr (fun u hu => hu), .inr (fun u hu => hu), .inr (fun u hu => hu), .inr (fun u hu => hu), .inr (fun u hu => hu.set), .inr (fun u hu => hu), .inr (fun u hu => hu), .inr (fun u hu => hu), .inr (fun u hu => hu), .inr (fun u hu => hu), .inl (by kernel_rfl), trivial⟩) trivial
  -- END two
  · intro f x hS hk'
    simp only [filled, List.foldl_cons, List.foldl_nil]
    simp only [Act.put, List.setIfInBounds_toArray, List.set_cons_succ, List.set_cons_zero]
    go_wp2
    go_ret
    obtain ⟨F', r1, r2, r3⟩ := SyncS.done hD hS HLL.out
    exact ⟨F', rfl, by unfold dcrash; rw [← HT.out, HK.out, HL.out]; exact r1, fun b hb => (r2 b hb).imp id fun q => Nat.le_trans cX.size q, (cX.mono fun _ _ => False.elim).trans r3⟩

end Go.Proofs.Ytclbbddpedcfjaa
