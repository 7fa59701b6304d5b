/-
  Walks: a disk that is replaced, and one that is copied.
-/
import Derived.Test.YtclbbddpedcfjaaWDisk3
import Derived.Deep.RegionHeld3
namespace Go.Proofs.Ytclbbddpedcfjaa
open Go.RowKit

theorem w_drepl_no {w : World} {g : Nat} {v : Value} {G : Nat → Prop} {bs : List UInt8} (h : Bytes G w v bs) (hl : 4194304 < bs.length) :
    Calls Try.prog 40 #[.pointer (some ⟨g, 0, none⟩), v] w fun e w' => e = .returned (.int .i64 3) ∧ w = w' := by
  obtain ⟨A, c, rfl⟩ := h.shape
  go_enter Try.func40, Try.ntmps40
  go_wp2
  go_ret
  exact ⟨rfl, rfl⟩

set_option maxRecDepth 100000 in
set_option maxHeartbeats 1000000 in
theorem w_drepl {F : Nat → Prop} {w : World} {g : Nat} {d : Dk} (h : IsDisk F w g d) {v : Value} {G : Nat → Prop} {bs : List UInt8} (hb : Bytes G w v bs) (hl : bs.length ≤ 4194304) :
    Calls Try.prog 40 #[.pointer (some ⟨g, 0, none⟩), v] w fun e w' => ∃ F', e = .returned (.int .i64 0) ∧ IsDisk F' w' g ⟨bs, [], d.n⟩ ∧ Ext F F' w ∧ Chg F w w' := by
  obtain ⟨vL, vT, h⟩ := h
  obtain ⟨A, c, rfl⟩ := hb.shape
  have hl' : ¬ 4194304 < bs.length := by omega
  go_enter Try.func40, Try.ntmps40
  go_wp2_with fail
  refine (w_clone _ hb (by omega)).mono ?_
  rintro e w1 ⟨v1, rfl, o1, c1⟩
  have h1 := h.keep c1 fun _ _ => id
  obtain ⟨A1, n1, rfl⟩ := o1.shape
  have k0 := h1.cell0
  have f0 := h1.free 0
  have hh' := heap_setCell_at (i := 0) h1.heap (.slice A1 bs.length n1)
  have k1 : (w1.setCell ⟨g, 0, none⟩ (.slice A1 bs.length n1)).cell? ⟨g, 1, none⟩ = some vT := by rw [cell_of_row _ _ _ _ _ _ hh']; rfl
  have f1 : (w1.setCell ⟨g, 0, none⟩ (.slice A1 bs.length n1)).frozen? ⟨g, 1, none⟩ = false := by simp [World.frozen?, hh']
  have hD := h.setL c1 (fun b => False.elim) (o1.more (Nat.zero_le _)) (fun b hb => .inr (o1.base_ b hb)) hl
  clear hh' h1
  go_wp2
  go_ret
  exact ⟨_, rfl, ⟨_, _, hD⟩, ext_new, ((c1.mono fun _ _ => False.elim).setCell (.inr h.fg) _).setCell (.inr h.fg) _⟩

set_option maxRecDepth 100000 in
set_option maxHeartbeats 4000000 in
theorem w_dcopy {F : Nat → Prop} {w : World} {g : Nat} {d : Dk} (h : IsDisk F w g d) :
    Calls Try.prog 37 #[.pointer (some ⟨g, 0, none⟩)] w fun e w' => ∃ g' F', e = .returned (.pointer (some ⟨g', 0, none⟩)) ∧ IsDisk F' w' g' d ∧ Ext none' F' w ∧ Chg none' w w' := by
  obtain ⟨vL, vT, h⟩ := h
  have k0 := h.cell0
  have k1 := h.cell1
  have k2 := h.cell2
  have hlen := h.len
  have HL : ∀ W : World, (W.cell? ⟨g, 0, none⟩ = some vL ∧ W.cell? ⟨g, 1, none⟩ = some vT ∧ W.cell? ⟨g, 2, none⟩ = some (.int .i64 (d.n : Int)) ∧ Chg none' w W) → Bytes (fun b => vL.ownBlock = some b) W vL d.L := fun W c => h.ownL.bytes.kept c.2.2.2 fun _ _ => id
  have HT : ∀ W : World, (W.cell? ⟨g, 0, none⟩ = some vL ∧ W.cell? ⟨g, 1, none⟩ = some vT ∧ W.cell? ⟨g, 2, none⟩ = some (.int .i64 (d.n : Int)) ∧ Chg none' w W) → Bytes (fun b => vT.ownBlock = some b) W vT d.T := fun W c => h.ownT.bytes.kept c.2.2.2 fun _ _ => id
  have hlL : d.L.length ≤ 140737488355328 := by omega
  have hlT : d.T.length ≤ 140737488355328 := by omega
  have c0 : Chg none' w w.drew := (Chg.refl _ _).drew
  have HS2 : ∀ W : World, (W.cell? ⟨g, 0, none⟩ = some vL ∧ W.cell? ⟨g, 1, none⟩ = some vT ∧ W.cell? ⟨g, 2, none⟩ = some (.int .i64 (d.n : Int)) ∧ Chg none' w W) → ∀ W' : World, Chg none' W W' → (W'.cell? ⟨g, 0, none⟩ = some vL ∧ W'.cell? ⟨g, 1, none⟩ = some vT ∧ W'.cell? ⟨g, 2, none⟩ = some (.int .i64 (d.n : Int)) ∧ Chg none' w W') := fun W c W' k => ⟨k.cell c.1 id, k.cell c.2.1 id, k.cell c.2.2.1 id, c.2.2.2.trans k⟩
  clear h
  go_enter Try.func37, Try.ntmps37
  go_wp2
  go_region_held3 (fun w' => w'.cell? ⟨g, 0, none⟩ = some vL ∧ w'.cell? ⟨g, 1, none⟩ = some vT ∧ w'.cell? ⟨g, 2, none⟩ = some (.int .i64 (d.n : Int)) ∧ Chg none' w w')
    (first | exact ⟨by assumption, by assumption, by assumption, by assumption⟩ | exact HS2 _ (by assumption) _ cL | exact HS2 _ (by assumption) _ cT | (go_split_ands; exact ⟨by go_keep, by go_keep, by go_keep, Chg.alloc (by assumption) _⟩) | go_keep)
    (first | (go_at_call 41; refine (w_clone _ (HL _ (by assumption)) hlL).mono ?_; rintro e w1 ⟨v1, rfl, oL, cL⟩; obtain ⟨A1, n1, rfl⟩ := oL.shape) | (go_at_call 41; refine (w_clone _ (HT _ (by assumption)) hlT).mono ?_; rintro e w2 ⟨v2, rfl, oT, cT⟩; obtain ⟨A2, n2, rfl⟩ := oT.shape))
  go_wp2
  go_ret
  have d1 : Chg none' w w1 := c0.trans cL
  have d2 : Chg none' w w2 := d1.trans cT
  have oL' := (oL.keep cT fun _ => none_own).more (base' := w.heap.size) c0.size
  have oT' := oT.more (base' := w.heap.size) d1.size
  exact ⟨_, _, rfl, ⟨_, _, DiskB.made rfl w.heap.size d2.size oL' oT' (fun b e q => by have := oL.lt b e; have := oT.base_ b q; omega) hlen⟩, fun b hb => .inr hb.1, d2.alloc _⟩

end Go.Proofs.Ytclbbddpedcfjaa
