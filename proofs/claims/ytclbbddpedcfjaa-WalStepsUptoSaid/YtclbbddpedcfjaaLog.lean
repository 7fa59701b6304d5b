/-
  A log in memory: a disk, records, how many of them last; and what it is to be.
-/
import Derived.Test.YtclbbddpedcfjaaWDisk5
import Derived.Test.YtclbbddpedcfjaaWFrames4
import Derived.Test.YtclbbddpedcfjaaFrames2
import Derived.Test.YtclbbddpedcfjaaRecs2
import Derived.Test.YtclbbddpedcfjaaBss
namespace Go.Proofs.Ytclbbddpedcfjaa
open Go.RowKit

structure Lg where
  d : Dk
  l : List Rec
  last : Nat

/-- The disk's bytes are the records' frames; those that last, last there. -/
structure LgOk (lg : Lg) : Prop where
  ok : okAll lg.l
  last : lg.last ≤ lg.l.length
  L : lg.d.L = frames (lg.l.take lg.last)
  all : lg.d.L ++ lg.d.T = frames lg.l

structure LogB (F : Nat → Prop) (w : World) (g gd : Nat) (FD : Nat → Prop) (vl : Value) (lg : Lg) : Prop where
  heap : w.heap[g]? = some (.cells #[.pointer (some ⟨gd, 0, none⟩), vl, .int .i64 (lg.last : Int)] 72 (0, 0))
  disk : IsDisk FD w gd lg.d
  recs : OwnRG (fun b => ¬ F b) 0 w vl lg.l
  gD : ¬ FD g
  gl : vl.ownBlock ≠ some g
  lD : ∀ b, vl.ownBlock = some b → ¬ FD b
  fg : F g
  fD : ∀ b, FD b → F b
  fl : ∀ b, vl.ownBlock = some b → F b
  flt : ∀ b, F b → b < w.heap.size

def IsLog (F : Nat → Prop) (w : World) (g : Nat) (lg : Lg) : Prop := ∃ gd FD vl, LogB F w g gd FD vl lg ∧ LgOk lg

theorem long_max {lg : Lg} (h : LgOk lg) {FD : Nat → Prop} {w : World} {gd : Nat} (hd : IsDisk FD w gd lg.d) : long lg.l ≤ 4194304 := by
  have h1 := hd.len
  have h2 := congrArg List.length h.all
  rw [List.length_append, frames_len] at h2
  omega

section
variable {F S : Nat → Prop} {w w' : World} {g gd : Nat} {FD : Nat → Prop} {vl : Value} {lg : Lg}
theorem LogB.keep (h : LogB F w g gd FD vl lg) (c : Chg S w w') (hS : ∀ b, F b → ¬ S b) (hS' : ∀ b, S b → F b ∨ False) : LogB F w' g gd FD vl lg :=
  ⟨(c.block g (h.flt g h.fg) (hS g h.fg)).trans h.heap, h.disk.keep c fun b hb => hS b (h.fD b hb), h.recs.keep c (fun b hb => hS b (h.fl b hb)) fun b hb hs => by
    rcases hS' b hs with q | q
    · exact hb q
    · exact q, h.gD, h.gl, h.lD, h.fg, h.fD, h.fl, fun b hb => Nat.lt_of_lt_of_le (h.flt b hb) c.size⟩
theorem LogB.keep0 (h : LogB F w g gd FD vl lg) (c : Chg none' w w') : LogB F w' g gd FD vl lg := h.keep c (fun _ _ => id) fun _ => False.elim
theorem IsLog.keep0 (h : IsLog F w g lg) (c : Chg none' w w') : IsLog F w' g lg := let ⟨gd, FD, vl, q, k⟩ := h; ⟨gd, FD, vl, q.keep0 c, k⟩
theorem IsLog.flt (h : IsLog F w g lg) : ∀ b, F b → b < w.heap.size := let ⟨_, _, _, q, _⟩ := h; q.flt
theorem IsLog.ok (h : IsLog F w g lg) : LgOk lg := let ⟨_, _, _, _, k⟩ := h; k
theorem IsLog.max (h : IsLog F w g lg) : long lg.l ≤ 4194304 := let ⟨_, _, _, q, k⟩ := h; long_max k q.disk
theorem LogB.cell0 (h : LogB F w g gd FD vl lg) : w.cell? ⟨g, 0, none⟩ = some (.pointer (some ⟨gd, 0, none⟩)) := by rw [cell_of_row _ _ _ _ _ _ h.heap]; rfl
theorem LogB.cell1 (h : LogB F w g gd FD vl lg) : w.cell? ⟨g, 1, none⟩ = some vl := by rw [cell_of_row _ _ _ _ _ _ h.heap]; rfl
theorem LogB.cell2 (h : LogB F w g gd FD vl lg) : w.cell? ⟨g, 2, none⟩ = some (.int .i64 (lg.last : Int)) := by rw [cell_of_row _ _ _ _ _ _ h.heap]; rfl
theorem LogB.free (h : LogB F w g gd FD vl lg) (i : Nat) : w.frozen? ⟨g, i, none⟩ = false := by simp [World.frozen?, h.heap]
theorem LogB.glt (h : LogB F w g gd FD vl lg) : g < w.heap.size := h.flt g h.fg
theorem LogB.shape (h : LogB F w g gd FD vl lg) : ∃ A c, vl = .slice A lg.l.length c ∧ lg.l.length ≤ c ∧ c ≤ maxLen := h.recs.own.recs.shape

/-- The disk is another one. -/
theorem LogB.redisk {FD' : Nat → Prop} {d' : Dk} (h : LogB F w g gd FD vl lg) (hd : IsDisk FD' w' gd d') (x : Ext FD FD' w) (c : Chg FD w w') : LogB (fun b => F b ∨ FD' b) w' g gd FD' vl ⟨d', lg.l, lg.last⟩ := by
  have hlt : ∀ b, b < w.heap.size → FD' b → FD b := fun b hb hf => by
    rcases x b hf with q | q
    · exact q
    · omega
  refine ⟨(c.block g (h.flt g h.fg) h.gD).trans h.heap, hd, ?_, fun e => h.gD (hlt g (h.flt g h.fg) e), h.gl, fun b e q => h.lD b e (hlt b (h.flt b (h.fl b e)) q), .inl h.fg, fun b => .inr, fun b e => .inl (h.fl b e), fun b hb => ?_⟩
  · have h3 := h.recs.mono (G' := fun b => ¬ (F b ∨ FD' b)) fun b hb hn => fun q => by
      rcases q with q | q
      · exact hn q
      · exact hn (h.fD b (hlt b hb q))
    exact h3.keep c (fun b e => h.lD b e) fun b hb hf => hb (.inl (h.fD b hf))
  · rcases hb with q | q
    · exact Nat.lt_of_lt_of_le (h.flt b q) c.size
    · exact hd.flt b q
/-- How many last is another number. -/
theorem LogB.setLast (h : LogB F w g gd FD vl lg) (n : Nat) : LogB F (w.setCell ⟨g, 2, none⟩ (.int .i64 (n : Int))) g gd FD vl ⟨lg.d, lg.l, n⟩ := by
  have cs : Chg (fun b => b = g) w (w.setCell ⟨g, 2, none⟩ (.int .i64 (n : Int))) := (Chg.refl (fun b => b = g) _).setCell (.inr rfl) _
  exact ⟨by rw [heap_setCell_at h.heap]; rfl, h.disk.keep cs fun b hb e => h.gD (e ▸ hb), h.recs.keep cs (fun b hb e => h.gl (e ▸ hb)) fun b hb e => hb (e ▸ h.fg), h.gD, h.gl, h.lD, h.fg, h.fD, h.fl, fun b hb => Nat.lt_of_lt_of_le (h.flt b hb) cs.size⟩
/-- The records are others. -/
theorem LogB.setRecs {v' : Value} {l' : List Rec} {w2 : World} {S' : Nat → Prop} (h : LogB F w g gd FD vl lg) (c : Chg S' w w2) (hS : ∀ b, S' b → vl.ownBlock = some b) (o : OwnRG (fun b => ¬ F b) 0 w2 v' l') (b : ∀ b, v'.ownBlock = some b → vl.ownBlock = some b ∨ w.heap.size ≤ b) :
    LogB (fun b => F b ∨ v'.ownBlock = some b) (w2.setCell ⟨g, 1, none⟩ v') g gd FD v' ⟨lg.d, l', lg.last⟩ := by
  have cs : Chg (fun b => b = g) w2 (w2.setCell ⟨g, 1, none⟩ v') := (Chg.refl (fun b => b = g) _).setCell (.inr rfl) _
  have hg := h.flt g h.fg
  have hh := (c.block g hg fun q => h.gl (hS g q)).trans h.heap
  have hvg : v'.ownBlock ≠ some g := fun e => by rcases b g e with q | q; exact h.gl q; omega
  have hs2 := c.size
  have hs3 := cs.size
  refine ⟨by rw [heap_setCell_at hh]; rfl, (h.disk.keep c fun q hq e => h.lD q (hS q e) hq).keep cs fun q hq e => h.gD (e ▸ hq), ?_, h.gD, hvg, fun q e hd => ?_, .inl h.fg, fun q hq => .inl (h.fD q hq), fun q e => .inr e, fun q hq => ?_⟩
  · obtain ⟨ps, e, q1, q2⟩ := o
    have h3 : OwnRG (fun b => ¬ (F b ∨ v'.ownBlock = some b)) 0 w2 v' l' := ⟨ps, e, q1, fun p hp => Row.mono (q2 p hp) fun b _ hb => ⟨fun q => q.elim hb.1 hb.2, hb.2⟩⟩
    exact h3.keep cs (fun q hq e => hvg (e ▸ hq)) fun q hq e => hq (.inl (e ▸ h.fg))
  · rcases b q e with r | r
    · exact h.lD q r hd
    · have := h.disk.flt q hd; omega
  · rcases hq with r | r
    · have := h.flt q r; omega
    · have := (o.base_ q r).2; omega

/-- A log at its making, over a disk and records that are new. -/
theorem LogB.made {W : World} {gd : Nat} {FD : Nat → Prop} {vl : Value} {t : TypeId} {lg : Lg} (ht : t = 72) (base : Nat) (hb : base ≤ W.heap.size) (hd : IsDisk FD W gd lg.d) (hl : OwnRG (fun b => ¬ FD b) base W vl lg.l)
    (hFD : ∀ b, FD b → base ≤ b) (hlD : ∀ b, vl.ownBlock = some b → ¬ FD b) :
    LogB (fun b => FD b ∨ vl.ownBlock = some b ∨ b = W.heap.size) (W.alloc (.cells #[.pointer (some ⟨gd, 0, none⟩), vl, .int .i64 (lg.last : Int)] t)) W.heap.size gd FD vl lg := by
  subst ht
  have cA : Chg none' W (W.alloc (.cells #[.pointer (some ⟨gd, 0, none⟩), vl, .int .i64 (lg.last : Int)] 72)) := (Chg.refl _ _).alloc _
  refine ⟨heap_alloc_new W _, hd.keep cA fun _ _ => id, ?_, fun e => Nat.lt_irrefl _ (hd.flt _ e), fun e => Nat.lt_irrefl _ (hl.base_ _ e).2, hlD, .inr (.inr rfl), fun b => .inl, fun b e => .inr (.inl e), fun b hb => ?_⟩
  · obtain ⟨ps, e, q1, q2⟩ := hl
    have h3 : OwnRG (fun b => ¬ (FD b ∨ vl.ownBlock = some b ∨ b = W.heap.size)) base W vl lg.l := ⟨ps, e, q1, fun p hp => Row.mono (q2 p hp) fun b hb hg => ⟨fun hh => by
      rcases hh with r | r | r
      · exact hg.1 r
      · exact hg.2 r
      · omega, hg.2⟩⟩
    exact (h3.keep cA (fun _ _ => id) fun _ _ => id).less (Nat.zero_le _)
  · have : W.heap.size ≤ (W.alloc (.cells #[.pointer (some ⟨gd, 0, none⟩), vl, .int .i64 (lg.last : Int)] 72)).heap.size := cA.size
    rcases hb with r | r | r
    · have := hd.flt b r; omega
    · have := (hl.base_ b r).2; omega
    · subst r; simp
end

set_option maxRecDepth 100000 in
set_option maxHeartbeats 400000 in
theorem w_wnew (w : World) : Calls Try.prog 11 #[] w fun e w' => ∃ g F, e = .returned (.pointer (some ⟨g, 0, none⟩)) ∧ IsLog F w' g ⟨⟨[], [], 0⟩, [], 0⟩ ∧ Ext none' F w ∧ Chg none' w w' := by
  go_enter Try.func11, Try.ntmps11
  go_wp2_with fail
  refine (w_new _).mono ?_
  rintro e w1 ⟨gd, FD, rfl, hd, xd, c1⟩
  go_wp2
  go_ret
  have hm := LogB.made (lg := ⟨⟨[], [], 0⟩, [], 0⟩) (t := 72) rfl w.heap.size c1.size hd (OwnRG.nil _ _ _) (fun b hb => (xd b hb).elim False.elim id) (fun b e => by simp [Value.ownBlock] at e)
  exact ⟨_, _, rfl, ⟨_, _, _, hm, ⟨fun r hr => by simp at hr, Nat.le_refl _, rfl, rfl⟩⟩, fun b hb => by
    rcases hb with r | r | r
    · exact xd b r
    · simp [Value.ownBlock] at r
    · subst r; exact .inr c1.size, c1.alloc _⟩

section
variable {F : Nat → Prop} {w : World} {g : Nat} {lg : Lg}
set_option maxRecDepth 100000 in
set_option maxHeartbeats 400000 in
theorem w_wlasting (h : IsLog F w g lg) :
    Calls Try.prog 16 #[.pointer (some ⟨g, 0, none⟩)] w fun e w' => e = .returned (.int .i64 (lg.last : Int)) ∧ w = w' := by
  obtain ⟨gd, FD, vl, h, hok⟩ := h
  have c2 := h.cell2
  go_enter Try.func16, Try.ntmps16
  go_wp2
  go_ret
  exact ⟨rfl, rfl⟩
set_option maxRecDepth 100000 in
set_option maxHeartbeats 400000 in
theorem w_wpending (h : IsLog F w g lg) :
    Calls Try.prog 17 #[.pointer (some ⟨g, 0, none⟩)] w fun e w' => e = .returned (.int .i64 ((lg.l.length : Int) - lg.last)) ∧ Chg none' w w' := by
  have hl := h.ok.last
  have hm := h.max
  have hn := len_long lg.l
  obtain ⟨gd, FD, vl, h, hok⟩ := h
  have c1 := h.cell1
  have c2 := h.cell2
  obtain ⟨A, c, rfl, _, _⟩ := h.shape
  clear h
  go_enter Try.func17, Try.ntmps17
  go_wp2
  go_quiet (fail)
  go_wp2
  go_ret
  refine ⟨?_, (Chg.refl _ _).drewN _⟩
  first | rfl | (refine congrArg (fun x => Ending.returned (Value.int IntKind.i64 x)) ?_; simp <;> omega)
set_option maxRecDepth 100000 in
set_option maxHeartbeats 400000 in
theorem w_wdisk (h : IsLog F w g lg) :
    Calls Try.prog 22 #[.pointer (some ⟨g, 0, none⟩)] w fun e w' => ∃ g' F', e = .returned (.pointer (some ⟨g', 0, none⟩)) ∧ IsDisk F' w' g' lg.d ∧ Ext none' F' w ∧ Chg none' w w' := by
  obtain ⟨gd, FD, vl, h, hok⟩ := h
  have c0 := h.cell0
  go_enter Try.func22, Try.ntmps22
  go_wp2_with fail
  refine (w_dcopy h.disk).mono ?_
  rintro e w1 ⟨g', F', rfl, q1, q2, q3⟩
  go_wp2
  go_ret
  exact ⟨g', F', rfl, q1, q2, q3⟩
end

end Go.Proofs.Ytclbbddpedcfjaa
