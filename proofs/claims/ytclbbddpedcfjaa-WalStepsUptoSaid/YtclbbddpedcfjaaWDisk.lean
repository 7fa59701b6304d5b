/-
  A disk in memory: three cells, and two rows of bytes of its own.
-/
import Derived.Test.YtclbbddpedcfjaaBase2
import Derived.Test.YtclbbddpedcfjaaRegion3
import Derived.Deep.Cut
namespace Go.Proofs.Ytclbbddpedcfjaa
open Go.RowKit

/-- A disk: what lasts, what may not, how often it was synced. -/
structure Dk where
  L : List UInt8
  T : List UInt8
  n : Nat

/-- The blocks of 'F'' are those of 'F', or new ones. -/
def Ext (F F' : Nat → Prop) (w : World) : Prop := ∀ b, F' b → F b ∨ w.heap.size ≤ b
theorem Ext.refl (F : Nat → Prop) (w : World) : Ext F F w := fun _ h => .inl h
theorem Ext.trans {F F' F'' : Nat → Prop} {w w' : World} (h : Ext F F' w) (k : Ext F' F'' w') (hs : w.heap.size ≤ w'.heap.size) : Ext F F'' w := fun b hb => by
  rcases k b hb with q | q
  · exact h b q
  · exact .inr (Nat.le_trans hs q)
/-- A call that may change 'F', and one behind it that may change what 'F' has become. -/
theorem Chg.ext {F F' : Nat → Prop} {a b c : World} (h : Chg F a b) (x : Ext F F' a) (k : Chg F' b c) : Chg F a c :=
  h.trans' k fun i hi q => (x i q).elim id fun r => absurd hi (by omega)

structure DiskB (F : Nat → Prop) (w : World) (g : Nat) (vL vT : Value) (d : Dk) : Prop where
  heap : w.heap[g]? = some (.cells #[vL, vT, .int .i64 (d.n : Int)] 80 (0, 0))
  ownL : OwnB 0 w vL d.L
  ownT : OwnB 0 w vT d.T
  gL : vL.ownBlock ≠ some g
  gT : vT.ownBlock ≠ some g
  LT : ∀ b, vL.ownBlock = some b → vT.ownBlock ≠ some b
  fg : F g
  fL : ∀ b, vL.ownBlock = some b → F b
  fT : ∀ b, vT.ownBlock = some b → F b
  flt : ∀ b, F b → b < w.heap.size
  len : d.L.length + d.T.length ≤ 4194304

def IsDisk (F : Nat → Prop) (w : World) (g : Nat) (d : Dk) : Prop := ∃ vL vT, DiskB F w g vL vT d

section
variable {F S : Nat → Prop} {w w' : World} {g : Nat} {vL vT : Value} {d : Dk}
theorem DiskB.keep (h : DiskB F w g vL vT d) (c : Chg S w w') (hS : ∀ b, F b → ¬ S b) : DiskB F w' g vL vT d :=
  ⟨(c.block g (h.flt g h.fg) (hS g h.fg)).trans h.heap, h.ownL.keep c fun b hb => hS b (h.fL b hb), h.ownT.keep c fun b hb => hS b (h.fT b hb), h.gL, h.gT, h.LT, h.fg, h.fL, h.fT, fun b hb => Nat.lt_of_lt_of_le (h.flt b hb) c.size, h.len⟩
theorem IsDisk.keep (h : IsDisk F w g d) (c : Chg S w w') (hS : ∀ b, F b → ¬ S b) : IsDisk F w' g d := let ⟨vL, vT, q⟩ := h; ⟨vL, vT, q.keep c hS⟩
theorem IsDisk.flt (h : IsDisk F w g d) : ∀ b, F b → b < w.heap.size := let ⟨_, _, q⟩ := h; q.flt
theorem IsDisk.len (h : IsDisk F w g d) : d.L.length + d.T.length ≤ 4194304 := let ⟨_, _, q⟩ := h; q.len
theorem DiskB.glt (h : DiskB F w g vL vT d) : g < w.heap.size := h.flt g h.fg
theorem DiskB.cell0 (h : DiskB F w g vL vT d) : w.cell? ⟨g, 0, none⟩ = some vL := by rw [cell_of_row _ _ _ _ _ _ h.heap]; rfl
theorem DiskB.cell1 (h : DiskB F w g vL vT d) : w.cell? ⟨g, 1, none⟩ = some vT := by rw [cell_of_row _ _ _ _ _ _ h.heap]; rfl
theorem DiskB.cell2 (h : DiskB F w g vL vT d) : w.cell? ⟨g, 2, none⟩ = some (.int .i64 (d.n : Int)) := by rw [cell_of_row _ _ _ _ _ _ h.heap]; rfl
theorem DiskB.free (h : DiskB F w g vL vT d) (i : Nat) : w.frozen? ⟨g, i, none⟩ = false := by simp [World.frozen?, h.heap]

/-- A block of the disk's own, at its making. -/
theorem DiskB.made {W : World} {vL vT : Value} {t : TypeId} {n : Nat} {L T : List UInt8} (ht : t = 80) (base : Nat) (hb : base ≤ W.heap.size) (hL : OwnB base W vL L) (hT : OwnB base W vT T)
    (hLT : ∀ b, vL.ownBlock = some b → vT.ownBlock ≠ some b) (hl : L.length + T.length ≤ 4194304) :
    DiskB (fun b => base ≤ b ∧ b < W.heap.size + 1) (W.alloc (.cells #[vL, vT, .int .i64 (n : Int)] t)) W.heap.size vL vT ⟨L, T, n⟩ := by
  subst ht
  exact ⟨heap_alloc_new W _, (hL.alloc _).more (Nat.zero_le _), (hT.alloc _).more (Nat.zero_le _), fun e => Nat.lt_irrefl _ (hL.lt _ e), fun e => Nat.lt_irrefl _ (hT.lt _ e), hLT, ⟨hb, by omega⟩,
    fun b e => ⟨hL.base_ b e, by have := hL.lt b e; omega⟩, fun b e => ⟨hT.base_ b e, by have := hT.lt b e; omega⟩, fun b hb => by simpa using hb.2, hl⟩

/-- The tail is another one. -/
theorem DiskB.setT {v' : Value} {T' : List UInt8} {w2 : World} (h : DiskB F w g vL vT d) (c : Chg (ownOf vT) w w2) (o : OwnB 0 w2 v' T') (b : ∀ b, v'.ownBlock = some b → vT.ownBlock = some b ∨ w.heap.size ≤ b) (hl : d.L.length + T'.length ≤ 4194304) :
    DiskB (fun b => F b ∨ w.heap.size ≤ b ∧ b < w2.heap.size) (w2.setCell ⟨g, 1, none⟩ v') g vL v' ⟨d.L, T', d.n⟩ := by
  have hg := h.glt
  have hh : w2.heap[g]? = some (.cells #[vL, vT, .int .i64 (d.n : Int)] 80 (0, 0)) := (c.block g hg h.gT).trans h.heap
  have cs : Chg (fun b => b = g) w2 (w2.setCell ⟨g, 1, none⟩ v') := (Chg.refl (fun b => b = g) _).setCell (.inr rfl) _
  have hsz := cs.size
  have hvg : v'.ownBlock ≠ some g := fun e => by rcases b g e with q | q; exact h.gT q; omega
  refine ⟨by rw [heap_setCell_at hh]; rfl, (h.ownL.keep c fun b e q => h.LT b e q).keep cs (fun b e q => h.gL (q ▸ e)), o.keep cs (fun b e q => hvg (q ▸ e)), h.gL, hvg, fun b' e q => ?_, .inl h.fg, fun b' e => .inl (h.fL b' e), fun b' e => ?_, fun b' hb => ?_, hl⟩
  · rcases b b' q with r | r
    · exact h.LT b' e r
    · have := h.ownL.lt b' e; omega
  · rcases b b' e with r | r
    · exact .inl (h.fT b' r)
    · exact .inr ⟨r, o.lt b' e⟩
  · rcases hb with hb | hb
    · have := h.flt b' hb; have := c.size; omega
    · omega
/-- What lasts is another one, and no tail. -/
theorem DiskB.setL {v' : Value} {L' : List UInt8} {w2 : World} {S' : Nat → Prop} (h : DiskB F w g vL vT d) (c : Chg S' w w2) (hS : ∀ b, S' b → vL.ownBlock = some b) (o : OwnB 0 w2 v' L') (b : ∀ b, v'.ownBlock = some b → vL.ownBlock = some b ∨ w.heap.size ≤ b) (hl : L'.length ≤ 4194304) :
    DiskB (fun b => F b ∨ w.heap.size ≤ b ∧ b < w2.heap.size) ((w2.setCell ⟨g, 0, none⟩ v').setCell ⟨g, 1, none⟩ (.slice none 0 0)) g v' (.slice none 0 0) ⟨L', [], d.n⟩ := by
  have hg := h.glt
  have hgS : ¬ S' g := fun q => h.gL (hS g q)
  have hh : w2.heap[g]? = some (.cells #[vL, vT, .int .i64 (d.n : Int)] 80 (0, 0)) := (c.block g hg hgS).trans h.heap
  have cs : Chg (fun b => b = g) w2 ((w2.setCell ⟨g, 0, none⟩ v').setCell ⟨g, 1, none⟩ (.slice none 0 0)) := ((Chg.refl (fun b => b = g) _).setCell (.inr rfl) _).setCell (.inr rfl) _
  have hsz := cs.size
  have hvg : v'.ownBlock ≠ some g := fun e => by rcases b g e with q | q; exact h.gL q; omega
  refine ⟨by rw [heap_setCell_at (heap_setCell_at hh v')]; rfl, o.keep cs (fun b e q => hvg (q ▸ e)), OwnB.nil _ _, hvg, by simp [Value.ownBlock], fun b' e => by simp [Value.ownBlock], .inl h.fg, fun b' e => ?_, fun b' e => by simp [Value.ownBlock] at e, fun b' hb => ?_, by simpa using hl⟩
  · rcases b b' e with r | r
    · exact .inl (h.fL b' r)
    · exact .inr ⟨r, o.lt b' e⟩
  · rcases hb with hb | hb
    · have := h.flt b' hb; have := c.size; omega
    · omega
theorem DiskB.setN (h : DiskB F w g vL vT d) (m : Nat) : DiskB F (w.setCell ⟨g, 2, none⟩ (.int .i64 (m : Int))) g vL vT ⟨d.L, d.T, m⟩ := by
  have cs : Chg (fun b => b = g) w (w.setCell ⟨g, 2, none⟩ (.int .i64 (m : Int))) := (Chg.refl (fun b => b = g) _).setCell (.inr rfl) _
  exact ⟨by rw [heap_setCell_at h.heap]; rfl, h.ownL.keep cs (fun b e q => h.gL (q ▸ e)), h.ownT.keep cs (fun b e q => h.gT (q ▸ e)), h.gL, h.gT, h.LT, h.fg, h.fL, h.fT, fun b hb => Nat.lt_of_lt_of_le (h.flt b hb) cs.size, h.len⟩
end

theorem ext_new {F : Nat → Prop} {w w2 : World} : Ext F (fun b => F b ∨ w.heap.size ≤ b ∧ b < w2.heap.size) w := fun b hb => hb.imp id And.left

set_option maxRecDepth 100000 in
set_option maxHeartbeats 400000 in
theorem w_clone {F : Nat → Prop} {v : Value} {bs : List UInt8} (w : World) (h : Bytes F w v bs) (hb : bs.length ≤ 140737488355328) :
    Calls Try.prog 41 #[v] w fun e w' => ∃ v', e = .returned v' ∧ OwnB w.heap.size w' v' bs ∧ Chg none' w w' := by
  go_enter Try.func41, Try.ntmps41
  go_wp2_with (at_builtin; refine wpList_appB rfl (.const (.slice none 0 0)) (.tmp 3) rfl (OwnB.nil w.heap.size w) h rfl rfl (by simpa using hb) (Nat.le_refl _) ?_; intro v3 w3 o3 c3 b3)
  go_ret
  exact ⟨_, rfl, o3, c3.mono fun i _ e => by simp [ownOf, Value.ownBlock] at e⟩

set_option maxRecDepth 100000 in
set_option maxHeartbeats 400000 in
theorem w_new (w : World) : Calls Try.prog 33 #[] w fun e w' => ∃ g F, e = .returned (.pointer (some ⟨g, 0, none⟩)) ∧ IsDisk F w' g ⟨[], [], 0⟩ ∧ Ext none' F w ∧ Chg none' w w' := by
  go_enter Try.func33, Try.ntmps33
  go_wp2
  go_ret
  exact ⟨_, _, rfl, ⟨_, _, DiskB.made (n := 0) rfl w.heap.size (Nat.le_refl _) (OwnB.nil _ _) (OwnB.nil _ _) (fun b e => by simp [Value.ownBlock] at e) (by decide)⟩, fun b hb => .inr hb.1, (Chg.refl _ _).alloc _⟩

set_option maxRecDepth 100000 in
set_option maxHeartbeats 400000 in
theorem w_of {G : Nat → Prop} {v : Value} {bs : List UInt8} (w : World) (h : Bytes G w v bs) (hl : bs.length ≤ 4194304) :
    Calls Try.prog 27 #[v] w fun e w' => ∃ g F, e = .returned (.tuple #[.pointer (some ⟨g, 0, none⟩), .int .i64 0]) ∧ IsDisk F w' g ⟨bs, [], 0⟩ ∧ Ext none' F w ∧ Chg none' w w' := by
  obtain ⟨A, c, rfl⟩ := h.shape
  have hl' : ¬ 4194304 < bs.length := by omega
  go_enter Try.func27, Try.ntmps27
  go_wp2_with fail
  refine (w_clone _ h (by omega)).mono ?_
  rintro e w1 ⟨v1, rfl, o1, c1⟩
  obtain ⟨A1, n1, rfl⟩ := o1.shape
  go_wp2
  go_ret2
  exact ⟨_, _, rfl, ⟨_, _, DiskB.made (n := 0) rfl w.heap.size c1.size o1 (OwnB.nil _ _) (fun b e => by simp [Value.ownBlock]) (by simpa using hl)⟩, fun b hb => .inr hb.1, c1.alloc _⟩

section
variable {F : Nat → Prop} {w : World} {g : Nat} {d : Dk}
set_option maxRecDepth 100000 in
set_option maxHeartbeats 400000 in
theorem w_lasting (h : IsDisk F w g d) :
    Calls Try.prog 25 #[.pointer (some ⟨g, 0, none⟩)] w fun e w' => ∃ v, e = .returned v ∧ OwnB w.heap.size w' v d.L ∧ Chg none' w w' := by
  obtain ⟨vL, vT, h⟩ := h
  have c0 := h.cell0
  go_enter Try.func25, Try.ntmps25
  go_wp2_with fail
  refine (w_clone _ h.ownL.bytes (by have := h.len; omega)).mono ?_
  rintro e w1 ⟨v1, rfl, o1, c1⟩
  go_wp2
  go_ret
  exact ⟨_, rfl, o1, c1⟩
set_option maxRecDepth 100000 in
set_option maxHeartbeats 400000 in
theorem w_tail (h : IsDisk F w g d) :
    Calls Try.prog 42 #[.pointer (some ⟨g, 0, none⟩)] w fun e w' => ∃ v, e = .returned v ∧ OwnB w.heap.size w' v d.T ∧ Chg none' w w' := by
  obtain ⟨vL, vT, h⟩ := h
  have c0 := h.cell1
  go_enter Try.func42, Try.ntmps42
  go_wp2_with fail
  refine (w_clone _ h.ownT.bytes (by have := h.len; omega)).mono ?_
  rintro e w1 ⟨v1, rfl, o1, c1⟩
  go_wp2
  go_ret
  exact ⟨_, rfl, o1, c1⟩
set_option maxRecDepth 100000 in
set_option maxHeartbeats 400000 in
theorem w_dbytes (h : IsDisk F w g d) :
    Calls Try.prog 26 #[.pointer (some ⟨g, 0, none⟩)] w fun e w' => ∃ v, e = .returned v ∧ OwnB w.heap.size w' v (d.L ++ d.T) ∧ Chg none' w w' := by
  have hl := h.len
  go_enter Try.func26, Try.ntmps26
  go_wp2_with fail
  refine (w_lasting h).mono ?_
  rintro e w1 ⟨v1, rfl, o1, c1⟩
  have h1 := h.keep c1 fun _ _ => id
  go_wp2_with fail
  refine (w_tail h1).mono ?_
  rintro e w2 ⟨v2, rfl, o2, c2⟩
  have o1' := o1.keep c2 fun _ => none_own
  go_wp2_with (at_builtin; refine wpList_appB rfl (.tmp 4) (.tmp 6) rfl o1' o2.bytes rfl rfl (by omega) (c1.trans c2).size ?_; intro v3 w3 o3 c3 b3)
  go_ret
  exact ⟨_, rfl, o3, (c1.trans c2).trans' c3 fun i hi e => by have := o1.base_ i e; omega⟩
end

end Go.Proofs.Ytclbbddpedcfjaa
