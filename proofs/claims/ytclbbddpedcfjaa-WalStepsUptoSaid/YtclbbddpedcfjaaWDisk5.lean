/-
  Walks: what is done to a disk; what the chapter's example fixes.
-/
import Derived.Test.YtclbbddpedcfjaaWDisk4
namespace Go.Proofs.Ytclbbddpedcfjaa
open Go.RowKit

/-- A row of slices that the translation has laid in a block of its own. -/
theorem rows_litG {G : Nat → Prop} {W : World} {t : TypeId} {us : List Value} {bss : List (List UInt8)} (hn : bss.length = us.length) (hm : us.length ≤ maxLen) (hg : G W.heap.size)
    (h : ∀ (i : Nat) (u : Value) (b : List UInt8), us[i]? = some u → bss[i]? = some b → Bytes G W u b) :
    Rows G (W.alloc (.cells us.toArray t)) (.slice (some ⟨W.heap.size, 0, none⟩) us.length us.length) bss := by
  refine ⟨_, us.length, by rw [hn], by omega, hm, fun h => (Option.some_ne_none _ h).elim, fun i b hi => ?_⟩
  have hlt : i < us.length := by have := (List.getElem?_eq_some_iff.1 hi).1; omega
  refine ⟨W.heap.size, 0, [us[i]], rfl, hg, by simp, rfl, ⟨_, rfl, ?_⟩, fun j u hj => ?_⟩
  · exact (h i us[i] b (by simp [hlt]) hi).kept (S := none') ((Chg.refl _ _).alloc _) (fun _ _ => id)
  · cases j with
    | zero =>
      simp at hj; subst hj
      rw [cell_of_row _ _ _ _ _ _ (heap_alloc_new W _)]
      simp [hlt]
    | succ j => simp at hj
theorem rows_lit1G {G : Nat → Prop} {W : World} {t : TypeId} {u : Value} {b : List UInt8} {g : Nat} (h : Bytes G W u b) (hG : G W.heap.size) (hg : W.heap.size = g := by first | rfl | simp) : Rows G (W.alloc (.cells #[u] t)) (.slice (some ⟨g, 0, none⟩) 1 1) [b] := by
  subst hg
  exact rows_litG (us := [u]) rfl (by simp [maxLen]) hG fun i u' b' h1 h2 => by
    match i, h1, h2 with
    | 0, h1, h2 => simp at h1 h2; subst h1; subst h2; exact h
theorem rows_lit2G {G : Nat → Prop} {W : World} {t : TypeId} {u v : Value} {b c : List UInt8} {g : Nat} (h : Bytes G W u b) (k : Bytes G W v c) (hG : G W.heap.size) (hg : W.heap.size = g := by first | rfl | simp) : Rows G (W.alloc (.cells #[u, v] t)) (.slice (some ⟨g, 0, none⟩) 2 2) [b, c] := by
  subst hg
  exact rows_litG (us := [u, v]) rfl (by simp [maxLen]) hG fun i u' b' h1 h2 => by
    match i, h1, h2 with
    | 0, h1, h2 => simp at h1 h2; subst h1; subst h2; exact h
    | 1, h1, h2 => simp at h1 h2; subst h1; subst h2; exact k
theorem bytes_constG {G : Nat → Prop} {W : World} {cur : Array Value} {fr : Nat × Nat} {bs : List UInt8} {n g : Nat} (hn : bs.length = n) (hm : n ≤ 1000000) (hc : cur = (bs.map vb).toArray) (hG : G W.heap.size) (hg : W.heap.size = g := by first | rfl | simp) : Bytes G (W.alloc (.cells cur 5 fr)) (.slice (some ⟨g, 0, none⟩) n n) bs := by
  subst hc
  subst hg
  exact Row.mono (bytes_block (heap_alloc_new W _) hn (Nat.le_refl _) (by unfold maxLen; omega) (fun j x hj => by simp [hj])) fun b _ e => by rw [e]; exact hG

/-- Bytes behind the tail: the disk then, the error. -/
def dappE (d : Dk) (b : List UInt8) : Dk × Nat := if d.L.length + d.T.length + b.length ≤ 4194304 then (dapp d b, 0) else (d, 3)

theorem w_dappE {F G : Nat → Prop} {w : World} {g : Nat} {d : Dk} {v : Value} {bss : List (List UInt8)} (h : IsDisk F w g d) (hr : Rows G w v bss) (hb : ∀ b ∈ bss, b.length ≤ 140737488355328) (hG : ∀ b, G b → ¬ F b) :
    Calls Try.prog 24 #[.pointer (some ⟨g, 0, none⟩), v] w fun e w' => ∃ F', e = .returned (.int .i64 ((dappE d bss.flatten).2 : Nat)) ∧ IsDisk F' w' g (dappE d bss.flatten).1 ∧ Ext F F' w ∧ Chg F w w' := by
  unfold dappE
  by_cases hl : d.L.length + d.T.length + bss.flatten.length ≤ 4194304
  · rw [if_pos hl]
    exact w_dappend_yes h hr hb hG hl
  · rw [if_neg hl]
    refine (w_dappend_no h hr hb (by unfold flen; omega)).mono ?_
    rintro e w' ⟨rfl, c⟩
    exact ⟨F, rfl, h.keep c fun _ _ => id, Ext.refl _ _, c.mono fun _ _ => False.elim⟩

/-- One row that lies in a block laid for it. -/
theorem w_dapp1 {F G : Nat → Prop} {W : World} {g gg : Nat} {d : Dk} {u : Value} {b : List UInt8} {t : TypeId} (h : IsDisk F W g d) (hu : Bytes G W u b) (hb : b.length ≤ 140737488355328) (hG : ∀ b, G b → ¬ F b) (hg : W.heap.size = gg := by first | rfl | simp) :
    Calls Try.prog 24 #[.pointer (some ⟨g, 0, none⟩), .slice (some ⟨gg, 0, none⟩) 1 1] (W.alloc (.cells #[u] t)) fun e w' => ∃ F', e = .returned (.int .i64 ((dappE d b).2 : Nat)) ∧ IsDisk F' w' g (dappE d b).1 ∧ Ext F F' W ∧ Chg F W w' := by
  subst hg
  have hr := rows_lit1G (t := t) (G := fun b => G b ∨ W.heap.size ≤ b) (Row.mono hu fun _ _ => .inl) (.inr (Nat.le_refl _)) rfl
  have h' : IsDisk F (W.alloc (.cells #[u] t)) g d := h.keep ((Chg.refl none' _).alloc _) fun _ _ => id
  have cW : Chg none' W (W.alloc (.cells #[u] t)) := (Chg.refl none' _).alloc _
  have := w_dappE h' hr (by simpa using hb) fun b hb hF => by
    rcases hb with hb | hb
    · exact hG b hb hF
    · have := h.flt b hF; omega
  rw [show [b].flatten = b by simp] at this
  refine this.mono ?_
  rintro e w' ⟨F', rfl, q1, q2, q3⟩
  exact ⟨F', rfl, q1, fun b hb => (q2 b hb).imp id (Nat.le_trans cW.size), (cW.mono fun _ _ => False.elim).trans q3⟩

/-- Something that is done. -/
structure Do6 where
  kind : Int
  b : List UInt8
  kept : Int
def ddo (d : Dk) (x : Do6) : Dk × Nat :=
  if x.kind = 1 then dappE d x.b
  else if x.kind = 2 then (dsync d, 0)
  else if x.kind = 3 then (if x.b.length ≤ 4194304 then (⟨x.b, [], d.n⟩, 0) else (d, 3))
  else if x.kept < 0 then (d, 2) else (dcrash d x.kept.toNat, 0)

theorem dappE_in {d : Dk} {b : List UInt8} (h : d.L.length + d.T.length + b.length ≤ 4194304) : dappE d b = (dapp d b, 0) := if_pos h

theorem w_sync_nil (w : World) : Calls Try.prog 35 #[.pointer none] w fun e w' => e = .returned (.int .i64 1) ∧ w = w' := by
  go_enter Try.func35, Try.ntmps35
  go_wp2
  go_ret
  exact ⟨rfl, rfl⟩

end Go.Proofs.Ytclbbddpedcfjaa
