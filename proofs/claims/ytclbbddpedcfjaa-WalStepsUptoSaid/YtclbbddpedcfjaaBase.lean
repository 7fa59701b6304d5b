/-
  Words for the walks of this seat: bytes as cells, a slice that reads as a list, what a call may have changed.
-/
import Derived.WalkKit
import Derived.Lib.Hide
import Derived.Lib.ConvBytes
import Derived.KernelRfl
import Derived.Deep.LoopGhost
import Derived.Deep.Draws
import Derived.Laws.AppendOwnNone
namespace Go.Proofs.Ytclbbddpedcfjaa
open Go.RowKit

/-- One byte as a cell's value. -/
abbrev vb (b : UInt8) : Value := .int .u8 (b.toNat : Int)
/-- One word as a value. -/
abbrev vw (h : UInt64) : Value := .int .u64 (h.toNat : Int)

/-- 'w'' is 'w' but for new blocks and the blocks of 'S'. -/
structure Chg (S : Nat → Prop) (w w' : World) : Prop where
  os : w'.os = w.os
  tape : w'.tape = w.tape
  output : w'.output = w.output
  size : w.heap.size ≤ w'.heap.size
  block : ∀ k, k < w.heap.size → ¬ S k → w'.heap[k]? = w.heap[k]?

def none' : Nat → Prop := fun _ => False

theorem Chg.refl (S : Nat → Prop) (w : World) : Chg S w w := ⟨rfl, rfl, rfl, Nat.le_refl _, fun _ _ _ => rfl⟩
theorem Chg.trans {S : Nat → Prop} {a b c : World} (h : Chg S a b) (k : Chg S b c) : Chg S a c :=
  ⟨k.os.trans h.os, k.tape.trans h.tape, k.output.trans h.output, Nat.le_trans h.size k.size,
    fun i hi hs => (k.block i (Nat.lt_of_lt_of_le hi h.size) hs).trans (h.block i hi hs)⟩
/-- Behind a call that may change, besides 'S', what was new by then. -/
theorem Chg.trans' {S S' : Nat → Prop} {a b c : World} (h : Chg S a b) (k : Chg S' b c) (hs : ∀ i, i < a.heap.size → S' i → S i) : Chg S a c :=
  ⟨k.os.trans h.os, k.tape.trans h.tape, k.output.trans h.output, Nat.le_trans h.size k.size,
    fun i hi hn => (k.block i (Nat.lt_of_lt_of_le hi h.size) (fun q => hn (hs i hi q))).trans (h.block i hi hn)⟩
theorem Chg.mono {S S' : Nat → Prop} {a b : World} (h : Chg S a b) (hs : ∀ i, i < a.heap.size → S i → S' i) : Chg S' a b :=
  ⟨h.os, h.tape, h.output, h.size, fun i hi hn => h.block i hi (fun q => hn (hs i hi q))⟩
theorem Chg.alloc {S : Nat → Prop} {a b : World} (h : Chg S a b) (o : Obj) : Chg S a (b.alloc o) :=
  h.trans ⟨rfl, rfl, rfl, by simp, fun k hk _ => Below.heap_alloc _ _ _ hk⟩
theorem Chg.drew {S : Nat → Prop} {a b : World} (h : Chg S a b) : Chg S a b.drew := ⟨h.os, h.tape, h.output, h.size, h.block⟩
theorem Chg.drewN {S : Nat → Prop} {a b : World} (h : Chg S a b) (n : Nat) : Chg S a (b.drewN n) := ⟨h.os, h.tape, h.output, h.size, h.block⟩
/-- A store into a new block, or one of 'S'. -/
theorem Chg.setCell {S : Nat → Prop} {a b : World} (h : Chg S a b) {p : Addr} (hp : a.heap.size ≤ p.block ∨ S p.block) (u : Value) : Chg S a (b.setCell p u) :=
  ⟨h.os, h.tape, h.output, by simpa [World.setCell] using h.size, fun k hk hs => by
    rw [Below.heap_setCell _ _ _ _ (by rintro rfl; rcases hp with hp | hp; omega; exact hs hp)]; exact h.block k hk hs⟩
theorem Chg.grown {S : Nat → Prop} {a b c : World} {row : Option Nat} (h : Chg S a b) (hg : b.grownBy c row) (hr : ∀ k, row = some k → a.heap.size ≤ k ∨ S k) : Chg S a c :=
  ⟨hg.os.trans h.os, hg.tape.trans h.tape, hg.output.trans h.output, Nat.le_trans h.size hg.size, fun k hk hs =>
    (hg.block k (Nat.lt_of_lt_of_le hk h.size) (fun e => by rcases hr k e.symm with q | q; omega; exact hs q)).trans (h.block k hk hs)⟩
theorem Chg.below {w w' : World} (h : Chg none' w w') : Below w.heap.size w w' := ⟨h.os, h.tape, h.output, h.size, fun k hk => h.block k hk id⟩
theorem Chg.ofBelow {w w' : World} (h : Below w.heap.size w w') (S : Nat → Prop) : Chg S w w' := ⟨h.os, h.tape, h.output, h.size, fun k hk _ => h.block k hk⟩
theorem Chg.cell {S : Nat → Prop} {w w' : World} (h : Chg S w w') {p : Addr} {v : Value} (hc : w.cell? p = some v) (hp : ¬ S p.block) : w'.cell? p = some v :=
  (World.cell?_of_block (w := w) (h.block p.block (World.block_lt_of_cell? w p hc) hp)).trans hc

theorem heap_setCell_at {w : World} {g i : Nat} {cur : Array Value} {e : TypeId} {fr : Nat × Nat} (h : w.heap[g]? = some (.cells cur e fr)) (u : Value) :
    (w.setCell ⟨g, i, none⟩ u).heap[g]? = some (.cells (cur.setIfInBounds i u) e fr) := by
  show (w.heap.modify g _)[g]? = _
  rw [Array.getElem?_modify, if_pos rfl, h]
  rfl

/-! ### What a slice reads as -/

/-- A slice value 'v' reads as the list 'xs', each element 'size' cells; all cells in blocks of 'F'. 'R': what the cells of one element say. -/
def Row {α : Type} (size : Nat) (R : α → List Value → Prop) (F : Nat → Prop) (w : World) (v : Value) (xs : List α) : Prop :=
  ∃ A c, v = .slice A xs.length c ∧ xs.length ≤ c ∧ c ≤ maxLen ∧ (A = none → c = 0) ∧
    ∀ i x, xs[i]? = some x → ∃ b o cs, A = some ⟨b, o, none⟩ ∧ F b ∧ b < w.heap.size ∧ cs.length = size ∧ R x cs ∧ ∀ j u, cs[j]? = some u → w.cell? ⟨b, o + i * size + j, none⟩ = some u

/-- Bytes. -/
def IsB (x : UInt8) (cs : List Value) : Prop := cs = [vb x]
def Bytes (F : Nat → Prop) (w : World) (v : Value) (xs : List UInt8) : Prop := Row 1 IsB F w v xs

section
variable {α : Type} {size : Nat} {R R' : α → List Value → Prop} {F F' : Nat → Prop} {w w' : World} {v : Value} {xs : List α}

theorem Row.nil : Row size R F w (.slice none 0 0) [] := ⟨none, 0, rfl, by simp, by simp [maxLen], fun _ => rfl, fun i x h => by simp at h⟩

/-- Kept where none of its blocks is changed. -/
theorem Row.kept {S : Nat → Prop} (h : Row size R F w v xs) (hc : Chg S w w') (hd : ∀ b, F b → ¬ S b) (hR : ∀ x ∈ xs, ∀ cs, R x cs → R' x cs) : Row size R' F w' v xs := by
  obtain ⟨A, c, rfl, h1, h2, h3, h4⟩ := h
  refine ⟨A, c, rfl, h1, h2, h3, fun i x hi => ?_⟩
  obtain ⟨b, o, cs, hA, hF, hb, hl, hr, hcell⟩ := h4 i x hi
  exact ⟨b, o, cs, hA, hF, Nat.lt_of_lt_of_le hb hc.size, hl, hR x (List.mem_of_getElem? hi) cs hr, fun j u hj => hc.cell (hcell j u hj) (hd b hF)⟩
theorem Row.mono (h : Row size R F w v xs) (hF : ∀ b, b < w.heap.size → F b → F' b) : Row size R F' w v xs := by
  obtain ⟨A, c, rfl, h1, h2, h3, h4⟩ := h
  refine ⟨A, c, rfl, h1, h2, h3, fun i x hi => ?_⟩
  obtain ⟨b, o, cs, hA, hf, hb, r⟩ := h4 i x hi
  exact ⟨b, o, cs, hA, hF b hb hf, hb, r⟩
end

/-- A part of a row. -/
theorem Row.sub {α : Type} {size : Nat} {R : α → List Value → Prop} {F : Nat → Prop} {w : World} {A : Option Addr} {n c : Nat} {xs : List α} (h : Row size R F w (.slice A n c) xs) {lo hi : Nat} (hlo : lo ≤ hi) (hhi : hi ≤ xs.length) :
    Row size R F w (sliced A lo hi c size) ((xs.take hi).drop lo) := by
  obtain ⟨A', c', hv, h1, h2, h3, h4⟩ := h
  simp only [Value.slice.injEq] at hv
  obtain ⟨rfl, rfl, rfl⟩ := hv
  unfold sliced
  refine ⟨_, _, by rw [List.length_drop, List.length_take, Nat.min_eq_left hhi], by simp; omega, by omega, fun hn => ?_, fun i x hi' => ?_⟩
  · cases A with
    | none => have := h3 rfl; omega
    | some a => split at hn <;> simp at hn
  · rw [List.getElem?_drop, List.getElem?_take] at hi'
    split at hi'
    · next hlt =>
      obtain ⟨b, o, cs, rfl, hF, hb, hl, hr, hcell⟩ := h4 _ x hi'
      have hne : ¬ c = lo := by omega
      refine ⟨b, o + lo * size, cs, by rw [if_neg hne]; simp [Addr.add_lit], hF, hb, hl, hr, fun j u hj => ?_⟩
      have := hcell j u hj
      rwa [show o + (lo + i) * size + j = o + lo * size + i * size + j by rw [Nat.add_mul]; omega] at this
    · cases hi'

theorem Bytes.kept {F S : Nat → Prop} {w w' : World} {v : Value} {xs : List UInt8} (h : Bytes F w v xs) (hc : Chg S w w') (hd : ∀ b, F b → ¬ S b) : Bytes F w' v xs :=
  Row.kept h hc hd fun _ _ _ h => h

theorem Bytes.alloc {F : Nat → Prop} {w : World} {v : Value} {xs : List UInt8} (h : Bytes F w v xs) (o : Obj) : Bytes F (w.alloc o) v xs := h.kept ((Chg.refl none' w).alloc o) fun _ _ => id

/-- A byte's cell. -/
theorem Bytes.at_ {F : Nat → Prop} {w : World} {v : Value} {xs : List UInt8} (h : Bytes F w v xs) {i : Nat} (hi : i < xs.length) :
    ∃ b o c, v = .slice (some ⟨b, o, none⟩) xs.length c ∧ F b ∧ w.cell? ⟨b, o + i, none⟩ = some (vb xs[i]) := by
  obtain ⟨A, c, rfl, h1, h2, h3, h4⟩ := h
  obtain ⟨b, o, cs, rfl, hF, hb, hl, hr, hcell⟩ := h4 i xs[i] (by simp [hi])
  simp only [IsB] at hr
  subst hr
  exact ⟨b, o, c, rfl, hF, by simpa using hcell 0 _ rfl⟩

/-- Rows of bytes. -/
def IsBs (F : Nat → Prop) (w : World) (b : List UInt8) (cs : List Value) : Prop := ∃ u, cs = [u] ∧ Bytes F w u b
def Rows (F : Nat → Prop) (w : World) (v : Value) (bss : List (List UInt8)) : Prop := Row 1 (IsBs F w) F w v bss
def all' : Nat → Prop := fun _ => True

theorem Bytes.all {F : Nat → Prop} {w : World} {v : Value} {xs : List UInt8} (h : Bytes F w v xs) : Bytes all' w v xs := Row.mono h fun _ _ _ => trivial
theorem Rows.kept {F S : Nat → Prop} {w w' : World} {v : Value} {xs : List (List UInt8)} (h : Rows F w v xs) (hc : Chg S w w') (hd : ∀ b, F b → ¬ S b) : Rows F w' v xs :=
  Row.kept h hc hd fun _ _ _ ⟨u, e, hb⟩ => ⟨u, e, hb.kept hc hd⟩
theorem Rows.all {F : Nat → Prop} {w : World} {v : Value} {xs : List (List UInt8)} (h : Rows F w v xs) : Rows all' w v xs := by
  obtain ⟨A, c, rfl, h1, h2, h3, h4⟩ := h
  refine ⟨A, c, rfl, h1, h2, h3, fun i x hi => ?_⟩
  obtain ⟨b, o, cs, hA, hf, hb, hl, ⟨u, e, hu⟩, r⟩ := h4 i x hi
  exact ⟨b, o, cs, hA, trivial, hb, hl, ⟨u, e, hu.all⟩, r⟩

/-- A row of slices that the translation has laid in a block of its own. -/
theorem rows_lit {W : World} {t : TypeId} {us : List Value} {bss : List (List UInt8)} (hn : bss.length = us.length) (hm : us.length ≤ maxLen)
    (h : ∀ (i : Nat) (u : Value) (b : List UInt8), us[i]? = some u → bss[i]? = some b → Bytes all' W u b) :
    Rows all' (W.alloc (.cells us.toArray t)) (.slice (some ⟨W.heap.size, 0, none⟩) us.length us.length) bss := by
  refine ⟨_, us.length, by rw [hn], by omega, hm, fun h => (Option.some_ne_none _ h).elim, fun i b hi => ?_⟩
  have hlt : i < us.length := by have := (List.getElem?_eq_some_iff.1 hi).1; omega
  refine ⟨W.heap.size, 0, [us[i]], rfl, trivial, by simp, rfl, ⟨_, rfl, ?_⟩, fun j u hj => ?_⟩
  · exact ((h i us[i] b (by simp [hlt]) hi).kept (S := none') ((Chg.refl _ _).alloc _) (fun _ _ => id)).all
  · cases j with
    | zero =>
      simp at hj; subst hj
      rw [cell_of_row _ _ _ _ _ _ (heap_alloc_new W _)]
      simp [hlt]
    | succ j => simp at hj

theorem rows_lit1 {W : World} {t : TypeId} {u : Value} {b : List UInt8} {g : Nat} (h : Bytes all' W u b) (hg : W.heap.size = g := by first | rfl | simp) : Rows all' (W.alloc (.cells #[u] t)) (.slice (some ⟨g, 0, none⟩) 1 1) [b] := by
  subst hg
  exact rows_lit (us := [u]) rfl (by simp [maxLen]) fun i u' b' h1 h2 => by
    match i, h1, h2 with
    | 0, h1, h2 => simp at h1 h2; subst h1; subst h2; exact h
theorem rows_lit2 {W : World} {t : TypeId} {u v : Value} {b c : List UInt8} {g : Nat} (h : Bytes all' W u b) (k : Bytes all' W v c) (hg : W.heap.size = g := by first | rfl | simp) : Rows all' (W.alloc (.cells #[u, v] t)) (.slice (some ⟨g, 0, none⟩) 2 2) [b, c] := by
  subst hg
  exact rows_lit (us := [u, v]) rfl (by simp [maxLen]) fun i u' b' h1 h2 => by
    match i, h1, h2 with
    | 0, h1, h2 => simp at h1 h2; subst h1; subst h2; exact h
    | 1, h1, h2 => simp at h1 h2; subst h1; subst h2; exact k

/-- Bytes in a block that is known whole. -/
theorem bytes_block {w : World} {g n c : Nat} {cur : Array Value} {e : TypeId} {fr : Nat × Nat} {bs : List UInt8} (hh : w.heap[g]? = some (.cells cur e fr)) (hn : bs.length = n) (hl : n ≤ c) (hm : c ≤ maxLen)
    (hc : ∀ (j : Nat) (x : UInt8), bs[j]? = some x → cur[j]? = some (vb x)) : Bytes (fun b => b = g) w (.slice (some ⟨g, 0, none⟩) n c) bs := by
  subst hn
  refine ⟨_, c, rfl, hl, hm, fun h => (Option.some_ne_none _ h).elim, fun i x hi => ⟨g, 0, [vb x], rfl, rfl, (Array.getElem?_eq_some_iff.1 hh).1, rfl, rfl, fun j u hj => ?_⟩⟩
  cases j with
  | zero =>
    simp at hj; subst hj
    rw [cell_of_row _ _ _ _ _ _ hh]
    simpa using hc i x hi
  | succ j => simp at hj

theorem data_len (s : ByteArray) : s.data.toList.length = s.size := by rw [Array.length_toList]; rfl

/-- The bytes of a text, behind the conversion. -/
theorem bytes_conv {w : World} {e : TypeId} {s : ByteArray} (hs : s.size ≤ 140737488351232) :
    Bytes all' (Lib.bytesWorld w e s) (.slice (some ⟨w.heap.size, 0, none⟩) s.size (grownCap w s.size 0 e)) s.data.toList := by
  have h1 := grownCap_ge w s.size 0 e
  have h2 := grownCap_le_maxLen w s.size 0 e (by unfold maxLen; omega)
  refine ⟨_, _, by rw [data_len], by rw [data_len]; exact h1, h2, fun h => (Option.some_ne_none _ h).elim, fun i x hi => ?_⟩
  have hlt : i < s.size := by have := (List.getElem?_eq_some_iff.1 hi).1; rwa [data_len] at this
  refine ⟨w.heap.size, 0, [vb x], rfl, trivial, by rw [Lib.bytesWorld_size]; omega, rfl, rfl, fun j u hj => ?_⟩
  cases j with
  | zero =>
    simp at hj; subst hj
    have := Lib.bytesWorld_cell w e s i hlt
    rw [List.getD_eq_getElem?_getD, hi] at this
    simpa using this
  | succ j => simp at hj
theorem Chg.conv {S : Nat → Prop} {a w : World} (h : Chg S a w) (e : TypeId) (s : ByteArray) : Chg S a (Lib.bytesWorld w e s) :=
  h.trans ⟨rfl, rfl, rfl, by rw [Lib.bytesWorld_size]; omega, fun k hk _ => Lib.bytesWorld_at_old w e s k hk⟩

/-! ### Rows that the call itself made -/

/-- What an append takes its new cells from. -/
def Src (w : World) (size : Nat) (vx : Value) (m : Nat) (news : List Value) : Prop :=
  news.length = m * size ∧ (∀ u ∈ news, u.oneCell' = true) ∧ ∃ A c, vx = .slice A m c ∧ (A = none → m = 0 ∧ c = 0) ∧ ∀ ad, A = some ad → ∀ j u, news[j]? = some u → w.cell? (ad.add j) = some u

/-- An append onto a row of the call's own, wherever the new cells come from. -/
theorem wpList_app {P : Program} {w : World} {ops : Array Oper} {rest : List Oper} {o : Oper} {a : Act} {Q : Exit → Act → World → Prop} (hgd : o.guard = none) (s x : Operand) (t : TypeId)
    (ho : o.op = .call { callee := .builtin .append, args := #[s, x], argTypes := #[t, t] })
    (base : Nat) (e : TypeId) (z : Value) (size bytes : Nat) (ht : P.underlying t = some (.slice e)) (hi : (P.info? e).map (fun i => (i.zero, i.size, i.bytes)) = some (some z, size, bytes))
    (hzs : z.cells.size = size) (hsz : 0 < size)
    (v : Value) (n : Nat) (xs : List Value) (hs : a.eval s = v) (hown : w.ownsRow base e size v n xs)
    (vx : Value) (m : Nat) (news : List Value) (hx : a.eval x = vx) (hsrc : Src w size vx m news)
    (hbytes : (n + m) * bytes ≤ 140737488355328) (h63 : n + m ≤ maxLen) (hbase : base ≤ w.heap.size)
    (h : ∀ v' w', w'.ownsRow base e size v' (n + m) (xs ++ news) → w.grownBy w' v.ownBlock → wpList P ops Q rest (a.put o.dst v') w') : wpList P ops Q (o :: rest) a w := by
  obtain ⟨i, hi1, hi2, hi3, hi4⟩ := info_parts hi
  obtain ⟨hl, h1c, A, c, rfl, hn, hc⟩ := hsrc
  cases A with
  | some ad => exact wpList_append_own w hgd s x t ho base e i z size bytes ht hi1 hi2 hi3 hi4 hzs hsz v n xs hs hown ad m c news hx hl (hc ad rfl) h1c h63 hbytes hbase (fun v' w' h1 h2 _ => h v' w' h1 h2)
  | none =>
    obtain ⟨rfl, rfl⟩ := hn rfl
    obtain rfl : news = [] := List.eq_nil_of_length_eq_zero (by simpa using hl)
    exact wpList_append_own_none hgd s x t ho base e i size ht hi1 v n xs hs hown hx (h v w (by simpa using hown) ⟨rfl, rfl, rfl, Nat.le_refl _, fun _ _ _ => rfl⟩)

/-- One element that the translation has laid in a block of its own. -/
theorem src_one {W : World} {t : TypeId} {u u' : Value} {g : Nat} (h : u' = u) (h1 : u.oneCell' = true) (hg : W.heap.size = g := by first | rfl | simp) : Src (W.alloc (.cells #[u'] t)) 1 (.slice (some ⟨g, 0, none⟩) 1 1) 1 [u] := by
  subst h
  subst hg
  refine ⟨rfl, by simpa using h1, _, 1, rfl, (fun h => (Option.some_ne_none _ h).elim), fun ad had j x hj => ?_⟩
  obtain rfl := Option.some.inj had
  cases j with
  | zero => simp at hj; subst hj; rw [Addr.add_lit, cell_of_row _ _ _ _ _ _ (heap_alloc_new W _)]; rfl
  | succ j => simp at hj

/-- One operation whose run is known. -/
theorem wpList_val {P : Program} {w : World} {ops : Array Oper} {rest : List Oper} {o : Oper} {a : Act} {Q : Exit → Act → World → Prop} (hgd : o.guard = none) {v : Value} {w1 : World}
    (hrun : (execOp a.eval o).run P w = .ok (.value v) w1) (h : wpList P ops Q rest (a.put o.dst v) w1) : wpList P ops Q (o :: rest) a w := by
  refine wpList_plain hgd fun K hK => ?_
  unfold Oper.wp
  rw [hrun]
  exact hK _ _ h

/-- Bytes that the call owns. -/
def OwnB (base : Nat) (w : World) (v : Value) (bs : List UInt8) : Prop := w.ownsRow base 5 1 v bs.length (bs.map vb)

theorem OwnB.nil (base : Nat) (w : World) : OwnB base w (.slice none 0 0) [] := World.ownsRow_nil _ _ _ _

theorem OwnB.alloc {base : Nat} {w : World} {v : Value} {bs : List UInt8} (h : OwnB base w v bs) (o : Obj) : OwnB base (w.alloc o) v bs := World.ownsRow.alloc h o

theorem OwnB.app {base m : Nat} {w : World} {v : Value} {bs cs : List UInt8} (h : w.ownsRow base 5 1 v (bs.length + m) (bs.map vb ++ cs.map vb)) (hm : m = cs.length) : OwnB base w v (bs ++ cs) := by
  subst hm
  unfold OwnB
  rw [List.map_append, List.length_append]
  exact h
theorem OwnB.base_ {base : Nat} {w : World} {v : Value} {bs : List UInt8} (h : OwnB base w v bs) : ∀ k, v.ownBlock = some k → base ≤ k := fun k hk => (World.ownsRow.lt h k hk).1
theorem OwnB.lt {base : Nat} {w : World} {v : Value} {bs : List UInt8} (h : OwnB base w v bs) : ∀ k, v.ownBlock = some k → k < w.heap.size := fun k hk => (World.ownsRow.lt h k hk).2

theorem OwnB.ofBlock {base g : Nat} {w : World} {cur : Array Value} {bs : List UInt8} (hb : base ≤ g) (hh : w.heap[g]? = some (.cells cur 5 (0, 0))) (hm : cur.size ≤ maxLen) (hl : bs.length ≤ cur.size)
    (hc : ∀ (j : Nat) (x : UInt8), bs[j]? = some x → cur[j]? = some (vb x)) : OwnB base w (.slice (some ⟨g, 0, none⟩) bs.length cur.size) bs := by
  refine ⟨by simp, .inr ⟨g, cur.size, cur, rfl, hb, hh, hl, hm, by simp, ?_⟩⟩
  apply List.ext_getElem?
  intro j
  by_cases hj : j < bs.length
  · rw [List.getElem?_take, if_pos (by omega), List.getElem?_map, List.getElem?_eq_getElem hj]
    simpa using hc j bs[j] (by simp [hj])
  · rw [List.getElem?_take, if_neg (by omega), List.getElem?_eq_none (by simp; omega)]

theorem ownsRow_keep {S : Nat → Prop} {base : Nat} {e : TypeId} {size n : Nat} {w w' : World} {v : Value} {xs : List Value} (h : w.ownsRow base e size v n xs) (hc : Chg S w w') (hd : ∀ k, v.ownBlock = some k → ¬ S k) : w'.ownsRow base e size v n xs := by
  refine ⟨h.1, ?_⟩
  rcases h.2 with hn | ⟨g, cap, cur, rfl, hb, hg, r⟩
  · exact .inl hn
  · exact .inr ⟨g, cap, cur, rfl, hb, (hc.block g (Array.getElem?_eq_some_iff.1 hg).1 (hd g rfl)).trans hg, r⟩
theorem OwnB.keep {S : Nat → Prop} {base : Nat} {w w' : World} {v : Value} {bs : List UInt8} (h : OwnB base w v bs) (hc : Chg S w w') (hd : ∀ k, v.ownBlock = some k → ¬ S k) : OwnB base w' v bs := ownsRow_keep h hc hd

theorem OwnB.shape {base : Nat} {w : World} {v : Value} {bs : List UInt8} (h : OwnB base w v bs) : ∃ A c, v = .slice A bs.length c := by
  rcases h.2 with ⟨rfl, h0⟩ | ⟨g, cap, cur, rfl, r⟩
  · exact ⟨none, 0, by rw [h0]⟩
  · exact ⟨_, _, rfl⟩

theorem OwnB.form {base : Nat} {w : World} {v : Value} {bs : List UInt8} (h : OwnB base w v bs) (h0 : 0 < bs.length) :
    ∃ g cap cur, v = .slice (some ⟨g, 0, none⟩) bs.length cap ∧ base ≤ g ∧ g < w.heap.size ∧ w.heap[g]? = some (.cells cur 5 (0, 0)) ∧ bs.length ≤ cap ∧ cap ≤ maxLen ∧ cur.size = cap ∧ ∀ (j : Nat) (x : UInt8), bs[j]? = some x → cur[j]? = some (vb x) := by
  rcases h.2 with ⟨rfl, h1⟩ | ⟨g, cap, cur, rfl, hb, hg, hnc, hcm, hcs, htake⟩
  · omega
  · refine ⟨g, cap, cur, rfl, hb, (Array.getElem?_eq_some_iff.1 hg).1, hg, hnc, hcm, by omega, fun j x hj => ?_⟩
    have hj' : j < bs.length := (List.getElem?_eq_some_iff.1 hj).1
    have := congrArg (·[j]?) htake
    simp only [List.getElem?_map, hj, Option.map_some, List.getElem?_take, Nat.mul_one] at this
    rw [if_pos hj'] at this
    simpa using this

theorem OwnB.set {base g cap : Nat} {w : World} {bs : List UInt8} (h : OwnB base w (.slice (some ⟨g, 0, none⟩) bs.length cap) bs) (k : Nat) (hk : k < bs.length) (y : UInt8) :
    OwnB base (w.setCell ⟨g, k, none⟩ (vb y)) (.slice (some ⟨g, 0, none⟩) bs.length cap) (bs.set k y) := by
  obtain ⟨g', cap', cur, hv, hb, hlt, hh, hl, hm, hs, hc⟩ := h.form (by omega)
  simp only [Value.slice.injEq, Option.some.injEq, Addr.mk.injEq] at hv
  obtain ⟨⟨rfl, _⟩, _, rfl⟩ := hv
  subst hs
  have := OwnB.ofBlock (base := base) (bs := bs.set k y) hb (heap_setCell_at (i := k) hh (vb y)) (by simpa using hm) (by simpa using hl) (fun j x hj => by
    rw [Array.getElem?_setIfInBounds]
    by_cases hjk : k = j
    · subst hjk
      rw [List.getElem?_set_self (by omega)] at hj
      simp at hj
      subst hj
      rw [if_pos rfl, if_pos (by omega)]
    · rw [if_neg hjk]
      rw [List.getElem?_set_ne (by omega)] at hj
      exact hc j x hj)
  simpa using this

theorem vb_one (bs : List UInt8) : ∀ u ∈ bs.map vb, u.oneCell' = true := by
  intro u hu
  obtain ⟨_, _, rfl⟩ := List.mem_map.1 hu
  rfl

theorem OwnB.bytes {base : Nat} {w : World} {v : Value} {bs : List UInt8} (h : OwnB base w v bs) : Bytes (fun b => v.ownBlock = some b) w v bs := by
  rcases h.2 with ⟨rfl, h0⟩ | ⟨g, cap, cur, rfl, hb, hg, hnc, hcm, hcs, htake⟩
  · obtain rfl : bs = [] := List.eq_nil_of_length_eq_zero h0
    exact Row.nil
  · refine ⟨_, cap, rfl, hnc, hcm, fun h => (Option.some_ne_none _ h).elim, fun i x hi => ⟨g, 0, [vb x], rfl, rfl, (Array.getElem?_eq_some_iff.1 hg).1, rfl, rfl, fun j u hj => ?_⟩⟩
    have hi' : i < bs.length := (List.getElem?_eq_some_iff.1 hi).1
    obtain ⟨rfl, rfl⟩ : j = 0 ∧ u = vb x := by
      cases j with
      | zero => simpa using hj.symm
      | succ j => simp at hj
    rw [cell_of_row w g _ cur _ (0, 0) hg]
    have := congrArg (·[i]?) htake
    simp only [List.getElem?_map, hi, Option.map_some, List.getElem?_take, Nat.mul_one] at this
    rw [if_pos hi'] at this
    simpa using this

theorem Bytes.src {F : Nat → Prop} {w : World} {v : Value} {bs : List UInt8} (h : Bytes F w v bs) : Src w 1 v bs.length (bs.map vb) := by
  obtain ⟨A, c, rfl, h1, h2, h3, h4⟩ := h
  refine ⟨by simp, vb_one bs, A, c, rfl, fun hn => ?_, fun ad had j u hj => ?_⟩
  · have := h3 hn; omega
  · simp only [List.getElem?_map, Option.map_eq_some_iff] at hj
    obtain ⟨x, hx, rfl⟩ := hj
    obtain ⟨b, o, cs, hA, hF, hb, hl, hr, hcell⟩ := h4 j x hx
    simp only [IsB] at hr
    subst hr
    rw [had] at hA
    obtain rfl := Option.some.inj hA
    have := hcell 0 _ rfl
    rw [Addr.add_lit]
    simpa using this

end Go.Proofs.Ytclbbddpedcfjaa
