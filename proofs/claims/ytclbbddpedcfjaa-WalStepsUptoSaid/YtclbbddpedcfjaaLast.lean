/-
  Last: a log's last snapshot, and what is behind it.
-/
import Derived.Test.YtclbbddpedcfjaaBack
import Derived.Test.YtclbbddpedcfjaaLog4
namespace Go.Proofs.Ytclbbddpedcfjaa
open Go.RowKit Go.Shelf

attribute [local go_sem] Oper.semAt_some

/-- The last snapshot lies right ahead of k; 0: there is none. -/
def LastAt (l : List Rec) (k : Nat) : Prop := k ≤ l.length ∧ (∀ r, 0 < k → l[k - 1]? = some r → r.kind = 0) ∧ ∀ j r, k ≤ j → l[j]? = some r → r.kind ≠ 0
def snapOf (l : List Rec) (k : Nat) : List UInt8 := if k = 0 then [] else ((l[k - 1]?).map (·.b)).getD []

theorem OwnRG.recsG {G H : Nat → Prop} {base : Nat} {w : World} {v : Value} {rs : List Rec} (h : OwnRG G base w v rs) (hv : ∀ k, base ≤ k → k < w.heap.size → H k) (hG : ∀ k, k < w.heap.size → G k → H k) : Recs H w v rs := by
  obtain ⟨ps, rfl, h1, h2⟩ := h
  rcases h1.2 with ⟨rfl, h0⟩ | ⟨g, cap, cur, rfl, hb, hg, hnc, hcm, hcs, htake⟩
  · obtain rfl : ps = [] := List.eq_nil_of_length_eq_zero h0
    exact Row.nil
  · refine ⟨_, cap, by rw [List.length_map], by rw [List.length_map]; exact hnc, hcm, fun h => (Option.some_ne_none _ h).elim, fun i r hi => ?_⟩
    rw [List.getElem?_map] at hi
    obtain ⟨p, hp, rfl⟩ := Option.map_eq_some_iff.1 hi
    obtain ⟨c1, c2⟩ := cellsR_at hp
    have hcell := h1.cells (g := g) rfl
    have hgl := (Array.getElem?_eq_some_iff.1 hg).1
    refine ⟨g, 0, [vb p.1.kind, p.2], rfl, hv g hb hgl, hgl, rfl, ⟨p.2, rfl, Row.mono (h2 p (List.mem_of_getElem? hp)) fun k hk hg => hG k hk hg.1⟩, fun j u hj => ?_⟩
    match j, hj with
    | 0, hj => simp at hj; subst hj; have := hcell _ _ c1; rw [Addr.add_lit] at this; simpa using this
    | 1, hj => simp at hj; subst hj; have := hcell _ _ c2; rw [Addr.add_lit] at this; simpa [Nat.add_assoc] using this
    | j + 2, hj => simp at hj

theorem two_cells {W : World} {p q : Nat} {u v a b : Value} (hpq : p ≠ q) (h2 : W.cell? ⟨p, 0, none⟩ = some a) (h3 : W.cell? ⟨q, 0, none⟩ = some b) :
    ((W.drew.setCell ⟨p, 0, none⟩ u).setCell ⟨q, 0, none⟩ v).cell? ⟨p, 0, none⟩ = some u ∧ ((W.drew.setCell ⟨p, 0, none⟩ u).setCell ⟨q, 0, none⟩ v).cell? ⟨q, 0, none⟩ = some v ∧ Chg (fun b => b = p ∨ b = q) W ((W.drew.setCell ⟨p, 0, none⟩ u).setCell ⟨q, 0, none⟩ v) := by
  have e : W.drew.heap = W.heap := rfl
  have c1 : W.drew.cell? ⟨p, 0, none⟩ = some a := h2
  have c2 : W.drew.cell? ⟨q, 0, none⟩ = some b := h3
  have d1 : Chg (fun b => b = p) W.drew (W.drew.setCell ⟨p, 0, none⟩ u) := (Chg.refl (fun b => b = p) _).setCell (p := ⟨p, 0, none⟩) (.inr rfl) _
  have d2 : Chg (fun b => b = q) (W.drew.setCell ⟨p, 0, none⟩ u) ((W.drew.setCell ⟨p, 0, none⟩ u).setCell ⟨q, 0, none⟩ v) := (Chg.refl (fun b => b = q) _).setCell (p := ⟨q, 0, none⟩) (.inr rfl) _
  refine ⟨d2.cell (World.cell?_setCell_same' _ _ _ (by rw [c1]; rfl)) hpq, World.cell?_setCell_same' _ _ _ (by rw [d1.cell c2 (fun h => hpq h.symm)]; rfl), ?_⟩
  exact (((Chg.refl _ W).drew).setCell (p := ⟨p, 0, none⟩) (.inr (.inl rfl)) _).setCell (p := ⟨q, 0, none⟩) (.inr (.inr rfl)) _

theorem ownFrom_chg {β : Type} {S : Nat → Prop} {B : Nat} {w0 : World} (hB : w0.heap.size ≤ B) : OwnFrom B (fun (_ : β) W => Chg S w0 W) := fun _ W W' row hs hg hr =>
  ⟨hg.os.trans hs.os, hg.tape.trans hs.tape, hg.output.trans hs.output, Nat.le_trans hs.size hg.size, fun k hk hS => (hg.block k (Nat.lt_of_lt_of_le hk hs.size) (fun e => by have := (hr k e.symm).1; omega)).trans (hs.block k hk hS)⟩

/-- The round in which a snapshot was found. -/
def LastFound {len : Nat} (E : Nat → UInt8 × Value) (a b : Nat) (A : Option Addr) (c : Nat) (ctl : Code) (pre : List (Ix len)) (W : World) : Prop :=
  ctl = .ret ∧ ∃ ini last, pre = ini ++ [last] ∧ (∀ p ∈ ini, (E p.1).1 ≠ 0) ∧ (E last.1).1 = 0 ∧ W.cell? ⟨a, 0, none⟩ = some (E last.1).2 ∧ W.cell? ⟨b, 0, none⟩ = some (sliced A (last.1 + 1) len c 2)

set_option maxRecDepth 100000 in
set_option maxHeartbeats 4000000 in
theorem w_wlast {F : Nat → Prop} {w : World} {g : Nat} {lg : Lg} (h : IsLog F w g lg) :
    Calls Try.prog 31 #[.pointer (some ⟨g, 0, none⟩)] w fun e w' => ∃ k v u, LastAt lg.l k ∧ e = .returned (.tuple #[v, u]) ∧ Bytes (fun b => w.heap.size ≤ b) w' v (snapOf lg.l k) ∧ Recs (fun b => w.heap.size ≤ b) w' u (lg.l.drop k) ∧ Chg none' w w' := by
  have hmax := h.max
  have hll := len_long lg.l
  refine (callsIn_wide (n := 6)).1 ?_
  refine callsIn_of_wp_marks Try.func31 rfl trivial ?_ rfl
  simp only [Try.ntmps31, List.size_toArray, List.length_cons, List.length_nil, Nat.reduceAdd, Nat.reduceSub, Array.replicate_succ, Array.replicate_zero, List.push_toArray, List.append_toArray, List.nil_append, List.cons_append]
  have cA : Chg none' w ((w.alloc (.cells #[.slice none 0 0] 23)).alloc (.cells #[.slice none 0 0] 30)) := ((Chg.refl _ _).alloc _).alloc _
  have KR := w_wrecords (h.keep0 cA)
  gi_wp2_with (refine ⟨trivial, ?_⟩; gi_at_call 14; refine (callsIn_wide.2 KR).mono ?_; rintro e w3 ⟨vr, rfl, or_, c3⟩; obtain ⟨Ar, nr, rfl, hnr, hmr⟩ := or_.own.recs.shape)
  have hs3 : w.heap.size + 2 ≤ w3.heap.size := by have := c3.size; simpa using this
  have o5 := or_.keep (((Chg.refl none' w3).alloc (.cells #[.slice Ar lg.l.length nr] 30)).alloc (.cells #[.slice Ar lg.l.length nr] 30)) (fun _ _ => id) (fun _ _ => id)
  have hbx := (Boxed.new (w3.alloc (.cells #[.slice Ar lg.l.length nr] 30)) 30 (.slice Ar lg.l.length nr)).cell
  have hbl := ((Boxed.new w3 30 (.slice Ar lg.l.length nr)).alloc (.cells #[.slice Ar lg.l.length nr] 30)).cell
  have c4 : Chg none' w ((w3.alloc (.cells #[.slice Ar lg.l.length nr] 30)).alloc (.cells #[.slice Ar lg.l.length nr] 30)) := ((cA.trans c3).alloc _).alloc _
  gi_wp2_with (refine ⟨trivial, ?_⟩; gi_at_call 46; refine (back_in Fence.wide _ trivial rfl _ _ _ _).mono ?_; rintro e w' ⟨rfl, rfl⟩)
  have hrec : Recs (fun b => w.heap.size + 2 ≤ b ∧ b < w3.heap.size) w3 (.slice Ar lg.l.length nr) lg.l := or_.recsG (fun k h1 h2 => ⟨by simpa using h1, h2⟩) fun k h1 h2 => ⟨by simpa using h2, h1⟩
  have hus : ∃ us : Nat → Value, ∀ j (hj : j < lg.l.length), ∃ b off, Ar = some ⟨b, off, none⟩ ∧ w.heap.size + 2 ≤ b ∧ b < w3.heap.size ∧ w3.cell? ⟨b, off + j * 2, none⟩ = some (vb lg.l[j].kind) ∧ w3.cell? ⟨b, off + j * 2 + 1, none⟩ = some (us j) ∧ Bytes (fun b => w.heap.size + 2 ≤ b ∧ b < w3.heap.size) w3 (us j) lg.l[j].b := by
    have key : ∀ j, ∃ u, ∀ (hj : j < lg.l.length), ∃ b off, Ar = some ⟨b, off, none⟩ ∧ w.heap.size + 2 ≤ b ∧ b < w3.heap.size ∧ w3.cell? ⟨b, off + j * 2, none⟩ = some (vb lg.l[j].kind) ∧ w3.cell? ⟨b, off + j * 2 + 1, none⟩ = some u ∧ Bytes (fun b => w.heap.size + 2 ≤ b ∧ b < w3.heap.size) w3 u lg.l[j].b := fun j => by
      by_cases hj : j < lg.l.length
      · obtain ⟨b, o, c, u, e, hb, k0, k1, hu⟩ := hrec.at_ hj
        simp only [Value.slice.injEq] at e
        exact ⟨u, fun _ => ⟨b, o, e.1, hb.1, hb.2, k0, k1, hu⟩⟩
      · exact ⟨.slice none 0 0, fun h => absurd h hj⟩
    exact ⟨fun j => (key j).choose, fun j hj => (key j).choose_spec hj⟩
  obtain ⟨us, hus⟩ := hus
  obtain ⟨E, hE⟩ : ∃ E : Nat → UInt8 × Value, ∀ j (hj : j < lg.l.length), E j = (lg.l[j].kind, us j) := ⟨fun j => if hj : j < lg.l.length then (lg.l[j].kind, us j) else (0, .slice none 0 0), fun j hj => dif_pos hj⟩
  obtain ⟨W0, hW0⟩ : ∃ W0, (w3.alloc (.cells #[.slice Ar lg.l.length nr] 30)).alloc (.cells #[.slice Ar lg.l.length nr] 30) = W0 := ⟨_, rfl⟩
  have hsz : W0.heap.size = w3.heap.size + 2 := by rw [← hW0]; simp
  have h03 : Chg none' w3 W0 := by rw [← hW0]; exact ((Chg.refl _ _).alloc _).alloc _
  rw [hW0] at hbx hbl c4 o5 ⊢
  rw [World.size_alloc] at hbx
  have hI : (Ar = none ∧ lg.l.length = 0 ∧ nr = 0) ∨ ∃ b off, Ar = some ⟨b, off, none⟩ ∧ b < W0.heap.size ∧ ∀ j, j < lg.l.length → W0.cell? ⟨b, off + j * 2, none⟩ = some (vb (E j).1) ∧ W0.cell? ⟨b, off + j * 2 + 1, none⟩ = some (E j).2 := by
    by_cases hl : lg.l.length = 0
    · obtain ⟨ps, e, q1, _⟩ := or_
      rcases q1.2 with ⟨ev, en⟩ | ⟨gr, cap, cur, ev, _, eh, _⟩
      · simp only [Value.slice.injEq] at ev
        exact .inl ev
      · simp only [Value.slice.injEq] at ev
        have := (Array.getElem?_eq_some_iff.1 eh).1
        exact .inr ⟨gr, 0, ev.1, by omega, fun j hj => by omega⟩
    · obtain ⟨b, off, hA, hb1, hb2, _⟩ := hus 0 (by omega)
      refine .inr ⟨b, off, hA, by omega, fun j hj => ?_⟩
      obtain ⟨b', off', hA', _, _, k0, k1, _⟩ := hus j hj
      rw [hA] at hA'
      simp only [Option.some.injEq, Addr.mk.injEq] at hA'
      obtain ⟨rfl, rfl, _⟩ := hA'
      rw [hE j hj]
      exact ⟨h03.cell k0 id, h03.cell k1 id⟩
  have hsh : ∀ j, j < lg.l.length → ∃ a n c, (E j).2 = .slice a n c := fun j hj => by
    obtain ⟨_, _, _, _, _, _, _, hu⟩ := hus j hj
    obtain ⟨a, n, e⟩ := hu.shape
    rw [hE j hj]
    exact ⟨a, _, n, e⟩
  have h1c : ∀ j, j < lg.l.length → (E j).2.oneCell' = true := fun j hj => by
    obtain ⟨a, n, c, e⟩ := hsh j hj
    rw [e]
    rfl
  have HE := Lib.hid hE
  have HU := Lib.hid hus
  clear hE hus
  have b2 := (Boxed.new w 23 (.slice none 0 0)).alloc (.cells #[.slice none 0 0] 30)
  have b3 := Boxed.new (w.alloc (.cells #[.slice none 0 0] 23)) 30 (.slice none 0 0)
  have c30 := c3.trans h03
  have r2 : W0.cell? ⟨w.heap.size, 0, none⟩ = some (.slice none 0 0) := c30.cell b2.cell id
  have f2 : W0.frozen? ⟨w.heap.size, 0, none⟩ = false := (World.frozen?_of_block (a := ⟨w.heap.size, 0, none⟩) (c30.block w.heap.size (by simp; omega) id)).trans b2.frozen
  have r3 : W0.cell? ⟨w.heap.size + 1, 0, none⟩ = some (.slice none 0 0) := c30.cell (by have := b3.cell; rwa [World.size_alloc] at this) id
  have f3 : W0.frozen? ⟨w.heap.size + 1, 0, none⟩ = false := (World.frozen?_of_block (a := ⟨w.heap.size + 1, 0, none⟩) (c30.block (w.heap.size + 1) (by simp) id)).trans (by have := b3.frozen; rwa [World.size_alloc] at this)
  clear hW0
  refine wpIn_rangeFunc_ownH (F := Fence.wide) (n := 6) rfl (by decide) (gf := 56) (lb := #[.pointer (some ⟨w3.heap.size + 1, 0, none⟩)]) rfl trivial (enters_of Try.func56 (by kernel_rfl) rfl)
    (back_stops Fence.wide 5 trivial rfl (by decide) (w3.heap.size + 1) W0.heap.size Ar lg.l.length nr E (by omega) W0 (by omega) (Nat.le_refl _) hbx hI h1c) belowK_t (belowK_b (Nat.le_refl _)) (Below.refl _ _) (fun _ => rfl)
    (fun pre W => (∀ p ∈ pre, (E p.1).1 ≠ 0) ∧ Below W0.heap.size W0 W)
    (fun c pre W => LastFound E w.heap.size (w.heap.size + 1) Ar nr c pre W ∧ Chg (fun b => b = w.heap.size ∨ b = w.heap.size + 1) W0 W)
    (OwnFrom.and (Own.from (fun _ _ _ _ hs _ _ => hs) _) (ownFrom_below (Nat.le_refl _) (Nat.le_refl _)))
    (fun c => OwnFrom.and (Own.from (fun s A B row hs hg hr => by obtain ⟨hc, ini, last, e1, e2, e3, e4, e5⟩ := hs; exact ⟨hc, ini, last, e1, e2, e3, cell_kept e4 hg hr, cell_kept e5 hg hr⟩) _) (ownFrom_chg (Nat.le_refl _)))
    ⟨by simp, Below.refl _ _⟩
    (fun x a' W => ∃ Bx, W0.heap.size ≤ Bx ∧ W.heap[Bx]? = some (.cells #[vb (E x.1).1, (E x.1).2] 35 (0, 0)) ∧ a' = { tmps := #[.pointer (some ⟨g, 0, none⟩), undef, .pointer (some ⟨w.heap.size, 0, none⟩), .pointer (some ⟨w.heap.size + 1, 0, none⟩), .pointer (some ⟨w3.heap.size, 0, none⟩), .int .i64 (x.1 : Int), .pointer (some ⟨Bx, 0, none⟩), .pointer (some ⟨g, 0, none⟩), .slice Ar lg.l.length nr, .slice Ar lg.l.length nr, .func (.func 56) #[] #[.pointer (some ⟨w3.heap.size + 1, 0, none⟩)], .int .i64 (x.1 : Int), .agg #[vb (E x.1).1, (E x.1).2], undef, undef, undef, undef, undef, undef, undef, undef, undef, undef], defers := [] })
    (fun x a' => fun _ W W' row hs hg hr => by
      obtain ⟨Bx, h1, h2, h3⟩ := hs
      refine ⟨Bx, h1, (hg.block Bx (Array.getElem?_eq_some_iff.1 h2).1 fun e => ?_).trans h2, h3⟩
      obtain ⟨_, o, ho, hn⟩ := hr Bx e.symm
      rw [h2] at ho
      obtain rfl := Option.some.inj ho
      cases hn) ?assign ?body ?done ?stop
  case assign =>
    intro l pre x W K hI hK
    obtain ⟨sa, sn, sc, hsx⟩ := hsh x.1 x.2
    have HS := Lib.hid hsx
    simp only [encE]
    rw [hsx]
    clear hsx
    gi_wp2
    exact hK _ _ ((KeepsOthers.alloc _ _).from _) ((Below.refl _ W).alloc hI.2.size _) ⟨hI.1, hI.2.alloc hI.2.size _⟩ ⟨W.heap.size, hI.2.size, by rw [HS.out]; exact heap_alloc_new W _, by rw [HS.out]⟩
  case body =>
    rintro l pre x a' W hl hr ⟨hp, hB⟩ ⟨Bx, hBx, hXh, rfl⟩ hlt
    have hx := x.2
    have k0 : W.cell? ⟨Bx, 0, none⟩ = some (vb (E x.1).1) := by rw [cell_of_row _ _ _ _ _ _ hXh]; rfl
    have k1 : W.cell? ⟨Bx, 1, none⟩ = some (E x.1).2 := by rw [cell_of_row _ _ _ _ _ _ hXh]; rfl
    have kl := (hB.cell (p := ⟨w3.heap.size, 0, none⟩) (show w3.heap.size < _ by omega)).trans hbl
    have q2 := (hB.cell (p := ⟨w.heap.size, 0, none⟩) (show w.heap.size < _ by omega)).trans r2
    have q3 := (hB.cell (p := ⟨w.heap.size + 1, 0, none⟩) (show w.heap.size + 1 < _ by omega)).trans r3
    have g2 := (World.frozen?_of_block (a := ⟨w.heap.size, 0, none⟩) ((Chg.ofBelow hB none').block w.heap.size (by omega) id)).trans f2
    have g3 := (World.frozen?_of_block (a := ⟨w.heap.size + 1, 0, none⟩) ((Chg.ofBelow hB none').block (w.heap.size + 1) (by omega) id)).trans f3
    obtain ⟨b, off, rfl, _⟩ := HU.out x.1 x.2
    obtain ⟨sa, sn, sc, hsx⟩ := hsh x.1 x.2
    have HS := Lib.hid hsx
    rw [hsx] at k1
    clear hsx
    by_cases hz : (E x.1).1 = 0
    · have z0 : (((E x.1).1.toNat : Int) == 0) = true := by rw [hz]; rfl
      have hxl : (x.1 : Int) + 1 ≤ lg.l.length := by omega
      have hxm : (x.1 : Int) + 1 ≤ nr := by omega
      have HB := Lib.hid hB
      have HP := Lib.hid hp
      have HZ := Lib.hid hz
      clear hp hB hz
      have n1 : x.1 + 1 ≤ lg.l.length := x.2
      have n6 : IntKind.i64.wrap ((x.1 : Int) + 1) = ((x.1 + 1 : Nat) : Int) := by rw [IntKind.wrap_i64]; omega
      have n5 : (0 : Int) ≤ (x.1 : Int) + 1 := by omega
      have hsl : sliced (some ⟨b, off, none⟩) (x.1 + 1) lg.l.length nr 2 = .slice (if nr = x.1 + 1 then some ⟨b, off, none⟩ else some ⟨b, off + (x.1 + 1) * 2, none⟩) (lg.l.length - (x.1 + 1)) (nr - (x.1 + 1)) := by
        unfold sliced
        split <;> simp [Addr.add_lit]
      have Y := two_cells (u := .slice sa sn sc) (v := .slice (if nr = x.1 + 1 then some ⟨b, off, none⟩ else some ⟨b, off + (x.1 + 1) * 2, none⟩) (lg.l.length - (x.1 + 1)) (nr - (x.1 + 1))) (show w.heap.size ≠ w.heap.size + 1 by omega) q2 q3
      have Y4 := (Chg.ofBelow HB.out (fun b => b = w.heap.size ∨ b = w.heap.size + 1)).trans Y.2.2
      have HY := Lib.hid (show _ ∧ _ from ⟨Y, Y4⟩)
      have HL := Lib.hid hsl
      clear Y Y4 hsl
      have FIN : ∀ (V : Value) (n' : Nat), n' = nr → V = (.slice (if nr = x.1 + 1 then some ⟨b, off, none⟩ else some ⟨b, off + (x.1 + 1) * 2, none⟩) (lg.l.length - (x.1 + 1)) (nr - (x.1 + 1))) →
          LastFound E w.heap.size (w.heap.size + 1) (some ⟨b, off, none⟩) n' .ret (pre ++ [x]) ((W.drew.setCell ⟨w.heap.size, 0, none⟩ (.slice sa sn sc)).setCell ⟨w.heap.size + 1, 0, none⟩ V) ∧ Chg (fun b => b = w.heap.size ∨ b = w.heap.size + 1) W0 ((W.drew.setCell ⟨w.heap.size, 0, none⟩ (.slice sa sn sc)).setCell ⟨w.heap.size + 1, 0, none⟩ V) := fun V n' e1 e2 => by
        subst e1 e2
        exact ⟨⟨rfl, pre, x, rfl, HP.out, HZ.out, by rw [HS.out]; exact HY.out.1.1, by rw [HL.out]; exact HY.out.1.2.1⟩, HY.out.2⟩
      have HFIN := Lib.hid FIN
      clear FIN
      have hmx : Try.prog.follows .mixedOrders = true := by kernel_rfl
      gi_wp2
      gi_region_with_o (fail)
      all_goals gi_wp2
      all_goals
        have KO : ∀ V N, KeepsFrom N W ((W.drew.setCell ⟨w.heap.size, 0, none⟩ (.slice sa sn sc)).setCell ⟨w.heap.size + 1, 0, none⟩ V) := fun V N => ((KeepsOthers.drew _).trans ((KeepsOthers.setCell _ _ _).trans (KeepsOthers.setCell _ _ _))).from _
        first
          | (have ee : nr = x.1 + 1 := by first | assumption | omega
             have F := HFIN.out (.slice (some ⟨b, off, none⟩) (lg.l.length - (x.1 + 1)) 0) (x.1 + 1) ee.symm (by rw [if_pos ee, ee, Nat.sub_self])
             exact ⟨KO _ _, F.1, F.2⟩)
          | (have ee : ¬ nr = x.1 + 1 := by first | assumption | omega
             have F := HFIN.out (.slice (some ⟨b, off + (x.1 + 1) * 2, none⟩) (lg.l.length - (x.1 + 1)) (nr - (x.1 + 1))) nr rfl (by rw [if_neg ee])
             exact ⟨KO _ _, F.1, F.2⟩)
    · have z0 : (((E x.1).1.toNat : Int) == 0) = false := ne_byte (b := 0) hz
      have HB := Lib.hid hB
      have HP := Lib.hid hp
      have HZ := Lib.hid hz
      clear hp hB hz
      gi_wp2
      exact ⟨KeepsFrom.refl _ _, Below.refl _ _, fun p hp' => (List.mem_append.1 hp').elim (HP.out p) (fun e => by simp at e; subst e; exact HZ.out), HB.out⟩
  case done =>
    rintro D ys W hD hS ⟨hne, hB⟩ hK
    have hat : LastAt lg.l 0 := by
      refine ⟨Nat.zero_le _, fun r h0 => absurd h0 (by omega), fun j r _ hr => ?_⟩
      obtain ⟨hjl, rfl⟩ := List.getElem?_eq_some_iff.1 hr
      have hm : j ∈ ys.map (·.1) := by
        rw [hS]
        simp only [idxs, List.mem_map, List.mem_range]
        exact ⟨lg.l.length - 1 - j, by omega, by omega⟩
      obtain ⟨p, hp, rfl⟩ := List.mem_map.1 hm
      have := hne p hp
      rw [HE.out p.1 hjl] at this
      exact this
    have kl := (hB.cell (p := ⟨w3.heap.size, 0, none⟩) (show w3.heap.size < _ by omega)).trans hbl
    have q2 := (hB.cell (p := ⟨w.heap.size, 0, none⟩) (show w.heap.size < _ by omega)).trans r2
    have q3 := (hB.cell (p := ⟨w.heap.size + 1, 0, none⟩) (show w.heap.size + 1 < _ by omega)).trans r3
    have g2 := (World.frozen?_of_block (a := ⟨w.heap.size, 0, none⟩) ((Chg.ofBelow hB none').block w.heap.size (by omega) id)).trans f2
    have g3 := (World.frozen?_of_block (a := ⟨w.heap.size + 1, 0, none⟩) ((Chg.ofBelow hB none').block (w.heap.size + 1) (by omega) id)).trans f3
    have hmx : Try.prog.follows .mixedOrders = true := by kernel_rfl
    have Y := two_cells (u := .slice none 0 0) (v := .slice Ar lg.l.length nr) (show w.heap.size ≠ w.heap.size + 1 by omega) q2 q3
    have hC := (Chg.ofBelow hB (fun b => b = w.heap.size ∨ b = w.heap.size + 1)).trans Y.2.2
    have HY := Lib.hid Y
    clear Y
    have HK : ∀ (X : World), X = (W.drew.setCell ⟨w.heap.size, 0, none⟩ (.slice none 0 0)).setCell ⟨w.heap.size + 1, 0, none⟩ (.slice Ar lg.l.length nr) → X.heap[D]? = some (.deferred (some [])) := fun X e => by
      rw [e]
      exact ((KeepsOthers.drew _).trans ((KeepsOthers.setCell _ _ _).trans (KeepsOthers.setCell _ _ _))).same D _ hK rfl
    clear hB hne
    gi_wp2
    gi_region_with_o (fail)
    all_goals gi_wp2
    all_goals
      change bodyPostM _ _ _ _ _ _ _ ((W.drew.setCell ⟨w.heap.size, 0, none⟩ (.slice none 0 0)).setCell ⟨w.heap.size + 1, 0, none⟩ (.slice Ar lg.l.length nr))
      have hY := HY.out
      obtain ⟨X, hX⟩ : ∃ X, (W.drew.setCell ⟨w.heap.size, 0, none⟩ (.slice none 0 0)).setCell ⟨w.heap.size + 1, 0, none⟩ (.slice Ar lg.l.length nr) = X := ⟨_, rfl⟩
      have hKX := HK X hX.symm
      rw [hX] at hY hC ⊢
      have hg := grownBy_putObj' X D (.deferred none)
      have d2 : Chg (fun b => b = D) X (X.putObj D (.deferred none)) := ⟨hg.os, hg.tape, hg.output, hg.size, fun k hk hS => hg.block k hk fun e => hS (Option.some.inj e)⟩
      have d1 : Chg none' w X := c4.trans' hC fun i hi e => by rcases e with e | e <;> omega
      have d3 : Chg none' w (X.putObj D (.deferred none)) := d1.trans' d2 fun i hi e => by have := c4.size; omega
      have hrs := ((hrec.kept h03 fun _ _ => id).kept hC fun b hb e => by rcases e with e | e <;> omega).kept d2 fun b hb e => by omega
      have hc5 := cell_kept hY.1 hg (fun r e => by cases e; exact ⟨_, hKX, rfl⟩)
      have hc6 := cell_kept hY.2.1 hg (fun r e => by cases e; exact ⟨_, hKX, rfl⟩)
      refine ⟨by simp, .inl ⟨_, _, rfl, run_takeDeferred hKX, ?_⟩⟩
      refine ⟨.tuple #[.slice none 0 0, .slice Ar lg.l.length nr], ?_, 0, _, _, hat, rfl, Row.nil, Recs.mono hrs fun b _ hb => by omega, d3⟩
      simp [results, Try.f31, go_sem, hc5, hc6]
  case stop =>
    rintro D c pre W hD ⟨k, hk, hpre⟩ ⟨⟨rfl, ini, last, rfl, e2, e3, e4, e5⟩, hC⟩ hK
    obtain ⟨k', rfl⟩ : ∃ k', k = k' + 1 := by
      cases k with
      | zero => have := congrArg List.length hpre; simp [idxs] at this
      | succ k' => exact ⟨k', rfl⟩
    rw [idxs_succ, List.map_append] at hpre
    obtain ⟨hini, hlast⟩ := List.append_inj' hpre rfl
    have hla : last.1 = lg.l.length - 1 - k' := by simpa using hlast
    have hli := last.2
    have hat : LastAt lg.l (last.1 + 1) := by
      refine ⟨hli, fun r _ hr => ?_, fun j r hj hr => ?_⟩
      · have hr' : lg.l[last.1]? = some r := by simpa using hr
        rw [HE.out last.1 hli] at e3
        obtain ⟨_, rfl⟩ := List.getElem?_eq_some_iff.1 hr'
        exact e3
      · obtain ⟨hjl, rfl⟩ := List.getElem?_eq_some_iff.1 hr
        have hm : j ∈ ini.map (·.1) := by
          rw [hini]
          simp only [idxs, List.mem_map, List.mem_range]
          exact ⟨lg.l.length - 1 - j, by omega, by omega⟩
        obtain ⟨p, hp, rfl⟩ := List.mem_map.1 hm
        have := e2 p hp
        rw [HE.out p.1 hjl] at this
        exact this
    obtain ⟨_, _, _, _, _, _, _, hub⟩ := HU.out last.1 hli
    have hg := grownBy_putObj' W D (.deferred none)
    have d2 : Chg (fun b => b = D) W (W.putObj D (.deferred none)) := ⟨hg.os, hg.tape, hg.output, hg.size, fun k hk hS => hg.block k hk fun e => hS (Option.some.inj e)⟩
    have d1 : Chg none' w W := c4.trans' hC fun i hi e => by rcases e with e | e <;> omega
    have d3 : Chg none' w (W.putObj D (.deferred none)) := d1.trans' d2 fun i hi e => by have := c4.size; omega
    have hub' := ((hub.kept h03 fun _ _ => id).kept hC fun b hb e => by rcases e with e | e <;> omega).kept d2 fun b hb e => by omega
    have hrs := ((hrec.kept h03 fun _ _ => id).kept hC fun b hb e => by rcases e with e | e <;> omega).kept d2 fun b hb e => by omega
    have hsub := Row.sub hrs (lo := last.1 + 1) (hi := lg.l.length) hli (Nat.le_refl _)
    rw [List.take_length] at hsub
    have hsn : snapOf lg.l (last.1 + 1) = lg.l[last.1].b := by simp [snapOf, hli]
    have he2 : (E last.1).2 = us last.1 := by rw [HE.out last.1 hli]
    rw [he2] at e4
    have hc5 := cell_kept e4 hg (fun r e => by cases e; exact ⟨_, hK, rfl⟩)
    have hc6 := cell_kept e5 hg (fun r e => by cases e; exact ⟨_, hK, rfl⟩)
    gi_wp2
    refine ⟨by simp, .inl ⟨_, _, rfl, run_takeDeferred hK, ?_⟩⟩
    refine ⟨.tuple #[us last.1, sliced Ar (last.1 + 1) lg.l.length nr 2], ?_, last.1 + 1, _, _, hat, rfl, by rw [hsn]; exact Row.mono hub' fun b _ hb => by omega, Recs.mono hsub fun b _ hb => by omega, d3⟩
    simp [results, Try.f31, go_sem, hc5, hc6]

end Go.Proofs.Ytclbbddpedcfjaa
