/-
  Walks: what is done to a log, and what is told of it.
-/
import Derived.Test.YtclbbddpedcfjaaLog2
namespace Go.Proofs.Ytclbbddpedcfjaa
open Go.RowKit

theorem LgOk.nil (n : Nat) : LgOk ⟨⟨[], [], n⟩, [], 0⟩ := ⟨fun r hr => by simp at hr, Nat.le_refl _, rfl, rfl⟩
def wsync (lg : Lg) : Lg := ⟨dsync lg.d, lg.l, lg.l.length⟩
theorem LgOk.sync {lg : Lg} (h : LgOk lg) : LgOk (wsync lg) := ⟨h.ok, Nat.le_refl _, by unfold wsync dsync; simp only; rw [List.take_length]; exact h.all, by unfold wsync dsync; simp only [List.append_nil]; exact h.all⟩
def wsnap (lg : Lg) (b : List UInt8) : Lg := ⟨⟨frame ⟨0, b⟩, [], lg.d.n⟩, [⟨0, b⟩], 1⟩
theorem LgOk.snap {lg : Lg} {b : List UInt8} (h : b.length ≤ 65536) : LgOk (wsnap lg b) := ⟨fun r hr => by simp [wsnap] at hr; subst hr; exact h, Nat.le_refl _, by simp [wsnap, frames], by simp [wsnap, frames]⟩

/-- The log of a disk's bytes. -/
noncomputable def wopen (d : Dk) : Lg := ⟨⟨(d.L ++ d.T).take (scan (d.L ++ d.T)).2.1, [], d.n⟩, (scan (d.L ++ d.T)).1, (scan (d.L ++ d.T)).1.length⟩
theorem LgOk.open_ (d : Dk) : LgOk (wopen d) := by
  obtain ⟨h1, h2, h3⟩ := scan_there (d.L ++ d.T)
  exact ⟨h3, Nat.le_refl _, by unfold wopen; simp only; rw [List.take_length]; exact h1.symm, by unfold wopen; simp only [List.append_nil]; exact h1.symm⟩

section
variable {F : Nat → Prop} {w : World} {g : Nat} {lg : Lg}
set_option maxRecDepth 100000 in
set_option maxHeartbeats 400000 in
theorem w_wrecords (h : IsLog F w g lg) :
    Calls Try.prog 14 #[.pointer (some ⟨g, 0, none⟩)] w fun e w' => ∃ u, e = .returned u ∧ OwnRG (fun b => w.heap.size ≤ b) w.heap.size w' u lg.l ∧ Chg none' w w' := by
  have hm := h.max
  have hn := len_long lg.l
  obtain ⟨gd, FD, vl, h, hok⟩ := h
  have c1 := h.cell1
  go_enter Try.func14, Try.ntmps14
  go_wp2_with fail
  refine (w_copied _ h.recs.own.recs (by omega) fun r hr => by have := hok.ok r hr; omega).mono ?_
  rintro e w1 ⟨u, rfl, o1, c1⟩
  go_wp2
  go_ret
  exact ⟨_, rfl, o1, c1⟩

set_option maxRecDepth 100000 in
set_option maxHeartbeats 1000000 in
theorem w_wsync (h : IsLog F w g lg) (hn : lg.d.n ≤ 1000000000000000) :
    Calls Try.prog 13 #[.pointer (some ⟨g, 0, none⟩)] w fun e w' => ∃ F', e = .returned (.int .i64 0) ∧ IsLog F' w' g (wsync lg) ∧ Ext F F' w ∧ Chg F w w' := by
  obtain ⟨gd, FD, vl, h, hok⟩ := h
  obtain ⟨A, c, rfl, _, _⟩ := h.shape
  have c1 := h.cell1
  have c2 := h.cell2
  have f2 := h.free 2
  have h' := h.setLast lg.l.length
  have cs : Chg F w (w.setCell ⟨g, 2, none⟩ (.int .i64 (lg.l.length : Int))) := (Chg.refl _ _).setCell (.inr h.fg) _
  have k0 := h'.cell0
  go_enter Try.func13, Try.ntmps13
  go_wp2_with fail
  refine (w_dsync h'.disk hn).mono ?_
  rintro e w2 ⟨FD', rfl, q1, q2, q3⟩
  go_wp2
  go_ret
  refine ⟨_, rfl, ⟨_, _, _, h'.redisk q1 q2 q3, hok.sync⟩, fun b hb => ?_, cs.trans (q3.mono fun b _ hb => h.fD b hb)⟩
  rcases hb with r | r
  · exact .inl r
  · exact (q2 b r).imp (h.fD b) (Nat.le_trans cs.size)

set_option maxRecDepth 100000 in
set_option maxHeartbeats 1000000 in
theorem w_wopen {FD : Nat → Prop} {gd : Nat} {d : Dk} (h : IsDisk FD w gd d) :
    Calls Try.prog 23 #[.pointer (some ⟨gd, 0, none⟩)] w fun e w' => ∃ g F, e = .returned (.tuple #[.pointer (some ⟨g, 0, none⟩), .int .i64 ((d.L ++ d.T).length - (scan (d.L ++ d.T)).2.1 : Int), .int .i64 0]) ∧ IsLog F w' g (wopen d) ∧ Ext none' F w ∧ Chg none' w w' := by
  have hlen := h.len
  have hok := LgOk.open_ d
  obtain ⟨_, hsl, _⟩ := scan_there (d.L ++ d.T)
  have hsn := scan_len (d.L ++ d.T)
  have hbl : (d.L ++ d.T).length ≤ 4194304 := by rw [List.length_append]; exact hlen
  have SC := fun W v (x : Bytes (old' W) W v (d.L ++ d.T)) => w_scan W x (by omega)
  have KB := w_dbytes h
  unfold wopen at hok ⊢
  generalize d.L ++ d.T = bs at *
  generalize scan bs = sc at *
  obtain ⟨l, n, y⟩ := sc
  simp only at hok hsl hsn SC ⊢
  go_enter Try.func23, Try.ntmps23
  go_wp2_with fail
  refine KB.mono ?_
  rintro e w1 ⟨vb, rfl, ob, c1⟩
  have h1 := h.keep c1 fun _ _ => id
  obtain ⟨Ab, nb, rfl⟩ := ob.shape
  go_wp2_with fail
  refine (SC _ _ ob.bytes.old).mono ?_
  rintro e w2 ⟨vl, rfl, ol, c2⟩
  have h2 := h1.keep c2 fun _ _ => id
  have ob2 := ob.keep c2 fun _ => none_own
  have d2 := c1.trans c2
  go_wp2_with fail
  refine (w_dcopy h2).mono ?_
  rintro e w3 ⟨gc, FC, rfl, hC, xC, c3⟩
  have ob3 := ob2.keep c3 fun _ => none_own
  have ol3 := ol.gen.keep c3 (fun _ _ => id) (fun _ _ => id)
  have d3 := d2.trans c3
  have hnn : (n : Int) ≤ nb := by
    obtain ⟨A, c', e, q, _⟩ := ob.bytes
    simp only [Value.slice.injEq] at e
    omega
  have hbt := Row.hi' ob3.bytes (j := n) hsl
  have htl : (bs.take n).length ≤ 4194304 := by rw [List.length_take]; omega
  obtain ⟨Al, nl, rfl, _, _⟩ := ol.recs.shape
  go_wp2_with fail
  refine (w_drepl hC hbt htl).mono ?_
  rintro e w4 ⟨FC', rfl, hC4, xC4, c4⟩
  have ol4 : OwnRG (fun b => ¬ FC' b) w1.heap.size w4 (.slice Al l.length nl) l := by
    have hc : ∀ k, k < w2.heap.size → ¬ FC k := fun k hk hf => by
      rcases xC k hf with q | q
      · exact q
      · omega
    have h5 := (ol3.keep c4 (fun k hk => hc k (ol.base_ k hk).2) fun k hk => hc k hk.1)
    exact h5.mono fun k _ hk hf => by
      rcases xC4 k hf with q | q
      · exact hc k hk.1 q
      · have := c3.size; omega
  have hbase : ∀ b, FC' b → w.heap.size ≤ b := fun b hb => by
    rcases xC4 b hb with q | q
    · rcases xC b q with r | r
      · exact r.elim
      · have := d2.size; omega
    · have := d3.size; omega
  have hm := LogB.made (lg := ⟨⟨bs.take n, [], d.n⟩, l, l.length⟩) (t := 72) rfl w.heap.size (Nat.le_trans d3.size c4.size) hC4 (ol4.less c1.size) hbase (fun b e hf => by
    have := (ol.base_ b e).2
    rcases xC4 b hf with q | q
    · rcases xC b q with r | r
      · exact r
      · omega
    · have := c3.size; omega)
  have d4 : Chg none' w w4 := d3.trans' c4 fun i hi q => by
    rcases xC i q with r | r
    · exact r
    · have := d2.size; omega
  go_wp2
  go_ret3
  refine ⟨_, _, rfl, ⟨_, _, _, hm, hok⟩, fun b hb => ?_, d4.alloc _⟩
  rcases hb with r | r | r
  · exact .inr (hbase b r)
  · exact .inr (Nat.le_trans c1.size (ol.base_ b r).1)
  · subst r; exact .inr d4.size

theorem w_wopen_nil (w : World) : Calls Try.prog 23 #[.pointer none] w fun e w' => e = .returned (.tuple #[.pointer none, .int .i64 0, .int .i64 1]) ∧ w = w' := by
  go_enter Try.func23, Try.ntmps23
  go_wp2
  go_ret3
  exact ⟨rfl, rfl⟩

set_option maxRecDepth 100000 in
set_option maxHeartbeats 1000000 in
theorem w_wcrash_no (h : IsLog F w g lg) {q : Int} (hq : q < 0) :
    Calls Try.prog 20 #[.pointer (some ⟨g, 0, none⟩), .int .i64 q] w fun e w' => e = .returned (.tuple #[.pointer none, .int .i64 2]) ∧ Chg none' w w' := by
  obtain ⟨gd, FD, vl, h, hok⟩ := h
  have c0 := h.cell0
  go_enter Try.func20, Try.ntmps20
  go_wp2_with fail
  refine (w_dcopy h.disk).mono ?_
  rintro e w1 ⟨g', F', rfl, q1, q2, q3⟩
  go_wp2_with fail
  refine (w_dcrash_no hq).mono ?_
  rintro e w2 ⟨rfl, rfl⟩
  go_wp2
  go_ret2
  exact ⟨rfl, q3⟩
set_option maxRecDepth 100000 in
set_option maxHeartbeats 1000000 in
theorem w_wcrash (h : IsLog F w g lg) (q : Nat) :
    Calls Try.prog 20 #[.pointer (some ⟨g, 0, none⟩), .int .i64 (q : Int)] w fun e w' => ∃ g' F', e = .returned (.tuple #[.pointer (some ⟨g', 0, none⟩), .int .i64 0]) ∧ IsLog F' w' g' (wopen (dcrash lg.d q)) ∧ Ext none' F' w ∧ Chg none' w w' := by
  obtain ⟨gd, FD, vl, h, hok⟩ := h
  have c0 := h.cell0
  go_enter Try.func20, Try.ntmps20
  go_wp2_with fail
  refine (w_dcopy h.disk).mono ?_
  rintro e w1 ⟨g', F', rfl, q1, q2, q3⟩
  go_wp2_with fail
  refine (w_dcrash q1 q).mono ?_
  rintro e w2 ⟨F2, rfl, r1, r2, r3⟩
  have d2 : Chg none' w w2 := q3.trans' r3 fun i hi hf => by
    rcases q2 i hf with z | z
    · exact z
    · omega
  go_wp2_with fail
  refine (w_wopen r1).mono ?_
  rintro e w3 ⟨g3, F3, rfl, s1, s2, s3⟩
  go_wp2
  go_ret2
  exact ⟨g3, F3, rfl, s1, fun b hb => (s2 b hb).imp id (Nat.le_trans d2.size), d2.trans s3⟩
end

end Go.Proofs.Ytclbbddpedcfjaa
