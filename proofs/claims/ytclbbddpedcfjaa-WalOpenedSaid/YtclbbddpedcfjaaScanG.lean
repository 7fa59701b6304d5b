/-
  Open, told with where the records' bytes lie: in blocks that Open has laid.
-/
import Derived.Test.YtclbbddpedcfjaaLog3
namespace Go.Proofs.Ytclbbddpedcfjaa
open Go.RowKit

set_option maxRecDepth 100000 in
set_option maxHeartbeats 2000000 in
theorem w_scanG {v : Value} {bs : List UInt8} (w : World) (h : Bytes (old' w) w v bs) (hl : bs.length ≤ 1000000000000) :
    Calls Try.prog 39 #[v] w fun e w' => ∃ u, e = .returned (.tuple #[u, .int .i64 (scan bs).2.1, .int .i64 (scan bs).2.2]) ∧ OwnRG (fun b => w.heap.size ≤ b) w.heap.size w' u (scan bs).1 ∧ Chg none' w w' := by
  obtain ⟨A, c, rfl⟩ := h.shape
  have hcl : bs.length ≤ c := by obtain ⟨A, c', e, q, _⟩ := h; simp only [Value.slice.injEq] at e; omega
  go_enter Try.func39, Try.ntmps39
  go_wp2
  go_step3
  go_wp2
  go_step3
  go_wp2
  go_loopw [5, 6, 7] (fun ov iv yv wr => ∃ (k : Nat) (l : List Rec), ScanTo bs k l ∧ iv = .int .i64 k ∧ yv = .int .i64 0 ∧ OwnRG (fun b => w.heap.size ≤ b) w.heap.size wr ov l ∧ Chg none' w wr) (fun _ i _ _ => bs.length - (intOf i).toNat)
  case atStart => exact ⟨0, [], ScanTo.start bs, rfl, rfl, OwnRG.nil _ _ _, Chg.refl _ _⟩
  case round =>
    obtain ⟨k, l, hsc, rfl, rfl, hown, hchg⟩ := hrel
    have hk := hsc.1
    by_cases hlt : k < bs.length
    · obtain ⟨b, o, c', e1, hF, c0⟩ := h.at_ (i := k) hlt
      simp only [Value.slice.injEq] at e1
      obtain ⟨rfl, _, rfl⟩ := e1
      have hck : ¬ c = k := by omega
      have hd := (h.kept hchg fun _ _ => id).lo_ (j := k) (by omega) hck
      have hdl : (bs.drop k).length ≤ 140737488355328 := by rw [List.length_drop]; omega
      have HS := Lib.hid hsc; clear hsc
      go_wp2_with fail
      refine (w_next _ hd.old hdl).mono ?_
      rintro e w1 ⟨hout, c1⟩
      rcases hout with ⟨hn, u, rfl, ou⟩ | ⟨hn, rfl⟩
      · have HM := Lib.hid (HS.out.more hn); clear hn
        have hlk := HS.out.2.1
        have hkn := HM.out.1
        have ho1 := hown.keep c1 (fun _ _ => id) (fun _ _ => id)
        have hob := hown.base_
        generalize nextRec (bs.drop k) = r at *
        generalize nextLen (bs.drop k) = n at *
        obtain ⟨Au, cu, rfl⟩ := ou.shape
        have hu : Bytes (fun b => wr.heap.size ≤ b) w1 (.slice Au r.b.length cu) r.b := Row.mono ou.bytes fun b _ e => ou.base_ b e
        have hd1 := hchg.trans c1
        go_wp2_with (at_builtin; refine wpList_appRG rfl (.tmp 28) (.tmp 32) rfl (ho1.keep (S := none') ((Chg.refl _ _).alloc _) (fun _ _ => id) (fun _ _ => id)) (src_rec hu rfl) (fun b hb => Nat.le_trans hchg.size hb) (fun b hb e => by have := (hob b e).2; omega) rfl rfl (by simp only [List.length_singleton]; omega) (by have := hd1.size; simp; omega) ?_; intro v2 w2 o2 c2 b2)
        go_roundw
        case rel => exact ⟨k + (n + 10), l ++ [r], HM.out, by go_num, rfl, o2, (hd1.alloc _).trans' c2 fun i hi e => by have := (hob i e).1; omega⟩
        case measure => simp [intOf]; omega
      · have hn4 : nextErr (bs.drop k) ≠ 4 := by rw [Ne, nextErr_four, List.length_drop]; omega
        have he := HS.out.stop hn
        rw [if_neg hn4] at he
        have HE := Lib.hid he; clear he hn4
        have z1 := int_ne0 hn
        have z2 := int_ne0' hn
        go_wp2
        first | go_ret3 | (rw [Exit.noGoto_ret]; go_ret3)
        rw [HE.out]
        exact ⟨_, rfl, hown.keep c1 (fun _ _ => id) (fun _ _ => id), hchg.trans c1⟩
    · obtain rfl : k = bs.length := by omega
      have hn : nextErr (bs.drop bs.length) = 4 := nextErr_four.2 (by simp)
      have he := hsc.stop (by rw [hn]; decide)
      rw [hn, if_pos rfl] at he
      have HE := Lib.hid he; clear he hn
      go_wp2
      first | go_ret3 | (rw [Exit.noGoto_ret]; go_ret3)
      rw [HE.out]
      exact ⟨_, rfl, hown, hchg⟩

theorem LogB.keepG {F S : Nat → Prop} {w w' : World} {g gd n : Nat} {FD : Nat → Prop} {vl : Value} {lg : Lg} (h : LogB F w g gd FD vl lg) (hr : OwnRG (fun b => ¬ F b ∧ n ≤ b) 0 w vl lg.l) (hF : ∀ b, F b → n ≤ b) (c : Chg S w w') (hS : ∀ b, S b → b < n) : LogB F w' g gd FD vl lg := by
  have hn : ∀ b, F b → ¬ S b := fun b hb q => by have := hF b hb; have := hS b q; omega
  exact ⟨(c.block g (h.flt g h.fg) (hn g h.fg)).trans h.heap, h.disk.keep c fun b hb => hn b (h.fD b hb), (hr.keep c (fun b hb => hn b (h.fl b hb)) fun b hb q => by have := hS b q; omega).mono fun _ _ hb => hb.1, h.gD, h.gl, h.lD, h.fg, h.fD, h.fl, fun b hb => Nat.lt_of_lt_of_le (h.flt b hb) c.size⟩

section
variable {w : World}
set_option maxRecDepth 100000 in
set_option maxHeartbeats 1000000 in
/-- As 'w_wopen'; what was there ahead of it does not bear on the log. -/
theorem w_wopenG {FD : Nat → Prop} {gd : Nat} {d : Dk} (h : IsDisk FD w gd d) :
    Calls Try.prog 23 #[.pointer (some ⟨gd, 0, none⟩)] w fun e w' => ∃ g F, e = .returned (.tuple #[.pointer (some ⟨g, 0, none⟩), .int .i64 ((d.L ++ d.T).length - (scan (d.L ++ d.T)).2.1 : Int), .int .i64 0]) ∧ IsLog F w' g (wopen d) ∧ Ext none' F w ∧ Chg none' w w' ∧ ∀ S W, Chg S w' W → (∀ b, S b → b < w.heap.size) → IsLog F W g (wopen d) := by
  have hlen := h.len
  have hok := LgOk.open_ d
  obtain ⟨_, hsl, _⟩ := scan_there (d.L ++ d.T)
  have hsn := scan_len (d.L ++ d.T)
  have hbl : (d.L ++ d.T).length ≤ 4194304 := by rw [List.length_append]; exact hlen
  have SC := fun W v (x : Bytes (old' W) W v (d.L ++ d.T)) => w_scanG W x (by omega)
  have KB := w_dbytes h
  unfold wopen at hok ⊢
  generalize d.L ++ d.T = bs at *
  generalize scan bs = sc at *
  obtain ⟨l, n, y⟩ := sc
  simp only at hok hsl hsn SC ⊢
  go_enter Try.func23, Try.ntmps23
  go_wp2_with fail
  refine KB.mono ?_
  rintro e w1 ⟨vb, rfl, ob, c1⟩
  have h1 := h.keep c1 fun _ _ => id
  obtain ⟨Ab, nb, rfl⟩ := ob.shape
  go_wp2_with fail
  refine (SC _ _ ob.bytes.old).mono ?_
  rintro e w2 ⟨vl, rfl, ol, c2⟩
  have h2 := h1.keep c2 fun _ _ => id
  have ob2 := ob.keep c2 fun _ => none_own
  have d2 := c1.trans c2
  go_wp2_with fail
  refine (w_dcopy h2).mono ?_
  rintro e w3 ⟨gc, FC, rfl, hC, xC, c3⟩
  have ob3 := ob2.keep c3 fun _ => none_own
  have ol3 := ol.keep c3 (fun _ _ => id) (fun _ _ => id)
  have d3 := d2.trans c3
  have hnn : (n : Int) ≤ nb := by
    obtain ⟨A, c', e, q, _⟩ := ob.bytes
    simp only [Value.slice.injEq] at e
    omega
  have hbt := Row.hi' ob3.bytes (j := n) hsl
  have htl : (bs.take n).length ≤ 4194304 := by rw [List.length_take]; omega
  obtain ⟨Al, nl, rfl, _, _⟩ := ol.own.recs.shape
  go_wp2_with fail
  refine (w_drepl hC hbt htl).mono ?_
  rintro e w4 ⟨FC', rfl, hC4, xC4, c4⟩
  have ol3' : OwnRG (fun b => b < w2.heap.size ∧ w1.heap.size ≤ b) w1.heap.size w3 (.slice Al l.length nl) l := (ol.mono fun b hb hg => ⟨hb, hg⟩).keep c3 (fun _ _ => id) (fun _ _ => id)
  have ol4 : OwnRG (fun b => ¬ FC' b ∧ w1.heap.size ≤ b) w1.heap.size w4 (.slice Al l.length nl) l := by
    have hc : ∀ k, k < w2.heap.size → ¬ FC k := fun k hk hf => by
      rcases xC k hf with q | q
      · exact q
      · omega
    have h5 := (ol3'.keep c4 (fun k hk => hc k (ol.base_ k hk).2) fun k hk => hc k hk.1)
    exact h5.mono fun k _ hk => ⟨fun hf => by
      rcases xC4 k hf with q | q
      · exact hc k hk.1 q
      · have := c3.size; omega, hk.2⟩
  have hbase : ∀ b, FC' b → w.heap.size ≤ b := fun b hb => by
    rcases xC4 b hb with q | q
    · rcases xC b q with r | r
      · exact r.elim
      · have := d2.size; omega
    · have := d3.size; omega
  have hm := LogB.made (lg := ⟨⟨bs.take n, [], d.n⟩, l, l.length⟩) (t := 72) rfl w.heap.size (Nat.le_trans d3.size c4.size) hC4 ((ol4.mono fun _ _ hk => hk.1).less c1.size) hbase (fun b e hf => by
    have := (ol.base_ b e).2
    rcases xC4 b hf with q | q
    · rcases xC b q with r | r
      · exact r
      · omega
    · have := c3.size; omega)
  have d4 : Chg none' w w4 := d3.trans' c4 fun i hi q => by
    rcases xC i q with r | r
    · exact r
    · have := d2.size; omega
  go_wp2
  go_ret3
  have hFF : ∀ b, FC' b ∨ Value.ownBlock (.slice Al l.length nl) = some b ∨ b = w4.heap.size → w.heap.size ≤ b := fun b hb => by
    rcases hb with r | r | r
    · exact hbase b r
    · exact Nat.le_trans c1.size (ol.base_ b r).1
    · subst r; exact d4.size
  refine ⟨_, _, rfl, ⟨_, _, _, hm, hok⟩, fun b hb => .inr (hFF b hb), d4.alloc _, fun S W cW hS => ⟨_, _, _, hm.keepG ?_ hFF cW hS, hok⟩⟩
  have h6 : OwnRG (fun b => ¬ (FC' b ∨ Value.ownBlock (.slice Al l.length nl) = some b ∨ b = w4.heap.size) ∧ w.heap.size ≤ b) w1.heap.size w4 (.slice Al l.length nl) l := by
    obtain ⟨ps, e, q1, q2⟩ := ol4
    exact ⟨ps, e, q1, fun p hp => Row.mono (q2 p hp) fun b hb hg => ⟨⟨fun hh => by
      rcases hh with r | r | r
      · exact hg.1.1 r
      · exact hg.2 r
      · omega, Nat.le_trans c1.size hg.1.2⟩, hg.2⟩⟩
  exact (h6.keep (S := none') ((Chg.refl _ _).alloc _) (fun _ _ => id) fun _ _ => id).less (Nat.zero_le _)

end

end Go.Proofs.Ytclbbddpedcfjaa
