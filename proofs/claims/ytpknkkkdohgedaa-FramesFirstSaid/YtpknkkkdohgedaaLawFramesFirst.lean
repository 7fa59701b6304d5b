/-
  The walk of FramesFirst.
-/
import Derived.Test.YtpknkkkdohgedaaWFrames6
import Derived.Test.YtpknkkkdohgedaaOpen
namespace Go.Proofs.Ytpknkkkdohgedaa
open Go.RowKit

theorem Recs.lo_ {F : Nat → Prop} {w : World} {b o c : Nat} {rs : List Rec} (h : Recs F w (.slice (some ⟨b, o, none⟩) rs.length c) rs) {j : Nat} (hj : j ≤ rs.length) (hc : ¬ c = j) : Recs F w (.slice (some ⟨b, o + j * 2, none⟩) (rs.length - j) (c - j)) (rs.drop j) := by
  have := Row.sub h hj (Nat.le_refl _)
  simp only [sliced, if_neg hc, Addr.add_lit, List.take_length, Option.map_some] at this
  exact this
theorem Recs.lo0_ {F : Nat → Prop} {w : World} {b o c : Nat} {rs : List Rec} (h : Recs F w (.slice (some ⟨b, o, none⟩) rs.length c) rs) {j : Nat} (hj : j ≤ rs.length) (hc : c = j) : Recs F w (.slice (some ⟨b, o, none⟩) (rs.length - j) 0) (rs.drop j) := by
  have := Row.sub h hj (Nat.le_refl _)
  simp only [sliced, if_pos hc, List.take_length] at this
  rw [show c - j = 0 by omega] at this
  exact this
theorem Bytes.lo0_ {F : Nat → Prop} {w : World} {b o c : Nat} {bs : List UInt8} (h : Bytes F w (.slice (some ⟨b, o, none⟩) bs.length c) bs) {j : Nat} (hj : j ≤ bs.length) (hl : bs.length ≤ c) (hc : c = j) : Bytes F w (.slice (some ⟨b, o, none⟩) (bs.length - j) 0) (bs.drop j) := by
  have := Row.sub h hj (Nat.le_refl _)
  simp only [sliced, if_pos hc, List.take_length] at this
  rw [show c - j = 0 by omega] at this
  exact this

set_option maxRecDepth 100000 in
set_option maxHeartbeats 4000000 in
theorem walk_FramesFirst (w : World) {v : Value} {bs : List UInt8} (h : Bytes (old' w) w v bs) (hr0 : bs.length ≤ 140737488351232) :
    Calls Try.prog 4 #[v] w fun e w' => e = .returned (.bool true) ∧ Chg none' w w' := by
  have hr : bs.length ≤ 140737488355328 := by omega
  obtain ⟨A, c, rfl⟩ := h.shape
  have hcl : bs.length ≤ c := by obtain ⟨A, c', e, q, _⟩ := h; simp only [Value.slice.injEq] at e; omega
  by_cases hlen : 1500 < bs.length
  · go_enter Try.func4, Try.ntmps4
    go_wp2_with fail
    refine (w_known05 _).mono ?_
    rintro e w1 ⟨rfl, c1⟩
    go_wp2
    go_ret
    exact ⟨rfl, c1⟩
  go_enter Try.func4, Try.ntmps4
  go_wp2_with fail
  go_at_call 11
  refine (w_scan _ h (by omega)).mono ?_
  rintro e w1 ⟨u1, rfl, o1, c1⟩
  have h1 := h.kept c1 fun _ _ => id
  by_cases hn : nextErr bs = 0
  · obtain ⟨_, hq1, hq2, _⟩ := nextErr_zero hn
    rw [scan_ok hn] at o1 ⊢
    have hx := scan_there (bs.drop (nextLen bs + 10))
    have hsd : ∀ (x : Value) (W : World), Bytes (old' w) W x (bs.drop (nextLen bs + 10)) → (bs.drop (nextLen bs + 10)).length ≤ 1000000000000 → _ := fun x W hb hl => w_scan (bs := bs.drop (nextLen bs + 10)) W hb.old hl
    have hdl : (bs.drop (nextLen bs + 10)).length = bs.length - (nextLen bs + 10) := List.length_drop
    have hxl := hx.2.1
    rw [hdl] at hxl
    clear hx
    have N1 := w_next _ h1.old hr
    unfold NextOut at N1
    generalize nextRec bs = r at *
    generalize nextLen bs = n at *
    generalize scan (bs.drop (n + 10)) = sc at *
    obtain ⟨l, at', why⟩ := sc
    simp only at o1 hxl ⊢
    go_wp2_with fail
    go_at_call 13
    refine N1.mono ?_
    rintro e w2 ⟨⟨_, x1, rfl, hx1⟩ | ⟨hne, _⟩, c2⟩
    rotate_left
    · exact absurd hn hne
    clear N1 hn
    have q2 := o1.keep c2
    have h2 := h1.kept c2 fun _ _ => id
    obtain ⟨b1, g1, k1, y1, e1, _, ck1, cu1, hu1⟩ := q2.recs.at_ (i := 0) (by simp)
    subst e1
    simp only [List.getElem_cons_zero, Nat.zero_mul, Nat.add_zero] at ck1 cu1 hu1
    obtain ⟨Ay, cy, rfl⟩ := hu1.shape
    obtain ⟨Ax, cx, rfl⟩ := hx1.shape
    have hlk : (l.length : Int) + 1 ≤ k1 := by
      obtain ⟨A, c', e, q, _⟩ := q2.recs.shape
      simp only [Value.slice.injEq] at e
      simp only [List.length_cons] at q
      omega
    obtain ⟨b, o, c', e2, hF, c0⟩ := h.at_ (i := 0) (by omega)
    simp only [Value.slice.injEq] at e2
    obtain ⟨rfl, _, rfl⟩ := e2
    have hn1 : (n : Int) + 10 ≤ bs.length := by omega
    have hn2 : (n : Int) + 10 ≤ c := by omega
    have R0 := q2.recs
    have lc : (r :: l).length = l.length + 1 := rfl
    have z0 : ((l.length : Int) + 1 == 0) = false := by rw [beq_eq_false_iff_ne]; omega
    have z1 : ((r.kind.toNat : Int) == (r.kind.toNat : Int)) = true := beq_self_eq_true _
    have z2 : ((r.kind.toNat : Int) != (r.kind.toNat : Int)) = false := by rw [bne, z1]; rfl
    by_cases hcn : c = n + 10 <;> by_cases hk1 : k1 = 1
    · have hd := h2.lo0_ (j := n + 10) (by omega) hcl hcn
      have hm : Recs all' w2 (.slice (some ⟨b1, g1, none⟩) l.length 0) l := R0.lo0_ (j := 1) (by simp) hk1
      go_wp2_with fail
      go_at_call 16
      refine (w_same00 _ hu1 hx1.bytes).mono ?_
      rintro e w3 ⟨rfl, rfl⟩
      rw [beq_self_eq_true]
      go_wp2_with fail
      go_at_call 11
      refine (hsd _ _ hd (by omega)).mono ?_
      rintro e w4 ⟨u4, rfl, o4, c4⟩
      go_wp2_with fail
      go_at_call 15
      refine (w_rsame _ o4.recs (hm.kept c4 fun _ _ => id)).mono ?_
      rintro e w5 ⟨rfl, c5⟩
      go_wp2_with fail
      go_at_call 10
      refine (w_known05 _).mono ?_
      rintro e w6 ⟨rfl, c6⟩
      go_wp2
      go_ret
      exact ⟨rfl, (((c1.trans c2).trans c4).trans c5).trans c6⟩
    · have hd := h2.lo0_ (j := n + 10) (by omega) hcl hcn
      have hm : Recs all' w2 (.slice (some ⟨b1, g1 + 2, none⟩) l.length (k1 - 1)) l := R0.lo_ (j := 1) (by simp) hk1
      go_wp2_with fail
      go_at_call 16
      refine (w_same00 _ hu1 hx1.bytes).mono ?_
      rintro e w3 ⟨rfl, rfl⟩
      rw [beq_self_eq_true]
      go_wp2_with fail
      go_at_call 11
      refine (hsd _ _ hd (by omega)).mono ?_
      rintro e w4 ⟨u4, rfl, o4, c4⟩
      go_wp2_with fail
      go_at_call 15
      refine (w_rsame _ o4.recs (hm.kept c4 fun _ _ => id)).mono ?_
      rintro e w5 ⟨rfl, c5⟩
      go_wp2_with fail
      go_at_call 10
      refine (w_known05 _).mono ?_
      rintro e w6 ⟨rfl, c6⟩
      go_wp2
      go_ret
      exact ⟨rfl, (((c1.trans c2).trans c4).trans c5).trans c6⟩
    · have hd := h2.lo_ (j := n + 10) (by omega) hcn
      have hm : Recs all' w2 (.slice (some ⟨b1, g1, none⟩) l.length 0) l := R0.lo0_ (j := 1) (by simp) hk1
      go_wp2_with fail
      go_at_call 16
      refine (w_same00 _ hu1 hx1.bytes).mono ?_
      rintro e w3 ⟨rfl, rfl⟩
      rw [beq_self_eq_true]
      go_wp2_with fail
      go_at_call 11
      refine (hsd _ _ hd (by omega)).mono ?_
      rintro e w4 ⟨u4, rfl, o4, c4⟩
      go_wp2_with fail
      go_at_call 15
      refine (w_rsame _ o4.recs (hm.kept c4 fun _ _ => id)).mono ?_
      rintro e w5 ⟨rfl, c5⟩
      go_wp2_with fail
      go_at_call 10
      refine (w_known05 _).mono ?_
      rintro e w6 ⟨rfl, c6⟩
      go_wp2
      go_ret
      exact ⟨rfl, (((c1.trans c2).trans c4).trans c5).trans c6⟩
    · have hd := h2.lo_ (j := n + 10) (by omega) hcn
      have hm : Recs all' w2 (.slice (some ⟨b1, g1 + 2, none⟩) l.length (k1 - 1)) l := R0.lo_ (j := 1) (by simp) hk1
      go_wp2_with fail
      go_at_call 16
      refine (w_same00 _ hu1 hx1.bytes).mono ?_
      rintro e w3 ⟨rfl, rfl⟩
      rw [beq_self_eq_true]
      go_wp2_with fail
      go_at_call 11
      refine (hsd _ _ hd (by omega)).mono ?_
      rintro e w4 ⟨u4, rfl, o4, c4⟩
      go_wp2_with fail
      go_at_call 15
      refine (w_rsame _ o4.recs (hm.kept c4 fun _ _ => id)).mono ?_
      rintro e w5 ⟨rfl, c5⟩
      go_wp2_with fail
      go_at_call 10
      refine (w_known05 _).mono ?_
      rintro e w6 ⟨rfl, c6⟩
      go_wp2
      go_ret
      exact ⟨rfl, (((c1.trans c2).trans c4).trans c5).trans c6⟩
  · have hs := scan_no hn
    have N1 := w_next _ h1.old hr
    unfold NextOut at N1
    rw [hs] at o1 ⊢
    clear hs
    simp only at o1 ⊢
    obtain ⟨A1, k1, rfl⟩ : ∃ A k, u1 = .slice A 0 k := by obtain ⟨A, k, e, _⟩ := o1.recs.shape; exact ⟨A, k, e⟩
    have hn0 : nextErr bs ≠ 0 := hn
    generalize nextErr bs = ee at *
    have z1 := int_ne0 hn0
    have z2 := int_ne0' hn0
    by_cases h4 : ee = 4
    · subst h4
      rw [if_pos rfl]
      go_wp2_with fail
      go_at_call 13
      refine N1.mono ?_
      rintro e w2 ⟨⟨he, _⟩ | ⟨_, rfl⟩, c2⟩
      · exact absurd he hn0
      clear N1
      go_wp2_with fail
      refine (w_known05 _).mono ?_
      rintro e w3 ⟨rfl, c3⟩
      go_wp2
      go_ret
      exact ⟨rfl, (c1.trans c2).trans c3⟩
    · have z3 : ((ee : Int) == 4) = false := by rw [beq_eq_false_iff_ne]; omega
      rw [if_neg h4]
      go_wp2_with fail
      go_at_call 13
      refine N1.mono ?_
      rintro e w2 ⟨⟨he, _⟩ | ⟨_, rfl⟩, c2⟩
      · exact absurd he hn0
      clear N1
      go_wp2_with fail
      refine (w_known05 _).mono ?_
      rintro e w3 ⟨rfl, c3⟩
      go_wp2
      go_ret
      exact ⟨rfl, (c1.trans c2).trans c3⟩

end Go.Proofs.Ytpknkkkdohgedaa
