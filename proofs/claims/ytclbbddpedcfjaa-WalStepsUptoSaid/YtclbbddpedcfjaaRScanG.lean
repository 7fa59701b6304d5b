/-
  The answer's Scan, told with where the records' bytes lie. (Printed by gen_rscang.py out of XWFrames4.)
-/
import Derived.Test.YtclbbddpedcfjaaLast
import Derived.Test.YtclbbddpedcfjaaWFrames4
namespace Go.Proofs.Ytclbbddpedcfjaa
open Go.RowKit

set_option maxRecDepth 100000 in
set_option maxHeartbeats 2000000 in
theorem w_rscanG (N : Nat) : ∀ {v : Value} {bs : List UInt8} (w : World) (_ : bs.length ≤ N) (h : Bytes (old' w) w v bs) (hl : bs.length ≤ 1000000000000),
    Calls Try.prog 43 #[v] w fun e w' => ∃ u, e = .returned (.tuple #[u, .int .i64 (scan bs).2.1, .int .i64 (scan bs).2.2]) ∧ OwnRG (fun b => w.heap.size ≤ b) w.heap.size w' u (scan bs).1 ∧ Chg none' w w' := by
  induction N using Nat.strongRecOn with
  | _ N ih =>
  intro v bs w hN h hl
  obtain ⟨A, c, rfl⟩ := h.shape
  have hcl : bs.length ≤ c := by obtain ⟨A, c', e, q, _⟩ := h; simp only [Value.slice.injEq] at e; omega
  go_enter Try.func43, Try.ntmps43
  go_wp2_with fail
  refine (w_rnext _ h (by omega)).mono ?_
  rintro e w1 ⟨hout, c1⟩
  rcases hout with ⟨hn, u, rfl, ou⟩ | ⟨hn, rfl⟩
  · have hs := scan_ok hn
    obtain ⟨_, hq1, hq2, _⟩ := nextErr_zero hn
    obtain ⟨b, o, c', e1, hF, c0⟩ := h.at_ (i := 0) (by omega)
    simp only [Value.slice.injEq] at e1
    obtain ⟨rfl, _, rfl⟩ := e1
    have hx := scan_there (bs.drop (nextLen bs + 10))
    have hy := scan_len (bs.drop (nextLen bs + 10))
    clear hn c0
    generalize nextRec bs = r at *
    generalize nextLen bs = n at *
    have hb1 := h.kept c1 fun _ _ => id
    have HS := Lib.hid hs; clear hs
    have hnl : (n : Int) + 10 ≤ bs.length := by omega
    have hnc : (n : Int) + 10 ≤ c := by omega
    obtain ⟨Au, cu, rfl⟩ := ou.shape
    have hdl : (bs.drop (n + 10)).length = bs.length - (n + 10) := List.length_drop
    have hih := fun (x : Value) (hx : Bytes (old' w) w1 x (bs.drop (n + 10))) => ih (bs.length - (n + 10)) (by omega) w1 (by omega) hx.old (by omega)
    by_cases hcn : c = n + 10
    · have hd : Bytes (old' w) w1 (.slice (some ⟨b, o, none⟩) (bs.length - (n + 10)) (c - (n + 10))) (bs.drop (n + 10)) := by
        have := Row.sub hb1 (lo := n + 10) (by omega) (Nat.le_refl _)
        simp only [sliced, if_pos hcn, List.take_length] at this
        exact this
      subst hcn
      rw [Nat.sub_self, show bs.length - (n + 10) = 0 by omega] at hd
      go_wp2_with fail
      refine (hih _ hd).mono ?_
      rintro e w2 ⟨ul, rfl, ol, c2⟩
      have k1 := own_recG (G := fun b => w.heap.size ≤ b) (base := w.heap.size) (W := w2) (r := r) rfl (c1.trans c2).size rfl (Row.mono (ou.keep c2 fun _ => none_own).bytes fun b _ e => ou.base_ b e)
      have c12 := c1.size
      have k2 := (Recs.kept (S := none') (ol.recsG (H := fun b => w.heap.size ≤ b ∧ b < w2.heap.size) (fun _ h1 h2 => ⟨by omega, h2⟩) fun _ h1 h2 => ⟨by omega, h1⟩) ((Chg.refl _ _).alloc (.cells #[vb r.kind, .slice Au r.b.length cu] 35)) fun _ _ => id).src
      have k3 : ∀ b, w.heap.size ≤ b ∧ b < w2.heap.size → ¬ ownOf (.slice (some ⟨w2.heap.size, 0, none⟩) 1 1) b := fun b hb e => by simp [ownOf, Value.ownBlock] at e; omega
      have k4 := hx.2.1
      have d2 : Chg none' w (w2.alloc (.cells #[vb r.kind, .slice Au r.b.length cu] 35)) := (c1.trans c2).alloc _
      generalize scan (bs.drop (n + 10)) = sc at *
      go_wp2_with (at_builtin; refine wpList_appRG rfl (.tmp 37) (.tmp 38) rfl k1 k2 (fun _ hb => hb.1) k3 rfl rfl (by simp only [List.length_singleton]; omega) d2.size ?_; intro v3 w3 o3 c3 b3)
      go_ret3
      rw [HS.out]
      exact ⟨_, by simp [Int.add_assoc], o3, d2.trans' c3 fun i hi e => by have := (k1.base_ i e).1; omega⟩
    · have hd := hb1.lo_ (j := n + 10) (by omega) hcn
      go_wp2_with fail
      refine (hih _ hd).mono ?_
      rintro e w2 ⟨ul, rfl, ol, c2⟩
      have k1 := own_recG (G := fun b => w.heap.size ≤ b) (base := w.heap.size) (W := w2) (r := r) rfl (c1.trans c2).size rfl (Row.mono (ou.keep c2 fun _ => none_own).bytes fun b _ e => ou.base_ b e)
      have c12 := c1.size
      have k2 := (Recs.kept (S := none') (ol.recsG (H := fun b => w.heap.size ≤ b ∧ b < w2.heap.size) (fun _ h1 h2 => ⟨by omega, h2⟩) fun _ h1 h2 => ⟨by omega, h1⟩) ((Chg.refl _ _).alloc (.cells #[vb r.kind, .slice Au r.b.length cu] 35)) fun _ _ => id).src
      have k3 : ∀ b, w.heap.size ≤ b ∧ b < w2.heap.size → ¬ ownOf (.slice (some ⟨w2.heap.size, 0, none⟩) 1 1) b := fun b hb e => by simp [ownOf, Value.ownBlock] at e; omega
      have k4 := hx.2.1
      have d2 : Chg none' w (w2.alloc (.cells #[vb r.kind, .slice Au r.b.length cu] 35)) := (c1.trans c2).alloc _
      generalize scan (bs.drop (n + 10)) = sc at *
      go_wp2_with (at_builtin; refine wpList_appRG rfl (.tmp 37) (.tmp 38) rfl k1 k2 (fun _ hb => hb.1) k3 rfl rfl (by simp only [List.length_singleton]; omega) d2.size ?_; intro v3 w3 o3 c3 b3)
      go_ret3
      rw [HS.out]
      exact ⟨_, by simp [Int.add_assoc], o3, d2.trans' c3 fun i hi e => by have := (k1.base_ i e).1; omega⟩
  · by_cases h4 : nextErr bs = 4
    · have he := scan_no hn
      rw [h4, if_pos rfl] at he
      rw [h4]
      have HE := Lib.hid he; clear he hn h4
      go_wp2
      go_ret3
      rw [HE.out]
      exact ⟨_, rfl, OwnRG.nil _ _ _, c1⟩
    · have he := scan_no hn
      rw [if_neg h4] at he
      have HE := Lib.hid he; clear he
      have z1 := int_ne0 hn
      have z2 := int_ne0' hn
      have z3 : ((nextErr bs : Int) == 4) = false := by rw [beq_eq_false_iff_ne]; omega
      go_wp2
      go_ret3
      rw [HE.out]
      exact ⟨_, rfl, OwnRG.nil _ _ _, c1⟩

end Go.Proofs.Ytclbbddpedcfjaa
