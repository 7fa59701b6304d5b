/-
  Walks: all the records of bytes.
-/
import Derived.Test.YtclbbddpedcfjaaWFrames3
import Derived.Test.YtclbbddpedcfjaaRecs
namespace Go.Proofs.Ytclbbddpedcfjaa
open Go.RowKit

theorem nextErr_four {b : List UInt8} : nextErr b = 4 ↔ b.length = 0 := by
  unfold nextErr
  constructor
  · intro h
    split at h
    · assumption
    · split at h
      · omega
      · split at h
        · omega
        · split at h
          · omega
          · split at h
            · omega
            · split at h <;> omega
  · intro h; rw [if_pos h]

/-- As far as it is scanned. -/
def ScanTo (bs : List UInt8) (k : Nat) (l : List Rec) : Prop :=
  k ≤ bs.length ∧ l.length ≤ k ∧ scan bs = (l ++ (scan (bs.drop k)).1, k + (scan (bs.drop k)).2.1, (scan (bs.drop k)).2.2)
theorem ScanTo.start (bs : List UInt8) : ScanTo bs 0 [] := ⟨Nat.zero_le _, Nat.le_refl _, by simp⟩
theorem ScanTo.more {bs : List UInt8} {k : Nat} {l : List Rec} (h : ScanTo bs k l) (hn : nextErr (bs.drop k) = 0) : ScanTo bs (k + (nextLen (bs.drop k) + 10)) (l ++ [nextRec (bs.drop k)]) := by
  obtain ⟨h1, h2, h3⟩ := h
  obtain ⟨_, _, q, _⟩ := nextErr_zero hn
  have e := scan_ok hn
  rw [List.drop_drop] at e
  rw [List.length_drop] at q
  unfold ScanTo
  rw [h3, e]
  clear h3 e hn
  generalize nextRec (bs.drop k) = r
  generalize nextLen (bs.drop k) = n at q ⊢
  generalize scan (bs.drop (k + (n + 10))) = sc
  exact ⟨by omega, by rw [List.length_append, List.length_singleton]; omega, by simp only [List.append_assoc, List.singleton_append, Nat.add_assoc]⟩
theorem ScanTo.stop {bs : List UInt8} {k : Nat} {l : List Rec} (h : ScanTo bs k l) (hn : nextErr (bs.drop k) ≠ 0) : scan bs = (l, k, if nextErr (bs.drop k) = 4 then 0 else nextErr (bs.drop k)) := by
  obtain ⟨h1, h2, h3⟩ := h
  rw [h3, scan_no hn]
  simp

theorem int_ne0 {n : Nat} (h : n ≠ 0) : ((n : Int) == 0) = false := by rw [beq_eq_false_iff_ne]; omega
theorem int_ne0' {n : Nat} (h : n ≠ 0) : ((n : Int) != 0) = true := by rw [bne, int_ne0 h]; rfl

set_option maxRecDepth 100000 in
set_option maxHeartbeats 2000000 in
theorem w_scan {v : Value} {bs : List UInt8} (w : World) (h : Bytes (old' w) w v bs) (hl : bs.length ≤ 1000000000000) :
    Calls Try.prog 39 #[v] w fun e w' => ∃ u, e = .returned (.tuple #[u, .int .i64 (scan bs).2.1, .int .i64 (scan bs).2.2]) ∧ OwnR w.heap.size w' u (scan bs).1 ∧ Chg none' w w' := by
  obtain ⟨A, c, rfl⟩ := h.shape
  have hcl : bs.length ≤ c := by obtain ⟨A, c', e, q, _⟩ := h; simp only [Value.slice.injEq] at e; omega
  go_enter Try.func39, Try.ntmps39
  go_wp2
  go_step3
  go_wp2
  go_step3
  go_wp2
  go_loopw [5, 6, 7] (fun ov iv yv wr => ∃ (k : Nat) (l : List Rec), ScanTo bs k l ∧ iv = .int .i64 k ∧ yv = .int .i64 0 ∧ OwnR w.heap.size wr ov l ∧ Chg none' w wr) (fun _ i _ _ => bs.length - (intOf i).toNat)
  case atStart => exact ⟨0, [], ScanTo.start bs, rfl, rfl, OwnR.nil _ _, Chg.refl _ _⟩
  case round =>
    obtain ⟨k, l, hsc, rfl, rfl, hown, hchg⟩ := hrel
    have hk := hsc.1
    by_cases hlt : k < bs.length
    · obtain ⟨b, o, c', e1, hF, c0⟩ := h.at_ (i := k) hlt
      simp only [Value.slice.injEq] at e1
      obtain ⟨rfl, _, rfl⟩ := e1
      have hck : ¬ c = k := by omega
      have hd := (h.kept hchg fun _ _ => id).lo_ (j := k) (by omega) hck
      have hdl : (bs.drop k).length ≤ 140737488355328 := by rw [List.length_drop]; omega
      have HS := Lib.hid hsc; clear hsc
      go_wp2_with fail
      refine (w_next _ hd.old hdl).mono ?_
      rintro e w1 ⟨hout, c1⟩
      rcases hout with ⟨hn, u, rfl, ou⟩ | ⟨hn, rfl⟩
      · have HM := Lib.hid (HS.out.more hn); clear hn
        have hlk := HS.out.2.1
        have hkn := HM.out.1
        have ho1 := hown.keep c1
        have hob := hown.base_
        generalize nextRec (bs.drop k) = r at *
        generalize nextLen (bs.drop k) = n at *
        obtain ⟨Au, cu, rfl⟩ := ou.shape
        have hu : Bytes (fun b => wr.heap.size ≤ b) w1 (.slice Au r.b.length cu) r.b := Row.mono ou.bytes fun b _ e => ou.base_ b e
        have hd1 := hchg.trans c1
        go_wp2_with (at_builtin; refine wpList_appR rfl (.tmp 28) (.tmp 32) rfl (ho1.keep ((Chg.refl _ _).alloc _)) (src_rec hu rfl) (fun b hb e => by have := (hob b e).2; omega) rfl rfl (by simp only [List.length_singleton]; omega) (by have := hd1.size; simp; omega) ?_; intro v2 w2 o2 c2 b2)
        go_roundw
        case rel => exact ⟨k + (n + 10), l ++ [r], HM.out, by go_num, rfl, o2, (hd1.alloc _).trans' c2 fun i hi e => by have := (hob i e).1; omega⟩
        case measure => simp [intOf]; omega
      · have hn4 : nextErr (bs.drop k) ≠ 4 := by rw [Ne, nextErr_four, List.length_drop]; omega
        have he := HS.out.stop hn
        rw [if_neg hn4] at he
        have HE := Lib.hid he; clear he hn4
        have z1 := int_ne0 hn
        have z2 := int_ne0' hn
        go_wp2
        first | go_ret3 | (rw [Exit.noGoto_ret]; go_ret3)
        rw [HE.out]
        exact ⟨_, rfl, hown.keep c1, hchg.trans c1⟩
    · obtain rfl : k = bs.length := by omega
      have hn : nextErr (bs.drop bs.length) = 4 := nextErr_four.2 (by simp)
      have he := hsc.stop (by rw [hn]; decide)
      rw [hn, if_pos rfl] at he
      have HE := Lib.hid he; clear he hn
      go_wp2
      first | go_ret3 | (rw [Exit.noGoto_ret]; go_ret3)
      rw [HE.out]
      exact ⟨_, rfl, hown, hchg⟩

theorem len_long (l : List Rec) : l.length ≤ long l := by
  induction l with
  | nil => exact Nat.le_refl _
  | cons r l ih => simp only [long, List.map_cons, List.sum_cons, List.length_cons] at *; omega
theorem scan_len (b : List UInt8) : (scan b).1.length ≤ b.length := by
  obtain ⟨h1, h2, _⟩ := scan_there b
  have h3 := congrArg List.length h1
  rw [frames_len, List.length_take] at h3
  have := len_long (scan b).1
  omega

theorem own_rec {W : World} {base g : Nat} {t : TypeId} {u : Value} {r : Rec} {F : Nat → Prop} (ht : t = 35) (hb : base ≤ W.heap.size) (hg : W.heap.size = g) (h : Bytes F W u r.b) :
    OwnR base (W.alloc (.cells #[vb r.kind, u] t)) (.slice (some ⟨g, 0, none⟩) 1 1) [r] := by
  subst ht hg
  refine ⟨[(r, u)], rfl, ⟨rfl, .inr ⟨W.heap.size, 1, _, rfl, hb, heap_alloc_new W _, Nat.le_refl _, by simp [maxLen], rfl, rfl⟩⟩, fun p hp => ?_⟩
  simp at hp
  subst hp
  exact Row.mono (h.old.alloc _) fun b _ hb => by
    intro e
    simp [ownOf, Value.ownBlock] at e
    unfold old' at hb
    omega

set_option maxRecDepth 100000 in
set_option maxHeartbeats 2000000 in
theorem w_rscan (N : Nat) : ∀ {v : Value} {bs : List UInt8} (w : World) (_ : bs.length ≤ N) (h : Bytes (old' w) w v bs) (hl : bs.length ≤ 1000000000000),
    Calls Try.prog 43 #[v] w fun e w' => ∃ u, e = .returned (.tuple #[u, .int .i64 (scan bs).2.1, .int .i64 (scan bs).2.2]) ∧ OwnR w.heap.size w' u (scan bs).1 ∧ Chg none' w w' := by
  induction N using Nat.strongRecOn with
  | _ N ih =>
  intro v bs w hN h hl
  obtain ⟨A, c, rfl⟩ := h.shape
  have hcl : bs.length ≤ c := by obtain ⟨A, c', e, q, _⟩ := h; simp only [Value.slice.injEq] at e; omega
  go_enter Try.func43, Try.ntmps43
  go_wp2_with fail
  refine (w_rnext _ h (by omega)).mono ?_
  rintro e w1 ⟨hout, c1⟩
  rcases hout with ⟨hn, u, rfl, ou⟩ | ⟨hn, rfl⟩
  · have hs := scan_ok hn
    obtain ⟨_, hq1, hq2, _⟩ := nextErr_zero hn
    obtain ⟨b, o, c', e1, hF, c0⟩ := h.at_ (i := 0) (by omega)
    simp only [Value.slice.injEq] at e1
    obtain ⟨rfl, _, rfl⟩ := e1
    have hx := scan_there (bs.drop (nextLen bs + 10))
    have hy := scan_len (bs.drop (nextLen bs + 10))
    clear hn c0
    generalize nextRec bs = r at *
    generalize nextLen bs = n at *
    have hb1 := h.kept c1 fun _ _ => id
    have HS := Lib.hid hs; clear hs
    have hnl : (n : Int) + 10 ≤ bs.length := by omega
    have hnc : (n : Int) + 10 ≤ c := by omega
    obtain ⟨Au, cu, rfl⟩ := ou.shape
    have hdl : (bs.drop (n + 10)).length = bs.length - (n + 10) := List.length_drop
    have hih := fun (x : Value) (hx : Bytes (old' w) w1 x (bs.drop (n + 10))) => ih (bs.length - (n + 10)) (by omega) w1 (by omega) hx.old (by omega)
    by_cases hcn : c = n + 10
    · have hd : Bytes (old' w) w1 (.slice (some ⟨b, o, none⟩) (bs.length - (n + 10)) (c - (n + 10))) (bs.drop (n + 10)) := by
        have := Row.sub hb1 (lo := n + 10) (by omega) (Nat.le_refl _)
        simp only [sliced, if_pos hcn, List.take_length] at this
        exact this
      subst hcn
      rw [Nat.sub_self, show bs.length - (n + 10) = 0 by omega] at hd
      go_wp2_with fail
      refine (hih _ hd).mono ?_
      rintro e w2 ⟨ul, rfl, ol, c2⟩
      have k1 := own_rec (base := w.heap.size) (W := w2) (r := r) rfl (c1.trans c2).size rfl (ou.keep c2 fun _ => none_own).bytes
      have k2 := (Recs.kept (S := none') ol.recs.old ((Chg.refl _ _).alloc (.cells #[vb r.kind, .slice Au r.b.length cu] 35)) fun _ _ => id).src
      have k3 : ∀ b, old' w2 b → ¬ ownOf (.slice (some ⟨w2.heap.size, 0, none⟩) 1 1) b := fun b hb e => by simp [ownOf, Value.ownBlock] at e; unfold old' at hb; omega
      have k4 := hx.2.1
      have d2 : Chg none' w (w2.alloc (.cells #[vb r.kind, .slice Au r.b.length cu] 35)) := (c1.trans c2).alloc _
      generalize scan (bs.drop (n + 10)) = sc at *
      go_wp2_with (at_builtin; refine wpList_appR rfl (.tmp 37) (.tmp 38) rfl k1 k2 k3 rfl rfl (by simp only [List.length_singleton]; omega) d2.size ?_; intro v3 w3 o3 c3 b3)
      go_ret3
      rw [HS.out]
      exact ⟨_, by simp [Int.add_assoc], o3, d2.trans' c3 fun i hi e => by have := (k1.base_ i e).1; omega⟩
    · have hd := hb1.lo_ (j := n + 10) (by omega) hcn
      go_wp2_with fail
      refine (hih _ hd).mono ?_
      rintro e w2 ⟨ul, rfl, ol, c2⟩
      have k1 := own_rec (base := w.heap.size) (W := w2) (r := r) rfl (c1.trans c2).size rfl (ou.keep c2 fun _ => none_own).bytes
      have k2 := (Recs.kept (S := none') ol.recs.old ((Chg.refl _ _).alloc (.cells #[vb r.kind, .slice Au r.b.length cu] 35)) fun _ _ => id).src
      have k3 : ∀ b, old' w2 b → ¬ ownOf (.slice (some ⟨w2.heap.size, 0, none⟩) 1 1) b := fun b hb e => by simp [ownOf, Value.ownBlock] at e; unfold old' at hb; omega
      have k4 := hx.2.1
      have d2 : Chg none' w (w2.alloc (.cells #[vb r.kind, .slice Au r.b.length cu] 35)) := (c1.trans c2).alloc _
      generalize scan (bs.drop (n + 10)) = sc at *
      go_wp2_with (at_builtin; refine wpList_appR rfl (.tmp 37) (.tmp 38) rfl k1 k2 k3 rfl rfl (by simp only [List.length_singleton]; omega) d2.size ?_; intro v3 w3 o3 c3 b3)
      go_ret3
      rw [HS.out]
      exact ⟨_, by simp [Int.add_assoc], o3, d2.trans' c3 fun i hi e => by have := (k1.base_ i e).1; omega⟩
  · by_cases h4 : nextErr bs = 4
    · have he := scan_no hn
      rw [h4, if_pos rfl] at he
      rw [h4]
      have HE := Lib.hid he; clear he hn h4
      go_wp2
      go_ret3
      rw [HE.out]
      exact ⟨_, rfl, OwnR.nil _ _, c1⟩
    · have he := scan_no hn
      rw [if_neg h4] at he
      have HE := Lib.hid he; clear he
      have z1 := int_ne0 hn
      have z2 := int_ne0' hn
      have z3 : ((nextErr bs : Int) == 4) = false := by rw [beq_eq_false_iff_ne]; omega
      go_wp2
      go_ret3
      rw [HE.out]
      exact ⟨_, rfl, OwnR.nil _ _, c1⟩

end Go.Proofs.Ytclbbddpedcfjaa
