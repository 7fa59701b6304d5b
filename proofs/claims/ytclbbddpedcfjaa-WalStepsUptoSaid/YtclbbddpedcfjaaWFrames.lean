/-
  Walks: frames of bytes.
-/
import Derived.Test.YtclbbddpedcfjaaBase2
import Derived.Test.YtclbbddpedcfjaaWSum
import Derived.Test.YtclbbddpedcfjaaRegion
import Derived.Test.YtclbbddpedcfjaaFrames
import Derived.Deep.QuietTactic
import Derived.BigQuiet
namespace Go.Proofs.Ytclbbddpedcfjaa
open Go.RowKit

theorem own_four {W : World} {base n : Nat} {a b c d : Int} {t : TypeId} (ht : t = 5) (hb : base ≤ W.heap.size) (ha : a = ((UInt8.ofNat (n / 16777216)).toNat : Int)) (hb' : b = ((UInt8.ofNat (n / 65536)).toNat : Int)) (hc : c = ((UInt8.ofNat (n / 256)).toNat : Int)) (hd : d = ((UInt8.ofNat n).toNat : Int)) :
    OwnB base (W.alloc (.cells #[.int .u8 a, .int .u8 b, .int .u8 c, .int .u8 d] t)) (.slice (some ⟨W.heap.size, 0, none⟩) 4 4) (be4 n) := by
  subst ht ha hb' hc hd
  exact OwnB.ofBlock (bs := be4 n) hb (heap_alloc_new W _) (by simp [maxLen]) (by simp [be4]) (fun j x hj => by
    match j, hj with
    | 0, hj => simp [be4] at hj; subst hj; simp
    | 1, hj => simp [be4] at hj; subst hj; simp
    | 2, hj => simp [be4] at hj; subst hj; simp
    | 3, hj => simp [be4] at hj; subst hj; simp
    | j + 4, hj => simp [be4] at hj)

set_option maxRecDepth 100000 in
set_option maxHeartbeats 400000 in
theorem w_four (n : Nat) (hn : n < 4294967296) (w : World) :
    Calls Try.prog 51 #[.int .u32 n] w fun e w' => ∃ v, e = .returned v ∧ OwnB w.heap.size w' v (be4 n) ∧ Chg none' w w' := by
  go_enter Try.func51, Try.ntmps51
  go_wp2
  go_ret
  exact ⟨_, rfl, own_four rfl (Nat.le_refl _) (by simp [IntKind.wrap, IntKind.bits, IntKind.signed] <;> omega) (by simp [IntKind.wrap, IntKind.bits, IntKind.signed] <;> omega) (by simp [IntKind.wrap, IntKind.bits, IntKind.signed] <;> omega) (by simp [IntKind.wrap, IntKind.bits, IntKind.signed] <;> omega), (Chg.refl _ _).alloc _⟩

set_option maxRecDepth 100000 in
set_option maxHeartbeats 400000 in
theorem w_rfour (n : Nat) (hn : n < 4294967296) (w : World) :
    Calls Try.prog 63 #[.int .i64 n] w fun e w' => ∃ v, e = .returned v ∧ OwnB w.heap.size w' v (be4 n) ∧ Chg none' w w' := by
  go_enter Try.func63, Try.ntmps63
  go_wp2
  go_ret
  exact ⟨_, rfl, own_four rfl (Nat.le_refl _) (by simp [IntKind.wrap, IntKind.bits, IntKind.signed] <;> omega) (by simp [IntKind.wrap, IntKind.bits, IntKind.signed] <;> omega) (by simp [IntKind.wrap, IntKind.bits, IntKind.signed] <;> omega) (by simp [IntKind.wrap, IntKind.bits, IntKind.signed] <;> omega), (Chg.refl _ _).alloc _⟩

theorem bits_or32n {m n : Nat} (hm : m < 4294967296) (hn : n < 4294967296) : bits .or .u32 (m : Int) (n : Int) = ((m ||| n : Nat) : Int) := by
  show IntKind.u32.wrap ((BitVec.ofInt 32 _ ||| BitVec.ofInt 32 _ : BitVec 32).toNat : Int) = _
  have : m ||| n < 2 ^ 32 := Nat.or_lt_two_pow hm hn
  rw [BitVec.ofInt_natCast, BitVec.ofInt_natCast, BitVec.toNat_or, BitVec.toNat_ofNat, BitVec.toNat_ofNat, Nat.mod_eq_of_lt hm, Nat.mod_eq_of_lt hn, IntKind.wrap_u32]
  omega
theorem val_get {bs : List UInt8} (h : 4 ≤ bs.length) : bits .or .u32 (bits .or .u32 (bits .or .u32 (((bs[0].toNat : Nat) : Int) % 4294967296 * 16777216 % 4294967296) (((bs[1].toNat : Nat) : Int) % 4294967296 * 65536 % 4294967296)) (((bs[2].toNat : Nat) : Int) % 4294967296 * 256 % 4294967296)) (((bs[3].toNat : Nat) : Int) % 4294967296) = ((get4 bs : Nat) : Int) := by
  have h0 := bs[0].toNat_lt
  have h1 := bs[1].toNat_lt
  have h2 := bs[2].toNat_lt
  have h3 := bs[3].toNat_lt
  have g : ∀ i (hi : i < bs.length), bs.getD i 0 = bs[i] := fun i hi => by rw [List.getD_eq_getElem?_getD, List.getElem?_eq_getElem hi]; rfl
  rw [get4_eq]
  rw [g 0 (by omega), g 1 (by omega), g 2 (by omega), g 3 (by omega)]
  generalize bs[0].toNat = a at *
  generalize bs[1].toNat = b at *
  generalize bs[2].toNat = c at *
  generalize bs[3].toNat = d at *
  rw [show (a : Int) % 4294967296 * 16777216 % 4294967296 = ((2 ^ 24 * a : Nat) : Int) by omega, show (b : Int) % 4294967296 * 65536 % 4294967296 = ((b * 65536 : Nat) : Int) by omega,
    show (c : Int) % 4294967296 * 256 % 4294967296 = ((c * 256 : Nat) : Int) by omega, show (d : Int) % 4294967296 = (d : Int) by omega]
  rw [bits_or32n (by omega) (by omega), ← Nat.two_pow_add_eq_or_of_lt (by omega), show 2 ^ 24 * a + b * 65536 = 2 ^ 16 * (a * 256 + b) by omega]
  rw [bits_or32n (by omega) (by omega), ← Nat.two_pow_add_eq_or_of_lt (by omega), show 2 ^ 16 * (a * 256 + b) + c * 256 = 2 ^ 8 * (a * 65536 + b * 256 + c) by omega]
  rw [bits_or32n (by omega) (by omega), ← Nat.two_pow_add_eq_or_of_lt (by omega)]
  omega

set_option maxRecDepth 100000 in
set_option maxHeartbeats 1000000 in
theorem w_get {F : Nat → Prop} {v : Value} {bs : List UInt8} (w : World) (h : Bytes F w v bs) (h4 : 4 ≤ bs.length) :
    Calls Try.prog 62 #[v] w fun e w' => e = .returned (.int .u32 (get4 bs : Int)) ∧ Chg none' w w' := by
  obtain ⟨b, o, c, rfl, hF, c0⟩ := h.at_ (i := 0) (by omega)
  obtain ⟨b1, o1, k1, e1, _, c1⟩ := h.at_ (i := 1) (by omega)
  obtain ⟨b2, o2, k2, e2, _, c2⟩ := h.at_ (i := 2) (by omega)
  obtain ⟨b3, o3, k3, e3, _, c3⟩ := h.at_ (i := 3) (by omega)
  simp only [Value.slice.injEq, Option.some.injEq, Addr.mk.injEq] at e1 e2 e3
  obtain ⟨⟨rfl, rfl, _⟩, _, rfl⟩ := e1
  obtain ⟨⟨rfl, rfl, _⟩, _, rfl⟩ := e2
  obtain ⟨⟨rfl, rfl, _⟩, _, rfl⟩ := e3
  rw [Nat.add_zero] at c0
  have l0 : (0 : Int) < bs.length := by omega
  have l1 : (1 : Int) < bs.length := by omega
  have l2 : (2 : Int) < bs.length := by omega
  have l3 : (3 : Int) < bs.length := by omega
  go_enter Try.func62, Try.ntmps62
  go_wp2
  go_quiet (fail)
  go_wp2
  go_ret
  exact ⟨ret_u32 (val_get h4), (Chg.refl _ _).drewN _⟩

theorem w_four' {x : Int} (n : Nat) (hn : n < 4294967296) (e : x = (n : Int)) (w : World) :
    Calls Try.prog 51 #[.int .u32 x] w fun e w' => ∃ v, e = .returned v ∧ OwnB w.heap.size w' v (be4 n) ∧ Chg none' w w' := by subst e; exact w_four n hn w
theorem own_two {W : World} {base : Nat} {k : UInt8} {t : TypeId} {g : Nat} (ht : t = 5) (hb : base ≤ W.heap.size) (hg : W.heap.size = g) :
    OwnB base (W.alloc (.cells #[.int .u8 165, vb k] t)) (.slice (some ⟨g, 0, none⟩) 2 2) [165, k] := by
  subst ht hg
  exact OwnB.ofBlock (bs := [165, k]) hb (heap_alloc_new W _) (by simp [maxLen]) (by simp) (fun j x hj => by
    match j, hj with
    | 0, hj => simp at hj; subst hj; simp
    | 1, hj => simp at hj; subst hj; simp
    | j + 2, hj => simp at hj)
theorem head_app (k : UInt8) (b : List UInt8) : [165, k] ++ be4 b.length ++ b = headOf ⟨k, b⟩ := by simp [headOf]
set_option maxRecDepth 100000 in
set_option maxHeartbeats 1000000 in
theorem w_one {v : Value} {r : Rec} (w : World) (h : Bytes (old' w) w v r.b) (hr : r.b.length ≤ 65536) :
    Calls Try.prog 34 #[vb r.kind, v] w fun e w' => ∃ u, e = .returned (.tuple #[u, .int .i64 0]) ∧ OwnB w.heap.size w' u (frame r) ∧ Chg none' w w' := by
  obtain ⟨k, b⟩ := r
  simp only at h hr ⊢
  obtain ⟨A, c, rfl⟩ := h.shape
  go_enter Try.func34, Try.ntmps34
  go_wp2_with fail
  go_at_call 51
  refine (w_four' b.length (by omega) (by simp [IntKind.wrap, IntKind.bits, IntKind.signed] <;> omega) _).mono ?_
  rintro e w1 ⟨v1, rfl, o1, c1⟩
  have k1 := (own_two (W := w) (k := k) rfl (Nat.le_refl _) rfl).keep c1 fun _ => none_own
  have d1 : Chg none' w w1 := ((Chg.refl none' w).alloc _).trans c1
  have hb : Bytes (old' w) w1 (.slice A b.length c) b := h.kept d1 fun _ _ => id
  go_wp2_with (first
    | (at_builtin; refine wpList_appB rfl (.tmp 11) (.tmp 15) rfl k1 o1.bytes rfl rfl (by simp [be4]) d1.size ?_; intro v2 w2 o2 c2 b2; have d2 : Chg none' w w2 := d1.trans' c2 fun i hi e => by have := k1.base_ i e; omega)
    | (at_builtin; go_loud (refine wpList_appB rfl (.tmp 17) (.tmp 18) rfl o2 (h.kept d2 fun _ _ => id) rfl rfl (by simp [be4]; omega) d2.size ?_; intro v3 w3 o3 c3 b3; have d3 : Chg none' w w3 := d2.trans' c3 fun i hi e => (by have := o2.base_ i e; omega); replace o3 := own_eq o3 (head_app k b); obtain ⟨A3, n3, rfl⟩ := o3.shape)))
  refine (w_check1 o3.bytes.all).mono ?_
  rintro e w4 ⟨rfl, rfl⟩
  go_wp2_with fail
  go_at_call 51
  refine (w_four' (crc (headOf ⟨k, b⟩)) (crc_lt _) rfl _).mono ?_
  rintro e w5 ⟨v5, rfl, o5, c5⟩
  have o3' := (o3.alloc (.cells #[.slice A3 (headOf ⟨k, b⟩).length n3] 23)).keep c5 fun _ => none_own
  have d5 : Chg none' w w5 := (d3.alloc _).trans c5
  go_wp2_with (at_builtin; refine wpList_appB rfl (.tmp 20) (.tmp 24) rfl o3' o5.bytes rfl rfl (by simp [headOf_len, be4] <;> omega) d5.size ?_; intro v6 w6 o6 c6 b6)
  go_ret2
  exact ⟨_, rfl, o6, d5.trans' c6 fun i hi e => by have := o3'.base_ i e; omega⟩

theorem w_rfour' {x : Int} (n : Nat) (hn : n < 4294967296) (e : x = (n : Int)) (w : World) :
    Calls Try.prog 63 #[.int .i64 x] w fun e w' => ∃ v, e = .returned v ∧ OwnB w.heap.size w' v (be4 n) ∧ Chg none' w w' := by subst e; exact w_rfour n hn w

set_option maxRecDepth 100000 in
set_option maxHeartbeats 1000000 in
theorem w_rone {v : Value} {r : Rec} (w : World) (h : Bytes (old' w) w v r.b) (hr : r.b.length ≤ 65536) :
    Calls Try.prog 60 #[vb r.kind, v] w fun e w' => ∃ u, e = .returned (.tuple #[u, .int .i64 0]) ∧ OwnB w.heap.size w' u (frame r) ∧ Chg none' w w' := by
  obtain ⟨k, b⟩ := r
  simp only at h hr ⊢
  obtain ⟨A, c, rfl⟩ := h.shape
  go_enter Try.func60, Try.ntmps60
  go_wp2_with fail
  go_at_call 63
  refine (w_rfour' b.length (by omega) rfl _).mono ?_
  rintro e w1 ⟨v1, rfl, o1, c1⟩
  have k1 := (own_two (W := w) (k := k) rfl (Nat.le_refl _) rfl).keep c1 fun _ => none_own
  have d1 : Chg none' w w1 := ((Chg.refl none' w).alloc _).trans c1
  have hb : Bytes (old' w) w1 (.slice A b.length c) b := h.kept d1 fun _ _ => id
  go_wp2_with (first
    | (at_builtin; refine wpList_appB rfl (.tmp 12) (.tmp 15) rfl k1 o1.bytes rfl rfl (by simp [be4]) d1.size ?_; intro v2 w2 o2 c2 b2; have d2 : Chg none' w w2 := d1.trans' c2 fun i hi e => by have := k1.base_ i e; omega)
    | (at_builtin; go_loud (refine wpList_appB rfl (.tmp 17) (.tmp 18) rfl o2 (h.kept d2 fun _ _ => id) rfl rfl (by simp [be4]; omega) d2.size ?_; intro v3 w3 o3 c3 b3; have d3 : Chg none' w w3 := d2.trans' c3 fun i hi e => (by have := o2.base_ i e; omega); replace o3 := own_eq o3 (head_app k b); obtain ⟨A3, n3, rfl⟩ := o3.shape)))
  go_at_call 64
  refine (w_rcheck _ o3.bytes).mono ?_
  rintro e w4 ⟨rfl, rfl⟩
  go_wp2_with fail
  go_at_call 63
  refine (w_rfour' (crc (headOf ⟨k, b⟩)) (crc_lt _) (by have := crc_lt (headOf ⟨k, b⟩); unfold crc at this ⊢; unfold wrap64; omega) _).mono ?_
  rintro e w5 ⟨v5, rfl, o5, c5⟩
  have o3' := o3.keep c5 fun _ => none_own
  have d5 : Chg none' w w5 := d3.trans c5
  go_wp2_with (at_builtin; refine wpList_appB rfl (.tmp 20) (.tmp 24) rfl o3' o5.bytes rfl rfl (by simp [headOf_len, be4] <;> omega) d5.size ?_; intro v6 w6 o6 c6 b6)
  go_ret2
  exact ⟨_, rfl, o6, d5.trans' c6 fun i hi e => by have := o3'.base_ i e; omega⟩

end Go.Proofs.Ytclbbddpedcfjaa
