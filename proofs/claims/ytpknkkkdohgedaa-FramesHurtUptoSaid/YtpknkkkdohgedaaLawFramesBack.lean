/-
  The walk of FramesBack.
-/
import Derived.Test.YtpknkkkdohgedaaLawFramesJoin
import Derived.Test.YtpknkkkdohgedaaSlices
import Derived.Test.YtpknkkkdohgedaaOpen
namespace Go.Proofs.Ytpknkkkdohgedaa
open Go.RowKit

/-- Frames that are cut and scanned. 'n': how many are whole. -/
theorem w_scan_cut {v : Value} {rs : List Rec} (w : World) (n k : Nat) (h : Bytes (old' w) w v ((frames rs).take k)) (hok : okAll rs) (hl : long rs ≤ 1000000000000)
    (hn : n ≤ rs.length) (hk0 : long (rs.take n) ≤ k) (hk : k ≤ long rs) (hk1 : ∀ r, rs[n]? = some r → k < long (rs.take n) + r.b.length + 10) :
    Calls Try.prog 11 #[v] w fun e w' => ∃ u, e = .returned (.tuple #[u, .int .i64 (long (rs.take n) : Nat), .int .i64 (if k = long (rs.take n) then 0 else 12 : Int)]) ∧ OwnR w.heap.size w' u (rs.take n) ∧ Chg none' w w' := by
  have := w_scan w h (by have := List.length_take_le k (frames rs); have := frames_len rs; rw [List.length_take]; omega)
  rw [scan_cut rs hok n k hn hk0 hk hk1] at this
  by_cases e : k = long (rs.take n)
  · rw [if_pos e] at this ⊢; exact this
  · rw [if_neg e] at this ⊢; exact this
/-- What is found, laid again. -/
theorem w_all_there {v : Value} {bs : List UInt8} (w : World) (h : Recs (old' w) w v (scan bs).1) (hl : bs.length ≤ 1000000000000) :
    Calls Try.prog 18 #[v] w fun e w' => ∃ u, e = .returned (.tuple #[u, .int .i64 0]) ∧ OwnB w.heap.size w' u (bs.take (scan bs).2.1) ∧ Chg none' w w' := by
  obtain ⟨h1, h2, h3⟩ := scan_there bs
  rw [← h1]
  have e := frames_len (scan bs).1
  rw [h1, List.length_take] at e
  exact w_all w h h3 (by omega)

set_option maxRecDepth 100000 in
set_option maxHeartbeats 4000000 in
theorem walk_FramesBack (w : World) {u : Value} {rs : List Rec} (h : Recs (old' w) w u rs) (hr : rs.length * 32 ≤ 140737488351232 ∧ ∀ r ∈ rs, r.b.length ≤ 140737488351232) (hb : (rs.map fun r => r.b.length + 3).sum + 1 ≤ 1048576)
    (a : Int) (ha : (Lit.int .u16 a).wf = true) {v : Value} {xs : List UInt8} (hx : Bytes (old' w) w v xs) (hxr : xs.length ≤ 140737488351232) (hxb : xs.length ≤ 1048576) :
    Calls Try.prog 7 #[u, .int .u16 a, v] w fun e w' => e = .returned (.bool true) ∧ Chg none' w w' := by
  obtain ⟨a0, a1⟩ := int_u16 ha
  clear ha
  obtain ⟨X, cx, rfl⟩ := hx.shape
  have l1 := long_bulk rs
  have L1 := w_long w h (by omega)
  by_cases hL : 1500 < long rs
  · clear hr
    have b1 : long rs ≤ 10000000 := by omega
    clear hb l1
    generalize long rs = m at *
    go_enter Try.func7, Try.ntmps7
    go_wp2_with fail
    refine L1.mono ?_
    rintro e w1 ⟨rfl, rfl⟩
    go_wp2_with fail
    refine (w_known05 _).mono ?_
    rintro e w2 ⟨rfl, c2⟩
    go_wp2
    go_ret
    exact ⟨rfl, c2⟩
  by_cases hX : 1500 < xs.length
  · clear hr hb l1
    generalize long rs = m at *
    go_enter Try.func7, Try.ntmps7
    go_wp2_with fail
    refine L1.mono ?_
    rintro e w1 ⟨rfl, rfl⟩
    go_wp2_with fail
    refine (w_known05 _).mono ?_
    rintro e w2 ⟨rfl, c2⟩
    go_wp2
    go_ret
    exact ⟨rfl, c2⟩
  obtain ⟨A, c, rfl, _, hm⟩ := h.shape
  unfold maxLen at hm
  have hok := ok_long (rs := rs) (by omega)
  have hrl := len_long rs
  have A1 := fun W (x : Recs (old' W) W (.slice A rs.length c) rs) => w_all W x hok (by omega)
  have A2 := fun W z (x : Bytes (old' W) W z (frames rs)) => w_scan_all W x hok (by omega)
  have A3 := fun W z n k (x : Bytes (old' W) W z ((frames rs).take k)) => w_scan_cut W n k x hok (by omega)
  have A4 := fun W z (x : Bytes (old' W) W z xs) => w_scan W x (by omega)
  have A5 := fun W z (x : Recs (old' W) W z (scan xs).1) => w_all_there W x (by omega)
  have hsx := (scan_there xs).2.1
  have S1 := fun W x y (hx : Recs all' W x rs) (hy : Recs all' W y rs) => w_rsame W hx hy
  rw [decide_eq_true rfl] at S1
  have fl := frames_len rs
  clear hr hb l1 hok
  generalize scan xs = sc at *
  obtain ⟨q, q1, q2⟩ := sc
  simp only at A4 A5 hsx
  generalize frames rs = fr at *
  have g1 : fr.length ≤ 1500 := by omega
  have fb : ((long rs : Nat) : Int) == (fr.length : Int) := by rw [beq_iff_eq]; omega
  have fb' : (((long rs : Nat) : Int) != (fr.length : Int)) = false := by rw [bne, fb]; rfl
  have FL := Lib.hid fl
  clear fl
  obtain ⟨kn, hkn⟩ : ∃ kn : Nat, a % ((fr.length : Int) + 1) = kn := ⟨(a % ((fr.length : Int) + 1)).toNat, by have := Int.emod_nonneg a (b := (fr.length : Int) + 1) (by omega); omega⟩
  have hkl : kn ≤ fr.length := by have := Int.emod_lt_of_pos a (b := (fr.length : Int) + 1) (by omega); omega
  go_enter Try.func7, Try.ntmps7
  go_wp2_with fail
  refine L1.mono ?_
  rintro e w1 ⟨rfl, rfl⟩
  go_wp2_with fail
  go_at_call 18
  refine (A1 _ h.old).mono ?_
  rintro e w1 ⟨x1, rfl, o1, c1⟩
  have h1 := h.kept c1 fun _ _ => id
  obtain ⟨B, cb, rfl⟩ := o1.shape
  go_wp2_with fail
  go_at_call 11
  refine (A2 _ _ o1.bytes.old).mono ?_
  rintro e w2 ⟨x2, rfl, o2, c2⟩
  have h2 := h1.kept c2 fun _ _ => id
  have d2 := c1.trans c2
  have o1' := o1.keep c2 fun _ => none_own
  go_wp2_with fail
  go_at_call 15
  refine (S1 _ _ _ o2.recs h2.all).mono ?_
  rintro e w3 ⟨rfl, c3⟩
  have o1'' := o1'.keep c3 fun _ => none_own
  have d3 := d2.trans c3
  go_wp2
  rw [hkn]
  clear hkn L1 A1 A2 g1 fb fb' a0 a1
  go_loop [13, 14] (fun iv ev => ∃ n : Nat, n ≤ rs.length ∧ iv = .int .i64 n ∧ ev = .int .i64 (long (rs.take n) : Nat) ∧ long (rs.take n) ≤ kn) (fun i _ => rs.length - (intOf i).toNat)
  case atStart => exact ⟨0, Nat.zero_le _, rfl, by simp [long], by simp [long]⟩
  case round =>
    obtain ⟨n, hn, rfl, rfl, hle⟩ := hrel
    by_cases hlt : n < rs.length
    · obtain ⟨b1, g1, c1', u1, e1, _, ck1, cu1, hu1⟩ := (h2.kept c3 fun _ _ => id).at_ hlt
      simp only [Value.slice.injEq] at e1
      obtain ⟨rfl, _, rfl⟩ := e1
      obtain ⟨Au, cu, rfl⟩ := hu1.shape
      have E := Lib.hid (long_take hlt)
      have L1 := long_le rs (n + 1)
      rw [long_take hlt] at L1
      by_cases hc : long (rs.take n) + 10 + rs[n].b.length ≤ kn
      · generalize hmm : long (rs.take n) = mm at *
        clear hmm A3 A4 A5 S1
        go_wp2
        go_round
        case rel => exact ⟨n + 1, by omega, by go_num, by rw [E.out]; simp, by rw [E.out]; omega⟩
        case measure => simp [intOf]; omega
      · have hk1 : ∀ r, rs[n]? = some r → kn < long (rs.take n) + r.b.length + 10 := fun r hr => by
          rw [List.getElem?_eq_getElem hlt] at hr
          obtain rfl := Option.some.inj hr
          omega
        have S2 := fun W x y (hx : Recs all' W x (rs.take n)) (hy : Recs all' W y (rs.take n)) => w_rsame W hx hy
        rw [decide_eq_true rfl] at S2
        have hkm : kn ≤ long rs := by have := FL.out; omega
        have A3' := fun W z x => A3 W z n kn x hn hle hkm hk1
        clear A3 hk1
        generalize long (rs.take n) = mm at *
        clear S1
        by_cases hkk : kn = mm
        all_goals
          first
          | (obtain rfl : kn = mm := hkk; rw [if_pos rfl] at A3')
          | (rw [if_neg hkk] at A3'; have hz1 : ((mm : Int) == (kn : Int)) = false := by (rw [beq_eq_false_iff_ne]; omega))
          go_wp2_with ((with_reducible refine wpList_hiB (.tmp 96) (.tmp 97) rfl rfl (o1''.bytes) ?_ ?_ hkl ?_); rfl; rfl; intro z1 hz1')
          go_at_call 11
          refine (A3' _ _ hz1'.old).mono ?_
          rintro e w4 ⟨x4, rfl, o4, c4⟩
          have d4 := d3.trans c4
          have h4 := h.kept d4 fun _ _ => id
          have y4 := hx.kept d4 fun _ _ => id
          go_wp2_with ((with_reducible refine wpList_hiR (.tmp 104) (.tmp 105) rfl rfl h4 ?_ ?_ hn ?_); rfl; rfl; intro z2 hz2)
          go_at_call 15
          refine (S2 _ _ _ o4.recs hz2.all).mono ?_
          rintro e w5 ⟨rfl, c5⟩
          have y5 := y4.kept c5 fun _ _ => id
          go_wp2_with fail
          go_at_call 11
          refine (A4 _ _ y5.old).mono ?_
          rintro e w6 ⟨x6, rfl, o6, c6⟩
          have y6 := y5.kept c6 fun _ _ => id
          go_wp2_with fail
          go_at_call 18
          refine (A5 _ _ o6.recs.old).mono ?_
          rintro e w7 ⟨x7, rfl, o7, c7⟩
          have y7 := y6.kept c7 fun _ _ => id
          have d7 := ((d4.trans c5).trans c6).trans c7
          have hqc : q1 ≤ cx := by obtain ⟨A, c', e, q, _⟩ := hx; simp only [Value.slice.injEq] at e; omega
          go_wp2_with fail
          go_at_call 16
          refine (w_same00 _ o7.bytes (Row.hi' y7 hsx)).mono ?_
          rintro e w8 ⟨rfl, rfl⟩
          rw [beq_self_eq_true]
          go_wp2_with fail
          go_at_call 10
          refine (w_known05 _).mono ?_
          rintro e w9 ⟨rfl, c9⟩
          go_wp2
          go_ret
          exact ⟨rfl, d7.trans c9⟩
    · have hk1 : ∀ r, rs[n]? = some r → kn < long (rs.take n) + r.b.length + 10 := fun r hr => by
        have := (List.getElem?_eq_some_iff.1 hr).1; omega
      have S2 := fun W x y (hx : Recs all' W x (rs.take n)) (hy : Recs all' W y (rs.take n)) => w_rsame W hx hy
      rw [decide_eq_true rfl] at S2
      have hkm : kn ≤ long rs := by have := FL.out; omega
      have A3' := fun W z x => A3 W z n kn x hn hle hkm hk1
      clear A3 hk1
      generalize long (rs.take n) = mm at *
      clear S1
      by_cases hkk : kn = mm
      all_goals
        first
        | (obtain rfl : kn = mm := hkk; rw [if_pos rfl] at A3')
        | (rw [if_neg hkk] at A3'; have hz1 : ((mm : Int) == (kn : Int)) = false := by (rw [beq_eq_false_iff_ne]; omega))
        go_wp2_with ((with_reducible refine wpList_hiB (.tmp 96) (.tmp 97) rfl rfl (o1''.bytes) ?_ ?_ hkl ?_); rfl; rfl; intro z1 hz1')
        go_at_call 11
        refine (A3' _ _ hz1'.old).mono ?_
        rintro e w4 ⟨x4, rfl, o4, c4⟩
        have d4 := d3.trans c4
        have h4 := h.kept d4 fun _ _ => id
        have y4 := hx.kept d4 fun _ _ => id
        go_wp2_with ((with_reducible refine wpList_hiR (.tmp 104) (.tmp 105) rfl rfl h4 ?_ ?_ hn ?_); rfl; rfl; intro z2 hz2)
        go_at_call 15
        refine (S2 _ _ _ o4.recs hz2.all).mono ?_
        rintro e w5 ⟨rfl, c5⟩
        have y5 := y4.kept c5 fun _ _ => id
        go_wp2_with fail
        go_at_call 11
        refine (A4 _ _ y5.old).mono ?_
        rintro e w6 ⟨x6, rfl, o6, c6⟩
        have y6 := y5.kept c6 fun _ _ => id
        go_wp2_with fail
        go_at_call 18
        refine (A5 _ _ o6.recs.old).mono ?_
        rintro e w7 ⟨x7, rfl, o7, c7⟩
        have y7 := y6.kept c7 fun _ _ => id
        have d7 := ((d4.trans c5).trans c6).trans c7
        have hqc : q1 ≤ cx := by obtain ⟨A, c', e, q, _⟩ := hx; simp only [Value.slice.injEq] at e; omega
        go_wp2_with fail
        go_at_call 16
        refine (w_same00 _ o7.bytes (Row.hi' y7 hsx)).mono ?_
        rintro e w8 ⟨rfl, rfl⟩
        rw [beq_self_eq_true]
        go_wp2_with fail
        go_at_call 10
        refine (w_known05 _).mono ?_
        rintro e w9 ⟨rfl, c9⟩
        go_wp2
        go_ret
        exact ⟨rfl, d7.trans c9⟩

end Go.Proofs.Ytpknkkkdohgedaa
