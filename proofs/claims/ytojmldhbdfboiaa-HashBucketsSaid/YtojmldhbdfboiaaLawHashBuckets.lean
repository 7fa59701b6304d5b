/-
  The walk of HashBuckets.
-/
import Derived.Test.YtojmldhbdfboiaaWHash3
import Derived.Test.YtojmldhbdfboiaaOpen
namespace Go.Proofs.Ytojmldhbdfboiaa
open Go.RowKit

theorem w_bucket_ok (s : ByteArray) (m a : Int) (w : World) (hs : s.size ≤ 140737488351232) (h1 : 1 ≤ m) (h2 : m ≤ 65536) (ha : ((keyOf s).toNat : Int) % m = a) :
    Calls Try.prog 21 #[.string s, .int .i64 m] w fun e w' => e = .returned (.tuple #[.int .i64 a, .int .i64 0]) ∧ Chg none' w w' := by
  have h := w_bucket s m w hs
  unfold bucketOf bucketErr at h
  rw [if_neg (by omega), if_neg (by omega), ha] at h
  exact h
theorem w_point' {p : UInt64} (n k : Int) (w : World) (e : point n k = p) :
    Calls Try.prog 24 #[.int .i64 n, .int .i64 k] w fun e w' => e = .returned (vw p) ∧ Chg none' w w' := by subst e; exact w_point n k w
theorem w_rpoint' {p : UInt64} (n k : Int) (w : World) (e : point n k = p) :
    Calls Try.prog 25 #[.int .i64 n, .int .i64 k] w fun e w' => e = .returned (vw p) ∧ Chg none' w w' := by subst e; exact w_rpoint n k w

set_option maxRecDepth 100000 in
set_option maxHeartbeats 1000000 in
theorem walk_HashBuckets (w : World) (s : ByteArray) (hs : s.size ≤ 140737488351232) (n : Int) (hn : (Lit.int .u16 n).wf = true) (node : Int) (hno : (Lit.int .i64 node).wf = true) (k : Int) (hk : (Lit.int .i64 k).wf = true) (x : Int) (hx : (Lit.int .u8 x).wf = true) :
    Calls Try.prog 8 #[.string s, .int .u16 n, .int .i64 node, .int .i64 k, .int .u8 x] w fun e w' => e = .returned (.bool true) ∧ Chg none' w w' := by
  obtain ⟨n0, n1⟩ := int_u16 hn
  obtain ⟨x, rfl⟩ := int_u8 hx
  have x1 := u8_lt x
  clear hn hno hk hx
  by_cases hlen : 500 < s.size
  · go_enter Try.func8, Try.ntmps8
    go_wp2_with fail
    refine (w_known04 _).mono ?_
    rintro e w1 ⟨rfl, c1⟩
    go_wp2_with fail
    go_ret
    exact ⟨rfl, c1⟩
  obtain ⟨d, hd⟩ : ∃ d : UInt8, (d.toNat : Int) = (x.toNat : Int) % 255 + 1 := ⟨UInt8.ofNat (x.toNat % 255 + 1), by rw [UInt8.toNat_ofNat']; omega⟩
  have hd0 : d ≠ 0 := by rintro rfl; simp at hd; omega
  obtain ⟨a, ha⟩ : ∃ a, ((keyOf s).toNat : Int) % (1 + n) = a := ⟨_, rfl⟩
  have a0 : 0 ≤ a := by rw [← ha]; exact Int.emod_nonneg _ (by omega)
  have a1 : a < 1 + n := by rw [← ha]; exact Int.emod_lt_of_pos _ (by omega)
  have Ha := Lib.hid ha; clear ha
  obtain ⟨p, hp⟩ : ∃ p, point node k = p := ⟨_, rfl⟩
  obtain ⟨q, hq⟩ : ∃ q, point node (bits .xor .i64 k d.toNat) = q := ⟨_, rfl⟩
  obtain ⟨r, hr⟩ : ∃ r, point (bits .xor .i64 node d.toNat) k = r := ⟨_, rfl⟩
  have pq : p ≠ q := by rw [← hp, ← hq]; exact point_lo _ _ hd0
  have pr : p ≠ r := by rw [← hp, ← hr]; exact point_hi _ _ hd0
  have m1 := ne_word pq
  have m2 := ne_word pr
  have m3 := ne_word' pq
  have m4 := ne_word' pr
  have Hp := Lib.hid hp; have Hq := Lib.hid hq; have Hr := Lib.hid hr
  clear hp hq hr pq pr hd0
  have Hd := Lib.hid hd; clear hd
  go_enter Try.func8, Try.ntmps8
  go_wp2_with fail
  refine (w_bucket_ok s (1 + n) a _ hs (by omega) (by omega) Ha.out).mono ?_
  rintro e w1 ⟨rfl, c1⟩
  go_wp2_with fail
  refine (w_bucket_ok s (1 + n) a _ hs (by omega) (by omega) Ha.out).mono ?_
  rintro e w2 ⟨rfl, c2⟩
  go_wp2_with fail
  refine (w_bucket_ok s 1 0 _ hs (by omega) (by omega) (by omega)).mono ?_
  rintro e w3 ⟨rfl, c3⟩
  have Ed := Hd.out.symm
  go_wp2_with fail
  refine (w_point' node k _ Hp.out).mono ?_
  rintro e w4 ⟨rfl, c4⟩
  go_wp2_with fail
  refine (w_point' node _ _ Hq.out).mono ?_
  rintro e w5 ⟨rfl, c5⟩
  go_wp2_with fail
  refine (w_point' node k _ Hp.out).mono ?_
  rintro e w6 ⟨rfl, c6⟩
  go_wp2_with fail
  refine (w_point' _ k _ Hr.out).mono ?_
  rintro e w7 ⟨rfl, c7⟩
  go_wp2_with fail
  refine (w_point' node k _ Hp.out).mono ?_
  rintro e w8 ⟨rfl, c8⟩
  go_wp2_with fail
  refine (w_rpoint' node k _ Hp.out).mono ?_
  rintro e w9 ⟨rfl, c9⟩
  go_wp2_with fail
  refine (w_known04 _).mono ?_
  rintro e w10 ⟨rfl, c10⟩
  go_wp2_with fail
  go_ret
  exact ⟨rfl, c1.trans (c2.trans (c3.trans (c4.trans (c5.trans (c6.trans (c7.trans (c8.trans (c9.trans c10))))))))⟩

end Go.Proofs.Ytojmldhbdfboiaa
