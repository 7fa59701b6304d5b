/-
  Plain laws of the hash: words, their steps and what stirs them; no program in sight.
-/
import Derived.Laws.BitsLemmas
import Derived.RowKit
namespace Go.Proofs.Ytclbbddpedcfjaa
open Go.RowKit

def step (h : UInt64) (c : UInt8) : UInt64 := (h ^^^ c.toUInt64) * 1099511628211
def sumFrom (h : UInt64) (bs : List UInt8) : UInt64 := bs.foldl step h
def begin64 : UInt64 := 14695981039346656037
def sum (bs : List UInt8) : UInt64 := sumFrom begin64 bs
def fold64 (h : UInt64) : UInt64 := h ^^^ (h >>> 33)
def one64 : UInt64 := 18397679294719823053
def two64 : UInt64 := 14181476777654086739
def stir (h : UInt64) : UInt64 := fold64 (fold64 (fold64 h * one64) * two64)
def invTo (a : UInt64) : Nat → UInt64
  | 0 => a
  | n + 1 => invTo a n * (2 - a * invTo a n)
def inverse (a : UInt64) : UInt64 := invTo a 6
def unstir (h : UInt64) : UInt64 := fold64 (fold64 (fold64 h * inverse two64) * inverse one64)
def check (bs : List UInt8) : UInt32 := (sum bs >>> 32).toUInt32 ^^^ (sum bs).toUInt32

/-- An int as a word, and its bytes, the highest first. -/
def toU (n : Int) : UInt64 := UInt64.ofNat (n % 18446744073709551616).toNat
def byteAt (u : UInt64) (k : Nat) : UInt8 := UInt8.ofNat (u.toNat / 2 ^ (8 * (7 - k)) % 256)
def be8 (u : UInt64) : List UInt8 := (List.range 8).map (byteAt u)

theorem wrap_u64 (n : Int) : IntKind.u64.wrap n = n % 18446744073709551616 := by simp [IntKind.wrap, IntKind.bits, IntKind.signed]
theorem u64_lt (h : UInt64) : (h.toNat : Int) < 18446744073709551616 := by have := h.toNat_lt; omega
theorem u8_lt (c : UInt8) : (c.toNat : Int) < 256 := by have := c.toNat_lt; omega
theorem wrap_u64_id (h : UInt64) : IntKind.u64.wrap (h.toNat : Int) = h.toNat := by rw [wrap_u64]; have := u64_lt h; omega

theorem bits_xor64 (a b : UInt64) : bits .xor .u64 (a.toNat : Int) (b.toNat : Int) = ((a ^^^ b).toNat : Int) := by
  have e : ∀ x : UInt64, BitVec.ofNat 64 x.toNat = x.toBitVec := fun x => by simp
  show IntKind.u64.wrap ((BitVec.ofInt 64 _ ^^^ BitVec.ofInt 64 _ : BitVec 64).toNat : Int) = _
  rw [BitVec.ofInt_natCast, BitVec.ofInt_natCast, e, e, ← UInt64.toBitVec_xor]
  exact wrap_u64_id _
theorem bits_xor8 (a b : UInt8) : bits .xor .u8 (a.toNat : Int) (b.toNat : Int) = ((a ^^^ b).toNat : Int) := by
  have e : ∀ x : UInt8, BitVec.ofNat 8 x.toNat = x.toBitVec := fun x => by simp
  show IntKind.u8.wrap ((BitVec.ofInt 8 _ ^^^ BitVec.ofInt 8 _ : BitVec 8).toNat : Int) = _
  rw [BitVec.ofInt_natCast, BitVec.ofInt_natCast, e, e, ← UInt8.toBitVec_xor]
  rw [IntKind.wrap_u8]; have := u8_lt (a ^^^ b); exact Int.emod_eq_of_lt (by omega) this
theorem bits_xor32 (a b : UInt32) : bits .xor .u32 (a.toNat : Int) (b.toNat : Int) = ((a ^^^ b).toNat : Int) := by
  have e : ∀ x : UInt32, BitVec.ofNat 32 x.toNat = x.toBitVec := fun x => by simp
  show IntKind.u32.wrap ((BitVec.ofInt 32 _ ^^^ BitVec.ofInt 32 _ : BitVec 32).toNat : Int) = _
  rw [BitVec.ofInt_natCast, BitVec.ofInt_natCast, e, e, ← UInt32.toBitVec_xor]
  rw [IntKind.wrap_u32, UInt32.toNat_toBitVec]; have := (a ^^^ b).toNat_lt; omega

theorem val_mul (a k : UInt64) : IntKind.u64.wrap ((a.toNat : Int) * (k.toNat : Int)) = ((a * k).toNat : Int) := by
  rw [wrap_u64, UInt64.toNat_mul]; omega
theorem val_step (h : UInt64) (c : UInt8) : IntKind.u64.wrap (bits .xor .u64 (h.toNat : Int) (c.toNat : Int) * 1099511628211) = ((step h c).toNat : Int) := by
  have e : (c.toNat : Int) = (c.toUInt64.toNat : Int) := by simp
  rw [e, bits_xor64, step, ← val_mul]
  rfl
theorem val_shr (h : UInt64) : (h.toNat : Int) / (8589934592 : Int) = ((h >>> 33).toNat : Int) := by
  rw [UInt64.toNat_shiftRight]
  simp [Nat.shiftRight_eq_div_pow]
theorem val_fold (h : UInt64) : bits .xor .u64 (h.toNat : Int) ((h.toNat : Int) / (8589934592 : Int)) = ((fold64 h).toNat : Int) := by
  rw [val_shr, bits_xor64]; rfl

theorem nat_xor_byte (a c : Nat) (hc : c < 256) : a ^^^ c = a - a % 256 + ((a % 256) ^^^ c) := by
  have h1 : (a ^^^ c) / 2 ^ 8 = a / 2 ^ 8 ^^^ c / 2 ^ 8 := Nat.xor_div_two_pow
  have h2 : (a ^^^ c) % 2 ^ 8 = (a % 2 ^ 8) ^^^ (c % 2 ^ 8) := Nat.xor_mod_two_pow
  have h3 : c / 2 ^ 8 = 0 := Nat.div_eq_of_lt hc
  have h4 : c % 2 ^ 8 = c := Nat.mod_eq_of_lt hc
  rw [h3, Nat.xor_zero] at h1
  rw [h4] at h2
  have h5 := Nat.div_add_mod (a ^^^ c) (2 ^ 8)
  have h6 := Nat.div_add_mod a (2 ^ 8)
  simp only [Nat.reducePow] at *
  rw [h1, h2] at h5
  omega
theorem val_rstep (h : UInt64) (c : UInt8) :
    IntKind.u64.wrap
        (IntKind.u64.wrap (IntKind.u64.wrap (IntKind.u64.wrap ((h.toNat : Int) - (h.toNat : Int) % 256) + IntKind.u64.wrap (bits BinOp.xor IntKind.u8 ((h.toNat : Int) % 256) (c.toNat : Int))) * 1099511627776) +
          IntKind.u64.wrap (IntKind.u64.wrap (IntKind.u64.wrap ((h.toNat : Int) - (h.toNat : Int) % 256) + IntKind.u64.wrap (bits BinOp.xor IntKind.u8 ((h.toNat : Int) % 256) (c.toNat : Int))) * 435)) = ((step h c).toNat : Int) := by
  have e1 : (h.toNat : Int) % 256 = (h.toUInt8.toNat : Int) := by
    rw [UInt64.toNat_toUInt8]; omega
  have e2 : ((h ^^^ c.toUInt64).toNat : Int) = (h.toNat : Int) - (h.toNat : Int) % 256 + ((h.toUInt8 ^^^ c).toNat : Int) := by
    rw [UInt64.toNat_xor, UInt8.toNat_toUInt64, nat_xor_byte _ _ c.toNat_lt, UInt8.toNat_xor, UInt64.toNat_toUInt8]
    simp only [Nat.reducePow]
    omega
  have b1 := u64_lt h
  have b2 := u8_lt (h.toUInt8 ^^^ c)
  have b3 := u64_lt (h ^^^ c.toUInt64)
  have e3 : (step h c).toNat = (h ^^^ c.toUInt64).toNat * 1099511628211 % 18446744073709551616 := by unfold step; rw [UInt64.toNat_mul]; rfl
  rw [e3, e1, bits_xor8, ← e1]
  simp only [wrap_u64]
  omega

theorem be8_len (u : UInt64) : (be8 u).length = 8 := by simp [be8]
theorem toU_nat (n : Int) : ((toU n).toNat : Int) = IntKind.u64.wrap n := by
  rw [wrap_u64]; unfold toU
  rw [UInt64.toNat_ofNat']
  omega
theorem be8_snoc (u : UInt64) {k : Nat} (h : k < 8) : (be8 u).take (k + 1) = (be8 u).take k ++ [byteAt u k] := by
  rw [List.take_succ_eq_append_getElem (by simpa [be8] using h)]; simp [be8]
theorem val_byte (n : Int) {k : Nat} {i : Int} (hk : k < 8) (hi : i = 56 - 8 * (k : Int)) : IntKind.u64.wrap n / 2 ^ i.toNat % 256 = ((byteAt (toU n) k).toNat : Int) := by
  have e : i.toNat = 8 * (7 - k) := by omega
  unfold byteAt
  rw [e, ← toU_nat, UInt8.toNat_ofNat']
  simp

theorem be8_at (u : UInt64) {j : Nat} {x : UInt8} (h : (be8 u)[j]? = some x) : j < 8 ∧ x = byteAt u j := by
  have h1 : j < 8 := by have := (List.getElem?_eq_some_iff.1 h).1; rwa [be8_len] at this
  simp [be8, h1] at h
  exact ⟨h1, h.symm⟩
theorem byteAt_val (u : UInt64) {k : Nat} {i : Int} {x : Int} (hk : k < 8) (hi : i = 7 - (k : Int)) (hx : x = ((u.toNat / 2 ^ (8 * k) : Nat) : Int)) : x % 256 = ((byteAt u i.toNat).toNat : Int) := by
  have e : 8 * (7 - i.toNat) = 8 * k := by omega
  unfold byteAt
  rw [e, UInt8.toNat_ofNat', hx]
  simp
theorem shr_step (u : UInt64) {k : Nat} {x : Int} (hx : x = ((u.toNat / 2 ^ (8 * k) : Nat) : Int)) : IntKind.u64.wrap (x / 256) = ((u.toNat / 2 ^ (8 * (k + 1)) : Nat) : Int) := by
  have h1 : u.toNat / 2 ^ (8 * k) ≤ u.toNat := Nat.div_le_self _ _
  have h2 := u.toNat_lt
  have h3 : u.toNat / 2 ^ (8 * (k + 1)) = u.toNat / 2 ^ (8 * k) / 256 := by
    rw [Nat.div_div_eq_div_mul, show 8 * (k + 1) = 8 * k + 8 by omega, Nat.pow_add]
  rw [wrap_u64, h3, hx]
  generalize u.toNat / 2 ^ (8 * k) = q at *
  omega

theorem val_check (h : UInt64) : bits .xor .u32 ((h.toNat : Int) / 4294967296 % 4294967296) ((h.toNat : Int) % 4294967296) = (((h >>> 32).toUInt32 ^^^ h.toUInt32).toNat : Int) := by
  rw [← bits_xor32, UInt64.toNat_toUInt32, UInt64.toNat_toUInt32, UInt64.toNat_shiftRight]
  simp [Nat.shiftRight_eq_div_pow]
theorem val_hi (h : UInt64) : IntKind.u64.wrap ((h.toNat : Int) / 4294967296) = (h.toNat : Int) / 4294967296 := by
  rw [wrap_u64]; have := u64_lt h; omega

theorem val_one (a : UInt64) : IntKind.u64.wrap ((a.toNat : Int) * 18397679294719823053) = ((a * one64).toNat : Int) := val_mul a one64
theorem val_two (a : UInt64) : IntKind.u64.wrap ((a.toNat : Int) * 14181476777654086739) = ((a * two64).toNat : Int) := val_mul a two64

/-! ### What is stirred is unstirred -/
theorem fold_fold (h : UInt64) : fold64 (fold64 h) = h := by
  apply UInt64.toBitVec_inj.mp
  simp only [fold64, UInt64.toBitVec_xor, UInt64.toBitVec_shiftRight]
  apply BitVec.eq_of_getLsbD_eq
  intro i hi
  have e : (UInt64.toBitVec 33 % 64).toNat = 33 := by decide
  simp only [BitVec.getLsbD_xor, BitVec.ushiftRight_eq', BitVec.getLsbD_ushiftRight, e]
  rw [BitVec.getLsbD_of_ge h.toBitVec (33 + (33 + i)) (by omega)]
  simp
theorem one_inv : inverse one64 * one64 = 1 := by decide +kernel
theorem two_inv : inverse two64 * two64 = 1 := by decide +kernel
theorem one_inv' : one64 * inverse one64 = 1 := by decide +kernel
theorem two_inv' : two64 * inverse two64 = 1 := by decide +kernel
theorem stir_unstir (h : UInt64) : stir (unstir h) = h := by
  unfold stir unstir
  rw [fold_fold, UInt64.mul_assoc, one_inv, UInt64.mul_one, fold_fold, UInt64.mul_assoc, two_inv, UInt64.mul_one, fold_fold]
theorem unstir_stir (h : UInt64) : unstir (stir h) = h := by
  unfold stir unstir
  rw [fold_fold, UInt64.mul_assoc, two_inv', UInt64.mul_one, fold_fold, UInt64.mul_assoc, one_inv', UInt64.mul_one, fold_fold]
theorem stir_inj {a b : UInt64} : stir a = stir b ↔ a = b := ⟨fun h => by rw [← unstir_stir a, h, unstir_stir], fun h => by rw [h]⟩

/-! ### A step forgets nothing -/
theorem prime_inv : (1099511628211 : UInt64) * 14886173955864302971 = 1 := by decide +kernel
theorem mul_prime_inj {a b : UInt64} (h : a * 1099511628211 = b * 1099511628211) : a = b := by
  have := congrArg (· * (14886173955864302971 : UInt64)) h
  simpa only [UInt64.mul_assoc, prime_inv, UInt64.mul_one] using this
theorem xor_cancel {a b c : UInt64} (h : a ^^^ c = b ^^^ c) : a = b := by
  have := congrArg (· ^^^ c) h
  simpa only [UInt64.xor_assoc, UInt64.xor_self, UInt64.xor_zero] using this
theorem step_inj {a b : UInt64} {c : UInt8} : step a c = step b c ↔ a = b := ⟨fun h => xor_cancel (mul_prime_inj h), fun h => by rw [h]⟩
theorem step_byte {a : UInt64} {c d : UInt8} (h : step a c = step a d) : c = d := by
  have h1 := mul_prime_inj h
  have h2 : c.toUInt64 = d.toUInt64 := xor_cancel (c := a) (by rw [UInt64.xor_comm, h1, UInt64.xor_comm])
  exact UInt8.toNat_inj.1 (by simpa using congrArg UInt64.toNat h2)
theorem sumFrom_inj : ∀ {bs : List UInt8} {a b : UInt64}, sumFrom a bs = sumFrom b bs → a = b
  | [], _, _, h => h
  | _ :: bs, _, _, h => step_inj.1 (sumFrom_inj (bs := bs) h)
theorem sumFrom_append (h : UInt64) (xs ys : List UInt8) : sumFrom h (xs ++ ys) = sumFrom (sumFrom h xs) ys := by simp [sumFrom]
theorem sum_byte {h : UInt64} {xs ys : List UInt8} {c d : UInt8} (e : sumFrom h (xs ++ c :: ys) = sumFrom h (xs ++ d :: ys)) : c = d := by
  rw [sumFrom_append, sumFrom_append] at e
  exact step_byte (sumFrom_inj (bs := ys) e)

/-! ### Points of nodes that differ in their lowest byte -/
theorem toU_bv (n : Int) : (toU n).toBitVec = BitVec.ofInt 64 n := by
  apply BitVec.eq_of_toNat_eq
  rw [UInt64.toNat_toBitVec, BitVec.toNat_ofInt]
  unfold toU
  rw [UInt64.toNat_ofNat']
  omega
theorem toU_xor (k d : Int) : toU (bits .xor .i64 k d) = toU k ^^^ toU d := by
  apply UInt64.toBitVec_inj.1
  rw [UInt64.toBitVec_xor, toU_bv, toU_bv, toU_bv]
  show BitVec.ofInt 64 (IntKind.i64.wrap ((BitVec.ofInt 64 k ^^^ BitVec.ofInt 64 d : BitVec 64).toNat : Int)) = _
  apply BitVec.eq_of_toNat_eq
  generalize (BitVec.ofInt 64 k ^^^ BitVec.ofInt 64 d : BitVec 64) = b
  have := b.isLt
  rw [BitVec.toNat_ofInt, IntKind.wrap_i64]
  omega
theorem toU_small (d : UInt8) : toU (d.toNat : Int) = d.toUInt64 := by
  apply UInt64.toNat_inj.1
  have := d.toNat_lt
  unfold toU
  rw [UInt64.toNat_ofNat', UInt8.toNat_toUInt64]
  omega
theorem be8_split (u : UInt64) : be8 u = (List.range 7).map (byteAt u) ++ [byteAt u 7] := by
  unfold be8
  rw [show (8 : Nat) = 7 + 1 from rfl, List.range_succ]
  simp
theorem xor_nat (u : UInt64) (d : UInt8) : (u ^^^ d.toUInt64).toNat = u.toNat - u.toNat % 256 + ((u.toNat % 256) ^^^ d.toNat) ∧ (u.toNat % 256) ^^^ d.toNat < 256 := by
  rw [UInt64.toNat_xor, UInt8.toNat_toUInt64, nat_xor_byte _ _ d.toNat_lt]
  exact ⟨rfl, Nat.xor_lt_two_pow (n := 8) (Nat.mod_lt _ (by decide)) d.toNat_lt⟩
theorem byteAt_xor_hi (u : UInt64) (d : UInt8) {j : Nat} (h : j < 7) : byteAt (u ^^^ d.toUInt64) j = byteAt u j := by
  obtain ⟨h1, h2⟩ := xor_nat u d
  unfold byteAt
  congr 2
  rw [show 8 * (7 - j) = 8 + 8 * (6 - j) by omega, Nat.pow_add, ← Nat.div_div_eq_div_mul, ← Nat.div_div_eq_div_mul]
  congr 1
  rw [h1]
  generalize (u.toNat % 256) ^^^ d.toNat = e at *
  simp only [Nat.reducePow]
  omega
theorem byteAt_xor_lo (u : UInt64) (d : UInt8) : byteAt (u ^^^ d.toUInt64) 7 = byteAt u 7 ^^^ d := by
  obtain ⟨h1, h2⟩ := xor_nat u d
  apply UInt8.toNat_inj.1
  unfold byteAt
  rw [UInt8.toNat_xor, UInt8.toNat_ofNat', UInt8.toNat_ofNat', h1]
  simp only [Nat.sub_self, Nat.mul_zero, Nat.pow_zero, Nat.div_one, Nat.mod_mod, Nat.reducePow]
  generalize (u.toNat % 256) ^^^ d.toNat = e at *
  omega
theorem be8_xor (u : UInt64) (d : UInt8) : be8 (u ^^^ d.toUInt64) = (List.range 7).map (byteAt u) ++ [byteAt u 7 ^^^ d] := by
  rw [be8_split, byteAt_xor_lo]
  congr 1
  apply List.map_congr_left
  intro j hj
  exact byteAt_xor_hi u d (by simpa using hj)
theorem xor_ne {c d : UInt8} (h : d ≠ 0) : c ^^^ d ≠ c := fun e => h (by
  have := congrArg (c ^^^ ·) e
  simpa [← UInt8.xor_assoc] using this)

def point (n k : Int) : UInt64 := stir (sum (be8 (toU n) ++ be8 (toU k)))
theorem point_lo (n k : Int) {d : UInt8} (hd : d ≠ 0) : point n k ≠ point n (bits .xor .i64 k d.toNat) := by
  intro e
  have e1 := stir_inj.1 e
  rw [toU_xor, toU_small, be8_xor, be8_split (toU k)] at e1
  rw [← List.append_assoc, ← List.append_assoc] at e1
  exact xor_ne hd (sum_byte (ys := []) e1).symm
theorem point_hi (n k : Int) {d : UInt8} (hd : d ≠ 0) : point n k ≠ point (bits .xor .i64 n d.toNat) k := by
  intro e
  have e1 := stir_inj.1 e
  rw [toU_xor, toU_small, be8_xor, be8_split (toU n)] at e1
  rw [List.append_assoc, List.append_assoc] at e1
  exact xor_ne hd (sum_byte e1).symm

end Go.Proofs.Ytclbbddpedcfjaa
