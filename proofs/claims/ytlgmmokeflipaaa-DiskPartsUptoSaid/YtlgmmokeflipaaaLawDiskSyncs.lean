/-
  The walk of DiskSyncs.
-/
import Derived.Test.YtlgmmokeflipaaaOpenD
namespace Go.Proofs.Ytlgmmokeflipaaa
open Go.RowKit

theorem OwnB.past {F F' : Nat → Prop} {base : Nat} {w w' : World} {v : Value} {bs : List UInt8} (h : OwnB base w v bs) (ha : ∀ b, v.ownBlock = some b → ¬ F b) (c : Chg F w w') (x : Ext F F' w) : OwnB base w' v bs ∧ ∀ b, v.ownBlock = some b → ¬ F' b :=
  ⟨h.keep c ha, fun b hb hf => by
    rcases x b hf with q | q
    · exact ha b hb q
    · have := h.lt b hb; omega⟩
theorem OwnB.new_apart {F : Nat → Prop} {w w' : World} {g : Nat} {d : Dk} {v : Value} {bs : List UInt8} (h : IsDisk F w g d) (o : OwnB w.heap.size w' v bs) : ∀ b, v.ownBlock = some b → ¬ F b := fun b hb hf => by
  have := h.flt b hf
  have := o.base_ b hb
  omega

theorem dappE_n (d : Dk) (b : List UInt8) : (dappE d b).1.n = d.n := by unfold dappE; split <;> rfl
theorem dsync_n (d : Dk) : (dsync d).n ≤ d.n + 1 := by unfold dsync; simp only; split <;> omega
theorem ddo_n (d : Dk) (x : Do6) : (ddo d x).1.n ≤ d.n + 1 := by
  unfold ddo
  split
  · rw [dappE_n]; omega
  split
  · exact dsync_n d
  split
  · split <;> simp
  split <;> simp [dcrash]

/-- The disk behind some of what is done. -/
def ddos (d : Dk) (xs : List Do6) : Dk := xs.foldl (fun d x => (ddo d x).1) d
theorem ddos_take {d : Dk} {xs : List Do6} {k : Nat} (h : k < xs.length) : ddos d (xs.take (k + 1)) = (ddo (ddos d (xs.take k)) xs[k]).1 := by
  unfold ddos
  rw [← List.take_append_getElem h, List.foldl_append]
  rfl
theorem ddos_n (d : Dk) (xs : List Do6) : (ddos d xs).n ≤ d.n + xs.length := by
  unfold ddos
  induction xs generalizing d with
  | nil => exact Nat.le_refl _
  | cons x r ih =>
    have h1 := ih (ddo d x).1
    have h2 := ddo_n d x
    simp only [List.foldl_cons, List.length_cons] at *
    omega

/-- What the loops that do things to a disk bear along. -/
def DoneTo (w wr : World) (g : Nat) (d : Dk) : Prop := Chg none' w wr ∧ ∃ F, Ext none' F w ∧ IsDisk F wr g d

set_option maxRecDepth 100000 in
set_option maxHeartbeats 2000000 in
theorem walk_DiskSyncs (w : World) {v : Value} {xs : List Do6} (h : Do6s (old' w) w v xs) (hr : xs.length * 40 ≤ 140737488351232 ∧ ∀ x ∈ xs, x.b.length ≤ 140737488351232) (a : Int) (ha : (Lit.int .u16 a).wf = true) :
    Calls Try.prog 5 #[v, .int .u16 a] w fun e w' => e = .returned (.bool true) ∧ Chg none' w w' := by
  obtain ⟨a0, a1⟩ := int_u16 ha
  obtain ⟨A, c, rfl, _, hm⟩ := h.shape
  unfold maxLen at hm
  obtain ⟨q, rfl⟩ : ∃ q : Nat, a = q := ⟨a.toNat, by omega⟩
  clear ha
  go_enter Try.func5, Try.ntmps5
  go_wp2_with fail
  refine (w_long06 _ h).mono ?_
  rintro e w1 ⟨⟨t, rfl⟩, rfl⟩
  cases t
  · go_wp2_with fail
    refine (w_new _).mono ?_
    rintro e w1 ⟨g, F, rfl, hd, xd, c1⟩
    go_wp2
    go_loopw [6] (fun iv wr => ∃ k : Nat, k ≤ xs.length ∧ iv = .int .i64 k ∧ DoneTo w wr g (ddos ⟨[], [], 0⟩ (xs.take k))) (fun i _ => xs.length - (intOf i).toNat)
    case atStart => exact ⟨0, Nat.zero_le _, rfl, c1, F, xd, hd⟩
    case round =>
      obtain ⟨k, hk, rfl, hchg, Fk, hext, hD⟩ := hrel
      by_cases hlt : k < xs.length
      · obtain ⟨b1, o1, c1', u1, e1, hF1, ck0, ck1, ck2, hu1⟩ := (h.kept hchg fun _ _ => id).at_ hlt
        simp only [Value.slice.injEq] at e1
        obtain ⟨rfl, _, rfl⟩ := e1
        have hb := hr.2 _ (List.getElem_mem hlt)
        have E := Lib.hid (ddos_take (d := ⟨[], [], 0⟩) hlt)
        have hn := ddos_n ⟨[], [], 0⟩ (xs.take k)
        rw [List.length_take] at hn
        have K := w_ddo xs[k] hD (by simp only at hn; omega) hu1 (by omega) fun b hb hf => by rcases hext b hf with q | q; exact q; unfold old' at hb; omega
        obtain ⟨Au, cu, rfl⟩ := hu1.shape
        generalize xs[k] = x at *
        go_wp2_with fail
        ((with_reducible refine K.mono ?_))
        rintro e w2 ⟨F2, rfl, hD2, x2, c2⟩
        clear K
        go_wp2
        go_roundw
        case rel => exact ⟨k + 1, by omega, by go_num, hchg.ext hext c2, F2, hext.trans x2 hchg.size, by rw [E.out]; exact hD2⟩
        case measure => simp [intOf]; omega
      · obtain rfl : k = xs.length := by omega
        rw [List.take_length] at hD
        have hn := ddos_n ⟨[], [], 0⟩ xs
        generalize ddos ⟨[], [], 0⟩ xs = d at *
        simp only at hn
        go_wp2_with fail
        go_at_call 18
        refine (w_dbytes hD).mono ?_
        rintro e w2 ⟨vA, rfl, oA, c2⟩
        have aA := OwnB.new_apart hD oA
        have hD2 := hD.keep c2 fun _ _ => id
        have d2 := hchg.trans c2
        have x2 : Ext none' Fk w := hext
        go_wp2_with fail
        go_at_call 20
        refine (w_dsync hD2 (by omega)).mono ?_
        rintro e w3 ⟨F3, rfl, hD3, x3, c3⟩
        obtain ⟨oA3, aA3⟩ := oA.past aA c3 x3
        have d3 := d2.ext x2 c3
        have y3 := x2.trans x3 d2.size
        have hn3 : (dsync d).n ≤ 1000000000000000 := by have := dsync_n d; omega
        have e3 : dsync (dsync d) = dsync d := by simp [dsync]
        have e4 : dcrash (dsync d) q = dsync d := by simp [dsync, dcrash]
        have e5 : (dsync d).L = d.L ++ d.T := rfl
        have e6 : (dsync d).T = [] := rfl
        go_wp2_with fail
        go_at_call 21
        refine (w_syncs hD3).mono ?_
        rintro e w4 ⟨rfl, rfl⟩
        have K4 := w_dsync hD3 hn3
        rw [e3] at K4
        clear e3
        go_wp2_with fail
        go_at_call 20
        refine K4.mono ?_
        rintro e w4 ⟨F4, rfl, hD4, x4, c4⟩
        obtain ⟨oA4, aA4⟩ := oA3.past aA3 c4 x4
        have d4 := d3.ext y3 c4
        have y4 := y3.trans x4 d3.size
        have K5 := w_dcrash hD4 q
        rw [e4] at K5
        clear e4 K4
        go_wp2_with fail
        go_at_call 22
        refine K5.mono ?_
        rintro e w5 ⟨F5, rfl, hD5, x5, c5⟩
        obtain ⟨oA5, aA5⟩ := oA4.past aA4 c5 x5
        have d5 := d4.ext y4 c5
        clear K5
        have L5 := w_lasting hD5
        rw [e5] at L5
        have T5 := fun W (h : IsDisk F5 W g (dsync d)) => w_tail h
        rw [e6] at T5
        generalize dsync d = ds at *
        go_wp2_with fail
        go_at_call 21
        refine (w_syncs hD5).mono ?_
        rintro e w6 ⟨rfl, rfl⟩
        have z1 : ((ds.n : Int) == (ds.n : Int)) = true := beq_self_eq_true _
        go_wp2_with fail
        go_at_call 13
        refine L5.mono ?_
        rintro e w6 ⟨vL, rfl, oL, c6⟩
        go_wp2_with fail
        go_at_call 15
        refine (w_same00 _ oL.bytes (oA5.keep c6 fun _ => none_own).bytes).mono ?_
        rintro e w7 ⟨rfl, rfl⟩
        rw [beq_self_eq_true]
        go_wp2_with fail
        go_at_call 14
        refine (T5 _ (hD5.keep c6 fun _ _ => id)).mono ?_
        rintro e w7 ⟨vT, rfl, oT, c7⟩
        obtain ⟨AT, nT, rfl⟩ := oT.shape
        go_wp2_with fail
        go_at_call 9
        refine (w_known06 _).mono ?_
        rintro e w8 ⟨rfl, c8⟩
        go_wp2
        go_ret
        exact ⟨rfl, ((d5.trans c6).trans c7).trans c8⟩
  · go_wp2_with fail
    refine (w_known06 _).mono ?_
    rintro e w2 ⟨rfl, c2⟩
    go_wp2
    go_ret
    exact ⟨rfl, c2⟩

end Go.Proofs.Ytlgmmokeflipaaa
