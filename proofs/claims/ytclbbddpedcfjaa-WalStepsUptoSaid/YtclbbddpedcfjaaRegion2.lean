/-
  A region that draws its order, and what follows it on the act as it then stands, slot by slot.
-/
import Derived.Test.YtclbbddpedcfjaaRegion
namespace Go.Proofs.Ytclbbddpedcfjaa
open Go.RowKit

/-- The act with the slots that the operations write, filled by 'f'. -/
def filled (f : Nat → Value) (ops : List Oper) (a0 : Act) : Act := ops.foldl (fun a o => match o.dst with | some d => a.put (some d) (f d) | none => a) a0

theorem filled_spec (f : Nat → Value) : ∀ (ops : List Oper) (a0 : Act), (filled f ops a0).defers = a0.defers ∧ (filled f ops a0).tmps.size = a0.tmps.size ∧
    ∀ t, t < a0.tmps.size → (filled f ops a0).tmps[t]? = if writer ops t = none then a0.tmps[t]? else some (f t)
  | [], a0 => ⟨rfl, rfl, fun t _ => rfl⟩
  | o :: r, a0 => by
    unfold filled
    rw [List.foldl_cons]
    cases hd : o.dst with
    | none =>
      obtain ⟨h1, h2, h3⟩ := filled_spec f r a0
      refine ⟨h1, h2, fun t ht => ?_⟩
      have hw : writer (o :: r) t = none ↔ writer r t = none := by unfold writer; rw [List.findIdx?_cons]; simp [hd]
      simp only [hw]
      exact h3 t ht
    | some d =>
      obtain ⟨h1, h2, h3⟩ := filled_spec f r (a0.put (some d) (f d))
      have hsz : (a0.put (some d) (f d)).tmps.size = a0.tmps.size := by simp [Act.put]
      refine ⟨h1, h2.trans hsz, fun t ht => ?_⟩
      have := h3 t (by omega)
      show (filled f r (a0.put (some d) (f d))).tmps[t]? = _
      rw [this]
      have hw : writer (o :: r) t = none ↔ d ≠ t ∧ writer r t = none := by unfold writer; rw [List.findIdx?_cons]; by_cases hdt : d = t <;> simp [hd, hdt]
      by_cases hr : writer r t = none
      · by_cases hdt : d = t
        · subst hdt
          rw [if_pos hr, if_neg (by simp [hw])]
          simp [Act.put, ht]
        · rw [if_pos hr, if_pos (hw.2 ⟨hdt, hr⟩)]
          simp [Act.put, Array.getElem?_setIfInBounds, hdt]
      · rw [if_neg hr, if_neg (by simp [hw, hr])]

theorem wp_region_track2 {P : Program} {Q : Exit → Act → World → Prop} {id : Nat} {ops : List Oper} {a0 : Act} {w : World} (Vs : List Vp) (hm : P.follows .mixedOrders = true) (hok : trackOk ops = true)
    (hsz : (ops.filterMap (·.dst)).all (· < a0.tmps.size) = true)
    (hstep : TrackAll P ops Vs a0 w.drew Q 0 ops)
    (hfin : ∀ (f : Nat → Value) w', Chg none' w.drew w' → (∀ t, Known ops Vs a0 ops.length w' t (f t)) → Q .normal (filled f ops a0) w') :
    (Code.region id ops.toArray true).wp P Q a0 w := by
  refine wp_region_track Vs hm hok hsz hstep fun a w' hc hd hs hk => ?_
  have := hfin (fun t => a.tmps.getD t undef) w' hc hk
  have e : filled (fun t => a.tmps.getD t undef) ops a0 = a := by
    obtain ⟨h1, h2, h3⟩ := filled_spec (fun t => a.tmps.getD t undef) ops a0
    have ht : (filled (fun t => a.tmps.getD t undef) ops a0).tmps = a.tmps := by
      apply Array.ext_getElem?
      intro t
      by_cases hlt : t < a0.tmps.size
      · rw [h3 t hlt]
        have hat : a.tmps[t]? = some (a.tmps.getD t undef) := by
          rw [Array.getD_eq_getD_getElem?, Array.getElem?_eq_getElem (by omega)]; rfl
        split
        · next hw =>
          have := hk t
          unfold Known at this
          rw [hw] at this
          rw [hat, this, Array.getD_eq_getD_getElem?, Array.getElem?_eq_getElem hlt]; rfl
        · exact hat.symm
      · rw [Array.getElem?_eq_none (by omega), Array.getElem?_eq_none (by omega)]
    cases hx : filled (fun t => a.tmps.getD t undef) ops a0
    cases a
    rw [hx] at h1 ht
    simp only at h1 ht hd ⊢
    rw [ht, h1, hd]
  rwa [e] at this

theorem wanted_no {ops : Array Oper} {o : Oper} {a : Act} {j d : Nat} {b c : Bool} (hg : o.guard = some (j, b)) (hj : (ops[j]?).bind (·.dst) = some d) (hv : a.tmps.getD d undef = .bool c) (hbc : (b == c) = false) :
    Region.wanted o (yielded ops a.tmps) = false := by
  have hx : a.tmps[d]? = some (.bool c) := by
    rw [Array.getD_eq_getD_getElem?] at hv
    cases h : a.tmps[d]? with
    | none => rw [h] at hv; simp [undef] at hv
    | some x => rw [h] at hv; exact congrArg some hv
  have hy : yielded ops a.tmps j = some c := by
    unfold yielded
    rw [hj]
    simp only [Option.bind_some, hx]
  unfold Region.wanted
  rw [hg]
  revert hbc
  cases b <;> cases c <;> simp [hy]
theorem track_skip {c : Bool} {A B : Prop} (hc : c = false) (h : B) : if c = true then A else B := by rw [hc]; simpa using h

end Go.Proofs.Ytclbbddpedcfjaa
