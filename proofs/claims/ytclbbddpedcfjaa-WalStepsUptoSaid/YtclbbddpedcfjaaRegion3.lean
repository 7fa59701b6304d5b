/-
  A region that draws its order and writes: some of its operations (milestones) take the world from one state to the next; the others leave the state.
-/
import Derived.Test.YtclbbddpedcfjaaRegion2
namespace Go.Proofs.Ytclbbddpedcfjaa
open Go.RowKit

/-- How many milestones stand ahead of operation i, and how many may be done when it runs. -/
def loOf (ops : List Oper) (Ms : List Nat) (i : Nat) : Nat := (Ms.filter fun m => ((aheadBits ops []).getD i 0).testBit m && m != i).length
def hiOf (ops : List Oper) (Ms : List Nat) (i : Nat) : Nat := (Ms.filter fun m => !((aheadBits ops []).getD m 0).testBit i && m != i).length
def nextS (Ms : List Nat) (i s : Nat) : Nat := if Ms.contains i then s + 1 else s

theorem filter_len_mono {l : List Nat} {p q : Nat → Bool} (h : ∀ m ∈ l, p m = true → q m = true) : (l.filter p).length ≤ (l.filter q).length := by
  induction l with
  | nil => exact Nat.le_refl _
  | cons m r ih =>
    have ih := ih fun m' hm' => h m' (List.mem_cons_of_mem _ hm')
    simp only [List.filter_cons]
    cases hp : p m with
    | true =>
      rw [h m (List.mem_cons_self ..) hp]
      simpa using ih
    | false =>
      cases q m
      · simpa using ih
      · simp only [if_true, List.length_cons, Bool.false_eq_true, if_false]; omega

theorem filled_act {ops : List Oper} {a0 a : Act} {Vs : List Vp} {w' : World} (hd : a.defers = a0.defers) (hs : a.tmps.size = a0.tmps.size) (hk : ∀ t, Known ops Vs a0 ops.length w' t (a.tmps.getD t undef)) :
    filled (fun t => a.tmps.getD t undef) ops a0 = a := by
  obtain ⟨h1, h2, h3⟩ := filled_spec (fun t => a.tmps.getD t undef) ops a0
  have ht : (filled (fun t => a.tmps.getD t undef) ops a0).tmps = a.tmps := by
    apply Array.ext_getElem?
    intro t
    by_cases hlt : t < a0.tmps.size
    · rw [h3 t hlt]
      have hat : a.tmps[t]? = some (a.tmps.getD t undef) := by
        rw [Array.getD_eq_getD_getElem?, Array.getElem?_eq_getElem (by omega)]; rfl
      split
      · next hw =>
        have := hk t
        unfold Known at this
        rw [hw] at this
        rw [hat, this, Array.getD_eq_getD_getElem?, Array.getElem?_eq_getElem hlt]; rfl
      · exact hat.symm
    · rw [Array.getElem?_eq_none (by omega), Array.getElem?_eq_none (by omega)]
  cases hx : filled (fun t => a.tmps.getD t undef) ops a0
  cases a
  rw [hx] at h1 ht
  simp only at h1 ht hd ⊢
  rw [ht, h1, hd]

/-- What was told of the values of operations that need not wait for i still holds. -/
def StbL (ops : List Oper) (i : Nat) (w w' : World) : Nat → List Vp → Prop
  | _, [] => True
  | j, V :: r => ((j == i || ((aheadBits ops []).getD j 0).testBit i) = true ∨ ∀ u, V.p w u → V.p w' u) ∧ StbL ops i w w' (j + 1) r
theorem StbL.get' {ops : List Oper} {i : Nat} {w w' : World} : ∀ {r : List Vp} {k : Nat}, StbL ops i w w' k r → ∀ j, (k + j == i || ((aheadBits ops []).getD (k + j) 0).testBit i) = false → ∀ {u}, (r.getD j Vp.any).p w u → (r.getD j Vp.any).p w' u
  | [], _, _, j, _, u, _ => by simp [Vp.any]
  | V :: r, k, ⟨h1, h2⟩, 0, hj, u, hu => by
    rw [Nat.add_zero] at hj
    rcases h1 with h1 | h1
    · rw [hj] at h1; cases h1
    · exact h1 u hu
  | V :: r, k, ⟨h1, h2⟩, j + 1, hj, u, hu => by
    rw [show k + (j + 1) = k + 1 + j by omega] at hj
    exact StbL.get' h2 j hj hu
theorem StbL.get {ops : List Oper} {i : Nat} {w w' : World} {r : List Vp} (h : StbL ops i w w' 0 r) (j : Nat) (hj : (j == i || ((aheadBits ops []).getD j 0).testBit i) = false) {u : Value} (hu : (r.getD j Vp.any).p w u) : (r.getD j Vp.any).p w' u :=
  StbL.get' h j (by rwa [Nat.zero_add]) hu

section
variable {P : Program} {Q : Exit → Act → World → Prop}

def MsStep (P : Program) (ops : List Oper) (Vs : List Vp) (Ms : List Nat) (Ss : Nat → World → Prop) (a0 : Act) (Q : Exit → Act → World → Prop) (i : Nat) (o : Oper) : Prop :=
  ∀ s, loOf ops Ms i ≤ s → s ≤ hiOf ops Ms i → ∀ a w, Ss s w → a.defers = a0.defers → (∀ t ∈ readsOf ops o, Known ops Vs a0 i w t (a.tmps.getD t undef)) →
    ∀ K : Act → World → Prop, (∀ v w', Ss (nextS Ms i s) w' → (Chg none' w w' ∨ StbL ops i w w' 0 Vs) → (Vs.getD i Vp.any).p w' v → K (a.put o.dst v) w') →
    if Region.wanted o (yielded ops.toArray a.tmps) = true then o.wp P a w K Q else K (a.put o.dst undef) w
def MsAll (P : Program) (ops : List Oper) (Vs : List Vp) (Ms : List Nat) (Ss : Nat → World → Prop) (a0 : Act) (Q : Exit → Act → World → Prop) : Nat → List Oper → Prop
  | _, [] => True
  | i, o :: r => MsStep P ops Vs Ms Ss a0 Q i o ∧ MsAll P ops Vs Ms Ss a0 Q (i + 1) r
theorem MsAll.get {ops : List Oper} {Vs : List Vp} {Ms : List Nat} {Ss : Nat → World → Prop} {a0 : Act} : ∀ {r : List Oper} {i : Nat}, MsAll P ops Vs Ms Ss a0 Q i r → ∀ j o, r[j]? = some o → MsStep P ops Vs Ms Ss a0 Q (i + j) o
  | [], _, _, j, o, h => by simp at h
  | x :: r, i, ⟨h1, h2⟩, 0, o, h => by simp at h; subst h; exact h1
  | x :: r, i, ⟨h1, h2⟩, j + 1, o, h => by
    have := MsAll.get h2 j o (by simpa using h)
    rwa [show i + 1 + j = i + (j + 1) by omega] at this

theorem count_ms {Ms : List Nat} (hn : Ms.Nodup) {L : Nat → Bool} {i : Nat} (hi : L i = false) :
    (Ms.filter fun m => if i = m then true else L m).length = if Ms.contains i then (Ms.filter L).length + 1 else (Ms.filter L).length := by
  induction Ms with
  | nil => rfl
  | cons m r ih =>
    obtain ⟨h1, h2⟩ := List.nodup_cons.1 hn
    have ih := ih h2
    by_cases e : i = m
    · subst e
      have hc : r.contains i = false := by simpa using h1
      rw [hc] at ih
      simp only [Bool.false_eq_true, if_false] at ih
      simp only [List.filter_cons, if_true, hi, Bool.false_eq_true, if_false, List.contains_cons, beq_self_eq_true, Bool.true_or, List.length_cons, ih]
    · have hc : (m :: r).contains i = r.contains i := by simp [e]
      rw [hc]
      simp only [List.filter_cons, if_neg e]
      cases L m
      · simpa using ih
      · simp only [if_true, List.length_cons, ih]
        split <;> rfl

/-- THE REGION, in whatever order. -/
theorem wp_region_ms {id : Nat} {ops : List Oper} {a0 : Act} {w : World} (Vs : List Vp) (Ms : List Nat) (Ss : Nat → World → Prop) (hm : P.follows .mixedOrders = true) (hok : trackOk ops = true) (hms : decide Ms.Nodup && Ms.all (fun m => decide (m < ops.length)) = true)
    (hsz : (ops.filterMap (·.dst)).all (· < a0.tmps.size) = true)
    (h0 : Ss 0 w.drew) (hstep : MsAll P ops Vs Ms Ss a0 Q 0 ops)
    (hfin : ∀ a w', Ss Ms.length w' → a.defers = a0.defers → a.tmps.size = a0.tmps.size → (∀ t, Known ops Vs a0 ops.length w' t (a.tmps.getD t undef)) → Q .normal a w') :
    (Code.region id ops.toArray true).wp P Q a0 w := by
  obtain ⟨hnd, hall⟩ : (ops.filterMap (·.dst)).Nodup ∧ ∀ (i : Nat) (o : Oper), ops[i]? = some o → (∀ e ∈ o.after.toList, Region.binds .any e = true → e.on < i) ∧
      ∀ t ∈ readsOf ops o, ∀ j, writer ops t = some j → (j < i → ((aheadBits ops []).getD i 0).testBit j = true) ∧ (i < j → ((aheadBits ops []).getD j 0).testBit i = true) := by
    unfold trackOk at hok
    simp only [Bool.and_eq_true, decide_eq_true_eq, List.all_eq_true] at hok
    refine ⟨hok.1, fun i o ho => ?_⟩
    have := hok.2 (o, i) (by rw [List.mem_iff_getElem?]; exact ⟨i, by simp [ho]⟩)
    simp only [Bool.and_eq_true, List.all_eq_true, Bool.or_eq_true, Bool.not_eq_true', decide_eq_true_eq] at this
    refine ⟨fun e he hb => ?_, fun t ht j hj => ?_⟩
    · rcases this.1 e he with h | h
      · rw [h] at hb; cases hb
      · exact h
    · have h := this.2 t ht
      rw [hj] at h
      simp only at h
      refine ⟨fun hlt => by rwa [if_pos hlt] at h, fun hlt => ?_⟩
      rw [if_neg (by omega), Bool.or_eq_true] at h
      rcases h with h | h
      · have : i = j := by simpa using h
        omega
      · exact h
  have hsz' : ∀ (i : Nat) (o : Oper) (d : Tmp), ops[i]? = some o → o.dst = some d → d < a0.tmps.size := fun i o d ho hd => by
    simpa using List.all_eq_true.1 hsz d (List.mem_filterMap.2 ⟨o, List.mem_of_getElem? ho, hd⟩)
  obtain ⟨hmn, hml⟩ : Ms.Nodup ∧ ∀ m ∈ Ms, m < ops.length := by
    simp only [Bool.and_eq_true, decide_eq_true_eq, List.all_eq_true] at hms
    exact hms
  have hlast : ∀ L : Array Bool, (∀ j, j < ops.length → L.getD j false = true) → (Ms.filter fun m => L.getD m false).length = Ms.length := fun L hL => by
    rw [List.filter_eq_self.2 fun m hmm => hL m (hml m hmm)]
  refine wp_region_any hm ?_
  have key : ∀ (fuel : Nat) (L : Array Bool) (a : Act) (w' : World), L.size = ops.length → Closed ops L → L.toList.count false ≤ fuel → Ss (Ms.filter fun m => L.getD m false).length w' → a.defers = a0.defers → a.tmps.size = a0.tmps.size →
      (∀ t, match writer ops t with | some j => if L.getD j false = true then (Vs.getD j Vp.any).p w' (a.tmps.getD t undef) else a.tmps.getD t undef = a0.tmps.getD t undef | none => a.tmps.getD t undef = a0.tmps.getD t undef) →
      wpAny P .any ops.toArray Q fuel L a w' := by
    intro fuel
    induction fuel with
    | zero =>
      intro L a w' hL hc hcount hchg hd hs ht
      have hall' : ∀ j, j < ops.length → L.getD j false = true := by
        intro j hj
        cases hb : L.getD j false with
        | true => rfl
        | false =>
          exfalso
          have : false ∈ L.toList := by
            rw [Array.getD_eq_getD_getElem?, Array.getElem?_eq_getElem (by omega)] at hb
            simp at hb
            rw [← hb]; simp
          have := List.count_pos_iff.2 this
          omega
      refine ⟨?_, hfin a w' (by rw [hlast L hall'] at hchg; exact hchg) hd hs fun t => ?_⟩
      · unfold Region.ready
        rw [List.filter_eq_nil_iff]
        intro i hi
        have := hall' i (by simpa using hi)
        rw [Array.getD_eq_getD_getElem?, Array.getElem?_eq_getElem (by simp at hi; omega)] at this
        rw [Array.getD_eq_getD_getElem?, Array.getElem?_eq_getElem (by simp at hi; omega)]
        simp at this
        simp [this]
      · have := ht t
        unfold Known
        cases hw : writer ops t with
        | none => rw [hw] at this; exact this
        | some j =>
          rw [hw] at this
          obtain ⟨o, ho, _⟩ := writer_some hw
          have hj := (List.getElem?_eq_some_iff.1 ho).1
          simp only at this ⊢
          rw [if_pos hj]
          rwa [if_pos (hall' j hj)] at this
    | succ fuel ih =>
      intro L a w' hL hc hcount hchg hd hs ht
      refine ⟨fun hr => ?_, fun i hi => ?_⟩
      · have hall' : ∀ j, j < ops.length → L.getD j false = true := by
          intro j
          induction j using Nat.strongRecOn with
          | _ j ihj =>
            intro hj
            cases hb : L.getD j false with
            | true => rfl
            | false =>
              exfalso
              have : j ∈ Region.ready .any ops.toArray L := by
                unfold Region.ready
                rw [List.mem_filter]
                refine ⟨by simpa using hj, ?_⟩
                have hb' : L.getD j true = false := by
                  rw [Array.getD_eq_getD_getElem?, Array.getElem?_eq_getElem (by omega)] at hb ⊢
                  simpa using hb
                rw [hb']
                simp only [Bool.not_false, Bool.true_and, List.getElem?_toArray, List.getElem?_eq_getElem hj, Option.map_some, Option.getD_some]
                rw [Array.all_eq_true']
                intro e he
                cases hbd : Region.binds .any e with
                | false => rfl
                | true =>
                  have hlt := (hall j ops[j] (by simp [hj])).1 e (by simpa using he) hbd
                  rw [ihj e.on hlt (by omega)]
                  rfl
              rw [hr] at this
              cases this
        refine hfin a w' (by rw [hlast L hall'] at hchg; exact hchg) hd hs fun t => ?_
        have := ht t
        unfold Known
        cases hw : writer ops t with
        | none => rw [hw] at this; exact this
        | some j =>
          rw [hw] at this
          obtain ⟨o, ho, _⟩ := writer_some hw
          have hj := (List.getElem?_eq_some_iff.1 ho).1
          simp only at this ⊢
          rw [if_pos hj]
          rwa [if_pos (hall' j hj)] at this
      · unfold Region.ready at hi
        rw [List.mem_filter] at hi
        obtain ⟨hi1, hi2⟩ := hi
        have hi1' : i < ops.length := by simpa using hi1
        simp only [List.getElem?_toArray, List.getElem?_eq_getElem hi1', Option.map_some, Option.getD_some, Bool.and_eq_true, Bool.not_eq_true'] at hi2
        obtain ⟨hi2, hi3⟩ := hi2
        rw [Array.all_eq_true'] at hi3
        have hLi : L[i]? = some false := by
          rw [Array.getD_eq_getD_getElem?, Array.getElem?_eq_getElem (by omega)] at hi2
          rw [Array.getElem?_eq_getElem (by omega)]
          simpa using hi2
        have hfalse : L.getD i false = false := by rw [Array.getD_eq_getD_getElem?, hLi]; rfl
        have hpre : ∀ e ∈ ops[i].after.toList, Region.binds .any e = true → L.getD e.on false = true := by
          intro e he hb
          have := hi3 e (by simpa using he)
          rw [hb] at this
          simpa using this
        have hahead : ∀ k b, ((aheadBits ops []).getD k 0).testBit b = true → L.getD k false = true → L.getD b false = true := ahead_spec hc ops [] ⟨[], rfl, rfl⟩ (fun k b hb => by simp at hb)
        have hc' : Closed ops (L.setIfInBounds i true) := by
          intro j o ho hj e he hb
          rw [getD_set (by omega)] at hj ⊢
          split
          · rfl
          · split at hj
            · next h => subst h; rw [List.getElem?_eq_getElem hi1'] at ho; obtain rfl := Option.some.inj ho; exact hpre e he hb
            · exact hc j o ho hj e he hb
        have hahead' : ∀ k b, ((aheadBits ops []).getD k 0).testBit b = true → (L.setIfInBounds i true).getD k false = true → (L.setIfInBounds i true).getD b false = true := ahead_spec hc' ops [] ⟨[], rfl, rfl⟩ (fun k b hb => by simp at hb)
        have hknown : ∀ t ∈ readsOf ops ops[i], Known ops Vs a0 i w' t (a.tmps.getD t undef) := by
          intro t htr
          have h1 := ht t
          unfold Known
          cases hw : writer ops t with
          | none => rw [hw] at h1; exact h1
          | some j =>
            rw [hw] at h1
            simp only at h1 ⊢
            obtain ⟨q1, q2⟩ := (hall i ops[i] (by simp [hi1'])).2 t htr j hw
            by_cases hji : j < i
            · rw [if_pos hji]
              have := hahead' i j (q1 hji) (by rw [getD_set (by omega)]; simp)
              rw [getD_set (by omega), if_neg (by omega)] at this
              rwa [if_pos this] at h1
            · rw [if_neg hji]
              have hLj : L.getD j false = false := by
                by_cases he : j = i
                · subst he; exact hfalse
                · cases hb : L.getD j false with
                  | false => rfl
                  | true =>
                    have := hahead j i (q2 (by omega)) hb
                    rw [hfalse] at this
                    cases this
              rw [hLj] at h1
              simpa using h1
        have hst := MsAll.get hstep i ops[i] (by simp [hi1'])
        rw [Nat.zero_add] at hst
        have hlo : loOf ops Ms i ≤ (Ms.filter fun m => L.getD m false).length := by
          refine filter_len_mono fun m _ hmm => ?_
          simp only [Bool.and_eq_true, bne_iff_ne, ne_eq] at hmm
          have := hahead' i m hmm.1 (by rw [getD_set (by omega)]; simp)
          rwa [getD_set (by omega), if_neg (fun e => hmm.2 e.symm)] at this
        have hhi : (Ms.filter fun m => L.getD m false).length ≤ hiOf ops Ms i := by
          refine filter_len_mono fun m _ hmm => ?_
          simp only [Bool.and_eq_true, Bool.not_eq_true', bne_iff_ne, ne_eq]
          constructor
          · cases hb : ((aheadBits ops []).getD m 0).testBit i with
            | false => rfl
            | true => have := hahead m i hb hmm; rw [hfalse] at this; cases this
          · rintro rfl; rw [hfalse] at hmm; cases hmm
        have hput : ∀ v w'', Ss (nextS Ms i (Ms.filter fun m => L.getD m false).length) w'' → (Chg none' w' w'' ∨ StbL ops i w' w'' 0 Vs) → (Vs.getD i Vp.any).p w'' v → wpAny P .any ops.toArray Q fuel (L.setIfInBounds i true) (a.put ops[i].dst v) w'' := by
          intro v w'' hS hch hv
          have hcnt : (Ms.filter fun m => (L.setIfInBounds i true).getD m false).length = nextS Ms i (Ms.filter fun m => L.getD m false).length := by
            unfold nextS
            have e : (fun m => (L.setIfInBounds i true).getD m false) = fun m => if i = m then true else L.getD m false := funext fun m => getD_set (by omega)
            rw [e]
            exact count_ms hmn hfalse
          refine ih _ _ _ (by simpa using hL) hc' ?_ (by rw [hcnt]; exact hS) ?_ ?_ ?_
          · have := count_set (l := L.toList) (i := i) (by simpa using hLi)
            rw [Array.toList_setIfInBounds]
            omega
          · cases hdst : ops[i].dst <;> exact hd
          · cases hdst : ops[i].dst with
            | none => exact hs
            | some d => simp only [Act.put, Array.size_setIfInBounds]; exact hs
          · intro t
            have h1 := ht t
            cases hw : writer ops t with
            | none =>
              rw [hw] at h1
              simp only at h1 ⊢
              have := writer_none hw ops[i] (by simp)
              cases hdst : ops[i].dst with
              | none => exact h1
              | some d =>
                rw [hdst] at this
                have hne : d ≠ t := fun e => this (by rw [e])
                simp only [Act.put, Array.getD_eq_getD_getElem?, Array.getElem?_setIfInBounds, if_neg hne]
                simpa [Array.getD_eq_getD_getElem?] using h1
            | some j =>
              rw [hw] at h1
              simp only at h1 ⊢
              obtain ⟨o, ho, hod⟩ := writer_some hw
              by_cases hji : i = j
              · subst hji
                rw [List.getElem?_eq_getElem hi1'] at ho
                obtain rfl := Option.some.inj ho
                rw [getD_set (by omega), if_pos rfl, if_pos rfl]
                have hlt := hsz' i _ t (by simp [hi1']) hod
                have hlt' : t < a.tmps.size := Nat.lt_of_lt_of_eq hlt hs.symm
                have : (a.put ops[i].dst v).tmps.getD t undef = v := by
                  simp only [hod, Act.put, Array.getD_eq_getD_getElem?, Array.getElem?_setIfInBounds]
                  rw [if_pos trivial, if_pos hlt']
                  rfl
                rw [this]
                exact hv
              · rw [getD_set (by omega), if_neg hji]
                have hsame : (a.put ops[i].dst v).tmps.getD t undef = a.tmps.getD t undef := by
                  cases hdst : ops[i].dst with
                  | none => rfl
                  | some d =>
                    have hne : d ≠ t := by
                      rintro rfl
                      exact hji (dst_unique hnd (by simp [hi1'] : ops[i]? = some ops[i]) ho hdst hod)
                    simp only [Act.put, Array.getD_eq_getD_getElem?, Array.getElem?_setIfInBounds, if_neg hne]
                rw [hsame]
                split
                · next hb =>
                  rw [if_pos hb] at h1
                  rcases hch with hch | hch
                  · exact (Vs.getD j Vp.any).st _ _ _ hch h1
                  · refine hch.get j ?_ h1
                    simp only [Bool.or_eq_false_iff, beq_eq_false_iff_ne, ne_eq]
                    refine ⟨fun e => hji e.symm, ?_⟩
                    cases hb2 : ((aheadBits ops []).getD j 0).testBit i with
                    | false => rfl
                    | true => have := hahead j i hb2 hb; rw [hfalse] at this; cases this
                · next hb => rw [if_neg hb] at h1; exact h1
        have := hst _ hlo hhi a w' hchg hd hknown _ hput
        unfold wpOp
        rw [List.getElem?_toArray, List.getElem?_eq_getElem hi1']
        simp only
        split
        · next hwt => rw [if_pos hwt] at this; exact .inl this
        · next hwt => rw [if_neg hwt] at this; exact this
  have hz : (Ms.filter fun m => (Array.replicate ops.toArray.size false).getD m false).length = 0 := by
    rw [List.length_eq_zero_iff, List.filter_eq_nil_iff]
    intro m _
    simp only [Array.getD_eq_getD_getElem?, Array.getElem?_replicate]
    split <;> simp
  refine key _ _ a0 _ (by simp) ?_ ?_ (by rw [hz]; exact h0) rfl rfl ?_
  · intro j o ho hj
    simp [Array.getD_eq_getD_getElem?, Array.getElem?_replicate] at hj
    split at hj <;> simp at hj
  · simp
  · intro t
    cases hw : writer ops t with
    | none => rfl
    | some j =>
      have : (Array.replicate ops.toArray.size false).getD j false = false := by
        simp only [Array.getD_eq_getD_getElem?, Array.getElem?_replicate]
        split <;> rfl
      simp only [this, Bool.false_eq_true, if_false]


theorem wp_region_ms2 {id : Nat} {ops : List Oper} {a0 : Act} {w : World} (Vs : List Vp) (Ms : List Nat) (Ss : Nat → World → Prop) (hm : P.follows .mixedOrders = true) (hok : trackOk ops = true) (hms : decide Ms.Nodup && Ms.all (fun m => decide (m < ops.length)) = true)
    (hsz : (ops.filterMap (·.dst)).all (· < a0.tmps.size) = true)
    (h0 : Ss 0 w.drew) (hstep : MsAll P ops Vs Ms Ss a0 Q 0 ops)
    (hfin : ∀ (f : Nat → Value) w', Ss Ms.length w' → (∀ t, Known ops Vs a0 ops.length w' t (f t)) → Q .normal (filled f ops a0) w') :
    (Code.region id ops.toArray true).wp P Q a0 w := by
  refine wp_region_ms Vs Ms Ss hm hok hms hsz h0 hstep fun a w' hc hd hs hk => ?_
  have := hfin (fun t => a.tmps.getD t undef) w' hc hk
  rwa [filled_act hd hs hk] at this

end

end Go.Proofs.Ytclbbddpedcfjaa
