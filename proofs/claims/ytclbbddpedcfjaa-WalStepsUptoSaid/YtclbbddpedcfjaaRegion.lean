/-
  A region that draws its order, walked once for every order: what each operation yields is told by a predicate that later changes do not break.
-/
import Derived.Test.YtclbbddpedcfjaaBytes
import Derived.Orders
import Derived.NoCompiler
namespace Go.Proofs.Ytclbbddpedcfjaa
open Go.RowKit

/-- What is told of a value: it holds in every later world. -/
structure Vp where
  p : World → Value → Prop
  st : ∀ (w w' : World) (v : Value), Chg none' w w' → p w v → p w' v
/-- It is this value. -/
def Vp.k (x : Value) : Vp := ⟨fun _ v => v = x, fun _ _ _ _ h => h⟩
def Vp.any : Vp := ⟨fun _ _ => True, fun _ _ _ _ _ => trivial⟩

/-- The slots that an operation reads. -/
def readsOf (ops : List Oper) (o : Oper) : List Tmp :=
  (o.op.operands.toList.filterMap fun | .tmp t => some t | _ => none) ++ (match o.guard with | some (g, _) => ((ops[g]?).bind (·.dst)).toList | none => [])

/-- Who writes a slot. -/
def writer (ops : List Oper) (t : Tmp) : Option Nat := ops.findIdx? (fun o => o.dst == some t)

/-- Who stands ahead of whom, as bits. -/
def aheadBits : List Oper → List Nat → List Nat
  | [], acc => acc
  | o :: r, acc => aheadBits r (acc ++ [o.after.toList.foldl (fun s e => if Region.binds .any e then s ||| 2 ^ e.on ||| acc.getD e.on 0 else s) 0])

/-- Each slot is written once, and whoever reads it stands ahead of that, or behind it. -/
def trackOk (ops : List Oper) : Bool :=
  let m := aheadBits ops []
  decide ((ops.filterMap (·.dst)).Nodup) &&
  ops.zipIdx.all fun (o, i) =>
    o.after.toList.all (fun e => !Region.binds .any e || e.on < i) &&
    (readsOf ops o).all fun t => match writer ops t with
      | some j => if j < i then (m.getD i 0).testBit j else (i == j || (m.getD j 0).testBit i)
      | none => true

def Closed (ops : List Oper) (L : Array Bool) : Prop := ∀ (j : Nat) (o : Oper), ops[j]? = some o → L.getD j false = true → ∀ e ∈ o.after.toList, Region.binds .any e = true → L.getD e.on false = true

theorem foldl_bits {P : Nat → Prop} (m : List Nat) (hm : ∀ k b, (m.getD k 0).testBit b = true → P k → P b) : ∀ (es : List Edge) (s : Nat), (∀ e ∈ es, Region.binds .any e = true → P e.on) → (∀ b, s.testBit b = true → P b) →
    ∀ b, (es.foldl (fun s e => if Region.binds .any e then s ||| 2 ^ e.on ||| m.getD e.on 0 else s) s).testBit b = true → P b
  | [], s, _, hs, b, hb => hs b hb
  | e :: es, s, he, hs, b, hb => by
    rw [List.foldl_cons] at hb
    refine foldl_bits m hm es _ (fun e' h' => he e' (List.mem_cons_of_mem _ h')) ?_ b hb
    intro b' hb'
    split at hb'
    · next hbind =>
      have hP := he e (List.mem_cons_self ..) hbind
      rw [Nat.testBit_or, Nat.testBit_or, Bool.or_eq_true, Bool.or_eq_true] at hb'
      rcases hb' with (h | h) | h
      · exact hs b' h
      · rw [Nat.testBit_two_pow] at h
        have : e.on = b' := by simpa using h
        rwa [← this]
      · exact hm _ _ h hP
    · exact hs b' hb'

theorem ahead_spec {all : List Oper} {L : Array Bool} (hc : Closed all L) : ∀ (r : List Oper) (acc : List Nat), (∃ pre, all = pre ++ r ∧ pre.length = acc.length) →
    (∀ k b, (acc.getD k 0).testBit b = true → L.getD k false = true → L.getD b false = true) →
    ∀ k b, ((aheadBits r acc).getD k 0).testBit b = true → L.getD k false = true → L.getD b false = true
  | [], acc, _, h => h
  | o :: r, acc, ⟨pre, hpre, hlen⟩, h => by
    refine ahead_spec hc r _ ⟨pre ++ [o], by simp [hpre], by simp [hlen]⟩ ?_
    intro k b hb hk
    by_cases hlt : k < acc.length
    · rw [List.getD_eq_getElem?_getD, List.getElem?_append_left hlt, ← List.getD_eq_getElem?_getD] at hb
      exact h k b hb hk
    · by_cases he : k = acc.length
      · subst he
        rw [List.getD_eq_getElem?_getD, List.getElem?_append_right (Nat.le_refl _)] at hb
        simp only [Nat.sub_self, List.getElem?_cons_zero, Option.getD_some] at hb
        have ho : all[acc.length]? = some o := by rw [hpre, ← hlen, List.getElem?_append_right (Nat.le_refl _)]; simp
        exact foldl_bits (P := fun b => L.getD b false = true) acc h _ _ (fun e he hb' => hc _ o ho hk e he hb') (fun b hb => by simp at hb) b hb
      · rw [List.getD_eq_getElem?_getD, List.getElem?_eq_none (by simp; omega)] at hb
        simp at hb

section
variable {P : Program} {Q : Exit → Act → World → Prop}

/-- What is known of the slot t when operation i runs. -/
def Known (ops : List Oper) (Vs : List Vp) (a0 : Act) (i : Nat) (w : World) (t : Tmp) (v : Value) : Prop :=
  match writer ops t with
  | some j => if j < i then (Vs.getD j Vp.any).p w v else v = a0.tmps.getD t undef
  | none => v = a0.tmps.getD t undef

/-- One operation, in whatever order. -/
def TrackStep (P : Program) (ops : List Oper) (Vs : List Vp) (a0 : Act) (w0 : World) (Q : Exit → Act → World → Prop) (i : Nat) (o : Oper) : Prop :=
  ∀ a w, Chg none' w0 w → a.defers = a0.defers → (∀ t ∈ readsOf ops o, Known ops Vs a0 i w t (a.tmps.getD t undef)) →
    ∀ K : Act → World → Prop, (∀ v w', Chg none' w w' → (Vs.getD i Vp.any).p w' v → K (a.put o.dst v) w') →
    if Region.wanted o (yielded ops.toArray a.tmps) = true then o.wp P a w K Q else K (a.put o.dst undef) w

def TrackAll (P : Program) (ops : List Oper) (Vs : List Vp) (a0 : Act) (w0 : World) (Q : Exit → Act → World → Prop) : Nat → List Oper → Prop
  | _, [] => True
  | i, o :: r => TrackStep P ops Vs a0 w0 Q i o ∧ TrackAll P ops Vs a0 w0 Q (i + 1) r

theorem TrackAll.get {ops : List Oper} {Vs : List Vp} {a0 : Act} {w0 : World} : ∀ {r : List Oper} {i : Nat}, TrackAll P ops Vs a0 w0 Q i r → ∀ j o, r[j]? = some o → TrackStep P ops Vs a0 w0 Q (i + j) o
  | [], _, _, j, o, h => by simp at h
  | x :: r, i, ⟨h1, h2⟩, 0, o, h => by simp at h; subst h; exact h1
  | x :: r, i, ⟨h1, h2⟩, j + 1, o, h => by
    have := TrackAll.get h2 j o (by simpa using h)
    rwa [show i + 1 + j = i + (j + 1) by omega] at this

theorem writer_some {ops : List Oper} {t j : Nat} (h : writer ops t = some j) : ∃ o, ops[j]? = some o ∧ o.dst = some t := by
  unfold writer at h
  rw [List.findIdx?_eq_some_iff_getElem] at h
  obtain ⟨h1, h2, _⟩ := h
  exact ⟨ops[j], by simp [h1], by simpa using h2⟩
theorem writer_none {ops : List Oper} {t : Nat} (h : writer ops t = none) : ∀ o ∈ ops, o.dst ≠ some t := by
  unfold writer at h
  rw [List.findIdx?_eq_none_iff] at h
  intro o ho e
  have := h o ho
  simp [e] at this

theorem dst_unique {ops : List Oper} (h : (ops.filterMap (·.dst)).Nodup) {i j : Nat} {o o' : Oper} {d : Tmp} (hi : ops[i]? = some o) (hj : ops[j]? = some o') (hd : o.dst = some d) (hd' : o'.dst = some d) : i = j := by
  induction ops generalizing i j with
  | nil => simp at hi
  | cons x r ih =>
    have hr : (r.filterMap (·.dst)).Nodup := by
      cases hx : x.dst with
      | none => simpa [List.filterMap_cons, hx] using h
      | some y => simp [List.filterMap_cons, hx] at h; exact h.2
    cases i with
    | zero =>
      cases j with
      | zero => rfl
      | succ j =>
        simp at hi hj
        subst hi
        simp [List.filterMap_cons, hd] at h
        exact absurd hd' (h.1 o' (List.mem_of_getElem? hj))
    | succ i =>
      cases j with
      | zero =>
        simp at hi hj
        subst hj
        simp [List.filterMap_cons, hd'] at h
        exact absurd hd (h.1 o (List.mem_of_getElem? hi))
      | succ j => exact congrArg (· + 1) (ih hr (by simpa using hi) (by simpa using hj))

theorem wanted_yes {ops : Array Oper} {o : Oper} {a : Act} {j d : Nat} {b : Bool} (hg : o.guard = some (j, b)) (hj : (ops[j]?).bind (·.dst) = some d) (hv : a.tmps.getD d undef = .bool b) :
    Region.wanted o (yielded ops a.tmps) = true := by
  have hx : a.tmps[d]? = some (.bool b) := by
    rw [Array.getD_eq_getD_getElem?] at hv
    cases h : a.tmps[d]? with
    | none => rw [h] at hv; simp [undef] at hv
    | some x => rw [h] at hv; exact congrArg some hv
  have hy : yielded ops a.tmps j = some b := by
    unfold yielded
    rw [hj]
    simp only [Option.bind_some, hx]
  unfold Region.wanted
  rw [hg]
  simp [hy]

theorem Known.of {ops : List Oper} {Vs : List Vp} {a0 : Act} {i j t : Nat} {w : World} {v : Value} (h : Known ops Vs a0 i w t v) (hw : writer ops t = some j) (hj : j < i) : (Vs.getD j Vp.any).p w v := by
  unfold Known at h
  rw [hw] at h
  simp only at h
  rwa [if_pos hj] at h
theorem Known.init {ops : List Oper} {Vs : List Vp} {a0 : Act} {i t : Nat} {w : World} {v : Value} (h : Known ops Vs a0 i w t v) (hw : (match writer ops t with | some j => decide (i ≤ j) | none => true) = true) : v = a0.tmps.getD t undef := by
  unfold Known at h
  cases hx : writer ops t with
  | none => rw [hx] at h; exact h
  | some j =>
    rw [hx] at h hw
    simp only [decide_eq_true_eq] at h hw
    rwa [if_neg (by omega)] at h

theorem track_run {c : Bool} {A B : Prop} (hc : c = true) (h : A) : if c = true then A else B := by rw [if_pos hc]; exact h

theorem enters_fn {f : FuncId} {fn : Func} (hf : P.funcs[f]? = some fn) (hname : (fn.name == "runtime.NumGoroutine") = false) (hb : fn.body.isSome = true) (args : Array Value) (w : World) : (callFunc f args).run P w = .ok (.enter f args) w := by
  have h1 : fn.name ≠ "runtime.NumGoroutine" := by simpa using hname
  obtain ⟨c, hc⟩ := Option.isSome_iff_exists.1 hb
  simp [callFunc, hf, h1, hc]
/-- A call of a Go function by its contract. -/
theorem wp_call {o : Oper} {a : Act} {w : World} {K : Act → World → Prop} {f : FuncId} {fn : Func} {xs : Array Operand} {ts : Array TypeId} (args : Array Value) (hf : P.funcs[f]? = some fn) (hname : (fn.name == "runtime.NumGoroutine") = false) (hb : fn.body.isSome = true)
    (ho : o.op = .call { callee := .value (.func f), args := xs, argTypes := ts }) (hargs : xs.map a.eval = args) (h : Calls P f args w fun e w' => ∃ v, e = .returned v ∧ K (a.put o.dst v) w') : o.wp P a w K Q := by
  have he := enters_fn hf hname hb args w
  have hrun : (execOp a.eval o).run P w = .ok (.enter f args) w := by
    unfold execOp
    simp [ho, resolve, Deferred.ofValue, invoke, Act.eval, hargs, he]
  unfold Oper.wp
  rw [hrun, Oper.upon_enter]
  refine h.mono fun e w'' hh => ?_
  obtain ⟨v, rfl, hk⟩ := hh
  exact hk
theorem map_one (a : Act) (s : Nat) : (#[Operand.tmp s] : Array Operand).map a.eval = #[a.tmps.getD s undef] := by simp [Act.eval]
theorem map_two (a : Act) (s t : Nat) : (#[Operand.tmp s, Operand.tmp t] : Array Operand).map a.eval = #[a.tmps.getD s undef, a.tmps.getD t undef] := by simp [Act.eval]
theorem map_none (a : Act) : (#[] : Array Operand).map a.eval = #[] := by simp
/-- An operation whose run is known. -/
theorem wp_val {o : Oper} {a : Act} {w w1 : World} {v : Value} {K : Act → World → Prop} (hrun : (execOp a.eval o).run P w = .ok (.value v) w1) (h : K (a.put o.dst v) w1) : o.wp P a w K Q := by
  unfold Oper.wp
  rw [hrun]
  exact h

theorem count_set {l : List Bool} {i : Nat} (h : l[i]? = some false) : (l.set i true).count false + 1 = l.count false := by
  induction l generalizing i with
  | nil => simp at h
  | cons x r ih =>
    cases i with
    | zero => simp at h; subst h; simp
    | succ i =>
      have := ih (i := i) (by simpa using h)
      simp only [List.set_cons_succ, List.count_cons]
      omega

theorem getD_set {l : Array Bool} {i j : Nat} (hi : i < l.size) : (l.setIfInBounds i true).getD j false = if i = j then true else l.getD j false := by
  simp only [Array.getD_eq_getD_getElem?, Array.getElem?_setIfInBounds]
  split
  · next h => subst h; simp [hi]
  · rfl

/-- THE REGION, in whatever order. -/
theorem wp_region_track {id : Nat} {ops : List Oper} {a0 : Act} {w : World} (Vs : List Vp) (hm : P.follows .mixedOrders = true) (hok : trackOk ops = true)
    (hsz : (ops.filterMap (·.dst)).all (· < a0.tmps.size) = true)
    (hstep : TrackAll P ops Vs a0 w.drew Q 0 ops)
    (hfin : ∀ a w', Chg none' w.drew w' → a.defers = a0.defers → a.tmps.size = a0.tmps.size → (∀ t, Known ops Vs a0 ops.length w' t (a.tmps.getD t undef)) → Q .normal a w') :
    (Code.region id ops.toArray true).wp P Q a0 w := by
  obtain ⟨hnd, hall⟩ : (ops.filterMap (·.dst)).Nodup ∧ ∀ (i : Nat) (o : Oper), ops[i]? = some o → (∀ e ∈ o.after.toList, Region.binds .any e = true → e.on < i) ∧
      ∀ t ∈ readsOf ops o, ∀ j, writer ops t = some j → (j < i → ((aheadBits ops []).getD i 0).testBit j = true) ∧ (i < j → ((aheadBits ops []).getD j 0).testBit i = true) := by
    unfold trackOk at hok
    simp only [Bool.and_eq_true, decide_eq_true_eq, List.all_eq_true] at hok
    refine ⟨hok.1, fun i o ho => ?_⟩
    have := hok.2 (o, i) (by rw [List.mem_iff_getElem?]; exact ⟨i, by simp [ho]⟩)
    simp only [Bool.and_eq_true, List.all_eq_true, Bool.or_eq_true, Bool.not_eq_true', decide_eq_true_eq] at this
    refine ⟨fun e he hb => ?_, fun t ht j hj => ?_⟩
    · rcases this.1 e he with h | h
      · rw [h] at hb; cases hb
      · exact h
    · have h := this.2 t ht
      rw [hj] at h
      simp only at h
      refine ⟨fun hlt => by rwa [if_pos hlt] at h, fun hlt => ?_⟩
      rw [if_neg (by omega), Bool.or_eq_true] at h
      rcases h with h | h
      · have : i = j := by simpa using h
        omega
      · exact h
  have hsz' : ∀ (i : Nat) (o : Oper) (d : Tmp), ops[i]? = some o → o.dst = some d → d < a0.tmps.size := fun i o d ho hd => by
    simpa using List.all_eq_true.1 hsz d (List.mem_filterMap.2 ⟨o, List.mem_of_getElem? ho, hd⟩)
  refine wp_region_any hm ?_
  have key : ∀ (fuel : Nat) (L : Array Bool) (a : Act) (w' : World), L.size = ops.length → Closed ops L → L.toList.count false ≤ fuel → Chg none' w.drew w' → a.defers = a0.defers → a.tmps.size = a0.tmps.size →
      (∀ t, match writer ops t with | some j => if L.getD j false = true then (Vs.getD j Vp.any).p w' (a.tmps.getD t undef) else a.tmps.getD t undef = a0.tmps.getD t undef | none => a.tmps.getD t undef = a0.tmps.getD t undef) →
      wpAny P .any ops.toArray Q fuel L a w' := by
    intro fuel
    induction fuel with
    | zero =>
      intro L a w' hL hc hcount hchg hd hs ht
      have hall' : ∀ j, j < ops.length → L.getD j false = true := by
        intro j hj
        cases hb : L.getD j false with
        | true => rfl
        | false =>
          exfalso
          have : false ∈ L.toList := by
            rw [Array.getD_eq_getD_getElem?, Array.getElem?_eq_getElem (by omega)] at hb
            simp at hb
            rw [← hb]; simp
          have := List.count_pos_iff.2 this
          omega
      refine ⟨?_, hfin a w' hchg hd hs fun t => ?_⟩
      · unfold Region.ready
        rw [List.filter_eq_nil_iff]
        intro i hi
        have := hall' i (by simpa using hi)
        rw [Array.getD_eq_getD_getElem?, Array.getElem?_eq_getElem (by simp at hi; omega)] at this
        rw [Array.getD_eq_getD_getElem?, Array.getElem?_eq_getElem (by simp at hi; omega)]
        simp at this
        simp [this]
      · have := ht t
        unfold Known
        cases hw : writer ops t with
        | none => rw [hw] at this; exact this
        | some j =>
          rw [hw] at this
          obtain ⟨o, ho, _⟩ := writer_some hw
          have hj := (List.getElem?_eq_some_iff.1 ho).1
          simp only at this ⊢
          rw [if_pos hj]
          rwa [if_pos (hall' j hj)] at this
    | succ fuel ih =>
      intro L a w' hL hc hcount hchg hd hs ht
      refine ⟨fun hr => ?_, fun i hi => ?_⟩
      · have hall' : ∀ j, j < ops.length → L.getD j false = true := by
          intro j
          induction j using Nat.strongRecOn with
          | _ j ihj =>
            intro hj
            cases hb : L.getD j false with
            | true => rfl
            | false =>
              exfalso
              have : j ∈ Region.ready .any ops.toArray L := by
                unfold Region.ready
                rw [List.mem_filter]
                refine ⟨by simpa using hj, ?_⟩
                have hb' : L.getD j true = false := by
                  rw [Array.getD_eq_getD_getElem?, Array.getElem?_eq_getElem (by omega)] at hb ⊢
                  simpa using hb
                rw [hb']
                simp only [Bool.not_false, Bool.true_and, List.getElem?_toArray, List.getElem?_eq_getElem hj, Option.map_some, Option.getD_some]
                rw [Array.all_eq_true']
                intro e he
                cases hbd : Region.binds .any e with
                | false => rfl
                | true =>
                  have hlt := (hall j ops[j] (by simp [hj])).1 e (by simpa using he) hbd
                  rw [ihj e.on hlt (by omega)]
                  rfl
              rw [hr] at this
              cases this
        refine hfin a w' hchg hd hs fun t => ?_
        have := ht t
        unfold Known
        cases hw : writer ops t with
        | none => rw [hw] at this; exact this
        | some j =>
          rw [hw] at this
          obtain ⟨o, ho, _⟩ := writer_some hw
          have hj := (List.getElem?_eq_some_iff.1 ho).1
          simp only at this ⊢
          rw [if_pos hj]
          rwa [if_pos (hall' j hj)] at this
      · unfold Region.ready at hi
        rw [List.mem_filter] at hi
        obtain ⟨hi1, hi2⟩ := hi
        have hi1' : i < ops.length := by simpa using hi1
        simp only [List.getElem?_toArray, List.getElem?_eq_getElem hi1', Option.map_some, Option.getD_some, Bool.and_eq_true, Bool.not_eq_true'] at hi2
        obtain ⟨hi2, hi3⟩ := hi2
        rw [Array.all_eq_true'] at hi3
        have hLi : L[i]? = some false := by
          rw [Array.getD_eq_getD_getElem?, Array.getElem?_eq_getElem (by omega)] at hi2
          rw [Array.getElem?_eq_getElem (by omega)]
          simpa using hi2
        have hfalse : L.getD i false = false := by rw [Array.getD_eq_getD_getElem?, hLi]; rfl
        have hpre : ∀ e ∈ ops[i].after.toList, Region.binds .any e = true → L.getD e.on false = true := by
          intro e he hb
          have := hi3 e (by simpa using he)
          rw [hb] at this
          simpa using this
        have hahead : ∀ k b, ((aheadBits ops []).getD k 0).testBit b = true → L.getD k false = true → L.getD b false = true := ahead_spec hc ops [] ⟨[], rfl, rfl⟩ (fun k b hb => by simp at hb)
        have hc' : Closed ops (L.setIfInBounds i true) := by
          intro j o ho hj e he hb
          rw [getD_set (by omega)] at hj ⊢
          split
          · rfl
          · split at hj
            · next h => subst h; rw [List.getElem?_eq_getElem hi1'] at ho; obtain rfl := Option.some.inj ho; exact hpre e he hb
            · exact hc j o ho hj e he hb
        have hahead' : ∀ k b, ((aheadBits ops []).getD k 0).testBit b = true → (L.setIfInBounds i true).getD k false = true → (L.setIfInBounds i true).getD b false = true := ahead_spec hc' ops [] ⟨[], rfl, rfl⟩ (fun k b hb => by simp at hb)
        have hknown : ∀ t ∈ readsOf ops ops[i], Known ops Vs a0 i w' t (a.tmps.getD t undef) := by
          intro t htr
          have h1 := ht t
          unfold Known
          cases hw : writer ops t with
          | none => rw [hw] at h1; exact h1
          | some j =>
            rw [hw] at h1
            simp only at h1 ⊢
            obtain ⟨q1, q2⟩ := (hall i ops[i] (by simp [hi1'])).2 t htr j hw
            by_cases hji : j < i
            · rw [if_pos hji]
              have := hahead' i j (q1 hji) (by rw [getD_set (by omega)]; simp)
              rw [getD_set (by omega), if_neg (by omega)] at this
              rwa [if_pos this] at h1
            · rw [if_neg hji]
              have hLj : L.getD j false = false := by
                by_cases he : j = i
                · subst he; exact hfalse
                · cases hb : L.getD j false with
                  | false => rfl
                  | true =>
                    have := hahead j i (q2 (by omega)) hb
                    rw [hfalse] at this
                    cases this
              rw [hLj] at h1
              simpa using h1
        have hst := TrackAll.get hstep i ops[i] (by simp [hi1'])
        rw [Nat.zero_add] at hst
        have hput : ∀ v w'', Chg none' w' w'' → (Vs.getD i Vp.any).p w'' v → wpAny P .any ops.toArray Q fuel (L.setIfInBounds i true) (a.put ops[i].dst v) w'' := by
          intro v w'' hch hv
          refine ih _ _ _ (by simpa using hL) hc' ?_ (hchg.trans hch) ?_ ?_ ?_
          · have := count_set (l := L.toList) (i := i) (by simpa using hLi)
            rw [Array.toList_setIfInBounds]
            omega
          · cases hdst : ops[i].dst <;> exact hd
          · cases hdst : ops[i].dst with
            | none => exact hs
            | some d => simp only [Act.put, Array.size_setIfInBounds]; exact hs
          · intro t
            have h1 := ht t
            cases hw : writer ops t with
            | none =>
              rw [hw] at h1
              simp only at h1 ⊢
              have := writer_none hw ops[i] (by simp)
              cases hdst : ops[i].dst with
              | none => exact h1
              | some d =>
                rw [hdst] at this
                have hne : d ≠ t := fun e => this (by rw [e])
                simp only [Act.put, Array.getD_eq_getD_getElem?, Array.getElem?_setIfInBounds, if_neg hne]
                simpa [Array.getD_eq_getD_getElem?] using h1
            | some j =>
              rw [hw] at h1
              simp only at h1 ⊢
              obtain ⟨o, ho, hod⟩ := writer_some hw
              by_cases hji : i = j
              · subst hji
                rw [List.getElem?_eq_getElem hi1'] at ho
                obtain rfl := Option.some.inj ho
                rw [getD_set (by omega), if_pos rfl, if_pos rfl]
                have hlt := hsz' i _ t (by simp [hi1']) hod
                have hlt' : t < a.tmps.size := Nat.lt_of_lt_of_eq hlt hs.symm
                have : (a.put ops[i].dst v).tmps.getD t undef = v := by
                  simp only [hod, Act.put, Array.getD_eq_getD_getElem?, Array.getElem?_setIfInBounds]
                  rw [if_pos trivial, if_pos hlt']
                  rfl
                rw [this]
                exact hv
              · rw [getD_set (by omega), if_neg hji]
                have hsame : (a.put ops[i].dst v).tmps.getD t undef = a.tmps.getD t undef := by
                  cases hdst : ops[i].dst with
                  | none => rfl
                  | some d =>
                    have hne : d ≠ t := by
                      rintro rfl
                      exact hji (dst_unique hnd (by simp [hi1'] : ops[i]? = some ops[i]) ho hdst hod)
                    simp only [Act.put, Array.getD_eq_getD_getElem?, Array.getElem?_setIfInBounds, if_neg hne]
                rw [hsame]
                split
                · next hb => rw [if_pos hb] at h1; exact (Vs.getD j Vp.any).st _ _ _ hch h1
                · next hb => rw [if_neg hb] at h1; exact h1
        have := hst a w' hchg hd hknown _ hput
        unfold wpOp
        rw [List.getElem?_toArray, List.getElem?_eq_getElem hi1']
        simp only
        split
        · next hwt => rw [if_pos hwt] at this; exact .inl this
        · next hwt => rw [if_neg hwt] at this; exact this
  refine key _ _ a0 _ (by simp) ?_ ?_ (Chg.refl _ _) rfl rfl ?_
  · intro j o ho hj
    simp [Array.getD_eq_getD_getElem?, Array.getElem?_replicate] at hj
    split at hj <;> simp at hj
  · simp
  · intro t
    cases hw : writer ops t with
    | none => rfl
    | some j =>
      have : (Array.replicate ops.toArray.size false).getD j false = false := by
        simp only [Array.getD_eq_getD_getElem?, Array.getElem?_replicate]
        split <;> rfl
      simp only [this, Bool.false_eq_true, if_false]

end

/-! ### Parts of bytes, at an operation -/
section
variable {Q : Exit → Act → World → Prop} {F : Nat → Prop} {w : World} {v : Value} {bs : List UInt8} {o : Oper} {a : Act} {K : Act → World → Prop}
theorem Bytes.wp_hi (h : Bytes F w v bs) {x y : Operand} {j : Nat} (ho : o.op = .slice 23 x none (some y) none) (hx : a.eval x = v) (hy : a.eval y = .int .i64 j) (hj : j ≤ bs.length)
    (hK : ∀ v', Bytes F w v' (bs.take j) → K (a.put o.dst v') w) : o.wp Try.prog a w K Q := by
  obtain ⟨v', h1, h2⟩ := h.op_hi ho hx hy hj
  exact wp_val h1 (hK v' h2)
theorem Bytes.wp_lo (h : Bytes F w v bs) {x y : Operand} {j : Nat} (ho : o.op = .slice 23 x (some y) none none) (hx : a.eval x = v) (hy : a.eval y = .int .i64 j) (hj : j ≤ bs.length)
    (hK : ∀ v', Bytes F w v' (bs.drop j) → K (a.put o.dst v') w) : o.wp Try.prog a w K Q := by
  obtain ⟨v', h1, h2⟩ := h.op_lo ho hx hy hj
  exact wp_val h1 (hK v' h2)
theorem Bytes.wp_mid (h : Bytes F w v bs) {x y z : Operand} {j k : Nat} (ho : o.op = .slice 23 x (some y) (some z) none) (hx : a.eval x = v) (hy : a.eval y = .int .i64 j) (hz : a.eval z = .int .i64 k) (hjk : j ≤ k) (hk : k ≤ bs.length)
    (hK : ∀ v', Bytes F w v' ((bs.take k).drop j) → K (a.put o.dst v') w) : o.wp Try.prog a w K Q := by
  obtain ⟨v', h1, h2⟩ := h.op_mid ho hx hy hz hjk hk
  exact wp_val h1 (hK v' h2)
end

end Go.Proofs.Ytclbbddpedcfjaa
