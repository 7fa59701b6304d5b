/-
  What an argument reads as: bytes, rows of bytes, records, deeds: out of the form's own reading, with its sizes.
-/
import Derived.Test.YtclbbddpedcfjaaRows
import Derived.Test.YtclbbddpedcfjaaBase2
import Derived.ProofKit
import Derived.SizedLaws
namespace Go.Proofs.Ytclbbddpedcfjaa
open Go.RowKit Go.ChangeShapes

/-- Numbers that came in, as words and bytes. -/
theorem int_u64 {a : Int} (h : (Lit.int .u64 a).wf = true) : ∃ x : UInt64, a = (x.toNat : Int) := by
  simp only [Lit.wf, IntKind.min, IntKind.max, IntKind.signed, IntKind.bits, Bool.and_eq_true, decide_eq_true_eq] at h
  refine ⟨UInt64.ofNat a.toNat, ?_⟩
  rw [UInt64.toNat_ofNat', Nat.mod_eq_of_lt (by simp at h; omega), Int.toNat_of_nonneg (by simp at h; omega)]
theorem int_u8 {a : Int} (h : (Lit.int .u8 a).wf = true) : ∃ x : UInt8, a = (x.toNat : Int) := by
  simp only [Lit.wf, IntKind.min, IntKind.max, IntKind.signed, IntKind.bits, Bool.and_eq_true, decide_eq_true_eq] at h
  refine ⟨UInt8.ofNat a.toNat, ?_⟩
  rw [UInt8.toNat_ofNat', Nat.mod_eq_of_lt (by simp at h; omega), Int.toNat_of_nonneg (by simp at h; omega)]

theorem int_u16 {a : Int} (h : (Lit.int .u16 a).wf = true) : 0 ≤ a ∧ a < 65536 := by
  simp only [Lit.wf, IntKind.min, IntKind.max, IntKind.signed, IntKind.bits, Bool.and_eq_true, decide_eq_true_eq] at h
  simp at h; omega
theorem int_i64 {a : Int} (h : (Lit.int .i64 a).wf = true) : -9223372036854775808 ≤ a ∧ a < 9223372036854775808 := by
  simp only [Lit.wf, IntKind.min, IntKind.max, IntKind.signed, IntKind.bits, Bool.and_eq_true, decide_eq_true_eq] at h
  simp at h; omega


section
variable {H : Type} {enc : TypeId × Value → H} {w : World}

/-- What a datum weighs: its bulk, and each of its slices within the form's reach. -/
def Reach (t : TypeId) (d : DataW H) : Prop := ∀ n ∈ d.weights Try.prog t, n ≤ reachBytes

/-- The reading of a slice, element by element. -/
def Opened {α : Type} (Q : α → DataW H → Prop) (d : DataW H) (xs : List α) : Prop :=
  (d = .nil ∧ xs = []) ∨ ∃ (l : List (α × DataW H)) (spare : List (DataW H)), d = .slice (l.map (·.2)) spare ∧ xs = l.map (·.1) ∧ ∀ p ∈ l, Q p.1 p.2

theorem bulk_one (d : DataW H) : 1 ≤ Rows.uptoBulk d := by
  cases d with
  | lit l => cases l <;> simp [Rows.uptoBulk]
  | nil => simp [Rows.uptoBulk]
  | ptr d => simp [Rows.uptoBulk]
  | slice elems spare => simp [Rows.uptoBulk]
  | agg parts => simp [Rows.uptoBulk]
  | iface t d => simp [Rows.uptoBulk]
  | map entries => simp [Rows.uptoBulk]
  | held h => simp [Rows.uptoBulk]

theorem Opened.bulk {α : Type} {Q : α → DataW H → Prop} {d : DataW H} {xs : List α} (h : Opened Q d xs) (cost : α → Nat) (hQ : ∀ x d', Q x d' → cost x ≤ Rows.uptoBulk d') : (xs.map cost).sum + 1 ≤ Rows.uptoBulk d := by
  rcases h with ⟨rfl, rfl⟩ | ⟨l, spare, rfl, rfl, h⟩
  · simp [Rows.uptoBulk]
  · have : ((l.map (·.1)).map cost).sum ≤ Rows.uptoBulkAll (l.map (·.2)) := by
      induction l with
      | nil => simp [Rows.uptoBulkAll]
      | cons p l ih =>
        have h1 := hQ _ _ (h p (by simp))
        have h2 := ih fun q hq => h q (by simp [hq])
        simp only [List.map_cons, List.sum_cons, Rows.uptoBulkAll]
        omega
    simp only [Rows.uptoBulk]
    omega

theorem Opened.reach {α : Type} {Q : α → DataW H → Prop} {t e : TypeId} {d : DataW H} {xs : List α} (h : Opened Q d xs) (ht : Try.prog.underlying t = some (.slice e)) (hr : Reach t d) (S : α → Prop) (hQ : ∀ x d', Q x d' → Reach e d' → S x) :
    xs.length * Try.prog.bytesOf e ≤ 140737488351232 ∧ ∀ x ∈ xs, S x := by
  rcases h with ⟨rfl, rfl⟩ | ⟨l, spare, rfl, rfl, h⟩
  · simp
  · unfold Reach at hr
    simp only [DataW.weights, ht, List.mem_cons, List.mem_append] at hr
    refine ⟨?_, ?_⟩
    · have h1 := hr _ (.inl rfl)
      have : (l.map (·.1)).length * Try.prog.bytesOf e ≤ ((l.map (·.2)).length + spare.length) * Try.prog.bytesOf e := Nat.mul_le_mul_right _ (by simp)
      simp only [reachBytes] at h1
      omega
    · have hr2 : ∀ n ∈ DataW.weightsAll Try.prog e (l.map (·.2)), n ≤ reachBytes := fun n hn => hr n (.inr (.inl hn))
      clear hr
      induction l with
      | nil => simp
      | cons p l ih =>
        simp only [List.map_cons, DataW.weightsAll, List.mem_append] at hr2
        intro x hx
        simp only [List.map_cons] at hx
        rcases List.mem_cons.1 hx with rfl | hx
        · exact hQ _ _ (h p (by simp)) fun n hn => hr2 n (.inl hn)
        · exact ih (fun q hq => h q (by simp [hq])) (fun n hn => hr2 n (.inr hn)) x hx

/-- A slice of whatever elements, opened. -/
theorem open_row {α : Type} {size fuel : Nat} {R : α → List Value → Prop} {Q : α → DataW H → Prop} {t e : TypeId} {v : Value} {y : DataW H × List MemPlace} (ht : Try.prog.underlying t = some (.slice e)) (ce : Try.prog.cellsOf e = size) (hs : 0 < size)
    (h : DataW.trod enc Try.prog w 0 (fun _ => true) true fuel t [v] = some y)
    (he : ∀ n cs z, DataW.trod enc Try.prog w 0 (fun _ => true) true n e cs = some z → ∃ x : α, R x cs ∧ Q x z.1) :
    ∃ xs : List α, Row size R (old' w) w v xs ∧ Opened Q y.1 xs := by
  rcases DataW.trod_slice ht h with ⟨hv, rfl⟩ | ⟨a, len, cap, elems, rest, n, _, hv, rfl, hb, hl, hm, hlen, hel, _, _⟩
  · obtain rfl : v = .slice none 0 0 := by simpa using hv
    exact ⟨[], Row.nil, .inl ⟨rfl, rfl⟩⟩
  · obtain rfl : v = .slice (some a) len cap := by simpa using hv
    subst hlen
    have build : ∀ m, m ≤ elems.length → ∃ l : List (α × DataW H), l.map (·.2) = (elems.take m).map (·.1) ∧ ∀ (i : Nat) (p : α × DataW H), l[i]? = some p → Q p.1 p.2 ∧ ∃ cs, w.cells? 0 (a.add (i * size)) size = some cs ∧ R p.1 cs := by
      intro m
      induction m with
      | zero => intro _; exact ⟨[], rfl, fun i x hx => by simp at hx⟩
      | succ m ih =>
        intro hm'
        obtain ⟨l, hx1, hx2⟩ := ih (by omega)
        have hlm : l.length = m := by have := congrArg List.length hx1; simpa [Nat.min_eq_left (show m ≤ elems.length by omega)] using this
        have := hel m (by omega)
        rw [ce, List.getElem?_eq_getElem (by omega)] at this
        obtain ⟨cs, h1, h2⟩ := Option.bind_eq_some_iff.1 this
        obtain ⟨x, h3, h4⟩ := he _ _ _ h2
        refine ⟨l ++ [(x, elems[m].1)], ?_, fun i p hp => ?_⟩
        · rw [List.take_succ_eq_append_getElem (by omega), List.map_append, List.map_append, hx1]; rfl
        · by_cases hi : i < m
          · rw [List.getElem?_append_left (by omega)] at hp; exact hx2 i p hp
          · obtain rfl : i = m := by have := (List.getElem?_eq_some_iff.1 hp).1; simp [hlm] at this; omega
            rw [List.getElem?_append_right (by omega)] at hp
            simp [hlm] at hp
            subst hp
            exact ⟨h4, cs, h1, h3⟩
    obtain ⟨l, hx1, hx2⟩ := build _ (Nat.le_refl _)
    rw [List.take_length] at hx1
    have hlm : l.length = elems.length := by have := congrArg List.length hx1; simpa using this
    refine ⟨l.map (·.1), ⟨some a, cap, by rw [List.length_map, hlm], by rw [List.length_map, hlm]; exact hl, hm, fun h => (Option.some_ne_none _ h).elim, fun i x hi => ?_⟩, .inr ⟨l, rest.map (·.1), by rw [hx1], rfl, fun p hp => ?_⟩⟩
    · obtain ⟨p, hp, rfl⟩ : ∃ p, l[i]? = some p ∧ p.1 = x := by simpa using hi
      obtain ⟨k3, cs, k1, k2⟩ := hx2 i p hp
      obtain ⟨k4, k5, k6⟩ := World.cells?_some k1
      have c0 := k6 0 hs
      rw [List.getElem?_eq_getElem (by omega)] at c0
      have hspot : a.spot = none := by
        have hl0 : 0 < l.length := by have := (List.getElem?_eq_some_iff.1 hp).1; omega
        obtain ⟨_, cs0, q1, _⟩ := hx2 0 l[0] (by simp [hl0])
        obtain ⟨_, q5, q6⟩ := World.cells?_some q1
        have q0 := q6 0 hs
        rw [List.getElem?_eq_getElem (by omega)] at q0
        simp only [Nat.zero_mul, Addr.add, if_true] at q0
        unfold World.cell? at q0
        cases hsp : a.spot with
        | none => rfl
        | some s0 => rw [hsp] at q0; simp at q0; split at q0 <;> simp at q0
      obtain ⟨b, o, sp⟩ := a
      simp only at hspot
      subst hspot
      have hblk := World.block_lt_of_cell? w _ c0
      simp only [Addr.add_lit, Nat.add_zero] at hblk
      refine ⟨b, o, cs, rfl, hblk, hblk, k5, k2, fun j u hj => ?_⟩
      have hj' : j < size := by have := (List.getElem?_eq_some_iff.1 hj).1; omega
      have := k6 j hj'
      rw [Addr.add_lit, Addr.add_lit, hj] at this
      exact this
    · obtain ⟨i, hi⟩ := List.mem_iff_getElem?.1 hp
      exact (hx2 i p hi).1

/-- What is known of the size of bytes that came in. -/
def BOf (bs : List UInt8) (d : DataW H) : Prop := bs.length + 1 ≤ Rows.uptoBulk d ∧ (Reach 23 d → bs.length ≤ 140737488351232)
def RsOf (bss : List (List UInt8)) (d : DataW H) : Prop := (bss.map fun b => b.length + 1).sum + 1 ≤ Rows.uptoBulk d ∧ (Reach 22 d → bss.length * 24 ≤ 140737488351232 ∧ ∀ b ∈ bss, b.length ≤ 140737488351232)

theorem sum_ones {α : Type} (l : List α) : (l.map fun _ => 1).sum = l.length := by
  induction l with
  | nil => rfl
  | cons x l ih => simp only [List.map_cons, List.sum_cons, List.length_cons, ih]; omega

theorem cells_u8 : Try.prog.cellsOf 5 = 1 := by kernel_rfl
theorem cells_bytes : Try.prog.cellsOf 23 = 1 := by kernel_rfl
theorem bytes_u8 : Try.prog.bytesOf 5 = 1 := by kernel_rfl
theorem bytes_bytes : Try.prog.bytesOf 23 = 24 := by kernel_rfl

theorem open_byte {fuel : Nat} {cs : List Value} {y : DataW H × List MemPlace} (h : DataW.trod enc Try.prog w 0 (fun _ => true) true fuel 5 cs = some y) : ∃ x : UInt8, IsB x cs := by
  obtain ⟨n, rfl, _, wf⟩ := DataW.trod_int Try.underlying5 h
  simp only [Lit.wf, IntKind.min, IntKind.max, IntKind.signed, IntKind.bits, Bool.and_eq_true, decide_eq_true_eq] at wf
  refine ⟨UInt8.ofNat n.toNat, ?_⟩
  unfold IsB vb
  rw [UInt8.toNat_ofNat', Nat.mod_eq_of_lt (by simp at wf; omega), Int.toNat_of_nonneg (by simp at wf; omega)]

theorem open_bytes {fuel : Nat} {v : Value} {y : DataW H × List MemPlace} (h : DataW.trod enc Try.prog w 0 (fun _ => true) true fuel 23 [v] = some y) :
    ∃ bs : List UInt8, Bytes (old' w) w v bs ∧ BOf bs y.1 := by
  obtain ⟨bs, h1, h2⟩ := open_row (α := UInt8) (R := IsB) (Q := fun _ _ => True) Try.underlying23 cells_u8 (by decide) h (fun n cs z hz => let ⟨x, hx⟩ := open_byte hz; ⟨x, hx, trivial⟩)
  refine ⟨bs, h1, ?_, fun hr => ?_⟩
  · have := h2.bulk (fun _ => 1) (fun x d _ => bulk_one d)
    rwa [sum_ones] at this
  · have := (h2.reach Try.underlying23 hr (fun _ => True) (fun _ _ _ _ => trivial)).1
    rwa [bytes_u8, Nat.mul_one] at this

theorem open_rows {fuel : Nat} {v : Value} {y : DataW H × List MemPlace} (h : DataW.trod enc Try.prog w 0 (fun _ => true) true fuel 22 [v] = some y) :
    ∃ bss : List (List UInt8), Rows (old' w) w v bss ∧ RsOf bss y.1 := by
  obtain ⟨bss, h1, h2⟩ := open_row (α := List UInt8) (R := IsBs (old' w) w) (Q := BOf) Try.underlying22 cells_bytes (by decide) h (fun n cs z hz => by
    rcases DataW.trod_slice Try.underlying23 hz with ⟨rfl, _⟩ | ⟨_, _, _, _, _, _, _, rfl, _⟩
    · obtain ⟨bs, k1, k2⟩ := open_bytes hz; exact ⟨bs, ⟨_, rfl, k1⟩, k2⟩
    · obtain ⟨bs, k1, k2⟩ := open_bytes hz; exact ⟨bs, ⟨_, rfl, k1⟩, k2⟩)
  refine ⟨bss, h1, h2.bulk _ (fun x d hq => hq.1), fun hr => ?_⟩
  have := h2.reach Try.underlying22 hr (fun b => b.length ≤ 140737488351232) (fun x d hq hr' => hq.2 hr')
  rwa [bytes_bytes] at this

/-- From the form's own premise to one argument's reach. -/
theorem reach_of {ts : List TypeId} {ds : List (DataW H)} {j : Nat} {t : TypeId} {d : DataW H} (h : (DataW.weightsEach Try.prog ts ds).all (· ≤ reachBytes) = true) (ht : ts[j]? = some t) (hd : ds[j]? = some d) : Reach t d := fun n hn => by
  simpa using List.all_eq_true.1 h _ (DataW.weights_mem_each ht hd n hn)

end
end Go.Proofs.Ytclbbddpedcfjaa
