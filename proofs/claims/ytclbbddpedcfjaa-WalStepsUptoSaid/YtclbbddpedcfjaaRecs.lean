/-
  Rows of records: what came in, and the call's own.
-/
import Derived.Test.YtclbbddpedcfjaaBase2
import Derived.Test.YtclbbddpedcfjaaFrames
namespace Go.Proofs.Ytclbbddpedcfjaa
open Go.RowKit

def IsRec (F : Nat → Prop) (w : World) (r : Rec) (cs : List Value) : Prop := ∃ u, cs = [vb r.kind, u] ∧ Bytes F w u r.b
/-- A slice that reads as records. -/
def Recs (F : Nat → Prop) (w : World) (v : Value) (rs : List Rec) : Prop := Row 2 (IsRec F w) F w v rs

section
variable {F S : Nat → Prop} {w w' : World} {v : Value} {rs : List Rec}
theorem Recs.kept (h : Recs F w v rs) (hc : Chg S w w') (hd : ∀ b, F b → ¬ S b) : Recs F w' v rs :=
  Row.kept h hc hd fun _ _ _ ⟨u, e, hb⟩ => ⟨u, e, hb.kept hc hd⟩
theorem Recs.mono {G : Nat → Prop} (h : Recs F w v rs) (hF : ∀ b, b < w.heap.size → F b → G b) : Recs G w v rs := by
  obtain ⟨A, c, rfl, h1, h2, h3, h4⟩ := h
  refine ⟨A, c, rfl, h1, h2, h3, fun i x hi => ?_⟩
  obtain ⟨b, o, cs, hA, hf, hb, hl, ⟨u, e, hu⟩, r⟩ := h4 i x hi
  exact ⟨b, o, cs, hA, hF b hb hf, hb, hl, ⟨u, e, Row.mono hu hF⟩, r⟩
theorem Recs.all (h : Recs F w v rs) : Recs all' w v rs := h.mono fun _ _ _ => trivial
theorem Recs.old (h : Recs F w v rs) : Recs (old' w) w v rs := h.mono fun _ hb _ => hb
theorem Recs.shape (h : Recs F w v rs) : ∃ A c, v = .slice A rs.length c ∧ rs.length ≤ c ∧ c ≤ maxLen := let ⟨A, c, e, h1, h2, _⟩ := h; ⟨A, c, e, h1, h2⟩
theorem Recs.at_ (h : Recs F w v rs) {i : Nat} (hi : i < rs.length) :
    ∃ b o c u, v = .slice (some ⟨b, o, none⟩) rs.length c ∧ F b ∧ w.cell? ⟨b, o + i * 2, none⟩ = some (vb rs[i].kind) ∧ w.cell? ⟨b, o + i * 2 + 1, none⟩ = some u ∧ Bytes F w u rs[i].b := by
  obtain ⟨A, c, rfl, h1, h2, h3, h4⟩ := h
  obtain ⟨b, o, cs, rfl, hF, hb, hl, ⟨u, rfl, hu⟩, hcell⟩ := h4 i rs[i] (by simp [hi])
  exact ⟨b, o, c, u, rfl, hF, by simpa using hcell 0 _ rfl, by simpa using hcell 1 _ rfl, hu⟩
end

def cellsR (ps : List (Rec × Value)) : List Value := ps.flatMap fun p => [vb p.1.kind, p.2]
theorem cellsR_cons (p : Rec × Value) (ps : List (Rec × Value)) : cellsR (p :: ps) = vb p.1.kind :: p.2 :: cellsR ps := rfl
theorem cellsR_append (ps qs : List (Rec × Value)) : cellsR (ps ++ qs) = cellsR ps ++ cellsR qs := by simp [cellsR]
theorem cellsR_len (ps : List (Rec × Value)) : (cellsR ps).length = ps.length * 2 := by
  induction ps with
  | nil => rfl
  | cons p ps ih => rw [cellsR_cons]; simp [ih]; omega
theorem cellsR_get {ps : List (Rec × Value)} {j : Nat} {u : Value} (h : (cellsR ps)[j]? = some u) : ∃ i p, ps[i]? = some p ∧ ((j = i * 2 ∧ u = vb p.1.kind) ∨ (j = i * 2 + 1 ∧ u = p.2)) := by
  induction ps generalizing j with
  | nil => simp [cellsR] at h
  | cons p ps ih =>
    rw [cellsR_cons] at h
    match j, h with
    | 0, h => simp at h; exact ⟨0, p, rfl, .inl ⟨rfl, h.symm⟩⟩
    | 1, h => simp at h; exact ⟨0, p, rfl, .inr ⟨rfl, h.symm⟩⟩
    | j + 2, h =>
      simp only [List.getElem?_cons_succ] at h
      obtain ⟨i, q, h1, h2⟩ := ih h
      exact ⟨i + 1, q, by simpa using h1, by rcases h2 with ⟨a, b⟩ | ⟨a, b⟩; exact .inl ⟨by omega, b⟩; exact .inr ⟨by omega, b⟩⟩
theorem cellsR_at {ps : List (Rec × Value)} {i : Nat} {p : Rec × Value} (h : ps[i]? = some p) : (cellsR ps)[i * 2]? = some (vb p.1.kind) ∧ (cellsR ps)[i * 2 + 1]? = some p.2 := by
  induction ps generalizing i with
  | nil => simp at h
  | cons q ps ih =>
    rw [cellsR_cons]
    cases i with
    | zero => simp at h; subst h; exact ⟨rfl, rfl⟩
    | succ i =>
      have := ih (i := i) (by simpa using h)
      rw [show (i + 1) * 2 = i * 2 + 1 + 1 by omega]
      simpa using this

/-- Records as an append's source. -/
def SrcR (F : Nat → Prop) (w : World) (vx : Value) (rs : List Rec) : Prop :=
  ∃ ps : List (Rec × Value), ps.map (·.1) = rs ∧ Src w 2 vx ps.length (cellsR ps) ∧ ∀ p ∈ ps, Bytes F w p.2 p.1.b

theorem bytes_one {F : Nat → Prop} {w : World} {u : Value} {b : List UInt8} (h : Bytes F w u b) : u.oneCell' = true := by obtain ⟨A, c, rfl⟩ := h.shape; rfl
theorem cellsR_one {F : Nat → Prop} {w : World} {ps : List (Rec × Value)} (h : ∀ p ∈ ps, Bytes F w p.2 p.1.b) : ∀ u ∈ cellsR ps, u.oneCell' = true := by
  intro u hu
  obtain ⟨j, hj⟩ := List.mem_iff_getElem?.1 hu
  obtain ⟨i, p, hp, ⟨_, rfl⟩ | ⟨_, rfl⟩⟩ := cellsR_get hj
  · rfl
  · exact bytes_one (h p (List.mem_of_getElem? hp))

theorem Recs.src {F : Nat → Prop} {w : World} {v : Value} {rs : List Rec} (h : Recs F w v rs) : SrcR F w v rs := by
  obtain ⟨A, c, rfl, h1, h2, h3, h4⟩ := h
  have : ∀ i, ∃ u : Value, ∀ r, rs[i]? = some r → Bytes F w u r.b ∧ ∃ b o, A = some ⟨b, o, none⟩ ∧ w.cell? ⟨b, o + i * 2, none⟩ = some (vb r.kind) ∧ w.cell? ⟨b, o + i * 2 + 1, none⟩ = some u := by
    intro i
    by_cases hi : i < rs.length
    · obtain ⟨b, o, cs, hA, hF, hb, hl, ⟨u, rfl, hu⟩, hcell⟩ := h4 i rs[i] (by simp [hi])
      refine ⟨u, fun r hr => ?_⟩
      obtain rfl : rs[i] = r := by simpa [hi] using hr
      exact ⟨hu, b, o, hA, by simpa using hcell 0 _ rfl, by simpa using hcell 1 _ rfl⟩
    · exact ⟨undef, fun r hr => by have := (List.getElem?_eq_some_iff.1 hr).1; omega⟩
  have hz : ∀ (i : Nat) (r : Rec × Nat), rs.zipIdx[i]? = some r → rs[i]? = some r.1 ∧ r.2 = i := by
    intro i r hr
    rw [List.getElem?_zipIdx] at hr
    cases hx : rs[i]? with
    | none => rw [hx] at hr; simp at hr
    | some x => rw [hx] at hr; simp at hr; subst hr; simp
  refine ⟨rs.zipIdx.map fun p => (p.1, Classical.choose (this p.2)), ?_, ⟨?_, ?_, A, c, by simp, fun hn => ?_, fun ad had j u hj => ?_⟩, ?_⟩
  · apply List.ext_getElem?
    intro i
    simp only [List.map_map, List.getElem?_map, List.getElem?_zipIdx]
    cases rs[i]? <;> simp
  · rw [cellsR_len]
  · refine cellsR_one (F := F) (w := w) fun p hp => ?_
    obtain ⟨q, hq, rfl⟩ := List.mem_map.1 hp
    obtain ⟨i, hi⟩ := List.mem_iff_getElem?.1 hq
    obtain ⟨k1, k2⟩ := hz i q hi
    rw [k2]
    exact (Classical.choose_spec (this i) q.1 k1).1
  · have := h3 hn; exact ⟨by rw [List.length_map, List.length_zipIdx]; omega, this⟩
  · obtain ⟨i, p, hp, hc⟩ := cellsR_get hj
    rw [List.getElem?_map] at hp
    obtain ⟨q, hq, rfl⟩ := Option.map_eq_some_iff.1 hp
    obtain ⟨k1, k2⟩ := hz i q hq
    obtain ⟨_, b, o, hA, c1, c2⟩ := Classical.choose_spec (this i) q.1 k1
    rw [had] at hA
    obtain rfl := Option.some.inj hA
    rw [Addr.add_lit]
    rcases hc with ⟨rfl, rfl⟩ | ⟨rfl, rfl⟩
    · exact c1
    · simp only [k2]
      rw [show o + (i * 2 + 1) = o + i * 2 + 1 by omega]
      exact c2
  · intro p hp
    obtain ⟨q, hq, rfl⟩ := List.mem_map.1 hp
    obtain ⟨i, hi⟩ := List.mem_iff_getElem?.1 hq
    obtain ⟨k1, k2⟩ := hz i q hi
    rw [k2]
    exact (Classical.choose_spec (this i) q.1 k1).1

/-- Records in a row of the call's own. -/
def OwnR (base : Nat) (w : World) (v : Value) (rs : List Rec) : Prop :=
  ∃ ps : List (Rec × Value), ps.map (·.1) = rs ∧ w.ownsRow base 35 2 v ps.length (cellsR ps) ∧ ∀ p ∈ ps, Bytes (fun b => ¬ ownOf v b) w p.2 p.1.b

theorem OwnR.nil (base : Nat) (w : World) : OwnR base w (.slice none 0 0) [] := ⟨[], rfl, World.ownsRow_nil _ _ _ _, fun p hp => by simp at hp⟩
theorem OwnR.base_ {base : Nat} {w : World} {v : Value} {rs : List Rec} (h : OwnR base w v rs) : ∀ k, v.ownBlock = some k → base ≤ k ∧ k < w.heap.size := by
  obtain ⟨ps, _, h, _⟩ := h
  exact fun k hk => World.ownsRow.lt h k hk
theorem OwnR.keep {base : Nat} {w w' : World} {v : Value} {rs : List Rec} (h : OwnR base w v rs) (hc : Chg none' w w') : OwnR base w' v rs := by
  obtain ⟨ps, e, h1, h2⟩ := h
  exact ⟨ps, e, ownsRow_keep h1 hc fun _ _ => id, fun p hp => (h2 p hp).kept hc fun _ _ => id⟩
theorem OwnR.recs {base : Nat} {w : World} {v : Value} {rs : List Rec} (h : OwnR base w v rs) : Recs all' w v rs := by
  obtain ⟨ps, rfl, h1, h2⟩ := h
  rcases h1.2 with ⟨rfl, h0⟩ | ⟨g, cap, cur, rfl, hb, hg, hnc, hcm, hcs, htake⟩
  · obtain rfl : ps = [] := List.eq_nil_of_length_eq_zero h0
    exact Row.nil
  · refine ⟨_, cap, by rw [List.length_map], by rw [List.length_map]; exact hnc, hcm, fun h => (Option.some_ne_none _ h).elim, fun i r hi => ?_⟩
    rw [List.getElem?_map] at hi
    obtain ⟨p, hp, rfl⟩ := Option.map_eq_some_iff.1 hi
    obtain ⟨c1, c2⟩ := cellsR_at hp
    have hcell := h1.cells (g := g) rfl
    refine ⟨g, 0, [vb p.1.kind, p.2], rfl, trivial, (Array.getElem?_eq_some_iff.1 hg).1, rfl, ⟨p.2, rfl, (h2 p (List.mem_of_getElem? hp)).all⟩, fun j u hj => ?_⟩
    match j, hj with
    | 0, hj => simp at hj; subst hj; have := hcell _ _ c1; rw [Addr.add_lit] at this; simpa using this
    | 1, hj => simp at hj; subst hj; have := hcell _ _ c2; rw [Addr.add_lit] at this; simpa [Nat.add_assoc] using this
    | j + 2, hj => simp at hj

theorem info_rec : (Try.prog.info? 35).map (fun i => (i.zero, i.size, i.bytes)) = some (some (.agg #[.int .u8 0, .slice none 0 0]), 2, 32) := by kernel_rfl

/-- Records onto records of the call's own. -/
theorem wp_appR {w : World} {o : Oper} {a : Act} {K : Act → World → Prop} {Q : Exit → Act → World → Prop} (s x : Operand)
    (ho : o.op = .call { callee := .builtin .append, args := #[s, x], argTypes := #[30, 30] })
    {base : Nat} {v vx : Value} {rs qs : List Rec} {F : Nat → Prop} (hown : OwnR base w v rs) (hsrc : SrcR F w vx qs) (hF : ∀ b, F b → ¬ ownOf v b) (hs : a.eval s = v) (hx : a.eval x = vx)
    (hl : (rs.length + qs.length) * 32 ≤ 140737488355328) (hbase : base ≤ w.heap.size)
    (h : ∀ v' w', OwnR base w' v' (rs ++ qs) → Chg (ownOf v) w w' → (∀ b, v'.ownBlock = some b → v.ownBlock = some b ∨ w.heap.size ≤ b) → K (a.put o.dst v') w') : o.wp Try.prog a w K Q := by
  obtain ⟨ps, rfl, h1, h2⟩ := hown
  obtain ⟨ps', rfl, k1, k2⟩ := hsrc
  rw [List.length_map, List.length_map] at hl
  refine wp_appW s x _ ho base 35 (.agg #[.int .u8 0, .slice none 0 0]) 2 32 Try.underlying30 info_rec rfl (by decide) v _ _ hs h1 vx _ _ hx k1 (by omega) (by unfold maxLen; omega) hbase fun v' w' q1 q2 q3 => ?_
  refine h v' w' ⟨ps ++ ps', by simp, by rw [List.length_append, cellsR_append]; exact q1, fun p hp => ?_⟩ q2 q3
  have key : ∀ (u : Value) (b : List UInt8), Bytes (fun b => ¬ ownOf v b) w u b → Bytes (fun b => ¬ ownOf v' b) w' u b := by
    intro u b hb
    have h5 : Bytes (fun b => ¬ ownOf v' b ∧ ¬ ownOf v b) w u b := Row.mono hb fun c hc hn => ⟨fun e => by
      rcases q3 c e with q | q
      · exact hn q
      · omega, hn⟩
    exact Row.mono (h5.kept q2 fun c hc => hc.2) fun c _ hc => hc.1
  rcases List.mem_append.1 hp with hp | hp
  · exact key _ _ (h2 p hp)
  · exact key _ _ (Row.mono (k2 p hp) fun c _ hc => hF c hc)
theorem wpList_appR {w : World} {ops : Array Oper} {rest : List Oper} {o : Oper} {a : Act} {Q : Exit → Act → World → Prop} (hgd : o.guard = none) (s x : Operand)
    (ho : o.op = .call { callee := .builtin .append, args := #[s, x], argTypes := #[30, 30] })
    {base : Nat} {v vx : Value} {rs qs : List Rec} {F : Nat → Prop} (hown : OwnR base w v rs) (hsrc : SrcR F w vx qs) (hF : ∀ b, F b → ¬ ownOf v b) (hs : a.eval s = v) (hx : a.eval x = vx)
    (hl : (rs.length + qs.length) * 32 ≤ 140737488355328) (hbase : base ≤ w.heap.size)
    (h : ∀ v' w', OwnR base w' v' (rs ++ qs) → Chg (ownOf v) w w' → (∀ b, v'.ownBlock = some b → v.ownBlock = some b ∨ w.heap.size ≤ b) → wpList Try.prog ops Q rest (a.put o.dst v') w') : wpList Try.prog ops Q (o :: rest) a w :=
  wpList_plain hgd fun _ hK => wp_appR s x ho hown hsrc hF hs hx hl hbase fun v' w' h2 h3 h4 => hK _ _ (h v' w' h2 h3 h4)

/-- One record that the translation has laid in a block of its own. -/
theorem src_rec {W : World} {t : TypeId} {u : Value} {r : Rec} {F : Nat → Prop} {g : Nat} (h : Bytes F W u r.b) (hg : W.heap.size = g := by first | rfl | simp) : SrcR F (W.alloc (.cells #[vb r.kind, u] t)) (.slice (some ⟨g, 0, none⟩) 1 1) [r] := by
  subst hg
  have hb : Bytes F (W.alloc (.cells #[vb r.kind, u] t)) u r.b := h.alloc _
  refine ⟨[(r, u)], rfl, ⟨rfl, cellsR_one (F := F) (w := W.alloc (.cells #[vb r.kind, u] t)) (fun p hp => by simp at hp; subst hp; exact hb), _, 1, rfl, (fun h => (Option.some_ne_none _ h).elim), fun ad had j x hj => ?_⟩, fun p hp => by simp at hp; subst hp; exact hb⟩
  obtain rfl := Option.some.inj had
  rw [Addr.add_lit, cell_of_row _ _ _ _ _ _ (heap_alloc_new W _)]
  match j, hj with
  | 0, hj => simpa [cellsR] using hj
  | 1, hj => simpa [cellsR] using hj
  | j + 2, hj => simp [cellsR] at hj

end Go.Proofs.Ytclbbddpedcfjaa
