/-
  Rows of bytes in a row of the call's own.
-/
import Derived.Test.YtclbbddpedcfjaaWDisk2
namespace Go.Proofs.Ytclbbddpedcfjaa
open Go.RowKit

/-- Rows of bytes in a row of the call's own; their bytes lie in blocks of 'G'. -/
def OwnBs (G : Nat → Prop) (base : Nat) (w : World) (v : Value) (bss : List (List UInt8)) : Prop :=
  ∃ ps : List (List UInt8 × Value), ps.map (·.1) = bss ∧ w.ownsRow base 23 1 v ps.length (ps.map (·.2)) ∧ ∀ p ∈ ps, Bytes (fun b => G b ∧ ¬ ownOf v b) w p.2 p.1

theorem bytes_oneB {F : Nat → Prop} {w : World} {u : Value} {b : List UInt8} (h : Bytes F w u b) : u.oneCell' = true := by obtain ⟨A, c, rfl⟩ := h.shape; rfl
theorem info_bytes : (Try.prog.info? 23).map (fun i => (i.zero, i.size, i.bytes)) = some (some (.slice none 0 0), 1, 24) := by kernel_rfl

section
variable {G : Nat → Prop} {base : Nat} {w w' : World} {v : Value} {bss : List (List UInt8)}
theorem OwnBs.nil (G : Nat → Prop) (base : Nat) (w : World) : OwnBs G base w (.slice none 0 0) [] := ⟨[], rfl, World.ownsRow_nil _ _ _ _, fun p hp => by simp at hp⟩
theorem OwnBs.base_ (h : OwnBs G base w v bss) : ∀ k, v.ownBlock = some k → base ≤ k ∧ k < w.heap.size := by
  obtain ⟨ps, _, h, _⟩ := h
  exact fun k hk => World.ownsRow.lt h k hk
theorem OwnBs.keep {S : Nat → Prop} (h : OwnBs G base w v bss) (hc : Chg S w w') (h1 : ∀ k, v.ownBlock = some k → ¬ S k) (h2 : ∀ k, G k → ¬ S k) : OwnBs G base w' v bss := by
  obtain ⟨ps, e, q1, q2⟩ := h
  exact ⟨ps, e, ownsRow_keep q1 hc h1, fun p hp => (q2 p hp).kept hc fun b hb => h2 b hb.1⟩
theorem OwnBs.rows (h : OwnBs G base w v bss) : Rows (fun b => G b ∨ ownOf v b) w v bss := by
  obtain ⟨ps, rfl, h1, h2⟩ := h
  rcases h1.2 with ⟨rfl, h0⟩ | ⟨g, cap, cur, rfl, hb, hg, hnc, hcm, hcs, htake⟩
  · obtain rfl : ps = [] := List.eq_nil_of_length_eq_zero h0
    exact Row.nil
  · refine ⟨_, cap, by rw [List.length_map], by rw [List.length_map]; exact hnc, hcm, fun h => (Option.some_ne_none _ h).elim, fun i b hi => ?_⟩
    rw [List.getElem?_map] at hi
    obtain ⟨p, hp, rfl⟩ := Option.map_eq_some_iff.1 hi
    have hcell := h1.cells (g := g) rfl
    refine ⟨g, 0, [p.2], rfl, .inr rfl, (Array.getElem?_eq_some_iff.1 hg).1, rfl, ⟨p.2, rfl, Row.mono (h2 p (List.mem_of_getElem? hp)) fun b _ hb => .inl hb.1⟩, fun j u hj => ?_⟩
    match j, hj with
    | 0, hj =>
      simp at hj; subst hj
      have := hcell i p.2 (by rw [List.getElem?_map, hp]; rfl)
      rw [Addr.add_lit] at this
      simpa using this
    | j + 1, hj => simp at hj

/-- One row of bytes more. -/
theorem wpList_appBs {ops : Array Oper} {rest : List Oper} {o : Oper} {a : Act} {Q : Exit → Act → World → Prop} (hgd : o.guard = none) (s x : Operand)
    (ho : o.op = .call { callee := .builtin .append, args := #[s, x], argTypes := #[22, 22] })
    {vx u : Value} {b : List UInt8} {F : Nat → Prop} (hown : OwnBs G base w v bss) (hsrc : Src w 1 vx 1 [u]) (hu : Bytes F w u b) (hG : ∀ b, F b → G b) (hF : ∀ b, F b → ¬ ownOf v b) (hs : a.eval s = v) (hx : a.eval x = vx)
    (hl : (bss.length + 1) * 24 ≤ 140737488355328) (hbase : base ≤ w.heap.size)
    (h : ∀ v' w', OwnBs G base w' v' (bss ++ [b]) → Chg (ownOf v) w w' → (∀ b, v'.ownBlock = some b → v.ownBlock = some b ∨ w.heap.size ≤ b) → wpList Try.prog ops Q rest (a.put o.dst v') w') : wpList Try.prog ops Q (o :: rest) a w := by
  obtain ⟨ps, rfl, h1, h2⟩ := hown
  rw [List.length_map] at hl
  refine wpList_appW hgd s x _ ho base 23 (.slice none 0 0) 1 24 Try.underlying22 info_bytes rfl (by decide) v _ _ hs h1 vx _ _ hx hsrc (by omega) (by unfold maxLen; omega) hbase fun v' w' q1 q2 q3 => ?_
  refine h v' w' ⟨ps ++ [(b, u)], by simp, by simpa using q1, fun p hp => ?_⟩ q2 q3
  have key : ∀ (u : Value) (b : List UInt8), Bytes (fun b => G b ∧ ¬ ownOf v b) w u b → Bytes (fun b => G b ∧ ¬ ownOf v' b) w' u b := by
    intro u b hb
    have h5 : Bytes (fun b => (G b ∧ ¬ ownOf v' b) ∧ ¬ ownOf v b) w u b := Row.mono hb fun c hc hn => ⟨⟨hn.1, fun e => by
      rcases q3 c e with q | q
      · exact hn.2 q
      · omega⟩, hn.2⟩
    exact Row.mono (h5.kept q2 fun c hc => hc.2) fun c _ hc => hc.1
  rcases List.mem_append.1 hp with hp | hp
  · exact key _ _ (h2 p hp)
  · simp at hp; subst hp
    exact key _ _ (Row.mono hu fun c _ hc => ⟨hG c hc, hF c hc⟩)
end

end Go.Proofs.Ytclbbddpedcfjaa
