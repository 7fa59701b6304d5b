/-
  Rows of records of the call's own, whose bytes lie in blocks of 'G'.
-/
import Derived.Test.YtclbbddpedcfjaaRecs
namespace Go.Proofs.Ytclbbddpedcfjaa
open Go.RowKit

/-- Records in a row of the call's own; their bytes lie in blocks of 'G'. -/
def OwnRG (G : Nat → Prop) (base : Nat) (w : World) (v : Value) (rs : List Rec) : Prop :=
  ∃ ps : List (Rec × Value), ps.map (·.1) = rs ∧ w.ownsRow base 35 2 v ps.length (cellsR ps) ∧ ∀ p ∈ ps, Bytes (fun b => G b ∧ ¬ ownOf v b) w p.2 p.1.b

section
variable {G : Nat → Prop} {base : Nat} {w w' : World} {v : Value} {rs : List Rec}
theorem OwnRG.nil (G : Nat → Prop) (base : Nat) (w : World) : OwnRG G base w (.slice none 0 0) [] := ⟨[], rfl, World.ownsRow_nil _ _ _ _, fun p hp => by simp at hp⟩
theorem OwnRG.base_ (h : OwnRG G base w v rs) : ∀ k, v.ownBlock = some k → base ≤ k ∧ k < w.heap.size := by
  obtain ⟨ps, _, h, _⟩ := h
  exact fun k hk => World.ownsRow.lt h k hk
theorem OwnRG.keep {S : Nat → Prop} (h : OwnRG G base w v rs) (hc : Chg S w w') (h1 : ∀ k, v.ownBlock = some k → ¬ S k) (h2 : ∀ k, G k → ¬ S k) : OwnRG G base w' v rs := by
  obtain ⟨ps, e, q1, q2⟩ := h
  exact ⟨ps, e, ownsRow_keep q1 hc h1, fun p hp => (q2 p hp).kept hc fun b hb => h2 b hb.1⟩
theorem OwnRG.mono {G' : Nat → Prop} (h : OwnRG G base w v rs) (h2 : ∀ k, k < w.heap.size → G k → G' k) : OwnRG G' base w v rs := by
  obtain ⟨ps, e, q1, q2⟩ := h
  exact ⟨ps, e, q1, fun p hp => Row.mono (q2 p hp) fun b hb hg => ⟨h2 b hb hg.1, hg.2⟩⟩
theorem OwnRG.less {base' : Nat} (h : OwnRG G base w v rs) (hb : base' ≤ base) : OwnRG G base' w v rs := by
  obtain ⟨ps, e, q1, q2⟩ := h
  refine ⟨ps, e, ⟨q1.1, ?_⟩, q2⟩
  rcases q1.2 with hn | ⟨g, cap, cur, rfl, hg, r⟩
  · exact .inl hn
  · exact .inr ⟨g, cap, cur, rfl, Nat.le_trans hb hg, r⟩
theorem OwnRG.own (h : OwnRG G base w v rs) : OwnR base w v rs := by
  obtain ⟨ps, e, q1, q2⟩ := h
  exact ⟨ps, e, q1, fun p hp => Row.mono (q2 p hp) fun b _ hg => hg.2⟩
theorem OwnR.gen (h : OwnR base w v rs) : OwnRG (fun b => b < w.heap.size ∧ ¬ ownOf v b) base w v rs := by
  obtain ⟨ps, e, q1, q2⟩ := h
  exact ⟨ps, e, q1, fun p hp => Row.mono (q2 p hp) fun b hb hg => ⟨⟨hb, hg⟩, hg⟩⟩

/-- Records onto records of the call's own. -/
theorem wp_appRG {o : Oper} {a : Act} {K : Act → World → Prop} {Q : Exit → Act → World → Prop} (s x : Operand)
    (ho : o.op = .call { callee := .builtin .append, args := #[s, x], argTypes := #[30, 30] })
    {vx : Value} {qs : List Rec} {F : Nat → Prop} (hown : OwnRG G base w v rs) (hsrc : SrcR F w vx qs) (hG : ∀ b, F b → G b) (hF : ∀ b, F b → ¬ ownOf v b) (hs : a.eval s = v) (hx : a.eval x = vx)
    (hl : (rs.length + qs.length) * 32 ≤ 140737488355328) (hbase : base ≤ w.heap.size)
    (h : ∀ v' w', OwnRG G base w' v' (rs ++ qs) → Chg (ownOf v) w w' → (∀ b, v'.ownBlock = some b → v.ownBlock = some b ∨ w.heap.size ≤ b) → K (a.put o.dst v') w') : o.wp Try.prog a w K Q := by
  obtain ⟨ps, rfl, h1, h2⟩ := hown
  obtain ⟨ps', rfl, k1, k2⟩ := hsrc
  rw [List.length_map, List.length_map] at hl
  refine wp_appW s x _ ho base 35 (.agg #[.int .u8 0, .slice none 0 0]) 2 32 Try.underlying30 info_rec rfl (by decide) v _ _ hs h1 vx _ _ hx k1 (by omega) (by unfold maxLen; omega) hbase fun v' w' q1 q2 q3 => ?_
  refine h v' w' ⟨ps ++ ps', by simp, by rw [List.length_append, cellsR_append]; exact q1, fun p hp => ?_⟩ q2 q3
  have key : ∀ (u : Value) (b : List UInt8), Bytes (fun b => G b ∧ ¬ ownOf v b) w u b → Bytes (fun b => G b ∧ ¬ ownOf v' b) w' u b := by
    intro u b hb
    have h5 : Bytes (fun b => (G b ∧ ¬ ownOf v' b) ∧ ¬ ownOf v b) w u b := Row.mono hb fun c hc hn => ⟨⟨hn.1, fun e => by
      rcases q3 c e with q | q
      · exact hn.2 q
      · omega⟩, hn.2⟩
    exact Row.mono (h5.kept q2 fun c hc => hc.2) fun c _ hc => hc.1
  rcases List.mem_append.1 hp with hp | hp
  · exact key _ _ (h2 p hp)
  · exact key _ _ (Row.mono (k2 p hp) fun c _ hc => ⟨hG c hc, hF c hc⟩)
theorem wpList_appRG {ops : Array Oper} {rest : List Oper} {o : Oper} {a : Act} {Q : Exit → Act → World → Prop} (hgd : o.guard = none) (s x : Operand)
    (ho : o.op = .call { callee := .builtin .append, args := #[s, x], argTypes := #[30, 30] })
    {vx : Value} {qs : List Rec} {F : Nat → Prop} (hown : OwnRG G base w v rs) (hsrc : SrcR F w vx qs) (hG : ∀ b, F b → G b) (hF : ∀ b, F b → ¬ ownOf v b) (hs : a.eval s = v) (hx : a.eval x = vx)
    (hl : (rs.length + qs.length) * 32 ≤ 140737488355328) (hbase : base ≤ w.heap.size)
    (h : ∀ v' w', OwnRG G base w' v' (rs ++ qs) → Chg (ownOf v) w w' → (∀ b, v'.ownBlock = some b → v.ownBlock = some b ∨ w.heap.size ≤ b) → wpList Try.prog ops Q rest (a.put o.dst v') w') : wpList Try.prog ops Q (o :: rest) a w :=
  wpList_plain hgd fun _ hK => wp_appRG s x ho hown hsrc hG hF hs hx hl hbase fun v' w' h2 h3 h4 => hK _ _ (h v' w' h2 h3 h4)
end

end Go.Proofs.Ytclbbddpedcfjaa
