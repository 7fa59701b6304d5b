/-
  Plain laws of logs: what comes back from a crash; how often was synced; how long the records are.
-/
import Derived.Test.YtclbbddpedcfjaaLog7
namespace Go.Proofs.Ytclbbddpedcfjaa

theorem cut_at (l : List Rec) (k : Nat) (hk : k ≤ long l) : ∃ n, n ≤ l.length ∧ long (l.take n) ≤ k ∧ ∀ r, l[n]? = some r → k < long (l.take n) + r.b.length + 10 := by
  induction l generalizing k with
  | nil => exact ⟨0, Nat.le_refl _, by simp [long], fun r hr => by simp at hr⟩
  | cons r l ih =>
    by_cases h : k < r.b.length + 10
    · exact ⟨0, Nat.zero_le _, by simp [long], fun q hq => by simp at hq; subst hq; simp [long]; omega⟩
    · obtain ⟨n, h1, h2, h3⟩ := ih (k - (r.b.length + 10)) (by simp only [long, List.map_cons, List.sum_cons] at hk ⊢; omega)
      refine ⟨n + 1, by simpa using h1, ?_, fun q hq => ?_⟩
      · simp only [long, List.take_succ_cons, List.map_cons, List.sum_cons] at h2 ⊢; omega
      · have := h3 q (by simpa using hq)
        simp only [long, List.take_succ_cons, List.map_cons, List.sum_cons] at this ⊢
        omega
theorem long_mono (l : List Rec) {m n : Nat} (h : m ≤ n) : long (l.take m) ≤ long (l.take n) := by
  have := long_le (l.take n) m
  rwa [List.take_take, Nat.min_eq_left h] at this

/-- What comes back from a crash: those that last, and of the others a begin. -/
theorem wcrash_recs {lg : Lg} (h : LgOk lg) (q : Nat) : ∃ m, lg.last ≤ m ∧ m ≤ lg.l.length ∧ (wopen (dcrash lg.d q)).l = lg.l.take m ∧ (lg.d.T.length ≤ q → m = lg.l.length) := by
  have e1 : (dcrash lg.d q).L ++ (dcrash lg.d q).T = (frames lg.l).take (lg.d.L ++ lg.d.T.take q).length := by
    unfold dcrash
    simp only [List.append_nil]
    rw [← h.all]
    have e : lg.d.L ++ lg.d.T = (lg.d.L ++ lg.d.T.take q) ++ lg.d.T.drop q := by rw [List.append_assoc, List.take_append_drop]
    rw [e, List.take_left' rfl]
  have hLl : lg.d.L.length = long (lg.l.take lg.last) := by rw [h.L, frames_len]
  have hAl : lg.d.L.length + lg.d.T.length = long lg.l := by rw [← frames_len, ← h.all, List.length_append]
  have hK : (lg.d.L ++ lg.d.T.take q).length = lg.d.L.length + min q lg.d.T.length := by simp
  obtain ⟨n, h1, h2, h3⟩ := cut_at lg.l (lg.d.L ++ lg.d.T.take q).length (by rw [hK]; omega)
  have hnext : ∀ r, lg.l[n]? = some r → n < lg.l.length ∧ (lg.d.L ++ lg.d.T.take q).length < long (lg.l.take (n + 1)) := fun r hr => by
    have hn := (List.getElem?_eq_some_iff.1 hr).1
    have := h3 r hr
    rw [long_take hn]
    have : lg.l[n] = r := by simpa [hn] using hr
    subst this
    exact ⟨hn, by omega⟩
  refine ⟨n, ?_, h1, ?_, fun hq => ?_⟩
  · by_cases hlt : n < lg.last
    · have := h.last
      have hn : n < lg.l.length := by omega
      obtain ⟨_, q1⟩ := hnext lg.l[n] (by simp [hn])
      have := long_mono lg.l (m := n + 1) (n := lg.last) hlt
      omega
    · omega
  · unfold wopen
    rw [e1]
    rw [scan_cut lg.l h.ok n _ h1 h2 (by rw [hK]; omega) h3]
  · by_cases hlt : n < lg.l.length
    · obtain ⟨_, q1⟩ := hnext lg.l[n] (by simp [hlt])
      have := long_le lg.l (n + 1)
      omega
    · omega
theorem wopen_last (d : Dk) : (wopen d).last = (wopen d).l.length := rfl
theorem wopen_self {lg : Lg} (h : LgOk lg) : (wopen lg.d).l = lg.l ∧ (wopen lg.d).last = lg.l.length ∧ (wopen lg.d).d.L = frames lg.l ∧ (scan (lg.d.L ++ lg.d.T)).2.1 = long lg.l := by
  rw [wopen_frames h.all h.ok]
  exact ⟨rfl, rfl, rfl, by rw [h.all, scan_all _ h.ok]⟩

theorem wdo_n (lg : Lg) (x : Do7) : (wdo lg x).1.d.n ≤ lg.d.n + 1 := by
  unfold wdo
  split
  · unfold wappE
    split
    · simp
    · split <;> simp [wapp, dapp]
  split
  · unfold wsync dsync
    simp only
    split <;> omega
  split
  · unfold wsnapE; split <;> simp [wsnap]
  split
  · simp
  · simp [wopen, dcrash]
/-- The log behind some of what is done. -/
noncomputable def wdos (lg : Lg) (xs : List Do7) : Lg := xs.foldl (fun d x => (wdo d x).1) lg
theorem wdos_take {d : Lg} {xs : List Do7} {k : Nat} (h : k < xs.length) : wdos d (xs.take (k + 1)) = (wdo (wdos d (xs.take k)) xs[k]).1 := by
  unfold wdos
  rw [← List.take_append_getElem h, List.foldl_append]
  rfl
theorem wdos_n (d : Lg) (xs : List Do7) : (wdos d xs).d.n ≤ d.d.n + xs.length := by
  unfold wdos
  induction xs generalizing d with
  | nil => exact Nat.le_refl _
  | cons x r ih =>
    have h1 := ih (wdo d x).1
    have h2 := wdo_n d x
    simp only [List.foldl_cons, List.length_cons] at *
    omega

/-- How much they have in them. -/
def lng7 (x : Do7) : Nat := (x.r.map fun b => b.length + 10).sum + 1
def long7 (xs : List Do7) : Nat := (xs.map lng7).sum
theorem long7_take {xs : List Do7} {k : Nat} (h : k < xs.length) : long7 (xs.take (k + 1)) = long7 (xs.take k) + lng7 xs[k] := by
  unfold long7
  rw [← List.take_append_getElem h, List.map_append, List.sum_append]
  simp
theorem long_recsOf (k : UInt8) (bss : List (List UInt8)) : long (recsOf k bss) = (bss.map fun b => b.length + 10).sum := by simp [long, recsOf, Function.comp_def]
theorem wdo_long (lg : Lg) (h : LgOk lg) (x : Do7) (B : Nat) (hB : long lg.l ≤ 10 + B) : long (wdo lg x).1.l ≤ 10 + (B + lng7 x) := by
  unfold wdo
  split
  · unfold wappE
    split
    · simp only; omega
    · split
      · simp only [wapp, long_append, long_recsOf, lng7]; omega
      · simp only; omega
  split
  · simp only [wsync]; omega
  split
  · unfold wsnapE
    split
    · simp only [wsnap, lng7]
      cases x.r with
      | nil => simp [long]
      | cons b r => simp [long]; omega
    · simp only; omega
  split
  · simp only; omega
  · obtain ⟨m, _, _, e, _⟩ := wcrash_recs h x.kept.toNat
    simp only
    rw [e]
    have := long_le lg.l m
    omega

/-- What the loops that do things to a log bear along. -/
def LogTo (w wr : World) (v : Value) (lg : Lg) : Prop := ∃ g, v = .pointer (some ⟨g, 0, none⟩) ∧ Chg none' w wr ∧ ∃ F, Ext none' F w ∧ IsLog F wr g lg

end Go.Proofs.Ytclbbddpedcfjaa
