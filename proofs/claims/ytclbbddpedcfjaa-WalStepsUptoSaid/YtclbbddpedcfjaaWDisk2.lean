/-
  Walks: rows behind a disk's tail.
-/
import Derived.Test.YtclbbddpedcfjaaWDisk
import Derived.Deep.QuietTactic
import Derived.BigQuiet
namespace Go.Proofs.Ytclbbddpedcfjaa
open Go.RowKit

theorem Rows.shape {F : Nat → Prop} {w : World} {v : Value} {bss : List (List UInt8)} (h : Rows F w v bss) : ∃ A c, v = .slice A bss.length c ∧ bss.length ≤ c ∧ c ≤ maxLen := let ⟨A, c, e, h1, h2, _⟩ := h; ⟨A, c, e, h1, h2⟩
theorem Rows.at_ {F : Nat → Prop} {w : World} {v : Value} {bss : List (List UInt8)} (h : Rows F w v bss) {i : Nat} (hi : i < bss.length) :
    ∃ b o c u, v = .slice (some ⟨b, o, none⟩) bss.length c ∧ F b ∧ w.cell? ⟨b, o + i, none⟩ = some u ∧ Bytes F w u bss[i] := by
  obtain ⟨A, c, rfl, h1, h2, h3, h4⟩ := h
  obtain ⟨b, o, cs, rfl, hF, hb, hl, ⟨u, rfl, hu⟩, hcell⟩ := h4 i bss[i] (by simp [hi])
  exact ⟨b, o, c, u, rfl, hF, by simpa using hcell 0 _ rfl, hu⟩
theorem Rows.mono {F G : Nat → Prop} {w : World} {v : Value} {bss : List (List UInt8)} (h : Rows F w v bss) (hF : ∀ b, b < w.heap.size → F b → G b) : Rows G w v bss := by
  obtain ⟨A, c, rfl, h1, h2, h3, h4⟩ := h
  refine ⟨A, c, rfl, h1, h2, h3, fun i x hi => ?_⟩
  obtain ⟨b, o, cs, hA, hf, hb, hl, ⟨u, e, hu⟩, r⟩ := h4 i x hi
  exact ⟨b, o, cs, hA, hF b hb hf, hb, hl, ⟨u, e, Row.mono hu hF⟩, r⟩

def flen (bss : List (List UInt8)) : Nat := bss.flatten.length
theorem flen_take {bss : List (List UInt8)} {k : Nat} (h : k < bss.length) : flen (bss.take (k + 1)) = flen (bss.take k) + bss[k].length := by
  unfold flen; rw [← List.take_append_getElem h, List.flatten_append, List.length_append]; simp
theorem flat_take {bss : List (List UInt8)} {k : Nat} (h : k < bss.length) : (bss.take (k + 1)).flatten = (bss.take k).flatten ++ bss[k] := by
  rw [← List.take_append_getElem h, List.flatten_append]; simp
theorem flen_le (bss : List (List UInt8)) (k : Nat) : flen (bss.take k) ≤ flen bss := by
  have h := List.take_append_drop k bss
  unfold flen
  conv => rhs; rw [← h, List.flatten_append, List.length_append]
  omega

/-- Rows behind the tail: the disk then, the error. -/
def dapp (d : Dk) (bs : List UInt8) : Dk := ⟨d.L, d.T ++ bs, d.n⟩
theorem dapp_app (d : Dk) (a b : List UInt8) : dapp d (a ++ b) = ⟨(dapp d a).L, (dapp d a).T ++ b, (dapp d a).n⟩ := by simp [dapp]

set_option maxRecDepth 100000 in
set_option maxHeartbeats 1000000 in
theorem w_dappend_no {F G : Nat → Prop} {w : World} {g : Nat} {d : Dk} {v : Value} {bss : List (List UInt8)} (h : IsDisk F w g d) (hr : Rows G w v bss) (hb : ∀ b ∈ bss, b.length ≤ 140737488355328) (hl : 4194304 < d.L.length + d.T.length + flen bss) :
    Calls Try.prog 24 #[.pointer (some ⟨g, 0, none⟩), v] w fun e w' => e = .returned (.int .i64 3) ∧ Chg none' w w' := by
  obtain ⟨vL, vT, h⟩ := h
  obtain ⟨A, c, rfl, _, hm⟩ := hr.shape
  unfold maxLen at hm
  have c0 := h.cell0
  have c1 := h.cell1
  have hlen := h.len
  obtain ⟨A0, n0, rfl⟩ := h.ownL.shape
  obtain ⟨A1, n1, rfl⟩ := h.ownT.shape
  clear h
  go_enter Try.func24, Try.ntmps24
  go_wp2
  go_step3
  go_wp2
  go_quiet (fail)
  go_wp2
  go_step3
  go_wp2
  clear c0 c1
  generalize d.L.length = l0 at *
  generalize d.T.length = l1 at *
  have hrq := Row.kept hr ((Chg.refl none' w).drewN nq) (fun _ _ => id) (R' := IsBs G (w.drewN nq)) fun x _ cs hx => (let ⟨u, e, hu⟩ := hx; ⟨u, e, hu.kept ((Chg.refl none' w).drewN nq) fun _ _ => id⟩)
  go_loop [5, 25] (fun nv iv => ∃ k : Nat, k ≤ bss.length ∧ iv = .int .i64 k ∧ nv = .int .i64 ((l0 + l1 + flen (bss.take k) : Nat) : Int) ∧ l0 + l1 + flen (bss.take k) ≤ 4194304) (fun _ i => bss.length - (intOf i).toNat)
  case atStart => exact ⟨0, Nat.zero_le _, rfl, by simp [flen], by simp [flen]; omega⟩
  case round =>
    obtain ⟨k, hk, rfl, rfl, hle⟩ := hrel
    by_cases hlt : k < bss.length
    · obtain ⟨b1, o1, c1', u1, e1, _, ck1, hu1⟩ := Rows.at_ hrq hlt
      simp only [Value.slice.injEq] at e1
      obtain ⟨rfl, _, rfl⟩ := e1
      obtain ⟨Au, cu, rfl⟩ := hu1.shape
      have hb1 := hb _ (List.getElem_mem hlt)
      have E := Lib.hid (flen_take hlt)
      generalize flen (bss.take k) = m at *
      generalize bss[k].length = bl at *
      by_cases hmx : 4194304 < l0 + l1 + m + bl
      · have z1 : (4194304 : Int) < (l0 : Int) + l1 + m + bl := by omega
        go_wp2
        first | go_ret | (rw [Exit.noGoto_ret]; go_ret)
        exact ⟨rfl, (Chg.refl _ _).drewN _⟩
      · have z1 : ¬ (4194304 : Int) < (l0 : Int) + l1 + m + bl := by omega
        go_wp2
        go_round
        case rel => exact ⟨k + 1, by omega, by go_num, by rw [E.out]; simp; omega, by rw [E.out]; omega⟩
        case measure => simp [intOf]; omega
    · obtain rfl : k = bss.length := by omega
      rw [List.take_length] at hle
      omega

set_option maxRecDepth 100000 in
set_option maxHeartbeats 1000000 in
theorem w_dappend_yes {F G : Nat → Prop} {w : World} {g : Nat} {d : Dk} {v : Value} {bss : List (List UInt8)} (h : IsDisk F w g d) (hr : Rows G w v bss) (hb : ∀ b ∈ bss, b.length ≤ 140737488355328) (hG : ∀ b, G b → ¬ F b) (hl : d.L.length + d.T.length + flen bss ≤ 4194304) :
    Calls Try.prog 24 #[.pointer (some ⟨g, 0, none⟩), v] w fun e w' => ∃ F', e = .returned (.int .i64 0) ∧ IsDisk F' w' g (dapp d bss.flatten) ∧ Ext F F' w ∧ Chg F w w' := by
  obtain ⟨vL, vT, h⟩ := h
  obtain ⟨A, c, rfl, _, hm⟩ := hr.shape
  unfold maxLen at hm
  have c0 := h.cell0
  have c1 := h.cell1
  have hlen := h.len
  obtain ⟨A0, n0, rfl⟩ := h.ownL.shape
  obtain ⟨A1, n1, rfl⟩ := h.ownT.shape
  have h0 := h
  clear h
  go_enter Try.func24, Try.ntmps24
  go_wp2
  go_step3
  go_wp2
  go_quiet (fail)
  go_wp2
  go_step3
  go_wp2
  clear c0 c1
  have L0 : ∃ l, d.L.length = l := ⟨_, rfl⟩
  obtain ⟨l0, hl0⟩ := L0
  have L1 : ∃ l, d.T.length = l := ⟨_, rfl⟩
  obtain ⟨l1, hl1⟩ := L1
  rw [hl0, hl1]
  rw [hl0, hl1] at hl hlen
  have H0 := Lib.hid hl0
  have H1 := Lib.hid hl1
  rw [hl0] at h0
  rw [hl1] at h0
  clear hl0 hl1
  have hrq := Row.kept hr ((Chg.refl none' w).drewN nq) (fun _ _ => id) (R' := IsBs G (w.drewN nq)) fun x _ cs hx => (let ⟨u, e, hu⟩ := hx; ⟨u, e, hu.kept ((Chg.refl none' w).drewN nq) fun _ _ => id⟩)
  go_loop [5, 25] (fun nv iv => ∃ k : Nat, k ≤ bss.length ∧ iv = .int .i64 k ∧ nv = .int .i64 ((l0 + l1 + flen (bss.take k) : Nat) : Int)) (fun _ i => bss.length - (intOf i).toNat)
  case atStart => exact ⟨0, Nat.zero_le _, rfl, by simp [flen]⟩
  case round =>
    obtain ⟨k, hk, rfl, rfl⟩ := hrel
    by_cases hlt : k < bss.length
    · obtain ⟨b1, o1, c1', u1, e1, _, ck1, hu1⟩ := Rows.at_ hrq hlt
      simp only [Value.slice.injEq] at e1
      obtain ⟨rfl, _, rfl⟩ := e1
      obtain ⟨Au, cu, rfl⟩ := hu1.shape
      have hb1 := hb _ (List.getElem_mem hlt)
      have E := Lib.hid (flen_take hlt)
      have hle := flen_le bss (k + 1)
      rw [E.out] at hle
      generalize flen (bss.take k) = m at *
      generalize bss[k].length = bl at *
      have z1 : ¬ (4194304 : Int) < (l0 : Int) + l1 + m + bl := by omega
      go_wp2
      go_round
      case rel => exact ⟨k + 1, by omega, by go_num, by rw [E.out]; simp; omega⟩
      case measure => simp [intOf]; omega
    · obtain rfl : k = bss.length := by omega
      rw [List.take_length]
      have z1 : ¬ (4194304 : Int) < (l0 : Int) + l1 + flen bss := by omega
      go_wp2
      clear z1
      go_loopw [40] (fun iv wr => ∃ k : Nat, k ≤ bss.length ∧ iv = .int .i64 k ∧ Chg F w wr ∧ ∃ Fk, Ext F Fk w ∧ IsDisk Fk wr g (dapp d (bss.take k).flatten)) (fun i _ => bss.length - (intOf i).toNat)
      case atStart => exact ⟨0, Nat.zero_le _, rfl, (Chg.refl _ _).drewN _, F, Ext.refl _ _, _, _, by simpa [dapp] using h0.keep ((Chg.refl none' w).drewN nq) fun _ _ => id⟩
      case round =>
        obtain ⟨k, hk, rfl, hchg, Fk, hext, vL, vT, hD⟩ := hrel
        by_cases hlt : k < bss.length
        · obtain ⟨b1, o1, c1', u1, e1, _, ck1, hu1⟩ := Rows.at_ (hr.kept hchg hG) hlt
          simp only [Value.slice.injEq] at e1
          obtain ⟨rfl, _, rfl⟩ := e1
          have E := Lib.hid (flat_take hlt)
          have hle := flen_le bss (k + 1)
          rw [flen_take hlt] at hle
          have hlm : (bss.take k).flatten.length = flen (bss.take k) := rfl
          have hll : d.T.length = l1 := H1.out
          have hl2 : d.L.length = l0 := H0.out
          have c1 := hD.cell1
          have f1 := hD.free 1
          have hsz := hchg.size
          have hTl : (dapp d (bss.take k).flatten).T.length + bss[k].length ≤ 140737488355328 := by simp only [dapp, List.length_append]; omega
          have hLl : (dapp d (bss.take k).flatten).L.length + ((dapp d (bss.take k).flatten).T ++ bss[k]).length ≤ 4194304 := by simp only [dapp, List.length_append]; omega
          have HL := Lib.hid hLl
          clear hlm hll hl2 hLl
          generalize bss[k] = bk at *
          go_wp2_with (at_builtin; refine wpList_appB rfl (.tmp 48) (.tmp 49) rfl hD.ownT hu1 rfl rfl hTl (Nat.zero_le _) ?_; intro v2 w2 o2 c2 b2; obtain ⟨A2, n2, rfl⟩ := o2.shape; have c1 := c2.cell c1 hD.gT; have f1 : w2.frozen? ⟨g, 1, none⟩ = false := (by simp [World.frozen?, (c2.block g hD.glt hD.gT).trans hD.heap]))
          have hD2 := hD.setT c2 o2 b2 HL.out
          simp only [List.length_append] at hD2
          go_roundw
          case rel => exact ⟨k + 1, by omega, by go_num, (hchg.trans' c2 fun i hi e => by
              rcases hext i (hD.fT i e) with q | q
              · exact q
              · omega).setCell (by rcases hext g hD.fg with q | q; exact .inr q; exact .inl q) _, _, hext.trans ext_new hsz, _, _, by rw [E.out, dapp_app]; exact hD2⟩
          case measure => simp [intOf]; omega
        · obtain rfl : k = bss.length := by omega
          rw [List.take_length] at hD
          go_wp2
          first | go_ret | (rw [Exit.noGoto_ret]; go_ret)
          exact ⟨Fk, rfl, ⟨_, _, hD⟩, hext, hchg⟩

end Go.Proofs.Ytclbbddpedcfjaa
