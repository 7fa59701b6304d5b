/-
  Plain laws of frames: how records are laid and found; no program in sight.
-/
import Derived.Test.YtclbbddpedcfjaaHash
namespace Go.Proofs.Ytclbbddpedcfjaa

structure Rec where
  kind : UInt8
  b : List UInt8

instance : DecidableEq Rec := fun x y => if h : x.kind = y.kind ∧ x.b = y.b then .isTrue (by cases x; cases y; simp only [Rec.mk.injEq]; exact h) else .isFalse (fun e => h (by rw [e]; exact ⟨rfl, rfl⟩))

def be4 (n : Nat) : List UInt8 := [UInt8.ofNat (n / 16777216), UInt8.ofNat (n / 65536), UInt8.ofNat (n / 256), UInt8.ofNat n]
theorem get4_is : ∃ f : List UInt8 → Nat, ∀ b, f b = (b.getD 0 0).toNat * 16777216 + (b.getD 1 0).toNat * 65536 + (b.getD 2 0).toNat * 256 + (b.getD 3 0).toNat := ⟨_, fun _ => rfl⟩
/-- Four bytes' number. (Chosen, not defined: the kernel is not to reckon with it.) -/
noncomputable def get4 : List UInt8 → Nat := Classical.choose get4_is
theorem get4_eq (b : List UInt8) : get4 b = (b.getD 0 0).toNat * 16777216 + (b.getD 1 0).toNat * 65536 + (b.getD 2 0).toNat * 256 + (b.getD 3 0).toNat := Classical.choose_spec get4_is b
def crc (b : List UInt8) : Nat := (check b).toNat
def headOf (r : Rec) : List UInt8 := 165 :: r.kind :: (be4 r.b.length ++ r.b)
def frame (r : Rec) : List UInt8 := headOf r ++ be4 (crc (headOf r))
def frames (l : List Rec) : List UInt8 := (l.map frame).flatten
def okAll (l : List Rec) : Prop := ∀ r ∈ l, r.b.length ≤ 65536
def long (l : List Rec) : Nat := (l.map fun r => r.b.length + 10).sum

theorem be4_len (n : Nat) : (be4 n).length = 4 := rfl
theorem crc_lt (b : List UInt8) : crc b < 4294967296 := (check b).toNat_lt
theorem get4_be4 {n : Nat} (h : n < 4294967296) (r : List UInt8) : get4 (be4 n ++ r) = n := by
  rw [get4_eq]; simp only [be4, List.cons_append, List.nil_append, List.getD_cons_zero, List.getD_cons_succ, UInt8.toNat_ofNat']
  omega
theorem be4_inj {m n : Nat} (hm : m < 4294967296) (hn : n < 4294967296) (h : be4 m = be4 n) : m = n := by
  rw [← get4_be4 hm [], ← get4_be4 hn [], h]
theorem get4_lt (b : List UInt8) : get4 b < 4294967296 := by
  have h0 := (b.getD 0 0).toNat_lt
  have h1 := (b.getD 1 0).toNat_lt
  have h2 := (b.getD 2 0).toNat_lt
  have h3 := (b.getD 3 0).toNat_lt
  rw [get4_eq]
  omega
theorem be4_get4 {b : List UInt8} (h : 4 ≤ b.length) : be4 (get4 b) = b.take 4 := by
  match b, h with
  | b0 :: b1 :: b2 :: b3 :: r, _ =>
    have h0 := b0.toNat_lt
    have h1 := b1.toNat_lt
    have h2 := b2.toNat_lt
    have h3 := b3.toNat_lt
    simp only [get4_eq, List.getD_cons_zero, List.getD_cons_succ, be4, List.take_succ_cons, List.take_zero]
    congr 1
    · apply UInt8.toNat_inj.1; rw [UInt8.toNat_ofNat']; omega
    congr 1
    · apply UInt8.toNat_inj.1; rw [UInt8.toNat_ofNat']; omega
    congr 1
    · apply UInt8.toNat_inj.1; rw [UInt8.toNat_ofNat']; omega
    congr 1
    · apply UInt8.toNat_inj.1; rw [UInt8.toNat_ofNat']; omega
theorem headOf_len (r : Rec) : (headOf r).length = r.b.length + 6 := by simp [headOf, be4_len]; omega
theorem frame_len (r : Rec) : (frame r).length = r.b.length + 10 := by simp [frame, headOf_len, be4_len]
theorem frames_nil : frames [] = [] := rfl
theorem frames_cons (r : Rec) (l : List Rec) : frames (r :: l) = frame r ++ frames l := by simp [frames]
theorem frames_append (l m : List Rec) : frames (l ++ m) = frames l ++ frames m := by simp [frames]
theorem frames_len (l : List Rec) : (frames l).length = long l := by
  induction l with
  | nil => rfl
  | cons r l ih => rw [frames_cons, List.length_append, frame_len, ih]; simp [long]
theorem long_append (l m : List Rec) : long (l ++ m) = long l + long m := by simp [long, List.sum_append]

/-! ### The first frame -/
noncomputable def nextLen (b : List UInt8) : Nat := get4 (b.drop 2)
noncomputable def nextErr (b : List UInt8) : Nat :=
  if b.length = 0 then 4
  else if b.getD 0 0 ≠ 165 then 11
  else if b.length < 6 then 12
  else if 65536 < nextLen b then 11
  else if b.length < nextLen b + 10 then 12
  else if crc (b.take (nextLen b + 6)) ≠ get4 (b.drop (nextLen b + 6)) then 20
  else 0
noncomputable def nextRec (b : List UInt8) : Rec := ⟨b.getD 1 0, (b.take (nextLen b + 6)).drop 6⟩

theorem nextErr_zero {b : List UInt8} (h : nextErr b = 0) :
    b.getD 0 0 = 165 ∧ nextLen b ≤ 65536 ∧ nextLen b + 10 ≤ b.length ∧ crc (b.take (nextLen b + 6)) = get4 (b.drop (nextLen b + 6)) := by
  unfold nextErr at h
  split at h
  · omega
  · split at h
    · omega
    · next h1 =>
      split at h
      · omega
      · split at h
        · omega
        · split at h
          · omega
          · split at h
            · omega
            · next h2 h3 h4 h5 h6 =>
              refine ⟨?_, by omega, by omega, ?_⟩
              · simpa using h1
              · simpa using h6

theorem list_head2 {b : List UInt8} (h : 2 ≤ b.length) : b = b.getD 0 0 :: b.getD 1 0 :: b.drop 2 := by
  match b, h with
  | x :: y :: r, _ => rfl

/-- The head of what is there is a record's, whatever its sum. -/
theorem head_there {b : List UInt8} (h0 : b.getD 0 0 = 165) (h1 : nextLen b + 10 ≤ b.length) : headOf (nextRec b) = b.take (nextLen b + 6) := by
  have hl : ((b.take (nextLen b + 6)).drop 6).length = nextLen b := by rw [List.length_drop, List.length_take]; omega
  unfold headOf nextRec
  simp only
  rw [hl]
  have e2 : be4 (nextLen b) = (b.drop 2).take 4 := be4_get4 (by rw [List.length_drop]; omega)
  rw [e2]
  have e3 : (b.drop 2).take 4 ++ (b.take (nextLen b + 6)).drop 6 = (b.drop 2).take (nextLen b + 4) := by
    rw [show nextLen b + 6 = 6 + nextLen b by omega, show nextLen b + 4 = 4 + nextLen b by omega, List.take_add, List.take_add]
    congr 1
    rw [List.drop_append_of_le_length (by rw [List.length_take]; omega)]
    rw [List.drop_of_length_le (by rw [List.length_take]; omega), List.nil_append, List.drop_drop]
  rw [e3]
  generalize nextLen b = n at h1 ⊢
  conv => rhs; rw [list_head2 (b := b) (by omega)]
  rw [h0, show n + 6 = n + 4 + 1 + 1 by omega, List.take_succ_cons, List.take_succ_cons]

/-- A frame lies there just where its sum does. -/
theorem frame_there {b : List UInt8} (h0 : b.getD 0 0 = 165) (h1 : nextLen b + 10 ≤ b.length) :
    frame (nextRec b) = b.take (nextLen b + 10) ↔ crc (b.take (nextLen b + 6)) = get4 (b.drop (nextLen b + 6)) := by
  unfold frame
  rw [head_there h0 h1]
  have e : b.take (nextLen b + 10) = b.take (nextLen b + 6) ++ be4 (get4 (b.drop (nextLen b + 6))) := by
    rw [be4_get4 (by rw [List.length_drop]; omega), show nextLen b + 10 = nextLen b + 6 + 4 by omega, List.take_add]
  rw [e, List.append_cancel_left_eq]
  exact ⟨fun h => be4_inj (crc_lt _) (get4_lt _) h, fun h => by rw [h]⟩

theorem next_frame_there {b : List UInt8} (h : nextErr b = 0) : frame (nextRec b) = b.take (nextLen b + 10) := by
  obtain ⟨h0, h1, h2, h3⟩ := nextErr_zero h
  exact (frame_there h0 h2).2 h3
theorem nextRec_len {b : List UInt8} (h : nextErr b = 0) : (nextRec b).b.length = nextLen b := by
  obtain ⟨h0, h1, h2, h3⟩ := nextErr_zero h
  simp only [nextRec, List.length_drop, List.length_take]
  omega

theorem frame_getD0 (r : Rec) (x : List UInt8) : (frame r ++ x).getD 0 0 = 165 := rfl
theorem frame_nextLen (r : Rec) (x : List UInt8) (h : r.b.length ≤ 65536) : nextLen (frame r ++ x) = r.b.length := by
  have : (frame r ++ x).drop 2 = be4 r.b.length ++ (r.b ++ be4 (crc (headOf r)) ++ x) := by simp [frame, headOf]
  unfold nextLen
  rw [this, get4_be4 (by omega)]
theorem frame_next (r : Rec) (x : List UInt8) (h : r.b.length ≤ 65536) : nextErr (frame r ++ x) = 0 ∧ nextRec (frame r ++ x) = r := by
  have hl := frame_nextLen r x h
  have hlen : (frame r ++ x).length = r.b.length + 10 + x.length := by rw [List.length_append, frame_len]
  have e1 : (frame r ++ x).take (r.b.length + 6) = headOf r := by
    unfold frame
    rw [List.append_assoc, List.take_left' (headOf_len r)]
  have e2 : (frame r ++ x).drop (r.b.length + 6) = be4 (crc (headOf r)) ++ x := by
    unfold frame
    rw [List.append_assoc, List.drop_left' (headOf_len r)]
  constructor
  · unfold nextErr
    rw [hl, hlen, e1, e2, frame_getD0, get4_be4 (crc_lt _)]
    rw [if_neg (by omega), if_neg (by simp), if_neg (by omega), if_neg (by omega), if_neg (by omega), if_neg (by simp)]
  · unfold nextRec
    rw [hl, e1]
    have h1 : (frame r ++ x).getD 1 0 = r.kind := rfl
    rw [h1]
    have h2 : (headOf r).drop 6 = r.b := by
      unfold headOf
      simp [be4]
    rw [h2]

/-- A begin of a frame that is not all of it has no first frame. -/
theorem part_next (r : Rec) (h : r.b.length ≤ 65536) {k : Nat} (hk0 : 0 < k) (hk : k < r.b.length + 10) : nextErr ((frame r).take k) = 12 := by
  have hlen : ((frame r).take k).length = k := by rw [List.length_take, frame_len]; omega
  have h0 : ((frame r).take k).getD 0 0 = 165 := by
    obtain ⟨j, rfl⟩ : ∃ j, k = j + 1 := ⟨k - 1, by omega⟩
    rfl
  unfold nextErr
  rw [hlen, h0, if_neg (by omega), if_neg (by simp)]
  by_cases h6 : k < 6
  · rw [if_pos h6]
  · rw [if_neg h6]
    have hn : nextLen ((frame r).take k) = r.b.length := by
      have h1 := frame_nextLen r [] h
      rw [List.append_nil] at h1
      rw [← h1]
      unfold nextLen
      have : ((frame r).take k).drop 2 = ((frame r).drop 2).take (k - 2) := by rw [List.drop_take]
      rw [this]
      rw [get4_eq, get4_eq]
      simp only [List.getD_eq_getElem?_getD]
      rw [List.getElem?_take, List.getElem?_take, List.getElem?_take, List.getElem?_take]
      rw [if_pos (by omega), if_pos (by omega), if_pos (by omega), if_pos (by omega)]
    rw [hn, if_neg (by omega), if_pos (by omega)]

/-! ### All that are whole -/
noncomputable def scanF : Nat → List UInt8 → List Rec × Nat × Nat
  | 0, _ => ([], 0, 0)
  | f + 1, b => if nextErr b = 0 then
      (nextRec b :: (scanF f (b.drop (nextLen b + 10))).1, nextLen b + 10 + (scanF f (b.drop (nextLen b + 10))).2.1, (scanF f (b.drop (nextLen b + 10))).2.2)
    else ([], 0, if nextErr b = 4 then 0 else nextErr b)
theorem scanF_more (f : Nat) : ∀ (g : Nat) (b : List UInt8), b.length < f → b.length < g → scanF f b = scanF g b := by
  induction f with
  | zero => intro g b h; omega
  | succ f ih =>
    intro g b hf hg
    obtain ⟨g, rfl⟩ : ∃ j, g = j + 1 := ⟨g - 1, by omega⟩
    unfold scanF
    by_cases h : nextErr b = 0
    · have hz := nextErr_zero h
      rw [if_pos h, if_pos h, ih g (b.drop (nextLen b + 10)) (by rw [List.length_drop]; omega) (by rw [List.length_drop]; omega)]
    · rw [if_neg h, if_neg h]
noncomputable def scan (b : List UInt8) : List Rec × Nat × Nat := scanF (b.length + 1) b

theorem scan_ok {b : List UInt8} (h : nextErr b = 0) : scan b = (nextRec b :: (scan (b.drop (nextLen b + 10))).1, nextLen b + 10 + (scan (b.drop (nextLen b + 10))).2.1, (scan (b.drop (nextLen b + 10))).2.2) := by
  have hz := nextErr_zero h
  have e := scanF_more b.length ((b.drop (nextLen b + 10)).length + 1) (b.drop (nextLen b + 10)) (by rw [List.length_drop]; omega) (by omega)
  unfold scan
  rw [← e]
  rw [scanF, if_pos h]
theorem scan_no {b : List UInt8} (h : nextErr b ≠ 0) : scan b = ([], 0, if nextErr b = 4 then 0 else nextErr b) := by
  unfold scan
  rw [scanF, if_neg h]
theorem scan_nil : scan [] = ([], 0, 0) := by
  rw [scan_no (by simp [nextErr])]
  simp [nextErr]

theorem scan_frames (l : List Rec) (x : List UInt8) (h : okAll l) : scan (frames l ++ x) = (l ++ (scan x).1, long l + (scan x).2.1, (scan x).2.2) := by
  induction l with
  | nil => simp [frames_nil, long]
  | cons r l ih =>
    have hr := h r (by simp)
    have hl : okAll l := fun s hs => h s (by simp [hs])
    rw [frames_cons, List.append_assoc]
    obtain ⟨h1, h2⟩ := frame_next r (frames l ++ x) hr
    have h3 := frame_nextLen r (frames l ++ x) hr
    rw [scan_ok h1, h2, h3, List.drop_left' (frame_len r), ih hl]
    simp [long]
    omega
theorem scan_all (l : List Rec) (h : okAll l) : scan (frames l) = (l, long l, 0) := by
  have := scan_frames l [] h
  rw [List.append_nil, scan_nil] at this
  simpa using this

/-- What is found lies there. -/
theorem scan_there (b : List UInt8) : frames (scan b).1 = b.take (scan b).2.1 ∧ (scan b).2.1 ≤ b.length ∧ okAll (scan b).1 := by
  by_cases h : nextErr b = 0
  · obtain ⟨h0, h1, h2, h3⟩ := nextErr_zero h
    have hlt : (b.drop (nextLen b + 10)).length < b.length := by rw [List.length_drop]; omega
    obtain ⟨i1, i2, i3⟩ := scan_there (b.drop (nextLen b + 10))
    rw [scan_ok h]
    simp only
    refine ⟨?_, ?_, ?_⟩
    · rw [frames_cons, i1, next_frame_there h]
      exact (List.take_add ..).symm
    · rw [List.length_drop] at i2; omega
    · intro r hr
      rcases List.mem_cons.1 hr with rfl | hr
      · rw [nextRec_len h]; exact h1
      · exact i3 r hr
  · rw [scan_no h]
    exact ⟨by simp [frames_nil], Nat.zero_le _, fun r hr => by simp at hr⟩
termination_by b.length

/-- The frames of a row tell the row. -/
theorem frames_inj {l m : List Rec} (hl : okAll l) (hm : okAll m) (h : frames l = frames m) : l = m := by
  have h1 := scan_all l hl
  rw [h, scan_all m hm] at h1
  exact (congrArg Prod.fst h1).symm

/-- Cut anywhere. 'n': how many are whole. -/
theorem scan_cut (l : List Rec) (h : okAll l) (n k : Nat) (hn : n ≤ l.length) (hk0 : long (l.take n) ≤ k) (hk : k ≤ long l) (hk1 : ∀ r, l[n]? = some r → k < long (l.take n) + r.b.length + 10) :
    scan ((frames l).take k) = (l.take n, long (l.take n), if k = long (l.take n) then 0 else 12) := by
  have e : (frames l).take k = frames (l.take n) ++ (frames (l.drop n)).take (k - long (l.take n)) := by
    conv => lhs; rw [← List.take_append_drop n l]
    rw [frames_append, List.take_append, frames_len, List.take_of_length_le (by rw [frames_len]; exact hk0)]
  have hok : okAll (l.take n) := fun r hr => h r (List.mem_of_mem_take hr)
  rw [e, scan_frames _ _ hok]
  by_cases hkk : k = long (l.take n)
  · rw [if_pos hkk, hkk, Nat.sub_self, List.take_zero, scan_nil]
    simp
  · rw [if_neg hkk]
    cases hd : l.drop n with
    | nil =>
      exfalso
      have h1 := List.take_append_drop n l
      rw [hd, List.append_nil] at h1
      rw [h1] at hkk hk0
      omega
    | cons r t =>
      have hr : l[n]? = some r := by
        have := congrArg (·[0]?) hd
        simpa using this
      have hk2 := hk1 r hr
      have hrl : r.b.length ≤ 65536 := h r (List.mem_of_getElem? hr)
      rw [frames_cons, List.take_append_of_le_length (by rw [frame_len]; omega)]
      have hp := part_next r hrl (k := k - long (l.take n)) (by omega) (by omega)
      rw [scan_no (by rw [hp]; decide), hp]
      simp

end Go.Proofs.Ytclbbddpedcfjaa
