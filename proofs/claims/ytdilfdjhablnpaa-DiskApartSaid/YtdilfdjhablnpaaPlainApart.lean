/- Plain law of what a crash leaves of a byte. -/
import Derived.Test.YtdilfdjhablnpaaPlainLast
namespace Go.Proofs.Ytdilfdjhablnpaa
open Go.RowKit Go.Shelf

theorem over_byte (s f : ByteArray) (j : Nat) : (over s f).data[j]? = if j < f.size ∧ j < s.size then f.data[j]? else s.data[j]? := by
  have hf : f.data.toList.length = f.size := Array.length_toList
  have hs : s.data.toList.length = s.size := Array.length_toList
  show (overL s.data.toList f.data.toList).toArray[j]? = _
  rw [List.getElem?_toArray, ← Array.getElem?_toList, ← Array.getElem?_toList]
  unfold overL
  by_cases h : j < f.size ∧ j < s.size
  · rw [if_pos h, List.getElem?_append_left (by rw [List.length_take]; omega), List.getElem?_take, if_pos (by omega)]
  · rw [if_neg h, List.getElem?_append_right (by rw [List.length_take]; omega), List.length_take, List.getElem?_drop]
    by_cases h2 : j < s.size
    · congr 1
      omega
    · rw [List.getElem?_eq_none (by omega), List.getElem?_eq_none (by omega)]

theorem firstOf_byte (keep : List Int) (i : Nat) (s : ByteArray) (j : Nat) (h : j < (firstOf keep i s).size) : j < s.size ∧ (firstOf keep i s).data[j]? = s.data[j]? := by
  have hle := firstOf_size keep i s
  refine ⟨by omega, ?_⟩
  unfold firstOf at h ⊢
  by_cases hi : i < keep.length
  · rw [if_pos hi] at h ⊢
    rw [ByteArray.size_extract] at h
    rw [ByteArray.data_extract, Array.getElem?_extract, if_pos (by show j < min _ s.size - 0; omega), Nat.zero_add]
  · rw [if_neg hi] at h
    exact absurd h (Nat.not_lt_zero _)

theorem done_byte (keep : List Int) (kept : List ByteArray) (xs : List (Nat × Wr)) (at_ : Int) (j : Nat) (h : ∀ x, x ∈ xs → 0 ≤ x.2.at_) (ha : 0 ≤ at_) (hl : at_.toNat < kept.length) :
    ((doneL (firstOf keep) kept xs).getD at_.toNat ByteArray.empty).data[j]? = (kept.getD at_.toNat ByteArray.empty).data[j]? ∨
    ∃ x, x ∈ xs ∧ x.2.at_ = at_ ∧ j < x.2.s.size ∧ x.2.s.data[j]? = ((doneL (firstOf keep) kept xs).getD at_.toNat ByteArray.empty).data[j]? := by
  induction xs generalizing kept with
  | nil => exact .inl rfl
  | cons x xs ih =>
    have h0 := h x (List.mem_cons_self ..)
    rcases ih (stepL (firstOf keep) kept x) (fun y hy => h y (List.mem_cons_of_mem _ hy)) (by rw [stepL_len]; exact hl) with e | ⟨y, hy, h1⟩
    · rw [stepL_get _ _ _ _ hl] at e
      by_cases hx : x.2.at_ = at_
      · rw [if_pos (by rw [hx]), over_byte] at e
        by_cases hb : j < (firstOf keep x.1 x.2.s).size ∧ j < (kept.getD at_.toNat ByteArray.empty).size
        · rw [if_pos hb] at e
          obtain ⟨g1, g2⟩ := firstOf_byte keep x.1 x.2.s j hb.1
          exact .inr ⟨x, List.mem_cons_self .., hx, g1, g2.symm.trans e.symm⟩
        · rw [if_neg hb] at e
          exact .inl e
      · rw [if_neg (by omega)] at e
        exact .inl e
    · exact .inr ⟨y, List.mem_cons_of_mem _ hy, h1⟩

/-- A byte of a sector behind a crash is what was kept, or what was written there. -/
theorem crashed_byte (keep : List Int) (kept : List ByteArray) (ws : List Wr) (at_ : Int) (j : Nat) (h : Fits kept.length ws) (ha : 0 ≤ at_) (hb : at_ < kept.length)
    (hj : j < (kept.getD at_.toNat ByteArray.empty).size) :
    ∃ kb cb : UInt8, (kept.getD at_.toNat ByteArray.empty).data[j]? = some kb ∧ ((crashed keep kept ws).getD at_.toNat ByteArray.empty).data[j]? = some cb ∧
      (cb = kb ∨ ∃ k, k < ws.length ∧ (ws.getD k noWr).at_ = at_ ∧ j < (ws.getD k noWr).s.size ∧ (ws.getD k noWr).s.data[j]? = some cb) := by
  have hsz : ((crashed keep kept ws).getD at_.toNat ByteArray.empty).size = (kept.getD at_.toNat ByteArray.empty).size := doneL_size _ _ _ _
  have hj2 : j < ((crashed keep kept ws).getD at_.toNat ByteArray.empty).size := by omega
  have e1 : (kept.getD at_.toNat ByteArray.empty).data[j]? = some _ := Array.getElem?_eq_getElem hj
  have e2 : ((crashed keep kept ws).getD at_.toNat ByteArray.empty).data[j]? = some _ := Array.getElem?_eq_getElem hj2
  refine ⟨_, _, e1, e2, ?_⟩
  rcases done_byte keep kept (idxs ws) at_ j (fun x hx => (h x hx).1) ha (by omega) with e | ⟨x, hx, h1, h2, h3⟩
  · left
    have := e2.symm.trans (e.trans e1)
    exact Option.some.inj this
  · right
    obtain ⟨k, hk, rfl⟩ := List.mem_map.1 hx
    exact ⟨k, by simpa using hk, h1, h2, h3.trans e2⟩
end Go.Proofs.Ytdilfdjhablnpaa
