/- Plain laws of what is read behind a sync, and of two writes. -/
import Derived.Test.YtdilfdjhablnpaaPlainReads
namespace Go.Proofs.Ytdilfdjhablnpaa
open Go.RowKit Go.Shelf

theorem stepL_get (fst : Nat → ByteArray → ByteArray) (l : List ByteArray) (x : Nat × Wr) (j : Nat) (hj : j < l.length) :
    (stepL fst l x).getD j ByteArray.empty = if x.2.at_.toNat = j then over (l.getD j ByteArray.empty) (fst x.1 x.2.s) else l.getD j ByteArray.empty := by
  unfold stepL
  by_cases h : x.2.at_.toNat = j
  · subst h
    rw [if_pos rfl]
    simp only [List.getD, List.getElem?_set_self hj, Option.getD_some]
  · rw [if_neg h]
    simp only [List.getD, List.getElem?_set_ne h]

/-- A sector of those with all writes done is what is read. -/
theorem done_get (kept : List ByteArray) (xs : List (Nat × Wr)) (at_ : Int) (h : ∀ x, x ∈ xs → 0 ≤ x.2.at_) (ha : 0 ≤ at_) (hj : at_.toNat < kept.length) :
    (doneL (fun _ s => s) kept xs).getD at_.toNat ByteArray.empty = readL at_ (kept.getD at_.toNat ByteArray.empty) xs := by
  induction xs generalizing kept with
  | nil => rfl
  | cons x xs ih =>
    show (doneL (fun _ s => s) (stepL (fun _ s => s) kept x) xs).getD at_.toNat ByteArray.empty = readL at_ (readStep at_ (kept.getD at_.toNat ByteArray.empty) x) xs
    rw [ih _ (fun y hy => h y (List.mem_cons_of_mem _ hy)) (by rw [stepL_len]; exact hj), stepL_get _ _ _ _ hj]
    have h0 := h x (List.mem_cons_self ..)
    unfold readStep
    by_cases e : x.2.at_ = at_
    · rw [if_pos (by rw [e]), if_pos e]
    · rw [if_neg (by omega), if_neg e]

theorem image_get (kept : List ByteArray) (ws : List Wr) (at_ : Int) (h : Fits kept.length ws) (ha : 0 ≤ at_) (hb : at_ < kept.length) :
    (image kept ws).getD at_.toNat ByteArray.empty = readL at_ (kept.getD at_.toNat ByteArray.empty) (idxs ws) :=
  done_get kept (idxs ws) at_ (fun x hx => (h x hx).1) ha (by omega)

theorem fits_snoc {n : Nat} {ws : List Wr} (h : Fits n ws) (y : Wr) (h1 : 0 ≤ y.at_) (h2 : y.at_ < n) : Fits n (ws ++ [y]) := fun x hx => by
  rw [idxs_snoc] at hx
  rcases List.mem_append.1 hx with hx | hx
  · exact h x hx
  · obtain rfl : x = (ws.length, y) := by simpa using hx
    exact ⟨h1, h2⟩

theorem read_one (at_ : Int) (s0 t : ByteArray) : readL at_ s0 (idxs [⟨at_, t⟩]) = over s0 t := by
  have := read_same at_ s0 t []
  simpa [idxs, readL] using this

/-- Behind a sync the same is read. -/
theorem last_same (kept : List ByteArray) (ws : List Wr) (at_ : Int) (s t : ByteArray) (h : Fits kept.length ws) (ha : 0 ≤ at_) (hb : at_ < kept.length) :
    readL at_ ((image kept (ws ++ [⟨at_, s⟩])).getD at_.toNat ByteArray.empty) (idxs [⟨at_, t⟩]) = readL at_ (kept.getD at_.toNat ByteArray.empty) (idxs ((ws ++ [⟨at_, s⟩]) ++ [⟨at_, t⟩])) := by
  rw [read_one, read_same, image_get kept _ at_ (fits_snoc h _ ha hb) ha hb]

theorem over_list (s f : ByteArray) (h : f.size ≤ s.size) : (over s f).data.toList = f.data.toList ++ s.data.toList.drop f.size := by
  have hf : f.data.toList.length = f.size := Array.length_toList
  have hs : s.data.toList.length = s.size := Array.length_toList
  simp only [over, overL]
  rw [List.take_of_length_le (by omega), hf]

/-- What a shorter write leaves of a longer one. -/
theorem over_tail (x s t : ByteArray) (hs : s.size ≤ x.size) (ht : t.size ≤ s.size) : (over (over x s) t).extract t.size s.size = s.extract t.size s.size := by
  refine ByteArray.ext ?_
  apply Array.ext'
  have hsl : s.data.toList.length = s.size := Array.length_toList
  have htl : t.data.toList.length = t.size := Array.length_toList
  rw [ByteArray.data_extract, ByteArray.data_extract, Array.toList_extract, Array.toList_extract, over_list _ _ (by rw [over_size]; omega), over_list _ _ hs, List.extract_eq_take_drop, List.extract_eq_take_drop]
  rw [List.drop_append_of_le_length (Nat.le_of_eq htl.symm), List.drop_append_of_le_length (by rw [hsl]; exact ht), List.drop_eq_nil_of_le (Nat.le_of_eq htl), List.nil_append, List.take_append_of_le_length (by rw [List.length_drop]; omega)]
end Go.Proofs.Ytdilfdjhablnpaa
