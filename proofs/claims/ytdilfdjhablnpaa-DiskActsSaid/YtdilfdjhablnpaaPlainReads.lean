/- Plain laws of what is read behind a write. -/
import Derived.Test.YtdilfdjhablnpaaPlain
namespace Go.Proofs.Ytdilfdjhablnpaa
open Go.RowKit Go.Shelf

theorem idxs_snoc (ws : List Wr) (y : Wr) : idxs (ws ++ [y]) = idxs ws ++ [(ws.length, y)] := by
  unfold idxs
  rw [List.length_append, List.length_singleton, List.range_succ, List.map_append]
  congr 1
  · refine List.map_congr_left fun k hk => ?_
    have hk' : k < ws.length := by simpa using hk
    simp [List.getD, List.getElem?_append_left hk']
  · simp [List.getD]

theorem readL_size (at_ : Int) (s : ByteArray) (xs : List (Nat × Wr)) : (readL at_ s xs).size = s.size := by
  induction xs generalizing s with
  | nil => rfl
  | cons x xs ih =>
    show (readL at_ (readStep at_ s x) xs).size = _
    rw [ih]
    unfold readStep
    split
    · rw [over_size]
    · rfl

theorem read_same (at_ : Int) (s0 s : ByteArray) (ws : List Wr) : readL at_ s0 (idxs (ws ++ [⟨at_, s⟩])) = over (readL at_ s0 (idxs ws)) s := by
  rw [idxs_snoc, readL_snoc]
  simp [readStep]

theorem read_other (at_ other : Int) (s0 s : ByteArray) (ws : List Wr) (h : other ≠ at_) : readL other s0 (idxs (ws ++ [⟨at_, s⟩])) = readL other s0 (idxs ws) := by
  rw [idxs_snoc, readL_snoc]
  simp [readStep, Ne.symm h]

theorem over_head (s f : ByteArray) (h : f.size ≤ s.size) : (over s f).extract 0 f.size = f := by
  refine ByteArray.ext ?_
  apply Array.ext'
  have hf : f.data.toList.length = f.size := Array.length_toList
  have hs : s.data.toList.length = s.size := Array.length_toList
  have e : (over s f).data.toList = f.data.toList ++ s.data.toList.drop f.data.toList.length := by
    simp only [over, overL]
    rw [List.take_of_length_le (by omega)]
  rw [ByteArray.data_extract, Array.toList_extract, e, List.extract_eq_take_drop, List.drop_zero, Nat.sub_zero, ← hf, List.take_left]

end Go.Proofs.Ytdilfdjhablnpaa
