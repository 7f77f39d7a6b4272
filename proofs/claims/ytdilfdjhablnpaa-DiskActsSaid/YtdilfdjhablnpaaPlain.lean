/- Plain laws of what is left of a disk. -/
import Derived.Test.YtdilfdjhablnpaaDiskDead
namespace Go.Proofs.Ytdilfdjhablnpaa
open Go.RowKit Go.Shelf

theorem stepL_size (fst : Nat → ByteArray → ByteArray) (l : List ByteArray) (x : Nat × Wr) (j : Nat) : ((stepL fst l x).getD j ByteArray.empty).size = (l.getD j ByteArray.empty).size := by
  unfold stepL
  by_cases h : x.2.at_.toNat = j
  · subst h
    by_cases hl : x.2.at_.toNat < l.length
    · simp only [List.getD, List.getElem?_set_self hl, Option.getD_some, over_size]
    · rw [List.set_eq_of_length_le (by omega)]
  · simp only [List.getD, List.getElem?_set_ne h]

theorem doneL_size (fst : Nat → ByteArray → ByteArray) (kept : List ByteArray) (xs : List (Nat × Wr)) (j : Nat) : ((doneL fst kept xs).getD j ByteArray.empty).size = (kept.getD j ByteArray.empty).size := by
  induction xs generalizing kept with
  | nil => rfl
  | cons x xs ih =>
    show ((doneL fst (stepL fst kept x) xs).getD j ByteArray.empty).size = _
    rw [ih, stepL_size]

theorem doneL_congr (f g : Nat → ByteArray → ByteArray) (kept : List ByteArray) (xs : List (Nat × Wr)) (h : ∀ x, x ∈ xs → f x.1 x.2.s = g x.1 x.2.s) : doneL f kept xs = doneL g kept xs := by
  induction xs generalizing kept with
  | nil => rfl
  | cons x xs ih =>
    show doneL f (stepL f kept x) xs = doneL g (stepL g kept x) xs
    rw [show stepL f kept x = stepL g kept x by unfold stepL; rw [h x (by simp)]]
    exact ih _ fun y hy => h y (by simp [hy])

theorem RightD.crashed {z : Int} {kept : List ByteArray} {ws : List Wr} (h : RightD z kept ws) (keep : List Int) : RightD z (Ytdilfdjhablnpaa.crashed keep kept ws) [] where
  z1 := h.z1
  z2 := h.z2
  n1 := by unfold Ytdilfdjhablnpaa.crashed; rw [doneL_len]; exact h.n1
  n2 := by unfold Ytdilfdjhablnpaa.crashed; rw [doneL_len]; exact h.n2
  rows := fun j hj => by
    unfold Ytdilfdjhablnpaa.crashed at hj ⊢
    rw [doneL_len] at hj
    rw [doneL_size]
    exact h.rows j hj
  wrs := fun j hj => by simp at hj

theorem extract_all (s : ByteArray) : s.extract 0 s.size = s := ByteArray.ext (by simp)

theorem firstOf_all (m i : Nat) (s : ByteArray) (h : i < m) (hs : s.size ≤ 1024) : firstOf (List.replicate m 1099511627776) i s = s := by
  unfold firstOf
  rw [List.length_replicate, if_pos h]
  have e : (List.replicate m (1099511627776 : Int)).getD i 0 = 1099511627776 := by simp [List.getD, h]
  rw [e, show (min (max (1099511627776 : Int) 0) (s.size : Int)).toNat = s.size by omega, extract_all]

theorem RightD.all {z : Int} {kept : List ByteArray} {ws : List Wr} (h : RightD z kept ws) : Ytdilfdjhablnpaa.crashed (List.replicate ws.length 1099511627776) kept ws = image kept ws := by
  unfold Ytdilfdjhablnpaa.crashed image
  refine doneL_congr _ _ _ _ fun x hx => ?_
  obtain ⟨k, hk, rfl⟩ := List.mem_map.1 hx
  have hk' : k < ws.length := by simpa using hk
  have h1 := h.wrs k hk'
  have h2 := h.z2
  exact firstOf_all _ _ _ hk' (by show (ws.getD k noWr).s.size ≤ 1024; omega)

theorem image_nil (kept : List ByteArray) : image kept [] = kept := rfl
theorem crashed_nil (keep : List Int) (kept : List ByteArray) : Ytdilfdjhablnpaa.crashed keep kept [] = kept := rfl

end Go.Proofs.Ytdilfdjhablnpaa
