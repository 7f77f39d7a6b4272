/- Plain numbers: the sizes of a number fall, each a power of two, and their sum is the number. -/
import Derived.Test.YtclejdlklcabgaaPlain
namespace Go.Proofs.Ytclejdlklcabgaa.Plain
open Go

theorem mem_sizesTo (n : Nat) : ∀ (d : Nat) (x : Int), x ∈ sizesTo n d → ∃ j, 63 - d ≤ j ∧ j ≤ 62 ∧ x = ((2 ^ j : Nat) : Int)
  | 0, x, h => by simp [sizesTo] at h
  | d + 1, x, h => by
    simp only [sizesTo, List.mem_append] at h
    rcases h with h | h
    · obtain ⟨j, h1, h2, h3⟩ := mem_sizesTo n d x h
      exact ⟨j, by omega, h2, h3⟩
    · split at h
      · simp only [List.mem_singleton] at h; exact ⟨62 - d, by omega, by omega, h⟩
      · simp at h

theorem two_mem {n d : Nat} {x : Int} (h : x ∈ sizesTo n d) : two x = true := by
  obtain ⟨j, _, _, rfl⟩ := mem_sizesTo n d x h
  exact (two_iff _).2 ⟨j, by simp⟩

theorem falls (n : Nat) : ∀ d, d ≤ 63 → (sizesTo n d).Pairwise (fun a b => b < a)
  | 0, _ => by simp [sizesTo]
  | d + 1, hd => by
    simp only [sizesTo]
    refine List.pairwise_append.2 ⟨falls n d (by omega), by split <;> simp, ?_⟩
    intro a ha b hb
    obtain ⟨j, h1, h2, rfl⟩ := mem_sizesTo n d a ha
    split at hb
    · simp only [List.mem_singleton] at hb
      subst hb
      have : 2 ^ (62 - d) < 2 ^ j := Nat.pow_lt_pow_right (by omega) (by omega)
      omega
    · simp at hb

theorem sum_to (n : Nat) (hn : n < 2 ^ 63) : ∀ d, d ≤ 63 → (sizesTo n d).sum = ((n / 2 ^ (63 - d) * 2 ^ (63 - d) : Nat) : Int)
  | 0, _ => by rw [Nat.div_eq_of_lt hn]; simp [sizesTo]
  | d + 1, hd => by
    have ih := sum_to n hn d (by omega)
    have hk : 63 - d = (62 - d) + 1 := by omega
    have hk' : 63 - (d + 1) = 62 - d := by omega
    rw [hk] at ih
    rw [hk']
    simp only [sizesTo, List.sum_append, ih]
    have hdm : n / 2 ^ (62 - d + 1) = n / 2 ^ (62 - d) / 2 := by rw [Nat.pow_succ, Nat.div_div_eq_div_mul]
    have hb : n.testBit (62 - d) = decide (n / 2 ^ (62 - d) % 2 = 1) := Nat.testBit_eq_decide_div_mod_eq
    rw [hdm, hb, Nat.pow_succ]
    generalize n / 2 ^ (62 - d) = q
    generalize 2 ^ (62 - d) = p
    have e : q / 2 * (p * 2) = (q / 2 * 2) * p := by rw [Nat.mul_comm p 2, Nat.mul_assoc]
    rw [e]
    by_cases h : q % 2 = 1
    · have hq : q = q / 2 * 2 + 1 := by omega
      simp only [h, decide_true, if_true, List.sum_cons, List.sum_nil]
      have : q * p = q / 2 * 2 * p + p := by conv => lhs; rw [hq, Nat.add_mul, Nat.one_mul]
      rw [this]; simp
    · have hq : q = q / 2 * 2 := by omega
      simp only [h, decide_false]
      have : q * p = q / 2 * 2 * p := by conv => lhs; rw [hq]
      rw [this]; simp

theorem sum_all (n : Nat) (hn : n < 2 ^ 63) : (sizesTo n 63).sum = (n : Int) := by rw [sum_to n hn 63 (by omega)]; simp

theorem pos_mem {n d : Nat} {x : Int} (h : x ∈ sizesTo n d) : 0 < x := by
  obtain ⟨j, _, _, rfl⟩ := mem_sizesTo n d x h
  have := Nat.two_pow_pos j
  omega

theorem sum_take_le (l : List Int) (h : ∀ x ∈ l, 0 < x) : ∀ k, 0 ≤ (l.take k).sum ∧ (l.take k).sum ≤ l.sum := by
  induction l with
  | nil => intro k; simp
  | cons a l ih =>
    intro k
    have hs : ∀ x ∈ l, 0 < x := fun x hx => h x (List.mem_cons_of_mem _ hx)
    have ha := h a (by simp)
    cases k with
    | zero => have := (ih hs l.length).1; rw [List.take_length] at this; simp; omega
    | succ k => have := ih hs k; simp; omega

theorem sum_take_succ (l : List Int) (k : Nat) (h : k < l.length) : (l.take (k + 1)).sum = (l.take k).sum + l.getD k 0 := by
  rw [List.take_succ_eq_append_getElem h, List.sum_append]
  simp [h]

/-- What is needed of the sizes at a place. -/
theorem at_place (n : Nat) (k : Nat) (hk : k < (sizesTo n 63).length) : two ((sizesTo n 63).getD k 0) = true ∧ 0 < (sizesTo n 63).getD k 0 ∧ (sizesTo n 63).getD k 0 ≤ 4611686018427387904 ∧
    (0 < k → (sizesTo n 63).getD k 0 < (sizesTo n 63).getD (k - 1) 0) := by
  have hm : (sizesTo n 63).getD k 0 ∈ sizesTo n 63 := by simp only [List.getD_eq_getElem?_getD, List.getElem?_eq_getElem hk, Option.getD_some]; exact List.getElem_mem hk
  refine ⟨two_mem hm, pos_mem hm, ?_, ?_⟩
  · obtain ⟨j, _, hj, e⟩ := mem_sizesTo n 63 _ hm
    have : 2 ^ j ≤ 2 ^ 62 := Nat.pow_le_pow_right (by omega) hj
    omega
  · intro h0
    have hp := List.pairwise_iff_getElem.1 (falls n 63 (by omega)) (k - 1) k (by omega) hk (by omega)
    simp only [List.getD_eq_getElem?_getD, List.getElem?_eq_getElem hk, List.getElem?_eq_getElem (show k - 1 < (sizesTo n 63).length by omega), Option.getD_some]
    exact hp

theorem len_pos (n : Nat) (hn : n < 2 ^ 63) (h0 : 0 < n) : 0 < (sizesTo n 63).length := by
  have := sum_all n hn
  cases h : sizesTo n 63 with
  | nil => rw [h] at this; simp at this; omega
  | cons a l => simp

end Go.Proofs.Ytclejdlklcabgaa.Plain
