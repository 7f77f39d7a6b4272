/- Plain law: a path has at most twelve steps, none more than the first leaf's; of a power of two all have as many. -/
import Derived.Test.YtclejdlklcabgaaSteps
namespace Go.Proofs.Ytclejdlklcabgaa
open Go.RowKit Plain

theorem half_pow (n : Nat) : ∃ j, half n = 2 ^ j := ⟨_, rfl⟩

theorem pow_lt {a b : Nat} (h : 2 ^ a < 2 ^ b) : a < b := by
  rcases Nat.lt_or_ge a b with h' | h'
  · exact h'
  · have := Nat.pow_le_pow_right (show 0 < 2 by omega) h'; omega

theorem half_of_pow (k : Nat) (hk : k < 62) : half (2 ^ (k + 1)) = 2 ^ k := by
  obtain ⟨j, hj⟩ := half_pow (2 ^ (k + 1))
  have h1 : 2 ^ (k + 1) < 2 ^ 63 := Nat.pow_lt_pow_right (by omega) (by omega)
  have h2 : 2 ≤ 2 ^ (k + 1) := by have := Nat.two_pow_pos k; rw [Nat.pow_succ]; omega
  obtain ⟨s1, s2, _⟩ := half_spec (2 ^ (k + 1)) h2 h1
  rw [hj] at s1 s2 ⊢
  have e1 : j < k + 1 := pow_lt s1
  have e2 : k < j + 1 := by
    rcases Nat.lt_or_ge k (j + 1) with h' | h'
    · exact h'
    · have := Nat.pow_le_pow_right (show 0 < 2 by omega) h'
      rw [Nat.pow_succ] at s2 this; have := Nat.two_pow_pos k; omega
  congr 1; omega

theorem downs_pow : ∀ (k f i : Nat), k ≤ 62 → 2 ^ k ≤ f → (downs f i (2 ^ k)).length = k
  | 0, f, i, _, _ => by rw [downs_end (by simp)]; rfl
  | k + 1, f, i, hk, hf => by
    have h2 : 2 ≤ 2 ^ (k + 1) := by have := Nat.two_pow_pos k; rw [Nat.pow_succ]; omega
    have hh := half_of_pow k (by omega)
    have hs : 2 ^ (k + 1) - 2 ^ k = 2 ^ k := by rw [Nat.pow_succ]; omega
    have hp : 2 ^ k < 2 ^ (k + 1) := Nat.pow_lt_pow_right (by omega) (by omega)
    by_cases h : i < half (2 ^ (k + 1))
    · obtain ⟨g, hg, hd⟩ := downs_left h2 hf h
      rw [hd, List.length_cons, hh, downs_pow k g i (by omega) (by omega)]
    · obtain ⟨g, hg, hd⟩ := downs_right h2 hf h
      rw [hd, List.length_cons, hh, hs, downs_pow k g _ (by omega) (by omega)]

theorem downs_le : ∀ (k f i n : Nat), k ≤ 62 → n ≤ 2 ^ k → n ≤ f → (downs f i n).length ≤ k
  | 0, f, i, n, _, hn, _ => by rw [downs_end (by simpa using hn)]; simp
  | k + 1, f, i, n, hk, hn, hf => by
    by_cases h2 : 2 ≤ n
    · have h1 : 2 ^ (k + 1) ≤ 2 ^ 62 := Nat.pow_le_pow_right (by omega) (by omega)
      obtain ⟨s1, s2, _⟩ := half_spec n h2 (by omega)
      obtain ⟨j, hj⟩ := half_pow n
      have hjk : j < k + 1 := pow_lt (by rw [hj] at s1; omega)
      have hle : half n ≤ 2 ^ k := by rw [hj]; exact Nat.pow_le_pow_right (by omega) (by omega)
      by_cases h : i < half n
      · obtain ⟨g, hg, hd⟩ := downs_left h2 hf h
        rw [hd, List.length_cons]
        have := downs_le k g i (half n) (by omega) hle (by omega)
        omega
      · obtain ⟨g, hg, hd⟩ := downs_right h2 hf h
        rw [hd, List.length_cons]
        have := downs_le k g (i - half n) (n - half n) (by omega) (by omega) (by omega)
        omega
    · rw [downs_end (by omega)]; simp

/-- The first leaf's path is the longest. -/
theorem steps_first (i n : Nat) (hn : n ≤ 4096) : steps i n ≤ steps 0 n := by
  unfold steps
  by_cases h2 : 2 ≤ n
  · obtain ⟨s1, s2, _⟩ := half_spec n h2 (by omega)
    obtain ⟨j, hj⟩ := half_pow n
    have hj2 : j < 12 := pow_lt (by rw [hj] at s1; omega)
    obtain ⟨g, hg, hd⟩ := downs_left (f := 4096) (i := 0) h2 hn (by omega)
    rw [hd, List.length_cons, hj, downs_pow j g 0 (by omega) (by omega)]
    exact downs_le (j + 1) 4096 i n (by omega) (by rw [Nat.pow_succ]; omega) hn
  · rw [downs_end (by omega)]; simp

theorem steps_twelve (i n : Nat) (hn : n ≤ 4096) : steps i n ≤ 12 := downs_le 12 4096 i n (by omega) hn hn

theorem steps_two (i n : Nat) (hn : n ≤ 4096) (h : two n = true) : steps i n = steps 0 n := by
  obtain ⟨k, hk⟩ := (two_iff _).1 h
  have hk' : n = 2 ^ k := by
    have : ((n : Nat) : Int) = ((2 ^ k : Nat) : Int) := by rw [hk]; simp
    exact Int.ofNat_inj.1 this
  have hk2 : k < 13 := pow_lt (by omega)
  unfold steps
  rw [hk', downs_pow k 4096 i (by omega) (by omega), downs_pow k 4096 0 (by omega) (by omega)]

theorem steps45 : steps 4 5 = 1 := by decide +kernel
theorem steps05 : steps 0 5 = 3 := by decide +kernel

end Go.Proofs.Ytclejdlklcabgaa
