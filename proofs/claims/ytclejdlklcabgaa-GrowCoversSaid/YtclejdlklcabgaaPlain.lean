/- Plain numbers: powers of two, the half of a number, the sizes whose sum is the number. -/
import Derived.Lib.BitFns
import Derived.Lib.ItoaNum
import Derived.Laws.BitsLemmas
namespace Go.Proofs.Ytclejdlklcabgaa.Plain
open Go

/-- Is n a power of two? -/
noncomputable def two (n : Int) : Bool := @decide (∃ k : Nat, n = (2 : Int) ^ k) (Classical.propDecidable _)

theorem two_iff (n : Int) : two n = true ↔ ∃ k : Nat, n = (2 : Int) ^ k := by unfold two; simp
theorem two_pow (k : Nat) : two ((2 : Int) ^ k) = true := (two_iff _).2 ⟨k, rfl⟩

theorem pow_pos' (k : Nat) : 0 < (2 : Int) ^ k := by
  have : (0 : Int) < ((2 ^ k : Nat) : Int) := by have := Nat.two_pow_pos k; omega
  simpa using this

theorem two_neg (n : Int) (h : n < 1) : two n = false := by
  cases e : two n with
  | false => rfl
  | true => obtain ⟨k, hk⟩ := (two_iff _).1 e; have := pow_pos' k; omega

theorem two_one : two 1 = true := (two_iff _).2 ⟨0, rfl⟩

theorem two_odd (n : Int) (h1 : n % 2 = 1) : two n = (n == 1) := by
  cases e : two n with
  | true =>
    obtain ⟨k, hk⟩ := (two_iff _).1 e
    cases k with
    | zero => simp at hk; subst hk; rfl
    | succ k => rw [Int.pow_succ] at hk; omega
  | false =>
    symm; rw [beq_eq_false_iff_ne]; intro h; subst h; rw [two_one] at e; cases e

theorem two_even (n : Int) (h0 : 1 ≤ n) (h2 : n % 2 = 0) : two (n / 2) = two n := by
  cases e : two n with
  | true =>
    obtain ⟨k, hk⟩ := (two_iff _).1 e
    cases k with
    | zero => simp at hk; subst hk; omega
    | succ k => exact (two_iff _).2 ⟨k, by rw [Int.pow_succ] at hk; omega⟩
  | false =>
    cases e' : two (n / 2) with
    | false => rfl
    | true =>
      obtain ⟨k, hk⟩ := (two_iff _).1 e'
      have : two n = true := (two_iff _).2 ⟨k + 1, by rw [Int.pow_succ]; omega⟩
      rw [this] at e; cases e

/-- The half of a number from 2 on: the greatest power of two below it. -/
def half (n : Nat) : Nat := 2 ^ (Lib.bitLen (n - 1) - 1)

theorem bitLen_bounds (x : Nat) (h : x < 2 ^ 63) (h0 : x ≠ 0) : 1 ≤ Lib.bitLen x ∧ Lib.bitLen x ≤ 63 ∧ 2 ^ (Lib.bitLen x - 1) ≤ x ∧ x < 2 ^ Lib.bitLen x := by
  have h1 := Lib.bitLenAux_bounds 64 x (by omega) h0
  have h2 := Lib.bitLen_le x 63 (by omega) h
  exact ⟨h1.1, h2, h1.2.1, h1.2.2⟩

theorem half_spec (n : Nat) (h2 : 2 ≤ n) (h : n < 2 ^ 63) : half n < n ∧ n ≤ 2 * half n ∧ Lib.bitLen (n - 1) - 1 ≤ 62 := by
  have hb := bitLen_bounds (n - 1) (by omega) (by omega)
  unfold half
  have hs : 2 ^ Lib.bitLen (n - 1) = 2 * 2 ^ (Lib.bitLen (n - 1) - 1) := by
    rw [← Nat.pow_succ']; congr 1; omega
  omega

theorem half_two (n : Nat) : two (half n : Int) = true := by
  unfold half
  refine (two_iff _).2 ⟨Lib.bitLen (n - 1) - 1, by simp⟩

/-- The bits of n from k on, the greatest first, as powers of two: bits 62 down to k. -/
def sizesTo (n : Nat) : Nat → List Int
  | 0 => []
  | d + 1 => sizesTo n d ++ if n.testBit (62 - d) then [((2 ^ (62 - d) : Nat) : Int)] else []

/-- The sizes whose sum is n. -/
def sizes (n : Int) : List Int := if 0 < n then sizesTo n.toNat 63 else []

theorem sizesTo_len (n : Nat) : ∀ d, (sizesTo n d).length ≤ d
  | 0 => by simp [sizesTo]
  | d + 1 => by
    have := sizesTo_len n d
    simp only [sizesTo, List.length_append]
    split <;> simp <;> omega

/-- The bit k of n, as the program asks for it. -/
theorem bit_test (n : Int) (k : Nat) (h0 : 0 ≤ n) (h1 : n ≤ 9223372036854775807) : (bits .and .i64 (n / 2 ^ k) 1 == 1) = n.toNat.testBit k := by
  obtain ⟨m, rfl⟩ := Int.eq_ofNat_of_zero_le h0
  have hd : ((m : Int) / 2 ^ k) = ((m / 2 ^ k : Nat) : Int) := by simp
  have hle : m / 2 ^ k ≤ m := Nat.div_le_self _ _
  have hw : ∀ n : Int, 0 ≤ n → n < 2 ^ 63 → IntKind.i64.wrap n = n := by intro n h0 h1; rw [IntKind.wrap_i64]; omega
  rw [hd, Int.toNat_natCast, Nat.testBit_eq_decide_div_mod_eq]
  generalize m / 2 ^ k = q at *
  have hb := bits_mask .i64 63 (by decide) hw 1 (by omega) (q : Int) (by omega) (by omega)
  have h1' : ((2 : Int) ^ 1 - 1) = 1 := rfl
  have h2' : ((2 : Int) ^ 1) = 2 := rfl
  rw [h1', h2'] at hb
  rw [hb, Bool.eq_iff_iff]
  simp
  omega

end Go.Proofs.Ytclejdlklcabgaa.Plain
