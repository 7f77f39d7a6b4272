/- Plain numbers: the cover from m to n: its sizes are powers of two that divide their places, their sum is n - m, and there are 26 at most. -/
import Derived.Test.YtclejdlklcabgaaPlain2
namespace Go.Proofs.Ytclejdlklcabgaa.Plain
open Go

/-- The greatest of the sizes of d. -/
def top (d : Nat) : Nat := ((sizesTo d 63).getD 0 0).toNat

theorem head_to (d : Nat) (hd : d < 2 ^ 63) : ∀ e, e ≤ 63 → (sizesTo d e = [] ∧ d < 2 ^ (63 - e)) ∨ ∃ j r, j ≤ 62 ∧ sizesTo d e = ((2 ^ j : Nat) : Int) :: r ∧ 2 ^ j ≤ d ∧ d < 2 ^ (j + 1)
  | 0, _ => .inl ⟨rfl, hd⟩
  | e + 1, he => by
    rcases head_to d hd e (by omega) with ⟨h1, h2⟩ | ⟨j, r, hj, h1, h2, h3⟩
    · have hk : 63 - e = (62 - e) + 1 := by omega
      have hk' : 63 - (e + 1) = 62 - e := by omega
      rw [hk, Nat.pow_succ] at h2
      have hp := Nat.two_pow_pos (62 - e)
      have hm := Nat.div_add_mod d (2 ^ (62 - e))
      have hml := Nat.mod_lt d hp
      have hq : d / 2 ^ (62 - e) < 2 := by rw [Nat.div_lt_iff_lt_mul hp]; omega
      have hs : sizesTo d (e + 1) = if decide (d / 2 ^ (62 - e) % 2 = 1) then [((2 ^ (62 - e) : Nat) : Int)] else [] := by
        simp only [sizesTo, h1, Nat.testBit_eq_decide_div_mod_eq, List.nil_append]
      rw [hk', hs]
      have hps : 2 ^ (62 - e + 1) = 2 ^ (62 - e) * 2 := Nat.pow_succ ..
      generalize d / 2 ^ (62 - e) = q at *
      generalize d % 2 ^ (62 - e) = t at *
      by_cases ht : q = 1
      · subst ht
        exact .inr ⟨62 - e, [], by omega, by simp, by omega, by omega⟩
      · have hq0 : q = 0 := by omega
        subst hq0
        exact .inl ⟨by simp, by omega⟩
    · right
      refine ⟨j, r ++ (if d.testBit (62 - e) then [((2 ^ (62 - e) : Nat) : Int)] else []), hj, ?_, h2, h3⟩
      simp only [sizesTo, h1, List.cons_append]

theorem top_spec (d : Nat) (hd : d < 2 ^ 63) (h0 : 0 < d) : ∃ j, j ≤ 62 ∧ top d = 2 ^ j ∧ 2 ^ j ≤ d ∧ d < 2 ^ (j + 1) ∧ (sizesTo d 63).getD 0 0 = (top d : Nat) := by
  rcases head_to d hd 63 (Nat.le_refl _) with ⟨_, h2⟩ | ⟨j, r, hj, h1, h2, h3⟩
  · simp at h2; omega
  · have : top d = 2 ^ j := by unfold top; rw [h1, List.getD_cons_zero, Int.toNat_natCast]
    exact ⟨j, hj, this, h2, h3, by rw [this, h1]; simp⟩

/-- The lowest bit of a number. -/
def lowb : Nat → Nat → Nat
  | 0, _ => 1
  | f + 1, m => if m % 2 = 1 then 1 else 2 * lowb f (m / 2)

def low (m : Nat) : Nat := lowb 12 m

def allB (p : Nat → Bool) : Nat → Bool
  | 0 => true
  | n + 1 => if p n then allB p n else false

theorem allB_spec (p : Nat → Bool) : ∀ n, allB p n = true → ∀ m, m < n → p m = true
  | 0, _, m, hm => by omega
  | n + 1, h, m, hm => by
    simp only [allB] at h
    split at h
    · rename_i hp
      by_cases e : m = n
      · rw [e]; exact hp
      · exact allB_spec p n h m (by omega)
    · cases h

theorem low_all : allB (fun m => m == 0 || bits .and .i64 (m : Int) (-(m : Int)) == (low m : Int)) 4097 = true := by decide +kernel

theorem low_go (m : Nat) (h0 : 0 < m) (h1 : m ≤ 4096) : bits .and .i64 (m : Int) (-(m : Int)) = (low m : Int) := by
  have h := allB_spec _ 4097 low_all m (by omega)
  simp only [Bool.or_eq_true, beq_iff_eq] at h
  rcases h with h | h
  · omega
  · exact h

theorem lowb_spec : ∀ (f m : Nat), 0 < m → m ≤ 2 ^ f → ∃ i, lowb f m = 2 ^ i ∧ m % 2 ^ i = 0 ∧ m % 2 ^ (i + 1) = 2 ^ i
  | 0, m, h0, h1 => ⟨0, rfl, by omega, by have : m = 1 := by simp at h1; omega
                                          subst this; rfl⟩
  | f + 1, m, h0, h1 => by
    by_cases h : m % 2 = 1
    · exact ⟨0, by simp [lowb, h], by omega, by simpa using h⟩
    · rw [Nat.pow_succ] at h1
      obtain ⟨i, e1, e2, e3⟩ := lowb_spec f (m / 2) (by omega) (by omega)
      have hm : m = 2 * (m / 2) := by omega
      have d1 : m % (2 * 2 ^ i) = 2 * (m / 2 % 2 ^ i) := by conv => lhs; rw [hm, Nat.mul_mod_mul_left]
      have d2 : m % (2 * 2 ^ (i + 1)) = 2 * (m / 2 % 2 ^ (i + 1)) := by conv => lhs; rw [hm, Nat.mul_mod_mul_left]
      refine ⟨i + 1, by simp only [lowb, h, if_false]; rw [e1, Nat.pow_succ, Nat.mul_comm], ?_, ?_⟩
      · rw [Nat.pow_succ, Nat.mul_comm, d1, e2]
      · rw [Nat.pow_succ 2 (i + 1), Nat.mul_comm (2 ^ (i + 1)) 2, d2, e3, Nat.pow_succ, Nat.mul_comm]

theorem low_spec (m : Nat) (h0 : 0 < m) (h1 : m ≤ 4096) : ∃ i, low m = 2 ^ i ∧ m % 2 ^ i = 0 ∧ m % 2 ^ (i + 1) = 2 ^ i := lowb_spec 12 m h0 h1

/-- The size of the cover at m. -/
def size (m n : Nat) : Nat := if 0 < m then min (top (n - m)) (low m) else top (n - m)

/-- The cover from m to n: places and sizes. -/
def cov : Nat → Nat → Nat → List (Nat × Nat)
  | 0, _, _ => []
  | f + 1, m, n => if m < n then (m, size m n) :: cov f (m + size m n) n else []

theorem two_dvd {a b m : Nat} (h : a ≤ b) (hm : m % 2 ^ b = 0) : m % 2 ^ a = 0 := by
  have h1 : 2 ^ a ∣ 2 ^ b := Nat.pow_dvd_pow 2 h
  exact Nat.mod_eq_zero_of_dvd (Nat.dvd_trans h1 (Nat.dvd_of_mod_eq_zero hm))

theorem min_pow (a b : Nat) : min (2 ^ a) (2 ^ b) = 2 ^ min a b := by
  rcases Nat.le_total a b with h | h
  · rw [Nat.min_eq_left h, Nat.min_eq_left (Nat.pow_le_pow_right (by omega) h)]
  · rw [Nat.min_eq_right h, Nat.min_eq_right (Nat.pow_le_pow_right (by omega) h)]

theorem size_ok (m n : Nat) (h : m < n) (hn : n ≤ 4096) : ∃ j, size m n = 2 ^ j ∧ m % 2 ^ j = 0 ∧ m + 2 ^ j ≤ n := by
  obtain ⟨k, _, e1, e2, _, _⟩ := top_spec (n - m) (by omega) (by omega)
  by_cases h0 : 0 < m
  · obtain ⟨i, f1, f2, _⟩ := low_spec m h0 (by omega)
    refine ⟨min k i, by unfold size; rw [if_pos h0, e1, f1, min_pow], two_dvd (Nat.min_le_right _ _) f2, ?_⟩
    have := Nat.pow_le_pow_right (show 0 < 2 by omega) (Nat.min_le_left k i)
    omega
  · have : m = 0 := by omega
    subst this
    exact ⟨k, by unfold size; rw [if_neg (by omega), e1], by simp, by omega⟩

def sumTo (l : List (Nat × Nat)) (k : Nat) : Nat := ((l.take k).map (·.2)).sum

theorem cov_at : ∀ (f m n k : Nat) (hk : k < (cov f m n).length), (cov f m n)[k].1 = m + sumTo (cov f m n) k ∧ (cov f m n)[k].1 < n ∧ (cov f m n)[k].2 = size (cov f m n)[k].1 n
  | 0, _, _, _, hk => by simp [cov] at hk
  | f + 1, m, n, k, hk => by
    by_cases h : m < n
    · have e : cov (f + 1) m n = (m, size m n) :: cov f (m + size m n) n := by simp only [cov]; rw [if_pos h]
      simp only [e] at hk ⊢
      cases k with
      | zero => exact ⟨by simp [sumTo], h, rfl⟩
      | succ k =>
        have ih := cov_at f (m + size m n) n k (by simpa using hk)
        refine ⟨?_, ih.2.1, ih.2.2⟩
        simp only [List.getElem_cons_succ, sumTo, List.take_succ_cons, List.map_cons, List.sum_cons]
        rw [ih.1]; unfold sumTo; omega
    · have e : cov (f + 1) m n = [] := by simp only [cov]; rw [if_neg h]
      simp [e] at hk

theorem cov_sum : ∀ (f m n : Nat), m ≤ n → n - m ≤ f → n ≤ 4096 → m + sumTo (cov f m n) (cov f m n).length = n
  | 0, m, n, h, hf, _ => by simp [cov, sumTo]; omega
  | f + 1, m, n, h, hf, hn => by
    by_cases h1 : m < n
    · obtain ⟨j, e1, _, e3⟩ := size_ok m n h1 hn
      have hp := Nat.two_pow_pos j
      have ih := cov_sum f (m + size m n) n (by omega) (by omega) hn
      have e : cov (f + 1) m n = (m, size m n) :: cov f (m + size m n) n := by simp only [cov]; rw [if_pos h1]
      rw [e]
      simp only [sumTo, List.length_cons, List.take_succ_cons, List.map_cons, List.sum_cons] at ih ⊢
      omega
    · have e : cov (f + 1) m n = [] := by simp only [cov]; rw [if_neg h1]
      simp [e, sumTo]; omega

theorem cov_few2 : ∀ (f k m n : Nat), m % 2 ^ k = 0 → n < m + 2 ^ k → n ≤ 4096 → (cov f m n).length ≤ k
  | 0, _, _, _, _, _, _ => by simp [cov]
  | f + 1, k, m, n, hm, hn, h4 => by
    by_cases h1 : m < n
    · have e : cov (f + 1) m n = (m, size m n) :: cov f (m + size m n) n := by simp only [cov]; rw [if_pos h1]
      obtain ⟨j, _, e1, e2, e3, _⟩ := top_spec (n - m) (by omega) (by omega)
      have hjk : j < k := by
        rcases Nat.lt_or_ge j k with h' | h'
        · exact h'
        · have := Nat.pow_le_pow_right (show 0 < 2 by omega) h'; omega
      have hs : size m n = 2 ^ j := by
        unfold size
        by_cases h0 : 0 < m
        · rw [if_pos h0]
          obtain ⟨i, f1, f2, f3⟩ := low_spec m h0 (by omega)
          have hik : k ≤ i := by
            rcases Nat.lt_or_ge i k with h' | h'
            · have := two_dvd (a := i + 1) h' hm
              have hp := Nat.two_pow_pos i
              omega
            · exact h'
          rw [e1, f1, min_pow, Nat.min_eq_left (by omega)]
        · rw [if_neg h0, e1]
      rw [Nat.pow_succ] at e3
      have ih := cov_few2 f j (m + 2 ^ j) n (by rw [Nat.add_mod_right]; exact two_dvd (by omega) hm) (by omega) h4
      rw [e, hs, List.length_cons]
      omega
    · have e : cov (f + 1) m n = [] := by simp only [cov]; rw [if_neg h1]
      simp [e]

theorem cov_few1 : ∀ (f j m n : Nat), m % 2 ^ j = 0 → j ≤ 12 → 0 < m → n ≤ 4096 → (cov f m n).length ≤ (12 - j) + 13
  | 0, _, _, _, _, _, _, _ => by simp [cov]
  | f + 1, j, m, n, hm, hj, h0, h4 => by
    by_cases h1 : m < n
    · have e : cov (f + 1) m n = (m, size m n) :: cov f (m + size m n) n := by simp only [cov]; rw [if_pos h1]
      obtain ⟨t, _, e1, e2, e3, _⟩ := top_spec (n - m) (by omega) (by omega)
      obtain ⟨i, f1, f2, f3⟩ := low_spec m h0 (by omega)
      have hji : j ≤ i := by
        rcases Nat.lt_or_ge i j with h' | h'
        · have := two_dvd (a := i + 1) h' hm
          have hp := Nat.two_pow_pos i
          omega
        · exact h'
      have hi12 : i < 12 := by
        rcases Nat.lt_or_ge i 12 with h' | h'
        · exact h'
        · have := two_dvd (a := 12) h' f2
          omega
      by_cases ht : i ≤ t
      · have hs : size m n = 2 ^ i := by unfold size; rw [if_pos h0, e1, f1, min_pow, Nat.min_eq_right ht]
        have hm' : (m + 2 ^ i) % 2 ^ (i + 1) = 0 := by
          have hd := Nat.div_add_mod m (2 ^ (i + 1))
          rw [f3] at hd
          have : m + 2 ^ i = 2 ^ (i + 1) * (m / 2 ^ (i + 1) + 1) := by
            rw [Nat.mul_add, Nat.mul_one]; have : 2 ^ (i + 1) = 2 ^ i * 2 := Nat.pow_succ ..; omega
          rw [this]; exact Nat.mul_mod_right _ _
        have ih := cov_few1 f (i + 1) (m + 2 ^ i) n hm' (by omega) (by omega) h4
        rw [e, hs, List.length_cons]
        omega
      · have h2 : 2 ^ (t + 1) ≤ 2 ^ i := Nat.pow_le_pow_right (by omega) (by omega)
        have := cov_few2 (f + 1) i m n f2 (by omega) h4
        omega
    · have e : cov (f + 1) m n = [] := by simp only [cov]; rw [if_neg h1]
      simp [e]

theorem cov_few (f m n : Nat) (hn : n ≤ 4096) : (cov f m n).length ≤ 26 := by
  by_cases h : 0 < m
  · have := cov_few1 f 0 m n (by simp [Nat.mod_one]) (by omega) h hn; omega
  · have : m = 0 := by omega
    subst this
    have := cov_few2 f 13 0 n (by simp) (by omega) hn; omega

end Go.Proofs.Ytclejdlklcabgaa.Plain
