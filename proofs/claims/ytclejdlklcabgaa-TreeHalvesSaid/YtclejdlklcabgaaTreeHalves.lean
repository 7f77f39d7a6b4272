/- The walk of tabularylaw13.TreeHalves. -/
import Derived.Test.YtclejdlklcabgaaWalks2
import Derived.Deep.QuietTactic
import Derived.BigQuiet
namespace Go.Proofs.Ytclejdlklcabgaa
open Go.RowKit Plain

theorem below_drewN {B : Nat} {a w : World} (h : Below B a w) (n : Nat) : Below B a (w.drewN n) := ⟨h.os, h.tape, h.output, h.size, h.block⟩

theorem law_small (n : Int) (w : World) (hlo : -9223372036854775808 ≤ n) (h : n < 1) :
    Calls Try.prog 4 #[.int .i64 n] w fun e w' => e = .returned (.bool true) ∧ Below w.heap.size w w' := by
  have h2 : n < 2 := by omega
  go_enter Try.func4, Try.ntmps4
  go_wp2_with fail
  refine (shown13 _).mono ?_
  rintro e w1 ⟨rfl, hb⟩
  go_wp2_with fail
  refine (half_small n _ h2).mono ?_
  rintro e w2 ⟨rfl, rfl⟩
  go_wp2_with fail
  refine (sizes_none n _ h hlo).mono ?_
  rintro e w2 ⟨rfl, rfl⟩
  go_wp2
  refine wp_loop_rounds 1 ?_
  rw [rounds_succ]
  go_wp2
  go_ret
  exact ⟨rfl, hb⟩

theorem two_yes (n : Int) (w : World) (h : Hid (two n = true)) (hlo : -9223372036854775808 ≤ n) (hhi : n ≤ 9223372036854775807) :
    Calls Try.prog 8 #[.int .i64 n] w fun e w' => e = .returned (.bool true) ∧ w = w' := by
  refine (two_calls n w hlo hhi).mono ?_
  rintro e w' ⟨rfl, rfl⟩
  exact ⟨ret_bool h.out, rfl⟩

/-- What is known of the sizes. -/
structure Good (N : Nat) (l : List Int) : Prop where
  pos : 0 < l.length
  len : l.length ≤ 63
  two : ∀ k, k < l.length → two (l.getD k 0) = true
  range : ∀ k, k < l.length → 0 < l.getD k 0 ∧ l.getD k 0 ≤ 4611686018427387904
  falls : ∀ k, k < l.length → 1 ≤ k → decide (l.getD (k - 1) 0 ≤ l.getD k 0) = false
  sums : ∀ k, 0 ≤ (l.take k).sum ∧ (l.take k).sum ≤ N
  step : ∀ k, k < l.length → (l.take (k + 1)).sum = (l.take k).sum + l.getD k 0
  all : (l.take l.length).sum = N

theorem good_sizes (N : Nat) (h0 : 0 < N) (h : N < 2 ^ 63) : Good N (sizesTo N 63) where
  pos := len_pos N h h0
  len := sizesTo_len N 63
  two k hk := (at_place N k hk).1
  range k hk := ⟨(at_place N k hk).2.1, (at_place N k hk).2.2.1⟩
  falls k hk h1 := by have := (at_place N k hk).2.2.2 (by omega); rw [decide_eq_false_iff_not]; omega
  sums k := by have := sum_take_le (sizesTo N 63) (fun x hx => pos_mem hx) k; rw [sum_all N h] at this; exact this
  step k hk := sum_take_succ _ k hk
  all := by rw [List.take_length, sum_all N h]

/-- The loop's world: as it was behind the sizes, but for draws. -/
def Loop13 (l : List Int) (w1 : World) (t i : Value) (wr : World) : Prop :=
  ∃ k q : Nat, k ≤ l.length ∧ i = .int .i64 k ∧ t = .int .i64 (l.take k).sum ∧ wr = w1.drewN q

/-- A round of the loop, with what stands behind it. -/
theorem half_ok (N h : Nat) (w : World) (hh : Hid (half N = h)) (h2 : 2 ≤ N) (hhi : N < 9223372036854775808) :
    Calls Try.prog 10 #[.int .i64 N] w fun e w' => e = .returned (.int .i64 h) ∧ w = w' := by
  refine (half_calls N w (by omega) (by omega)).mono ?_
  rintro e w' ⟨rfl, rfl⟩
  exact ⟨by rw [Int.toNat_natCast, hh.out], rfl⟩

theorem sizes_ok (N : Nat) (l : List Int) (w : World) (hl : Hid (sizesTo N 63 = l)) (h0 : 0 < N) (hhi : N < 9223372036854775808) (hL : 0 < l.length) :
    Calls Try.prog 11 #[.int .i64 N] w fun e w' => ∃ g cap, e = .returned (.slice (some ⟨g, 0, none⟩) l.length cap) ∧ w.heap.size ≤ g ∧ l.length ≤ cap ∧
      Hid (∀ j, j < l.length → w'.cell? ⟨g, j, none⟩ = some (.int .i64 (l.getD j 0))) ∧ Below w.heap.size w w' := by
  refine (sizes_pos N w (by omega) (by omega)).mono ?_
  rintro e w' ⟨v, rfl, hown, hb⟩
  rw [Int.toNat_natCast, hl.out] at hown
  obtain ⟨g, cap, rfl, hg, _, hcap, hc⟩ := row_open hown hL
  exact ⟨g, cap, rfl, hg, hcap, hc, hb⟩

set_option maxHeartbeats 1000000 in
theorem law_big (N : Nat) (w : World) (h2 : 2 ≤ N) (hhi : N < 9223372036854775808) :
    Calls Try.prog 4 #[.int .i64 N] w fun e w' => e = .returned (.bool true) ∧ Below w.heap.size w w' := by
  have hs := half_spec N (by omega) (by omega)
  have ht := half_two N
  generalize hh : half N = h at *
  have HH := Lib.hid hh
  have HT := Lib.hid ht
  clear hh ht
  obtain ⟨h3, h4, _⟩ := hs
  have hg := good_sizes N (by omega) (by omega)
  generalize hl : sizesTo N 63 = l at *
  have HL := Lib.hid hl
  have HG := Lib.hid hg
  have hL := hg.pos
  have hL2 := hg.len
  clear hl hg
  go_enter Try.func4, Try.ntmps4
  go_wp2_with fail
  refine (shown13 _).mono ?_
  rintro e w1 ⟨rfl, hb⟩
  go_wp2_with fail
  refine (half_ok N h _ HH h2 hhi).mono ?_
  rintro e w2 ⟨rfl, rfl⟩
  go_wp2_with fail
  refine (sizes_ok N l _ HL (by omega) hhi hL).mono ?_
  rintro e w2 ⟨g, cap, rfl, hg, hcap, HC, hb2⟩
  go_wp2
  go_loopw [6, 7] (fun t i wr => Loop13 l w2 t i wr) (fun _ i _ => l.length - (intOf i).toNat)
  case atStart => exact ⟨0, 0, by omega, rfl, rfl, rfl⟩
  case round =>
    obtain ⟨k, q, hk, rfl, rfl, rfl⟩ := hrel
    have hS := HG.out.sums k
    by_cases hlt2 : k < l.length
    · have hx := HC.out k hlt2
      have P1 := Lib.hid (HG.out.two k hlt2)
      have hr := HG.out.range k hlt2
      have hS2 := HG.out.sums (k + 1)
      have HS := Lib.hid (HG.out.step k hlt2)
      rw [HS.out] at hS2
      have hf := HG.out.falls k hlt2
      have hy : 0 < k → w2.cell? ⟨g, k - 1, none⟩ = some (.int .i64 (l.getD (k - 1) 0)) := fun h => HC.out (k - 1) (by omega)
      generalize l.getD k 0 = x at *
      generalize l.getD (k - 1) 0 = y at *
      generalize hSS : (l.take k).sum = S at *
      clear hSS
      obtain ⟨p2, p3⟩ := hr
      obtain ⟨s1, s2⟩ := hS
      obtain ⟨_, s3⟩ := hS2
      by_cases hk0 : k = 0
      · subst hk0
        clear hy hf
        go_wp2_with fail
        refine (two_yes x _ P1 (by omega) (by omega)).mono ?_
        rintro e w' ⟨rfl, rfl⟩
        go_wp2
        go_quiet (fail)
        go_wp2
        go_roundw
        case rel => exact ⟨1, _, by omega, rfl, by rw [HS.out], rfl⟩
        case measure => simp [intOf]; omega
      · have hk1 : 1 ≤ k := by omega
        have hk2 : decide (0 < k) = true := by simp; omega
        have hy := hy hk1
        have hxy := hf hk1
        clear hk0 hf
        go_wp2_with fail
        refine (two_yes x _ P1 (by omega) (by omega)).mono ?_
        rintro e w' ⟨rfl, rfl⟩
        go_wp2
        have q1 : IntKind.i64.wrap ((k : Int) - 1) = (k : Int) - 1 := IntWalk.i64_in _ (by omega)
        have q2 : (0 : Int) ≤ (k : Int) - 1 := by omega
        have q3 : ((k : Int) - 1).toNat = k - 1 := by omega
        have q4 : ((k : Int) - 1) < (l.length : Int) := by omega
        go_quiet (fail)
        clear q1 q2 q3 q4
        go_wp2
        go_roundw
        case rel => exact ⟨k + 1, _, by omega, by go_num, by rw [HS.out], rfl⟩
        case measure => simp [intOf]; omega
    · obtain rfl : k = l.length := by omega
      rw [HG.out.all]
      have h5 : decide (h < N) = true := by simp; omega
      have h6 : decide ((N : Int) - h ≤ h) = true := by simp; omega
      have h7 : decide ((N : Int) < 2) = false := by simp; omega
      go_wp2_with fail
      refine (two_yes h _ HT (by omega) (by omega)).mono ?_
      rintro e w' ⟨rfl, rfl⟩
      go_wp2
      go_ret
      exact ⟨rfl, below_drewN (hb.trans (hb2.mono hb.size)) q⟩

theorem sizes1 : sizesTo (1 : Int).toNat 63 = [1] := by decide +kernel

theorem sizes1_calls (w : World) : Calls Try.prog 11 #[.int .i64 1] w fun e w' => ∃ g cap, e = .returned (.slice (some ⟨g, 0, none⟩) 1 cap) ∧
    w'.cell? ⟨g, 0, none⟩ = some (.int .i64 1) ∧ Below w.heap.size w w' := by
  refine (sizes_pos 1 w (by omega) (by omega)).mono ?_
  rintro e w' ⟨v, rfl, hown, hb⟩
  rw [sizes1] at hown
  obtain ⟨g, cap, rfl, hg, _, _, hc⟩ := row_open hown (by simp)
  exact ⟨g, cap, rfl, hc 0 (by simp), hb⟩

set_option maxHeartbeats 1000000 in
theorem law_one (w : World) : Calls Try.prog 4 #[.int .i64 1] w fun e w' => e = .returned (.bool true) ∧ Below w.heap.size w w' := by
  go_enter Try.func4, Try.ntmps4
  go_wp2_with fail
  refine (shown13 _).mono ?_
  rintro e w1 ⟨rfl, hb⟩
  go_wp2_with fail
  refine (half_small 1 _ (by omega)).mono ?_
  rintro e w2 ⟨rfl, rfl⟩
  go_wp2_with fail
  refine (sizes1_calls _).mono ?_
  rintro e w2 ⟨g, cap, rfl, hc, hb2⟩
  go_wp2
  refine wp_loop_rounds 2 ?_
  rw [rounds_succ]
  go_wp2_with fail
  refine (two_yes 1 _ two_one (by omega) (by omega)).mono ?_
  rintro e w' ⟨rfl, rfl⟩
  go_wp2
  go_quiet (fail)
  go_wp2
  rw [rounds_succ]
  go_wp2
  go_ret
  exact ⟨rfl, below_drewN (hb.trans (hb2.mono hb.size)) _⟩

theorem law_any (n : Int) (w : World) (hlo : -9223372036854775808 ≤ n) (hhi : n ≤ 9223372036854775807) :
    Calls Try.prog 4 #[.int .i64 n] w fun e w' => e = .returned (.bool true) ∧ Below w.heap.size w w' := by
  by_cases h : n < 1
  · exact law_small n w hlo h
  · by_cases h1 : n = 1
    · subst h1; exact law_one w
    · obtain ⟨N, rfl⟩ := Int.eq_ofNat_of_zero_le (show 0 ≤ n by omega)
      exact law_big N w (by omega) (by omega)

end Go.Proofs.Ytclejdlklcabgaa
