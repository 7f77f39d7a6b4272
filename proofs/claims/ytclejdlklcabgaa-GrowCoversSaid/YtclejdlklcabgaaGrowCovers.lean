/- The walk of tabularylaw15.GrowCovers. -/
import Derived.Test.YtclejdlklcabgaaCover
import Derived.Test.YtclejdlklcabgaaMemberSteps
namespace Go.Proofs.Ytclejdlklcabgaa
open Go.RowKit Plain

/-- What is known of a cover's sizes. -/
structure GoodC (m n : Nat) (l : List Int) : Prop where
  len : l.length ≤ 26
  two : ∀ k, k < l.length → two (l.getD k 0) = true
  range : ∀ k, k < l.length → 0 < l.getD k 0 ∧ l.getD k 0 ≤ 4096
  div : ∀ k, k < l.length → ((m + (l.take k).sum) % l.getD k 0 != 0) = false
  sums : ∀ k, 0 ≤ (l.take k).sum ∧ (l.take k).sum ≤ 4096
  step : ∀ k, k < l.length → (l.take (k + 1)).sum = (l.take k).sum + l.getD k 0
  all : m + (l.take l.length).sum = n

theorem szs_get (l : List (Nat × Nat)) (k : Nat) (h : k < l.length) : (szs l).getD k 0 = ((l[k].2 : Nat) : Int) := by
  simp [szs, h]

theorem szs_sum (l : List (Nat × Nat)) (k : Nat) : ((szs l).take k).sum = ((sumTo l k : Nat) : Int) := by
  unfold szs sumTo
  rw [← List.map_take]
  induction l.take k with
  | nil => rfl
  | cons a r ih => simp [ih]

theorem good_cover (m n : Nat) (hm : m ≤ n) (hn : n ≤ 4096) : GoodC m n (covs m n) := by
  have hlen : (covs m n).length = (cov 4096 m n).length := by simp [covs, szs]
  have hpos : ∀ x ∈ covs m n, 0 < x := by
    intro x hx
    obtain ⟨k, hk, rfl⟩ := List.mem_iff_getElem.1 hx
    have hk' : k < (cov 4096 m n).length := by omega
    obtain ⟨a1, a2, a3⟩ := cov_at 4096 m n k hk'
    obtain ⟨j, b1, b2, b3⟩ := size_ok _ n a2 hn
    have := Nat.two_pow_pos j
    simp only [covs, szs, List.getElem_map]
    omega
  have hsum : ∀ k, ((covs m n).take k).sum = ((sumTo (cov 4096 m n) k : Nat) : Int) := fun k => szs_sum _ k
  have hall := cov_sum 4096 m n hm (by omega) hn
  have htot : (covs m n).sum = ((sumTo (cov 4096 m n) (cov 4096 m n).length : Nat) : Int) := by rw [← hsum, ← hlen, List.take_length]
  refine ⟨by rw [hlen]; exact cov_few 4096 m n hn, ?_, ?_, ?_, ?_, fun k hk => sum_take_succ _ k hk, ?_⟩
  · intro k hk
    have hk' : k < (cov 4096 m n).length := by omega
    obtain ⟨a1, a2, a3⟩ := cov_at 4096 m n k hk'
    obtain ⟨j, b1, b2, b3⟩ := size_ok _ n a2 hn
    rw [show covs m n = szs (cov 4096 m n) from rfl, szs_get _ k hk', a3, b1]
    exact (two_iff _).2 ⟨j, by simp⟩
  · intro k hk
    have hk' : k < (cov 4096 m n).length := by omega
    obtain ⟨a1, a2, a3⟩ := cov_at 4096 m n k hk'
    obtain ⟨j, b1, b2, b3⟩ := size_ok _ n a2 hn
    have := Nat.two_pow_pos j
    rw [show covs m n = szs (cov 4096 m n) from rfl, szs_get _ k hk', a3, b1]
    omega
  · intro k hk
    have hk' : k < (cov 4096 m n).length := by omega
    obtain ⟨a1, a2, a3⟩ := cov_at 4096 m n k hk'
    obtain ⟨j, b1, b2, b3⟩ := size_ok _ n a2 hn
    rw [hsum, show covs m n = szs (cov 4096 m n) from rfl, szs_get _ k hk', a3, b1]
    rw [a1] at b2
    have : (((m + sumTo (cov 4096 m n) k : Nat) : Int) % ((2 ^ j : Nat) : Int)) = 0 := by rw [← Int.natCast_emod, b2]; rfl
    rw [Int.natCast_add] at this
    rw [this]; rfl
  · intro k
    have := sum_take_le (covs m n) hpos k
    rw [htot] at this
    omega
  · rw [hsum, hlen]; omega

theorem cover_ok (m n : Nat) (x y : Int) (l : List Int) (w : World) (hx : x = m) (hy : y = n) (hl : Hid (covs m n = l)) (hm : m ≤ n) (hn : n ≤ 4096) :
    Calls Try.prog 7 #[.int .i64 x, .int .i64 y] w fun e w' => ∃ a cap, e = .returned (.slice a l.length cap) ∧ l.length ≤ cap ∧
      Hid (∀ k, k < l.length → ∃ g, a = some ⟨g, 0, none⟩ ∧ w.heap.size ≤ g ∧ g < w'.heap.size ∧ w'.cell? ⟨g, k, none⟩ = some (.int .i64 (l.getD k 0))) ∧ Below w.heap.size w w' := by
  subst hx hy
  refine (cover_calls m n w hm hn).mono ?_
  rintro e w' ⟨v, rfl, hown, hb⟩
  rw [hl.out] at hown
  by_cases h0 : 0 < l.length
  · obtain ⟨g, cap, rfl, hg, hg2, hcap, hc⟩ := row_open hown h0
    exact ⟨_, cap, rfl, hcap, fun k hk => ⟨g, rfl, by omega, hg2, hc k hk⟩, hb⟩
  · have h0' : l.length = 0 := by omega
    obtain ⟨_, ho⟩ := hown
    rcases ho with ⟨rfl, _⟩ | ⟨g, cap, cur, rfl, _⟩
    · exact ⟨_, _, by rw [h0'], by omega, fun k hk => by omega, hb⟩
    · exact ⟨_, cap, rfl, by omega, fun k hk => by omega, hb⟩

theorem covs611 : covs 6 11 = [2, 2, 1] := by decide +kernel
theorem covs05 : covs 0 5 = [4, 1] := by decide +kernel

theorem cover611 (w : World) : Calls Try.prog 7 #[.int .i64 6, .int .i64 11] w fun e w' => ∃ g cap, e = .returned (.slice (some ⟨g, 0, none⟩) 3 cap) ∧ w.heap.size ≤ g ∧ g < w'.heap.size ∧
    w'.cell? ⟨g, 0, none⟩ = some (.int .i64 2) ∧ w'.cell? ⟨g, 1, none⟩ = some (.int .i64 2) ∧ w'.cell? ⟨g, 2, none⟩ = some (.int .i64 1) ∧ Below w.heap.size w w' := by
  refine (cover_ok 6 11 6 11 _ w rfl rfl (show Hid _ from covs611) (by omega) (by omega)).mono ?_
  rintro e w' ⟨a, cap, rfl, _, hc, hb⟩
  obtain ⟨g, rfl, h1, h2, c0⟩ := hc.out 0 (by simp)
  obtain ⟨g1, e1, _, _, c1⟩ := hc.out 1 (by simp)
  cases e1
  obtain ⟨g2, e2, _, _, c2⟩ := hc.out 2 (by simp)
  cases e2
  exact ⟨g, cap, rfl, h1, h2, c0, c1, c2, hb⟩

theorem cover05 (w : World) : Calls Try.prog 7 #[.int .i64 0, .int .i64 5] w fun e w' => ∃ g cap, e = .returned (.slice (some ⟨g, 0, none⟩) 2 cap) ∧ w.heap.size ≤ g ∧
    w'.cell? ⟨g, 0, none⟩ = some (.int .i64 4) ∧ w'.cell? ⟨g, 1, none⟩ = some (.int .i64 1) ∧ Below w.heap.size w w' := by
  refine (cover_ok 0 5 0 5 _ w rfl rfl (show Hid _ from covs05) (by omega) (by omega)).mono ?_
  rintro e w' ⟨a, cap, rfl, _, hc, hb⟩
  obtain ⟨g, rfl, h1, h2, c0⟩ := hc.out 0 (by simp)
  obtain ⟨g1, e1, _, _, c1⟩ := hc.out 1 (by simp)
  cases e1
  exact ⟨g, cap, rfl, h1, c0, c1, hb⟩

theorem bcell {W w1 : World} (hb : Below W.heap.size W w1) : (∀ b o, b < W.heap.size → w1.cell? ⟨b, o, none⟩ = W.cell? ⟨b, o, none⟩) :=
  fun b o h => hb.cell (p := ⟨b, o, none⟩) h

set_option maxHeartbeats 1000000 in
theorem shown15 (w : World) : Calls Try.prog 6 #[] w fun e w' => e = .returned (.bool true) ∧ Below w.heap.size w w' := by
  go_enter Try.func6, Try.ntmps6
  go_wp2_with fail
  refine (cover611 _).mono ?_
  rintro e w1 ⟨g, cap, rfl, h1, h2, c0, c1, c2, hb⟩
  go_wp2_with fail
  refine (cover05 _).mono ?_
  rintro e w2 ⟨g', cap', rfl, h1', d0, d1, hb2⟩
  have k0 := (bcell hb2 g 0 h2).trans c0
  have k1 := (bcell hb2 g 1 h2).trans c1
  have k2 := (bcell hb2 g 2 h2).trans c2
  clear c0 c1 c2
  go_wp2
  go_ret
  exact ⟨rfl, hb.trans (hb2.mono hb.size)⟩

theorem grow_none (m n : Int) (w : World) (h : m < 0 ∨ n < m ∨ 4096 < n) :
    Calls Try.prog 3 #[.int .i64 m, .int .i64 n] w fun e w' => e = .returned (.bool true) ∧ Below w.heap.size w w' := by
  have HN := Lib.hid (fun W => cover_none m n W h)
  by_cases h1 : m < 0
  · go_enter Try.func3, Try.ntmps3
    go_wp2_with fail
    refine (shown15 _).mono ?_
    rintro e w1 ⟨rfl, hb⟩
    go_wp2_with fail
    refine (HN.out _).mono ?_
    rintro e w2 ⟨⟨a, cap, rfl⟩, hb2⟩
    go_wp2
    go_ret
    exact ⟨rfl, hb.trans (hb2.mono hb.size)⟩
  · by_cases h2 : n < m
    · have h1' : 0 ≤ m := by omega
      go_enter Try.func3, Try.ntmps3
      go_wp2_with fail
      refine (shown15 _).mono ?_
      rintro e w1 ⟨rfl, hb⟩
      go_wp2_with fail
      refine (HN.out _).mono ?_
      rintro e w2 ⟨⟨a, cap, rfl⟩, hb2⟩
      go_wp2
      go_ret
      exact ⟨rfl, hb.trans (hb2.mono hb.size)⟩
    · have h1' : 0 ≤ m := by omega
      have h2' : m ≤ n := by omega
      have h3 : 4096 < n := by omega
      go_enter Try.func3, Try.ntmps3
      go_wp2_with fail
      refine (shown15 _).mono ?_
      rintro e w1 ⟨rfl, hb⟩
      go_wp2_with fail
      refine (HN.out _).mono ?_
      rintro e w2 ⟨⟨a, cap, rfl⟩, hb2⟩
      go_wp2
      go_ret
      exact ⟨rfl, hb.trans (hb2.mono hb.size)⟩

set_option maxHeartbeats 1000000 in
theorem grow_some (m n : Nat) (w : World) (hm : m ≤ n) (hn : n ≤ 4096) :
    Calls Try.prog 3 #[.int .i64 m, .int .i64 n] w fun e w' => e = .returned (.bool true) ∧ Below w.heap.size w w' := by
  have hg := good_cover m n hm hn
  generalize hl : covs m n = l at *
  have HL := Lib.hid hl
  have HG := Lib.hid hg
  have hlen := hg.len
  clear hl hg
  have g1 : decide ((m : Int) < 0) = false := by simp
  have g2 : decide (n < m) = false := by simp; omega
  have g3 : decide (4096 < (n : Int)) = false := by simp; omega
  go_enter Try.func3, Try.ntmps3
  go_wp2_with fail
  refine (shown15 _).mono ?_
  rintro e w1 ⟨rfl, hb⟩
  go_wp2_with fail
  refine (cover_ok m n _ _ l _ rfl rfl HL hm hn).mono ?_
  rintro e w2 ⟨a, cap, rfl, hcap, HC, hb2⟩
  go_wp2
  go_loop [7, 8] (fun t i => ∃ k : Nat, k ≤ l.length ∧ i = .int .i64 k ∧ t = .int .i64 (m + (l.take k).sum)) (fun _ i => l.length - (intOf i).toNat)
  case atStart => exact ⟨0, by omega, rfl, by simp⟩
  case round =>
    obtain ⟨k, hk, rfl, rfl⟩ := hrel
    have hS := HG.out.sums k
    by_cases hlt2 : k < l.length
    · obtain ⟨g, rfl, _, _, hx⟩ := HC.out k hlt2
      have P1 := Lib.hid (HG.out.two k hlt2)
      have hr := HG.out.range k hlt2
      have HS := Lib.hid (HG.out.step k hlt2)
      have hd := HG.out.div k hlt2
      generalize l.getD k 0 = x at *
      generalize hSS : (l.take k).sum = S at *
      clear hSS
      obtain ⟨p2, p3⟩ := hr
      obtain ⟨s1, s2⟩ := hS
      go_wp2_with fail
      refine (two_ok x true _ P1 (by omega) (by omega)).mono ?_
      rintro e w' ⟨rfl, rfl⟩
      go_wp2
      go_round
      case rel => exact ⟨k + 1, by omega, by go_num, by rw [HS.out]; go_num⟩
      case measure => simp [intOf]; omega
    · obtain rfl : k = l.length := by omega
      rw [HG.out.all]
      have h26 : decide ((l.length : Int) ≤ 26) = true := by simp; omega
      go_wp2
      go_ret
      exact ⟨rfl, hb.trans (hb2.mono hb.size)⟩

theorem grow_any (m n : Int) (w : World) :
    Calls Try.prog 3 #[.int .i64 m, .int .i64 n] w fun e w' => e = .returned (.bool true) ∧ Below w.heap.size w w' := by
  by_cases h : m < 0 ∨ n < m ∨ 4096 < n
  · exact grow_none m n w h
  · obtain ⟨M, rfl⟩ := Int.eq_ofNat_of_zero_le (show 0 ≤ m by omega)
    obtain ⟨N, rfl⟩ := Int.eq_ofNat_of_zero_le (show 0 ≤ n by omega)
    exact grow_some M N w (by omega) (by omega)

end Go.Proofs.Ytclejdlklcabgaa
