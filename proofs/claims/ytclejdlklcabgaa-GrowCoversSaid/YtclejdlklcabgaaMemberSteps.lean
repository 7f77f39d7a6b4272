/- The walk of tabularylaw14.MemberSteps. -/
import Derived.Test.YtclejdlklcabgaaStepsLaw
import Derived.Deep.QuietTactic
import Derived.BigQuiet
namespace Go.Proofs.Ytclejdlklcabgaa
open Go.RowKit Plain

theorem steps_ok (x : Int) (i n s : Nat) (w : World) (hx : x = i) (h1 : i < n) (h2 : n ≤ 4096) (hs : Hid (steps i n = s)) :
    Calls Try.prog 13 #[.int .i64 x, .int .i64 n] w fun e w' => e = .returned (.int .i64 s) ∧ Below w.heap.size w w' := by
  subst hx
  refine (steps_calls i n w h1 h2).mono ?_
  rintro e w' ⟨rfl, hb⟩
  exact ⟨ret_int (by rw [hs.out]), hb⟩

theorem steps_lit (x y : Int) (i n s : Nat) (w : World) (hx : x = i) (hy : y = n) (h1 : i < n) (h2 : n ≤ 4096) (hs : steps i n = s) :
    Calls Try.prog 13 #[.int .i64 x, .int .i64 y] w fun e w' => e = .returned (.int .i64 s) ∧ Below w.heap.size w w' := by
  subst hy
  exact steps_ok x i n s w hx h1 h2 hs

theorem two_ok (n : Int) (b : Bool) (w : World) (h : Hid (two n = b)) (hlo : -9223372036854775808 ≤ n) (hhi : n ≤ 9223372036854775807) :
    Calls Try.prog 8 #[.int .i64 n] w fun e w' => e = .returned (.bool b) ∧ w = w' := by
  refine (two_calls n w hlo hhi).mono ?_
  rintro e w' ⟨rfl, rfl⟩
  exact ⟨ret_bool h.out, rfl⟩

theorem shown14 (w : World) : Calls Try.prog 12 #[] w fun e w' => e = .returned (.bool true) ∧ Below w.heap.size w w' := by
  go_enter Try.func12, Try.ntmps12
  go_wp2_with fail
  refine (steps_lit 4 5 4 5 1 _ rfl rfl (by omega) (by omega) steps45).mono ?_
  rintro e w1 ⟨rfl, hb⟩
  go_wp2_with fail
  refine (steps_lit 0 5 0 5 3 _ rfl rfl (by omega) (by omega) steps05).mono ?_
  rintro e w2 ⟨rfl, hb2⟩
  go_wp2
  go_ret
  exact ⟨rfl, hb.trans (hb2.mono hb.size)⟩

theorem member_none (i n : Int) (w : World) (h : i < 0 ∨ n ≤ i ∨ 4096 < n) :
    Calls Try.prog 5 #[.int .i64 i, .int .i64 n] w fun e w' => e = .returned (.bool true) ∧ Below w.heap.size w w' := by
  have HN := Lib.hid (fun W => steps_none i n W h)
  by_cases h1 : i < 0
  · go_enter Try.func5, Try.ntmps5
    go_wp2_with fail
    refine (shown14 _).mono ?_
    rintro e w1 ⟨rfl, hb⟩
    go_wp2_with fail
    refine (HN.out _).mono ?_
    rintro e w2 ⟨rfl, rfl⟩
    go_wp2
    go_ret
    exact ⟨rfl, hb⟩
  · by_cases h2 : n ≤ i
    · have h1' : 0 ≤ i := by omega
      go_enter Try.func5, Try.ntmps5
      go_wp2_with fail
      refine (shown14 _).mono ?_
      rintro e w1 ⟨rfl, hb⟩
      go_wp2_with fail
      refine (HN.out _).mono ?_
      rintro e w2 ⟨rfl, rfl⟩
      go_wp2
      go_ret
      exact ⟨rfl, hb⟩
    · have h1' : 0 ≤ i := by omega
      have h2' : i < n := by omega
      have h3 : 4096 < n := by omega
      go_enter Try.func5, Try.ntmps5
      go_wp2_with fail
      refine (shown14 _).mono ?_
      rintro e w1 ⟨rfl, hb⟩
      go_wp2_with fail
      refine (HN.out _).mono ?_
      rintro e w2 ⟨rfl, rfl⟩
      go_wp2
      go_ret
      exact ⟨rfl, hb⟩

set_option maxHeartbeats 1000000 in
theorem member_some (i n : Nat) (w : World) (h1 : i < n) (h2 : n ≤ 4096) :
    Calls Try.prog 5 #[.int .i64 i, .int .i64 n] w fun e w' => e = .returned (.bool true) ∧ Below w.heap.size w w' := by
  have p1 := steps_first i n h2
  have p2 := steps_first (n - 1) n h2
  have p3 := steps_twelve i n h2
  have p4 : two n = true → steps i n = steps 0 n := steps_two i n h2
  have p5 : two n = true → steps (n - 1) n = steps 0 n := steps_two (n - 1) n h2
  generalize hs : steps i n = s at *
  generalize ha : steps 0 n = a at *
  generalize hb : steps (n - 1) n = b at *
  generalize ht : two n = t at *
  have HS := Lib.hid hs
  have HA := Lib.hid ha
  have HB := Lib.hid hb
  have HT := Lib.hid ht
  clear hs ha hb ht
  have g1 : decide ((i : Int) < 0) = false := by simp
  have g2 : decide (n ≤ i) = false := by simp; omega
  have g3 : decide (4096 < (n : Int)) = false := by simp; omega
  have q1 : decide (s ≤ a) = true := by simpa using p1
  have q2 : decide (b ≤ a) = true := by simpa using p2
  have q3 : decide ((s : Int) ≤ 12) = true := by simp; omega
  have q4 : decide (0 ≤ (s : Int)) = true := by simp
  go_enter Try.func5, Try.ntmps5
  go_wp2_with fail
  refine (shown14 _).mono ?_
  rintro e w1 ⟨rfl, hb1⟩
  go_wp2_with fail
  refine (steps_ok _ i n s _ rfl h1 h2 HS).mono ?_
  rintro e w2 ⟨rfl, hb2⟩
  go_wp2_with fail
  refine (two_ok n t _ HT (by omega) (by omega)).mono ?_
  rintro e w3 ⟨rfl, rfl⟩
  go_wp2_with fail
  refine (steps_ok _ 0 n a _ rfl (by omega) h2 HA).mono ?_
  rintro e w4 ⟨rfl, hb4⟩
  go_wp2_with fail
  refine (steps_ok _ (n - 1) n b _ (by omega) (by omega) h2 HB).mono ?_
  rintro e w5 ⟨rfl, hb5⟩
  have hB : Below w.heap.size w w5 := by
    have c2 := hb1.trans (hb2.mono hb1.size)
    have c4 := c2.trans (hb4.mono c2.size)
    exact c4.trans (hb5.mono c4.size)
  cases t with
  | false =>
    go_wp2
    go_ret
    exact ⟨rfl, hB⟩
  | true =>
    obtain rfl := p4 rfl
    obtain rfl := p5 rfl
    clear p4 p5
    go_wp2
    go_ret
    exact ⟨rfl, hB⟩

theorem member_any (i n : Int) (w : World) :
    Calls Try.prog 5 #[.int .i64 i, .int .i64 n] w fun e w' => e = .returned (.bool true) ∧ Below w.heap.size w w' := by
  by_cases h : i < 0 ∨ n ≤ i ∨ 4096 < n
  · exact member_none i n w h
  · obtain ⟨I, rfl⟩ := Int.eq_ofNat_of_zero_le (show 0 ≤ i by omega)
    obtain ⟨N, rfl⟩ := Int.eq_ofNat_of_zero_le (show 0 ≤ n by omega)
    exact member_some I N w (by omega) (by omega)

end Go.Proofs.Ytclejdlklcabgaa
