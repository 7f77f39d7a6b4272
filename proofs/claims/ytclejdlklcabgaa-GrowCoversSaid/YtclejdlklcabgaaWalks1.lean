/- The walks of tabularyref13.Two, tree.Half, tree.Sizes. -/
import Derived.Test.YtclejdlklcabgaaPlain
import Derived.Test.YtclejdlklcabgaaShelf
import Derived.Test.YtclejdlklcabgaaProg
import Derived.WalkKit
import Derived.Lib.Hide
import Derived.Maps.AppendAt
namespace Go.Proofs.Ytclejdlklcabgaa
open Go.RowKit Plain

theorem ret_bool {a b : Bool} (h : a = b) : Ending.returned (.bool a) = .returned (.bool b) := by rw [h]
theorem ret_int {k : IntKind} {a b : Int} (h : a = b) : Ending.returned (.int k a) = .returned (.int k b) := by rw [h]

set_option maxHeartbeats 400000 in
theorem two_calls (n : Int) (w : World) (hlo : -9223372036854775808 ≤ n) (hhi : n ≤ 9223372036854775807) :
    Calls Try.prog 8 #[.int .i64 n] w fun e w' => e = .returned (.bool (two n)) ∧ w = w' := by
  by_cases h1 : n < 1
  · have ht := Lib.hid (two_neg n h1)
    go_enter Try.func8, Try.ntmps8
    go_wp2
    go_ret
    exact ⟨ret_bool ht.out.symm, rfl⟩
  · have h1' : 1 ≤ n := by omega
    go_enter Try.func8, Try.ntmps8
    go_wp2
    go_loop [0] (fun i => ∃ m : Int, 1 ≤ m ∧ m ≤ 9223372036854775807 ∧ Hid (two m = two n) ∧ i = .int .i64 m) (fun i => (intOf i).toNat)
    case atStart => exact ⟨n, h1', hhi, rfl, rfl⟩
    case round =>
      obtain ⟨m, hm1, hm2, hm3, rfl⟩ := hrel
      by_cases he : m % 2 = 0
      · have he1 : (m % 2 == 0) = true := by simp [he]
        have hq := Lib.hid ((two_even m hm1 he).trans hm3.out)
        have hq1 : 1 ≤ m / 2 := by omega
        have hq2 : m / 2 ≤ 9223372036854775807 := by omega
        have hq3 : m / 2 < m := by omega
        clear he hm3
        go_wp2
        go_round
        case rel => exact ⟨m / 2, hq1, hq2, hq.out, rfl⟩
        case measure => simp [intOf]; omega
      · have he1 : (m % 2 == 0) = false := by simp [he]
        have hq := Lib.hid ((two_odd m (by omega)).symm.trans hm3.out)
        clear he hm3
        go_wp2
        go_ret
        exact ⟨ret_bool hq.out, rfl⟩

theorem half_small (n : Int) (w : World) (h : n < 2) :
    Calls Try.prog 10 #[.int .i64 n] w fun e w' => e = .returned (.int .i64 0) ∧ w = w' := by
  go_enter Try.func10, Try.ntmps10
  go_wp2
  go_ret
  exact ⟨rfl, rfl⟩

theorem len_calls (n x : Int) (w : World) (hx : x = n - 1) (h : 2 ≤ n) (hhi : n ≤ 9223372036854775807) :
    Calls Try.prog 15 #[.int .u64 x] w fun e w' => ∃ k : Nat, k ≤ 62 ∧ Hid (half n.toNat = 2 ^ k) ∧ e = .returned (.int .i64 (k + 1)) ∧ w = w' := by
  subst hx
  have hb := bitLen_bounds (n - 1).toNat (by omega) (by omega)
  obtain ⟨b1, b2, -, -⟩ := hb
  refine (Try.bits_Len (n - 1) w (by omega) (by omega)).mono ?_
  rintro e w' ⟨rfl, rfl⟩
  refine ⟨Lib.bitLen (n - 1).toNat - 1, by omega, ?_, ret_int (by omega), rfl⟩
  show half n.toNat = _
  unfold half; congr 3; omega

theorem wrap_pow (k : Nat) (hk : k ≤ 62) : wrap64 ((2 : Int) ^ k) = ((2 ^ k : Nat) : Int) := by
  have h1 : (2 : Nat) ^ k ≤ 2 ^ 62 := Nat.pow_le_pow_right (by omega) hk
  have h3 : ((2 : Int) ^ k) = ((2 ^ k : Nat) : Int) := by simp
  rw [h3]
  generalize (2 : Nat) ^ k = m at h1
  unfold wrap64
  omega

set_option maxHeartbeats 400000 in
theorem half_calls (n : Int) (w : World) (h : 2 ≤ n) (hhi : n ≤ 9223372036854775807) :
    Calls Try.prog 10 #[.int .i64 n] w fun e w' => e = .returned (.int .i64 (half n.toNat)) ∧ w = w' := by
  go_enter Try.func10, Try.ntmps10
  go_wp2_with fail
  refine (len_calls n (n - 1) _ rfl (by omega) (by omega)).mono ?_
  rintro e w' ⟨k, hk, he, rfl, rfl⟩
  go_wp2
  go_ret
  exact ⟨ret_int ((wrap_pow k hk).trans (by rw [he.out])), rfl⟩

theorem Try.infoInt : (Try.prog.info? 3).map (fun i => (i.zero, i.size, i.bytes)) = some (some (.int .i64 0), 1, 8) := by kernel_rfl

theorem pow62 (d : Nat) (hd : d < 63) : wrap64 ((2 : Int) ^ (62 - d)) = ((2 ^ (62 - d) : Nat) : Int) := wrap_pow _ (by omega)

set_option maxHeartbeats 1000000 in
theorem sizes_pos (n : Int) (w : World) (hlo : 0 < n) (hhi : n ≤ 9223372036854775807) :
    Calls Try.prog 11 #[.int .i64 n] w fun e w' => ∃ v, e = .returned v ∧ w'.ownsRow w.heap.size 3 1 v (sizesTo n.toNat 63).length ((sizesTo n.toNat 63).map (Value.int .i64)) ∧ Below w.heap.size w w' := by
  obtain ⟨i0, hi, hz0, hz1, hz2⟩ := info_parts Try.infoInt
  go_enter Try.func11, Try.ntmps11
  go_wp2
  go_loopw [3, 4] (fun v i wr => ∃ d : Nat, d ≤ 63 ∧ i = .int .i64 (62 - d) ∧ wr.ownsRow w.heap.size 3 1 v (sizesTo n.toNat d).length ((sizesTo n.toNat d).map (Value.int .i64)) ∧ Below w.heap.size w wr) (fun _ i _ => (intOf i + 1).toNat)
  case atStart => exact ⟨0, by omega, rfl, World.ownsRow_nil _ _ _ _, Below.refl _ _⟩
  case round =>
    obtain ⟨d, hd, rfl, hown, hb⟩ := hrel
    by_cases hlt : d < 63
    · have hbit := bit_test n (62 - d) (by omega) hhi
      have hlen := sizesTo_len n.toNat d
      cases ht : n.toNat.testBit (62 - d) with
      | true =>
        rw [ht] at hbit
        have hs := Lib.hid (show sizesTo n.toNat (d + 1) = sizesTo n.toNat d ++ [((2 ^ (62 - d) : Nat) : Int)] by simp only [sizesTo, ht, if_true])
        clear ht
        have HP := Lib.hid (pow62 d hlt)
        have hz := hb.size
        go_wp2_with (at_builtin; refine wpList_append_own _ rfl _ _ 23 rfl w.heap.size 3 i0 (.int .i64 0) 1 8 Try.underlying23 hi hz0 hz1 hz2 rfl (by decide) _ _ _ rfl (hown.alloc _) ⟨wr.heap.size, 0, none⟩ 1 1 [.int .i64 (wrap64 (2 ^ (62 - d)))] rfl rfl (cell_one_new _ _ _) (by intro u hu; simp at hu; subst hu; rfl) (by unfold maxLen; omega) (by omega) (by simp; omega) ?_)
        intro v' w1 hown' hgrow _
        have hb' := (hb.alloc hz (.cells #[.int .i64 (wrap64 (2 ^ (62 - d)))] 3)).grown hgrow (by simp; omega) (fun k hk => (hown.lt k hk).1)
        have H := Lib.hid hown'
        clear hown' hown hgrow
        go_wp2
        go_roundw
        case rel => exact ⟨d + 1, by omega, by go_num, by rw [hs.out]; have := H.out; rw [HP.out] at this; simpa using this, hb'⟩
        case measure => simp [intOf]; omega
      | false =>
        rw [ht] at hbit
        have hs := Lib.hid (show sizesTo n.toNat (d + 1) = sizesTo n.toNat d by simp only [sizesTo, ht]; simp)
        clear ht
        go_wp2
        go_roundw
        case rel => exact ⟨d + 1, by omega, by go_num, by rw [hs.out]; exact hown, hb⟩
        case measure => simp [intOf]; omega
    · obtain rfl : d = 63 := by omega
      go_wp2
      go_ret
      exact ⟨_, rfl, hown, hb⟩

end Go.Proofs.Ytclejdlklcabgaa
