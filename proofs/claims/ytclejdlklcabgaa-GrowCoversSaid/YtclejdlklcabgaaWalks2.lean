/- The walk of tabularylaw13.shown; rows that a call has made. -/
import Derived.Test.YtclejdlklcabgaaWalks1
import Derived.Test.YtclejdlklcabgaaPlain2
namespace Go.Proofs.Ytclejdlklcabgaa
open Go.RowKit Plain

/-- A row of integers that a call has made and that is not empty: where it lies, and its cells. -/
theorem row_open {w : World} {base : Nat} {v : Value} {l : List Int} (h : w.ownsRow base 3 1 v l.length (l.map (Value.int .i64))) (h0 : 0 < l.length) :
    ∃ g cap, v = .slice (some ⟨g, 0, none⟩) l.length cap ∧ base ≤ g ∧ g < w.heap.size ∧ l.length ≤ cap ∧ ∀ j, j < l.length → w.cell? ⟨g, j, none⟩ = some (.int .i64 (l.getD j 0)) := by
  obtain ⟨_, hh⟩ := h
  rcases hh with ⟨_, hn⟩ | ⟨g, cap, cur, hv, hb, hg, hc, _, hs, ht⟩
  · omega
  · refine ⟨g, cap, hv, hb, (Array.getElem?_eq_some_iff.1 hg).1, hc, ?_⟩
    intro j hj
    have hlen : (l.map (Value.int .i64))[j]? = some (.int .i64 (l.getD j 0)) := by
      rw [List.getElem?_map, List.getElem?_eq_getElem hj]; simp [hj]
    rw [← ht, List.getElem?_take] at hlen
    split at hlen
    · simp only [World.cell?, hg]
      simpa using hlen
    · cases hlen

theorem sizes_none (n : Int) (w : World) (h : n < 1) (hlo : -9223372036854775808 ≤ n) :
    Calls Try.prog 11 #[.int .i64 n] w fun e w' => e = .returned (.slice none 0 0) ∧ w = w' := by
  go_enter Try.func11, Try.ntmps11
  go_wp2
  refine wp_loop_rounds 1 ?_
  rw [rounds_succ]
  go_wp2
  go_ret
  exact ⟨rfl, rfl⟩

theorem sizes6 : sizesTo (6 : Int).toNat 63 = [4, 2] := by decide +kernel
theorem half6 : ((half (6 : Int).toNat : Nat) : Int) = 4 := by decide +kernel

theorem sizes6_calls (w : World) : Calls Try.prog 11 #[.int .i64 6] w fun e w' => ∃ g cap, e = .returned (.slice (some ⟨g, 0, none⟩) 2 cap) ∧ w.heap.size ≤ g ∧
    w'.cell? ⟨g, 0, none⟩ = some (.int .i64 4) ∧ w'.cell? ⟨g, 1, none⟩ = some (.int .i64 2) ∧ Below w.heap.size w w' := by
  refine (sizes_pos 6 w (by omega) (by omega)).mono ?_
  rintro e w' ⟨v, rfl, hown, hb⟩
  rw [sizes6] at hown
  obtain ⟨g, cap, rfl, hg, _, _, hc⟩ := row_open hown (by simp)
  exact ⟨g, cap, rfl, hg, hc 0 (by simp), hc 1 (by simp), hb⟩

theorem half6_calls (w : World) : Calls Try.prog 10 #[.int .i64 6] w fun e w' => e = .returned (.int .i64 4) ∧ w = w' := by
  refine (half_calls 6 w (by omega) (by omega)).mono ?_
  rintro e w' ⟨rfl, rfl⟩
  exact ⟨ret_int half6, rfl⟩

set_option maxHeartbeats 400000 in
theorem shown13 (w : World) : Calls Try.prog 9 #[] w fun e w' => e = .returned (.bool true) ∧ Below w.heap.size w w' := by
  go_enter Try.func9, Try.ntmps9
  go_wp2_with fail
  refine (sizes6_calls _).mono ?_
  rintro e w' ⟨g, cap, rfl, hg, hc0, hc1, hb⟩
  go_wp2_with fail
  refine (half6_calls _).mono ?_
  rintro e w2 ⟨rfl, rfl⟩
  go_wp2
  go_ret
  exact ⟨rfl, hb⟩

end Go.Proofs.Ytclejdlklcabgaa
