/- The walk of DiskApart. -/
import Derived.Test.YtdilfdjhablnpaaPlainApart
import Derived.BigQuiet
namespace Go.Proofs.Ytdilfdjhablnpaa
open Go.RowKit Go.Shelf

set_option maxHeartbeats 1000000 in
theorem apart_big (z : Int) (Ak Aw : Option Addr) (n ck m cw : Nat) (off : Bool) (K : Option Addr) (kn kc : Nat) (at_ : Int) (w : World) (h : 40 < n ∨ 40 < m) :
    Calls Try.prog 3 #[.agg #[.int .i64 z, .slice Ak n ck, .slice Aw m cw, .bool off], .slice K kn kc, .int .i64 at_] w fun e w' => e = .returned (.bool true) ∧ Below w.heap.size w w' := by
  have hb := one_below w (.cells #[.int .i64 z, .slice Ak n ck, .slice Aw m cw, .bool off] 25)
  have hbx := BoxD.new w z (.slice Ak n ck) (.slice Aw m cw) off
  go_enter Try.func3, Try.ntmps3
  go_wp2_with (go_at_call 10; refine (shown_calls _).mono ?_)
  rintro e w1 ⟨rfl, hb1⟩
  obtain ⟨c0, c1, c2, c3, _⟩ := hbx.below hb1
  have HB := Lib.hid (hb.trans (hb1.mono hb.size))
  clear hb hbx hb1
  go_wp2_with (go_at_call 11; refine (few_big z Ak Aw n ck m cw off w1 h).mono ?_)
  rintro e w2 ⟨rfl, hb2⟩
  have HB2 := Lib.hid (HB.out.trans (hb2.mono HB.out.size))
  clear hb2
  go_wp2
  exact bodyPost_ret (v := .bool true) (by simp [results, Try.results3, go_sem]) rfl ⟨rfl, HB2.out⟩

set_option maxHeartbeats 1000000 in
theorem apart_out (z : Int) (Ak Aw : Option Addr) (n ck m cw : Nat) (off : Bool) (K : Option Addr) (kn kc : Nat) (at_ : Int) (kept : List ByteArray) (ws : List Wr) (w : World) (h : Hid (DiskIn w Ak Aw n m kept ws)) (hn : n ≤ 40) (hm : m ≤ 40)
    (hbad : ¬ (RightD z kept ws ∧ 0 ≤ at_ ∧ at_ < n)) :
    Calls Try.prog 3 #[.agg #[.int .i64 z, .slice Ak n ck, .slice Aw m cw, .bool off], .slice K kn kc, .int .i64 at_] w fun e w' => e = .returned (.bool true) ∧ Below w.heap.size w w' := by
  have hb := one_below w (.cells #[.int .i64 z, .slice Ak n ck, .slice Aw m cw, .bool off] 25)
  have hbx := BoxD.new w z (.slice Ak n ck) (.slice Aw m cw) off
  have hd := h.out.below hb
  have HBAD := Lib.hid hbad
  clear hbad
  go_enter Try.func3, Try.ntmps3
  go_wp2_with (go_at_call 10; refine (shown_calls _).mono ?_)
  rintro e w1 ⟨rfl, hb1⟩
  have hbx1 := hbx.below hb1
  have HBX := Lib.hid hbx1
  obtain ⟨c0, c1, c2, c3, _⟩ := hbx1
  have HB := Lib.hid (hb.trans (hb1.mono hb.size))
  have HD := Lib.hid (hd.below hb1)
  clear hb hbx hb1 hd h
  go_wp2_with (go_at_call 11; refine (few_calls z Ak Aw n ck m cw off kept ws w1 HD hn hm).mono ?_)
  rintro e w2 ⟨v, rfl, hv, hb2⟩
  obtain ⟨c0, c1, c2, c3, _⟩ := HBX.out.below hb2
  have HB2 := Lib.hid (HB.out.trans (hb2.mono HB.out.size))
  have HV := Lib.hid hv
  clear hb2 HBX HB HD hv
  cases v with
  | false =>
    go_wp2
    exact bodyPost_ret (v := .bool true) (by simp [results, Try.results3, go_sem]) rfl ⟨rfl, HB2.out⟩
  | true =>
    have hbad := HBAD.out
    have hR := HV.out.1 (by trivial)
    clear HV HBAD
    by_cases h1 : at_ < 0
    · have d1 : decide (at_ < 0) = true := by simpa using h1
      clear hbad hR h1
      go_wp2
      exact bodyPost_ret (v := .bool true) (by simp [results, Try.results3, go_sem]) rfl ⟨rfl, HB2.out⟩
    · have h2 : (n : Int) ≤ at_ := by
        by_cases h2 : (n : Int) ≤ at_
        · exact h2
        · exact absurd ⟨hR, by omega, by omega⟩ hbad
      have d1 : decide (at_ < 0) = false := by simpa using h1
      have d2 : decide (at_ ≥ (n : Int)) = true := by simpa using h2
      clear hbad hR h1 h2
      go_wp2
      exact bodyPost_ret (v := .bool true) (by simp [results, Try.results3, go_sem]) rfl ⟨rfl, HB2.out⟩
end Go.Proofs.Ytdilfdjhablnpaa
