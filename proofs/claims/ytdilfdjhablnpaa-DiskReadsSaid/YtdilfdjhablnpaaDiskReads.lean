/- The walk of DiskReads. -/
import Derived.Test.YtdilfdjhablnpaaPlainReads
namespace Go.Proofs.Ytdilfdjhablnpaa
open Go.RowKit Go.Shelf

set_option maxHeartbeats 1000000 in
theorem reads_big (z : Int) (Ak Aw : Option Addr) (n ck m cw : Nat) (off : Bool) (at_ : Int) (s : ByteArray) (other : Int) (w : World) (h : 40 < n ∨ 40 < m) :
    Calls Try.prog 5 #[.agg #[.int .i64 z, .slice Ak n ck, .slice Aw m cw, .bool off, .int .i64 at_, .string s, .int .i64 other]] w fun e w' => e = .returned (.bool true) ∧ Below w.heap.size w w' := by
  have hb := two_below w (.cells #[.int .i64 z, .slice Ak n ck, .slice Aw m cw, .bool off, .int .i64 at_, .string s, .int .i64 other] 41) (.cells #[.int .i64 z, .slice Ak n ck, .slice Aw m cw, .bool off] 25)
  have hbx := two w (.cells #[.int .i64 z, .slice Ak n ck, .slice Aw m cw, .bool off, .int .i64 at_, .string s, .int .i64 other] 41) z (.slice Ak n ck) (.slice Aw m cw) off
  go_enter Try.func5, Try.ntmps5
  go_wp2_with (go_at_call 10; refine (shown_calls _).mono ?_)
  rintro e w1 ⟨rfl, hb1⟩
  obtain ⟨c0, c1, c2, c3, _⟩ := hbx.below hb1
  have HB := Lib.hid (hb.trans (hb1.mono hb.size))
  clear hb hbx hb1
  go_wp2_with (go_at_call 11; refine (few_big z Ak Aw n ck m cw off w1 h).mono ?_)
  rintro e w2 ⟨rfl, hb2⟩
  have HB2 := Lib.hid (HB.out.trans (hb2.mono HB.out.size))
  clear hb2
  go_wp2
  exact bodyPost_ret (v := .bool true) (by simp [results, Try.results5, go_sem]) rfl ⟨rfl, HB2.out⟩

set_option maxHeartbeats 1000000 in
theorem reads_err (z : Int) (Ak Aw : Option Addr) (n ck m cw : Nat) (off : Bool) (at_ : Int) (s : ByteArray) (other : Int) (code : Int) (kept : List ByteArray) (ws : List Wr) (w : World) (h : Hid (DiskIn w Ak Aw n m kept ws)) (hn : n ≤ 40) (hm : m ≤ 40)
    (hc : (code != 0) = true)
    (hw : Hid (∀ W, Calls Try.prog 18 #[.agg #[.int .i64 z, .slice Ak n ck, .slice Aw m cw, .bool off], .int .i64 at_, .string s] W fun e w' => e = .returned (.tuple #[.agg #[.int .i64 z, .slice Ak n ck, .slice Aw m cw, .bool off], .int .i64 code]) ∧ Below W.heap.size W w')) :
    Calls Try.prog 5 #[.agg #[.int .i64 z, .slice Ak n ck, .slice Aw m cw, .bool off, .int .i64 at_, .string s, .int .i64 other]] w fun e w' => e = .returned (.bool true) ∧ Below w.heap.size w w' := by
  have hb := two_below w (.cells #[.int .i64 z, .slice Ak n ck, .slice Aw m cw, .bool off, .int .i64 at_, .string s, .int .i64 other] 41) (.cells #[.int .i64 z, .slice Ak n ck, .slice Aw m cw, .bool off] 25)
  have hbx := two w (.cells #[.int .i64 z, .slice Ak n ck, .slice Aw m cw, .bool off, .int .i64 at_, .string s, .int .i64 other] 41) z (.slice Ak n ck) (.slice Aw m cw) off
  have hd := h.out.below hb
  go_enter Try.func5, Try.ntmps5
  go_wp2_with (go_at_call 10; refine (shown_calls _).mono ?_)
  rintro e w1 ⟨rfl, hb1⟩
  have hbx1 := hbx.below hb1
  have HBX := Lib.hid hbx1
  obtain ⟨c0, c1, c2, c3, _⟩ := hbx1
  have HB := Lib.hid (hb.trans (hb1.mono hb.size))
  have HD := Lib.hid (hd.below hb1)
  clear hb hbx hb1 hd h
  go_wp2_with (go_at_call 11; refine (few_calls z Ak Aw n ck m cw off kept ws w1 HD hn hm).mono ?_)
  rintro e w2 ⟨v, rfl, hv, hb2⟩
  have hbx2 := HBX.out.below hb2
  have HBX2 := Lib.hid hbx2
  obtain ⟨c0, c1, c2, c3, _⟩ := hbx2
  have HB2 := Lib.hid (HB.out.trans (hb2.mono HB.out.size))
  have HD2 := Lib.hid (HD.out.below hb2)
  clear hb2 HBX HB HD hv
  cases v with
  | false =>
    go_wp2
    exact bodyPost_ret (v := .bool true) (by simp [results, Try.results5, go_sem]) rfl ⟨rfl, HB2.out⟩
  | true =>
    go_wp2_with (go_at_call 18; refine (hw.out w2).mono ?_)
    rintro e w3 ⟨rfl, hb3⟩
    have hal := one_below w3 (.cells #[.int .i64 z, .slice Ak n ck, .slice Aw m cw, .bool off] 25)
    have hbw3 := HB2.out.trans (hb3.mono HB2.out.size)
    have HB3 := Lib.hid (hbw3.trans (hal.mono hbw3.size))
    have HD3 := Lib.hid ((HD2.out.below hb3).below hal)
    obtain ⟨c0, c1, c2, c3, _⟩ := (HBX2.out.below hb3).below hal
    clear hb3 hal hbw3 HB2 HD2 HBX2
    go_wp2_with (go_at_call 16; refine (same_calls z Ak Aw Ak Aw n ck m cw ck cw off kept ws _ HD3 HD3).mono ?_)
    rintro e w4 ⟨rfl, hb4⟩
    have HB4 := Lib.hid (HB3.out.trans (hb4.mono HB3.out.size))
    clear hb4 HB3 HD3
    go_wp2
    exact bodyPost_ret (v := .bool true) (by simp [results, Try.results5, go_sem]) rfl ⟨rfl, HB4.out⟩
set_option maxHeartbeats 1000000 in
theorem reads_wrong (z : Int) (Ak Aw : Option Addr) (n ck m cw : Nat) (at_ : Int) (s : ByteArray) (other : Int) (kept : List ByteArray) (ws : List Wr) (w : World) (h : Hid (DiskIn w Ak Aw n m kept ws)) (hn : n ≤ 40) (hm : m ≤ 40)
    (hR : ¬ RightD z kept ws) :
    Calls Try.prog 5 #[.agg #[.int .i64 z, .slice Ak n ck, .slice Aw m cw, .bool false, .int .i64 at_, .string s, .int .i64 other]] w fun e w' => e = .returned (.bool true) ∧ Below w.heap.size w w' := by
  have hb := two_below w (.cells #[.int .i64 z, .slice Ak n ck, .slice Aw m cw, .bool false, .int .i64 at_, .string s, .int .i64 other] 41) (.cells #[.int .i64 z, .slice Ak n ck, .slice Aw m cw, .bool false] 25)
  have hbx := two w (.cells #[.int .i64 z, .slice Ak n ck, .slice Aw m cw, .bool false, .int .i64 at_, .string s, .int .i64 other] 41) z (.slice Ak n ck) (.slice Aw m cw) false
  have hd := h.out.below hb
  go_enter Try.func5, Try.ntmps5
  go_wp2_with (go_at_call 10; refine (shown_calls _).mono ?_)
  rintro e w1 ⟨rfl, hb1⟩
  have hbx1 := hbx.below hb1
  have HBX := Lib.hid hbx1
  obtain ⟨c0, c1, c2, c3, _⟩ := hbx1
  have HB := Lib.hid (hb.trans (hb1.mono hb.size))
  have HD := Lib.hid (hd.below hb1)
  clear hb hbx hb1 hd h
  go_wp2_with (go_at_call 11; refine (few_calls z Ak Aw n ck m cw false kept ws w1 HD hn hm).mono ?_)
  rintro e w2 ⟨v, rfl, hv, hb2⟩
  have hbx2 := HBX.out.below hb2
  have HBX2 := Lib.hid hbx2
  obtain ⟨c0, c1, c2, c3, _⟩ := hbx2
  have HB2 := Lib.hid (HB.out.trans (hb2.mono HB.out.size))
  have HD2 := Lib.hid (HD.out.below hb2)
  have HV := Lib.hid hv
  clear hb2 HBX HB HD hv
  cases v with
  | false =>
    go_wp2
    exact bodyPost_ret (v := .bool true) (by simp [results, Try.results5, go_sem]) rfl ⟨rfl, HB2.out⟩
  | true => exact absurd (HV.out.1 rfl) hR
end Go.Proofs.Ytdilfdjhablnpaa
