/- The walk of DiskKeeps. -/
import Derived.Test.YtdilfdjhablnpaaPlain
namespace Go.Proofs.Ytdilfdjhablnpaa
open Go.RowKit Go.Shelf

set_option maxHeartbeats 1000000 in
theorem keeps_big (z : Int) (Ak Aw : Option Addr) (n ck m cw : Nat) (off : Bool) (K : Value) (w : World) (h : 40 < n ∨ 40 < m) :
    Calls Try.prog 4 #[.agg #[.int .i64 z, .slice Ak n ck, .slice Aw m cw, .bool off], K] w fun e w' => e = .returned (.bool true) ∧ Below w.heap.size w w' := by
  have hb := one_below w (.cells #[.int .i64 z, .slice Ak n ck, .slice Aw m cw, .bool off] 25)
  have hbx := BoxD.new w z (.slice Ak n ck) (.slice Aw m cw) off
  go_enter Try.func4, Try.ntmps4
  go_wp2_with (go_at_call 10; refine (shown_calls _).mono ?_)
  rintro e w1 ⟨rfl, hb1⟩
  obtain ⟨c0, c1, c2, c3, _⟩ := hbx.below hb1
  have HB := Lib.hid (hb.trans (hb1.mono hb.size))
  clear hb hbx hb1
  go_wp2_with (go_at_call 11; refine (few_big z Ak Aw n ck m cw off w1 h).mono ?_)
  rintro e w2 ⟨rfl, hb2⟩
  have HB2 := Lib.hid (HB.out.trans (hb2.mono HB.out.size))
  clear hb2
  go_wp2
  exact bodyPost_ret (v := .bool true) (by simp [results, Try.results4, go_sem]) rfl ⟨rfl, HB2.out⟩

set_option maxHeartbeats 1000000 in
theorem keeps_off (z : Int) (Ak Aw : Option Addr) (n ck m cw : Nat) (K : Value) (kept : List ByteArray) (ws : List Wr) (w : World) (h : Hid (DiskIn w Ak Aw n m kept ws)) (hn : n ≤ 40) (hm : m ≤ 40) :
    Calls Try.prog 4 #[.agg #[.int .i64 z, .slice Ak n ck, .slice Aw m cw, .bool true], K] w fun e w' => e = .returned (.bool true) ∧ Below w.heap.size w w' := by
  have hb := one_below w (.cells #[.int .i64 z, .slice Ak n ck, .slice Aw m cw, .bool true] 25)
  have hbx := BoxD.new w z (.slice Ak n ck) (.slice Aw m cw) true
  have hd := h.out.below hb
  go_enter Try.func4, Try.ntmps4
  go_wp2_with (go_at_call 10; refine (shown_calls _).mono ?_)
  rintro e w1 ⟨rfl, hb1⟩
  have hbx1 := hbx.below hb1
  have HBX := Lib.hid hbx1
  obtain ⟨c0, c1, c2, c3, _⟩ := hbx1
  have HB := Lib.hid (hb.trans (hb1.mono hb.size))
  have HD := Lib.hid (hd.below hb1)
  clear hb hbx hb1 hd h
  go_wp2_with (go_at_call 11; refine (few_calls z Ak Aw n ck m cw true kept ws w1 HD hn hm).mono ?_)
  rintro e w2 ⟨v, rfl, hv, hb2⟩
  obtain ⟨c0, c1, c2, c3, _⟩ := HBX.out.below hb2
  have HB2 := Lib.hid (HB.out.trans (hb2.mono HB.out.size))
  clear hb2 HBX HB HD hv
  cases v with
  | false =>
    go_wp2
    exact bodyPost_ret (v := .bool true) (by simp [results, Try.results4, go_sem]) rfl ⟨rfl, HB2.out⟩
  | true =>
    go_wp2
    exact bodyPost_ret (v := .bool true) (by simp [results, Try.results4, go_sem]) rfl ⟨rfl, HB2.out⟩
set_option maxHeartbeats 1000000 in
theorem keeps_wrong (z : Int) (Ak Aw : Option Addr) (n ck m cw : Nat) (K : Value) (kept : List ByteArray) (ws : List Wr) (w : World) (h : Hid (DiskIn w Ak Aw n m kept ws)) (hn : n ≤ 40) (hm : m ≤ 40)
    (hR : ¬ RightD z kept ws) :
    Calls Try.prog 4 #[.agg #[.int .i64 z, .slice Ak n ck, .slice Aw m cw, .bool false], K] w fun e w' => e = .returned (.bool true) ∧ Below w.heap.size w w' := by
  have hb := one_below w (.cells #[.int .i64 z, .slice Ak n ck, .slice Aw m cw, .bool false] 25)
  have hbx := BoxD.new w z (.slice Ak n ck) (.slice Aw m cw) false
  have hd := h.out.below hb
  go_enter Try.func4, Try.ntmps4
  go_wp2_with (go_at_call 10; refine (shown_calls _).mono ?_)
  rintro e w1 ⟨rfl, hb1⟩
  have hbx1 := hbx.below hb1
  have HBX := Lib.hid hbx1
  obtain ⟨c0, c1, c2, c3, _⟩ := hbx1
  have HB := Lib.hid (hb.trans (hb1.mono hb.size))
  have HD := Lib.hid (hd.below hb1)
  clear hb hbx hb1 hd h
  go_wp2_with (go_at_call 11; refine (few_calls z Ak Aw n ck m cw false kept ws w1 HD hn hm).mono ?_)
  rintro e w2 ⟨v, rfl, hv, hb2⟩
  obtain ⟨c0, c1, c2, c3, _⟩ := HBX.out.below hb2
  have HB2 := Lib.hid (HB.out.trans (hb2.mono HB.out.size))
  have HV := Lib.hid hv
  clear hb2 HBX HB HD hv
  cases v with
  | false =>
    go_wp2
    exact bodyPost_ret (v := .bool true) (by simp [results, Try.results4, go_sem]) rfl ⟨rfl, HB2.out⟩
  | true => exact absurd (HV.out.1 (by trivial)) hR
end Go.Proofs.Ytdilfdjhablnpaa
