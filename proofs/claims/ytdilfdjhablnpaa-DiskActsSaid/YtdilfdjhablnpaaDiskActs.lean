/- The walk of DiskActs. -/
import Derived.Test.YtdilfdjhablnpaaActs
import Derived.Deep.RegionHeld3
namespace Go.Proofs.Ytdilfdjhablnpaa
open Go.RowKit Go.Shelf

set_option maxHeartbeats 4000000 in
set_option maxRecDepth 100000 in
theorem acts_big (z : Int) (Ak Aw : Option Addr) (n ck m cw : Nat) (off : Bool) (at_ : Int) (s : ByteArray) (K : Option Addr) (kn kc : Nat) (many size : Int) (w : World) (h : 40 < n ∨ 40 < m) :
    Calls Try.prog 9 #[.agg #[.int .i64 z, .slice Ak n ck, .slice Aw m cw, .bool off, .int .i64 at_, .string s, .slice K kn kc, .int .i64 many, .int .i64 size]] w fun e w' => e = .returned (.bool true) ∧ Below w.heap.size w w' := by
  have hb := two_below w (.cells #[.int .i64 z, .slice Ak n ck, .slice Aw m cw, .bool off, .int .i64 at_, .string s, .slice K kn kc, .int .i64 many, .int .i64 size] 55) (.cells #[.int .i64 z, .slice Ak n ck, .slice Aw m cw, .bool off] 25)
  have hbx := two w (.cells #[.int .i64 z, .slice Ak n ck, .slice Aw m cw, .bool off, .int .i64 at_, .string s, .slice K kn kc, .int .i64 many, .int .i64 size] 55) z (.slice Ak n ck) (.slice Aw m cw) off
  have hne : (nE many size != nE many size) = false := by simp
  have hnl := nL_len many size
  have HNL := Lib.hid hnl
  clear hnl
  go_enter Try.func9, Try.ntmps9
  go_wp2_with (go_at_call 10; refine (shown_calls _).mono ?_)
  rintro e w1 ⟨rfl, hb1⟩
  have HBX := Lib.hid (hbx.below hb1)
  have HB := Lib.hid (hb.trans (hb1.mono hb.size))
  clear hb hbx hb1
  go_wp2_with (go_at_call 20; refine (new_ans many size w1).mono ?_)
  rintro e w2 ⟨A1, k1, rfl, hr1, hb2⟩
  have hal := one_below w2 (.cells #[.int .i64 (nZ many size), .slice A1 (nL many size).length k1, .slice none 0 0, .bool false] 25)
  have hbw := HB.out.trans (hb2.mono HB.out.size)
  have HB2 := Lib.hid (hbw.trans (hal.mono hbw.size))
  have HBX2 := Lib.hid ((HBX.out.below hb2).below hal)
  have R1 := Lib.hid (hr1.below hal)
  have K10 := Lib.hid (BoxD.new w2 (nZ many size) (.slice A1 (nL many size).length k1) (.slice none 0 0) false)
  clear hal hbw hb2 hr1 HB HBX
  go_wp2_with (go_at_call 22; refine (refNew_ans many size _).mono ?_)
  generalize (w2.alloc (.cells #[.int .i64 (nZ many size), .slice A1 (nL many size).length k1, .slice none 0 0, .bool false] 25)) = W2 at *
  generalize w2.heap.size = b10 at *
  rintro e w3 ⟨A2, k2, rfl, hr2, hb3⟩
  have hal := one_below w3 (.cells #[.int .i64 (nZ many size), .slice A2 (nL many size).length k2, .slice none 0 0, .bool false] 25)
  have hbw := HB2.out.trans (hb3.mono HB2.out.size)
  have HB3 := Lib.hid (hbw.trans (hal.mono hbw.size))
  have HBX3 := Lib.hid ((HBX2.out.below hb3).below hal)
  have R1' := Lib.hid ((R1.out.below hb3).below hal)
  have R2 := Lib.hid (hr2.below hal)
  obtain ⟨c0, c1, c2, c3, _⟩ := (K10.out.below hb3).below hal
  obtain ⟨d0, d1, d2, d3, _⟩ := BoxD.new w3 (nZ many size) (.slice A2 (nL many size).length k2) (.slice none 0 0) false
  clear hal hbw hb3 hr2 HB2 HBX2 R1 K10
  go_wp2_with (go_at_call 16; refine (same_calls (nZ many size) A1 none A2 none (nL many size).length k1 0 0 k2 0 false (nL many size) [] _ (Lib.hid ⟨rfl, rfl, by have := HNL.out; omega, by omega, R1'.out, WrRow.nil _ _⟩) (Lib.hid ⟨rfl, rfl, by have := HNL.out; omega, by omega, R2.out, WrRow.nil _ _⟩)).mono ?_)
  generalize (w3.alloc (.cells #[.int .i64 (nZ many size), .slice A2 (nL many size).length k2, .slice none 0 0, .bool false] 25)) = W3 at *
  generalize w3.heap.size = b12 at *
  rintro e w4 ⟨rfl, hb4⟩
  have HBX4 := Lib.hid (HBX3.out.below hb4)
  have HB4 := Lib.hid (HB3.out.trans (hb4.mono HB3.out.size))
  clear c0 c1 c2 c3 d0 d1 d2 d3 hb4 HBX3 HB3 R1' R2
  obtain ⟨c0, c1, c2, c3, _⟩ := HBX4.out
  go_wp2_with (go_at_call 11; refine (few_big z Ak Aw n ck m cw off w4 h).mono ?_)
  rintro e w5 ⟨rfl, hb5⟩
  have HBX5 := Lib.hid (HBX4.out.below hb5)
  have HB5 := Lib.hid (HB4.out.trans (hb5.mono HB4.out.size))
  clear c0 c1 c2 c3 hb5 HBX4 HB4
  obtain ⟨c0, c1, c2, c3, _⟩ := HBX5.out
  by_cases h1 : 40 < n
  · have d1 : decide ((n : Int) > 40) = true := by simp; omega
    clear h
    go_wp2
    exact bodyPost_ret (v := .bool true) (by simp [results, Try.results9, go_sem]) rfl ⟨rfl, HB5.out⟩
  · have d1 : decide ((n : Int) > 40) = false := by simp; omega
    have d2 : decide ((m : Int) > 40) = true := by simp; omega
    clear h
    go_wp2
    exact bodyPost_ret (v := .bool true) (by simp [results, Try.results9, go_sem]) rfl ⟨rfl, HB5.out⟩

set_option maxHeartbeats 4000000 in
set_option maxRecDepth 100000 in
theorem acts_wrong (z : Int) (Ak Aw : Option Addr) (n ck m cw : Nat) (off : Bool) (at_ : Int) (s : ByteArray) (K : Option Addr) (kn kc : Nat) (many size : Int) (kept : List ByteArray) (ws : List Wr) (keep : List Int) (w : World) (h : Hid (DiskIn w Ak Aw n m kept ws)) (hk : Hid (KeepIn w K kn keep)) (hn : n ≤ 40) (hm : m ≤ 40) (hR : ¬ RightD z kept ws) :
    Calls Try.prog 9 #[.agg #[.int .i64 z, .slice Ak n ck, .slice Aw m cw, .bool off, .int .i64 at_, .string s, .slice K kn kc, .int .i64 many, .int .i64 size]] w fun e w' => e = .returned (.bool true) ∧ Below w.heap.size w w' := by
  have HNR := Lib.hid hR
  clear hR
  have hb := two_below w (.cells #[.int .i64 z, .slice Ak n ck, .slice Aw m cw, .bool off, .int .i64 at_, .string s, .slice K kn kc, .int .i64 many, .int .i64 size] 55) (.cells #[.int .i64 z, .slice Ak n ck, .slice Aw m cw, .bool off] 25)
  have hbx := two w (.cells #[.int .i64 z, .slice Ak n ck, .slice Aw m cw, .bool off, .int .i64 at_, .string s, .slice K kn kc, .int .i64 many, .int .i64 size] 55) z (.slice Ak n ck) (.slice Aw m cw) off
  have hd := h.out.below hb
  have hk1 := hk.out.below hb
  have hne : (nE many size != nE many size) = false := by simp
  have hnl := nL_len many size
  have HNL := Lib.hid hnl
  clear hnl
  go_enter Try.func9, Try.ntmps9
  go_wp2_with (go_at_call 10; refine (shown_calls _).mono ?_)
  rintro e w1 ⟨rfl, hb1⟩
  have HBX := Lib.hid (hbx.below hb1)
  have HB := Lib.hid (hb.trans (hb1.mono hb.size))
  have HD := Lib.hid (hd.below hb1)
  have HK := Lib.hid (hk1.below hb1)
  clear hd hk1 h hk
  clear hb hbx hb1
  go_wp2_with (go_at_call 20; refine (new_ans many size w1).mono ?_)
  rintro e w2 ⟨A1, k1, rfl, hr1, hb2⟩
  have hal := one_below w2 (.cells #[.int .i64 (nZ many size), .slice A1 (nL many size).length k1, .slice none 0 0, .bool false] 25)
  have hbw := HB.out.trans (hb2.mono HB.out.size)
  have HB2 := Lib.hid (hbw.trans (hal.mono hbw.size))
  have HBX2 := Lib.hid ((HBX.out.below hb2).below hal)
  have R1 := Lib.hid (hr1.below hal)
  have K10 := Lib.hid (BoxD.new w2 (nZ many size) (.slice A1 (nL many size).length k1) (.slice none 0 0) false)
  have HD2 := Lib.hid ((HD.out.below hb2).below hal)
  have HK2 := Lib.hid ((HK.out.below hb2).below hal)
  clear HD HK
  clear hal hbw hb2 hr1 HB HBX
  go_wp2_with (go_at_call 22; refine (refNew_ans many size _).mono ?_)
  generalize (w2.alloc (.cells #[.int .i64 (nZ many size), .slice A1 (nL many size).length k1, .slice none 0 0, .bool false] 25)) = W2 at *
  generalize w2.heap.size = b10 at *
  rintro e w3 ⟨A2, k2, rfl, hr2, hb3⟩
  have hal := one_below w3 (.cells #[.int .i64 (nZ many size), .slice A2 (nL many size).length k2, .slice none 0 0, .bool false] 25)
  have hbw := HB2.out.trans (hb3.mono HB2.out.size)
  have HB3 := Lib.hid (hbw.trans (hal.mono hbw.size))
  have HBX3 := Lib.hid ((HBX2.out.below hb3).below hal)
  have R1' := Lib.hid ((R1.out.below hb3).below hal)
  have R2 := Lib.hid (hr2.below hal)
  obtain ⟨c0, c1, c2, c3, _⟩ := (K10.out.below hb3).below hal
  obtain ⟨d0, d1, d2, d3, _⟩ := BoxD.new w3 (nZ many size) (.slice A2 (nL many size).length k2) (.slice none 0 0) false
  have HD3 := Lib.hid ((HD2.out.below hb3).below hal)
  have HK3 := Lib.hid ((HK2.out.below hb3).below hal)
  clear HD2 HK2
  clear hal hbw hb3 hr2 HB2 HBX2 R1 K10
  go_wp2_with (go_at_call 16; refine (same_calls (nZ many size) A1 none A2 none (nL many size).length k1 0 0 k2 0 false (nL many size) [] _ (Lib.hid ⟨rfl, rfl, by have := HNL.out; omega, by omega, R1'.out, WrRow.nil _ _⟩) (Lib.hid ⟨rfl, rfl, by have := HNL.out; omega, by omega, R2.out, WrRow.nil _ _⟩)).mono ?_)
  generalize (w3.alloc (.cells #[.int .i64 (nZ many size), .slice A2 (nL many size).length k2, .slice none 0 0, .bool false] 25)) = W3 at *
  generalize w3.heap.size = b12 at *
  rintro e w4 ⟨rfl, hb4⟩
  have HBX4 := Lib.hid (HBX3.out.below hb4)
  have HB4 := Lib.hid (HB3.out.trans (hb4.mono HB3.out.size))
  have HD4 := Lib.hid (HD3.out.below hb4)
  have HK4 := Lib.hid (HK3.out.below hb4)
  clear HD3 HK3
  clear c0 c1 c2 c3 d0 d1 d2 d3 hb4 HBX3 HB3 R1' R2
  obtain ⟨c0, c1, c2, c3, _⟩ := HBX4.out
  go_wp2_with (go_at_call 11; refine (few_calls z Ak Aw n ck m cw off kept ws w4 HD4 hn hm).mono ?_)
  rintro e w5 ⟨v, rfl, hv, hb5⟩
  have HBX5 := Lib.hid (HBX4.out.below hb5)
  have HB5 := Lib.hid (HB4.out.trans (hb5.mono HB4.out.size))
  have HD5 := Lib.hid (HD4.out.below hb5)
  have HV := Lib.hid hv
  clear c0 c1 c2 c3 hb5 HBX4 HB4 HD4 HK4 hv
  obtain ⟨c0, c1, c2, c3, _⟩ := HBX5.out
  cases v with
  | true => exact absurd (HV.out.1 (by trivial)) HNR.out
  | false =>
    clear HV
    have d1 : decide ((n : Int) > 40) = false := by simp; omega
    have d2 : decide ((m : Int) > 40) = false := by simp; omega
    go_wp2_with (go_at_call 23; refine (dright_false z Ak Aw n ck m cw off kept ws _ HD5 HNR.out).mono ?_)
    rintro e w6 ⟨rfl, hb6⟩
    have HB6 := Lib.hid (HB5.out.trans (hb6.mono HB5.out.size))
    clear hb6 HB5
    go_wp2
    exact bodyPost_ret (v := .bool true) (by simp [results, Try.results9, go_sem]) rfl ⟨rfl, HB6.out⟩
end Go.Proofs.Ytdilfdjhablnpaa
