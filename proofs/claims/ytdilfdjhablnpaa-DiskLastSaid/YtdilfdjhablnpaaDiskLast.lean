/- The walk of DiskLast: the ways but the good one. -/
import Derived.Test.YtdilfdjhablnpaaPlainReads
namespace Go.Proofs.Ytdilfdjhablnpaa
open Go.RowKit Go.Shelf

/-- A write, whatever comes of it. -/
theorem write_any (z : Int) (Ak Aw : Option Addr) (n ck m cw : Nat) (off : Bool) (at_ : Int) (s : ByteArray) (kept : List ByteArray) (ws : List Wr) (w : World) (h : Hid (DiskIn w Ak Aw n m kept ws)) (hcap : m ≤ cw) (hm : m ≤ 99999) :
    Calls Try.prog 18 #[.agg #[.int .i64 z, .slice Ak n ck, .slice Aw m cw, .bool off], .int .i64 at_, .string s] w fun e w' =>
      ∃ A m1 c code ws1, e = .returned (.tuple #[.agg #[.int .i64 z, .slice Ak n ck, .slice A m1 c, .bool off], .int .i64 code]) ∧ m1 ≤ m + 1 ∧ m1 ≤ c ∧ DiskIn w' Ak A n m1 kept ws1 ∧ Below w.heap.size w w' ∧ (code = 0 → off = false ∧ 0 ≤ at_ ∧ at_ < n ∧ 1 ≤ s.size ∧ (s.size : Int) ≤ z) := by
  have stay : ∀ (code : Int), code ≠ 0 → (Calls Try.prog 18 #[.agg #[.int .i64 z, .slice Ak n ck, .slice Aw m cw, .bool off], .int .i64 at_, .string s] w fun e w' => e = .returned (.tuple #[.agg #[.int .i64 z, .slice Ak n ck, .slice Aw m cw, .bool off], .int .i64 code]) ∧ Below w.heap.size w w') →
      Calls Try.prog 18 #[.agg #[.int .i64 z, .slice Ak n ck, .slice Aw m cw, .bool off], .int .i64 at_, .string s] w fun e w' =>
        ∃ A m1 c code ws1, e = .returned (.tuple #[.agg #[.int .i64 z, .slice Ak n ck, .slice A m1 c, .bool off], .int .i64 code]) ∧ m1 ≤ m + 1 ∧ m1 ≤ c ∧ DiskIn w' Ak A n m1 kept ws1 ∧ Below w.heap.size w w' ∧ (code = 0 → off = false ∧ 0 ≤ at_ ∧ at_ < n ∧ 1 ≤ s.size ∧ (s.size : Int) ≤ z) := fun code hc hw =>
    hw.mono fun e w' ⟨he, hb⟩ => ⟨Aw, m, cw, code, ws, he, by omega, hcap, h.out.below hb, hb, fun e => absurd e hc⟩
  cases off with
  | true => exact stay 14 (by omega) (writeOff_calls z Ak Aw n ck m cw at_ s w)
  | false =>
    by_cases h1 : at_ < 0
    · exact stay 5 (by omega) (writeLow_calls z Ak Aw n ck m cw at_ s w h1)
    by_cases h2 : (n : Int) ≤ at_
    · exact stay 5 (by omega) (writeHigh_calls z Ak Aw n ck m cw at_ s w (by omega) h2)
    by_cases h3 : s.size = 0
    · exact stay 1 (by omega) (writeEmpty_calls z Ak Aw n ck m cw at_ s w (by omega) (by omega) h3)
    by_cases h4 : z < (s.size : Int)
    · exact stay 1 (by omega) (writeLong_calls z Ak Aw n ck m cw at_ s w (by omega) (by omega) (by omega) h4)
    refine (write_calls z Ak Aw n ck m cw at_ s kept ws w h hcap (by omega) (by omega) (by omega) (by omega)).mono ?_
    rintro e w' ⟨A, c, he, hc, hwr, _, hb⟩
    have h' := h.out.below hb
    exact ⟨A, m + 1, c, 0, ws ++ [⟨at_, s⟩], he, by omega, hc, ⟨h'.n_eq, by have := h'.m_eq; simp; omega, h'.n_le, by omega, h'.row, hwr⟩, hb, fun _ => ⟨rfl, by omega, by omega, by omega, by omega⟩⟩

set_option maxHeartbeats 1000000 in
theorem last_big (z : Int) (Ak Aw : Option Addr) (n ck m cw : Nat) (off : Bool) (at_ : Int) (s t : ByteArray) (w : World) (h : 40 < n ∨ 40 < m) :
    Calls Try.prog 7 #[.agg #[.int .i64 z, .slice Ak n ck, .slice Aw m cw, .bool off, .int .i64 at_, .string s, .string t]] w fun e w' => e = .returned (.bool true) ∧ Below w.heap.size w w' := by
  have hb := two_below w (.cells #[.int .i64 z, .slice Ak n ck, .slice Aw m cw, .bool off, .int .i64 at_, .string s, .string t] 50) (.cells #[.int .i64 z, .slice Ak n ck, .slice Aw m cw, .bool off] 25)
  have hbx := two w (.cells #[.int .i64 z, .slice Ak n ck, .slice Aw m cw, .bool off, .int .i64 at_, .string s, .string t] 50) z (.slice Ak n ck) (.slice Aw m cw) off
  go_enter Try.func7, Try.ntmps7
  go_wp2_with (go_at_call 10; refine (shown_calls _).mono ?_)
  rintro e w1 ⟨rfl, hb1⟩
  obtain ⟨c0, c1, c2, c3, _⟩ := hbx.below hb1
  have HB := Lib.hid (hb.trans (hb1.mono hb.size))
  clear hb hbx hb1
  go_wp2_with (go_at_call 11; refine (few_big z Ak Aw n ck m cw off w1 h).mono ?_)
  rintro e w2 ⟨rfl, hb2⟩
  have HB2 := Lib.hid (HB.out.trans (hb2.mono HB.out.size))
  clear hb2
  go_wp2
  exact bodyPost_ret (v := .bool true) (by simp [results, Try.results7, go_sem]) rfl ⟨rfl, HB2.out⟩

set_option maxHeartbeats 2000000 in
theorem last_err (z : Int) (Ak Aw : Option Addr) (n ck m cw : Nat) (off : Bool) (at_ : Int) (s t : ByteArray) (kept : List ByteArray) (ws : List Wr) (w : World) (h : Hid (DiskIn w Ak Aw n m kept ws)) (hn : n ≤ 40) (hm : m ≤ 40) (hcap : m ≤ cw)
    (hbad : ¬ (RightD z kept ws ∧ off = false ∧ 0 ≤ at_ ∧ at_ < n ∧ 1 ≤ s.size ∧ (s.size : Int) ≤ z ∧ 1 ≤ t.size ∧ (t.size : Int) ≤ z)) :
    Calls Try.prog 7 #[.agg #[.int .i64 z, .slice Ak n ck, .slice Aw m cw, .bool off, .int .i64 at_, .string s, .string t]] w fun e w' => e = .returned (.bool true) ∧ Below w.heap.size w w' := by
  have hb := two_below w (.cells #[.int .i64 z, .slice Ak n ck, .slice Aw m cw, .bool off, .int .i64 at_, .string s, .string t] 50) (.cells #[.int .i64 z, .slice Ak n ck, .slice Aw m cw, .bool off] 25)
  have hbx := two w (.cells #[.int .i64 z, .slice Ak n ck, .slice Aw m cw, .bool off, .int .i64 at_, .string s, .string t] 50) z (.slice Ak n ck) (.slice Aw m cw) off
  have hd := h.out.below hb
  have HBAD := Lib.hid hbad
  clear hbad
  go_enter Try.func7, Try.ntmps7
  go_wp2_with (go_at_call 10; refine (shown_calls _).mono ?_)
  rintro e w1 ⟨rfl, hb1⟩
  have hbx1 := hbx.below hb1
  have HBX := Lib.hid hbx1
  obtain ⟨c0, c1, c2, c3, _⟩ := hbx1
  have HB := Lib.hid (hb.trans (hb1.mono hb.size))
  have HD := Lib.hid (hd.below hb1)
  clear hb hbx hb1 hd h
  go_wp2_with (go_at_call 11; refine (few_calls z Ak Aw n ck m cw off kept ws w1 HD hn hm).mono ?_)
  rintro e w2 ⟨v, rfl, hv, hb2⟩
  have hbx2 := HBX.out.below hb2
  have HBX2 := Lib.hid hbx2
  obtain ⟨c0, c1, c2, c3, _⟩ := hbx2
  have HB2 := Lib.hid (HB.out.trans (hb2.mono HB.out.size))
  have HD2 := Lib.hid (HD.out.below hb2)
  have HV := Lib.hid hv
  clear hb2 HBX HB HD hv
  cases v with
  | false =>
    go_wp2
    exact bodyPost_ret (v := .bool true) (by simp [results, Try.results7, go_sem]) rfl ⟨rfl, HB2.out⟩
  | true =>
    go_wp2_with (go_at_call 18; refine (write_any z Ak Aw n ck m cw off at_ s kept ws w2 HD2 hcap (by omega)).mono ?_)
    rintro e w3 ⟨A, m1, c, code, ws1, rfl, hm1, hmc, hd3, hb3, hcode⟩
    have hal := one_below w3 (.cells #[.int .i64 z, .slice Ak n ck, .slice A m1 c, .bool off] 25)
    have hbw3 := HB2.out.trans (hb3.mono HB2.out.size)
    have HB3 := Lib.hid (hbw3.trans (hal.mono hbw3.size))
    have HD3 := Lib.hid (hd3.below hal)
    have K9 := BoxD.new w3 z (.slice Ak n ck) (.slice A m1 c) off
    have HC := Lib.hid hcode
    clear hb3 hal hbw3 HB2 HD2 HBX2 hd3 hcode
    obtain ⟨c0, c1, c2, c3, _⟩ := K9
    go_wp2_with (go_at_call 18; refine (write_any z Ak A n ck m1 c off at_ t kept ws1 _ HD3 hmc (by omega)).mono ?_)
    generalize (w3.alloc (.cells #[.int .i64 z, .slice Ak n ck, .slice A m1 c, .bool off] 25)) = W3 at *
    generalize w3.heap.size = b9 at *
    rintro e w4 ⟨A', m2, c', code2, ws2, rfl, _, _, hd4, hb4, hcode2⟩
    have HB4 := Lib.hid (HB3.out.trans (hb4.mono HB3.out.size))
    have HB5 := Lib.hid (HB4.out.trans ((one_below w4 (.cells #[.int .i64 z, .slice Ak n ck, .slice A' m2 c', .bool off] 25)).mono HB4.out.size))
    have HC2 := Lib.hid hcode2
    clear hb4 hcode2 hd4 HB3 HD3 HB4
    by_cases e1 : code = 0
    · have e2 : code2 ≠ 0 := fun e2 => by
        have q1 := HC.out e1
        have q2 := HC2.out e2
        exact HBAD.out ⟨HV.out.1 (by trivial), q1.1, q1.2.1, q1.2.2.1, q1.2.2.2.1, q1.2.2.2.2, q2.2.2.2.1, q2.2.2.2.2⟩
      subst e1
      have g2 : (code2 != 0) = true := by simpa using e2
      clear HC HC2 HV HBAD
      go_wp2
      exact bodyPost_ret (v := .bool true) (by simp [results, Try.results7, go_sem]) rfl ⟨rfl, HB5.out⟩
    · have g1 : (code != 0) = true := by simpa using e1
      clear HC HC2 HV HBAD
      go_wp2
      exact bodyPost_ret (v := .bool true) (by simp [results, Try.results7, go_sem]) rfl ⟨rfl, HB5.out⟩
end Go.Proofs.Ytdilfdjhablnpaa
