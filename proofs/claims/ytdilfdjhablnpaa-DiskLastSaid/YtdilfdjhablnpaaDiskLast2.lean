/- The walk of DiskLast where both writes go well. -/
import Derived.Test.YtdilfdjhablnpaaPlainLast
import Derived.BigQuiet
namespace Go.Proofs.Ytdilfdjhablnpaa
open Go.RowKit Go.Shelf

set_option maxHeartbeats 4000000 in
theorem last_good (z : Int) (Ak Aw : Option Addr) (n ck m cw : Nat) (at_ : Int) (s t : ByteArray) (kept : List ByteArray) (ws : List Wr) (w : World) (h : Hid (DiskIn w Ak Aw n m kept ws)) (hn : n ≤ 40) (hm : m ≤ 40) (hcap : m ≤ cw)
    (hR : RightD z kept ws) (ha : 0 ≤ at_) (hb' : at_ < n) (hs : 1 ≤ s.size) (hz : (s.size : Int) ≤ z) (ht : 1 ≤ t.size) (hzt : (t.size : Int) ≤ z) :
    Calls Try.prog 7 #[.agg #[.int .i64 z, .slice Ak n ck, .slice Aw m cw, .bool false, .int .i64 at_, .string s, .string t]] w fun e w' => e = .returned (.bool true) ∧ Below w.heap.size w w' := by
  have hb := two_below w (.cells #[.int .i64 z, .slice Ak n ck, .slice Aw m cw, .bool false, .int .i64 at_, .string s, .string t] 50) (.cells #[.int .i64 z, .slice Ak n ck, .slice Aw m cw, .bool false] 25)
  have hbx := two w (.cells #[.int .i64 z, .slice Ak n ck, .slice Aw m cw, .bool false, .int .i64 at_, .string s, .string t] 50) z (.slice Ak n ck) (.slice Aw m cw) false
  have hd := h.out.below hb
  have HRR := Lib.hid hR
  clear hR
  go_enter Try.func7, Try.ntmps7
  go_wp2_with (go_at_call 10; refine (shown_calls _).mono ?_)
  rintro e w1 ⟨rfl, hb1⟩
  have hbx1 := hbx.below hb1
  have HBX := Lib.hid hbx1
  obtain ⟨c0, c1, c2, c3, _⟩ := hbx1
  have HB := Lib.hid (hb.trans (hb1.mono hb.size))
  have HD := Lib.hid (hd.below hb1)
  clear hb hbx hb1 hd h
  go_wp2_with (go_at_call 11; refine (few_calls z Ak Aw n ck m cw false kept ws w1 HD hn hm).mono ?_)
  rintro e w2 ⟨v, rfl, hv, hb2⟩
  have hv1 : v = true := hv.2 HRR.out
  subst hv1
  have hbx2 := HBX.out.below hb2
  obtain ⟨c0, c1, c2, c3, _⟩ := hbx2
  have HB2 := Lib.hid (HB.out.trans (hb2.mono HB.out.size))
  have HD2 := Lib.hid (HD.out.below hb2)
  clear hb2 HBX HB HD hv
  -- the first write
  go_wp2_with (go_at_call 18; refine (write_calls z Ak Aw n ck m cw at_ s kept ws w2 HD2 hcap ha hb' hs hz).mono ?_)
  rintro e w3 ⟨A, c, rfl, hmc, hwr, _, hb3⟩
  have hal := one_below w3 (.cells #[.int .i64 z, .slice Ak n ck, .slice A (m + 1) c, .bool false] 25)
  have hbw3 := HB2.out.trans (hb3.mono HB2.out.size)
  have HB3 := Lib.hid (hbw3.trans (hal.mono hbw3.size))
  have HD3 := Lib.hid ((HD2.out.below hb3).below hal)
  have HK3 : Hid (DiskIn (w3.alloc (.cells #[.int .i64 z, .slice Ak n ck, .slice A (m + 1) c, .bool false] 25)) Ak A n (m + 1) kept (ws ++ [⟨at_, s⟩])) := ⟨HD3.out.n_eq, by have := HD3.out.m_eq; simp; omega, HD3.out.n_le, by omega, HD3.out.row, hwr.below hal⟩
  have k9 := BoxD.new w3 z (.slice Ak n ck) (.slice A (m + 1) c) false
  have K9 := Lib.hid k9
  obtain ⟨c0, c1, c2, c3, _⟩ := k9
  have HMC := Lib.hid hmc
  clear hb3 hal hbw3 HB2 HD2 hwr hmc HD3
  -- the second write
  go_wp2_with (go_at_call 18; refine (write_calls z Ak A n ck (m + 1) c at_ t kept (ws ++ [⟨at_, s⟩]) _ HK3 HMC.out ha hb' ht hzt).mono ?_)
  generalize (w3.alloc (.cells #[.int .i64 z, .slice Ak n ck, .slice A (m + 1) c, .bool false] 25)) = W3 at *
  generalize w3.heap.size = b9 at *
  rintro e w4 ⟨A4, c4, rfl, hmc4, hwr4, _, hb4⟩
  have hal := one_below w4 (.cells #[.int .i64 z, .slice Ak n ck, .slice A4 (m + 1 + 1) c4, .bool false] 25)
  have hbw4 := HB3.out.trans (hb4.mono HB3.out.size)
  have HB4 := Lib.hid (hbw4.trans (hal.mono hbw4.size))
  have HK4 := Lib.hid ((HK3.out.below hb4).below hal)
  have HL4 : Hid (DiskIn (w4.alloc (.cells #[.int .i64 z, .slice Ak n ck, .slice A4 (m + 1 + 1) c4, .bool false] 25)) Ak A4 n (m + 1 + 1) kept ((ws ++ [⟨at_, s⟩]) ++ [⟨at_, t⟩])) := ⟨HK4.out.n_eq, by have := HK4.out.m_eq; simp at this ⊢; omega, HK4.out.n_le, by omega, HK4.out.row, hwr4.below hal⟩
  have k9 := (K9.out.below hb4).below hal
  have K11 := Lib.hid (BoxD.new w4 z (.slice Ak n ck) (.slice A4 (m + 1 + 1) c4) false)
  obtain ⟨c0, c1, c2, c3, _⟩ := k9
  have HF : Hid (Fits n (ws ++ [⟨at_, s⟩])) := Lib.hid (fits_snoc (by rw [HK4.out.n_eq]; exact HRR.out.fits) _ ha hb')
  clear hb4 hal hbw4 HB3 hwr4 hmc4 HK3 K9 HMC
  -- the sync
  go_wp2_with (go_at_call 13; refine (sync_calls z Ak A n ck (m + 1) c kept (ws ++ [⟨at_, s⟩]) _ HK4 HF).mono ?_)
  generalize (w4.alloc (.cells #[.int .i64 z, .slice Ak n ck, .slice A4 (m + 1 + 1) c4, .bool false] 25)) = W4 at *
  generalize w4.heap.size = b11 at *
  rintro e w5 ⟨A5, c5, rfl, hmc5, hrow5, _, hb5⟩
  have hal := one_below w5 (.cells #[.int .i64 z, .slice A5 n c5, .slice none 0 0, .bool false] 25)
  have hbw5 := HB4.out.trans (hb5.mono HB4.out.size)
  have HB5 := Lib.hid (hbw5.trans (hal.mono hbw5.size))
  have HL5 := Lib.hid ((HL4.out.below hb5).below hal)
  have HS5 : Hid (DiskIn (w5.alloc (.cells #[.int .i64 z, .slice A5 n c5, .slice none 0 0, .bool false] 25)) A5 none n 0 (image kept (ws ++ [⟨at_, s⟩])) []) := ⟨by unfold image; rw [doneL_len]; exact HL5.out.n_eq, rfl, HL5.out.n_le, by omega, hrow5.below hal, WrRow.nil _ _⟩
  have K11' := Lib.hid ((K11.out.below hb5).below hal)
  obtain ⟨c0, c1, c2, c3, _⟩ := BoxD.new w5 z (.slice A5 n c5) (.slice none 0 0) false
  clear hb5 hal hbw5 HB4 hrow5 hmc5 HK4 HL4 HF K11
  -- the third write
  go_wp2_with (go_at_call 18; refine (write_calls z A5 none n c5 0 0 at_ t (image kept (ws ++ [⟨at_, s⟩])) [] _ HS5 (Nat.le_refl 0) ha hb' ht hzt).mono ?_)
  generalize (w5.alloc (.cells #[.int .i64 z, .slice A5 n c5, .slice none 0 0, .bool false] 25)) = W5 at *
  generalize w5.heap.size = b13 at *
  rintro e w6 ⟨A6, c6, rfl, hmc6, hwr6, _, hb6⟩
  have hal := one_below w6 (.cells #[.int .i64 z, .slice A5 n c5, .slice A6 (0 + 1) c6, .bool false] 25)
  have hbw6 := HB5.out.trans (hb6.mono HB5.out.size)
  have HB6 := Lib.hid (hbw6.trans (hal.mono hbw6.size))
  have HL6 := Lib.hid ((HL5.out.below hb6).below hal)
  have HS6 := (HS5.out.below hb6).below hal
  have HT6 : Hid (DiskIn (w6.alloc (.cells #[.int .i64 z, .slice A5 n c5, .slice A6 (0 + 1) c6, .bool false] 25)) A5 A6 n (0 + 1) (image kept (ws ++ [⟨at_, s⟩])) [⟨at_, t⟩]) := ⟨HS6.n_eq, rfl, HS6.n_le, by omega, HS6.row, hwr6.below hal⟩
  obtain ⟨c0, c1, c2, c3, _⟩ := (K11'.out.below hb6).below hal
  have K15 := Lib.hid (BoxD.new w6 z (.slice A5 n c5) (.slice A6 (0 + 1) c6) false)
  clear hb6 hal hbw6 HB5 hwr6 hmc6 HS5 HS6 HL5 K11'
  -- what is read
  have q0 := Lib.hid (last_same kept ws at_ s t HRR.out.fits ha (by have := HL6.out.n_eq; omega))
  have q1 : Hid (((readL at_ (kept.getD at_.toNat ByteArray.empty) (idxs ((ws ++ [⟨at_, s⟩]) ++ [⟨at_, t⟩]))).size : Int) = z) := Lib.hid (by rw [readL_size]; exact HRR.out.rows _ (by have := HL6.out.n_eq; omega))
  have q2 : Hid ((readL at_ (kept.getD at_.toNat ByteArray.empty) (idxs ((ws ++ [⟨at_, s⟩]) ++ [⟨at_, t⟩]))).extract 0 t.size = t) := Lib.hid (by
    have e := q1.out
    rw [read_same] at e ⊢
    rw [over_size] at e
    exact over_head _ _ (by omega))
  have q3 : Hid (t.size ≤ s.size → (readL at_ (kept.getD at_.toNat ByteArray.empty) (idxs ((ws ++ [⟨at_, s⟩]) ++ [⟨at_, t⟩]))).extract t.size s.size = s.extract t.size s.size) := Lib.hid (fun hts => by
    have e := q1.out
    rw [read_same, read_same] at e ⊢
    rw [over_size, over_size] at e
    exact over_tail _ _ _ (by omega) hts)
  have HY := Lib.hid (fun W H => read_calls z Ak A4 n ck (m + 1 + 1) c4 at_ kept ((ws ++ [⟨at_, s⟩]) ++ [⟨at_, t⟩]) W H ha hb')
  have HZ := Lib.hid (fun W H => read_calls z A5 A6 n c5 (0 + 1) c6 at_ (image kept (ws ++ [⟨at_, s⟩])) [⟨at_, t⟩] W H ha hb')
  rw [q0.out] at HZ
  generalize readL at_ (kept.getD at_.toNat ByteArray.empty) (idxs ((ws ++ [⟨at_, s⟩]) ++ [⟨at_, t⟩])) = X at *
  clear q0
  go_wp2_with (go_at_call 19; refine (HY.out _ HL6).mono ?_)
  generalize (w6.alloc (.cells #[.int .i64 z, .slice A5 n c5, .slice A6 (0 + 1) c6, .bool false] 25)) = W6 at *
  generalize w6.heap.size = b15 at *
  rintro e w7 ⟨rfl, hb7⟩
  obtain ⟨c0, c1, c2, c3, _⟩ := K15.out.below hb7
  have HB7 := Lib.hid (HB6.out.trans (hb7.mono HB6.out.size))
  have HT7 := Lib.hid (HT6.out.below hb7)
  clear hb7 K15 HB6 HT6 HL6 HY
  go_wp2_with (go_at_call 19; refine (HZ.out _ HT7).mono ?_)
  rintro e w8 ⟨rfl, hb8⟩
  have HB8 := Lib.hid (HB7.out.trans (hb8.mono HB7.out.size))
  clear hb8 HB7 HT7 HZ HRR
  have r1 := q1.out
  have r2 := q2.out
  have n1 : decide ((X.size : Int) < (t.size : Int)) = false := by simp; omega
  have n2 : decide ((X.size : Int) < (s.size : Int)) = false := by simp; omega
  have n3 : t.size ≤ X.size := by omega
  have n4 : s.size ≤ X.size := by omega
  by_cases hst : (s.size : Int) ≤ (t.size : Int)
  · have n5 : decide ((s.size : Int) ≤ (t.size : Int)) = true := by simpa using hst
    go_wp2_with fail
    go_quiet (fail)
    go_wp2
    exact bodyPost_ret (v := .bool true) (by simp [results, Try.results7, go_sem]) rfl ⟨rfl, ⟨HB8.out.os, HB8.out.tape, HB8.out.output, HB8.out.size, HB8.out.block⟩⟩
  · have n5 : decide ((s.size : Int) ≤ (t.size : Int)) = false := by simpa using hst
    have r3 := q3.out (by omega)
    have n6 : t.size ≤ s.size := by omega
    have n7 : decide (s.size ≤ t.size) = false := by simp; omega
    clear hst
    go_wp2_with fail
    go_quiet (fail)
    go_wp2
    exact bodyPost_ret (v := .bool true) (by simp [results, Try.results7, go_sem]) rfl ⟨rfl, ⟨HB8.out.os, HB8.out.tape, HB8.out.output, HB8.out.size, HB8.out.block⟩⟩
end Go.Proofs.Ytdilfdjhablnpaa
