/- The walk of DiskReads where the write goes well and the other sector is none. -/
import Derived.Test.YtdilfdjhablnpaaPlainReads
namespace Go.Proofs.Ytdilfdjhablnpaa
open Go.RowKit Go.Shelf

set_option maxHeartbeats 2000000 in
theorem reads_away (z : Int) (Ak Aw : Option Addr) (n ck m cw : Nat) (at_ : Int) (s : ByteArray) (other : Int) (kept : List ByteArray) (ws : List Wr) (w : World) (h : Hid (DiskIn w Ak Aw n m kept ws)) (hn : n ≤ 40) (hm : m ≤ 40) (hcap : m ≤ cw)
    (hR : RightD z kept ws) (ha : 0 ≤ at_) (hb' : at_ < n) (hs : 1 ≤ s.size) (hz : (s.size : Int) ≤ z) (ho : other < 0 ∨ (n : Int) ≤ other) :
    Calls Try.prog 5 #[.agg #[.int .i64 z, .slice Ak n ck, .slice Aw m cw, .bool false, .int .i64 at_, .string s, .int .i64 other]] w fun e w' => e = .returned (.bool true) ∧ Below w.heap.size w w' := by
  have hb := two_below w (.cells #[.int .i64 z, .slice Ak n ck, .slice Aw m cw, .bool false, .int .i64 at_, .string s, .int .i64 other] 41) (.cells #[.int .i64 z, .slice Ak n ck, .slice Aw m cw, .bool false] 25)
  have hbx := two w (.cells #[.int .i64 z, .slice Ak n ck, .slice Aw m cw, .bool false, .int .i64 at_, .string s, .int .i64 other] 41) z (.slice Ak n ck) (.slice Aw m cw) false
  have hd := h.out.below hb
  have HRR := Lib.hid hR
  clear hR
  go_enter Try.func5, Try.ntmps5
  go_wp2_with (go_at_call 10; refine (shown_calls _).mono ?_)
  rintro e w1 ⟨rfl, hb1⟩
  have hbx1 := hbx.below hb1
  have HBX := Lib.hid hbx1
  obtain ⟨c0, c1, c2, c3, _⟩ := hbx1
  have HB := Lib.hid (hb.trans (hb1.mono hb.size))
  have HD := Lib.hid (hd.below hb1)
  clear hb hbx hb1 hd h
  go_wp2_with (go_at_call 11; refine (few_calls z Ak Aw n ck m cw false kept ws w1 HD hn hm).mono ?_)
  rintro e w2 ⟨v, rfl, hv, hb2⟩
  have hv1 : v = true := hv.2 HRR.out
  subst hv1
  have hbx2 := HBX.out.below hb2
  have HBX2 := Lib.hid hbx2
  obtain ⟨c0, c1, c2, c3, _⟩ := hbx2
  have HB2 := Lib.hid (HB.out.trans (hb2.mono HB.out.size))
  have HD2 := Lib.hid (HD.out.below hb2)
  clear hb2 HBX HB HD hv
  go_wp2_with (go_at_call 18; refine (write_calls z Ak Aw n ck m cw at_ s kept ws w2 HD2 hcap ha hb' hs hz).mono ?_)
  rintro e w3 ⟨A, c, rfl, hmc, hwr, _, hb3⟩
  have hal := one_below w3 (.cells #[.int .i64 z, .slice Ak n ck, .slice A (m + 1) c, .bool false] 25)
  have hbw3 := HB2.out.trans (hb3.mono HB2.out.size)
  have HB3 := Lib.hid (hbw3.trans (hal.mono hbw3.size))
  have HD3 := Lib.hid ((HD2.out.below hb3).below hal)
  have HK3 : Hid (DiskIn (w3.alloc (.cells #[.int .i64 z, .slice Ak n ck, .slice A (m + 1) c, .bool false] 25)) Ak A n (m + 1) kept (ws ++ [⟨at_, s⟩])) := ⟨HD3.out.n_eq, by have := HD3.out.m_eq; simp; omega, HD3.out.n_le, by omega, HD3.out.row, hwr.below hal⟩
  have HBX3 := Lib.hid ((HBX2.out.below hb3).below hal)
  have K9 := Lib.hid (BoxD.new w3 z (.slice Ak n ck) (.slice A (m + 1) c) false)
  clear hb3 hal hbw3 HB2 HD2 HBX2 hwr hmc
  go_wp2_with (go_at_call 19; refine (read_calls z Ak A n ck (m + 1) c at_ kept (ws ++ [⟨at_, s⟩]) _ HK3 ha hb').mono ?_)
  generalize (w3.alloc (.cells #[.int .i64 z, .slice Ak n ck, .slice A (m + 1) c, .bool false] 25)) = W3 at *
  generalize w3.heap.size = b9 at *
  rintro e w4 ⟨rfl, hb4⟩
  have hx4 := HBX3.out.below hb4
  have HBX4 := Lib.hid hx4
  have K9' := Lib.hid (K9.out.below hb4)
  obtain ⟨c0, c1, c2, c3, _⟩ := hx4
  have HB4 := Lib.hid (HB3.out.trans (hb4.mono HB3.out.size))
  have HD4 := Lib.hid (HD3.out.below hb4)
  have HK4 := Lib.hid (HK3.out.below hb4)
  have q1 := Lib.hid (read_same at_ (kept.getD at_.toNat ByteArray.empty) s ws)
  have q2 := Lib.hid (show ((readL at_ (kept.getD at_.toNat ByteArray.empty) (idxs (ws ++ [⟨at_, s⟩]))).size : Int) = z from by rw [readL_size]; exact HRR.out.rows _ (by have := HD4.out.n_eq; omega))
  have q4 := Lib.hid (show (readL at_ (kept.getD at_.toNat ByteArray.empty) (idxs (ws ++ [⟨at_, s⟩]))).extract 0 s.size = s from by
    rw [q1.out]
    refine over_head _ _ ?_
    have := q2.out
    rw [q1.out, over_size] at this
    omega)
  have HY := Lib.hid (fun W => readNone_calls z Ak Aw n ck m cw other W ho)
  have HZ := Lib.hid (fun W => readNone_calls z Ak A n ck (m + 1) c other W ho)
  clear q1 hb4 HBX3 K9 HB3 HD3 HK3
  generalize readL at_ (kept.getD at_.toNat ByteArray.empty) (idxs (ws ++ [⟨at_, s⟩])) = X at *
  go_wp2_with (go_at_call 19; refine (HY.out _).mono ?_)
  rintro e w5 ⟨rfl, hb5⟩
  have HBX5 := Lib.hid (HBX4.out.below hb5)
  obtain ⟨c0, c1, c2, c3, _⟩ := K9'.out.below hb5
  have HB5 := Lib.hid (HB4.out.trans (hb5.mono HB4.out.size))
  have HK5 := Lib.hid (HK4.out.below hb5)
  clear hb5 HBX4 K9' HB4 HD4 HK4 HY
  go_wp2_with (go_at_call 19; refine (HZ.out _).mono ?_)
  rintro e w6 ⟨rfl, hb6⟩
  obtain ⟨c0, c1, c2, c3, _⟩ := HBX5.out.below hb6
  have HB6 := Lib.hid (HB5.out.trans (hb6.mono HB5.out.size))
  clear hb6 HBX5 HB5 HK5 HZ HRR
  have r2 := q2.out
  have r4 := q4.out
  have n1 : s.size ≤ X.size := by omega
  have n2 : ((X.size : Int) == z) = true := by simp [r2]
  have n3 : decide ((s.size : Int) ≤ (X.size : Int)) = true := by simp; omega
  go_wp2
  all_goals exact bodyPost_ret (v := .bool true) (by simp [results, Try.results5, go_sem]) rfl ⟨rfl, HB6.out⟩
end Go.Proofs.Ytdilfdjhablnpaa
