/- The walk of DiskActs: the long way. -/
import Derived.Test.YtdilfdjhablnpaaActs
import Derived.Deep.RegionHeld3
namespace Go.Proofs.Ytdilfdjhablnpaa
open Go.RowKit Go.Shelf

set_option maxHeartbeats 8000000 in
set_option maxRecDepth 100000 in
theorem acts_good (z : Int) (Ak Aw : Option Addr) (n ck m cw : Nat) (off : Bool) (at_ : Int) (s : ByteArray) (K : Option Addr) (kn kc : Nat) (many size : Int) (kept : List ByteArray) (ws : List Wr) (keep : List Int) (w : World) (h : Hid (DiskIn w Ak Aw n m kept ws)) (hk : Hid (KeepIn w K kn keep)) (hn : n ≤ 40) (hm : m ≤ 40) (hcap : m ≤ cw) (hR : RightD z kept ws) :
    Calls Try.prog 9 #[.agg #[.int .i64 z, .slice Ak n ck, .slice Aw m cw, .bool off, .int .i64 at_, .string s, .slice K kn kc, .int .i64 many, .int .i64 size]] w fun e w' => e = .returned (.bool true) ∧ Below w.heap.size w w' := by
  have HRR := Lib.hid hR
  clear hR
  have hb := two_below w (.cells #[.int .i64 z, .slice Ak n ck, .slice Aw m cw, .bool off, .int .i64 at_, .string s, .slice K kn kc, .int .i64 many, .int .i64 size] 55) (.cells #[.int .i64 z, .slice Ak n ck, .slice Aw m cw, .bool off] 25)
  have hbx := two w (.cells #[.int .i64 z, .slice Ak n ck, .slice Aw m cw, .bool off, .int .i64 at_, .string s, .slice K kn kc, .int .i64 many, .int .i64 size] 55) z (.slice Ak n ck) (.slice Aw m cw) off
  have hd := h.out.below hb
  have hk1 := hk.out.below hb
  have hne : (nE many size != nE many size) = false := by simp
  have hnl := nL_len many size
  have HNL := Lib.hid hnl
  clear hnl
  go_enter Try.func9, Try.ntmps9
  go_wp2_with (go_at_call 10; refine (shown_calls _).mono ?_)
  rintro e w1 ⟨rfl, hb1⟩
  have HBX := Lib.hid (hbx.below hb1)
  have HB := Lib.hid (hb.trans (hb1.mono hb.size))
  have HD := Lib.hid (hd.below hb1)
  have HK := Lib.hid (hk1.below hb1)
  clear hd hk1 h hk
  clear hb hbx hb1
  go_wp2_with (go_at_call 20; refine (new_ans many size w1).mono ?_)
  rintro e w2 ⟨A1, k1, rfl, hr1, hb2⟩
  have hal := one_below w2 (.cells #[.int .i64 (nZ many size), .slice A1 (nL many size).length k1, .slice none 0 0, .bool false] 25)
  have hbw := HB.out.trans (hb2.mono HB.out.size)
  have HB2 := Lib.hid (hbw.trans (hal.mono hbw.size))
  have HBX2 := Lib.hid ((HBX.out.below hb2).below hal)
  have R1 := Lib.hid (hr1.below hal)
  have K10 := Lib.hid (BoxD.new w2 (nZ many size) (.slice A1 (nL many size).length k1) (.slice none 0 0) false)
  have HD2 := Lib.hid ((HD.out.below hb2).below hal)
  have HK2 := Lib.hid ((HK.out.below hb2).below hal)
  clear HD HK
  clear hal hbw hb2 hr1 HB HBX
  go_wp2_with (go_at_call 22; refine (refNew_ans many size _).mono ?_)
  generalize (w2.alloc (.cells #[.int .i64 (nZ many size), .slice A1 (nL many size).length k1, .slice none 0 0, .bool false] 25)) = W2 at *
  generalize w2.heap.size = b10 at *
  rintro e w3 ⟨A2, k2, rfl, hr2, hb3⟩
  have hal := one_below w3 (.cells #[.int .i64 (nZ many size), .slice A2 (nL many size).length k2, .slice none 0 0, .bool false] 25)
  have hbw := HB2.out.trans (hb3.mono HB2.out.size)
  have HB3 := Lib.hid (hbw.trans (hal.mono hbw.size))
  have HBX3 := Lib.hid ((HBX2.out.below hb3).below hal)
  have R1' := Lib.hid ((R1.out.below hb3).below hal)
  have R2 := Lib.hid (hr2.below hal)
  obtain ⟨c0, c1, c2, c3, _⟩ := (K10.out.below hb3).below hal
  obtain ⟨d0, d1, d2, d3, _⟩ := BoxD.new w3 (nZ many size) (.slice A2 (nL many size).length k2) (.slice none 0 0) false
  have HD3 := Lib.hid ((HD2.out.below hb3).below hal)
  have HK3 := Lib.hid ((HK2.out.below hb3).below hal)
  clear HD2 HK2
  clear hal hbw hb3 hr2 HB2 HBX2 R1 K10
  go_wp2_with (go_at_call 16; refine (same_calls (nZ many size) A1 none A2 none (nL many size).length k1 0 0 k2 0 false (nL many size) [] _ (Lib.hid ⟨rfl, rfl, by have := HNL.out; omega, by omega, R1'.out, WrRow.nil _ _⟩) (Lib.hid ⟨rfl, rfl, by have := HNL.out; omega, by omega, R2.out, WrRow.nil _ _⟩)).mono ?_)
  generalize (w3.alloc (.cells #[.int .i64 (nZ many size), .slice A2 (nL many size).length k2, .slice none 0 0, .bool false] 25)) = W3 at *
  generalize w3.heap.size = b12 at *
  rintro e w4 ⟨rfl, hb4⟩
  have HBX4 := Lib.hid (HBX3.out.below hb4)
  have HB4 := Lib.hid (HB3.out.trans (hb4.mono HB3.out.size))
  have HD4 := Lib.hid (HD3.out.below hb4)
  have HK4 := Lib.hid (HK3.out.below hb4)
  clear HD3 HK3
  clear c0 c1 c2 c3 d0 d1 d2 d3 hb4 HBX3 HB3 R1' R2
  obtain ⟨c0, c1, c2, c3, _⟩ := HBX4.out
  go_wp2_with (go_at_call 11; refine (few_calls z Ak Aw n ck m cw off kept ws w4 HD4 hn hm).mono ?_)
  rintro e w5 ⟨v, rfl, hv, hb5⟩
  have hv1 : v = true := hv.2 HRR.out
  subst hv1
  have HBX5 := Lib.hid (HBX4.out.below hb5)
  have HB5 := Lib.hid (HB4.out.trans (hb5.mono HB4.out.size))
  have HD5 := Lib.hid (HD4.out.below hb5)
  have HK5 := Lib.hid (HK4.out.below hb5)
  clear c0 c1 c2 c3 hb5 HBX4 HB4 HD4 HK4 hv
  obtain ⟨c0, c1, c2, c3, _⟩ := HBX5.out
  have HRD := Lib.hid (fun W H => read_all z Ak Aw n ck m cw off at_ kept ws W H)
  have HRF := Lib.hid (fun W H => refRead_all z Ak Aw n ck m cw off at_ kept ws W H HRR)
  generalize rdS off at_ n kept ws = X at *
  generalize rdE off at_ n = EX at *
  go_wp2_with (go_at_call 19; refine (HRD.out _ HD5).mono ?_)
  rintro e w6 ⟨rfl, hb6⟩
  have HBX6 := Lib.hid (HBX5.out.below hb6)
  have HB6 := Lib.hid (HB5.out.trans (hb6.mono HB5.out.size))
  have HD6 := Lib.hid (HD5.out.below hb6)
  have HK6 := Lib.hid (HK5.out.below hb6)
  clear c0 c1 c2 c3 hb6 HBX5 HB5 HD5 HK5 HRD
  obtain ⟨c0, c1, c2, c3, _⟩ := HBX6.out
  go_wp2_with (go_at_call 24; refine (HRF.out _ HD6).mono ?_)
  rintro e w7 ⟨rfl, hb7⟩
  have HBX7 := Lib.hid (HBX6.out.below hb7)
  have HB7 := Lib.hid (HB6.out.trans (hb7.mono HB6.out.size))
  have HD7 := Lib.hid (HD6.out.below hb7)
  have HK7 := Lib.hid (HK6.out.below hb7)
  clear c0 c1 c2 c3 hb7 HBX6 HB6 HD6 HK6 HRF
  obtain ⟨c0, c1, c2, c3, _⟩ := HBX7.out
  have HWA := Lib.hid (fun W H => write_ans z Ak Aw n ck m cw off at_ s kept ws W H hcap)
  have HWB := Lib.hid (fun W H => refWrite_ans z Ak Aw n ck m cw off at_ s kept ws W H hcap)
  have HWL := Lib.hid (wrW_len z off at_ n s ws)
  generalize wrW z off at_ n s ws = WL at *
  generalize wrE z off at_ n s = WE at *
  go_wp2_with (go_at_call 18; refine (HWA.out _ HD7).mono ?_)
  rintro e w8 ⟨A5, c5, rfl, hr5, hb8⟩
  have hal := one_below w8 (.cells #[.int .i64 z, .slice Ak n ck, .slice A5 WL.length c5, .bool off] 25)
  have hbw := HB7.out.trans (hb8.mono HB7.out.size)
  have HB8 := Lib.hid (hbw.trans (hal.mono hbw.size))
  have HBX8 := Lib.hid ((HBX7.out.below hb8).below hal)
  have HD8 := Lib.hid ((HD7.out.below hb8).below hal)
  have HK8 := Lib.hid ((HK7.out.below hb8).below hal)
  have R5 := Lib.hid (hr5.below hal)
  have K20 := Lib.hid (BoxD.new w8 z (.slice Ak n ck) (.slice A5 WL.length c5) off)
  clear c0 c1 c2 c3 hal hbw hb8 hr5 HBX7 HB7 HD7 HK7 HWA
  obtain ⟨c0, c1, c2, c3, _⟩ := HBX8.out
  go_wp2_with (go_at_call 25; refine (HWB.out _ HD8).mono ?_)
  generalize (w8.alloc (.cells #[.int .i64 z, .slice Ak n ck, .slice A5 WL.length c5, .bool off] 25)) = W8 at *
  generalize w8.heap.size = b20 at *
  rintro e w9 ⟨A6, c6, rfl, hr6, hb9⟩
  have hal := one_below w9 (.cells #[.int .i64 z, .slice Ak n ck, .slice A6 WL.length c6, .bool off] 25)
  have hbw := HB8.out.trans (hb9.mono HB8.out.size)
  have HB9 := Lib.hid (hbw.trans (hal.mono hbw.size))
  have HBX9 := Lib.hid ((HBX8.out.below hb9).below hal)
  have HD9 := Lib.hid ((HD8.out.below hb9).below hal)
  have HK9 := Lib.hid ((HK8.out.below hb9).below hal)
  have R59 := Lib.hid ((R5.out.below hb9).below hal)
  have R69 := Lib.hid (hr6.below hal)
  have K209 := Lib.hid ((K20.out.below hb9).below hal)
  have K229 := Lib.hid (BoxD.new w9 z (.slice Ak n ck) (.slice A6 WL.length c6) off)
  clear c0 c1 c2 c3 hal hbw hb9 hr6 HBX8 HB8 HD8 HK8 R5 K20 HWB
  obtain ⟨c0, c1, c2, c3, _⟩ := HBX9.out
  have HSA := Lib.hid (fun W H => sync_ans z Ak Aw n ck m cw off kept ws W H HRR)
  have HSB := Lib.hid (fun W H => refSync_ans z Ak Aw n ck m cw off kept ws W H HRR)
  have HSK := Lib.hid (syK_len off kept ws)
  have HSW := Lib.hid (syW_len off ws)
  generalize syK off kept ws = SK at *
  generalize syW off ws = SW at *
  generalize syE off = SE at *
  go_wp2_with (go_at_call 13; refine (HSA.out _ HD9).mono ?_)
  generalize (w9.alloc (.cells #[.int .i64 z, .slice Ak n ck, .slice A6 WL.length c6, .bool off] 25)) = W9 at *
  generalize w9.heap.size = b22 at *
  rintro e w10 ⟨A7, c7, B7, e7, rfl, hr7, hq7, hb10⟩
  have hal := one_below w10 (.cells #[.int .i64 z, .slice A7 n c7, .slice B7 SW.length e7, .bool off] 25)
  have hbw := HB9.out.trans (hb10.mono HB9.out.size)
  have HB10 := Lib.hid (hbw.trans (hal.mono hbw.size))
  have HBX10 := Lib.hid ((HBX9.out.below hb10).below hal)
  have HD10 := Lib.hid ((HD9.out.below hb10).below hal)
  have HK10 := Lib.hid ((HK9.out.below hb10).below hal)
  have R510 := Lib.hid ((R59.out.below hb10).below hal)
  have R610 := Lib.hid ((R69.out.below hb10).below hal)
  have R7 := Lib.hid (hr7.below hal)
  have Q7 := Lib.hid (hq7.below hal)
  have K2010 := Lib.hid ((K209.out.below hb10).below hal)
  have K2210 := Lib.hid ((K229.out.below hb10).below hal)
  have K24 := Lib.hid (BoxD.new w10 z (.slice A7 n c7) (.slice B7 SW.length e7) off)
  clear c0 c1 c2 c3 hal hbw hb10 hr7 hq7 HBX9 HB9 HD9 HK9 R59 R69 K209 K229 HSA
  obtain ⟨c0, c1, c2, c3, _⟩ := HBX10.out
  go_wp2_with (go_at_call 26; refine (HSB.out _ HD10).mono ?_)
  generalize (w10.alloc (.cells #[.int .i64 z, .slice A7 n c7, .slice B7 SW.length e7, .bool off] 25)) = W10 at *
  generalize w10.heap.size = b24 at *
  rintro e w11 ⟨A8, c8, B8, e8, rfl, hr8, hq8, hb11⟩
  have hal := one_below w11 (.cells #[.int .i64 z, .slice A8 n c8, .slice B8 SW.length e8, .bool off] 25)
  have hbw := HB10.out.trans (hb11.mono HB10.out.size)
  have HB11 := hbw.trans (hal.mono hbw.size)
  have HD11 := (HD10.out.below hb11).below hal
  have HK11 := (HK10.out.below hb11).below hal
  have R511 := (R510.out.below hb11).below hal
  have R611 := (R610.out.below hb11).below hal
  have R711 := (R7.out.below hb11).below hal
  have Q711 := (Q7.out.below hb11).below hal
  have R811 := hr8.below hal
  have Q811 := hq8.below hal
  clear c0 c1 c2 c3
  obtain ⟨p0, p1, p2, p3, _⟩ := (K2010.out.below hb11).below hal
  obtain ⟨q0, q1, q2, q3, _⟩ := (K2210.out.below hb11).below hal
  obtain ⟨r0, r1, r2, r3, _⟩ := (K24.out.below hb11).below hal
  obtain ⟨t0, t1, t2, t3, _⟩ := BoxD.new w11 z (.slice A8 n c8) (.slice B8 SW.length e8) off
  obtain ⟨c0, c1, c2, c3, _⟩ := (HBX10.out.below hb11).below hal
  have hsn : n = SK.length := by rw [HSK.out]; exact HD11.n_eq
  have hw1 : WL.length ≤ 100000 := by have := HWL.out; have := HD11.m_eq; omega
  have hw2 : SW.length ≤ 100000 := by have := HSW.out; have := HD11.m_eq; omega
  have hnb : n ≤ 100000 := HD11.n_le
  have HAF : Hid (AF w Ak Aw K A5 A6 A7 B7 A8 B8 n m kn kept ws keep WL SK SW (w11.alloc (.cells #[.int .i64 z, .slice A8 n c8, .slice B8 SW.length e8, .bool off] 25))) := Lib.hid ⟨HB11, HD11, HK11, ⟨HD11.n_eq, rfl, hnb, hw1, HD11.row, R511⟩, ⟨HD11.n_eq, rfl, hnb, hw1, HD11.row, R611⟩, ⟨hsn, rfl, hnb, hw2, R711, Q711⟩, ⟨hsn, rfl, hnb, hw2, R811, Q811⟩⟩
  have HLC : Hid (n = (crashed keep kept ws).length) := Lib.hid (by unfold crashed; rw [doneL_len]; exact HD11.n_eq)
  have HLI : Hid (n = (image kept ws).length) := Lib.hid (by unfold image; rw [doneL_len]; exact HD11.n_eq)
  have HF : Hid (Fits n ws) := Lib.hid (by rw [HD11.n_eq]; exact HRR.out.fits)
  clear hal hbw hb11 hr8 hq8 hsn hw1 hw2 hnb HBX10 HB10 HD10 HK10 R510 R610 R7 Q7 K2010 K2210 K24 HB11 HD11 HK11 R511 R611 R711 Q711 R811 Q811 HSB HSK HSW HWL
  go_wp2_with fail
  generalize (w11.alloc (.cells #[.int .i64 z, .slice A8 n c8, .slice B8 SW.length e8, .bool off] 25)) = W11 at *
  generalize w11.heap.size = b26 at *
  have hS : W11.cell? ⟨b20, 0, none⟩ = some (.int .i64 z) ∧ W11.cell? ⟨b20, 1, none⟩ = some (.slice Ak n ck) ∧ W11.cell? ⟨b20, 2, none⟩ = some (.slice A5 WL.length c5) ∧ W11.cell? ⟨b20, 3, none⟩ = some (.bool off) ∧
      W11.cell? ⟨b22, 0, none⟩ = some (.int .i64 z) ∧ W11.cell? ⟨b22, 1, none⟩ = some (.slice Ak n ck) ∧ W11.cell? ⟨b22, 2, none⟩ = some (.slice A6 WL.length c6) ∧ W11.cell? ⟨b22, 3, none⟩ = some (.bool off) ∧
      W11.cell? ⟨b24, 0, none⟩ = some (.int .i64 z) ∧ W11.cell? ⟨b24, 1, none⟩ = some (.slice A7 n c7) ∧ W11.cell? ⟨b24, 2, none⟩ = some (.slice B7 SW.length e7) ∧ W11.cell? ⟨b24, 3, none⟩ = some (.bool off) ∧
      W11.cell? ⟨b26, 0, none⟩ = some (.int .i64 z) ∧ W11.cell? ⟨b26, 1, none⟩ = some (.slice A8 n c8) ∧ W11.cell? ⟨b26, 2, none⟩ = some (.slice B8 SW.length e8) ∧ W11.cell? ⟨b26, 3, none⟩ = some (.bool off) ∧
      W11.cell? ⟨w.heap.size + 1, 0, none⟩ = some (.int .i64 z) ∧ W11.cell? ⟨w.heap.size + 1, 1, none⟩ = some (.slice Ak n ck) ∧ W11.cell? ⟨w.heap.size + 1, 2, none⟩ = some (.slice Aw m cw) ∧ W11.cell? ⟨w.heap.size + 1, 3, none⟩ = some (.bool off) ∧
      Hid (AF w Ak Aw K A5 A6 A7 B7 A8 B8 n m kn kept ws keep WL SK SW W11) := ⟨p0, p1, p2, p3, q0, q1, q2, q3, r0, r1, r2, r3, t0, t1, t2, t3, c0, c1, c2, c3, HAF⟩
  clear p0 p1 p2 p3 q0 q1 q2 q3 r0 r1 r2 r3 t0 t1 t2 t3 c0 c1 c2 c3 HAF
  go_region_held3 (fun W' => W'.cell? ⟨b20, 0, none⟩ = some (.int .i64 z) ∧ W'.cell? ⟨b20, 1, none⟩ = some (.slice Ak n ck) ∧ W'.cell? ⟨b20, 2, none⟩ = some (.slice A5 WL.length c5) ∧ W'.cell? ⟨b20, 3, none⟩ = some (.bool off) ∧
      W'.cell? ⟨b22, 0, none⟩ = some (.int .i64 z) ∧ W'.cell? ⟨b22, 1, none⟩ = some (.slice Ak n ck) ∧ W'.cell? ⟨b22, 2, none⟩ = some (.slice A6 WL.length c6) ∧ W'.cell? ⟨b22, 3, none⟩ = some (.bool off) ∧
      W'.cell? ⟨b24, 0, none⟩ = some (.int .i64 z) ∧ W'.cell? ⟨b24, 1, none⟩ = some (.slice A7 n c7) ∧ W'.cell? ⟨b24, 2, none⟩ = some (.slice B7 SW.length e7) ∧ W'.cell? ⟨b24, 3, none⟩ = some (.bool off) ∧
      W'.cell? ⟨b26, 0, none⟩ = some (.int .i64 z) ∧ W'.cell? ⟨b26, 1, none⟩ = some (.slice A8 n c8) ∧ W'.cell? ⟨b26, 2, none⟩ = some (.slice B8 SW.length e8) ∧ W'.cell? ⟨b26, 3, none⟩ = some (.bool off) ∧
      W'.cell? ⟨w.heap.size + 1, 0, none⟩ = some (.int .i64 z) ∧ W'.cell? ⟨w.heap.size + 1, 1, none⟩ = some (.slice Ak n ck) ∧ W'.cell? ⟨w.heap.size + 1, 2, none⟩ = some (.slice Aw m cw) ∧ W'.cell? ⟨w.heap.size + 1, 3, none⟩ = some (.bool off) ∧
      Hid (AF w Ak Aw K A5 A6 A7 B7 A8 B8 n m kn kept ws keep WL SK SW W'))
    (first | assumption | exact held20_below (by assumption) (by assumption) | exact held20_below (Below.refl _ _).drew (by assumption))
    (first
      | (go_at_call 12; refine (crash_calls z Ak Aw n ck m cw off kept ws K kn kc keep _ ?_ HF ?_ (Lib.hid HRR.out.short)).mono ?_; (go_split_ands; exact Lib.hid (AF.d (Hid.out (by assumption)))); (go_split_ands; exact Lib.hid (AF.k (Hid.out (by assumption)))); rintro e w' ⟨A, c, rfl, hnc, hrow, hown, hbel⟩; clear hown)
      | (go_at_call 27; refine (refCrash_calls z Ak Aw n ck m cw off kept ws K kn kc keep _ ?_ HRR ?_).mono ?_; (go_split_ands; exact Lib.hid (AF.d (Hid.out (by assumption)))); (go_split_ands; exact Lib.hid (AF.k (Hid.out (by assumption)))); rintro e w' ⟨A, c, rfl, hnc, hrow2, hbel⟩)
      | (go_at_call 21; refine (cut_calls z Ak Aw n ck m cw off _).mono ?_; rintro e w' ⟨rfl, hbel⟩)
      | (go_at_call 28; refine (refCut_calls z Ak Aw n ck m cw off _).mono ?_; rintro e w' ⟨rfl, hbel⟩)
      | (go_at_call 15; refine (image_calls z Ak Aw n ck m cw off kept ws _ ?_ HF).mono ?_; (go_split_ands; exact Lib.hid (AF.d (Hid.out (by assumption)))); rintro e w' ⟨A, c, rfl, hnc, hrowI, hown, hbel⟩; clear hown)
      | (go_at_call 29; refine (refImage_calls z Ak Aw n ck m cw off kept ws _ ?_ HRR).mono ?_; (go_split_ands; exact Lib.hid (AF.d (Hid.out (by assumption)))); rintro e w' ⟨A, c, rfl, hnc, hrowJ, hown, hbel⟩; clear hown)
      | (go_at_call 14; refine (strings_same _ _ n _ _ (image kept ws) _ HLI.out ?_ ?_ (by omega)).mono ?_; (exact StrRow.below (by assumption) (by assumption)); assumption; rintro e w' ⟨rfl, hbel⟩)
      | (go_at_call 16; refine (same_ex z _ _ _ _ n _ _ _ _ _ _ _ ?_).mono ?_; (go_split_ands; first | exact ⟨_, _, AF.a (Hid.out (by assumption)), AF.ra (Hid.out (by assumption))⟩ | exact ⟨_, _, AF.p (Hid.out (by assumption)), AF.q (Hid.out (by assumption))⟩ | exact ⟨_, _, AF.d (Hid.out (by assumption)), AF.d (Hid.out (by assumption))⟩ | exact ⟨crashed keep kept ws, [], ⟨HLC.out, rfl, by omega, by omega, StrRow.below (by assumption) (by assumption), WrRow.nil _ _⟩, ⟨HLC.out, rfl, by omega, by omega, by assumption, WrRow.nil _ _⟩⟩); rintro e w' ⟨rfl, hbel⟩))
  go_split_ands
  have HAF := (by assumption : Hid (AF w Ak Aw K A5 A6 A7 B7 A8 B8 n m kn kept ws keep WL SK SW _))
  have HDF := Lib.hid HAF.out.d
  have HBF := Lib.hid HAF.out.b
  clear HAF
  go_wp2_with (go_at_call 23; refine (dright_true z Ak Aw n ck m cw off kept ws _ HDF HRR).mono ?_)
  rintro e w13 ⟨rfl, hb13⟩
  have HB5 := Lib.hid (HBF.out.trans (hb13.mono HBF.out.size))
  clear hb13 HBF HDF
  go_wp2
  exact bodyPost_ret (v := .bool true) (by simp [results, Try.results9, go_sem]) rfl ⟨rfl, HB5.out⟩
end Go.Proofs.Ytdilfdjhablnpaa
