/- The walk of DiskKeeps: the long way. -/
import Derived.Test.YtdilfdjhablnpaaKeepAll
import Derived.Maps.AppendAt
import Derived.BigQuiet
import Derived.Deep.RegionHeld3
namespace Go.Proofs.Ytdilfdjhablnpaa
open Go.RowKit Go.Shelf

theorem infoInt : (Try.prog.info? 3).map (fun i => (i.zero, i.size, i.bytes)) = some (some (.int .i64 0), 1, 8) := by kernel_rfl

set_option maxHeartbeats 4000000 in
set_option maxRecDepth 100000 in
theorem keeps_good (z : Int) (Ak Aw : Option Addr) (n ck m cw : Nat) (K : Option Addr) (kn kc : Nat) (kept : List ByteArray) (ws : List Wr) (keep : List Int) (w : World) (h : Hid (DiskIn w Ak Aw n m kept ws)) (hn : n ≤ 40) (hm : m ≤ 40)
    (hk : Hid (KeepIn w K kn keep)) (hR : RightD z kept ws) :
    Calls Try.prog 4 #[.agg #[.int .i64 z, .slice Ak n ck, .slice Aw m cw, .bool false], .slice K kn kc] w fun e w' => e = .returned (.bool true) ∧ Below w.heap.size w w' := by
  obtain ⟨i0, hi, hz0, hz1, hz2⟩ := info_parts infoInt
  have hb := one_below w (.cells #[.int .i64 z, .slice Ak n ck, .slice Aw m cw, .bool false] 25)
  have hbx := BoxD.new w z (.slice Ak n ck) (.slice Aw m cw) false
  have hd := h.out.below hb
  have hk1 := hk.out.below hb
  have HRR := Lib.hid hR
  clear hR hk
  go_enter Try.func4, Try.ntmps4
  go_wp2_with (go_at_call 10; refine (shown_calls _).mono ?_)
  rintro e w1 ⟨rfl, hb1⟩
  have hbx1 := hbx.below hb1
  have HBX := Lib.hid hbx1
  obtain ⟨c0, c1, c2, c3, _⟩ := hbx1
  have HB := Lib.hid (hb.trans (hb1.mono hb.size))
  have HD := Lib.hid (hd.below hb1)
  have HK := Lib.hid (hk1.below hb1)
  clear hb hbx hb1 hd h hk1
  go_wp2_with (go_at_call 11; refine (few_calls z Ak Aw n ck m cw false kept ws w1 HD hn hm).mono ?_)
  rintro e w2 ⟨v, rfl, hv, hb2⟩
  have hv1 : v = true := hv.2 HRR.out
  subst hv1
  have hbx2 := HBX.out.below hb2
  have HBX2 := Lib.hid hbx2
  obtain ⟨c0, c1, c2, c3, _⟩ := hbx2
  have HB2 := Lib.hid (HB.out.trans (hb2.mono HB.out.size))
  have HD2 := Lib.hid (HD.out.below hb2)
  have HK2 := Lib.hid (HK.out.below hb2)
  have HF : Hid (Fits n ws) := Lib.hid (by rw [HD2.out.n_eq]; exact HRR.out.fits)
  clear hb2 HBX HB HD hv HK
  go_wp2_with (go_at_call 13; refine (sync_calls z Ak Aw n ck m cw kept ws w2 HD2 HF).mono ?_)
  rintro e w3 ⟨A3, s3, rfl, _, hrow3, _, hb3⟩
  have hal := one_below w3 (.cells #[.int .i64 z, .slice A3 n s3, .slice none 0 0, .bool false] 25)
  have hbw3 := HB2.out.trans (hb3.mono HB2.out.size)
  have HB3 := Lib.hid (hbw3.trans (hal.mono hbw3.size))
  have HD3 := Lib.hid ((HD2.out.below hb3).below hal)
  have HK3 := Lib.hid ((HK2.out.below hb3).below hal)
  have HS3 : Hid (DiskIn (w3.alloc (.cells #[.int .i64 z, .slice A3 n s3, .slice none 0 0, .bool false] 25)) A3 none n 0 (image kept ws) []) := ⟨by unfold image; rw [doneL_len]; exact HD3.out.n_eq, rfl, HD3.out.n_le, by omega, hrow3.below hal, WrRow.nil _ _⟩
  have HBX3 := Lib.hid ((HBX2.out.below hb3).below hal)
  have KS3 := Lib.hid (BoxD.new w3 z (.slice A3 n s3) (.slice none 0 0) false)
  clear hb3 hal hbw3 HB2 HD2 HBX2 hrow3 HK2
  go_wp2_with fail
  generalize (w3.alloc (.cells #[.int .i64 z, .slice A3 n s3, .slice none 0 0, .bool false] 25)) = W3 at *
  generalize w3.heap.size = b7 at *
  go_loopw [9, 10] (fun v i wr => ∃ k : Nat, k ≤ m ∧ i = .int .i64 k ∧ Hid (wr.ownsRow W3.heap.size 3 1 v k (List.replicate k (.int .i64 1099511627776))) ∧ Hid (Below W3.heap.size W3 wr)) (fun _ i _ => m - (intOf i).toNat)
  case atStart => exact ⟨0, by omega, rfl, Lib.hid (World.ownsRow_nil _ _ _ _), Lib.hid (Below.refl _ _)⟩
  case round =>
    obtain ⟨k, hkm, rfl, hown, hbl⟩ := hrel
    obtain ⟨c0, c1, c2, c3, _⟩ := HBX3.out.below hbl.out
    by_cases hlt : k < m
    · have e1 : decide ((k : Int) < (m : Int)) = true := by simp; omega
      have HLT := Lib.hid hlt
      have hz := hbl.out.size
      go_wp2_with (at_builtin; refine wpList_append_own _ rfl _ _ 26 rfl W3.heap.size 3 i0 (.int .i64 0) 1 8 Try.underlying26 hi hz0 hz1 hz2 rfl (by decide) _ _ _ rfl (hown.out.alloc _) ⟨wr.heap.size, 0, none⟩ 1 1 [.int .i64 1099511627776] rfl rfl (cell_one_new _ _ _) (by intro u hu; simp at hu; subst hu; rfl) (by unfold maxLen; omega) (by omega) (by simp; omega) ?_)
      intro v' w4 hown' hgrow _
      have hb' := (hbl.out.alloc hz (.cells #[.int .i64 1099511627776] 3)).grown hgrow (by simp; omega) (fun k hk => (hown.out.lt k hk).1)
      have H := Lib.hid hown'
      have H2 := Lib.hid hb'
      clear hown' hgrow hb'
      go_wp2
      go_roundw
      case rel => exact ⟨k + 1, by have := HLT.out; omega, by go_num, by
        have := H.out
        refine Lib.hid ?_
        rw [List.replicate_succ']
        exact this, H2⟩
      case measure => have := HLT.out; simp [intOf]; omega
    · have hkm2 : m = k := by omega
      subst hkm2
      have e1 : decide ((m : Int) < (m : Int)) = false := by simp
      obtain ⟨A4, s4, rfl, hkall⟩ := keep_of_own 1099511627776 (by omega) (by omega) (by omega) hown.out
      have HL := Lib.hid hkall
      have HB4 := Lib.hid (HB3.out.trans (hbl.out.mono HB3.out.size))
      have HD4 := Lib.hid (HD3.out.below hbl.out)
      have HK4 := Lib.hid (HK3.out.below hbl.out)
      have HS4 := Lib.hid (HS3.out.below hbl.out)
      have HX4 := Lib.hid (HBX3.out.below hbl.out)
      have KS4 := Lib.hid (KS3.out.below hbl.out)
      obtain ⟨y0, y1, y2, y3, _⟩ := KS3.out.below hbl.out
      clear hkall hown hbl HB3 HD3 HK3 HS3 HBX3 KS3
      go_wp2_with (go_at_call 12; refine (crash_calls z A3 none n s3 0 0 false (image kept ws) [] K kn kc keep wr HS4 (Lib.hid (fits_nil n)) HK4 (Lib.hid short_nil)).mono ?_)
      clear c0 c1 c2 c3 y0 y1 y2 y3
      rintro e w5 ⟨A5, s5, rfl, _, hrow5, _, hb5⟩
      have hal := one_below w5 (.cells #[.int .i64 z, .slice A5 n s5, .slice none 0 0, .bool false] 25)
      have hbw5 := HB4.out.trans (hb5.mono HB4.out.size)
      have HB5 := Lib.hid (hbw5.trans (hal.mono hbw5.size))
      have HD5 := Lib.hid ((HD4.out.below hb5).below hal)
      have HK5 := Lib.hid ((HK4.out.below hb5).below hal)
      have HS5 := Lib.hid ((HS4.out.below hb5).below hal)
      have HL5 := Lib.hid ((HL.out.below hb5).below hal)
      have HX5 := Lib.hid ((HX4.out.below hb5).below hal)
      have KS5 := Lib.hid ((KS4.out.below hb5).below hal)
      have RA5 := Lib.hid (hrow5.below hal)
      have KA5 := Lib.hid (BoxD.new w5 z (.slice A5 n s5) (.slice none 0 0) false)
      obtain ⟨c0, c1, c2, c3, _⟩ := (HX4.out.below hb5).below hal
      clear hal hbw5 hb5 hrow5 HB4 HD4 HK4 HS4 HL HX4 KS4
      go_wp2_with (go_at_call 12; refine (crash_calls z Ak Aw n ck m cw false kept ws A4 m s4 (List.replicate m 1099511627776) _ HD5 HF HL5 (Lib.hid HRR.out.short)).mono ?_)
      clear c0 c1 c2 c3
      generalize (w5.alloc (.cells #[.int .i64 z, .slice A5 n s5, .slice none 0 0, .bool false] 25)) = W5 at *
      generalize w5.heap.size = b11 at *
      rintro e w6 ⟨A6, s6, rfl, _, hrow6, _, hb6⟩
      have hal := one_below w6 (.cells #[.int .i64 z, .slice A6 n s6, .slice none 0 0, .bool false] 25)
      have hbw6 := HB5.out.trans (hb6.mono HB5.out.size)
      have HB6 := Lib.hid (hbw6.trans (hal.mono hbw6.size))
      have HD6 := Lib.hid ((HD5.out.below hb6).below hal)
      have HK6 := Lib.hid ((HK5.out.below hb6).below hal)
      have HS6 := Lib.hid ((HS5.out.below hb6).below hal)
      have HL6 := Lib.hid ((HL5.out.below hb6).below hal)
      have HX6 := Lib.hid ((HX5.out.below hb6).below hal)
      have KS6 := Lib.hid ((KS5.out.below hb6).below hal)
      have KA6 := Lib.hid ((KA5.out.below hb6).below hal)
      have RA6 := Lib.hid ((RA5.out.below hb6).below hal)
      have RB6 := Lib.hid (hrow6.below hal)
      have hall : crashed (List.replicate m 1099511627776) kept ws = image kept ws := by rw [HD6.out.m_eq]; exact HRR.out.all
      rw [hall] at RB6
      have KB6 := Lib.hid (BoxD.new w6 z (.slice A6 n s6) (.slice none 0 0) false)
      obtain ⟨c0, c1, c2, c3, _⟩ := (HX5.out.below hb6).below hal
      clear hal hbw6 hb6 hrow6 HB5 HD5 HK5 HS5 HL5 HX5 KS5 KA5 RA5 hall
      go_wp2_with (go_at_call 12; refine (crash_calls z Ak Aw n ck m cw false kept ws K kn kc keep _ HD6 HF HK6 (Lib.hid HRR.out.short)).mono ?_)
      clear c0 c1 c2 c3
      generalize (w6.alloc (.cells #[.int .i64 z, .slice A6 n s6, .slice none 0 0, .bool false] 25)) = W6 at *
      generalize w6.heap.size = b12 at *
      rintro e w7 ⟨A7, s7, rfl, _, hrow7, _, hb7⟩
      have hal := one_below w7 (.cells #[.int .i64 z, .slice A7 n s7, .slice none 0 0, .bool false] 25)
      have hbw7 := HB6.out.trans (hb7.mono HB6.out.size)
      have HB7 := hbw7.trans (hal.mono hbw7.size)
      have HD7 := (HD6.out.below hb7).below hal
      have HS7 := (HS6.out.below hb7).below hal
      have HL7 := (HL6.out.below hb7).below hal
      obtain ⟨d0, d1, d2, d3, _⟩ := (HX6.out.below hb7).below hal
      obtain ⟨g0, g1, g2, g3, _⟩ := (KS6.out.below hb7).below hal
      obtain ⟨_, p1, _, _, _⟩ := (KA6.out.below hb7).below hal
      obtain ⟨_, q1, _, _, _⟩ := (KB6.out.below hb7).below hal
      obtain ⟨r0, r1, r2, r3, _⟩ := BoxD.new w7 z (.slice A7 n s7) (.slice none 0 0) false
      have RA7 := (RA6.out.below hb7).below hal
      have RB7 := (RB6.out.below hb7).below hal
      have hlc : n = (crashed keep kept ws).length := by unfold crashed; rw [doneL_len]; exact HD7.n_eq
      have hli : n = (image kept ws).length := by unfold image; rw [doneL_len]; exact HD7.n_eq
      have HKF : Hid (KF w Ak Aw A3 A4 A5 A6 A7 n m kept (image kept ws) (crashed keep kept ws) ws (w7.alloc (.cells #[.int .i64 z, .slice A7 n s7, .slice none 0 0, .bool false] 25))) := Lib.hid ⟨HB7, HD7, HS7, ⟨hlc, rfl, HD7.n_le, by omega, hrow7.below hal, WrRow.nil _ _⟩, HL7, RA7, RB7⟩
      have HLI := Lib.hid hli
      have HLC := Lib.hid hlc
      have HRC := Lib.hid (HRR.out.crashed keep)
      have HN1 : Hid (1 ≤ n) := Lib.hid (by rw [HD7.n_eq]; exact HRR.out.n1)
      clear hal hbw7 hb7 hrow7 HB6 HD6 HK6 HS6 HL6 HX6 KS6 KA6 KB6 RA6 RB6 HB7 HD7 HS7 HL7 RA7 RB7 hlc hli
      go_wp2_with fail
      generalize (w7.alloc (.cells #[.int .i64 z, .slice A7 n s7, .slice none 0 0, .bool false] 25)) = W7 at *
      generalize w7.heap.size = b13 at *
      have hS : W7.cell? ⟨b11, 1, none⟩ = some (.slice A5 n s5) ∧ W7.cell? ⟨b12, 1, none⟩ = some (.slice A6 n s6) ∧ W7.cell? ⟨w.heap.size, 0, none⟩ = some (.int .i64 z) ∧ W7.cell? ⟨w.heap.size, 1, none⟩ = some (.slice Ak n ck) ∧ W7.cell? ⟨w.heap.size, 2, none⟩ = some (.slice Aw m cw) ∧ W7.cell? ⟨w.heap.size, 3, none⟩ = some (.bool false) ∧
        W7.cell? ⟨b13, 0, none⟩ = some (.int .i64 z) ∧ W7.cell? ⟨b13, 1, none⟩ = some (.slice A7 n s7) ∧ W7.cell? ⟨b13, 2, none⟩ = some (.slice none 0 0) ∧ W7.cell? ⟨b13, 3, none⟩ = some (.bool false) ∧
        W7.cell? ⟨b7, 0, none⟩ = some (.int .i64 z) ∧ W7.cell? ⟨b7, 1, none⟩ = some (.slice A3 n s3) ∧ W7.cell? ⟨b7, 2, none⟩ = some (.slice none 0 0) ∧ W7.cell? ⟨b7, 3, none⟩ = some (.bool false) ∧
        Hid (KF w Ak Aw A3 A4 A5 A6 A7 n m kept (image kept ws) (crashed keep kept ws) ws W7) := ⟨p1, q1, d0, d1, d2, d3, r0, r1, r2, r3, g0, g1, g2, g3, HKF⟩
      clear p1 q1 d0 d1 d2 d3 r0 r1 r2 r3 g0 g1 g2 g3 HKF
      go_region_held3 (fun W' => W'.cell? ⟨b11, 1, none⟩ = some (.slice A5 n s5) ∧ W'.cell? ⟨b12, 1, none⟩ = some (.slice A6 n s6) ∧ W'.cell? ⟨w.heap.size, 0, none⟩ = some (.int .i64 z) ∧ W'.cell? ⟨w.heap.size, 1, none⟩ = some (.slice Ak n ck) ∧ W'.cell? ⟨w.heap.size, 2, none⟩ = some (.slice Aw m cw) ∧ W'.cell? ⟨w.heap.size, 3, none⟩ = some (.bool false) ∧
        W'.cell? ⟨b13, 0, none⟩ = some (.int .i64 z) ∧ W'.cell? ⟨b13, 1, none⟩ = some (.slice A7 n s7) ∧ W'.cell? ⟨b13, 2, none⟩ = some (.slice none 0 0) ∧ W'.cell? ⟨b13, 3, none⟩ = some (.bool false) ∧
        W'.cell? ⟨b7, 0, none⟩ = some (.int .i64 z) ∧ W'.cell? ⟨b7, 1, none⟩ = some (.slice A3 n s3) ∧ W'.cell? ⟨b7, 2, none⟩ = some (.slice none 0 0) ∧ W'.cell? ⟨b7, 3, none⟩ = some (.bool false) ∧
        Hid (KF w Ak Aw A3 A4 A5 A6 A7 n m kept (image kept ws) (crashed keep kept ws) ws W'))
        (first | assumption | exact held_below (by assumption) (by assumption) | exact held_below (Below.refl _ _).drew (by assumption))
        (first
          | (go_at_call 15; refine (image_calls z Ak Aw n ck m cw false kept ws _ ?_ HF).mono ?_; (go_split_ands; exact Lib.hid (KF.d (Hid.out (by assumption)))); rintro e w' ⟨A, c, rfl, hnc, hrow, hown, hbel⟩)
          | (go_at_call 14; refine (strings_same _ _ n _ _ (image kept ws) _ HLI.out ?_ ?_ (by omega)).mono ?_; (go_split_ands; first | exact KF.ra (Hid.out (by assumption)) | exact KF.rb (Hid.out (by assumption))); assumption; rintro e w' ⟨rfl, hbel⟩)
          | (go_at_call 12; refine (crash_calls z A7 none n s7 0 0 false (crashed keep kept ws) [] A4 m s4 (List.replicate m 1099511627776) _ ?_ (Lib.hid (fits_nil n)) ?_ (Lib.hid short_nil)).mono ?_; (go_split_ands; exact Lib.hid (KF.c (Hid.out (by assumption)))); (go_split_ands; exact Lib.hid (KF.all (Hid.out (by assumption)))); rintro e w' ⟨A, c, rfl, hnc, hrow, hown, hbel⟩)
          | (go_at_call 16; refine (same_calls z _ none A7 none n _ 0 0 s7 0 false (crashed keep kept ws) [] _ ?_ ?_).mono ?_; exact Lib.hid ⟨HLC.out, rfl, by omega, by omega, by assumption, WrRow.nil _ _⟩; (go_split_ands; exact Lib.hid (KF.c (Hid.out (by assumption)))); rintro e w' ⟨rfl, hbel⟩))
      go_wp2_with fail
      go_region_held3 (fun W' => W'.cell? ⟨b11, 1, none⟩ = some (.slice A5 n s5) ∧ W'.cell? ⟨b12, 1, none⟩ = some (.slice A6 n s6) ∧ W'.cell? ⟨w.heap.size, 0, none⟩ = some (.int .i64 z) ∧ W'.cell? ⟨w.heap.size, 1, none⟩ = some (.slice Ak n ck) ∧ W'.cell? ⟨w.heap.size, 2, none⟩ = some (.slice Aw m cw) ∧ W'.cell? ⟨w.heap.size, 3, none⟩ = some (.bool false) ∧
        W'.cell? ⟨b13, 0, none⟩ = some (.int .i64 z) ∧ W'.cell? ⟨b13, 1, none⟩ = some (.slice A7 n s7) ∧ W'.cell? ⟨b13, 2, none⟩ = some (.slice none 0 0) ∧ W'.cell? ⟨b13, 3, none⟩ = some (.bool false) ∧
        W'.cell? ⟨b7, 0, none⟩ = some (.int .i64 z) ∧ W'.cell? ⟨b7, 1, none⟩ = some (.slice A3 n s3) ∧ W'.cell? ⟨b7, 2, none⟩ = some (.slice none 0 0) ∧ W'.cell? ⟨b7, 3, none⟩ = some (.bool false) ∧
        Hid (KF w Ak Aw A3 A4 A5 A6 A7 n m kept (image kept ws) (crashed keep kept ws) ws W'))
        (first | assumption | exact held_below (by assumption) (by assumption) | exact held_below (Below.refl _ _).drew (by assumption))
        (first
          | (go_at_call 17; refine (right_true z A7 none n s7 0 0 false (crashed keep kept ws) [] _ ?_ HRC).mono ?_; (go_split_ands; exact Lib.hid (KF.c (Hid.out (by assumption)))); rintro e w' ⟨rfl, hbel⟩)
          | (go_at_call 15; refine (image_calls z A3 none n s3 0 0 false (image kept ws) [] _ ?_ (Lib.hid (fits_nil n))).mono ?_; (go_split_ands; exact Lib.hid (KF.s (Hid.out (by assumption)))); rintro e w' ⟨A, c, rfl, hnc, hrow, hown, hbel⟩; have hrowS : StrRow _ _ (image kept ws) := hrow; clear hrow)
          | (go_at_call 15; refine (image_calls z Ak Aw n ck m cw false kept ws _ ?_ HF).mono ?_; (go_split_ands; exact Lib.hid (KF.d (Hid.out (by assumption)))); rintro e w' ⟨A, c, rfl, hnc, hrow, hown, hbel⟩)
          | (go_at_call 14; refine (strings_same _ _ n _ _ (image kept ws) _ HLI.out ?_ ?_ (by omega)).mono ?_; (exact StrRow.below (by assumption) (by assumption)); assumption; rintro e w' ⟨rfl, hbel⟩))
      go_wp2
      go_split_ands
      have HKF := (by assumption : Hid (KF w Ak Aw A3 A4 A5 A6 A7 n m kept (image kept ws) (crashed keep kept ws) ws _))
      exact bodyPost_ret (v := .bool true) (by simp [results, Try.results4, go_sem]) rfl ⟨rfl, HKF.out.b⟩
end Go.Proofs.Ytdilfdjhablnpaa
