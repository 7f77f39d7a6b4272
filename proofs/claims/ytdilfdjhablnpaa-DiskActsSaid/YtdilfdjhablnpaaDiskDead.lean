/- The walk of DiskDead. -/
import Derived.Test.YtdilfdjhablnpaaShown
import Derived.Test.YtdilfdjhablnpaaRead
import Derived.Test.YtdilfdjhablnpaaRight
import Derived.Test.YtdilfdjhablnpaaSame
namespace Go.Proofs.Ytdilfdjhablnpaa
open Go.RowKit Go.Shelf

theorem one_below (w : World) (o : Obj) : Below w.heap.size w (w.alloc o) := (Below.refl _ w).alloc (Nat.le_refl _) _

theorem RightD.fits {z : Int} {kept : List ByteArray} {ws : List Wr} (h : RightD z kept ws) : Fits kept.length ws := fun x hx => by
  obtain ⟨j, hj, e⟩ := List.mem_iff_getElem.1 hx
  have hl : (idxs ws).length = ws.length := by simp [idxs]
  have h1 := h.wrs j (by omega)
  have e2 : x.2 = ws.getD j noWr := by
    rw [← e]
    simp [idxs, List.getD, List.getElem?_eq_getElem (show j < ws.length by omega)]
  rw [e2]
  exact ⟨h1.1, h1.2.1⟩

theorem RightD.short {z : Int} {kept : List ByteArray} {ws : List Wr} (h : RightD z kept ws) : ∀ x, x ∈ idxs ws → x.2.s.size ≤ 140737488351232 := fun x hx => by
  obtain ⟨j, hj, e⟩ := List.mem_iff_getElem.1 hx
  have hl : (idxs ws).length = ws.length := by simp [idxs]
  have h1 := h.wrs j (by omega)
  have e2 : x.2 = ws.getD j noWr := by
    rw [← e]
    simp [idxs, List.getD, List.getElem?_eq_getElem (show j < ws.length by omega)]
  have h2 := h.z2
  rw [e2]
  omega

set_option maxHeartbeats 1000000 in
theorem dead_big (z : Int) (Ak Aw : Option Addr) (n ck m cw : Nat) (off : Bool) (at_ : Int) (s : ByteArray) (w : World) (h : 40 < n ∨ 40 < m) :
    Calls Try.prog 8 #[.agg #[.int .i64 z, .slice Ak n ck, .slice Aw m cw, .bool off], .int .i64 at_, .string s] w fun e w' => e = .returned (.bool true) ∧ Below w.heap.size w w' := by
  have hb := one_below w (.cells #[.int .i64 z, .slice Ak n ck, .slice Aw m cw, .bool off] 25)
  have hbx := BoxD.new w z (.slice Ak n ck) (.slice Aw m cw) off
  go_enter Try.func8, Try.ntmps8
  go_wp2_with (go_at_call 10; refine (shown_calls _).mono ?_)
  rintro e w1 ⟨rfl, hb1⟩
  obtain ⟨c0, c1, c2, c3, _⟩ := hbx.below hb1
  have HB := Lib.hid (hb.trans (hb1.mono hb.size))
  clear hb hbx hb1
  go_wp2_with (go_at_call 11; refine (few_big z Ak Aw n ck m cw off w1 h).mono ?_)
  rintro e w2 ⟨rfl, hb2⟩
  have HB2 := Lib.hid (HB.out.trans (hb2.mono HB.out.size))
  clear hb2
  go_wp2
  exact bodyPost_ret (v := .bool true) (by simp [results, Try.results8, go_sem]) rfl ⟨rfl, HB2.out⟩

set_option maxHeartbeats 2000000 in
theorem dead_few (z : Int) (Ak Aw : Option Addr) (n ck m cw : Nat) (off : Bool) (at_ : Int) (s : ByteArray) (kept : List ByteArray) (ws : List Wr) (w : World) (h : Hid (DiskIn w Ak Aw n m kept ws)) (hn : n ≤ 40) (hm : m ≤ 40) :
    Calls Try.prog 8 #[.agg #[.int .i64 z, .slice Ak n ck, .slice Aw m cw, .bool off], .int .i64 at_, .string s] w fun e w' => e = .returned (.bool true) ∧ Below w.heap.size w w' := by
  have hb := one_below w (.cells #[.int .i64 z, .slice Ak n ck, .slice Aw m cw, .bool off] 25)
  have hbx := BoxD.new w z (.slice Ak n ck) (.slice Aw m cw) off
  have hd := h.out.below hb
  go_enter Try.func8, Try.ntmps8
  go_wp2_with (go_at_call 10; refine (shown_calls _).mono ?_)
  rintro e w1 ⟨rfl, hb1⟩
  have hbx1 := hbx.below hb1
  have HBX := Lib.hid hbx1
  obtain ⟨c0, c1, c2, c3, _⟩ := hbx1
  have HB := Lib.hid (hb.trans (hb1.mono hb.size))
  have HD := Lib.hid (hd.below hb1)
  clear hb hbx hb1 hd h
  go_wp2_with (go_at_call 11; refine (few_calls z Ak Aw n ck m cw off kept ws w1 HD hn hm).mono ?_)
  rintro e w2 ⟨v, rfl, hv, hb2⟩
  have hbx2 := HBX.out.below hb2
  obtain ⟨c0, c1, c2, c3, _⟩ := hbx2
  have HB2 := Lib.hid (HB.out.trans (hb2.mono HB.out.size))
  have HD2 := Lib.hid (HD.out.below hb2)
  clear hb2 HBX HB HD
  cases v with
  | false =>
    clear hv
    go_wp2
    exact bodyPost_ret (v := .bool true) (by simp [results, Try.results8, go_sem]) rfl ⟨rfl, HB2.out⟩
  | true =>
    have hR := hv.1 rfl
    have HR := Lib.hid hR
    clear hv hR
    go_wp2_with (go_at_call 21; refine (cut_calls z Ak Aw n ck m cw off w2).mono ?_)
    rintro e w3 ⟨rfl, hb3⟩
    have hal := one_below w3 (.cells #[.int .i64 z, .slice Ak n ck, .slice Aw m cw, .bool true] 25)
    have K9 := Lib.hid (BoxD.new w3 z (.slice Ak n ck) (.slice Aw m cw) true)
    have hbw3 := HB2.out.trans (hb3.mono HB2.out.size)
    have HB3 := Lib.hid (hbw3.trans (hal.mono hbw3.size))
    have HD3 := Lib.hid ((HD2.out.below hb3).below hal)
    clear hb3 hal hbw3 HB2 HD2
    go_wp2_with (go_at_call 19; refine (readDead_calls z Ak Aw n ck m cw at_ _).mono ?_)
    generalize (w3.alloc (.cells #[.int .i64 z, .slice Ak n ck, .slice Aw m cw, .bool true] 25)) = W3 at *
    generalize w3.heap.size = b9 at *
    rintro e w4 ⟨rfl, hb4⟩
    have k9 := K9.out.below hb4
    have K9' := Lib.hid k9
    obtain ⟨c0, c1, c2, c3, _⟩ := k9
    have HB4 := Lib.hid (HB3.out.trans (hb4.mono HB3.out.size))
    have HD4 := Lib.hid (HD3.out.below hb4)
    clear hb4 K9 HB3 HD3
    go_wp2_with (go_at_call 18; refine (writeOff_calls z Ak Aw n ck m cw at_ s w4).mono ?_)
    rintro e w5 ⟨rfl, hb5⟩
    have hal := one_below w5 (.cells #[.int .i64 z, .slice Ak n ck, .slice Aw m cw, .bool true] 25)
    have K12 := Lib.hid (BoxD.new w5 z (.slice Ak n ck) (.slice Aw m cw) true)
    have hbw5 := HB4.out.trans (hb5.mono HB4.out.size)
    have HB5 := Lib.hid (hbw5.trans (hal.mono hbw5.size))
    have HD5 := Lib.hid ((HD4.out.below hb5).below hal)
    have k9 := (K9'.out.below hb5).below hal
    have K9 := Lib.hid k9
    obtain ⟨c0, c1, c2, c3, _⟩ := k9
    clear hb5 hal hbw5 HB4 HD4 K9'
    go_wp2_with (go_at_call 13; refine (syncOff_calls z Ak Aw n ck m cw _).mono ?_)
    generalize (w5.alloc (.cells #[.int .i64 z, .slice Ak n ck, .slice Aw m cw, .bool true] 25)) = W5 at *
    generalize w5.heap.size = b12 at *
    rintro e w6 ⟨rfl, hb6⟩
    have hal := one_below w6 (.cells #[.int .i64 z, .slice Ak n ck, .slice Aw m cw, .bool true] 25)
    have K14 := Lib.hid (BoxD.new w6 z (.slice Ak n ck) (.slice Aw m cw) true)
    have hbw6 := HB5.out.trans (hb6.mono HB5.out.size)
    have HB6 := Lib.hid (hbw6.trans (hal.mono hbw6.size))
    have HD6 := Lib.hid ((HD5.out.below hb6).below hal)
    have k9 := (K9.out.below hb6).below hal
    have K9' := Lib.hid k9
    have K12' := Lib.hid ((K12.out.below hb6).below hal)
    obtain ⟨c0, c1, c2, c3, _⟩ := k9
    clear hb6 hal hbw6 HB5 HD5 K9 K12
    have HF := Lib.hid (show Fits n ws from by rw [HD6.out.n_eq]; exact HR.out.fits)
    have HC := Lib.hid (crash_calls z Ak Aw n ck m cw true kept ws none 0 0 [] _ HD6 HF (Lib.hid (keep_none _)) (Lib.hid HR.out.short))
    go_wp2_with (go_at_call 12; refine HC.out.mono ?_)
    generalize (w6.alloc (.cells #[.int .i64 z, .slice Ak n ck, .slice Aw m cw, .bool true] 25)) = W6 at *
    generalize w6.heap.size = b14 at *
    rintro e w7 ⟨A, c, rfl, hnc, hrow, hown, hb7⟩
    have hal := one_below w7 (.cells #[.int .i64 z, .slice A n c, .slice none 0 0, .bool false] 25)
    have hbw7 := HB6.out.trans (hb7.mono HB6.out.size)
    have HB7 := Lib.hid (hbw7.trans (hal.mono hbw7.size))
    have HD7 := Lib.hid ((HD6.out.below hb7).below hal)
    have K9 := Lib.hid ((K9'.out.below hb7).below hal)
    have K12 := Lib.hid ((K12'.out.below hb7).below hal)
    have K14' := Lib.hid ((K14.out.below hb7).below hal)
    have hlen : n = (crashed [] kept ws).length := by unfold crashed; rw [doneL_len]; exact HD6.out.n_eq
    have hDc : DiskIn (w7.alloc (.cells #[.int .i64 z, .slice A n c, .slice none 0 0, .bool false] 25)) A none n 0 (crashed [] kept ws) [] := ⟨hlen, rfl, by omega, by omega, hrow.below hal, WrRow.nil _ _⟩
    have HRD := Lib.hid (read_calls z A none n c 0 0 0 (crashed [] kept ws) [] _ (Lib.hid hDc) (by omega) (by have := HR.out.n1; have := HD6.out.n_eq; omega))
    clear hb7 hal hbw7 HB6 HD6 K9' K12' K14 hnc hrow hown hlen hDc HC HF
    go_wp2_with (go_at_call 19; refine HRD.out.mono ?_)
    generalize (w7.alloc (.cells #[.int .i64 z, .slice A n c, .slice none 0 0, .bool false] 25)) = W7 at *
    generalize readL 0 ((crashed [] kept ws).getD (0 : Int).toNat ByteArray.empty) (idxs []) = RS at *
    rintro e w8 ⟨rfl, hb8⟩
    have HB8 := Lib.hid (HB7.out.trans (hb8.mono HB7.out.size))
    have HD8 := Lib.hid (HD7.out.below hb8)
    have k9 := K9.out.below hb8
    have k12 := K12.out.below hb8
    have K9' := Lib.hid k9
    have K14 := Lib.hid (K14'.out.below hb8)
    obtain ⟨c0, c1, c2, c3, _⟩ := k9
    obtain ⟨g0, g1, g2, g3, _⟩ := k12
    clear hb8 HB7 HD7 K9 K12 K14' HRD
    go_wp2_with (go_at_call 16; refine (same_calls z Ak Aw Ak Aw n ck m cw ck cw true kept ws w8 HD8 HD8).mono ?_)
    rintro e w9 ⟨rfl, hb9⟩
    have HB9 := Lib.hid (HB8.out.trans (hb9.mono HB8.out.size))
    have HD9 := Lib.hid (HD8.out.below hb9)
    obtain ⟨c0, c1, c2, c3, _⟩ := K9'.out.below hb9
    obtain ⟨g0, g1, g2, g3, _⟩ := K14.out.below hb9
    clear hb9 HB8 HD8 K9' K14
    go_wp2_with (go_at_call 16; refine (same_calls z Ak Aw Ak Aw n ck m cw ck cw true kept ws w9 HD9 HD9).mono ?_)
    rintro e w10 ⟨rfl, hb10⟩
    have HB10 := Lib.hid (HB9.out.trans (hb10.mono HB9.out.size))
    clear hb10 HB9 HD9
    go_wp2
    exact bodyPost_ret (v := .bool true) (by simp [results, Try.results8, go_sem]) rfl ⟨rfl, HB10.out⟩
end Go.Proofs.Ytdilfdjhablnpaa
