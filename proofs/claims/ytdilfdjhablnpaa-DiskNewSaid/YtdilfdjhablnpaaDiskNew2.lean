/- The walk of DiskNew where the disk is made. -/
import Derived.Test.YtdilfdjhablnpaaShown
import Derived.Test.YtdilfdjhablnpaaRead
import Derived.Test.YtdilfdjhablnpaaRight
namespace Go.Proofs.Ytdilfdjhablnpaa
open Go.RowKit Go.Shelf

theorem new_right (c z : Nat) (h1 : 1 ≤ c) (h2 : c ≤ 4096) (h3 : 96 ≤ z) (h4 : z ≤ 1024) : RightD z (List.replicate c (zeros z)) [] where
  z1 := by omega
  z2 := by omega
  n1 := by simpa using h1
  n2 := by simpa using h2
  rows := fun j hj => by
    rw [List.length_replicate] at hj
    rw [List.getD, List.getElem?_replicate, if_pos hj]
    show ((Array.replicate z (0 : UInt8)).size : Int) = z
    simp
  wrs := fun j hj => by simp at hj

set_option maxHeartbeats 2000000 in
theorem new_good (c z : Nat) (at_ : Int) (w : World) (h1 : 1 ≤ c) (h2 : c ≤ 100) (h3 : 96 ≤ z) (h4 : z ≤ 1024) (ha : 0 ≤ at_) (hb : at_ < c) :
    Calls Try.prog 6 #[.int .i64 c, .int .i64 z, .int .i64 at_] w fun e w' => e = .returned (.bool true) ∧ Below w.heap.size w w' := by
  have d1 : decide ((c : Int) > 100) = false := by simp; omega
  have d3 : decide ((z : Int) < 96) = false := by simp; omega
  have d4 : decide ((z : Int) > 1024) = false := by simp; omega
  have d5 : decide (at_ ≥ 0) = true := by simp; omega
  have d6 : decide (at_ < (c : Int)) = true := by simp; omega
  go_enter Try.func6, Try.ntmps6
  go_wp2_with (go_at_call 10; refine (shown_calls w).mono ?_)
  rintro e w1 ⟨rfl, hb1⟩
  go_wp2_with (go_at_call 20; refine (new_calls c z w1 h1 (by omega) h3 h4).mono ?_)
  rintro e w2 ⟨A, rfl, hr2, ho2, hb2⟩
  have hal := (Below.refl w2.heap.size w2).alloc (Nat.le_refl _) (.cells #[.int .i64 z, .slice A c c, .slice none 0 0, .bool false] 25)
  have hD : DiskIn (w2.alloc (.cells #[.int .i64 z, .slice A c c, .slice none 0 0, .bool false] 25)) A none c 0 (List.replicate c (zeros z)) [] := ⟨by simp, rfl, by omega, by omega, hr2.below hal, WrRow.nil _ _⟩
  have hbx := BoxD.new w2 z (.slice A c c) (.slice none 0 0) false
  have hB := (hb1.trans (hb2.mono hb1.size)).trans (hal.mono (hb1.trans (hb2.mono hb1.size)).size)
  clear hb1 hr2 ho2 hb2 hal
  have HR := read_calls z A none c c 0 0 at_ (List.replicate c (zeros z)) [] (w2.alloc (.cells #[.int .i64 z, .slice A c c, .slice none 0 0, .bool false] 25)) (Lib.hid hD) ha (by omega)
  rw [show readL at_ ((List.replicate c (zeros z)).getD at_.toNat ByteArray.empty) (idxs []) = zeros z by
    rw [List.getD, List.getElem?_replicate, if_pos (by omega)]; rfl] at HR
  have HR' := Lib.hid HR
  have HD := Lib.hid hD
  have HBX := Lib.hid hbx
  have HB := Lib.hid hB
  clear HR hD hbx hB
  go_wp2_with (go_at_call 19; refine HR'.out.mono ?_)
  rintro e w3 ⟨rfl, hb3⟩
  generalize (w2.alloc (.cells #[.int .i64 z, .slice A c c, .slice none 0 0, .bool false] 25)) = W2 at *
  have hbx3 := HBX.out.below hb3
  have hD3 := HD.out.below hb3
  have HB3 := Lib.hid (HB.out.trans (hb3.mono HB.out.size))
  have HRT := Lib.hid (right_calls z A none c c 0 0 false (List.replicate c (zeros z)) [] w3 (Lib.hid hD3) (by omega) (by omega) h1 (by omega))
  have HBX3 := Lib.hid hbx3
  obtain ⟨c0, c1, c2, c3, _⟩ := hbx3
  generalize w2.heap.size = b at *
  clear hb3 hD3 HR' HD HBX HB
  go_wp2_with (go_at_call 17; refine HRT.out.mono ?_)
  rintro e w4 ⟨v, rfl, hv, hb4⟩
  have hv1 : v = true := hv.2 (new_right c z h1 (by omega) h3 h4)
  subst hv1
  obtain ⟨c0, c1, c2, c3, _⟩ := HBX3.out.below hb4
  have HB4 := Lib.hid (HB3.out.trans (hb4.mono HB3.out.size))
  have hmake := run_make_row (P := Try.prog) 47 5 Try.t5 (.int .u8 0) (by kernel_rfl) (by kernel_rfl) rfl rfl rfl .i64 .i64 z (by show 1 * z ≤ _; omega) (by omega) w4
  have hconv := zeros_conv w4 z w4.heap.size rfl
  clear hv hb4 HRT HBX3 HB3
  go_wp2
  exact bodyPost_ret (v := .bool true) (by simp [results, Try.results6, go_sem]) rfl ⟨rfl, HB4.out.alloc HB4.out.size _⟩
set_option maxHeartbeats 2000000 in
theorem new_low (c z : Nat) (at_ : Int) (w : World) (h1 : 1 ≤ c) (h2 : c ≤ 100) (h3 : 96 ≤ z) (h4 : z ≤ 1024) (ha : at_ < 0) :
    Calls Try.prog 6 #[.int .i64 c, .int .i64 z, .int .i64 at_] w fun e w' => e = .returned (.bool true) ∧ Below w.heap.size w w' := by
  have d1 : decide ((c : Int) > 100) = false := by simp; omega
  have d3 : decide ((z : Int) < 96) = false := by simp; omega
  have d4 : decide ((z : Int) > 1024) = false := by simp; omega
  have d5 : decide (at_ ≥ 0) = false := by simp; omega
  go_enter Try.func6, Try.ntmps6
  go_wp2_with (go_at_call 10; refine (shown_calls w).mono ?_)
  rintro e w1 ⟨rfl, hb1⟩
  go_wp2_with (go_at_call 20; refine (new_calls c z w1 h1 (by omega) h3 h4).mono ?_)
  rintro e w2 ⟨A, rfl, hr2, ho2, hb2⟩
  have hal := (Below.refl w2.heap.size w2).alloc (Nat.le_refl _) (.cells #[.int .i64 z, .slice A c c, .slice none 0 0, .bool false] 25)
  have hD : DiskIn (w2.alloc (.cells #[.int .i64 z, .slice A c c, .slice none 0 0, .bool false] 25)) A none c 0 (List.replicate c (zeros z)) [] := ⟨by simp, rfl, by omega, by omega, hr2.below hal, WrRow.nil _ _⟩
  have hbx := BoxD.new w2 z (.slice A c c) (.slice none 0 0) false
  have hB := (hb1.trans (hb2.mono hb1.size)).trans (hal.mono (hb1.trans (hb2.mono hb1.size)).size)
  clear hb1 hr2 ho2 hb2 hal
  have HR := readNone_calls z A none c c 0 0 at_ (w2.alloc (.cells #[.int .i64 z, .slice A c c, .slice none 0 0, .bool false] 25)) (by omega)
  have HR' := Lib.hid HR
  have HD := Lib.hid hD
  have HBX := Lib.hid hbx
  have HB := Lib.hid hB
  clear HR hD hbx hB
  go_wp2_with (go_at_call 19; refine HR'.out.mono ?_)
  rintro e w3 ⟨rfl, hb3⟩
  generalize (w2.alloc (.cells #[.int .i64 z, .slice A c c, .slice none 0 0, .bool false] 25)) = W2 at *
  have hbx3 := HBX.out.below hb3
  have hD3 := HD.out.below hb3
  have HB3 := Lib.hid (HB.out.trans (hb3.mono HB.out.size))
  have HRT := Lib.hid (right_calls z A none c c 0 0 false (List.replicate c (zeros z)) [] w3 (Lib.hid hD3) (by omega) (by omega) h1 (by omega))
  have HBX3 := Lib.hid hbx3
  obtain ⟨c0, c1, c2, c3, _⟩ := hbx3
  generalize w2.heap.size = b at *
  clear hb3 hD3 HR' HD HBX HB
  go_wp2_with (go_at_call 17; refine HRT.out.mono ?_)
  rintro e w4 ⟨v, rfl, hv, hb4⟩
  have hv1 : v = true := hv.2 (new_right c z h1 (by omega) h3 h4)
  subst hv1
  obtain ⟨c0, c1, c2, c3, _⟩ := HBX3.out.below hb4
  have HB4 := Lib.hid (HB3.out.trans (hb4.mono HB3.out.size))
  clear hv hb4 HRT HBX3 HB3
  go_wp2
  exact bodyPost_ret (v := .bool true) (by simp [results, Try.results6, go_sem]) rfl ⟨rfl, HB4.out⟩
set_option maxHeartbeats 2000000 in
theorem new_high (c z : Nat) (at_ : Int) (w : World) (h1 : 1 ≤ c) (h2 : c ≤ 100) (h3 : 96 ≤ z) (h4 : z ≤ 1024) (ha : 0 ≤ at_) (hb : (c : Int) ≤ at_) :
    Calls Try.prog 6 #[.int .i64 c, .int .i64 z, .int .i64 at_] w fun e w' => e = .returned (.bool true) ∧ Below w.heap.size w w' := by
  have d1 : decide ((c : Int) > 100) = false := by simp; omega
  have d3 : decide ((z : Int) < 96) = false := by simp; omega
  have d4 : decide ((z : Int) > 1024) = false := by simp; omega
  have d5 : decide (at_ ≥ 0) = true := by simp; omega
  have d6 : decide (at_ < (c : Int)) = false := by simp; omega
  go_enter Try.func6, Try.ntmps6
  go_wp2_with (go_at_call 10; refine (shown_calls w).mono ?_)
  rintro e w1 ⟨rfl, hb1⟩
  go_wp2_with (go_at_call 20; refine (new_calls c z w1 h1 (by omega) h3 h4).mono ?_)
  rintro e w2 ⟨A, rfl, hr2, ho2, hb2⟩
  have hal := (Below.refl w2.heap.size w2).alloc (Nat.le_refl _) (.cells #[.int .i64 z, .slice A c c, .slice none 0 0, .bool false] 25)
  have hD : DiskIn (w2.alloc (.cells #[.int .i64 z, .slice A c c, .slice none 0 0, .bool false] 25)) A none c 0 (List.replicate c (zeros z)) [] := ⟨by simp, rfl, by omega, by omega, hr2.below hal, WrRow.nil _ _⟩
  have hbx := BoxD.new w2 z (.slice A c c) (.slice none 0 0) false
  have hB := (hb1.trans (hb2.mono hb1.size)).trans (hal.mono (hb1.trans (hb2.mono hb1.size)).size)
  clear hb1 hr2 ho2 hb2 hal
  have HR := readNone_calls z A none c c 0 0 at_ (w2.alloc (.cells #[.int .i64 z, .slice A c c, .slice none 0 0, .bool false] 25)) (by omega)
  have HR' := Lib.hid HR
  have HD := Lib.hid hD
  have HBX := Lib.hid hbx
  have HB := Lib.hid hB
  clear HR hD hbx hB
  go_wp2_with (go_at_call 19; refine HR'.out.mono ?_)
  rintro e w3 ⟨rfl, hb3⟩
  generalize (w2.alloc (.cells #[.int .i64 z, .slice A c c, .slice none 0 0, .bool false] 25)) = W2 at *
  have hbx3 := HBX.out.below hb3
  have hD3 := HD.out.below hb3
  have HB3 := Lib.hid (HB.out.trans (hb3.mono HB.out.size))
  have HRT := Lib.hid (right_calls z A none c c 0 0 false (List.replicate c (zeros z)) [] w3 (Lib.hid hD3) (by omega) (by omega) h1 (by omega))
  have HBX3 := Lib.hid hbx3
  obtain ⟨c0, c1, c2, c3, _⟩ := hbx3
  generalize w2.heap.size = b at *
  clear hb3 hD3 HR' HD HBX HB
  go_wp2_with (go_at_call 17; refine HRT.out.mono ?_)
  rintro e w4 ⟨v, rfl, hv, hb4⟩
  have hv1 : v = true := hv.2 (new_right c z h1 (by omega) h3 h4)
  subst hv1
  obtain ⟨c0, c1, c2, c3, _⟩ := HBX3.out.below hb4
  have HB4 := Lib.hid (HB3.out.trans (hb4.mono HB3.out.size))
  clear hv hb4 HRT HBX3 HB3
  go_wp2
  exact bodyPost_ret (v := .bool true) (by simp [results, Try.results6, go_sem]) rfl ⟨rfl, HB4.out⟩
end Go.Proofs.Ytdilfdjhablnpaa
