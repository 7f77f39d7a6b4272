/- The walk of shown. -/
import Derived.Test.YtdilfdjhablnpaaNew
namespace Go.Proofs.Ytdilfdjhablnpaa
open Go.RowKit Go.Shelf

def hi : ByteArray := ⟨#[104, 105]⟩
def shownA : ByteArray := (crashed [] [zeros 96] [⟨0, hi⟩]).getD 0 ByteArray.empty
def shownB : ByteArray := (crashed [1] [zeros 96] [⟨0, hi⟩]).getD 0 ByteArray.empty
theorem shownA_size : shownA.size = 96 := by kernel_rfl
theorem shownB_size : shownB.size = 96 := by kernel_rfl
theorem shownA_0 : shownA.data[0]? = some 0 := by kernel_rfl
theorem shownB_0 : shownB.data[0]? = some 104 := by kernel_rfl
theorem shownB_1 : shownB.data[1]? = some 0 := by kernel_rfl

theorem at_get {s : ByteArray} {k : Nat} {v : UInt8} (h : s.data[k]? = some v) : ∀ hk : k < s.size, s[k]'hk = v := fun _ => (Array.getElem?_eq_some_iff.1 h).2

theorem shown_fits : Fits 1 [⟨0, hi⟩] := fun x hx => by
  simp [idxs] at hx
  subst hx
  simp

theorem shown_sz : ∀ x, x ∈ idxs [⟨0, hi⟩] → x.2.s.size ≤ 140737488351232 := fun x hx => by
  simp [idxs] at hx
  subst hx
  decide

theorem DiskIn.mk' {w : World} {A1 A2 : Option Addr} (h1 : StrRow w A1 (List.replicate 1 (zeros 96))) (h2 : WrRow w A2 [⟨0, hi⟩]) : DiskIn w A1 A2 1 1 [zeros 96] [⟨0, hi⟩] :=
  ⟨rfl, rfl, by omega, by omega, h1, h2⟩

theorem keep_none (w : World) : KeepIn w none 0 [] := ⟨rfl, by omega, IntRow.nil _ _, fun k hk => by simp at hk⟩
theorem keep_one {w : World} {g : Nat} (h : w.cell? ⟨g, 0, none⟩ = some (.int .i64 1)) : KeepIn w (some ⟨g, 0, none⟩) 1 [1] :=
  ⟨rfl, by omega, fun k hk => by
    have : k = 0 := by simpa using hk
    subst this
    exact ⟨g, 0, rfl, h⟩, fun k hk => by
    have : k = 0 := by simpa using hk
    subst this
    exact ⟨by decide, by decide⟩⟩

set_option maxHeartbeats 2000000 in
theorem shown_calls (w : World) :
    Calls Try.prog 10 #[] w fun e w' => e = .returned (.bool true) ∧ Below w.heap.size w w' := by
  go_enter Try.func10, Try.ntmps10
  go_wp2_with (go_at_call 20; refine (new_calls 1 96 w (by omega) (by omega) (by omega) (by omega)).mono ?_)
  rintro e w1 ⟨A1, rfl, hr1, ho1, hb1⟩
  have hbx := BoxD.new w1 96 (.slice A1 1 1) (.slice none 0 0) false
  have hal := (Below.refl w1.heap.size w1).alloc (Nat.le_refl _) (.cells #[.int .i64 96, .slice A1 1 1, .slice none 0 0, .bool false] 25)
  have hr1' := hr1.below hal
  have hb1' := hb1.trans (hal.mono hb1.size)
  have hne : ∀ b' o, A1 = some ⟨b', o, none⟩ → b' ≠ w1.heap.size := fun b' o e => by
    rcases ho1 with h | ⟨g, e', h1, h2⟩
    · omega
    · rw [e] at e'; cases e'; omega
  have hlow : ∀ b' o, A1 = some ⟨b', o, none⟩ → b' < w1.heap.size := fun b' o e => by
    rcases ho1 with h | ⟨g, e', h1, h2⟩
    · omega
    · rw [e] at e'; cases e'; omega
  have hWs : (w1.alloc (.cells #[.int .i64 96, .slice A1 1 1, .slice none 0 0, .bool false] 25)).heap.size = w1.heap.size + 1 := by simp
  have hw0 := hb1.size
  have hWR := Lib.hid (write_calls 96 A1 none 1 1 0 0 0 hi [zeros 96] [] (w1.alloc (.cells #[.int .i64 96, .slice A1 1 1, .slice none 0 0, .bool false] 25)) (Lib.hid ⟨rfl, rfl, by omega, by omega, hr1', WrRow.nil _ _⟩) (by omega) (by omega) (by omega) (by decide) (by decide))
  go_wp2_with (go_at_call 18; refine hWR.out.mono ?_)
  rintro e w2 ⟨A2, c2, rfl, hc2, hr2, hn2, hb2⟩
  generalize (w1.alloc (.cells #[.int .i64 96, .slice A1 1 1, .slice none 0 0, .bool false] 25)) = W1 at *
  generalize w1.heap.size = b at *
  have HBX2 := Lib.hid (hbx.below hb2)
  have HR1 := Lib.hid (hr1'.below hb2)
  have HR2 := Lib.hid hr2
  have HB2 := Lib.hid (hb1'.trans (hb2.mono hb1'.size))
  have HN1 := Lib.hid hne
  have HN2 := Lib.hid hn2
  have HW := Lib.hid hWs
  have HW2 := Lib.hid hb2.size
  obtain ⟨r0, r1, r2, r3, rf⟩ := hbx.below hb2
  have f0 := rf 0
  have f1 := rf 1
  have f2 := rf 2
  have f3 := rf 3
  clear hbx hal hr1 ho1 hb1 hr1' hb1' hne hWs hWR hc2 hr2 hn2 hb2 rf hlow
  go_wp2_with (go_at_call 12; fail)
  have hD := DiskIn.mk' (setD_row HR1.out (b := b) (fun _ _ => HN1.out) 96 (.slice A1 1 1) (.slice A2 1 c2) false) (setD_wrow HR2.out (b := b) (fun b' o e => by have := HN2.out b' o e; have := HW.out; omega) 96 (.slice A1 1 1) (.slice A2 1 c2) false)
  have hbox := HBX2.out.set 96 (.slice A1 1 1) (.slice A2 1 c2) false
  have hbw := setD_below HB2.out (b := b) hw0 96 (.slice A1 1 1) (.slice A2 1 c2) false
  show Calls Try.prog 12 _ (setD w2 b 96 (.slice A1 1 1) (.slice A2 1 c2) false) _
  generalize setD w2 b 96 (.slice A1 1 1) (.slice A2 1 c2) false = W2 at *
  clear r0 r1 r2 r3 f0 f1 f2 f3 HBX2 HR1 HR2 HB2 HN1 HN2 HW HW2
  refine (crash_calls 96 A1 A2 1 1 1 c2 false [zeros 96] [⟨0, hi⟩] none 0 0 [] W2 (Lib.hid hD) (Lib.hid shown_fits) (Lib.hid (keep_none _)) (Lib.hid shown_sz)).mono ?_
  rintro e w3 ⟨A3, c3, rfl, hc3, hr3, ho3, hb3⟩
  have HD3 := Lib.hid (hD.below hb3)
  have HB3 := Lib.hid (hbw.trans (hb3.mono hbw.size))
  have hlt3 := (hbox.below hb3).lt
  obtain ⟨r0, r1, r2, r3, _⟩ := hbox.below hb3
  have hA3 : ∃ g, A3 = some ⟨g, 0, none⟩ ∧ w3.cell? ⟨g, 0, none⟩ = some (.string shownA) := by
    obtain ⟨g, o, e, h⟩ := hr3 0 (by decide)
    rcases ho3 with h0 | ⟨g', e', _⟩
    · omega
    · rw [e] at e'; cases e'
      exact ⟨g, e, h⟩
  obtain ⟨g3, rfl, h3⟩ := hA3
  have H3 := Lib.hid h3
  clear hD hbox hbw hr3 ho3 hb3 hc3 hw0 h3
  go_wp2_with (go_at_call 12; fail)
  have hal := two_below w3 (.cells #[.int .i64 96, .slice (some ⟨g3, 0, none⟩) 1 c3, .slice none 0 0, .bool false] 25) (.cells #[.int .i64 1] 3)
  have hx4 := (BoxD.new w3 96 (.slice (some ⟨g3, 0, none⟩) 1 c3) (.slice none 0 0) false).alloc (.cells #[.int .i64 1] 3)
  have hk : ((w3.alloc (.cells #[.int .i64 96, .slice (some ⟨g3, 0, none⟩) 1 c3, .slice none 0 0, .bool false] 25)).alloc (.cells #[.int .i64 1] 3)).cell? ⟨w3.heap.size + 1, 0, none⟩ = some (.int .i64 1) := by
    rw [World.cell?_alloc_at _ _ _ _ (by simp)]; rfl
  have h3' := cell_below hal H3.out
  have hD := HD3.out.below hal
  have hb3 := HB3.out.trans (hal.mono HB3.out.size)
  clear r0 r1 r2 r3 hlt3 hal
  generalize ((w3.alloc (.cells #[.int .i64 96, .slice (some ⟨g3, 0, none⟩) 1 c3, .slice none 0 0, .bool false] 25)).alloc (.cells #[.int .i64 1] 3)) = W3 at *
  refine (crash_calls 96 A1 A2 1 1 1 c2 false [zeros 96] [⟨0, hi⟩] (some ⟨w3.heap.size + 1, 0, none⟩) 1 1 [1] W3 (Lib.hid hD) (Lib.hid shown_fits) (Lib.hid (keep_one hk)) (Lib.hid shown_sz)).mono ?_
  rintro e w4 ⟨A4, c4, rfl, hc4, hr4, ho4, hb4⟩
  have hA4 : ∃ g, A4 = some ⟨g, 0, none⟩ ∧ w4.cell? ⟨g, 0, none⟩ = some (.string shownB) := by
    obtain ⟨g, o, e, h⟩ := hr4 0 (by decide)
    rcases ho4 with h0 | ⟨g', e', _⟩
    · omega
    · rw [e] at e'; cases e'
      exact ⟨g, e, h⟩
  obtain ⟨g4, rfl, h4⟩ := hA4
  have hal := (Below.refl w4.heap.size w4).alloc (Nat.le_refl _) (.cells #[.int .i64 96, .slice (some ⟨g4, 0, none⟩) 1 c4, .slice none 0 0, .bool false] 25)
  have hx4' := (hx4.below hb4).below hal
  have hx5 := BoxD.new w4 96 (.slice (some ⟨g4, 0, none⟩) 1 c4) (.slice none 0 0) false
  have h3'' := cell_below hal (cell_below hb4 h3')
  have h4'' := cell_below hal h4
  have HF := Lib.hid ((hb3.trans (hb4.mono hb3.size)).trans (hal.mono (hb3.trans (hb4.mono hb3.size)).size))
  obtain ⟨_, p1, _, _, _⟩ := hx4'
  obtain ⟨_, q1, _, _, _⟩ := hx5
  have s3 := shownA_size
  have s4 := shownB_size
  have a3 := at_get shownA_0
  have a4 := at_get shownB_0
  have b4 := at_get shownB_1
  generalize shownA = XA at *
  generalize shownB = XB at *
  clear hx4 hk h3' hD hb3 hr4 ho4 hb4 hc4 h4 hal HD3 HB3 H3
  go_wp2
  exact bodyPost_ret (v := .bool true) (by simp [results, Try.results10, go_sem]) rfl ⟨rfl, HF.out⟩
end Go.Proofs.Ytdilfdjhablnpaa
