/- The walk of tabularyref10.New. -/
import Derived.Test.YtdilfdjhablnpaaRefCrash
namespace Go.Proofs.Ytdilfdjhablnpaa
open Go.RowKit Go.Shelf

theorem BoxD.setKa {b : Nat} {z : Int} {ka wa : Value} {off : Bool} {W : World} (h : BoxD b z ka wa off W) (ka' : Value) : BoxD b z ka' wa off (W.setCell ⟨b, 1, none⟩ ka') := by
  refine ⟨?_, ?_, ?_, ?_, fun j => by simp only [World.frozen?_setCell]; exact h.f j⟩
  · rw [World.cell?_setCell_other _ _ _ _ (by simp)]; exact h.c0
  · rw [World.cell?_setCell_same' _ _ _ (by rw [h.c1]; rfl)]
  · rw [World.cell?_setCell_other _ _ _ _ (by simp)]; exact h.c2
  · rw [World.cell?_setCell_other _ _ _ _ (by simp)]; exact h.c3

set_option maxHeartbeats 2000000 in
set_option maxRecDepth 100000 in
theorem refNew_calls (c z : Nat) (w : World) (hc1 : 1 ≤ c) (hc : c ≤ 4096) (hz1 : 96 ≤ z) (hz : z ≤ 1024) :
    Calls Try.prog 22 #[.int .i64 c, .int .i64 z] w fun e w' =>
      ∃ A k, e = .returned (.tuple #[.agg #[.int .i64 z, .slice A c k, .slice none 0 0, .bool false], .int .i64 0]) ∧ StrRow w' A (List.replicate c (zeros z)) ∧ Below w.heap.size w w' := by
  obtain ⟨i0, hi, hz0', hz1', hz2'⟩ := info_parts infoStr
  have d1 : decide ((c : Int) < 1) = false := by simp; omega
  have d2 : decide ((c : Int) > 4096) = false := by simp; omega
  have d3 : decide ((z : Int) < 96) = false := by simp; omega
  have d4 : decide ((z : Int) > 1024) = false := by simp; omega
  have hconv := zeros_conv (w.alloc (.cells #[.int .i64 0, .slice none 0 0, .slice none 0 0, .bool false] 25)) z (w.heap.size + 1) (by simp)
  go_enter Try.func22, Try.ntmps22
  go_wp2_with (at_make; refine wpList_make_row _ rfl _ _ 47 rfl 5 Try.t5 (.int .u8 0) (by kernel_rfl) (by kernel_rfl) rfl rfl rfl .i64 .i64 z rfl rfl (by show 1 * z ≤ _; omega) (by omega) ?_)
  have hA := (BoxD.new w 0 (.slice none 0 0) (.slice none 0 0) false).alloc (.cells (madeCells #[.int .u8 0] z) 5) |>.alloc (.cells #[.int .i64 z, .slice none 0 0, .slice none 0 0, .bool false] 25)
  have hB := BoxD.new ((w.alloc (.cells #[.int .i64 0, .slice none 0 0, .slice none 0 0, .bool false] 25)).alloc (.cells (madeCells #[.int .u8 0] z) 5)) z (.slice none 0 0) (.slice none 0 0) false
  rw [show ((w.alloc (.cells #[.int .i64 0, .slice none 0 0, .slice none 0 0, .bool false] 25)).alloc (.cells (madeCells #[.int .u8 0] z) 5)).heap.size = w.heap.size + 1 + 1 by simp] at hB
  have hbw := three_below w (.cells #[.int .i64 0, .slice none 0 0, .slice none 0 0, .bool false] 25) (.cells (madeCells #[.int .u8 0] z) 5) (.cells #[.int .i64 z, .slice none 0 0, .slice none 0 0, .bool false] 25)
  have hsz : (((w.alloc (.cells #[.int .i64 0, .slice none 0 0, .slice none 0 0, .bool false] 25)).alloc (.cells (madeCells #[.int .u8 0] z) 5)).alloc (.cells #[.int .i64 z, .slice none 0 0, .slice none 0 0, .bool false] 25)).heap.size = w.heap.size + 3 := by simp
  generalize (((w.alloc (.cells #[.int .i64 0, .slice none 0 0, .slice none 0 0, .bool false] 25)).alloc (.cells (madeCells #[.int .u8 0] z) 5)).alloc (.cells #[.int .i64 z, .slice none 0 0, .slice none 0 0, .bool false] 25)) = W at *
  have HA := Lib.hid hA
  have HB := Lib.hid hB
  have HW := Lib.hid hbw
  have HS : Hid (w.heap.size + 3 ≤ W.heap.size) := Lib.hid (by omega)
  clear hA hB hbw hsz hconv
  go_loopw [8] (fun i wr => ∃ (k : Nat) (V : Value), k ≤ c ∧ i = .int .i64 k ∧ Hid (BoxD (w.heap.size + 1 + 1) z V (.slice none 0 0) false wr) ∧ Hid (wr.ownsRow (w.heap.size + 3) 9 1 V k (List.replicate k (.string (zeros z)))) ∧ Hid (BoxD w.heap.size 0 (.slice none 0 0) (.slice none 0 0) false wr) ∧ Hid (Below w.heap.size w wr) ∧ Hid (w.heap.size + 3 ≤ wr.heap.size)) (fun i _ => c - (intOf i).toNat)
  case atStart => exact ⟨0, .slice none 0 0, by omega, rfl, HB, Lib.hid (World.ownsRow_nil _ _ _ _), HA, HW, HS⟩
  case round =>
    obtain ⟨k, V, hkc, rfl, hb, hown, ha, hbl, hsz⟩ := hrel
    obtain ⟨r0, r1, r2, r3, rf⟩ := hb.out
    by_cases hlt : k < c
    · have e1 : decide ((k : Int) < (c : Int)) = true := by simp; omega
      have HLT := Lib.hid hlt
      have hs := hsz.out
      go_wp2_with (at_builtin; refine wpList_append_own _ rfl _ _ 22 rfl (w.heap.size + 3) 9 i0 (.string ⟨#[]⟩) 1 16 Try.underlying22 hi hz0' hz1' hz2' rfl (by decide) _ _ _ rfl (hown.out.alloc _) ⟨wr.heap.size, 0, none⟩ 1 1 [.string (zeros z)] rfl rfl (cell_one_new _ _ _) (by intro u hu; simp at hu; subst hu; rfl) (by unfold maxLen; omega) (by omega) (by simp; omega) ?_)
      clear r0 r1 r2 r3 rf
      intro v' w4 hown' hgrow _
      obtain ⟨A', s', rfl⟩ : ∃ a c, v' = .slice a (k + 1) c := by
        rcases hown'.2 with ⟨_, h0⟩ | ⟨g, cap, cur, e, _⟩
        · omega
        · exact ⟨_, _, e⟩
      have HA4 := Lib.hid ((ha.out.alloc (.cells #[.string (zeros z)] 9)).of_block (hgrow.block w.heap.size (by simp; omega) (fun e => by have := (hown.out.lt _ e.symm).1; omega)))
      have HB4 := Lib.hid ((hb.out.alloc (.cells #[.string (zeros z)] 9)).of_block (hgrow.block (w.heap.size + 1 + 1) (by simp; omega) (fun e => by have := (hown.out.lt _ e.symm).1; omega)))
      have HW4 := Lib.hid ((hbl.out.alloc hbl.out.size (.cells #[.string (zeros z)] 9)).grown hgrow (by simp; omega) (fun k hk => by have := (hown.out.lt k hk).1; omega))
      have HS4 : Hid (w.heap.size + 3 ≤ w4.heap.size) := Lib.hid (by have := hgrow.size; simp at this; omega)
      have HO4 := Lib.hid hown'
      obtain ⟨r0, r1, r2, r3, rf⟩ := HB4.out
      have f1 := rf 1
      clear hown' hgrow rf
      go_wp2
      go_roundw
      case rel => exact ⟨k + 1, .slice A' (k + 1) s', by have := HLT.out; omega, by go_num, Lib.hid (HB4.out.setKa _), Lib.hid (by
        have := ownsRow_setCell_below HO4.out (a := ⟨w.heap.size + 1 + 1, 1, none⟩) (by show w.heap.size + 1 + 1 < _; omega) (.slice A' (k + 1) s')
        rw [List.replicate_succ']
        exact this), Lib.hid (HA4.out.other (by omega)), Lib.hid (HW4.out.setCell (p := ⟨w.heap.size + 1 + 1, 1, none⟩) (by show _ ≤ w.heap.size + 1 + 1; omega) _), Lib.hid (by simpa [World.setCell] using HS4.out)⟩
      case measure => have := HLT.out; simp [intOf]; omega
    · have hkm2 : c = k := by omega
      subst hkm2
      have e1 : decide ((c : Int) < (c : Int)) = false := by simp
      have hmap : (List.replicate c (zeros z)).map Value.string = List.replicate c (Value.string (zeros z)) := List.map_replicate
      have hown2 := hown.out
      rw [← hmap] at hown2
      obtain ⟨A, s, rfl, hcs, hrow, hfr⟩ := StrRow.of_own (List.length_replicate).symm hown2
      have hne : ∀ j, j < (List.replicate c (zeros z)).length → ∀ b' o, A = some ⟨b', o, none⟩ → b' ≠ w.heap.size := fun j hj b' o e => by
        rcases hfr with ⟨e', _⟩ | ⟨g, e', h1, _⟩
        · rw [e] at e'; cases e'
        · rw [e] at e'; cases e'; omega
      have HROW := Lib.hid hrow
      have HNE := Lib.hid hne
      obtain ⟨q0, q1, q2, q3, qf⟩ := ha.out
      have g0 := qf 0
      have g1 := qf 1
      have g2 := qf 2
      have g3 := qf 3
      clear hown2 hown hrow hne hfr hmap rf qf
      go_wp2
      have hbox := ha.out.set z (.slice A c s) (.slice none 0 0) false
      have hbw := setD_below hbl.out (b := w.heap.size) (Nat.le_refl _) z (.slice A c s) (.slice none 0 0) false
      have hrow := setD_row HROW.out (b := w.heap.size) HNE.out z (.slice A c s) (.slice none 0 0) false
      show bodyPost _ _ _ _ _ (setD wr w.heap.size z (.slice A c s) (.slice none 0 0) false)
      generalize setD wr w.heap.size z (.slice A c s) (.slice none 0 0) false = Wf at *
      obtain ⟨t0, t1, t2, t3, _⟩ := hbox
      exact bodyPost_ret (v := .tuple #[.agg #[.int .i64 z, .slice A c s, .slice none 0 0, .bool false], .int .i64 0]) (by simp [results, Try.results22, go_sem, t0, t1, t2, t3]) rfl ⟨A, s, rfl, hrow, hbw⟩

set_option maxHeartbeats 2000000 in
theorem refNewBad_calls (c z : Int) (w : World) (h : c < 1 ∨ 4096 < c ∨ z < 96 ∨ 1024 < z) :
    Calls Try.prog 22 #[.int .i64 c, .int .i64 z] w fun e w' =>
      e = .returned (.tuple #[.agg #[.int .i64 0, .slice none 0 0, .slice none 0 0, .bool false], .int .i64 1]) ∧ Below w.heap.size w w' := by
  have hdec : (decide (c < 1) || decide (c > 4096) || decide (z < 96) || decide (z > 1024)) = true := by
    simp; omega
  obtain ⟨t0, t1, t2, t3, _⟩ := BoxD.new w 0 (.slice none 0 0) (.slice none 0 0) false
  have hb := (Below.refl w.heap.size w).alloc (Nat.le_refl _) (.cells #[.int .i64 0, .slice none 0 0, .slice none 0 0, .bool false] 25)
  have done : ∀ (W : World), W.cell? ⟨w.heap.size, 0, none⟩ = some (.int .i64 0) → True := fun _ _ => trivial
  generalize h1 : decide (c < 1) = D1 at *
  generalize h2 : decide (c > 4096) = D2 at *
  generalize h3 : decide (z < 96) = D3 at *
  generalize h4 : decide (z > 1024) = D4 at *
  cases D1 <;> cases D2 <;> cases D3 <;> cases D4 <;> first
    | (simp at hdec; done)
    | (clear hdec h done
       go_enter Try.func22, Try.ntmps22
       go_wp2
       generalize (w.alloc (Obj.cells #[Value.int IntKind.i64 0, Value.slice none 0 0, Value.slice none 0 0, Value.bool false] 25)) = W at *
       exact bodyPost_ret (v := .tuple #[.agg #[.int .i64 0, .slice none 0 0, .slice none 0 0, .bool false], .int .i64 1]) (by simp [results, Try.results22, go_sem, t0, t1, t2, t3]) rfl ⟨rfl, hb⟩)

/-- What New answers. -/
abbrev nOk (many size : Int) : Prop := 1 ≤ many ∧ many ≤ 4096 ∧ 96 ≤ size ∧ size ≤ 1024
def nZ (many size : Int) : Int := if nOk many size then size else 0
def nL (many size : Int) : List ByteArray := if nOk many size then List.replicate many.toNat (zeros size.toNat) else []
def nE (many size : Int) : Int := if nOk many size then 0 else 1
theorem nL_len (many size : Int) : (nL many size).length ≤ 4096 := by
  unfold nL
  split
  · rename_i h; rw [List.length_replicate]; have := h.2.1; omega
  · simp

def NewAns (f : FuncId) : Prop := ∀ (many size : Int) (w : World),
    Calls Try.prog f #[.int .i64 many, .int .i64 size] w fun e w' =>
      ∃ A k, e = .returned (.tuple #[.agg #[.int .i64 (nZ many size), .slice A (nL many size).length k, .slice none 0 0, .bool false], .int .i64 (nE many size)]) ∧ StrRow w' A (nL many size) ∧ Below w.heap.size w w'

theorem newAns_of (f : FuncId)
    (hok : ∀ (c z : Nat) (w : World), 1 ≤ c → c ≤ 4096 → 96 ≤ z → z ≤ 1024 → Calls Try.prog f #[.int .i64 c, .int .i64 z] w fun e w' =>
      ∃ A k, e = .returned (.tuple #[.agg #[.int .i64 z, .slice A c k, .slice none 0 0, .bool false], .int .i64 0]) ∧ StrRow w' A (List.replicate c (zeros z)) ∧ Below w.heap.size w w')
    (hbad : ∀ (c z : Int) (w : World), (c < 1 ∨ 4096 < c ∨ z < 96 ∨ 1024 < z) → Calls Try.prog f #[.int .i64 c, .int .i64 z] w fun e w' =>
      e = .returned (.tuple #[.agg #[.int .i64 0, .slice none 0 0, .slice none 0 0, .bool false], .int .i64 1]) ∧ Below w.heap.size w w') : NewAns f := by
  intro many size w
  by_cases h : nOk many size
  · have e1 : nZ many size = size := if_pos h
    have e2 : nL many size = List.replicate many.toNat (zeros size.toNat) := if_pos h
    have e3 : nE many size = 0 := if_pos h
    rw [e1, e2, e3, List.length_replicate]
    obtain ⟨h1, h2, h3, h4⟩ := h
    obtain ⟨c, rfl⟩ := Int.eq_ofNat_of_zero_le (show 0 ≤ many by omega)
    obtain ⟨z, rfl⟩ := Int.eq_ofNat_of_zero_le (show 0 ≤ size by omega)
    rw [Int.toNat_natCast, Int.toNat_natCast]
    exact hok c z w (by omega) (by omega) (by omega) (by omega)
  · have e1 : nZ many size = 0 := if_neg h
    have e2 : nL many size = [] := if_neg h
    have e3 : nE many size = 1 := if_neg h
    rw [e1, e2, e3]
    refine (hbad many size w (by unfold nOk at h; omega)).mono ?_
    rintro e w' ⟨he, hb⟩
    exact ⟨none, 0, he, StrRow.nil _ _, hb⟩

theorem new_ans : NewAns 20 := newAns_of 20 (fun c z w h1 h2 h3 h4 => (new_calls c z w h1 h2 h3 h4).mono fun _ _ ⟨A, he, hr, _, hb⟩ => ⟨A, c, he, hr, hb⟩) newBad_calls
theorem refNew_ans : NewAns 22 := newAns_of 22 (fun c z w h1 h2 h3 h4 => refNew_calls c z w h1 h2 h3 h4) refNewBad_calls
end Go.Proofs.Ytdilfdjhablnpaa
