/- The walk of tabularyref10.Crash. -/
import Derived.Test.YtdilfdjhablnpaaRefActs
namespace Go.Proofs.Ytdilfdjhablnpaa
open Go.RowKit Go.Shelf

theorem BoxD.of_block {b : Nat} {z : Int} {ka wa : Value} {off : Bool} {W W' : World} (h : BoxD b z ka wa off W) (hb : W'.heap[b]? = W.heap[b]?) : BoxD b z ka wa off W' :=
  ⟨(World.cell?_of_block (a := ⟨b, 0, none⟩) hb).trans h.c0, (World.cell?_of_block (a := ⟨b, 1, none⟩) hb).trans h.c1, (World.cell?_of_block (a := ⟨b, 2, none⟩) hb).trans h.c2, (World.cell?_of_block (a := ⟨b, 3, none⟩) hb).trans h.c3, fun j => (World.frozen?_of_block (a := ⟨b, j, none⟩) hb).trans (h.f j)⟩

theorem over_none (s f : ByteArray) (h : f.size = 0) : over s f = s := by
  refine ByteArray.ext ?_
  apply Array.ext'
  have hf : f.data.toList.length = f.size := Array.length_toList
  have e : f.data.toList = [] := List.length_eq_zero_iff.1 (by omega)
  rw [over_list _ _ (by omega), e, h]
  rfl

theorem set_getD (l : List ByteArray) (j : Nat) : l.set j (l.getD j ByteArray.empty) = l := by
  by_cases h : j < l.length
  · apply List.ext_getElem?
    intro i
    rw [List.getElem?_set]
    split
    · rename_i e; subst e; simp [List.getD, h]
    · rfl
  · exact List.set_eq_of_length_le (by omega)

theorem firstOf_none (keep : List Int) (k : Nat) (s : ByteArray) (h : keep.length ≤ k) : (firstOf keep k s).size = 0 := by
  unfold firstOf
  rw [if_neg (by omega)]
  rfl
theorem firstOf_low (keep : List Int) (k : Nat) (s : ByteArray) (x : Int) (h : k < keep.length) (hx : keep.getD k 0 = x) (h0 : x ≤ 0) : (firstOf keep k s).size = 0 := by
  unfold firstOf
  rw [if_pos h, hx, ByteArray.size_extract]
  omega
theorem firstOf_mid (keep : List Int) (k : Nat) (s : ByteArray) (y : Nat) (h : k < keep.length) (hx : keep.getD k 0 = (y : Int)) (h0 : y ≤ s.size) : firstOf keep k s = s.extract 0 y := by
  unfold firstOf
  rw [if_pos h, hx, show (min (max (y : Int) 0) (s.size : Int)).toNat = y by omega]
theorem firstOf_high (keep : List Int) (k : Nat) (s : ByteArray) (x : Int) (h : k < keep.length) (hx : keep.getD k 0 = x) (h0 : (s.size : Int) < x) : firstOf keep k s = s.extract 0 s.size := by
  unfold firstOf
  rw [if_pos h, hx, show (min (max x 0) (s.size : Int)).toNat = s.size by omega]

set_option maxHeartbeats 4000000 in
set_option maxRecDepth 100000 in
theorem refCrash_calls (z : Int) (Ak Aw : Option Addr) (n ck m cw : Nat) (off : Bool) (kept : List ByteArray) (ws : List Wr) (K : Option Addr) (kn kc : Nat) (keep : List Int) (w : World) (h : Hid (DiskIn w Ak Aw n m kept ws)) (hR : Hid (RightD z kept ws)) (hk : Hid (KeepIn w K kn keep)) :
    Calls Try.prog 27 #[.agg #[.int .i64 z, .slice Ak n ck, .slice Aw m cw, .bool off], .slice K kn kc] w fun e w' =>
      ∃ A c, e = .returned (.agg #[.int .i64 z, .slice A n c, .slice none 0 0, .bool false]) ∧ n ≤ c ∧ StrRow w' A (crashed keep kept ws) ∧ Below w.heap.size w w' := by
  obtain ⟨i0, hi, hz0, hz1, hz2⟩ := info_parts infoStr
  have hn1 := hR.out.n1
  have HNN := Lib.hid h.out.n_eq
  have hmm := h.out.m_le
  have hn2 := h.out.n_le
  obtain ⟨b, o, rfl, _⟩ := h.out.row 0 (by have := HNN.out; omega)
  have hbw := three_below w (.cells #[.int .i64 z, .slice (some ⟨b, o, none⟩) n ck, .slice Aw m cw, .bool off] 25) (.cells #[.int .i64 0, .slice none 0 0, .slice none 0 0, .bool false] 25) (.cells #[] 9)
  have hbx := ((BoxD.new w z (.slice (some ⟨b, o, none⟩) n ck) (.slice Aw m cw) off).alloc (.cells #[.int .i64 0, .slice none 0 0, .slice none 0 0, .bool false] 25)).alloc (.cells #[] 9)
  have hbr := (two w (.cells #[.int .i64 z, .slice (some ⟨b, o, none⟩) n ck, .slice Aw m cw, .bool off] 25) 0 (.slice none 0 0) (.slice none 0 0) false).alloc (.cells #[] 9)
  have hold := (h.out.row.below hbw).holds
  have hown0 := World.ownsRow_lit (base := w.heap.size + 2) (e := 9) (size := 1) ((w.alloc (.cells #[.int .i64 z, .slice (some ⟨b, o, none⟩) n ck, .slice Aw m cw, .bool off] 25)).alloc (.cells #[.int .i64 0, .slice none 0 0, .slice none 0 0, .bool false] 25)) #[] 0 (by simp) (by unfold maxLen; omega) rfl
  have hsW : (((w.alloc (.cells #[.int .i64 z, .slice (some ⟨b, o, none⟩) n ck, .slice Aw m cw, .bool off] 25)).alloc (.cells #[.int .i64 0, .slice none 0 0, .slice none 0 0, .bool false] 25)).alloc (.cells #[] 9)).heap.size = w.heap.size + 3 := by simp
  rw [show ((w.alloc (.cells #[.int .i64 z, .slice (some ⟨b, o, none⟩) n ck, .slice Aw m cw, .bool off] 25)).alloc (.cells #[.int .i64 0, .slice none 0 0, .slice none 0 0, .bool false] 25)).heap.size = w.heap.size + 2 by simp] at hown0
  obtain ⟨c0, c1, c2, c3, _⟩ := hbx
  have HBX0 := Lib.hid (((BoxD.new w z (.slice (some ⟨b, o, none⟩) n ck) (.slice Aw m cw) off).alloc (.cells #[.int .i64 0, .slice none 0 0, .slice none 0 0, .bool false] 25)).alloc (.cells #[] 9))
  have HBR0 := Lib.hid hbr
  go_enter Try.func27, Try.ntmps27
  go_wp2_with (at_builtin; refine wpList_append_own _ rfl _ _ 22 rfl (w.heap.size + 2) 9 i0 (.string ⟨#[]⟩) 1 16 Try.underlying22 hi hz0 hz1 hz2 rfl (by decide) _ _ _ rfl hown0 ⟨b, o, none⟩ n ck (kept.map Value.string) rfl (by rw [List.length_map, Nat.mul_one]; exact HNN.out.symm) hold (string_ones kept) (by unfold maxLen; omega) (by omega) (by omega) ?_)
  intro v' w1 hown hgrow _
  have hbel : Below w.heap.size w w1 := hbw.grown hgrow (by omega) (fun k hk => by have := (hown0.lt k hk).1; omega)
  have hown : w1.ownsRow (w.heap.size + 2) 9 1 v' n (kept.map Value.string) := by simpa using hown
  obtain ⟨A0, s0, rfl, hc0, hrow0, hfr⟩ := StrRow.of_own HNN.out hown
  have HO0 : Hid (OwnAt A0 (w.heap.size + 2) w1.heap.size n) := Lib.hid (by
    rcases hfr with ⟨_, e⟩ | ⟨g, rfl, hg1, hg2, _⟩
    · have := HNN.out; rw [e] at this; exact .inl this
    · exact .inr ⟨g, rfl, hg1, hg2⟩)
  clear hfr
  have HX1 := Lib.hid (HBX0.out.of_block (hgrow.block w.heap.size (by omega) (by simp [Value.ownBlock] <;> omega)))
  have HR1 := Lib.hid (HBR0.out.of_block (hgrow.block (w.heap.size + 1) (by omega) (by simp [Value.ownBlock] <;> omega)))
  have HW1 : Hid (w.heap.size + 2 ≤ w1.heap.size) := Lib.hid (by have := hgrow.size; omega)
  have DW := Lib.hid (h.out.below hbel)
  have DK := Lib.hid (hk.out.below hbel)
  have HB := Lib.hid hbel
  have HRow0 := Lib.hid hrow0
  clear hown hgrow hold hown0 hbw hbel hrow0 c0 c1 c2 c3 HBX0 HBR0 hbr hsW
  go_wp2_with fail
  go_loopw [5, 6, 7] (fun v i _ wr => ∃ (k : Nat) (A : Option Addr) (c : Nat), k ≤ m ∧ v = .slice A n c ∧ i = .int .i64 k ∧ n ≤ c ∧ Hid (StrRow wr A (doneTo (firstOf keep) kept ws k)) ∧ Hid (OwnAt A (w.heap.size + 2) wr.heap.size n) ∧ Hid (Below w1.heap.size w1 wr)) (fun _ i _ _ => m - (intOf i).toNat)
  case atStart => exact ⟨0, A0, s0, by omega, rfl, rfl, hc0, HRow0, HO0, Lib.hid (Below.refl _ _)⟩
  case round =>
    obtain ⟨k, A, c, hkm, rfl, rfl, hcn, hrow, hoA, hbl⟩ := hrel
    obtain ⟨c0, c1, c2, c3, _⟩ := HX1.out.below hbl.out
    by_cases hlt : k < m
    · have e1 : decide ((k : Int) < (m : Int)) = true := by simp; omega
      have HLT := Lib.hid hlt
      obtain ⟨wb, wo, rfl, hw1, hw2⟩ := (DW.out.below hbl.out).wrow k (by have := DW.out.m_eq; omega)
      have hk := hR.out.wrs k (by have := DW.out.m_eq; omega)
      have hsucc := Lib.hid (doneTo_succ (firstOf keep) kept ws k (by have := DW.out.m_eq; omega))
      have hlen : n = (doneTo (firstOf keep) kept ws k).length := by rw [doneTo_len]; exact HNN.out
      have hsize := doneTo_size (firstOf keep) kept ws k (ws.getD k noWr).at_.toNat
      have hrsz := hR.out.rows (ws.getD k noWr).at_.toNat (by omega)
      have hz2' := hR.out.z2
      generalize ws.getD k noWr = x at *
      obtain ⟨xa, xs⟩ := x
      simp only at hw1 hw2 hk hsize hrsz hsucc
      obtain ⟨a, rfl⟩ := Int.eq_ofNat_of_zero_le hk.1
      rw [Int.toNat_natCast] at hsize hrsz hsucc
      have HLEN := Lib.hid hlen
      have HSZ : Hid (xs.size ≤ ((doneTo (firstOf keep) kept ws k).getD a ByteArray.empty).size) := Lib.hid (by omega)
      have HSZ2 : Hid (((doneTo (firstOf keep) kept ws k).getD a ByteArray.empty).size ≤ 100000) := Lib.hid (by omega)
      have HA : Hid (a < n) := Lib.hid (by have := HNN.out; omega)
      have hx1 : 1 ≤ xs.size := hk.2.2.1
      have hx2 : xs.size ≤ 1024 := by omega
      generalize hL : doneTo (firstOf keep) kept ws k = L at *
      have hkn := DK.out.n_eq
      have hknb := DK.out.n_le
      clear hlen hsize hrsz hk hz2' hL c0 c1 c3
      by_cases h1 : k < kn
      · have d1 : decide ((k : Int) < (kn : Int)) = true := by simp; omega
        obtain ⟨kb, ko, rfl, hkc⟩ := (DK.out.below hbl.out).row k (by omega)
        have hkx := DK.out.range k (by omega)
        have h1' : k < keep.length := by omega
        obtain ⟨y, hy⟩ : ∃ y, keep.getD k 0 = y := ⟨_, rfl⟩
        rw [hy] at hkc hkx
        have HY := Lib.hid hy
        have H1 := Lib.hid h1'
        clear hy hkn h1'
        by_cases h2 : (xs.size : Int) < y
        · have d2 : decide (y > (xs.size : Int)) = true := by simpa using h2
          have d3 : decide ((xs.size : Int) > 0) = true := by simp; omega
          have HFE := Lib.hid (firstOf_high keep k xs y H1.out HY.out h2)
          go_wp2_with fail
          go_region_held3 (fun W' => W'.cell? ⟨w.heap.size, 2, none⟩ = some (.slice (some ⟨wb, wo, none⟩) m cw) ∧ W'.cell? ⟨wb, wo + k * 2, none⟩ = some (.int .i64 a) ∧ W'.cell? ⟨wb, wo + k * 2 + 1, none⟩ = some (.string xs) ∧ Hid (StrRow W' A L))
            (first | exact held3_below (by assumption) (by assumption) | exact held3_below (Below.refl _ _).drew ⟨c2, hw1, hw2, hrow⟩)
            ((go_at_call 40; refine (apply_calls A n c L a (xs) _ HLEN.out ?_ HA.out (by omega) HSZ.out HSZ2.out).mono ?_; (go_split_ands; exact Hid.out (by assumption)); rintro e w' ⟨A', c', rfl, hc', hrow', hown', hbel'⟩))
          have HR' := Lib.hid hrow'
          have HO' := Lib.hid (OwnAt.mono hown' (lo' := w.heap.size + 2) (hi' := w'.heap.size) (by have h1 := HW1.out; have h2 := hbl.out.size; show _ ≤ wr.heap.size; omega) (Nat.le_refl _))
          have HB' := Lib.hid (hbl.out.trans ((undrew hbel').mono hbl.out.size))
          clear hrow' hbel' hown' c2 hw1 hw2
          go_wp2
          go_roundw
          case rel => exact ⟨k + 1, A', c', by have := HLT.out; omega, rfl, by go_num, hc', Lib.hid (by rw [hsucc.out, HFE.out, extract_all]; exact HR'.out), HO', HB'⟩
          case measure => have := HLT.out; simp [intOf]; omega
        · by_cases h3 : y ≤ 0
          · have d2 : decide (y > (xs.size : Int)) = false := by simp; omega
            have d3 : decide (y > 0) = false := by simp; omega
            have HFE := Lib.hid (firstOf_low keep k xs y H1.out HY.out h3)
            go_wp2
            go_roundw
            case rel => exact ⟨k + 1, A, c, by have := HLT.out; omega, rfl, by go_num, hcn, Lib.hid (by rw [hsucc.out, over_none _ _ HFE.out, set_getD]; exact hrow.out), hoA, hbl⟩
            case measure => have := HLT.out; simp [intOf]; omega
          · obtain ⟨y, rfl⟩ := Int.eq_ofNat_of_zero_le (show 0 ≤ y by omega)
            have d2 : decide ((y : Int) > (xs.size : Int)) = false := by simp; omega
            have d3 : decide ((y : Int) > 0) = true := by simp; omega
            have HFE := Lib.hid (firstOf_mid keep k xs y H1.out HY.out (by omega))
            have hyx : y ≤ xs.size := by omega
            have HYX := Lib.hid hyx
            go_wp2_with fail
            go_region_held3 (fun W' => W'.cell? ⟨w.heap.size, 2, none⟩ = some (.slice (some ⟨wb, wo, none⟩) m cw) ∧ W'.cell? ⟨wb, wo + k * 2, none⟩ = some (.int .i64 a) ∧ W'.cell? ⟨wb, wo + k * 2 + 1, none⟩ = some (.string xs) ∧ Hid (StrRow W' A L))
              (first | exact held3_below (by assumption) (by assumption) | exact held3_below (Below.refl _ _).drew ⟨c2, hw1, hw2, hrow⟩)
              ((go_at_call 40; refine (apply_calls A n c L a (xs.extract 0 y) _ HLEN.out ?_ HA.out (by omega) (by rw [ByteArray.size_extract]; have := HSZ.out; omega) HSZ2.out).mono ?_; (go_split_ands; exact Hid.out (by assumption)); rintro e w' ⟨A', c', rfl, hc', hrow', hown', hbel'⟩))
            have HR' := Lib.hid hrow'
            have HO' := Lib.hid (OwnAt.mono hown' (lo' := w.heap.size + 2) (hi' := w'.heap.size) (by have h1 := HW1.out; have h2 := hbl.out.size; show _ ≤ wr.heap.size; omega) (Nat.le_refl _))
            have HB' := Lib.hid (hbl.out.trans ((undrew hbel').mono hbl.out.size))
            clear hrow' hbel' hown' c2 hw1 hw2
            go_wp2
            go_roundw
            case rel => exact ⟨k + 1, A', c', by have := HLT.out; omega, rfl, by go_num, hc', Lib.hid (by rw [hsucc.out, HFE.out]; exact HR'.out), HO', HB'⟩
            case measure => have := HLT.out; simp [intOf]; omega
      · have d1 : decide ((k : Int) < (kn : Int)) = false := by simp; omega
        have d2 : decide ((0 : Int) > (xs.size : Int)) = false := by simp
        have HFE := Lib.hid (firstOf_none keep k xs (by omega))
        go_wp2
        go_roundw
        case rel => exact ⟨k + 1, A, c, by have := HLT.out; omega, rfl, by go_num, hcn, Lib.hid (by rw [hsucc.out, over_none _ _ HFE.out, set_getD]; exact hrow.out), hoA, hbl⟩
        case measure => have := HLT.out; simp [intOf]; omega
    · have hkm2 : m = k := by omega
      subst hkm2
      have e1 : decide ((m : Int) < (m : Int)) = false := by simp
      have HF := Lib.hid (show StrRow wr A (crashed keep kept ws) by have := hrow.out; rw [DW.out.m_eq, doneTo_all] at this; exact this)
      have HBF := Lib.hid (HB.out.trans (hbl.out.mono HB.out.size))
      have HBX := Lib.hid (HR1.out.below hbl.out)
      obtain ⟨r0, r1, r2, r3, rf⟩ := HR1.out.below hbl.out
      have f0 := rf 0
      have f1 := rf 1
      have f2 := rf 2
      have f3 := rf 3
      clear hrow hbl rf
      go_wp2_with fail
      show bodyPost Try.prog Try.f27 _ Exit.ret _ (setD wr (w.heap.size + 1) z (.slice A n c) (.slice none 0 0) false)
      have hbox := HBX.out.set z (.slice A n c) (.slice none 0 0) false
      have hbw := setD_below HBF.out (b := w.heap.size + 1) (by omega) z (.slice A n c) (.slice none 0 0) false
      have hrow := setD_row HF.out (b := w.heap.size + 1) (own_ne hoA.out (by omega) (by unfold crashed; rw [doneL_len]; exact HNN.out.symm)) z (.slice A n c) (.slice none 0 0) false
      generalize setD wr (w.heap.size + 1) z (.slice A n c) (.slice none 0 0) false = Wf at *
      obtain ⟨t0, t1, t2, t3, _⟩ := hbox
      clear r0 r1 r2 r3 f0 f1 f2 f3 c0 c1 c2 c3
      exact bodyPost_ret (v := .agg #[.int .i64 z, .slice A n c, .slice none 0 0, .bool false]) (by simp [results, Try.results27, go_sem, t0, t1, t2, t3]) rfl ⟨A, c, rfl, hcn, hrow, hbw⟩
end Go.Proofs.Ytdilfdjhablnpaa
