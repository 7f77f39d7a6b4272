/- The walks of tabularyref03.Strings and tabularyref10.Same. -/
import Derived.Test.YtdilfdjhablnpaaCut
import Derived.Lib.Strings
namespace Go.Proofs.Ytdilfdjhablnpaa
open Go.RowKit Go.Shelf

theorem strings_len (A B : Option Addr) (n c m d : Nat) (w : World) (h : n ≠ m) :
    Calls Try.prog 14 #[.slice A n c, .slice B m d] w fun e w' => e = .returned (.bool false) ∧ Below w.heap.size w w' := by
  have d1 : ((n : Int) != (m : Int)) = true := by simp; omega
  go_enter Try.func14, Try.ntmps14
  go_wp2
  exact bodyPost_ret (v := .bool false) (by simp [results, Try.results14, go_sem]) rfl ⟨rfl, Below.refl _ _⟩

set_option maxHeartbeats 1000000 in
theorem strings_calls (A B : Option Addr) (n c d : Nat) (l k : List ByteArray) (w : World) (hl : n = l.length) (hk : n = k.length) (hA : StrRow w A l) (hB : StrRow w B k) (hn : n ≤ 100000) :
    Calls Try.prog 14 #[.slice A n c, .slice B n d] w fun e w' => ∃ v, e = .returned (.bool v) ∧ (v = true ↔ l = k) ∧ Below w.heap.size w w' := by
  have d1 : ((n : Int) != (n : Int)) = false := by simp
  have HA := Lib.hid hA
  have HB := Lib.hid hB
  have HL := Lib.hid hl
  have HK := Lib.hid hk
  clear hA hB hl hk
  go_enter Try.func14, Try.ntmps14
  go_wp2
  go_loopw [5] (fun i wr => ∃ j q : Nat, j ≤ n ∧ i = .int .i64 j ∧ Hid (∀ x, x < j → l.getD x ByteArray.empty = k.getD x ByteArray.empty) ∧ wr = w.drewN q) (fun i _ => n - (intOf i).toNat)
  case atStart => exact ⟨0, 0, by omega, rfl, fun j hj => by omega, rfl⟩
  case round =>
    obtain ⟨j, q, hj, rfl, hall, rfl⟩ := hrel
    by_cases hlt : j < n
    · have e1 : decide ((j : Int) < n) = true := by simp; omega
      obtain ⟨b1, o1, rfl, hx⟩ := HA.out j (by have := HL.out; omega)
      obtain ⟨b2, o2, rfl, hy⟩ := HB.out j (by have := HK.out; omega)
      obtain ⟨X, hX⟩ : ∃ X, X = l.getD j ByteArray.empty := ⟨_, rfl⟩
      obtain ⟨Y, hY⟩ : ∃ Y, Y = k.getD j ByteArray.empty := ⟨_, rfl⟩
      have HX := Lib.hid hX
      have HY := Lib.hid hY
      rw [← hX] at hx
      rw [← hY] at hy
      clear hX hY
      by_cases hs : X = Y
      · subst hs
        go_wp2_with fail
        go_quiet (fail)
        go_wp2
        go_roundw
        case rel => exact ⟨j + 1, _, by omega, by go_num, fun x hx2 => by
          by_cases hj2 : x < j
          · exact hall.out x hj2
          · have : x = j := by omega
            subst this
            rw [← HX.out, ← HY.out], rfl⟩
        case measure => simp [intOf]; omega
      · have e2 : (X.toList == Y.toList) = false := by
          rw [Lib.toList_data, Lib.toList_data]
          apply Bool.eq_false_iff.2
          intro h
          apply hs
          have h2 : X.data.toList = Y.data.toList := by simpa using h
          cases X; cases Y
          simp at h2
          rw [h2]
        go_wp2_with fail
        go_quiet (fail)
        go_wp2
        exact bodyPost_ret (v := .bool false) (by simp [results, Try.results14, go_sem]) rfl ⟨false, rfl, ⟨fun h => (by cases h), fun h => absurd (by rw [HX.out, HY.out, h]) hs⟩, ⟨rfl, rfl, rfl, Nat.le_refl _, fun _ _ => rfl⟩⟩
    · have : j = n := by omega
      subst this
      have e1 : decide ((j : Int) < j) = false := by simp
      have HYES := Lib.hid (show l = k from List.ext_getElem (by rw [← HL.out, ← HK.out]) fun x h1 h2 => by
        have h3 := hall.out x (by rw [HL.out]; exact h1)
        simpa [List.getD, List.getElem?_eq_getElem h1, List.getElem?_eq_getElem h2] using h3)
      go_wp2
      exact bodyPost_ret (v := .bool true) (by simp [results, Try.results14, go_sem]) rfl ⟨true, rfl, ⟨fun _ => HYES.out, fun _ => rfl⟩, ⟨rfl, rfl, rfl, Nat.le_refl _, fun _ _ => rfl⟩⟩

theorem strings_same (A B : Option Addr) (n c d : Nat) (l : List ByteArray) (w : World) (hl : n = l.length) (hA : StrRow w A l) (hB : StrRow w B l) (hn : n ≤ 100000) :
    Calls Try.prog 14 #[.slice A n c, .slice B n d] w fun e w' => e = .returned (.bool true) ∧ Below w.heap.size w w' := by
  refine (strings_calls A B n c d l l w hl hl hA hB hn).mono ?_
  rintro e w' ⟨v, rfl, hv, hb⟩
  have hv1 : v = true := hv.2 rfl
  subst hv1
  exact ⟨rfl, hb⟩

set_option maxHeartbeats 2000000 in
/-- Same of a disk and itself, as read. -/
theorem same_calls (z : Int) (Ak Aw Bk Bw : Option Addr) (n ck m cw ck2 cw2 : Nat) (off : Bool) (kept : List ByteArray) (ws : List Wr) (w : World) (h : Hid (DiskIn w Ak Aw n m kept ws)) (h2 : Hid (DiskIn w Bk Bw n m kept ws)) :
    Calls Try.prog 16 #[.agg #[.int .i64 z, .slice Ak n ck, .slice Aw m cw, .bool off], .agg #[.int .i64 z, .slice Bk n ck2, .slice Bw m cw2, .bool off]] w fun e w' => e = .returned (.bool true) ∧ Below w.heap.size w w' := by
  have hb := two_below w (.cells #[.int .i64 z, .slice Ak n ck, .slice Aw m cw, .bool off] 25) (.cells #[.int .i64 z, .slice Bk n ck2, .slice Bw m cw2, .bool off] 25)
  have b1 := (BoxD.new w z (.slice Ak n ck) (.slice Aw m cw) off).alloc (.cells #[.int .i64 z, .slice Bk n ck2, .slice Bw m cw2, .bool off] 25)
  have b2 := two w (.cells #[.int .i64 z, .slice Ak n ck, .slice Aw m cw, .bool off] 25) z (.slice Bk n ck2) (.slice Bw m cw2) off
  have hd1 := h.out.below hb
  have hd2 := h2.out.below hb
  have hmx := h.out.m_le
  have d0 : (z != z) = false := by simp
  have d1 : (off != off) = false := by simp
  have d2 : ((m : Int) != (m : Int)) = false := by simp
  have HS := Lib.hid (strings_same Ak Bk n ck ck2 kept _ hd1.n_eq hd1.row hd2.row hd1.n_le)
  clear h h2
  go_enter Try.func16, Try.ntmps16
  go_wp2_with (go_at_call 14; refine HS.out.mono ?_)
  generalize ((w.alloc (.cells #[.int .i64 z, .slice Ak n ck, .slice Aw m cw, .bool off] 25)).alloc (.cells #[.int .i64 z, .slice Bk n ck2, .slice Bw m cw2, .bool off] 25)) = W at *
  rintro e w1 ⟨rfl, hb1⟩
  obtain ⟨c0, c1, c2, c3, _⟩ := b1.below hb1
  obtain ⟨e0, e1, e2, e3, _⟩ := b2.below hb1
  have HD1 := Lib.hid (hd1.below hb1)
  have HD2 := Lib.hid (hd2.below hb1)
  have HB := Lib.hid (hb.trans (hb1.mono hb.size))
  clear hb1 b1 b2 hd1 hd2 hb HS
  go_wp2
  go_loopw [6] (fun i wr => ∃ j q : Nat, j ≤ m ∧ i = .int .i64 j ∧ wr = w1.drewN q) (fun i _ => m - (intOf i).toNat)
  case atStart => exact ⟨0, 0, by omega, rfl, rfl⟩
  case round =>
    obtain ⟨j, q, hj, rfl, rfl⟩ := hrel
    by_cases hlt : j < m
    · have g1 : decide ((j : Int) < m) = true := by simp; omega
      obtain ⟨x1, o1, rfl, hx1, hx2⟩ := HD1.out.wrow j (by have := HD1.out.m_eq; omega)
      obtain ⟨y1, o2, rfl, hy1, hy2⟩ := HD2.out.wrow j (by have := HD2.out.m_eq; omega)
      generalize ws.getD j noWr = X at *
      obtain ⟨x, s⟩ := X
      simp only at hx1 hx2 hy1 hy2
      go_wp2_with fail
      go_quiet (fail)
      go_wp2
      go_roundw
      case rel => exact ⟨j + 1, _, by omega, by go_num, rfl⟩
      case measure => simp [intOf]; omega
    · have : j = m := by omega
      subst this
      have g1 : decide ((j : Int) < j) = false := by simp
      go_wp2
      exact bodyPost_ret (v := .bool true) (by simp [results, Try.results16, go_sem]) rfl ⟨rfl, ⟨HB.out.os, HB.out.tape, HB.out.output, HB.out.size, HB.out.block⟩⟩
end Go.Proofs.Ytdilfdjhablnpaa
