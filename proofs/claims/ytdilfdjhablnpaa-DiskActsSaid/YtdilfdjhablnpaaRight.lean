/- The walks of tabularyref10.Right and few. -/
import Derived.Test.YtdilfdjhablnpaaCrash
namespace Go.Proofs.Ytdilfdjhablnpaa
open Go.RowKit Go.Shelf

/-- A right disk. -/
structure RightD (z : Int) (kept : List ByteArray) (ws : List Wr) : Prop where
  z1 : 96 ≤ z
  z2 : z ≤ 1024
  n1 : 1 ≤ kept.length
  n2 : kept.length ≤ 4096
  rows : ∀ j, j < kept.length → ((kept.getD j ByteArray.empty).size : Int) = z
  wrs : ∀ j, j < ws.length → 0 ≤ (ws.getD j noWr).at_ ∧ (ws.getD j noWr).at_ < kept.length ∧ 1 ≤ (ws.getD j noWr).s.size ∧ ((ws.getD j noWr).s.size : Int) ≤ z

set_option maxHeartbeats 2000000 in
theorem right_bad (z : Int) (Ak Aw : Option Addr) (n ck m cw : Nat) (off : Bool) (w : World) (h : z < 96 ∨ 1024 < z ∨ n < 1 ∨ 4096 < n) :
    Calls Try.prog 17 #[.agg #[.int .i64 z, .slice Ak n ck, .slice Aw m cw, .bool off]] w fun e w' => e = .returned (.bool false) ∧ Below w.heap.size w w' := by
  have hdec : (decide (z < 96) || decide (z > 1024) || decide ((n : Int) < 1) || decide ((n : Int) > 4096)) = true := by
    simp; omega
  have hb := (Below.refl w.heap.size w).alloc (Nat.le_refl _) (.cells #[.int .i64 z, .slice Ak n ck, .slice Aw m cw, .bool off] 25)
  generalize h1 : decide (z < 96) = D1 at *
  generalize h2 : decide (z > 1024) = D2 at *
  generalize h3 : decide ((n : Int) < 1) = D3 at *
  generalize h4 : decide ((n : Int) > 4096) = D4 at *
  cases D1 <;> cases D2 <;> cases D3 <;> cases D4 <;> first
    | (simp at hdec; done)
    | (clear hdec h
       go_enter Try.func17, Try.ntmps17
       go_wp2
       exact bodyPost_ret (v := .bool false) (by simp [results, Try.results17, go_sem]) rfl ⟨rfl, hb⟩)

set_option maxHeartbeats 2000000 in
theorem right_calls (z : Int) (Ak Aw : Option Addr) (n ck m cw : Nat) (off : Bool) (kept : List ByteArray) (ws : List Wr) (w : World) (h : Hid (DiskIn w Ak Aw n m kept ws))
    (z1 : 96 ≤ z) (z2 : z ≤ 1024) (n1 : 1 ≤ n) (n2 : n ≤ 4096) :
    Calls Try.prog 17 #[.agg #[.int .i64 z, .slice Ak n ck, .slice Aw m cw, .bool off]] w fun e w' => ∃ v, e = .returned (.bool v) ∧ (v = true ↔ RightD z kept ws) ∧ Below w.heap.size w w' := by
  have d1 : decide (z < 96) = false := by simp; omega
  have d2 : decide (z > 1024) = false := by simp; omega
  have d3 : decide ((n : Int) < 1) = false := by simp; omega
  have d4 : decide ((n : Int) > 4096) = false := by simp; omega
  have hb := (Below.refl w.heap.size w).alloc (Nat.le_refl _) (.cells #[.int .i64 z, .slice Ak n ck, .slice Aw m cw, .bool off] 25)
  have hbx := BoxD.new w z (.slice Ak n ck) (.slice Aw m cw) off
  have hd := h.out.below hb
  have hm := h.out.m_le
  go_enter Try.func17, Try.ntmps17
  go_wp2
  generalize (w.alloc (.cells #[.int .i64 z, .slice Ak n ck, .slice Aw m cw, .bool off] 25)) = W at *
  have HBX := Lib.hid hbx
  obtain ⟨c0, c1, c2, c3, _⟩ := hbx
  have HB := Lib.hid hb
  have HD := Lib.hid hd
  clear hb hd h
  go_loopw [3] (fun i wr => ∃ k q : Nat, k ≤ n ∧ i = .int .i64 k ∧ Hid (∀ j, j < k → ((kept.getD j ByteArray.empty).size : Int) = z) ∧ wr = W.drewN q) (fun i _ => n - (intOf i).toNat)
  case atStart => exact ⟨0, 0, by omega, rfl, fun j hj => by omega, rfl⟩
  case round =>
    obtain ⟨k, q, hk, rfl, hall, rfl⟩ := hrel
    by_cases hlt : k < n
    · have e1 : decide ((k : Int) < n) = true := by simp; omega
      obtain ⟨bk, o, rfl, hx⟩ := HD.out.row k (by have := HD.out.n_eq; omega)
      obtain ⟨X, hX⟩ : ∃ X, X = kept.getD k ByteArray.empty := ⟨_, rfl⟩
      have HX := Lib.hid hX
      rw [← hX] at hx
      clear hX
      by_cases hs : (X.size : Int) = z
      · have e2 : ((X.size : Int) != z) = false := by simp [hs]
        go_wp2_with fail
        go_quiet (fail)
        go_wp2
        go_roundw
        case rel => exact ⟨k + 1, _, by omega, by go_num, fun j hj => by
          by_cases hj2 : j < k
          · exact hall.out j hj2
          · have : j = k := by omega
            subst this
            rw [← HX.out]; exact hs, rfl⟩
        case measure => simp [intOf]; omega
      · have e2 : ((X.size : Int) != z) = true := by simp [hs]
        go_wp2_with fail
        go_quiet (fail)
        go_wp2
        exact bodyPost_ret (v := .bool false) (by simp [results, Try.results17, go_sem]) rfl ⟨false, rfl, ⟨fun h => (by cases h), fun h => absurd (by rw [HX.out]; exact h.rows k (by have := HD.out.n_eq; omega)) hs⟩, ⟨HB.out.os, HB.out.tape, HB.out.output, HB.out.size, HB.out.block⟩⟩
    · have : k = n := by omega
      subst this
      have e1 : decide ((k : Int) < k) = false := by simp
      have HBX2 := Lib.hid (show BoxD w.heap.size z (.slice Ak k ck) (.slice Aw m cw) off (W.drewN q) from ⟨HBX.out.c0, HBX.out.c1, HBX.out.c2, HBX.out.c3, HBX.out.f⟩)
      have HB2 := Lib.hid (show Below w.heap.size w (W.drewN q) from ⟨HB.out.os, HB.out.tape, HB.out.output, HB.out.size, HB.out.block⟩)
      have HD2 := Lib.hid (HD.out.below (w' := W.drewN q) ⟨rfl, rfl, rfl, Nat.le_refl _, fun _ _ => rfl⟩)
      clear HBX HB HD
      go_wp2_with fail
      generalize W.drewN q = W2 at *
      go_loopw [4, 5] (fun i _ wr => ∃ j : Nat, j ≤ m ∧ i = .int .i64 j ∧ Hid (BoxD w.heap.size z (.slice Ak k ck) (.slice Aw m cw) off wr) ∧ Hid (Below w.heap.size w wr) ∧ Hid (DiskIn wr Ak Aw k m kept ws) ∧
        Hid (∀ l, l < j → 0 ≤ (ws.getD l noWr).at_ ∧ (ws.getD l noWr).at_ < k ∧ 1 ≤ (ws.getD l noWr).s.size ∧ ((ws.getD l noWr).s.size : Int) ≤ z)) (fun i _ _ => m - (intOf i).toNat)
      case atStart => exact ⟨0, by omega, rfl, HBX2, HB2, HD2, fun l hl => by omega⟩
      case round =>
        obtain ⟨j, hj, rfl, hbx3, hb3, hd3, hw3⟩ := hrel
        obtain ⟨c0, c1, c2, c3, _⟩ := hbx3.out
        have hlt3 := hbx3.out.lt
        by_cases hltj : j < m
        · have e1 : decide ((j : Int) < m) = true := by simp; omega
          obtain ⟨bw, o, rfl, hx1, hx2⟩ := hd3.out.wrow j (by have := hd3.out.m_eq; omega)
          obtain ⟨X, hX⟩ : ∃ X, X = ws.getD j noWr := ⟨_, rfl⟩
          have HX := Lib.hid hX
          rw [← hX] at hx1 hx2
          clear hX
          have hbw := World.block_lt_of_cell? wr _ hx1
          obtain ⟨x, s⟩ := X
          simp only at hx1 hx2
          by_cases hok : 0 ≤ x ∧ x < k ∧ 1 ≤ s.size ∧ (s.size : Int) ≤ z
          · have g1 : decide (x < 0) = false := by simp; omega
            have g2 : decide (x ≥ (k : Int)) = false := by simp; omega
            have g3 : decide ((s.size : Int) < 1) = false := by simp; omega
            have g4 : decide ((s.size : Int) > z) = false := by simp; omega
            have hal := (Below.refl wr.heap.size wr).alloc (Nat.le_refl _) (.cells #[.int .i64 x, .string s] 31)
            have BX4 := Lib.hid (hbx3.out.below hal)
            have HB4 := Lib.hid (hb3.out.trans (hal.mono hb3.out.size))
            have HD4 := Lib.hid (hd3.out.below hal)
            clear hal
            go_wp2
            refine ⟨⟨j + 1, by omega, by go_num, BX4, HB4, HD4, fun l hl => ?_⟩, by simp [intOf]; omega⟩
            by_cases hl2 : l < j
            · exact hw3.out l hl2
            · have : l = j := by omega
              subst this
              rw [← HX.out]; exact hok
          · have hbad : (decide (x < 0) || decide (x ≥ (k : Int)) || decide ((s.size : Int) < 1) || decide ((s.size : Int) > z)) = true := by
              simp; omega
            have hal := (Below.refl wr.heap.size wr).alloc (Nat.le_refl _) (.cells #[.int .i64 x, .string s] 31)
            have HB4 := Lib.hid (hb3.out.trans (hal.mono hb3.out.size))
            have HNO := Lib.hid (show (false = true ↔ RightD z kept ws) from ⟨fun h => (by cases h), fun h => absurd (by
              have h1 := h.wrs j (by have := hd3.out.m_eq; omega)
              rw [← HX.out] at h1
              have h2 := hd3.out.n_eq
              rw [← h2] at h1
              exact h1) hok⟩)
            clear hal hok hw3 hd3 hb3 hbx3 HX hall
            generalize h1 : decide (x < 0) = D1 at *
            generalize h2 : decide (x ≥ (k : Int)) = D2 at *
            generalize h3 : decide ((s.size : Int) < 1) = D3 at *
            generalize h4 : decide ((s.size : Int) > z) = D4 at *
            cases D1 <;> cases D2 <;> cases D3 <;> cases D4 <;> first
              | (simp at hbad; done)
              | (clear hbad
                 go_wp2
                 exact bodyPost_ret (v := .bool false) (by simp [results, Try.results17, go_sem]) rfl (.inl ⟨rfl, fun h => Bool.noConfusion (HNO.out.mpr h), HB4.out⟩))
        · have : j = m := by omega
          subst this
          have e1 : decide ((j : Int) < j) = false := by simp
          have HYES := Lib.hid (show RightD z kept ws from ⟨z1, z2, by have := hd3.out.n_eq; omega, by have := hd3.out.n_eq; omega, fun l hl => hall.out l (by have := hd3.out.n_eq; omega), fun l hl => by
            have h1 := hw3.out l (by have := hd3.out.m_eq; omega)
            rw [hd3.out.n_eq] at h1
            exact h1⟩)
          go_wp2
          exact bodyPost_ret (v := .bool true) (by simp [results, Try.results17, go_sem]) rfl (by first | exact .inr ⟨rfl, HYES.out, hb3.out⟩ | exact ⟨true, rfl, ⟨fun _ => HYES.out, fun _ => rfl⟩, hb3.out⟩)

theorem few_big (z : Int) (Ak Aw : Option Addr) (n ck m cw : Nat) (off : Bool) (w : World) (h : 40 < n ∨ 40 < m) :
    Calls Try.prog 11 #[.agg #[.int .i64 z, .slice Ak n ck, .slice Aw m cw, .bool off]] w fun e w' => e = .returned (.bool false) ∧ Below w.heap.size w w' := by
  have hb := (Below.refl w.heap.size w).alloc (Nat.le_refl _) (.cells #[.int .i64 z, .slice Ak n ck, .slice Aw m cw, .bool off] 25)
  by_cases h1 : 40 < n
  · have d1 : decide ((n : Int) > 40) = true := by simp; omega
    go_enter Try.func11, Try.ntmps11
    go_wp2
    exact bodyPost_ret (v := .bool false) (by simp [results, Try.results11, go_sem]) rfl ⟨rfl, hb⟩
  · have d1 : decide ((n : Int) > 40) = false := by simp; omega
    have d2 : decide ((m : Int) > 40) = true := by simp; omega
    go_enter Try.func11, Try.ntmps11
    go_wp2
    exact bodyPost_ret (v := .bool false) (by simp [results, Try.results11, go_sem]) rfl ⟨rfl, hb⟩

theorem few_calls (z : Int) (Ak Aw : Option Addr) (n ck m cw : Nat) (off : Bool) (kept : List ByteArray) (ws : List Wr) (w : World) (h : Hid (DiskIn w Ak Aw n m kept ws)) (hn : n ≤ 40) (hm : m ≤ 40) :
    Calls Try.prog 11 #[.agg #[.int .i64 z, .slice Ak n ck, .slice Aw m cw, .bool off]] w fun e w' => ∃ v, e = .returned (.bool v) ∧ (v = true ↔ RightD z kept ws) ∧ Below w.heap.size w w' := by
  have hb := (Below.refl w.heap.size w).alloc (Nat.le_refl _) (.cells #[.int .i64 z, .slice Ak n ck, .slice Aw m cw, .bool off] 25)
  have HB := Lib.hid hb
  have hd := h.out.below hb
  have HR : Calls Try.prog 17 #[.agg #[.int .i64 z, .slice Ak n ck, .slice Aw m cw, .bool off]] (w.alloc (.cells #[.int .i64 z, .slice Ak n ck, .slice Aw m cw, .bool off] 25)) fun e w' => ∃ v, e = .returned (.bool v) ∧ (v = true ↔ RightD z kept ws) ∧ Below (w.alloc (.cells #[.int .i64 z, .slice Ak n ck, .slice Aw m cw, .bool off] 25)).heap.size (w.alloc (.cells #[.int .i64 z, .slice Ak n ck, .slice Aw m cw, .bool off] 25)) w' := by
    by_cases hg : z < 96 ∨ 1024 < z ∨ n < 1 ∨ 4096 < n
    · refine (right_bad z Ak Aw n ck m cw off _ hg).mono ?_
      rintro e w' ⟨rfl, hb2⟩
      exact ⟨false, rfl, ⟨fun h => (by cases h), fun hr => by
        have := hr.z1; have := hr.z2; have := hr.n1; have := hr.n2; have := h.out.n_eq; omega⟩, hb2⟩
    · exact right_calls z Ak Aw n ck m cw off kept ws _ (Lib.hid hd) (by omega) (by omega) (by omega) (by omega)
  have HR' := Lib.hid HR
  have d1 : decide ((n : Int) > 40) = false := by simp; omega
  have d2 : decide ((m : Int) > 40) = false := by simp; omega
  clear HR hb hd
  go_enter Try.func11, Try.ntmps11
  go_wp2_with (go_at_call 17; refine HR'.out.mono ?_)
  rintro e w' ⟨v, rfl, hv, hb2⟩
  have HV := Lib.hid hv
  have HB2 := Lib.hid (HB.out.trans (hb2.mono HB.out.size))
  clear hv hb2
  go_wp2
  exact bodyPost_ret (v := .bool v) (by simp [results, Try.results11, go_sem]) rfl ⟨v, rfl, HV.out, HB2.out⟩
end Go.Proofs.Ytdilfdjhablnpaa
