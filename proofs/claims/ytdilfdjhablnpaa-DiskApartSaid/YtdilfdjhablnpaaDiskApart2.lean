/- The walk of DiskApart where the disk is right and the sector is there. -/
import Derived.Test.YtdilfdjhablnpaaPlainApart
import Derived.BigQuiet
namespace Go.Proofs.Ytdilfdjhablnpaa
open Go.RowKit Go.Shelf

set_option maxHeartbeats 4000000 in
set_option maxRecDepth 100000 in
theorem apart_good (Z : Nat) (Ak Aw : Option Addr) (n ck m cw : Nat) (off : Bool) (K : Option Addr) (kn kc : Nat) (a : Nat) (kept : List ByteArray) (ws : List Wr) (keep : List Int) (w : World) (h : Hid (DiskIn w Ak Aw n m kept ws)) (hn : n ≤ 40) (hm : m ≤ 40)
    (hk : Hid (KeepIn w K kn keep)) (hR : RightD Z kept ws) (ha : a < n) :
    Calls Try.prog 3 #[.agg #[.int .i64 Z, .slice Ak n ck, .slice Aw m cw, .bool off], .slice K kn kc, .int .i64 a] w fun e w' => e = .returned (.bool true) ∧ Below w.heap.size w w' := by
  have hb := one_below w (.cells #[.int .i64 Z, .slice Ak n ck, .slice Aw m cw, .bool off] 25)
  have hbx := BoxD.new w Z (.slice Ak n ck) (.slice Aw m cw) off
  have hd := h.out.below hb
  have hk1 := hk.out.below hb
  have HRR := Lib.hid hR
  have d1 : decide ((a : Int) < 0) = false := by simp
  have d2 : decide ((a : Int) ≥ (n : Int)) = false := by simp; omega
  clear hR hk
  go_enter Try.func3, Try.ntmps3
  go_wp2_with (go_at_call 10; refine (shown_calls _).mono ?_)
  rintro e w1 ⟨rfl, hb1⟩
  have hbx1 := hbx.below hb1
  have HBX := Lib.hid hbx1
  obtain ⟨c0, c1, c2, c3, _⟩ := hbx1
  have HB := Lib.hid (hb.trans (hb1.mono hb.size))
  have HD := Lib.hid (hd.below hb1)
  have HK := Lib.hid (hk1.below hb1)
  clear hb hbx hb1 hd h hk1
  go_wp2_with (go_at_call 11; refine (few_calls Z Ak Aw n ck m cw off kept ws w1 HD hn hm).mono ?_)
  rintro e w2 ⟨v, rfl, hv, hb2⟩
  have hv1 : v = true := hv.2 HRR.out
  subst hv1
  have hbx2 := HBX.out.below hb2
  have HBX2 := Lib.hid hbx2
  obtain ⟨c0, c1, c2, c3, _⟩ := hbx2
  have HB2 := Lib.hid (HB.out.trans (hb2.mono HB.out.size))
  have HD2 := Lib.hid (HD.out.below hb2)
  have HK2 := Lib.hid (HK.out.below hb2)
  have HF : Hid (Fits n ws) := Lib.hid (by rw [HD2.out.n_eq]; exact HRR.out.fits)
  clear hb2 HBX HB HD hv HK
  go_wp2_with (go_at_call 12; refine (crash_calls Z Ak Aw n ck m cw off kept ws K kn kc keep w2 HD2 HF HK2 (Lib.hid HRR.out.short)).mono ?_)
  rintro e w3 ⟨A, c, rfl, hnc, hrow, _, hb3⟩
  have hal := one_below w3 (.cells #[.int .i64 Z, .slice A n c, .slice none 0 0, .bool false] 25)
  have hbw3 := HB2.out.trans (hb3.mono HB2.out.size)
  have HB3 := Lib.hid (hbw3.trans (hal.mono hbw3.size))
  have HD3 := Lib.hid ((HD2.out.below hb3).below hal)
  have hbx3 := (HBX2.out.below hb3).below hal
  have hr3 := hrow.below hal
  have k9 := BoxD.new w3 Z (.slice A n c) (.slice none 0 0) false
  obtain ⟨b1, o1, rfl, hx⟩ := HD3.out.row a (by have := HD3.out.n_eq; omega)
  obtain ⟨b2, o2, rfl, hy⟩ := hr3 a (by unfold crashed; rw [doneL_len]; have := HD3.out.n_eq; omega)
  have HLAW := Lib.hid (fun j hj => crashed_byte keep kept ws a j HRR.out.fits (by omega) (by have := HD3.out.n_eq; omega) hj)
  rw [Int.toNat_natCast] at HLAW
  have hs1 : (kept.getD a ByteArray.empty).size = Z := by have := HRR.out.rows a (by have := HD3.out.n_eq; omega); omega
  have hs2 : ((crashed keep kept ws).getD a ByteArray.empty).size = Z := by unfold crashed; rw [doneL_size]; exact hs1
  have HZ1 := Lib.hid HRR.out.z1
  have HZ2 := Lib.hid HRR.out.z2
  generalize kept.getD a ByteArray.empty = X at *
  generalize (crashed keep kept ws).getD a ByteArray.empty = Y at *
  have HS1 := Lib.hid hs1
  go_wp2_with fail
  generalize (w3.alloc (.cells #[.int .i64 Z, .slice (some ⟨b2, o2, none⟩) n c, .slice none 0 0, .bool false] 25)) = W3 at *
  generalize w3.heap.size = b9 at *
  obtain ⟨c0, c1, c2, c3, _⟩ := hbx3
  obtain ⟨q0, q1, q2, q3, _⟩ := k9
  have d3 : ((n : Int) != (n : Int)) = false := by simp
  have d4 : ((Y.size : Int) != (Z : Int)) = false := by simp [hs2]
  have HX := Lib.hid hx
  clear hal hbw3 HB2 HD2 HK2 HF hb3 hrow hr3 HBX2
  go_quiet (fail)
  go_wp2
  have hZ : Z ≤ 1024 := by have := HZ2.out; omega
  go_loopw [10, 11, 12] (fun i _ _ wr => ∃ j q : Nat, j ≤ Z ∧ i = .int .i64 j ∧ wr = W3.drewN q) (fun i _ _ _ => Z - (intOf i).toNat)
  case atStart => exact ⟨0, _, by omega, rfl, rfl⟩
  case round =>
    obtain ⟨j, q, hj, rfl, rfl⟩ := hrel
    by_cases hlt : j < Z
    · have e1 : decide ((j : Int) < (Z : Int)) = true := by simp; omega
      obtain ⟨kb, cb, g1, g2, glaw⟩ := HLAW.out j (by have := HS1.out; omega)
      have GL := Lib.hid glaw
      have x1 := at_get g1
      have y1 := at_get g2
      have hlx : j < X.size := by omega
      have hly : j < Y.size := by omega
      obtain ⟨b0, hb0⟩ : ∃ b0 : Bool, ((cb.toNat : Int) == (kb.toNat : Int)) = b0 := ⟨_, rfl⟩
      have HB0 := Lib.hid hb0
      have HLT := Lib.hid hlt
      clear g1 g2 glaw
      go_wp2_with fail
      go_quiet (fail)
      go_wp2
      have HST : Hid (b0 = true ∨ ∃ k, 0 ≤ k ∧ k < m ∧ (ws.getD k noWr).at_ = (a : Int) ∧ j < (ws.getD k noWr).s.size ∧ (ws.getD k noWr).s.data[j]? = some cb) := by
        rcases GL.out with e | ⟨k, h1, h2⟩
        · left
          rw [← HB0.out, e]
          simp
        · exact .inr ⟨k, Nat.zero_le _, by rw [HD3.out.m_eq]; exact h1, h2⟩
      clear GL
      go_loopw [11, 12] (fun ok i wr => ∃ (b : Bool) (k q : Nat), k ≤ m ∧ ok = .bool b ∧ i = .int .i64 k ∧ Hid (b = true ∨ ∃ l, k ≤ l ∧ l < m ∧ (ws.getD l noWr).at_ = (a : Int) ∧ j < (ws.getD l noWr).s.size ∧ (ws.getD l noWr).s.data[j]? = some cb) ∧ wr = W3.drewN q) (fun _ i _ => m - (intOf i).toNat)
      case atStart => exact ⟨b0, 0, q + nq, by omega, rfl, rfl, HST, World.drewN_drewN _ _ _⟩
      case round =>
        obtain ⟨b, k, q2, hkm, rfl, rfl, hst, rfl⟩ := hrel
        by_cases hlt2 : k < m
        · have e2 : decide ((k : Int) < (m : Int)) = true := by simp; omega
          obtain ⟨wb, wo, rfl, hw1, hw2⟩ := HD3.out.wrow k (by have := HD3.out.m_eq; omega)
          have HN : Hid (b = true ∨ ((ws.getD k noWr).at_ = (a : Int) ∧ j < (ws.getD k noWr).s.size ∧ (ws.getD k noWr).s.data[j]? = some cb) ∨ ∃ l, k + 1 ≤ l ∧ l < m ∧ (ws.getD l noWr).at_ = (a : Int) ∧ j < (ws.getD l noWr).s.size ∧ (ws.getD l noWr).s.data[j]? = some cb) := by
            rcases hst.out with h1 | ⟨l, h1, h2, h3⟩
            · exact .inl h1
            · by_cases hl : l = k
              · subst hl; exact .inr (.inl h3)
              · exact .inr (.inr ⟨l, by omega, h2, h3⟩)
          generalize ws.getD k noWr = x at hw1 hw2 HN
          obtain ⟨xa, xs⟩ := x
          simp only at hw1 hw2
          clear hst
          cases b with
          | true =>
            go_wp2_with fail
            go_quiet (fail)
            go_wp2
            go_roundw
            case rel => exact ⟨true, k + 1, _, by omega, rfl, by go_num, Lib.hid (.inl rfl), rfl⟩
            case measure => simp [intOf]; omega
          | false =>
            by_cases t1 : xa = (a : Int)
            · subst t1
              have e3 : ((a : Int) == (a : Int)) = true := by simp
              by_cases t2 : j < xs.size
              · have e4 : decide ((j : Int) < (xs.size : Int)) = true := by simp; omega
                obtain ⟨xb, hxb⟩ : ∃ xb, xs.data[j]? = some xb := ⟨_, Array.getElem?_eq_getElem t2⟩
                have x2 := at_get hxb
                have HXB := Lib.hid hxb
                clear hxb
                by_cases t3 : xb = cb
                · subst t3
                  clear x1 hlx
                  go_wp2_with fail
                  go_quiet (fail)
                  go_wp2
                  go_roundw
                  case rel => exact ⟨true, k + 1, _, by omega, rfl, by go_num, Lib.hid (.inl rfl), rfl⟩
                  case measure => simp [intOf]; omega
                · have e5 : ((xb.toNat : Int) == (cb.toNat : Int)) = false := by
                    apply Bool.eq_false_iff.2
                    intro h
                    apply t3
                    have h2 : (xb.toNat : Int) = (cb.toNat : Int) := by simpa using h
                    exact UInt8.toNat_inj.1 (by omega)
                  clear x1 hlx
                  go_wp2_with fail
                  go_quiet (fail)
                  go_wp2
                  go_roundw
                  case rel => exact ⟨false, k + 1, _, by omega, rfl, by go_num, Lib.hid (by
                    rcases HN.out with h | ⟨_, _, h⟩ | h
                    · cases h
                    · exact absurd (Option.some.inj (HXB.out.symm.trans h)) t3
                    · exact .inr h), rfl⟩
                  case measure => simp [intOf]; omega
              · have e4 : decide ((j : Int) < (xs.size : Int)) = false := by simp; omega
                go_wp2_with fail
                go_quiet (fail)
                go_wp2
                go_roundw
                case rel => exact ⟨false, k + 1, _, by omega, rfl, by go_num, Lib.hid (by
                  rcases HN.out with h | ⟨_, h, _⟩ | h
                  · cases h
                  · exact absurd h t2
                  · exact .inr h), rfl⟩
                case measure => simp [intOf]; omega
            · have e3 : (xa == (a : Int)) = false := by simpa using t1
              go_wp2_with fail
              go_quiet (fail)
              go_wp2
              go_roundw
              case rel => exact ⟨false, k + 1, _, by omega, rfl, by go_num, Lib.hid (by
                rcases HN.out with h | ⟨h, _⟩ | h
                · cases h
                · exact absurd h t1
                · exact .inr h), rfl⟩
              case measure => simp [intOf]; omega
        · have hkm2 : k = m := by omega
          subst hkm2
          have e2 : decide ((k : Int) < (k : Int)) = false := by simp
          have hbt : b = true := by
            rcases hst.out with h | ⟨l, h1, h2, _⟩
            · exact h
            · omega
          subst hbt
          go_wp2
          go_roundw
          case rel => exact ⟨j + 1, _, by have := HLT.out; omega, by go_num, rfl⟩
          case measure => have := HLT.out; simp [intOf]; omega
    · have : j = Z := by omega
      subst this
      have e1 : decide ((j : Int) < (j : Int)) = false := by simp
      go_wp2
      exact bodyPost_ret (v := .bool true) (by simp [results, Try.results3, go_sem]) rfl ⟨rfl, ⟨HB3.out.os, HB3.out.tape, HB3.out.output, HB3.out.size, HB3.out.block⟩⟩
end Go.Proofs.Ytdilfdjhablnpaa
