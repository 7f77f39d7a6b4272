/- The walk of disk.Right. -/
import Derived.Test.YtdilfdjhablnpaaKeepAll
import Derived.Lib.Strings
import Derived.BigQuiet
namespace Go.Proofs.Ytdilfdjhablnpaa
open Go.RowKit Go.Shelf

/-- A write that is right. -/
def GoodW (z : Int) (n : Nat) (x : Wr) : Prop := 0 ≤ x.at_ ∧ x.at_ < n ∧ 1 ≤ x.s.size ∧ (x.s.size : Int) ≤ z

set_option maxHeartbeats 1000000 in
theorem bad36_calls (b : Nat) (z : Int) (Ak : Option Addr) (n ck : Nat) (at_ : Int) (s : ByteArray) (w : World) (h0 : w.cell? ⟨b, 0, none⟩ = some (.int .i64 z)) (h1 : w.cell? ⟨b, 1, none⟩ = some (.slice Ak n ck)) :
    Calls Try.prog 36 #[.agg #[.int .i64 at_, .string s], .pointer (some ⟨b, 0, none⟩)] w fun e w' => ∃ v, e = .returned (.bool v) ∧ (v = false ↔ GoodW z n ⟨at_, s⟩) ∧ Below w.heap.size w w' := by
  have hb := one_below w (.cells #[.int .i64 at_, .string s] 31)
  have y0 := cell_below hb h0
  have y1 := cell_below hb h1
  by_cases c1 : at_ < 0
  · have d1 : decide (at_ < 0) = true := by simpa using c1
    have hf := Lib.hid (show ¬ GoodW z n ⟨at_, s⟩ from fun h => absurd h.1 (by show ¬ 0 ≤ at_; omega))
    go_enter Try.func36, Try.ntmps36
    go_wp2
    exact bodyPost_ret (v := .bool true) (by simp [results, Try.results36, go_sem]) rfl ⟨true, rfl, ⟨fun h => (by cases h), fun h => absurd h hf.out⟩, hb⟩
  have d1 : decide (at_ < 0) = false := by simpa using c1
  by_cases c2 : (n : Int) ≤ at_
  · have d2 : decide (at_ ≥ (n : Int)) = true := by simpa using c2
    have hf := Lib.hid (show ¬ GoodW z n ⟨at_, s⟩ from fun h => absurd h.2.1 (by show ¬ at_ < n; omega))
    go_enter Try.func36, Try.ntmps36
    go_wp2
    exact bodyPost_ret (v := .bool true) (by simp [results, Try.results36, go_sem]) rfl (.inr ⟨rfl, hf.out, hb⟩)
  have d2 : decide (at_ ≥ (n : Int)) = false := by simpa using c2
  by_cases c3 : s.size = 0
  · have d3 : s.toList.isEmpty = true := by
      rw [Lib.toList_data, List.isEmpty_iff, List.eq_nil_iff_length_eq_zero, Array.length_toList]
      exact c3
    have hf := Lib.hid (show ¬ GoodW z n ⟨at_, s⟩ from fun h => absurd h.2.2.1 (by show ¬ 1 ≤ s.size; omega))
    go_enter Try.func36, Try.ntmps36
    go_wp2
    exact bodyPost_ret (v := .bool true) (by simp [results, Try.results36, go_sem]) rfl (.inr ⟨rfl, hf.out, hb⟩)
  have d3 : s.toList.isEmpty = false := by
    rw [Lib.toList_data]
    cases hl : s.data.toList with
    | nil =>
      have h4 : s.data.size = 0 := by rw [← Array.length_toList, hl]; rfl
      exact absurd h4 c3
    | cons => rfl
  by_cases c4 : z < (s.size : Int)
  · have d4 : decide ((s.size : Int) > z) = true := by simpa using c4
    have hf := Lib.hid (show ¬ GoodW z n ⟨at_, s⟩ from fun h => absurd h.2.2.2 (by show ¬ (s.size : Int) ≤ z; omega))
    go_enter Try.func36, Try.ntmps36
    go_wp2
    exact bodyPost_ret (v := .bool true) (by simp [results, Try.results36, go_sem]) rfl (.inr ⟨rfl, hf.out, hb⟩)
  have d4 : decide ((s.size : Int) > z) = false := by simpa using c4
  have hf := Lib.hid (show GoodW z n ⟨at_, s⟩ from ⟨by show 0 ≤ at_; omega, by show at_ < n; omega, by show 1 ≤ s.size; omega, by show (s.size : Int) ≤ z; omega⟩)
  go_enter Try.func36, Try.ntmps36
  go_wp2
  exact bodyPost_ret (v := .bool false) (by simp [results, Try.results36, go_sem]) rfl (.inl ⟨rfl, hf.out, hb⟩)

set_option maxHeartbeats 1000000 in
theorem bad37_calls (b : Nat) (z : Int) (s : ByteArray) (w : World) (h0 : w.cell? ⟨b, 0, none⟩ = some (.int .i64 z)) :
    Calls Try.prog 37 #[.string s, .pointer (some ⟨b, 0, none⟩)] w fun e w' => ∃ v, e = .returned (.bool v) ∧ (v = false ↔ (s.size : Int) = z) ∧ Below w.heap.size w w' := by
  by_cases c1 : (s.size : Int) = z
  · have d1 : ((s.size : Int) != z) = false := by simpa using c1
    have hf := Lib.hid c1
    clear c1
    go_enter Try.func37, Try.ntmps37
    go_wp2
    exact bodyPost_ret (v := .bool false) (by simp [results, Try.results37, go_sem]) rfl ⟨false, rfl, ⟨fun _ => hf.out, fun _ => rfl⟩, Below.refl _ _⟩
  · have d1 : ((s.size : Int) != z) = true := by simpa using c1
    have hf := Lib.hid (show ¬ ((s.size : Int) = z) from fun h => absurd h c1)
    clear c1
    go_enter Try.func37, Try.ntmps37
    go_wp2
    exact bodyPost_ret (v := .bool true) (by simp [results, Try.results37, go_sem]) rfl ⟨true, rfl, ⟨fun h => (by cases h), fun h => absurd h hf.out⟩, Below.refl _ _⟩

set_option maxHeartbeats 2000000 in
theorem index44_calls (b : Nat) (z : Int) (Ak : Option Addr) (n ck : Nat) (Aw : Option Addr) (m cw : Nat) (ws : List Wr) (w : World) (h0 : w.cell? ⟨b, 0, none⟩ = some (.int .i64 z)) (h1 : w.cell? ⟨b, 1, none⟩ = some (.slice Ak n ck)) (hm : m = ws.length) (hmx : m ≤ 100000) (hw : WrRow w Aw ws) :
    Calls Try.prog 44 #[.slice Aw m cw, .func (.func 36) #[] #[.pointer (some ⟨b, 0, none⟩)]] w fun e w' => ∃ r : Int, e = .returned (.int .i64 r) ∧ (r < 0 ↔ ∀ k, k < m → GoodW z n (ws.getD k noWr)) ∧ Below w.heap.size w w' := by
  have H0 := Lib.hid h0
  have H1 := Lib.hid h1
  have HW := Lib.hid hw
  have HM := Lib.hid hm
  clear h0 h1 hw hm
  go_enter Try.func44, Try.ntmps44
  go_wp2_with fail
  go_loopw [5, 8] (fun _ i wr => ∃ k : Nat, k ≤ m ∧ i = .int .i64 k ∧ Hid (∀ j, j < k → GoodW z n (ws.getD j noWr)) ∧ Hid (Below w.heap.size w wr)) (fun _ i _ => m - (intOf i).toNat)
  case atStart => exact ⟨0, by omega, rfl, Lib.hid fun j hj => absurd hj (Nat.not_lt_zero j), Lib.hid (Below.refl _ _)⟩
  case round =>
    obtain ⟨k, hkm, rfl, hall, hbl⟩ := hrel
    by_cases hlt : k < m
    · have e1 : decide ((k : Int) < (m : Int)) = true := by simp; omega
      have HLT := Lib.hid hlt
      obtain ⟨wb, wo, rfl, hw1, hw2⟩ := (HW.out.below hbl.out) k (by have := HM.out; omega)
      have hx : ∃ x, x = ws.getD k noWr := ⟨_, rfl⟩
      obtain ⟨x, hx⟩ := hx
      have HX := Lib.hid hx
      rw [← hx] at hw1 hw2
      clear hx
      obtain ⟨xa, xs⟩ := x
      simp only at hw1 hw2
      go_wp2_with (go_at_call 36; refine (bad36_calls b z Ak n ck xa xs wr (cell_below hbl.out H0.out) (cell_below hbl.out H1.out)).mono ?_)
      rintro e w2 ⟨v, rfl, hv, hb2⟩
      have HV := Lib.hid hv
      have HB2 := Lib.hid (hbl.out.trans (hb2.mono hbl.out.size))
      clear hv hb2 hw1 hw2
      cases v with
      | true =>
        have hno := Lib.hid (show ((k : Int) < 0 ↔ ∀ j, j < m → GoodW z n (ws.getD j noWr)) from ⟨fun h => by omega, fun h => by
          have h1 := h k HLT.out
          rw [← HX.out] at h1
          have h2 := HV.out.2 h1
          simp at h2⟩)
        go_wp2
        exact bodyPost_ret (v := .int .i64 k) (by simp [results, Try.results44, go_sem]) rfl ⟨k, rfl, hno.out, HB2.out⟩
      | false =>
        go_wp2
        go_roundw
        case rel => exact ⟨k + 1, by have := HLT.out; omega, by go_num, Lib.hid fun j hj => by
          by_cases e : j = k
          · subst e
            rw [← HX.out]
            exact HV.out.1 (by trivial)
          · exact hall.out j (by omega), HB2⟩
        case measure => have := HLT.out; simp [intOf]; omega
    · have hkm2 : m = k := by omega
      subst hkm2
      have e1 : decide ((m : Int) < (m : Int)) = false := by simp
      have hyes := Lib.hid (show ((-1 : Int) < 0 ↔ ∀ j, j < m → GoodW z n (ws.getD j noWr)) from ⟨fun _ => hall.out, fun _ => by omega⟩)
      go_wp2
      exact bodyPost_ret (v := .int .i64 (-1)) (by simp [results, Try.results44, go_sem]) rfl ⟨-1, rfl, hyes.out, hbl.out⟩
set_option maxHeartbeats 2000000 in
theorem index45_calls (b : Nat) (z : Int) (Aw : Option Addr) (m cw : Nat) (ws : List ByteArray) (w : World) (h0 : w.cell? ⟨b, 0, none⟩ = some (.int .i64 z)) (hm : m = ws.length) (hmx : m ≤ 100000) (hw : StrRow w Aw ws) :
    Calls Try.prog 45 #[.slice Aw m cw, .func (.func 37) #[] #[.pointer (some ⟨b, 0, none⟩)]] w fun e w' => ∃ r : Int, e = .returned (.int .i64 r) ∧ (r < 0 ↔ ∀ k, k < m → ((ws.getD k ByteArray.empty).size : Int) = z) ∧ Below w.heap.size w w' := by
  have H0 := Lib.hid h0
  have HW := Lib.hid hw
  have HM := Lib.hid hm
  clear h0 hw hm
  go_enter Try.func45, Try.ntmps45
  go_wp2_with fail
  go_loopw [5, 8] (fun _ i wr => ∃ k : Nat, k ≤ m ∧ i = .int .i64 k ∧ Hid (∀ j, j < k → ((ws.getD j ByteArray.empty).size : Int) = z) ∧ Hid (Below w.heap.size w wr)) (fun _ i _ => m - (intOf i).toNat)
  case atStart => exact ⟨0, by omega, rfl, Lib.hid fun j hj => absurd hj (Nat.not_lt_zero j), Lib.hid (Below.refl _ _)⟩
  case round =>
    obtain ⟨k, hkm, rfl, hall, hbl⟩ := hrel
    by_cases hlt : k < m
    · have e1 : decide ((k : Int) < (m : Int)) = true := by simp; omega
      have HLT := Lib.hid hlt
      obtain ⟨wb, wo, rfl, hw1⟩ := (HW.out.below hbl.out) k (by have := HM.out; omega)
      have hx : ∃ x, x = ws.getD k ByteArray.empty := ⟨_, rfl⟩
      obtain ⟨x, hx⟩ := hx
      have HX := Lib.hid hx
      rw [← hx] at hw1
      clear hx
      go_wp2_with (go_at_call 37; refine (bad37_calls b z x wr (cell_below hbl.out H0.out)).mono ?_)
      rintro e w2 ⟨v, rfl, hv, hb2⟩
      have HV := Lib.hid hv
      have HB2 := Lib.hid (hbl.out.trans (hb2.mono hbl.out.size))
      clear hv hb2 hw1
      cases v with
      | true =>
        have hno := Lib.hid (show ((k : Int) < 0 ↔ ∀ j, j < m → ((ws.getD j ByteArray.empty).size : Int) = z) from ⟨fun h => by omega, fun h => by
          have h1 := h k HLT.out
          rw [← HX.out] at h1
          have h2 := HV.out.2 h1
          simp at h2⟩)
        go_wp2
        exact bodyPost_ret (v := .int .i64 k) (by simp [results, Try.results45, go_sem]) rfl ⟨k, rfl, hno.out, HB2.out⟩
      | false =>
        go_wp2
        go_roundw
        case rel => exact ⟨k + 1, by have := HLT.out; omega, by go_num, Lib.hid fun j hj => by
          by_cases e : j = k
          · subst e
            rw [← HX.out]
            exact HV.out.1 (by trivial)
          · exact hall.out j (by omega), HB2⟩
        case measure => have := HLT.out; simp [intOf]; omega
    · have hkm2 : m = k := by omega
      subst hkm2
      have e1 : decide ((m : Int) < (m : Int)) = false := by simp
      have hyes := Lib.hid (show ((-1 : Int) < 0 ↔ ∀ j, j < m → ((ws.getD j ByteArray.empty).size : Int) = z) from ⟨fun _ => hall.out, fun _ => by omega⟩)
      go_wp2
      exact bodyPost_ret (v := .int .i64 (-1)) (by simp [results, Try.results45, go_sem]) rfl ⟨-1, rfl, hyes.out, hbl.out⟩

set_option maxHeartbeats 1000000 in
theorem contains38_calls (b : Nat) (z : Int) (Ak : Option Addr) (n ck : Nat) (Aw : Option Addr) (m cw : Nat) (ws : List Wr) (w : World) (h0 : w.cell? ⟨b, 0, none⟩ = some (.int .i64 z)) (h1 : w.cell? ⟨b, 1, none⟩ = some (.slice Ak n ck)) (hm : m = ws.length) (hmx : m ≤ 100000) (hw : WrRow w Aw ws) :
    Calls Try.prog 38 #[.slice Aw m cw, .func (.func 36) #[] #[.pointer (some ⟨b, 0, none⟩)]] w fun e w' => ∃ v, e = .returned (.bool v) ∧ Hid (v = false ↔ ∀ k, k < m → GoodW z n (ws.getD k noWr)) ∧ Below w.heap.size w w' := by
  have HI := Lib.hid (index44_calls b z Ak n ck Aw m cw ws w h0 h1 hm hmx hw)
  clear h0 h1 hm hmx hw
  go_enter Try.func38, Try.ntmps38
  go_wp2_with (go_at_call 44; refine HI.out.mono ?_)
  rintro e w1 ⟨r, rfl, hr, hb⟩
  have HR := Lib.hid hr
  clear hr
  by_cases h : r < 0
  · have d : decide (r ≥ 0) = false := by simpa using h
    have hf : Hid (∀ k, k < m → GoodW z n (ws.getD k noWr)) := Lib.hid (HR.out.1 h)
    go_wp2
    exact bodyPost_ret (v := .bool false) (by simp [results, Try.results38, go_sem]) rfl ⟨false, rfl, Lib.hid ⟨fun _ => hf.out, fun _ => rfl⟩, hb⟩
  · have d : decide (r ≥ 0) = true := by simpa using h
    have hf : Hid (true = false ↔ ∀ k, k < m → GoodW z n (ws.getD k noWr)) := Lib.hid ⟨fun h => (by cases h), fun q => absurd (HR.out.2 q) h⟩
    go_wp2
    exact bodyPost_ret (v := .bool true) (by simp [results, Try.results38, go_sem]) rfl ⟨true, rfl, hf, hb⟩

set_option maxHeartbeats 1000000 in
theorem contains39_calls (b : Nat) (z : Int) (Aw : Option Addr) (m cw : Nat) (ws : List ByteArray) (w : World) (h0 : w.cell? ⟨b, 0, none⟩ = some (.int .i64 z)) (hm : m = ws.length) (hmx : m ≤ 100000) (hw : StrRow w Aw ws) :
    Calls Try.prog 39 #[.slice Aw m cw, .func (.func 37) #[] #[.pointer (some ⟨b, 0, none⟩)]] w fun e w' => ∃ v, e = .returned (.bool v) ∧ Hid (v = false ↔ ∀ k, k < m → ((ws.getD k ByteArray.empty).size : Int) = z) ∧ Below w.heap.size w w' := by
  have HI := Lib.hid (index45_calls b z Aw m cw ws w h0 hm hmx hw)
  clear h0 hm hmx hw
  go_enter Try.func39, Try.ntmps39
  go_wp2_with (go_at_call 45; refine HI.out.mono ?_)
  rintro e w1 ⟨r, rfl, hr, hb⟩
  have HR := Lib.hid hr
  clear hr
  by_cases h : r < 0
  · have d : decide (r ≥ 0) = false := by simpa using h
    have hf : Hid (∀ k, k < m → ((ws.getD k ByteArray.empty).size : Int) = z) := Lib.hid (HR.out.1 h)
    go_wp2
    exact bodyPost_ret (v := .bool false) (by simp [results, Try.results39, go_sem]) rfl ⟨false, rfl, Lib.hid ⟨fun _ => hf.out, fun _ => rfl⟩, hb⟩
  · have d : decide (r ≥ 0) = true := by simpa using h
    have hf : Hid (true = false ↔ ∀ k, k < m → ((ws.getD k ByteArray.empty).size : Int) = z) := Lib.hid ⟨fun h => (by cases h), fun q => absurd (HR.out.2 q) h⟩
    go_wp2
    exact bodyPost_ret (v := .bool true) (by simp [results, Try.results39, go_sem]) rfl ⟨true, rfl, hf, hb⟩

set_option maxHeartbeats 4000000 in
theorem dright_bad (z : Int) (Ak Aw : Option Addr) (n ck m cw : Nat) (off : Bool) (w : World) (h : z < 96 ∨ 1024 < z ∨ n < 1 ∨ 4096 < n) :
    Calls Try.prog 23 #[.agg #[.int .i64 z, .slice Ak n ck, .slice Aw m cw, .bool off]] w fun e w' => e = .returned (.bool false) ∧ Below w.heap.size w w' := by
  have hmf : ∀ (fn : Fn) (first cap : Array Value) (w : World), (Instr.makeFunc fn first cap).run Try.prog w = .ok (.func fn first cap) w := fun _ _ _ _ => rfl
  have hdec : (decide (z ≥ 96) && decide (z ≤ 1024) && decide ((n : Int) ≥ 1) && decide ((n : Int) ≤ 4096)) = false := by
    rw [Bool.eq_false_iff]
    intro q
    simp only [Bool.and_eq_true, decide_eq_true_eq] at q
    omega
  have hb := one_below w (.cells #[.int .i64 z, .slice Ak n ck, .slice Aw m cw, .bool off] 25)
  obtain ⟨c0, c1, c2, c3, _⟩ := BoxD.new w z (.slice Ak n ck) (.slice Aw m cw) off
  generalize h1 : decide (z ≥ 96) = D1 at *
  generalize h2 : decide (z ≤ 1024) = D2 at *
  generalize h3 : decide ((n : Int) ≥ 1) = D3 at *
  generalize h4 : decide ((n : Int) ≤ 4096) = D4 at *
  cases D1 <;> cases D2 <;> cases D3 <;> cases D4 <;> first
    | (simp at hdec; done)
    | (clear hdec h
       go_enter Try.func23, Try.ntmps23
       go_wp2
       exact bodyPost_ret (v := .bool false) (by simp [results, Try.results23, go_sem]) rfl ⟨rfl, hb⟩)

set_option maxHeartbeats 2000000 in
theorem dright_calls (z : Int) (Ak Aw : Option Addr) (n ck m cw : Nat) (off : Bool) (kept : List ByteArray) (ws : List Wr) (w : World) (h : Hid (DiskIn w Ak Aw n m kept ws))
    (z1 : 96 ≤ z) (z2 : z ≤ 1024) (n1 : 1 ≤ n) (n2 : n ≤ 4096) :
    Calls Try.prog 23 #[.agg #[.int .i64 z, .slice Ak n ck, .slice Aw m cw, .bool off]] w fun e w' => ∃ v, e = .returned (.bool v) ∧ Hid (v = true ↔ RightD z kept ws) ∧ Below w.heap.size w w' := by
  have hmf : ∀ (fn : Fn) (first cap : Array Value) (w : World), (Instr.makeFunc fn first cap).run Try.prog w = .ok (.func fn first cap) w := fun _ _ _ _ => rfl
  have d1 : decide (z ≥ 96) = true := by simpa using z1
  have d2 : decide (z ≤ 1024) = true := by simpa using z2
  have d3 : decide ((n : Int) ≥ 1) = true := by simp; omega
  have d4 : decide ((n : Int) ≤ 4096) = true := by simp; omega
  have hb := one_below w (.cells #[.int .i64 z, .slice Ak n ck, .slice Aw m cw, .bool off] 25)
  have HD := Lib.hid (h.out.below hb)
  have HB := Lib.hid hb
  have hbx := BoxD.new w z (.slice Ak n ck) (.slice Aw m cw) off
  have HBX := Lib.hid hbx
  obtain ⟨c0, c1, c2, c3, _⟩ := hbx
  have HZ : Hid (96 ≤ z ∧ z ≤ 1024 ∧ 1 ≤ n ∧ n ≤ 4096) := Lib.hid ⟨z1, z2, n1, n2⟩
  clear hb h z1 z2 n1 n2
  go_enter Try.func23, Try.ntmps23
  go_wp2_with (go_at_call 38; refine (contains38_calls w.heap.size z Ak n ck Aw m cw ws _ c0 c1 HD.out.m_eq HD.out.m_le HD.out.wrow).mono ?_)
  rintro e w1 ⟨v, rfl, hv, hb1⟩
  have HB1 := Lib.hid (HB.out.trans (hb1.mono HB.out.size))
  have HD1 := Lib.hid (HD.out.below hb1)
  obtain ⟨c0, c1, c2, c3, _⟩ := HBX.out.below hb1
  clear hb1 HB HBX HD
  cases v with
  | true =>
    have hf := Lib.hid (show ¬ RightD z kept ws from fun q => by
      have := hv.out.2 fun k hk => by
        have := q.wrs k (by have := HD1.out.m_eq; omega)
        exact ⟨this.1, by have h2 := HD1.out.n_eq; have := this.2.1; omega, this.2.2.1, this.2.2.2⟩
      cases this)
    clear hv
    go_wp2
    exact bodyPost_ret (v := .bool false) (by simp [results, Try.results23, go_sem]) rfl ⟨false, rfl, Lib.hid ⟨fun q => (by cases q), fun q => absurd q hf.out⟩, HB1.out⟩
  | false =>
    have hall := Lib.hid (hv.out.1 rfl)
    clear hv
    go_wp2_with (go_at_call 39; refine (contains39_calls w.heap.size z Ak n ck kept _ c0 HD1.out.n_eq HD1.out.n_le HD1.out.row).mono ?_)
    rintro e w2 ⟨v, rfl, hv, hb2⟩
    have HB2 := Lib.hid (HB1.out.trans (hb2.mono HB1.out.size))
    have HN := Lib.hid HD1.out.n_eq
    have HM := Lib.hid HD1.out.m_eq
    clear hb2 HB1 HD1
    cases v with
    | true =>
      have hf := Lib.hid (show ¬ RightD z kept ws from fun q => by
        have := hv.out.2 fun k hk => q.rows k (by have := HN.out; omega)
        cases this)
      clear hv
      go_wp2
      exact bodyPost_ret (v := .bool false) (by simp [results, Try.results23, go_sem]) rfl ⟨false, rfl, Lib.hid ⟨fun q => (by cases q), fun q => absurd q hf.out⟩, HB2.out⟩
    | false =>
      have hf := Lib.hid (show RightD z kept ws from ⟨HZ.out.1, HZ.out.2.1, by rw [← HN.out]; exact HZ.out.2.2.1, by rw [← HN.out]; exact HZ.out.2.2.2, fun j hj => hv.out.1 rfl j (by rw [HN.out]; exact hj), fun j hj => by
        have := hall.out j (by rw [HM.out]; exact hj)
        exact ⟨this.1, by rw [← HN.out]; exact this.2.1, this.2.2.1, this.2.2.2⟩⟩)
      clear hv
      go_wp2
      exact bodyPost_ret (v := .bool true) (by simp [results, Try.results23, go_sem]) rfl ⟨true, rfl, Lib.hid ⟨fun _ => hf.out, fun _ => rfl⟩, HB2.out⟩

/-- What disk.Right answers. -/
theorem dright_true (z : Int) (Ak Aw : Option Addr) (n ck m cw : Nat) (off : Bool) (kept : List ByteArray) (ws : List Wr) (w : World) (h : Hid (DiskIn w Ak Aw n m kept ws)) (hR : Hid (RightD z kept ws)) :
    Calls Try.prog 23 #[.agg #[.int .i64 z, .slice Ak n ck, .slice Aw m cw, .bool off]] w fun e w' => e = .returned (.bool true) ∧ Below w.heap.size w w' := by
  have hn := h.out.n_eq
  have h1 := hR.out.n1
  have h2 := hR.out.n2
  refine (dright_calls z Ak Aw n ck m cw off kept ws w h hR.out.z1 hR.out.z2 (by omega) (by omega)).mono ?_
  rintro e w' ⟨v, rfl, hv, hb⟩
  have hv1 : v = true := hv.out.2 hR.out
  subst hv1
  exact ⟨rfl, hb⟩

theorem dright_false (z : Int) (Ak Aw : Option Addr) (n ck m cw : Nat) (off : Bool) (kept : List ByteArray) (ws : List Wr) (w : World) (h : Hid (DiskIn w Ak Aw n m kept ws)) (hR : ¬ RightD z kept ws) :
    Calls Try.prog 23 #[.agg #[.int .i64 z, .slice Ak n ck, .slice Aw m cw, .bool off]] w fun e w' => e = .returned (.bool false) ∧ Below w.heap.size w w' := by
  by_cases hz : z < 96 ∨ 1024 < z ∨ n < 1 ∨ 4096 < n
  · exact dright_bad z Ak Aw n ck m cw off w hz
  · refine (dright_calls z Ak Aw n ck m cw off kept ws w h (by omega) (by omega) (by omega) (by omega)).mono ?_
    rintro e w' ⟨v, rfl, hv, hb⟩
    cases v with
    | false => exact ⟨rfl, hb⟩
    | true => exact absurd (hv.out.1 rfl) hR
end Go.Proofs.Ytdilfdjhablnpaa
