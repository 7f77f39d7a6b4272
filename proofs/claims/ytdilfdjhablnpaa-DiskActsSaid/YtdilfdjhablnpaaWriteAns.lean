/- What tabularyref10.Write and disk.Write answer, whatever they are asked. -/
import Derived.Test.YtdilfdjhablnpaaRefWrite
namespace Go.Proofs.Ytdilfdjhablnpaa
open Go.RowKit Go.Shelf

set_option maxHeartbeats 1000000 in
theorem refWriteOff (z : Int) (Ak Aw : Option Addr) (n ck m cw : Nat) (at_ : Int) (s : ByteArray) (w : World) :
    Calls Try.prog 25 #[.agg #[.int .i64 z, .slice Ak n ck, .slice Aw m cw, .bool true], .int .i64 at_, .string s] w fun e w' =>
      e = .returned (.tuple #[.agg #[.int .i64 z, .slice Ak n ck, .slice Aw m cw, .bool true], .int .i64 14]) ∧ Below w.heap.size w w' := by
  obtain ⟨t0, t1, t2, t3, _⟩ := two w (.cells #[.int .i64 z, .slice Ak n ck, .slice Aw m cw, .bool true] 25) z (.slice Ak n ck) (.slice Aw m cw) true
  have hbb := two_below w (.cells #[.int .i64 z, .slice Ak n ck, .slice Aw m cw, .bool true] 25) (.cells #[.int .i64 z, .slice Ak n ck, .slice Aw m cw, .bool true] 25)
  go_enter Try.func25, Try.ntmps25
  go_wp2
  generalize ((w.alloc (Obj.cells #[Value.int IntKind.i64 z, Value.slice Ak n ck, Value.slice Aw m cw, Value.bool true] 25)).alloc (Obj.cells #[Value.int IntKind.i64 z, Value.slice Ak n ck, Value.slice Aw m cw, Value.bool true] 25)) = W at *
  exact bodyPost_ret (v := .tuple #[.agg #[.int .i64 z, .slice Ak n ck, .slice Aw m cw, .bool true], .int .i64 14]) (by simp [results, Try.results25, go_sem, t0, t1, t2, t3]) rfl ⟨rfl, hbb⟩

set_option maxHeartbeats 1000000 in
theorem refWriteLow (z : Int) (Ak Aw : Option Addr) (n ck m cw : Nat) (at_ : Int) (s : ByteArray) (w : World) (ha : at_ < 0) :
    Calls Try.prog 25 #[.agg #[.int .i64 z, .slice Ak n ck, .slice Aw m cw, .bool false], .int .i64 at_, .string s] w fun e w' =>
      e = .returned (.tuple #[.agg #[.int .i64 z, .slice Ak n ck, .slice Aw m cw, .bool false], .int .i64 5]) ∧ Below w.heap.size w w' := by
  have d1 : decide (at_ < 0) = true := by simpa using ha
  obtain ⟨t0, t1, t2, t3, _⟩ := two w (.cells #[.int .i64 z, .slice Ak n ck, .slice Aw m cw, .bool false] 25) z (.slice Ak n ck) (.slice Aw m cw) false
  have hbb := two_below w (.cells #[.int .i64 z, .slice Ak n ck, .slice Aw m cw, .bool false] 25) (.cells #[.int .i64 z, .slice Ak n ck, .slice Aw m cw, .bool false] 25)
  go_enter Try.func25, Try.ntmps25
  go_wp2
  generalize ((w.alloc (Obj.cells #[Value.int IntKind.i64 z, Value.slice Ak n ck, Value.slice Aw m cw, Value.bool false] 25)).alloc (Obj.cells #[Value.int IntKind.i64 z, Value.slice Ak n ck, Value.slice Aw m cw, Value.bool false] 25)) = W at *
  exact bodyPost_ret (v := .tuple #[.agg #[.int .i64 z, .slice Ak n ck, .slice Aw m cw, .bool false], .int .i64 5]) (by simp [results, Try.results25, go_sem, t0, t1, t2, t3]) rfl ⟨rfl, hbb⟩

set_option maxHeartbeats 1000000 in
theorem refWriteHigh (z : Int) (Ak Aw : Option Addr) (n ck m cw : Nat) (at_ : Int) (s : ByteArray) (w : World) (ha : 0 ≤ at_) (hb : (n : Int) ≤ at_) :
    Calls Try.prog 25 #[.agg #[.int .i64 z, .slice Ak n ck, .slice Aw m cw, .bool false], .int .i64 at_, .string s] w fun e w' =>
      e = .returned (.tuple #[.agg #[.int .i64 z, .slice Ak n ck, .slice Aw m cw, .bool false], .int .i64 5]) ∧ Below w.heap.size w w' := by
  have d1 : decide (at_ < 0) = false := by simp; omega
  have d2 : decide (at_ ≥ (n : Int)) = true := by simp; omega
  obtain ⟨t0, t1, t2, t3, _⟩ := two w (.cells #[.int .i64 z, .slice Ak n ck, .slice Aw m cw, .bool false] 25) z (.slice Ak n ck) (.slice Aw m cw) false
  have hbb := two_below w (.cells #[.int .i64 z, .slice Ak n ck, .slice Aw m cw, .bool false] 25) (.cells #[.int .i64 z, .slice Ak n ck, .slice Aw m cw, .bool false] 25)
  go_enter Try.func25, Try.ntmps25
  go_wp2
  generalize ((w.alloc (Obj.cells #[Value.int IntKind.i64 z, Value.slice Ak n ck, Value.slice Aw m cw, Value.bool false] 25)).alloc (Obj.cells #[Value.int IntKind.i64 z, Value.slice Ak n ck, Value.slice Aw m cw, Value.bool false] 25)) = W at *
  exact bodyPost_ret (v := .tuple #[.agg #[.int .i64 z, .slice Ak n ck, .slice Aw m cw, .bool false], .int .i64 5]) (by simp [results, Try.results25, go_sem, t0, t1, t2, t3]) rfl ⟨rfl, hbb⟩

set_option maxHeartbeats 1000000 in
theorem refWriteEmpty (z : Int) (Ak Aw : Option Addr) (n ck m cw : Nat) (at_ : Int) (s : ByteArray) (w : World) (ha : 0 ≤ at_) (hb : at_ < n) (hs : s.size = 0) :
    Calls Try.prog 25 #[.agg #[.int .i64 z, .slice Ak n ck, .slice Aw m cw, .bool false], .int .i64 at_, .string s] w fun e w' =>
      e = .returned (.tuple #[.agg #[.int .i64 z, .slice Ak n ck, .slice Aw m cw, .bool false], .int .i64 1]) ∧ Below w.heap.size w w' := by
  have d1 : decide (at_ < 0) = false := by simp; omega
  have d2 : decide (at_ ≥ (n : Int)) = false := by simp; omega
  have d3 : decide ((s.size : Int) < 1) = true := by simp; omega
  obtain ⟨t0, t1, t2, t3, _⟩ := two w (.cells #[.int .i64 z, .slice Ak n ck, .slice Aw m cw, .bool false] 25) z (.slice Ak n ck) (.slice Aw m cw) false
  have hbb := two_below w (.cells #[.int .i64 z, .slice Ak n ck, .slice Aw m cw, .bool false] 25) (.cells #[.int .i64 z, .slice Ak n ck, .slice Aw m cw, .bool false] 25)
  go_enter Try.func25, Try.ntmps25
  go_wp2
  generalize ((w.alloc (Obj.cells #[Value.int IntKind.i64 z, Value.slice Ak n ck, Value.slice Aw m cw, Value.bool false] 25)).alloc (Obj.cells #[Value.int IntKind.i64 z, Value.slice Ak n ck, Value.slice Aw m cw, Value.bool false] 25)) = W at *
  exact bodyPost_ret (v := .tuple #[.agg #[.int .i64 z, .slice Ak n ck, .slice Aw m cw, .bool false], .int .i64 1]) (by simp [results, Try.results25, go_sem, t0, t1, t2, t3]) rfl ⟨rfl, hbb⟩

set_option maxHeartbeats 1000000 in
theorem refWriteLong (z : Int) (Ak Aw : Option Addr) (n ck m cw : Nat) (at_ : Int) (s : ByteArray) (w : World) (ha : 0 ≤ at_) (hb : at_ < n) (hs : 1 ≤ s.size) (hz : z < (s.size : Int)) :
    Calls Try.prog 25 #[.agg #[.int .i64 z, .slice Ak n ck, .slice Aw m cw, .bool false], .int .i64 at_, .string s] w fun e w' =>
      e = .returned (.tuple #[.agg #[.int .i64 z, .slice Ak n ck, .slice Aw m cw, .bool false], .int .i64 1]) ∧ Below w.heap.size w w' := by
  have d1 : decide (at_ < 0) = false := by simp; omega
  have d2 : decide (at_ ≥ (n : Int)) = false := by simp; omega
  have d3 : decide ((s.size : Int) < 1) = false := by simp; omega
  have d4 : decide ((s.size : Int) > z) = true := by simp; omega
  obtain ⟨t0, t1, t2, t3, _⟩ := two w (.cells #[.int .i64 z, .slice Ak n ck, .slice Aw m cw, .bool false] 25) z (.slice Ak n ck) (.slice Aw m cw) false
  have hbb := two_below w (.cells #[.int .i64 z, .slice Ak n ck, .slice Aw m cw, .bool false] 25) (.cells #[.int .i64 z, .slice Ak n ck, .slice Aw m cw, .bool false] 25)
  go_enter Try.func25, Try.ntmps25
  go_wp2
  generalize ((w.alloc (Obj.cells #[Value.int IntKind.i64 z, Value.slice Ak n ck, Value.slice Aw m cw, Value.bool false] 25)).alloc (Obj.cells #[Value.int IntKind.i64 z, Value.slice Ak n ck, Value.slice Aw m cw, Value.bool false] 25)) = W at *
  exact bodyPost_ret (v := .tuple #[.agg #[.int .i64 z, .slice Ak n ck, .slice Aw m cw, .bool false], .int .i64 1]) (by simp [results, Try.results25, go_sem, t0, t1, t2, t3]) rfl ⟨rfl, hbb⟩

/-- Which error a write tells, and the writes behind it. -/
def wrE (z : Int) (off : Bool) (at_ : Int) (n : Nat) (s : ByteArray) : Int := if off then 14 else if 0 ≤ at_ ∧ at_ < n then (if 1 ≤ s.size ∧ (s.size : Int) ≤ z then 0 else 1) else 5
def wrW (z : Int) (off : Bool) (at_ : Int) (n : Nat) (s : ByteArray) (ws : List Wr) : List Wr := if wrE z off at_ n s = 0 then ws ++ [⟨at_, s⟩] else ws

theorem wr_off (z at_ : Int) (n : Nat) (s : ByteArray) : wrE z true at_ n s = 14 := rfl
theorem wr_out (z at_ : Int) (n : Nat) (s : ByteArray) (h : ¬ (0 ≤ at_ ∧ at_ < n)) : wrE z false at_ n s = 5 := if_neg h
theorem wr_bad (z at_ : Int) (n : Nat) (s : ByteArray) (h : 0 ≤ at_ ∧ at_ < n) (h2 : ¬ (1 ≤ s.size ∧ (s.size : Int) ≤ z)) : wrE z false at_ n s = 1 := (if_pos h).trans (if_neg h2)
theorem wr_ok (z at_ : Int) (n : Nat) (s : ByteArray) (h : 0 ≤ at_ ∧ at_ < n) (h2 : 1 ≤ s.size ∧ (s.size : Int) ≤ z) : wrE z false at_ n s = 0 := (if_pos h).trans (if_pos h2)

/-- What a write answers. -/
def WrAns (f : FuncId) : Prop := ∀ (z : Int) (Ak Aw : Option Addr) (n ck m cw : Nat) (off : Bool) (at_ : Int) (s : ByteArray) (kept : List ByteArray) (ws : List Wr) (w : World), Hid (DiskIn w Ak Aw n m kept ws) → m ≤ cw →
    Calls Try.prog f #[.agg #[.int .i64 z, .slice Ak n ck, .slice Aw m cw, .bool off], .int .i64 at_, .string s] w fun e w' =>
      ∃ A c, e = .returned (.tuple #[.agg #[.int .i64 z, .slice Ak n ck, .slice A (wrW z off at_ n s ws).length c, .bool off], .int .i64 (wrE z off at_ n s)]) ∧ WrRow w' A (wrW z off at_ n s ws) ∧ Below w.heap.size w w'

theorem wrAns_of (f : FuncId)
    (hoff : ∀ (z : Int) (Ak Aw : Option Addr) (n ck m cw : Nat) (at_ : Int) (s : ByteArray) (w : World), Calls Try.prog f #[.agg #[.int .i64 z, .slice Ak n ck, .slice Aw m cw, .bool true], .int .i64 at_, .string s] w fun e w' => e = .returned (.tuple #[.agg #[.int .i64 z, .slice Ak n ck, .slice Aw m cw, .bool true], .int .i64 14]) ∧ Below w.heap.size w w')
    (hout : ∀ (z : Int) (Ak Aw : Option Addr) (n ck m cw : Nat) (at_ : Int) (s : ByteArray) (w : World), ¬ (0 ≤ at_ ∧ at_ < n) → Calls Try.prog f #[.agg #[.int .i64 z, .slice Ak n ck, .slice Aw m cw, .bool false], .int .i64 at_, .string s] w fun e w' => e = .returned (.tuple #[.agg #[.int .i64 z, .slice Ak n ck, .slice Aw m cw, .bool false], .int .i64 5]) ∧ Below w.heap.size w w')
    (hbad : ∀ (z : Int) (Ak Aw : Option Addr) (n ck m cw : Nat) (at_ : Int) (s : ByteArray) (w : World), 0 ≤ at_ ∧ at_ < n → ¬ (1 ≤ s.size ∧ (s.size : Int) ≤ z) → Calls Try.prog f #[.agg #[.int .i64 z, .slice Ak n ck, .slice Aw m cw, .bool false], .int .i64 at_, .string s] w fun e w' => e = .returned (.tuple #[.agg #[.int .i64 z, .slice Ak n ck, .slice Aw m cw, .bool false], .int .i64 1]) ∧ Below w.heap.size w w')
    (hok : ∀ (z : Int) (Ak Aw : Option Addr) (n ck m cw : Nat) (at_ : Int) (s : ByteArray) (kept : List ByteArray) (ws : List Wr) (w : World), Hid (DiskIn w Ak Aw n m kept ws) → m ≤ cw → 0 ≤ at_ ∧ at_ < n → 1 ≤ s.size ∧ (s.size : Int) ≤ z →
      Calls Try.prog f #[.agg #[.int .i64 z, .slice Ak n ck, .slice Aw m cw, .bool false], .int .i64 at_, .string s] w fun e w' => ∃ A c, e = .returned (.tuple #[.agg #[.int .i64 z, .slice Ak n ck, .slice A (m + 1) c, .bool false], .int .i64 0]) ∧ WrRow w' A (ws ++ [⟨at_, s⟩]) ∧ Below w.heap.size w w') : WrAns f := by
  intro z Ak Aw n ck m cw off at_ s kept ws w h hcap
  have hm := h.out.m_eq
  have stay : ∀ (off : Bool) (code : Int), code ≠ 0 → wrE z off at_ n s = code → (Calls Try.prog f #[.agg #[.int .i64 z, .slice Ak n ck, .slice Aw m cw, .bool off], .int .i64 at_, .string s] w fun e w' => e = .returned (.tuple #[.agg #[.int .i64 z, .slice Ak n ck, .slice Aw m cw, .bool off], .int .i64 code]) ∧ Below w.heap.size w w') →
      Calls Try.prog f #[.agg #[.int .i64 z, .slice Ak n ck, .slice Aw m cw, .bool off], .int .i64 at_, .string s] w fun e w' =>
        ∃ A c, e = .returned (.tuple #[.agg #[.int .i64 z, .slice Ak n ck, .slice A (wrW z off at_ n s ws).length c, .bool off], .int .i64 (wrE z off at_ n s)]) ∧ WrRow w' A (wrW z off at_ n s ws) ∧ Below w.heap.size w w' := fun off code hc he hw =>
    hw.mono fun e w' ⟨hr, hb⟩ => by
      have e1 : wrW z off at_ n s ws = ws := if_neg (by rw [he]; exact hc)
      exact ⟨Aw, cw, by rw [e1, he, ← hm]; exact hr, by rw [e1]; exact h.out.wrow.below hb, hb⟩
  cases off with
  | true => exact stay true 14 (by omega) (wr_off ..) (hoff z Ak Aw n ck m cw at_ s w)
  | false =>
    by_cases h1 : 0 ≤ at_ ∧ at_ < n
    · by_cases h2 : 1 ≤ s.size ∧ (s.size : Int) ≤ z
      · refine (hok z Ak Aw n ck m cw at_ s kept ws w h hcap h1 h2).mono ?_
        rintro e w' ⟨A, c, hr, hrow, hb⟩
        have e0 := wr_ok z at_ n s h1 h2
        have e1 : wrW z false at_ n s ws = ws ++ [⟨at_, s⟩] := if_pos e0
        exact ⟨A, c, by rw [e1, e0, List.length_append, ← hm]; exact hr, by rw [e1]; exact hrow, hb⟩
      · exact stay false 1 (by omega) (wr_bad z at_ n s h1 h2) (hbad z Ak Aw n ck m cw at_ s w h1 h2)
    · exact stay false 5 (by omega) (wr_out z at_ n s h1) (hout z Ak Aw n ck m cw at_ s w h1)

theorem write_ans : WrAns 18 := wrAns_of 18 writeOff_calls
  (fun z Ak Aw n ck m cw at_ s w h => by
    by_cases h1 : at_ < 0
    · exact writeLow_calls z Ak Aw n ck m cw at_ s w h1
    · exact writeHigh_calls z Ak Aw n ck m cw at_ s w (by omega) (by omega))
  (fun z Ak Aw n ck m cw at_ s w h h2 => by
    by_cases h3 : s.size = 0
    · exact writeEmpty_calls z Ak Aw n ck m cw at_ s w h.1 h.2 h3
    · exact writeLong_calls z Ak Aw n ck m cw at_ s w h.1 h.2 (by omega) (by omega))
  (fun z Ak Aw n ck m cw at_ s kept ws w h hcap h1 h2 => (write_calls z Ak Aw n ck m cw at_ s kept ws w h hcap h1.1 h1.2 h2.1 h2.2).mono fun _ _ ⟨A, c, hr, _, hrow, _, hb⟩ => ⟨A, c, hr, hrow, hb⟩)

theorem refWrite_ans : WrAns 25 := wrAns_of 25 refWriteOff
  (fun z Ak Aw n ck m cw at_ s w h => by
    by_cases h1 : at_ < 0
    · exact refWriteLow z Ak Aw n ck m cw at_ s w h1
    · exact refWriteHigh z Ak Aw n ck m cw at_ s w (by omega) (by omega))
  (fun z Ak Aw n ck m cw at_ s w h h2 => by
    by_cases h3 : s.size = 0
    · exact refWriteEmpty z Ak Aw n ck m cw at_ s w h.1 h.2 h3
    · exact refWriteLong z Ak Aw n ck m cw at_ s w h.1 h.2 (by omega) (by omega))
  (fun z Ak Aw n ck m cw at_ s kept ws w h hcap h1 h2 => by
    cases Aw with
    | none =>
      exact (refWrite_none z Ak n ck m cw at_ s kept ws w h h1.1 h1.2 h2.1 h2.2).mono fun _ _ ⟨A, c, hr, _, hrow, hb⟩ => ⟨A, c, hr, hrow, hb⟩
    | some ad =>
      exact (refWrite_some z Ak ad n ck m cw at_ s kept ws w h h1.1 h1.2 h2.1 h2.2).mono fun _ _ ⟨A, c, hr, _, hrow, hb⟩ => ⟨A, c, hr, hrow, hb⟩)
end Go.Proofs.Ytdilfdjhablnpaa
