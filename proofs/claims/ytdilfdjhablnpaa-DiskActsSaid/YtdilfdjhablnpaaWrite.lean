/- The walk of disk.Write. -/
import Derived.Test.YtdilfdjhablnpaaCut
import Derived.ArgAppend
import Derived.Lib.Strings
namespace Go.Proofs.Ytdilfdjhablnpaa
open Go.RowKit Go.Shelf

/-- The cells of a row of writes. -/
def wcells : List Wr → List Value
  | [] => []
  | x :: l => .int .i64 x.at_ :: .string x.s :: wcells l

theorem wcells_len : ∀ l, (wcells l).length = l.length * 2
  | [] => rfl
  | x :: l => by simp only [wcells, List.length_cons, wcells_len l]; omega
theorem wcells_append : ∀ l k, wcells (l ++ k) = wcells l ++ wcells k
  | [], k => rfl
  | x :: l, k => by simp only [wcells, List.cons_append, wcells_append l k]
theorem wcells_even : ∀ (l : List Wr) k, k < l.length → (wcells l)[k * 2]? = some (.int .i64 (l.getD k noWr).at_)
  | [], k, h => by simp at h
  | x :: l, 0, _ => rfl
  | x :: l, k + 1, h => by
    rw [show (k + 1) * 2 = k * 2 + 1 + 1 by omega]
    simp only [wcells, List.getElem?_cons_succ, List.getD_cons_succ]
    exact wcells_even l k (by simpa using h)
theorem wcells_odd : ∀ (l : List Wr) k, k < l.length → (wcells l)[k * 2 + 1]? = some (.string (l.getD k noWr).s)
  | [], k, h => by simp at h
  | x :: l, 0, _ => rfl
  | x :: l, k + 1, h => by
    rw [show (k + 1) * 2 + 1 = k * 2 + 1 + 1 + 1 by omega]
    simp only [wcells, List.getElem?_cons_succ, List.getD_cons_succ]
    exact wcells_odd l k (by simpa using h)

theorem WrRow.holds {W : World} {A : Option Addr} {l : List Wr} (h : WrRow W A l) : ∀ b, A = some b → ∀ j u, (wcells l)[j]? = some u → W.cell? (b.add j) = some u := fun b hb j u hj => by
  have hlt : j < l.length * 2 := by rw [← wcells_len]; exact (List.getElem?_eq_some_iff.1 hj).1
  obtain ⟨b', o, e, h1, h2⟩ := h (j / 2) (by omega)
  rw [hb] at e
  cases e
  rw [Addr.add_lit]
  rcases Nat.mod_two_eq_zero_or_one j with hm | hm
  · have hj2 : j / 2 * 2 = j := by omega
    have h3 := wcells_even l (j / 2) (by omega)
    rw [hj2] at h3 h1
    rw [hj] at h3; cases h3; exact h1
  · have hj2 : j / 2 * 2 + 1 = j := by omega
    have h3 := wcells_odd l (j / 2) (by omega)
    rw [hj2] at h3
    rw [Nat.add_assoc, hj2] at h2
    rw [hj] at h3; cases h3; exact h2

theorem WrRow.none_nil {W : World} {A : Option Addr} {l : List Wr} (h : WrRow W A l) (e : A = none) : l = [] := by
  cases l with
  | nil => rfl
  | cons x l => obtain ⟨b, o, e', _⟩ := h 0 (by simp); rw [e] at e'; cases e'

theorem WrRow.of_own {W : World} {base : Nat} {v : Value} {l : List Wr} {n : Nat} (hn : n = l.length) (h : W.ownsRow base 31 2 v n (wcells l)) :
    ∃ A c, v = .slice A n c ∧ n ≤ c ∧ WrRow W A l ∧ ∀ b o, A = some ⟨b, o, none⟩ → base ≤ b := by
  subst hn
  obtain ⟨_, ho⟩ := h
  rcases ho with ⟨rfl, hn⟩ | ⟨g, cap, cur, rfl, hb, hg, hc, _, hs, ht⟩
  · obtain rfl : l = [] := List.length_eq_zero_iff.1 hn
    exact ⟨none, 0, rfl, Nat.le_refl _, WrRow.nil _ _, fun _ _ e => by cases e⟩
  · refine ⟨some ⟨g, 0, none⟩, cap, rfl, hc, fun k hk => ⟨g, 0, rfl, ?_, ?_⟩, fun _ _ e => by cases e; exact hb⟩
    · have h1 := wcells_even l k hk
      rw [← ht, List.getElem?_take] at h1
      split at h1
      · simp only [World.cell?, hg, Nat.zero_add]; simpa using h1
      · cases h1
    · have h1 := wcells_odd l k hk
      rw [← ht, List.getElem?_take] at h1
      split at h1
      · simp only [World.cell?, hg, Nat.zero_add]; simpa using h1
      · cases h1

theorem setC_wrow {W : World} {A : Option Addr} {l : List Wr} (h : WrRow W A l) {b j : Nat} (hne : ∀ b' o, A = some ⟨b', o, none⟩ → b' ≠ b) (v : Value) : WrRow (W.setCell ⟨b, j, none⟩ v) A l := fun k hk => by
  obtain ⟨b', o, e, h1, h2⟩ := h k hk
  have hB := Below.heap_setCell W ⟨b, j, none⟩ v b' (hne b' o e)
  generalize W.setCell ⟨b, j, none⟩ v = W' at *
  exact ⟨b', o, e, (World.cell?_of_block (w := W) (w' := W') (a := ⟨b', o + k * 2, none⟩) hB).trans h1, (World.cell?_of_block (w := W) (w' := W') (a := ⟨b', o + k * 2 + 1, none⟩) hB).trans h2⟩

theorem setD_wrow {W : World} {A : Option Addr} {l : List Wr} (h : WrRow W A l) {b : Nat} (hne : ∀ b' o, A = some ⟨b', o, none⟩ → b' ≠ b) (z : Int) (ka wa : Value) (off : Bool) : WrRow (setD W b z ka wa off) A l :=
  setC_wrow (setC_wrow (setC_wrow (setC_wrow h hne _) hne _) hne _) hne _

theorem BoxD.other {b b' j : Nat} {z : Int} {ka wa v : Value} {off : Bool} {W : World} (h : BoxD b z ka wa off W) (hne : b ≠ b') : BoxD b z ka wa off (W.setCell ⟨b', j, none⟩ v) := by
  have hB := Below.heap_setCell W ⟨b', j, none⟩ v b hne
  have hF : ∀ i, (W.setCell ⟨b', j, none⟩ v).frozen? ⟨b, i, none⟩ = W.frozen? ⟨b, i, none⟩ := fun i => by simp only [World.frozen?_setCell]
  generalize W.setCell ⟨b', j, none⟩ v = W' at *
  exact ⟨(World.cell?_of_block (w := W) (w' := W') (a := ⟨b, 0, none⟩) hB).trans h.c0, (World.cell?_of_block (w := W) (w' := W') (a := ⟨b, 1, none⟩) hB).trans h.c1, (World.cell?_of_block (w := W) (w' := W') (a := ⟨b, 2, none⟩) hB).trans h.c2, (World.cell?_of_block (w := W) (w' := W') (a := ⟨b, 3, none⟩) hB).trans h.c3, fun i => (hF i).trans (h.f i)⟩

theorem three_below (w : World) (o o' o'' : Obj) : Below w.heap.size w (((w.alloc o).alloc o').alloc o'') := (two_below w o o').alloc (by simp; omega) _

theorem pair_cells (W : World) (a b : Value) (t : TypeId) (g : Nat) (hg : g = W.heap.size) : ∀ j u, [a, b][j]? = some u → (W.alloc (.cells #[a, b] t)).cell? ((⟨g, 0, none⟩ : Addr).add j) = some u := fun j u hj => by
  subst hg
  rw [Addr.add_lit]
  match j, hj with
  | 0, hj => cases hj; rw [World.cell?_alloc_at _ _ _ _ rfl]; rfl
  | 1, hj => cases hj; rw [World.cell?_alloc_at _ _ _ _ rfl]; rfl
  | j + 2, hj => simp at hj

theorem below_grown {W W' : World} (h : W.grownBy W' none) : Below W.heap.size W W' := by
  obtain ⟨h1, h2, h3, h4, h5⟩ := h
  exact ⟨h1, h2, h3, h4, fun k hk => h5 k hk (by simp)⟩

set_option maxHeartbeats 1000000 in
theorem write_calls (z : Int) (Ak Aw : Option Addr) (n ck m cw : Nat) (at_ : Int) (s : ByteArray) (kept : List ByteArray) (ws : List Wr) (w : World) (h : Hid (DiskIn w Ak Aw n m kept ws)) (hcap : m ≤ cw)
    (ha : 0 ≤ at_) (hb : at_ < n) (hs : 1 ≤ s.size) (hz : (s.size : Int) ≤ z) :
    Calls Try.prog 18 #[.agg #[.int .i64 z, .slice Ak n ck, .slice Aw m cw, .bool false], .int .i64 at_, .string s] w fun e w' =>
      ∃ A c, e = .returned (.tuple #[.agg #[.int .i64 z, .slice Ak n ck, .slice A (m + 1) c, .bool false], .int .i64 0]) ∧ m + 1 ≤ c ∧ WrRow w' A (ws ++ [⟨at_, s⟩]) ∧ (∀ b o, A = some ⟨b, o, none⟩ → w.heap.size ≤ b) ∧ Below w.heap.size w w' := by
  have d1 : decide (at_ < 0) = false := by simp; omega
  have d2 : decide (at_ ≥ (n : Int)) = false := by simp; omega
  have d3 : s.toList.isEmpty = false := by
    rw [Lib.toList_data]
    cases hl : s.data.toList with
    | nil => have : s.data.size = 0 := by rw [← Array.length_toList, hl]; rfl
             have h0 : s.size = s.data.size := rfl
             omega
    | cons => rfl
  have d4 : decide ((s.size : Int) > z) = false := by simp; omega
  go_enter Try.func18, Try.ntmps18
  go_wp2_with (at_builtin; refine wpList_append_grows _ rfl (.tmp 43) (.tmp 47) 23 rfl 31 Try.t31 _ 2 Try.t31.bytes (by kernel_rfl) (by kernel_rfl) rfl rfl rfl rfl (by omega) Aw m m (wcells ws) rfl ?c1 ?c2 ?c3 ⟨w.heap.size + 1 + 1, 0, none⟩ 1 1 [.int .i64 at_, .string s] rfl rfl ?c4 ?c5 ?c6 ?c7 ?c8 ?_)
  case c1 => intro e; have := h.out.wrow.none_nil e; have h2 := h.out.m_eq; subst this; simp at h2; omega
  case c2 => rw [wcells_len, h.out.m_eq]
  case c3 => exact (h.out.wrow.below (three_below _ _ _ _)).holds
  case c4 => exact pair_cells _ _ _ _ _ (by simp)
  case c5 => intro u hu; simp at hu; rcases hu with rfl | rfl <;> rfl
  case c6 => omega
  case c7 => have := h.out.m_le; unfold maxLen; omega
  case c8 => have := h.out.m_le; show (m + 1) * 24 ≤ _; omega
  intro v' w' hown hgrow
  have hbel := below_grown hgrow
  have b1 := (((BoxD.new w z (.slice Ak n ck) (.slice Aw m cw) false).alloc (.cells #[.int .i64 0, .slice none 0 0, .slice none 0 0, .bool false] 25)).alloc (.cells #[.int .i64 at_, .string s] 31)).below hbel
  have b2 := ((two w (.cells #[.int .i64 z, .slice Ak n ck, .slice Aw m cw, .bool false] 25) 0 (.slice none 0 0) (.slice none 0 0) false).alloc (.cells #[.int .i64 at_, .string s] 31)).below hbel
  have hbw := (three_below w (.cells #[.int .i64 z, .slice Ak n ck, .slice Aw m cw, .bool false] 25) (.cells #[.int .i64 0, .slice none 0 0, .slice none 0 0, .bool false] 25) (.cells #[.int .i64 at_, .string s] 31)).trans (hbel.mono (by simp; omega))
  rw [show wcells ws ++ [Value.int .i64 at_, .string s] = wcells (ws ++ [⟨at_, s⟩]) by rw [wcells_append]; rfl] at hown
  obtain ⟨A, c, rfl, hmc, hrow, hne⟩ := WrRow.of_own (by have := h.out.m_eq; simp; omega) hown
  have HBX := Lib.hid b2
  have HB := Lib.hid hbw
  have HR := Lib.hid hrow
  have HN := Lib.hid hne
  obtain ⟨r0, r1, r2, r3, rf⟩ := b1
  obtain ⟨q0, q1, q2, q3, qf⟩ := b2
  have f2 := rf 2
  have g0 := qf 0
  have g1 := qf 1
  have g2 := qf 2
  have g3 := qf 3
  clear hgrow hbel hown hbw hrow hne rf qf
  go_wp2
  have hbox := BoxD.set (HBX.out.other (b' := w.heap.size) (j := 2) (v := .slice A (m + 1) c) (by omega)) z (.slice Ak n ck) (.slice A (m + 1) c) false
  have hbw := setD_below (HB.out.setCell (p := ⟨w.heap.size, 2, none⟩) (Nat.le_refl _) (.slice A (m + 1) c)) (b := w.heap.size + 1) (by omega) z (.slice Ak n ck) (.slice A (m + 1) c) false
  have hrow := setD_wrow (setC_wrow HR.out (b := w.heap.size) (j := 2) (fun b' o e => by have := HN.out b' o e; omega) (.slice A (m + 1) c)) (b := w.heap.size + 1) (fun b' o e => by have := HN.out b' o e; omega) z (.slice Ak n ck) (.slice A (m + 1) c) false
  show bodyPost _ _ _ _ _ (setD (w'.setCell ⟨w.heap.size, 2, none⟩ (.slice A (m + 1) c)) (w.heap.size + 1) z (.slice Ak n ck) (.slice A (m + 1) c) false)
  generalize setD (w'.setCell ⟨w.heap.size, 2, none⟩ (.slice A (m + 1) c)) (w.heap.size + 1) z (.slice Ak n ck) (.slice A (m + 1) c) false = Wf at *
  obtain ⟨t0, t1, t2, t3, _⟩ := hbox
  exact bodyPost_ret (v := .tuple #[.agg #[.int .i64 z, .slice Ak n ck, .slice A (m + 1) c, .bool false], .int .i64 0]) (by simp [results, Try.results18, go_sem, t0, t1, t2, t3]) rfl ⟨A, c, rfl, hmc, hrow, fun b o e => by have := HN.out b o e; omega, hbw⟩

theorem writeOff_calls (z : Int) (Ak Aw : Option Addr) (n ck m cw : Nat) (at_ : Int) (s : ByteArray) (w : World) :
    Calls Try.prog 18 #[.agg #[.int .i64 z, .slice Ak n ck, .slice Aw m cw, .bool true], .int .i64 at_, .string s] w fun e w' =>
      e = .returned (.tuple #[.agg #[.int .i64 z, .slice Ak n ck, .slice Aw m cw, .bool true], .int .i64 14]) ∧ Below w.heap.size w w' := by
  go_enter Try.func18, Try.ntmps18
  go_wp2
  obtain ⟨t0, t1, t2, t3, _⟩ := two w (.cells #[.int .i64 z, .slice Ak n ck, .slice Aw m cw, .bool true] 25) z (.slice Ak n ck) (.slice Aw m cw) true
  have hbb := two_below w (.cells #[.int .i64 z, .slice Ak n ck, .slice Aw m cw, .bool true] 25) (.cells #[.int .i64 z, .slice Ak n ck, .slice Aw m cw, .bool true] 25)
  generalize ((w.alloc (Obj.cells #[Value.int IntKind.i64 z, Value.slice Ak n ck, Value.slice Aw m cw, Value.bool true] 25)).alloc (Obj.cells #[Value.int IntKind.i64 z, Value.slice Ak n ck, Value.slice Aw m cw, Value.bool true] 25)) = W at *
  exact bodyPost_ret (v := .tuple #[.agg #[.int .i64 z, .slice Ak n ck, .slice Aw m cw, .bool true], .int .i64 14]) (by simp [results, Try.results18, go_sem, t0, t1, t2, t3]) rfl ⟨rfl, hbb⟩

theorem writeLow_calls (z : Int) (Ak Aw : Option Addr) (n ck m cw : Nat) (at_ : Int) (s : ByteArray) (w : World) (ha : at_ < 0) :
    Calls Try.prog 18 #[.agg #[.int .i64 z, .slice Ak n ck, .slice Aw m cw, .bool false], .int .i64 at_, .string s] w fun e w' =>
      e = .returned (.tuple #[.agg #[.int .i64 z, .slice Ak n ck, .slice Aw m cw, .bool false], .int .i64 5]) ∧ Below w.heap.size w w' := by
  have d1 : decide (at_ < 0) = true := by simp; omega
  go_enter Try.func18, Try.ntmps18
  go_wp2
  obtain ⟨t0, t1, t2, t3, _⟩ := two w (.cells #[.int .i64 z, .slice Ak n ck, .slice Aw m cw, .bool false] 25) z (.slice Ak n ck) (.slice Aw m cw) false
  have hbb := two_below w (.cells #[.int .i64 z, .slice Ak n ck, .slice Aw m cw, .bool false] 25) (.cells #[.int .i64 z, .slice Ak n ck, .slice Aw m cw, .bool false] 25)
  generalize ((w.alloc (Obj.cells #[Value.int IntKind.i64 z, Value.slice Ak n ck, Value.slice Aw m cw, Value.bool false] 25)).alloc (Obj.cells #[Value.int IntKind.i64 z, Value.slice Ak n ck, Value.slice Aw m cw, Value.bool false] 25)) = W at *
  exact bodyPost_ret (v := .tuple #[.agg #[.int .i64 z, .slice Ak n ck, .slice Aw m cw, .bool false], .int .i64 5]) (by simp [results, Try.results18, go_sem, t0, t1, t2, t3]) rfl ⟨rfl, hbb⟩

theorem writeHigh_calls (z : Int) (Ak Aw : Option Addr) (n ck m cw : Nat) (at_ : Int) (s : ByteArray) (w : World) (ha : 0 ≤ at_) (hb : (n : Int) ≤ at_) :
    Calls Try.prog 18 #[.agg #[.int .i64 z, .slice Ak n ck, .slice Aw m cw, .bool false], .int .i64 at_, .string s] w fun e w' =>
      e = .returned (.tuple #[.agg #[.int .i64 z, .slice Ak n ck, .slice Aw m cw, .bool false], .int .i64 5]) ∧ Below w.heap.size w w' := by
  have d1 : decide (at_ < 0) = false := by simp; omega
  have d2 : decide (at_ ≥ (n : Int)) = true := by simp; omega
  go_enter Try.func18, Try.ntmps18
  go_wp2
  obtain ⟨t0, t1, t2, t3, _⟩ := two w (.cells #[.int .i64 z, .slice Ak n ck, .slice Aw m cw, .bool false] 25) z (.slice Ak n ck) (.slice Aw m cw) false
  have hbb := two_below w (.cells #[.int .i64 z, .slice Ak n ck, .slice Aw m cw, .bool false] 25) (.cells #[.int .i64 z, .slice Ak n ck, .slice Aw m cw, .bool false] 25)
  generalize ((w.alloc (Obj.cells #[Value.int IntKind.i64 z, Value.slice Ak n ck, Value.slice Aw m cw, Value.bool false] 25)).alloc (Obj.cells #[Value.int IntKind.i64 z, Value.slice Ak n ck, Value.slice Aw m cw, Value.bool false] 25)) = W at *
  exact bodyPost_ret (v := .tuple #[.agg #[.int .i64 z, .slice Ak n ck, .slice Aw m cw, .bool false], .int .i64 5]) (by simp [results, Try.results18, go_sem, t0, t1, t2, t3]) rfl ⟨rfl, hbb⟩

theorem writeEmpty_calls (z : Int) (Ak Aw : Option Addr) (n ck m cw : Nat) (at_ : Int) (s : ByteArray) (w : World) (ha : 0 ≤ at_) (hb : at_ < n) (hs : s.size = 0) :
    Calls Try.prog 18 #[.agg #[.int .i64 z, .slice Ak n ck, .slice Aw m cw, .bool false], .int .i64 at_, .string s] w fun e w' =>
      e = .returned (.tuple #[.agg #[.int .i64 z, .slice Ak n ck, .slice Aw m cw, .bool false], .int .i64 1]) ∧ Below w.heap.size w w' := by
  have d1 : decide (at_ < 0) = false := by simp; omega
  have d2 : decide (at_ ≥ (n : Int)) = false := by simp; omega
  have d3 : s.toList.isEmpty = true := by
    rw [Lib.toList_data]
    have h0 : s.data.size = 0 := hs
    have h1 : s.data = #[] := Array.eq_empty_of_size_eq_zero h0
    rw [h1]; rfl
  go_enter Try.func18, Try.ntmps18
  go_wp2
  obtain ⟨t0, t1, t2, t3, _⟩ := two w (.cells #[.int .i64 z, .slice Ak n ck, .slice Aw m cw, .bool false] 25) z (.slice Ak n ck) (.slice Aw m cw) false
  have hbb := two_below w (.cells #[.int .i64 z, .slice Ak n ck, .slice Aw m cw, .bool false] 25) (.cells #[.int .i64 z, .slice Ak n ck, .slice Aw m cw, .bool false] 25)
  generalize ((w.alloc (Obj.cells #[Value.int IntKind.i64 z, Value.slice Ak n ck, Value.slice Aw m cw, Value.bool false] 25)).alloc (Obj.cells #[Value.int IntKind.i64 z, Value.slice Ak n ck, Value.slice Aw m cw, Value.bool false] 25)) = W at *
  exact bodyPost_ret (v := .tuple #[.agg #[.int .i64 z, .slice Ak n ck, .slice Aw m cw, .bool false], .int .i64 1]) (by simp [results, Try.results18, go_sem, t0, t1, t2, t3]) rfl ⟨rfl, hbb⟩

theorem writeLong_calls (z : Int) (Ak Aw : Option Addr) (n ck m cw : Nat) (at_ : Int) (s : ByteArray) (w : World) (ha : 0 ≤ at_) (hb : at_ < n) (hs : 1 ≤ s.size) (hz : z < (s.size : Int)) :
    Calls Try.prog 18 #[.agg #[.int .i64 z, .slice Ak n ck, .slice Aw m cw, .bool false], .int .i64 at_, .string s] w fun e w' =>
      e = .returned (.tuple #[.agg #[.int .i64 z, .slice Ak n ck, .slice Aw m cw, .bool false], .int .i64 1]) ∧ Below w.heap.size w w' := by
  have d1 : decide (at_ < 0) = false := by simp; omega
  have d2 : decide (at_ ≥ (n : Int)) = false := by simp; omega
  have d3 : s.toList.isEmpty = false := by
    rw [Lib.toList_data]
    cases hl : s.data.toList with
    | nil => have : s.data.size = 0 := by rw [← Array.length_toList, hl]; rfl
             have h0 : s.size = s.data.size := rfl
             omega
    | cons => rfl
  have d4 : decide ((s.size : Int) > z) = true := by simp; omega
  go_enter Try.func18, Try.ntmps18
  go_wp2
  obtain ⟨t0, t1, t2, t3, _⟩ := two w (.cells #[.int .i64 z, .slice Ak n ck, .slice Aw m cw, .bool false] 25) z (.slice Ak n ck) (.slice Aw m cw) false
  have hbb := two_below w (.cells #[.int .i64 z, .slice Ak n ck, .slice Aw m cw, .bool false] 25) (.cells #[.int .i64 z, .slice Ak n ck, .slice Aw m cw, .bool false] 25)
  generalize ((w.alloc (Obj.cells #[Value.int IntKind.i64 z, Value.slice Ak n ck, Value.slice Aw m cw, Value.bool false] 25)).alloc (Obj.cells #[Value.int IntKind.i64 z, Value.slice Ak n ck, Value.slice Aw m cw, Value.bool false] 25)) = W at *
  exact bodyPost_ret (v := .tuple #[.agg #[.int .i64 z, .slice Ak n ck, .slice Aw m cw, .bool false], .int .i64 1]) (by simp [results, Try.results18, go_sem, t0, t1, t2, t3]) rfl ⟨rfl, hbb⟩

end Go.Proofs.Ytdilfdjhablnpaa
