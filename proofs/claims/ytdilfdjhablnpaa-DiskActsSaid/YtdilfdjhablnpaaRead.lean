/- The walk of disk.Read. -/
import Derived.Test.YtdilfdjhablnpaaCut
namespace Go.Proofs.Ytdilfdjhablnpaa
open Go.RowKit Go.Shelf
attribute [local go_sem] Oper.semAt_some

/-- What a sector reads after writes. -/
def readStep (at_ : Int) (s : ByteArray) (x : Nat × Wr) : ByteArray := if x.2.at_ = at_ then over s x.2.s else s
def readL (at_ : Int) (s : ByteArray) (xs : List (Nat × Wr)) : ByteArray := xs.foldl (readStep at_) s
theorem readL_snoc (at_ : Int) (s : ByteArray) (xs : List (Nat × Wr)) (x : Nat × Wr) : readL at_ s (xs ++ [x]) = readStep at_ (readL at_ s xs) x := by simp [readL]

/-- Between two rounds. -/
structure ReadI (at_ : Int) (s0 : ByteArray) (sb : Nat) (w W0 : World) (pre : List (Nat × Wr)) (W : World) : Prop where
  size : W0.heap.size ≤ W.heap.size
  keep : ∀ k, k < W0.heap.size → k ≠ sb → W.heap[k]? = W0.heap[k]?
  cell : W.cell? ⟨sb, 0, none⟩ = some (.string (readL at_ s0 pre))
  frozen : W.frozen? ⟨sb, 0, none⟩ = false
  below : Below w.heap.size w W

theorem ReadI.kept {at_ : Int} {s0 : ByteArray} {sb : Nat} {w W0 : World} {pre : List (Nat × Wr)} {V V' : World} {row : Option Nat} (h : ReadI at_ s0 sb w W0 pre V)
    (hs : sb < W0.heap.size) (hw : w.heap.size ≤ W0.heap.size) (hg : V.grownBy V' row) (hr : ∀ r, row = some r → W0.heap.size ≤ r) : ReadI at_ s0 sb w W0 pre V' := by
  have hk : ∀ k, k < W0.heap.size → V'.heap[k]? = V.heap[k]? := fun k hk => hg.block k (by have := h.size; omega) (fun e => by have := hr k e.symm; omega)
  exact ⟨Nat.le_trans h.size hg.size, fun k hk' hn => (hk k hk').trans (h.keep k hk' hn), (World.cell?_of_block (w := V) (hk sb hs)).trans h.cell, (World.frozen?_of_block (w := V) (hk sb hs)).trans h.frozen,
    h.below.grown hg h.below.size (fun k e => by have := hr k e; omega)⟩

/-- The world in which the loop begins. -/
def readW (w : World) (at_ : Int) (s0 : ByteArray) (D : Array Value) : World := (((w.alloc (.cells D 25)).alloc (.cells #[.int .i64 at_] 3)).alloc (.cells #[.string s0] 9)).alloc (.cells D 25)

theorem readW_size (w : World) (at_ : Int) (s0 : ByteArray) (D : Array Value) : (readW w at_ s0 D).heap.size = w.heap.size + 4 := by simp [readW]
theorem readW_below (w : World) (at_ : Int) (s0 : ByteArray) (D : Array Value) : Below w.heap.size w (readW w at_ s0 D) := ((((Below.refl _ w).alloc (Nat.le_refl _) _).alloc (by simp) _).alloc (by simp; omega) _).alloc (by simp; omega) _
theorem readW_at (w : World) (at_ : Int) (s0 : ByteArray) (D : Array Value) : (readW w at_ s0 D).cell? ⟨w.heap.size + 1, 0, none⟩ = some (.int .i64 at_) := by
  unfold readW
  rw [World.cell?_alloc_past _ _ _ (by simp; try omega), World.cell?_alloc_past _ _ _ (by simp), World.cell?_alloc_at _ _ _ _ (by simp)]; rfl
theorem readW_s (w : World) (at_ : Int) (s0 : ByteArray) (D : Array Value) : (readW w at_ s0 D).cell? ⟨w.heap.size + 2, 0, none⟩ = some (.string s0) := by
  unfold readW
  rw [World.cell?_alloc_past _ _ _ (by simp), World.cell?_alloc_at _ _ _ _ (by simp)]; rfl
theorem readW_fz (w : World) (at_ : Int) (s0 : ByteArray) (D : Array Value) : (readW w at_ s0 D).frozen? ⟨w.heap.size + 2, 0, none⟩ = false := by
  unfold readW
  have h := (((Below.refl (w.heap.size + 3) (((w.alloc (.cells D 25)).alloc (.cells #[.int .i64 at_] 3)).alloc (.cells #[.string s0] 9))).alloc (by simp) (.cells D 25)).frozen (p := ⟨w.heap.size + 2, 0, none⟩) (by simp))
  rw [h]
  exact World.frozen?_alloc_at _ _ _ _ (by simp)
theorem readW_ws (w : World) (at_ : Int) (s0 : ByteArray) (a b c d : Value) : (readW w at_ s0 #[a, b, c, d]).cell? ⟨w.heap.size + 3, 2, none⟩ = some c := by
  unfold readW
  rw [World.cell?_alloc_at _ _ _ _ (by simp)]; rfl

set_option maxHeartbeats 2000000 in
set_option maxRecDepth 100000 in
theorem read_calls (z : Int) (Ak Aw : Option Addr) (n ck m cw : Nat) (at_ : Int) (kept : List ByteArray) (ws : List Wr) (w : World) (h : Hid (DiskIn w Ak Aw n m kept ws)) (ha : 0 ≤ at_) (hb : at_ < n) :
    Calls Try.prog 19 #[.agg #[.int .i64 z, .slice Ak n ck, .slice Aw m cw, .bool false], .int .i64 at_] w fun e w' =>
      e = .returned (.tuple #[.string (readL at_ (kept.getD at_.toNat ByteArray.empty) (idxs ws)), .int .i64 0]) ∧ Below w.heap.size w w' := by
  obtain ⟨t, rfl⟩ := Int.eq_ofNat_of_zero_le ha
  have d1 : decide ((t : Int) < 0) = false := by simp
  have d2 : decide ((t : Int) ≥ (n : Int)) = false := by simp; omega
  have htn : t < n := by omega
  obtain ⟨g, og, rfl, hcell⟩ := h.out.row t (by have := h.out.n_eq; omega)
  rw [Int.toNat_natCast]
  generalize hs0 : kept.getD t ByteArray.empty = s0 at *
  have hglt := World.block_lt_of_cell? w _ hcell
  have hc2 : ∀ o o', ((w.alloc o).alloc o').cell? ⟨g, og + t, none⟩ = some (.string s0) := fun o o' => cell_below (two_below w o o') hcell
  have HW := Lib.hid h.out.wrow
  have HM := Lib.hid h.out.m_eq
  have HMX := Lib.hid h.out.m_le
  have hc3 := hc2 (.cells #[.int .i64 z, .slice (some ⟨g, og, none⟩) n ck, .slice Aw m cw, .bool false] 25) (.cells #[.int .i64 t] 3)
  clear h hcell hs0 hc2 ha hb
  refine (callsIn_wide (n := 6)).1 ?_
  refine callsIn_of_wp_marks Try.func19 rfl trivial ?_ rfl
  simp only [Try.ntmps19, List.size_toArray, List.length_cons, List.length_nil, Nat.reduceAdd, Nat.reduceSub, Array.replicate_succ, Array.replicate_zero, List.push_toArray, List.append_toArray, List.nil_append, List.cons_append]
  gi_wp2_with fail
  refine ⟨trivial, (callsIn_wide.2 (writes_calls z (.slice (some ⟨g, og, none⟩) n ck) (.slice Aw m cw) false _)).mono ?_⟩
  rintro e w' ⟨rfl, rfl⟩
  have hWS := readW_size w t s0 #[.int .i64 z, .slice (some ⟨g, og, none⟩) n ck, .slice Aw m cw, .bool false]
  have hWB := readW_below w t s0 #[.int .i64 z, .slice (some ⟨g, og, none⟩) n ck, .slice Aw m cw, .bool false]
  have hWA := readW_at w t s0 #[.int .i64 z, .slice (some ⟨g, og, none⟩) n ck, .slice Aw m cw, .bool false]
  have hWs := readW_s w t s0 #[.int .i64 z, .slice (some ⟨g, og, none⟩) n ck, .slice Aw m cw, .bool false]
  have hWf := readW_fz w t s0 #[.int .i64 z, .slice (some ⟨g, og, none⟩) n ck, .slice Aw m cw, .bool false]
  have hWW := readW_ws w t s0 (.int .i64 z) (.slice (some ⟨g, og, none⟩) n ck) (.slice Aw m cw) (.bool false)
  rw [show (((w.alloc (Obj.cells #[Value.int IntKind.i64 z, Value.slice (some ⟨g, og, none⟩) n ck, Value.slice Aw m cw, Value.bool false] 25)).alloc (Obj.cells #[Value.int IntKind.i64 ↑t] 3)).alloc (Obj.cells #[Value.string s0] 9)).heap.size = w.heap.size + 3 by simp]
  clear hc3
  gi_wp2_with fail
  show Code.wpIn _ _ _ _ _ _ (readW w t s0 #[.int .i64 z, .slice (some ⟨g, og, none⟩) n ck, .slice Aw m cw, .bool false])
  generalize readW w t s0 #[.int .i64 z, .slice (some ⟨g, og, none⟩) n ck, .slice Aw m cw, .bool false] = W0 at *
  have hinit : ReadI t s0 (w.heap.size + 1 + 1) w W0 [] W0 := ⟨Nat.le_refl _, fun _ _ _ => rfl, hWs, hWf, hWB⟩
  refine wpIn_rangeFunc_boxed rfl (by omega) (gf := 42) (lb := #[.pointer (some ⟨w.heap.size + 3, 0, none⟩)]) rfl trivial (enters_of Try.func42 (by kernel_rfl) rfl)
    (writes_all 5 (w.heap.size + 3) Aw m cw ws (fun k => k < w.heap.size) HM.out (by have := HMX.out; omega) (fun hl k hin => by
      obtain ⟨b, o, e, rfl⟩ := hin
      obtain ⟨b', o', e', hc', _⟩ := HW.out 0 hl
      rw [e] at e'; cases e'
      exact World.block_lt_of_cell? w _ hc'))
    (fun r hr => hr.elim) (fun k hk => by omega)
    (fun V hV => ⟨(bcell' hV _ _ (by omega)).trans hWW, HW.out.below (hWB.trans (hV.mono (by omega)))⟩) (fun _ => rfl)
    (ReadI t s0 (w.heap.size + 1 + 1) w W0) (fun pre A' B row h hg hr => h.kept (by omega) (by omega) hg (fun r e => by rcases hr r e with h | h | h; exact h.elim; omega; omega))
    hinit ?round ?done
  case round =>
    intro l pre x V hI hpre hlt
    simp only [encWr]
    rw [fold2]
    have HI := Lib.hid hI
    have HL := Lib.hid hlt
    clear hI hpre hlt
    gi_wp2
    refine ⟨fun k hk => Below.heap_alloc _ _ _ (by have := HL.out; omega), fun o => ?_⟩
    have hVs := HL.out
    have hsnoc := readL_snoc t s0 pre x
    have hgr : V.grownBy ((V.alloc (.cells #[.int .i64 x.2.at_, .string x.2.s] 31)).putObj (W0.heap.size + 1) o) (some (W0.heap.size + 1)) := by
      have h1 := World.grownBy_alloc V (.cells #[.int .i64 x.2.at_, .string x.2.s] 31) none
      have h2 := grownBy_putObj' (V.alloc (.cells #[.int .i64 x.2.at_, .string x.2.s] 31)) (W0.heap.size + 1) o
      exact ⟨h2.os.trans h1.os, h2.tape.trans h1.tape, h2.output.trans h1.output, Nat.le_trans h1.size h2.size, fun k hk hne => (h2.block k (by have := h1.size; omega) hne).trans (h1.block k hk (by simp))⟩
    have hI2 := HI.out.kept (by omega) (by omega) hgr (fun r e => by cases e; omega)
    have hnew : ((V.alloc (.cells #[.int .i64 x.2.at_, .string x.2.s] 31)).putObj (W0.heap.size + 1) o).heap[V.heap.size]? = some (.cells #[.int .i64 x.2.at_, .string x.2.s] 31) := by
      rw [World.putObj_heap_other (by omega)]; exact World.alloc_heap_new _ _
    generalize (V.alloc (.cells #[.int .i64 x.2.at_, .string x.2.s] 31)).putObj (W0.heap.size + 1) o = V2 at *
    have c1 : V2.cell? ⟨w.heap.size + 1, 0, none⟩ = some (.int .i64 t) := (World.cell?_of_block (w := W0) (hI2.keep (w.heap.size + 1) (by omega) (by omega))).trans hWA
    have c3 : V2.cell? ⟨V.heap.size, 0, none⟩ = some (.int .i64 x.2.at_) := by simp [World.cell?, hnew]
    have c4 : V2.cell? ⟨V.heap.size, 1, none⟩ = some (.string x.2.s) := by simp [World.cell?, hnew]
    have c5 := hI2.cell
    have c6 := hI2.frozen
    have HI2 := Lib.hid hI2
    have HSN := Lib.hid hsnoc
    generalize hR : readL t s0 pre = oldS at *
    have HOR := Lib.hid hR
    by_cases he : x.2.at_ = (t : Int)
    · have e1 : (x.2.at_ == (t : Int)) = true := by simp [he]
      clear hgr hI2 hnew hsnoc hR
      gi_wp2_with fail
      refine ⟨trivial, ((callsIn_wide.2 (over_calls oldS x.2.s V2)).inRound l).mono ?_⟩
      rintro e W2 ⟨rfl, hb2⟩
      have hVlt : V.heap.size < V2.heap.size := World.block_lt_of_cell? V2 _ c3
      have hslt : w.heap.size + 1 + 1 < V2.heap.size := World.block_lt_of_cell? V2 _ c5
      have k5 := (bcell' hb2 (w.heap.size + 1 + 1) 0 hslt).trans c5
      have k6 := (hb2.frozen (p := ⟨w.heap.size + 1 + 1, 0, none⟩) hslt).trans c6
      have HB2 := Lib.hid hb2
      clear hb2 c1 c3 c4 c5 c6
      gi_wp2
      have hblk : ∀ k, k < V2.heap.size → k ≠ w.heap.size + 1 + 1 → (W2.setCell ⟨w.heap.size + 1 + 1, 0, none⟩ (.string (over oldS x.2.s))).heap[k]? = V2.heap[k]? := fun k hk hne =>
        (Below.heap_setCell _ _ _ _ hne).trans (HB2.out.block k hk)
      have hV2s := HI2.out.size
      refine ⟨fun k hk => hblk k ?_ ?_, ⟨?_, ?_, ?_, ?_, ?_⟩⟩
      · rcases hk with h | h | h <;> omega
      · rcases hk with h | h | h <;> omega
      · have := HB2.out.size
        simp [World.setCell]
        omega
      · intro k hk hne
        exact (hblk k (by omega) hne).trans (HI2.out.keep k hk hne)
      · rw [HSN.out, readStep, if_pos he]
        exact World.cell?_setCell_same' _ _ _ (by rw [k5]; rfl)
      · rw [World.frozen?_setCell]; exact k6
      · exact (HI2.out.below.trans (HB2.out.mono HI2.out.below.size)).setCell (p := ⟨w.heap.size + 1 + 1, 0, none⟩) (by simp; omega) _
    · have e1 : (x.2.at_ == (t : Int)) = false := by simp [he]
      clear hgr hI2 hnew hsnoc hR
      gi_wp2
      exact ⟨fun _ _ => rfl, ⟨HI2.out.size, HI2.out.keep, by rw [HSN.out, readStep, if_neg he]; exact c5, HI2.out.frozen, HI2.out.below⟩⟩
  case done =>
    rintro V ⟨hsz, hkeep, hcell, hfrz, hbel⟩ hD
    gi_wp2
    refine ⟨by simp, .inl ⟨_, _, rfl, run_takeDeferred hD, .tuple #[.string (readL t s0 (idxs ws)), .int .i64 0], by simp [results, Try.results19, go_sem], rfl, hbel.trans (belowK_b (w := w) (Nat.le_refl _) V W0.heap.size _ _ (by omega) hD rfl rfl)⟩⟩

theorem readDead_calls (z : Int) (Ak Aw : Option Addr) (n ck m cw : Nat) (at_ : Int) (w : World) :
    Calls Try.prog 19 #[.agg #[.int .i64 z, .slice Ak n ck, .slice Aw m cw, .bool true], .int .i64 at_] w fun e w' =>
      e = .returned (.tuple #[.string ⟨#[]⟩, .int .i64 14]) ∧ Below w.heap.size w w' := by
  have hb := two_below w (.cells #[.int .i64 z, .slice Ak n ck, .slice Aw m cw, .bool true] 25) (.cells #[.int .i64 at_] 3)
  go_enter Try.func19, Try.ntmps19
  go_wp2
  exact bodyPost_ret (v := .tuple #[.string ⟨#[]⟩, .int .i64 14]) (by simp [results, Try.results19, go_sem]) rfl ⟨rfl, hb⟩

theorem readNone_calls (z : Int) (Ak Aw : Option Addr) (n ck m cw : Nat) (at_ : Int) (w : World) (ha : at_ < 0 ∨ (n : Int) ≤ at_) :
    Calls Try.prog 19 #[.agg #[.int .i64 z, .slice Ak n ck, .slice Aw m cw, .bool false], .int .i64 at_] w fun e w' =>
      e = .returned (.tuple #[.string ⟨#[]⟩, .int .i64 5]) ∧ Below w.heap.size w w' := by
  have hb := two_below w (.cells #[.int .i64 z, .slice Ak n ck, .slice Aw m cw, .bool false] 25) (.cells #[.int .i64 at_] 3)
  by_cases h1 : at_ < 0
  · have d1 : decide (at_ < 0) = true := by simp; omega
    go_enter Try.func19, Try.ntmps19
    go_wp2
    exact bodyPost_ret (v := .tuple #[.string ⟨#[]⟩, .int .i64 5]) (by simp [results, Try.results19, go_sem]) rfl ⟨rfl, hb⟩
  · have d1 : decide (at_ < 0) = false := by simp; omega
    have d2 : decide (at_ ≥ (n : Int)) = true := by simp; omega
    go_enter Try.func19, Try.ntmps19
    go_wp2
    exact bodyPost_ret (v := .tuple #[.string ⟨#[]⟩, .int .i64 5]) (by simp [results, Try.results19, go_sem]) rfl ⟨rfl, hb⟩
end Go.Proofs.Ytdilfdjhablnpaa
