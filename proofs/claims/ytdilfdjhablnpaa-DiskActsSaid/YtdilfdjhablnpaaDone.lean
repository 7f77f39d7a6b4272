/- The walk of disk.done: the sectors with writes done. -/
import Derived.Test.YtdilfdjhablnpaaFirst
import Derived.Test.YtdilfdjhablnpaaRegion
import Derived.Test.YtdilfdjhablnpaaRange2
import Derived.BigCall
namespace Go.Proofs.Ytdilfdjhablnpaa
open Go.RowKit Go.Shelf
attribute [local go_sem] Oper.semAt_some

/-- A sector with one write done. -/
def stepL (fst : Nat → ByteArray → ByteArray) (l : List ByteArray) (x : Nat × Wr) : List ByteArray :=
  l.set x.2.at_.toNat (over (l.getD x.2.at_.toNat ByteArray.empty) (fst x.1 x.2.s))

/-- The sectors with writes done. -/
def doneL (fst : Nat → ByteArray → ByteArray) (kept : List ByteArray) (xs : List (Nat × Wr)) : List ByteArray := xs.foldl (stepL fst) kept

theorem doneL_snoc (fst : Nat → ByteArray → ByteArray) (kept : List ByteArray) (xs : List (Nat × Wr)) (x : Nat × Wr) : doneL fst kept (xs ++ [x]) = stepL fst (doneL fst kept xs) x := by simp [doneL]
theorem stepL_len (fst : Nat → ByteArray → ByteArray) (l : List ByteArray) (x : Nat × Wr) : (stepL fst l x).length = l.length := by simp [stepL]
theorem doneL_len (fst : Nat → ByteArray → ByteArray) (kept : List ByteArray) (xs : List (Nat × Wr)) : (doneL fst kept xs).length = kept.length := by
  induction xs generalizing kept with
  | nil => rfl
  | cons x xs ih => show (doneL fst (stepL fst kept x) xs).length = _; rw [ih, stepL_len]

/-- The row of the sectors, of the call's own: none, or block g. -/
def OwnAt (A : Option Addr) (lo hi : Nat) (n : Nat) : Prop := (n = 0) ∨ ∃ g, A = some ⟨g, 0, none⟩ ∧ lo ≤ g ∧ g < hi

/-- Between two rounds. -/
structure DoneI (fst : Nat → ByteArray → ByteArray) (kept : List ByteArray) (A : Option Addr) (w W0 : World) (pre : List (Nat × Wr)) (W : World) : Prop where
  size : W0.heap.size ≤ W.heap.size
  keep : ∀ k, k < W0.heap.size → (∀ o, A ≠ some ⟨k, o, none⟩) → W.heap[k]? = W0.heap[k]?
  row : StrRow W A (doneL fst kept pre)
  frozen : ∀ k b o, k < kept.length → A = some ⟨b, o, none⟩ → W.frozen? ⟨b, o + k, none⟩ = false
  below : Below w.heap.size w W

/-- A closure that tells what a write leaves. -/
def FirstAt (fid : Nat) (lb : Array Value) (fst : Nat → ByteArray → ByteArray) (ws : List Wr) (w : World) : Prop :=
  ∀ (W : World), Below w.heap.size w W → ∀ x, x ∈ idxs ws → Calls Try.prog fid (#[.int .i64 (x.1 : Int), .string x.2.s] ++ lb) W fun e W' => e = .returned (.string (fst x.1 x.2.s)) ∧ W = W'

theorem bcell' {W w1 : World} (hb : Below W.heap.size W w1) : ∀ b o, b < W.heap.size → w1.cell? ⟨b, o, none⟩ = W.cell? ⟨b, o, none⟩ :=
  fun b o h => hb.cell (p := ⟨b, o, none⟩) h

/-- The world in which the loop begins. -/
def doneW (w1 : World) (out : Value) (z : Int) (ka wa : Value) (off : Bool) : World := (w1.alloc (.cells #[out] 22)).alloc (.cells #[.int .i64 z, ka, wa, .bool off] 25)

theorem doneW_size (w1 : World) (out : Value) (z : Int) (ka wa : Value) (off : Bool) : (doneW w1 out z ka wa off).heap.size = w1.heap.size + 2 := by simp [doneW]
theorem doneW_below (w1 : World) (out : Value) (z : Int) (ka wa : Value) (off : Bool) : Below w1.heap.size w1 (doneW w1 out z ka wa off) := ((Below.refl _ _).alloc (Nat.le_refl _) _).alloc (by simp) _
theorem doneW_out (w1 : World) (out : Value) (z : Int) (ka wa : Value) (off : Bool) : (doneW w1 out z ka wa off).cell? ⟨w1.heap.size, 0, none⟩ = some out := by
  unfold doneW
  rw [World.cell?_alloc_past _ _ _ (by simp), World.cell?_alloc_at _ _ _ _ rfl]; rfl
theorem doneW_ws (w1 : World) (out : Value) (z : Int) (ka wa : Value) (off : Bool) : (doneW w1 out z ka wa off).cell? ⟨w1.heap.size + 1, 2, none⟩ = some wa := by
  unfold doneW
  rw [World.cell?_alloc_at _ _ _ _ (by simp)]; rfl

theorem DoneI.kept {fst : Nat → ByteArray → ByteArray} {kept : List ByteArray} {A : Option Addr} {w W0 : World} {pre : List (Nat × Wr)} {V V' : World} {row : Option Nat} (h : DoneI fst kept A w W0 pre V)
    (hA : ∀ b o, A = some ⟨b, o, none⟩ → w.heap.size ≤ b ∧ b < W0.heap.size) (hw : w.heap.size ≤ W0.heap.size) (hg : V.grownBy V' row) (hr : ∀ r, row = some r → W0.heap.size ≤ r) : DoneI fst kept A w W0 pre V' := by
  have hk : ∀ k, k < W0.heap.size → V'.heap[k]? = V.heap[k]? := fun k hk => hg.block k (by have := h.size; omega) (fun e => by have := hr k e.symm; omega)
  refine ⟨Nat.le_trans h.size hg.size, fun k hk' hn => (hk k hk').trans (h.keep k hk' hn), fun k hl => ?_, fun k b o hl e => ?_, h.below.grown hg h.below.size (fun k e => by have := hr k e; omega)⟩
  · obtain ⟨b, o, e, hc⟩ := h.row k hl
    exact ⟨b, o, e, (World.cell?_of_block (w := V) (hk b (hA b o e).2)).trans hc⟩
  · exact (World.frozen?_of_block (w := V) (hk b (hA b o e).2)).trans (h.frozen k b o hl e)

theorem nodepthR {l m : Nat} : (Fence.wide.inRound l).depth.isSome = true → 1 ≤ m := fun h => by simp [Fence.wide, Fence.inRound] at h

theorem fold2 (p q : Tmp) (u v : Value) (t : Array Value) : (((#[p, q] : Array Tmp).zip #[u, v]).foldl (fun t (p, v) => t.setIfInBounds p v) t) = (t.setIfInBounds p u).setIfInBounds q v := by simp

set_option maxHeartbeats 2000000 in
set_option maxRecDepth 100000 in
theorem done_calls (z : Int) (Ak Aw : Option Addr) (n ck m cw : Nat) (off : Bool) (kept : List ByteArray) (ws : List Wr) (fid : Nat) (lb : Array Value) (fst : Nat → ByteArray → ByteArray) (w : World)
    (hn : n = kept.length) (hm : m = ws.length) (hnb : n ≤ 100000) (hmb : m ≤ 100000) (hk : StrRow w Ak kept) (hw : WrRow w Aw ws) (hfirst : FirstAt fid lb fst ws w)
    (hen : ∀ args w, (callFunc fid args).run Try.prog w = .ok (.enter fid args) w)
    (hat : ∀ x, x ∈ idxs ws → 0 ≤ x.2.at_ ∧ x.2.at_ < n) :
    Calls Try.prog 31 #[.agg #[.int .i64 z, .slice Ak n ck, .slice Aw m cw, .bool off], .func (.func fid) #[] lb] w fun e w' =>
      ∃ A c, e = .returned (.slice A n c) ∧ n ≤ c ∧ StrRow w' A (doneL fst kept (idxs ws)) ∧ OwnAt A w.heap.size w'.heap.size n ∧ Below w.heap.size w w' := by
  have HK := Lib.hid hk
  have HW := Lib.hid hw
  have HF := Lib.hid hfirst
  have HN := Lib.hid hn
  have HM := Lib.hid hm
  have HA := Lib.hid hat
  have HEN := Lib.hid hen
  clear hk hw hfirst hn hm hat hen
  refine (callsIn_wide (n := 6)).1 ?_
  refine callsIn_of_wp_marks Try.func31 rfl trivial ?_ rfl
  simp only [Try.ntmps31, List.size_toArray, List.length_cons, List.length_nil, Nat.reduceAdd, Nat.reduceSub, Array.replicate_succ, Array.replicate_zero, List.push_toArray, List.append_toArray, List.nil_append, List.cons_append]
  gi_wp2_with fail
  have hB1 : Below w.heap.size w ((w.alloc (.cells #[.int .i64 z, .slice Ak n ck, .slice Aw m cw, .bool off] 25)).alloc (.cells #[.func (.func fid) #[] lb] 63)) := ((Below.refl _ w).alloc (Nat.le_refl _) _).alloc (by simp) _
  refine ⟨trivial, (callsIn_wide.2 (clone_ok Ak n ck kept _ HN.out (HK.out.below hB1) (by omega))).mono ?_⟩
  rintro e w1 ⟨v, rfl, hown, hb1⟩
  obtain ⟨A, c, rfl, hnc, hrow, hfr⟩ := StrRow.of_own HN.out hown
  have hs1 : w.heap.size + 2 ≤ w1.heap.size := by have := hb1.size; simpa using this
  have cd := fun j => bcell' hb1 w.heap.size j (by simp; omega)
  have cf := (bcell' hb1 (w.heap.size + 1) 0 (by simp)).trans (by rw [World.cell?_alloc_at _ _ _ _ (by simp)])
  have d0 : w1.cell? ⟨w.heap.size, 0, none⟩ = some (.int .i64 z) := (cd 0).trans (by rw [World.cell?_alloc_past _ _ _ (by simp), World.cell?_alloc_at _ _ _ _ rfl]; rfl)
  have d1 : w1.cell? ⟨w.heap.size, 1, none⟩ = some (.slice Ak n ck) := (cd 1).trans (by rw [World.cell?_alloc_past _ _ _ (by simp), World.cell?_alloc_at _ _ _ _ rfl]; rfl)
  have d2 : w1.cell? ⟨w.heap.size, 2, none⟩ = some (.slice Aw m cw) := (cd 2).trans (by rw [World.cell?_alloc_past _ _ _ (by simp), World.cell?_alloc_at _ _ _ _ rfl]; rfl)
  have d3 : w1.cell? ⟨w.heap.size, 3, none⟩ = some (.bool off) := (cd 3).trans (by rw [World.cell?_alloc_past _ _ _ (by simp), World.cell?_alloc_at _ _ _ _ rfl]; rfl)
  have d4 : w1.cell? ⟨w.heap.size + 1, 0, none⟩ = some (.func (.func fid) #[] lb) := cf
  have hB2 : Below w.heap.size w w1 := hB1.trans (hb1.mono (by simp; omega))
  have hlt0 : w.heap.size < w1.heap.size := by omega
  have hlt1 : w.heap.size + 1 < w1.heap.size := by omega
  have hne0 : ¬ w1.heap.size = w.heap.size := by omega
  have HD4 := Lib.hid d4
  have HROW := Lib.hid hrow
  have HFR := Lib.hid hfr
  have HB2 := Lib.hid hB2
  clear hown hB1 hb1 cd cf d4 hfr hrow hB2
  gi_wp2_with fail
  refine ⟨trivial, (callsIn_wide.2 (writes_calls z (.slice Ak n ck) (.slice Aw m cw) off _)).mono ?_⟩
  rintro e w' ⟨rfl, rfl⟩
  have hW0 : ((w1.alloc (.cells #[.slice A n c] 22)).alloc (.cells #[.int .i64 z, .slice Ak n ck, .slice Aw m cw, .bool off] 25)) = doneW w1 (.slice A n c) z (.slice Ak n ck) (.slice Aw m cw) off := rfl
  rw [hW0]
  clear hW0 d0 d1 d2 d3
  gi_wp2
  have hAg : ∀ b o, A = some ⟨b, o, none⟩ → w.heap.size + 2 ≤ b ∧ b < w1.heap.size := fun b o e => by
    rcases HFR.out with ⟨e', _⟩ | ⟨g, e', h1, h2, _⟩
    · rw [e'] at e; cases e
    · rw [e'] at e; cases e; simp at h1; exact ⟨by omega, h2⟩
  have hN := doneW_size w1 (.slice A n c) z (.slice Ak n ck) (.slice Aw m cw) off
  have hWB := doneW_below w1 (.slice A n c) z (.slice Ak n ck) (.slice Aw m cw) off
  have hWO := doneW_out w1 (.slice A n c) z (.slice Ak n ck) (.slice Aw m cw) off
  have hWW := doneW_ws w1 (.slice A n c) z (.slice Ak n ck) (.slice Aw m cw) off
  generalize doneW w1 (.slice A n c) z (.slice Ak n ck) (.slice Aw m cw) off = W0 at *
  have hB0 : Below w.heap.size w W0 := HB2.out.trans (hWB.mono (by omega))
  have h4 : W0.cell? ⟨w.heap.size + 1, 0, none⟩ = some (.func (.func fid) #[] lb) := (bcell' hWB _ _ (by omega)).trans HD4.out
  have hinit : DoneI fst kept A w W0 [] W0 := by
    refine ⟨Nat.le_refl _, fun _ _ _ => rfl, HROW.out.below hWB, fun k b o hk e => ?_, hB0⟩
    rcases HFR.out with ⟨_, e'⟩ | ⟨g, e', h1, h2, h3⟩
    · rw [e'] at hk; simp at hk
    · rw [e'] at e; cases e
      rw [Nat.zero_add]
      exact (hWB.frozen (p := ⟨b, k, none⟩) h2).trans (h3 k hk)
  refine wpIn_rangeFunc_boxed rfl (by omega) (gf := 42) (lb := #[.pointer (some ⟨w1.heap.size + 1, 0, none⟩)]) rfl trivial (enters_of Try.func42 (by kernel_rfl) rfl)
    (writes_all 5 (w1.heap.size + 1) Aw m cw ws (fun k => k < w.heap.size) HM.out (by omega) (fun hl k hin => by
      obtain ⟨b, o, e, rfl⟩ := hin
      obtain ⟨b', o', e', hc', _⟩ := HW.out 0 hl
      rw [e] at e'; cases e'
      exact World.block_lt_of_cell? w _ hc'))
    (fun r hr => hr.elim) (fun k hk => by omega)
    (fun V hV => ⟨(bcell' hV _ _ (by omega)).trans hWW, HW.out.below (hB0.trans (hV.mono (by omega)))⟩) (fun _ => rfl)
    (DoneI fst kept A w W0) (fun pre A' B row h hg hr => h.kept (fun b o e => by have := hAg b o e; omega) (by omega) hg (fun r e => by rcases hr r e with h | h | h; exact h.elim; omega; omega))
    hinit ?round ?done
  case round =>
    intro l pre x V hI hpre hlt
    simp only [encWr]
    rw [fold2]
    have HI := Lib.hid hI
    have HP := Lib.hid hpre
    have HL := Lib.hid hlt
    clear hI hpre hlt
    gi_wp2
    refine ⟨fun k hk => Below.heap_alloc _ _ _ (by have := HL.out; omega), fun o => ?_⟩
    have hx : x ∈ idxs ws := HP.out.subset (by simp)
    have hax := HA.out x hx
    have hkn := HN.out
    have hVs := HL.out
    obtain ⟨t, ht⟩ := Int.eq_ofNat_of_zero_le hax.1
    have htn : t < kept.length := by omega
    obtain ⟨g, og, hAe, hcell⟩ := HI.out.row t (by rw [doneL_len]; exact htn)
    have hgb := hAg g og hAe
    have hsnoc := doneL_snoc fst kept pre x
    have hstep : stepL fst (doneL fst kept pre) x = (doneL fst kept pre).set t (over ((doneL fst kept pre).getD t ByteArray.empty) (fst x.1 x.2.s)) := by
      unfold stepL; rw [ht, Int.toNat_natCast]
    have hlenp := doneL_len fst kept pre
    have hkeep := HI.out.keep
    have hout : V.cell? ⟨w1.heap.size, 0, none⟩ = some (.slice A n c) := (World.cell?_of_block (w := W0) (hkeep w1.heap.size (by omega) (fun o' e => by have := hAg _ _ e; omega))).trans hWO
    have hfst : V.cell? ⟨w.heap.size + 1, 0, none⟩ = some (.func (.func fid) #[] lb) := (World.cell?_of_block (w := W0) (hkeep (w.heap.size + 1) (by omega) (fun o' e => by have := hAg _ _ e; omega))).trans h4
    have hfz := HI.out.frozen t g og htn hAe
    have hgr : V.grownBy ((V.alloc (.cells #[.int .i64 x.2.at_, .string x.2.s] 31)).putObj (W0.heap.size + 1) o) (some (W0.heap.size + 1)) := by
      have h1 := World.grownBy_alloc V (.cells #[.int .i64 x.2.at_, .string x.2.s] 31) none
      have h2 := grownBy_putObj' (V.alloc (.cells #[.int .i64 x.2.at_, .string x.2.s] 31)) (W0.heap.size + 1) o
      exact ⟨h2.os.trans h1.os, h2.tape.trans h1.tape, h2.output.trans h1.output, Nat.le_trans h1.size h2.size, fun k hk hne => (h2.block k (by have := h1.size; omega) hne).trans (h1.block k hk (by simp))⟩
    have hI2 := HI.out.kept (fun b o e => by have := hAg b o e; omega) (by omega) hgr (fun r e => by cases e; omega)
    have hold : ∀ k, k < W0.heap.size → ((V.alloc (.cells #[.int .i64 x.2.at_, .string x.2.s] 31)).putObj (W0.heap.size + 1) o).heap[k]? = V.heap[k]? := fun k hk => hgr.block k (by omega) (fun e => by cases e; omega)
    have hnew : ((V.alloc (.cells #[.int .i64 x.2.at_, .string x.2.s] 31)).putObj (W0.heap.size + 1) o).heap[V.heap.size]? = some (.cells #[.int .i64 x.2.at_, .string x.2.s] 31) := by
      rw [World.putObj_heap_other (by omega)]; exact World.alloc_heap_new _ _
    generalize (V.alloc (.cells #[.int .i64 x.2.at_, .string x.2.s] 31)).putObj (W0.heap.size + 1) o = V2 at *
    have c1 : V2.cell? ⟨w1.heap.size, 0, none⟩ = some (.slice A n c) := (World.cell?_of_block (w := V) (hold w1.heap.size (by omega))).trans hout
    have c2 : V2.cell? ⟨w.heap.size + 1, 0, none⟩ = some (.func (.func fid) #[] lb) := (World.cell?_of_block (w := V) (hold (w.heap.size + 1) (by omega))).trans hfst
    have c3 : V2.cell? ⟨V.heap.size, 0, none⟩ = some (.int .i64 x.2.at_) := by simp [World.cell?, hnew]
    have c4 : V2.cell? ⟨V.heap.size, 1, none⟩ = some (.string x.2.s) := by simp [World.cell?, hnew]
    have c5 : V2.cell? ⟨g, og + t, none⟩ = some (.string ((doneL fst kept pre).getD t ByteArray.empty)) := (World.cell?_of_block (w := V) (hold g (by omega))).trans hcell
    have c6 : V2.frozen? ⟨g, og + t, none⟩ = false := (World.frozen?_of_block (w := V) (hold g (by omega))).trans hfz
    have hfc := fun W' (hW' : Below w.heap.size w W') => HF.out W' hW' x hx
    have HB := Lib.hid hI2.below
    have HI2 := Lib.hid hI2
    have HFC := Lib.hid hfc
    have HSN := Lib.hid hsnoc
    rw [ht] at c3
    subst hAe
    generalize hold' : (doneL fst kept pre).getD t ByteArray.empty = oldS at *
    generalize hres : fst x.1 x.2.s = resS at *
    clear hkeep hout hfst hfz hgr hI2 hold hnew hcell hfc hsnoc
    gi_wp2_with fail
    refine region_puts (by kernel_rfl) (by kernel_rfl) (by kernel_rfl) (by kernel_rfl) (Nat.zero_lt_succ _) (fun _ => trivial) (fun W' => Below V2.heap.size V2 W') (fun W' => ∃ W'', Below V2.heap.size V2 W'' ∧ W' = W''.setCell ⟨g, og + t, none⟩ (.string (over oldS resS)))
      (fun i => #[.slice (some ⟨g, og, none⟩) n c, .pointer (some ⟨V.heap.size, 0, none⟩), .int .i64 t, .slice (some ⟨g, og, none⟩) n c, .pointer (some ⟨V.heap.size, 0, none⟩), .int .i64 t, .pointer (some ⟨g, og + t, none⟩), .string oldS,
        .func (.func fid) #[] lb, .int .i64 x.1, .pointer (some ⟨V.heap.size, 1, none⟩), .string x.2.s, .string resS, .string (over oldS resS), .pointer (some ⟨g, og + t, none⟩)].getD i undef)
      { tmps := #[.agg #[.int .i64 z, .slice Ak n ck, .slice Aw m cw, .bool off], .func (.func fid) #[] lb, .pointer (some ⟨w.heap.size, 0, none⟩), .pointer (some ⟨w.heap.size + 1, 0, none⟩), .slice none 0 0, .pointer (some ⟨w1.heap.size, 0, none⟩), .int .i64 x.1, .pointer (some ⟨V.heap.size, 0, none⟩), .pointer (some ⟨w.heap.size, 1, none⟩), .slice Ak n ck, .slice (some ⟨g, og, none⟩) n c,
          .agg #[.int .i64 z, .slice Ak n ck, .slice Aw m cw, .bool off], .func (.func 42) #[] #[.pointer (some ⟨w1.heap.size + 1, 0, none⟩)], .int .i64 x.1, .agg #[.int .i64 x.2.at_, .string x.2.s],
          .slice (some ⟨g, og, none⟩) n c, .pointer (some ⟨V.heap.size, 0, none⟩), .int .i64 t, .slice (some ⟨g, og, none⟩) n c, .pointer (some ⟨V.heap.size, 0, none⟩), .int .i64 t, .pointer (some ⟨g, og + t, none⟩), .string oldS,
          .func (.func fid) #[] lb, .int .i64 x.1, .pointer (some ⟨V.heap.size, 1, none⟩), .string x.2.s, .string resS, .string (over oldS resS), .pointer (some ⟨g, og + t, none⟩), undef], defers := [] } ?ra ?rb ?rc ?rd ?re
    case ra => kernel_rfl
    case rb => exact (Below.refl _ _).drew
    case re =>
      rintro W' ⟨W'', hW'', rfl⟩
      show (∀ k, _ → _) ∧ DoneI _ _ _ _ _ _ _
      have hlt5 := World.block_lt_of_cell? V2 _ c5
      have hblk : ∀ k, k < V2.heap.size → k ≠ g → (W''.setCell ⟨g, og + t, none⟩ (.string (over oldS resS))).heap[k]? = V2.heap[k]? := fun k hk hne =>
        (Below.heap_setCell _ _ _ _ hne).trans (hW''.block k hk)
      have hV2s := HI2.out.size
      have hVlt := World.block_lt_of_cell? V2 _ c3
      have hVlt' : V.heap.size < V2.heap.size := hVlt
      refine ⟨fun k hk => hblk k ?_ ?_, ⟨?_, ?_, ?_, ?_, ?_⟩⟩
      · rcases hk with h | h | h <;> omega
      · rcases hk with h | h | h <;> omega
      · have := hW''.size
        simp [World.setCell]
        omega
      · intro k hk hne
        exact (hblk k (by omega) (fun e => hne og (by rw [e]))).trans (HI2.out.keep k hk hne)
      · rw [HSN.out, hstep]
        intro k hk
        rw [List.length_set] at hk
        refine ⟨g, og, rfl, ?_⟩
        by_cases e : k = t
        · subst e
          rw [World.cell?_setCell_same' _ _ _ (by rw [bcell' hW'' g (og + k) hlt5, c5]; rfl)]
          simp [List.getD_eq_getElem?_getD, hk]
        · obtain ⟨b, o', e', hc⟩ := HI2.out.row k hk
          cases e'
          rw [World.cell?_setCell_other _ _ _ _ (by simp), bcell' hW'' g (og + k) (World.block_lt_of_cell? V2 _ hc), hc]
          simp [List.getD_eq_getElem?_getD, Ne.symm e]
      · intro k b o' hk e
        rw [World.frozen?_setCell]
        cases e
        exact (hW''.frozen (p := ⟨g, og + k, none⟩) hlt5).trans (HI2.out.frozen k g og hk rfl)
      · exact ((HB.out.trans (hW''.mono HB.out.size)).setCell (p := ⟨g, og + t, none⟩) (by simp; omega) _)
    case rc =>
      intro i oi hi ho W' hW'
      have e1 := bcell' hW' w1.heap.size 0 (World.block_lt_of_cell? V2 _ c1)
      have e2 := bcell' hW' (w.heap.size + 1) 0 (World.block_lt_of_cell? V2 _ c2)
      have e3 := bcell' hW' V.heap.size 0 (World.block_lt_of_cell? V2 _ c3)
      have e4 := bcell' hW' V.heap.size 1 (World.block_lt_of_cell? V2 _ c4)
      have e5 := bcell' hW' g (og + t) (World.block_lt_of_cell? V2 _ c5)
      rw [c1] at e1; rw [c2] at e2; rw [c3] at e3; rw [c4] at e4; rw [c5] at e5
      have hi' : i = 0 ∨ i = 1 ∨ i = 2 ∨ i = 3 ∨ i = 4 ∨ i = 5 ∨ i = 6 ∨ i = 7 ∨ i = 8 ∨ i = 9 ∨ i = 10 ∨ i = 11 ∨ i = 12 ∨ i = 13 ∨ i = 14 := by
        have : i + 1 < 16 := hi
        omega
      have hnl : (t : Int) < n := by omega
      have htn' : t < n := by omega
      rcases hi' with rfl | rfl | rfl | rfl | rfl | rfl | rfl | rfl | rfl | rfl | rfl | rfl | rfl | rfl | rfl
      all_goals
        simp only [List.getElem?_toArray, List.getElem?_cons_succ, List.getElem?_cons_zero, Option.some.injEq] at ho
        subst ho
      all_goals
        have hen := HEN.out
        (try go_simp)
        first
          | exact ⟨rfl, hW'⟩
          | exact ⟨nodepthR, ((callsIn_wide.2 (HFC.out W' (HB.out.trans (hW'.mono HB.out.size)))).inRound l).mono (fun e w' he => ⟨he.1, he.2 ▸ hW'⟩)⟩
          | exact ⟨nodepthR, ((callsIn_wide.2 (over_calls oldS resS W')).inRound l).mono (fun e w' he => ⟨he.1, hW'.trans (he.2.mono hW'.size)⟩)⟩
    case rd =>
      intro oi ho W' hW'
      have e5 := bcell' hW' g (og + t) (World.block_lt_of_cell? V2 _ c5)
      have e6 := (hW'.frozen (p := ⟨g, og + t, none⟩) (World.block_lt_of_cell? V2 _ c5)).trans c6
      rw [c5] at e5
      have ho' := Option.some.inj ho
      subst ho'
      go_simp
      exact ⟨rfl, W', hW', rfl⟩
  case done =>
    rintro V ⟨hsz, hkeep, hrow, hfrz, hbel⟩ hD
    have hout : V.cell? ⟨w1.heap.size, 0, none⟩ = some (.slice A n c) := (World.cell?_of_block (w := W0) (hkeep w1.heap.size (by omega) (fun o' e => by have := hAg _ _ e; omega))).trans hWO
    have HROW2 := Lib.hid hrow
    clear hkeep hrow hfrz
    gi_wp2
    refine ⟨by simp, .inl ⟨_, _, rfl, run_takeDeferred hD, _, results_tmp rfl _ _ _, A, c, rfl, hnc, ?_, ?_, hbel.trans (belowK_b (w := w) (Nat.le_refl _) V W0.heap.size _ _ (by omega) hD rfl rfl)⟩⟩
    · intro k hk
      obtain ⟨b, o, e, hc⟩ := HROW2.out k hk
      have q := hAg b o e
      have hne : b ≠ W0.heap.size := by omega
      exact ⟨b, o, e, (World.cell?_of_block (w := V) (World.putObj_heap_other hne)).trans hc⟩
    · by_cases h0 : n = 0
      · exact .inl h0
      · rcases HFR.out with ⟨_, e'⟩ | ⟨g, e', h1, h2, _⟩
        · have := HN.out; rw [e'] at this; exact .inl this
        · have q := hAg g 0 e'
          have hsz' : W0.heap.size ≤ (V.putObj W0.heap.size (.deferred none)).heap.size := by simpa using hsz
          exact .inr ⟨g, e', by omega, by omega⟩

end Go.Proofs.Ytdilfdjhablnpaa
