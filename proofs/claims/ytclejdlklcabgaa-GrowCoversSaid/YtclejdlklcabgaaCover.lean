/- The walk of grow.Cover. -/
import Derived.Test.YtclejdlklcabgaaCovers
import Derived.Test.YtclejdlklcabgaaSteps
namespace Go.Proofs.Ytclejdlklcabgaa
open Go.RowKit Go.Shelf Plain
attribute [local go_sem] Oper.semAt_some

theorem covers_calls (m n : Int) (w : World) :
    Calls Try.prog 14 #[.int .i64 m, .int .i64 n] w fun e w' => e = .returned (.func (.func 17) #[] #[.pointer (some ⟨w.heap.size, 0, none⟩), .pointer (some ⟨w.heap.size + 1, 0, none⟩)]) ∧
      w' = (w.alloc (.cells #[.int .i64 m] 3)).alloc (.cells #[.int .i64 n] 3) := by
  have hmf : ∀ (fn : Fn) (first cap : Array Value) (w : World), (Instr.makeFunc fn first cap).run Try.prog w = .ok (.func fn first cap) w := fun _ _ _ _ => rfl
  go_enter Try.func14, Try.ntmps14
  go_wp2
  go_ret
  exact ⟨rfl, rfl⟩

/-- Two cells of whatever numbers. -/
structure IntAt (bm bn : Nat) (m n : Int) (W : World) : Prop where
  cm : W.cell? ⟨bm, 0, none⟩ = some (.int .i64 m)
  cn : W.cell? ⟨bn, 0, none⟩ = some (.int .i64 n)

theorem covers_none (q bm bn : Nat) (m n : Int) (h : m < 0 ∨ n < m ∨ 4096 < n) (C K : Nat → Prop) :
    SeqAll Fence.wide q Try.prog 17 #[.pointer (some ⟨bm, 0, none⟩), .pointer (some ⟨bn, 0, none⟩)] encCov (IntAt bm bn m n) C K [] := by
  intro l J W hR _ _ h0
  obtain ⟨cm, cn⟩ := hR
  have H0 := Lib.hid h0
  clear h0
  by_cases h1 : m < 0
  · refine callsIn_of_wp Try.func17 rfl trivial ?_ rfl
    simp only [Try.ntmps17, List.size_toArray, List.length_cons, List.length_nil, Nat.reduceAdd, Nat.reduceSub, Array.replicate_succ, Array.replicate_zero, List.push_toArray, List.append_toArray, List.nil_append, List.cons_append]
    gi_wp2
    refine bodyPost_ret (results_none rfl _ _ _) rfl ?_
    exact ⟨⟨_, rfl⟩, H0.out⟩
  · by_cases h2 : n < m
    · have h1' : 0 ≤ m := by omega
      refine callsIn_of_wp Try.func17 rfl trivial ?_ rfl
      simp only [Try.ntmps17, List.size_toArray, List.length_cons, List.length_nil, Nat.reduceAdd, Nat.reduceSub, Array.replicate_succ, Array.replicate_zero, List.push_toArray, List.append_toArray, List.nil_append, List.cons_append]
      gi_wp2
      refine bodyPost_ret (results_none rfl _ _ _) rfl ?_
      exact ⟨⟨_, rfl⟩, H0.out⟩
    · have h1' : 0 ≤ m := by omega
      have h2' : m ≤ n := by omega
      have h3 : 4096 < n := by omega
      refine callsIn_of_wp Try.func17 rfl trivial ?_ rfl
      simp only [Try.ntmps17, List.size_toArray, List.length_cons, List.length_nil, Nat.reduceAdd, Nat.reduceSub, Array.replicate_succ, Array.replicate_zero, List.push_toArray, List.append_toArray, List.nil_append, List.cons_append]
      gi_wp2
      refine bodyPost_ret (results_none rfl _ _ _) rfl ?_
      exact ⟨⟨_, rfl⟩, H0.out⟩

/-- The world in which the loop begins. -/
def covW (m n : Int) (w : World) : World := ((w.alloc (.cells #[.slice none 0 0] 23)).alloc (.cells #[.int .i64 m] 3)).alloc (.cells #[.int .i64 n] 3)

theorem covW_size (m n : Int) (w : World) : (covW m n w).heap.size = w.heap.size + 3 := by simp [covW]
theorem covW_below (m n : Int) (w : World) : Below w.heap.size w (covW m n w) :=
  (((Below.refl _ w).alloc (Nat.le_refl _) _).alloc (by simp) _).alloc (by simp; omega) _
theorem covW_out (m n : Int) (w : World) : (covW m n w).cell? ⟨w.heap.size, 0, none⟩ = some (.slice none 0 0) ∧ (covW m n w).frozen? ⟨w.heap.size, 0, none⟩ = false := by
  constructor
  · unfold covW
    rw [World.cell?_alloc_past _ _ _ (by simp; omega), World.cell?_alloc_past _ _ _ (by simp), World.cell?_alloc_at _ _ _ _ rfl]; rfl
  · unfold covW
    rw [World.frozen?_alloc_past _ _ _ (by simp; omega), World.frozen?_alloc_past _ _ _ (by simp), World.frozen?_alloc_at _ _ _ _ rfl]
theorem covW_at (m n : Nat) (w W : World) (h : Below (covW m n w).heap.size (covW m n w) W) : DownAt (w.heap.size + 1) (w.heap.size + 1 + 1) n m W := by
  have hs := covW_size m n w
  have h0 : DownAt (w.heap.size + 1) (w.heap.size + 1 + 1) n m (covW m n w) := by
    unfold covW
    refine ⟨?_, ?_, ?_, ?_⟩
    · rw [World.cell?_alloc_past _ _ _ (by simp), World.cell?_alloc_at _ _ _ _ (by simp)]; rfl
    · rw [World.frozen?_alloc_past _ _ _ (by simp), World.frozen?_alloc_at _ _ _ _ (by simp)]
    · rw [World.cell?_alloc_at _ _ _ _ (by simp)]; rfl
    · rw [World.frozen?_alloc_at _ _ _ _ (by simp)]
  exact h0.kept (fun k hk => h.block k (by omega))
theorem covW_ints (m n : Int) (w W : World) (h : Below (covW m n w).heap.size (covW m n w) W) : IntAt (w.heap.size + 1) (w.heap.size + 1 + 1) m n W := by
  have hs := covW_size m n w
  refine ⟨(World.cell?_of_block (w := covW m n w) (h.block (w.heap.size + 1) (by omega))).trans ?_, (World.cell?_of_block (w := covW m n w) (h.block (w.heap.size + 1 + 1) (by omega))).trans ?_⟩
  · unfold covW; rw [World.cell?_alloc_past _ _ _ (by simp), World.cell?_alloc_at _ _ _ _ (by simp)]; rfl
  · unfold covW; rw [World.cell?_alloc_at _ _ _ _ (by simp)]; rfl

/-- The sizes that have come, as Go's ints. -/
def szs (l : List (Nat × Nat)) : List Int := l.map fun x => (x.2 : Int)

/-- Between two rounds: the row of the sizes that have come. -/
def CovI (w : World) (pre : List (Nat × Nat)) (W : World) : Prop :=
  ∃ v, (W.cell? ⟨w.heap.size, 0, none⟩ = some v ∧ W.frozen? ⟨w.heap.size, 0, none⟩ = false) ∧ W.ownsRow (w.heap.size + 5) 3 1 v (szs pre).length ((szs pre).map (Value.int .i64)) ∧ Below w.heap.size w W

theorem CovI.kept {w : World} {pre : List (Nat × Nat)} {A B : World} {row : Option Nat} (h : CovI w pre A) (hg : A.grownBy B row) (hr : ∀ r, row = some r → w.heap.size < r ∧ r < w.heap.size + 5) : CovI w pre B := by
  obtain ⟨v, ⟨hc, hf⟩, ho, hb⟩ := h
  have hlt := World.block_lt_of_cell? A _ hc
  have hk : B.heap[w.heap.size]? = A.heap[w.heap.size]? := hg.block _ hlt (fun e => by have := hr _ e.symm; omega)
  refine ⟨v, ⟨(World.cell?_of_block (w := A) hk).trans hc, (World.frozen?_of_block (w := A) hk).trans hf⟩, ho.kept hg ?_, hb.grown hg hb.size (fun k e => by have := hr k e; omega)⟩
  cases hv : v.ownBlock with
  | none => exact .inl rfl
  | some k => exact .inr (fun e => by have := (ho.lt k hv).1; have := hr k e.symm; omega)

theorem CovI.more {w : World} {pre : List (Nat × Nat)} {v : Value} {A B : World} {x : Nat × Nat} {v' : Value} {o : Obj}
    (hc : A.cell? ⟨w.heap.size, 0, none⟩ = some v) (hf : A.frozen? ⟨w.heap.size, 0, none⟩ = false) (ho : A.ownsRow (w.heap.size + 5) 3 1 v (szs pre).length ((szs pre).map (Value.int .i64))) (hb : Below w.heap.size w A)
    (ho' : B.ownsRow (w.heap.size + 5) 3 1 v' ((szs pre).length + 1) ((szs pre).map (Value.int .i64) ++ [.int .i64 x.2])) (hg : (A.alloc o).grownBy B v.ownBlock) :
    CovI w (pre ++ [x]) (B.setCell ⟨w.heap.size, 0, none⟩ v') := by
  have hlt := World.block_lt_of_cell? A _ hc
  simp only at hlt
  have hne : some w.heap.size ≠ v.ownBlock := fun e => by have := (ho.lt _ e.symm).1; omega
  have hk : B.heap[w.heap.size]? = A.heap[w.heap.size]? := (hg.block _ (by simp; omega) hne).trans (Below.heap_alloc _ _ _ hlt)
  have hc' : B.cell? ⟨w.heap.size, 0, none⟩ = some v := (World.cell?_of_block (w := A) hk).trans hc
  have hb' : Below w.heap.size w B := (hb.alloc hb.size o).grown hg (by simp; have := hb.size; omega) (fun k e => by have := (ho.lt k e).1; omega)
  refine ⟨v', ⟨World.cell?_setCell_same' _ _ _ (by rw [hc']; rfl), by rw [World.frozen?_setCell]; exact (World.frozen?_of_block (w := A) hk).trans hf⟩, ?_, hb'.setCell (p := ⟨w.heap.size, 0, none⟩) (Nat.le_refl _) _⟩
  have := ownsRow_setCell_below (a := ⟨w.heap.size, 0, none⟩) ho' (by simp) v'
  simpa [szs] using this

set_option maxHeartbeats 2000000 in
set_option maxRecDepth 100000 in
/-- Whatever the iterator hands out, Cover's row holds. -/
theorem cover_of (m n : Int) (l : List (Nat × Nat)) (w : World) (hl : l.length ≤ 5000) (R : World → Prop) (hR : ∀ V, Below (covW m n w).heap.size (covW m n w) V → R V)
    (hseq : SeqAll Fence.wide 5 Try.prog 17 #[.pointer (some ⟨w.heap.size + 1, 0, none⟩), .pointer (some ⟨w.heap.size + 1 + 1, 0, none⟩)] encCov R (fun r => r = w.heap.size + 1) (fun r => r = w.heap.size + 1 ∨ r = w.heap.size + 1 + 1) l) :
    Calls Try.prog 7 #[.int .i64 m, .int .i64 n] w fun e w' => ∃ v, e = .returned v ∧ w'.ownsRow (w.heap.size + 5) 3 1 v (szs l).length ((szs l).map (Value.int .i64)) ∧ Below w.heap.size w w' := by
  obtain ⟨i0, hi, hz0, hz1, hz2⟩ := info_parts Try.infoInt
  have HSEQ := Lib.hid hseq
  have HR := Lib.hid hR
  clear hseq hR
  refine (callsIn_wide (n := 6)).1 ?_
  refine callsIn_of_wp_marks Try.func7 rfl trivial ?_ rfl
  simp only [Try.ntmps7, List.size_toArray, List.length_cons, List.length_nil, Nat.reduceAdd, Nat.reduceSub, Array.replicate_succ, Array.replicate_zero, List.push_toArray, List.append_toArray, List.nil_append, List.cons_append]
  gi_wp2_with fail
  refine ⟨trivial, (callsIn_wide.2 (covers_calls m n _)).mono ?_⟩
  rintro e w' ⟨rfl, rfl⟩
  have hw : ((w.alloc (.cells #[.slice none 0 0] 23)).alloc (.cells #[.int .i64 m] 3)).alloc (.cells #[.int .i64 n] 3) = covW m n w := rfl
  rw [hw]
  have hs := covW_size m n w
  have h0 : CovI w [] (covW m n w) := ⟨_, covW_out m n w, World.ownsRow_nil _ _ _ _, covW_below m n w⟩
  generalize hW : covW m n w = W at *
  have HS := Lib.hid hs
  have H0 := Lib.hid h0
  clear hw hW hs h0
  gi_wp2
  refine wpIn_rangeFunc_all rfl (by omega) (gf := 17) (lb := #[.pointer (some ⟨w.heap.size + 1, 0, none⟩), .pointer (some ⟨w.heap.size + 1 + 1, 0, none⟩)]) rfl trivial (enters_of Try.func17 (by kernel_rfl) rfl)
    HSEQ.out (fun r hr => by rw [HS.out]; omega) (fun r hr => by rw [HS.out]; omega) HR.out (fun _ => rfl)
    (CovI w) (fun pre A B row h hg hr => h.kept hg (fun r e => by have := hr r e; rw [HS.out] at this; omega))
    H0.out
    (fun x => { tmps := #[.int .i64 m, .int .i64 n, undef, undef, .slice none 0 0, .pointer (some ⟨w.heap.size, 0, none⟩), undef, .int .i64 x.2, .int .i64 m, .int .i64 n,
      .func (.func 17) #[] #[.pointer (some ⟨w.heap.size + 1, 0, none⟩), .pointer (some ⟨w.heap.size + 1 + 1, 0, none⟩)], .int .i64 x.1, .int .i64 x.2, undef, undef, undef, undef, undef], defers := [] }) ?assign ?body ?done
  case assign =>
    intro l x V M hM
    simp only [encCov]
    rw [fold2]
    gi_wp2
    exact hM
  case body =>
    rintro q pre x V ⟨v, ⟨hc, hf⟩, ho, hb⟩ hpre hlt
    have hlen := hpre.length_le
    simp only [List.length_append, List.length_singleton] at hlen
    have hsl : (szs pre).length = pre.length := by simp [szs]
    have hlen2 : (szs pre).length ≤ 5000 := by omega
    have HL := Lib.hid hlt
    have hbs := hb.size
    clear hpre hlen hsl hlt
    have HC := Lib.hid hc
    have HF := Lib.hid hf
    gi_wp2_with (gi_at_builtin; refine wpListIn_append_own _ rfl _ _ 23 rfl (w.heap.size + 5) 3 i0 (.int .i64 0) 1 8 Try.underlying23 hi hz0 hz1 hz2 rfl (by decide) _ _ _ rfl (ho.alloc _) ⟨V.heap.size, 0, none⟩ 1 1 [.int .i64 x.2] rfl rfl (cell_one_new _ _ _) (by intro u hu; simp at hu; subst hu; rfl) (by unfold maxLen; omega) (by omega) (by have := HS.out; have := HL.out; simp; omega) ?_)
    intro v' w1 hown' hgrow _
    obtain ⟨g', cap', rfl⟩ := ownsRow_succ hown'
    have hmore := CovI.more (x := x) HC.out HF.out ho hb hown' hgrow
    have hk1 : ∀ k, k < w.heap.size + 5 → w1.heap[k]? = V.heap[k]? := fun k hk => by
      have := HS.out; have := HL.out
      rw [hgrow.block k (by simp; omega) (fun e => by have := (ho.lt k e.symm).1; omega), Below.heap_alloc _ _ _ (by omega)]
    have hc1 : w1.cell? ⟨w.heap.size, 0, none⟩ = some v := (World.cell?_of_block (w := V) (hk1 w.heap.size (by omega))).trans HC.out
    have hf1 : w1.frozen? ⟨w.heap.size, 0, none⟩ = false := (World.frozen?_of_block (w := V) (hk1 w.heap.size (by omega))).trans HF.out
    have HM := Lib.hid hmore
    have HK := Lib.hid hk1
    clear hmore hk1 hown' hgrow ho hc hf
    gi_wp2
    have hS := HS.out
    exact ⟨fun k hk => by rw [Below.heap_setCell _ _ _ _ (by simp; omega)]; exact HK.out k (by omega), HM.out⟩
  case done =>
    rintro V ⟨v, ⟨hc, hf⟩, ho, hb⟩ hD
    gi_wp2
    have hS := HS.out
    exact ⟨by simp, .inl ⟨_, _, rfl, run_takeDeferred hD, _, results_tmp rfl _ _ _, _, rfl, ho.kept (grownBy_putObj' _ _ _) (by
      cases hv : v.ownBlock with
      | none => exact .inl rfl
      | some k => exact .inr (fun e => by have := (ho.lt k hv).1; cases e; omega)), hb.trans (belowK_b (w := w) (Nat.le_refl _) V W.heap.size _ _ (by omega) hD rfl rfl)⟩⟩

/-- The cover's sizes. -/
def covs (m n : Nat) : List Int := szs (cov 4096 m n)

theorem cover_calls (m n : Nat) (w : World) (hm : m ≤ n) (hn : n ≤ 4096) :
    Calls Try.prog 7 #[.int .i64 m, .int .i64 n] w fun e w' => ∃ v, e = .returned v ∧ w'.ownsRow (w.heap.size + 5) 3 1 v (covs m n).length ((covs m n).map (Value.int .i64)) ∧ Below w.heap.size w w' :=
  cover_of m n (cov 4096 m n) w (by have := cov_few 4096 m n hn; omega) _ (fun V hV => covW_at m n w V hV)
    (covers_all 4096 5 (w.heap.size + 1) (w.heap.size + 1 + 1) m n (by omega) hn hm (by omega))

theorem cover_none (m n : Int) (w : World) (h : m < 0 ∨ n < m ∨ 4096 < n) :
    Calls Try.prog 7 #[.int .i64 m, .int .i64 n] w fun e w' => (∃ a cap, e = .returned (.slice a 0 cap)) ∧ Below w.heap.size w w' := by
  refine (cover_of m n [] w (by simp) (IntAt (w.heap.size + 1) (w.heap.size + 1 + 1) m n) ?_ (covers_none 5 _ _ m n h _ _)).mono ?_
  · intro V hV
    have hs := covW_size m n w
    refine ⟨(World.cell?_of_block (w := covW m n w) (hV.block (w.heap.size + 1) (by omega))).trans ?_, (World.cell?_of_block (w := covW m n w) (hV.block (w.heap.size + 1 + 1) (by omega))).trans ?_⟩
    · unfold covW; rw [World.cell?_alloc_past _ _ _ (by simp), World.cell?_alloc_at _ _ _ _ (by simp)]; rfl
    · unfold covW; rw [World.cell?_alloc_at _ _ _ _ (by simp)]; rfl
  · rintro e w' ⟨v, rfl, ⟨_, ho⟩, hb⟩
    rcases ho with ⟨rfl, _⟩ | ⟨g, cap, cur, rfl, _⟩
    · exact ⟨⟨_, _, rfl⟩, hb⟩
    · exact ⟨⟨_, _, rfl⟩, hb⟩

end Go.Proofs.Ytclejdlklcabgaa
