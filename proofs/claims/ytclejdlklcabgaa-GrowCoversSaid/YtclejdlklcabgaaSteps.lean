/- The walk of member.Steps: how many nodes stand above a leaf. -/
import Derived.Test.YtclejdlklcabgaaDowns
namespace Go.Proofs.Ytclejdlklcabgaa
open Go.RowKit Go.Shelf Plain
attribute [local go_sem] Oper.semAt_some

theorem downs_len : ∀ f i n, (downs f i n).length ≤ f
  | 0, _, _ => by simp [downs]
  | f + 1, i, n => by
    simp only [downs]
    split
    · simp
    · split
      · have := downs_len f i (half n); simp; omega
      · have := downs_len f (i - half n) (n - half n); simp; omega

/-- How many steps a path has. -/
def steps (i n : Nat) : Nat := (downs 4096 i n).length

theorem downs_calls (i n : Int) (w : World) :
    Calls Try.prog 16 #[.int .i64 i, .int .i64 n] w fun e w' => e = .returned (.func (.func 20) #[] #[.pointer (some ⟨w.heap.size + 1, 0, none⟩), .pointer (some ⟨w.heap.size, 0, none⟩)]) ∧
      w' = (w.alloc (.cells #[.int .i64 i] 3)).alloc (.cells #[.int .i64 n] 3) := by
  have hmf : ∀ (fn : Fn) (first cap : Array Value) (w : World), (Instr.makeFunc fn first cap).run Try.prog w = .ok (.func fn first cap) w := fun _ _ _ _ => rfl
  go_enter Try.func16, Try.ntmps16
  go_wp2
  go_ret
  exact ⟨rfl, rfl⟩

theorem steps_none (i n : Int) (w : World) (h : i < 0 ∨ n ≤ i ∨ 4096 < n) :
    Calls Try.prog 13 #[.int .i64 i, .int .i64 n] w fun e w' => e = .returned (.int .i64 (-1)) ∧ w = w' := by
  by_cases h1 : i < 0
  · go_enter Try.func13, Try.ntmps13
    go_wp2
    go_ret
    exact ⟨rfl, rfl⟩
  · by_cases h2 : n ≤ i
    · have h1' : 0 ≤ i := by omega
      go_enter Try.func13, Try.ntmps13
      go_wp2
      go_ret
      exact ⟨rfl, rfl⟩
    · have h1' : 0 ≤ i := by omega
      have h2' : i < n := by omega
      have h3 : 4096 < n := by omega
      go_enter Try.func13, Try.ntmps13
      go_wp2
      go_ret
      exact ⟨rfl, rfl⟩

theorem fold2 (p q : Tmp) (u v : Value) (t : Array Value) : (((#[p, q] : Array Tmp).zip #[u, v]).foldl (fun t (p, v) => t.setIfInBounds p v) t) = (t.setIfInBounds p u).setIfInBounds q v := by simp

/-- The world in which the loop begins. -/
def stepsW (i n : Int) (w : World) : World := ((w.alloc (.cells #[.int .i64 0] 3)).alloc (.cells #[.int .i64 i] 3)).alloc (.cells #[.int .i64 n] 3)

theorem stepsW_size (i n : Int) (w : World) : (stepsW i n w).heap.size = w.heap.size + 3 := by simp [stepsW]
theorem stepsW_below (i n : Int) (w : World) : Below w.heap.size w (stepsW i n w) :=
  (((Below.refl _ w).alloc (Nat.le_refl _) _).alloc (by simp) _).alloc (by simp; omega) _
theorem stepsW_many (i n : Int) (w : World) : (stepsW i n w).cell? ⟨w.heap.size, 0, none⟩ = some (.int .i64 0) ∧ (stepsW i n w).frozen? ⟨w.heap.size, 0, none⟩ = false := by
  constructor
  · unfold stepsW
    rw [World.cell?_alloc_past _ _ _ (by simp; omega), World.cell?_alloc_past _ _ _ (by simp), World.cell?_alloc_at _ _ _ _ rfl]; rfl
  · unfold stepsW
    rw [World.frozen?_alloc_past _ _ _ (by simp; omega), World.frozen?_alloc_past _ _ _ (by simp), World.frozen?_alloc_at _ _ _ _ rfl]
theorem stepsW_at (i n : Nat) (w W : World) (h : Below (stepsW i n w).heap.size (stepsW i n w) W) : DownAt (w.heap.size + 2) (w.heap.size + 1) i n W := by
  have hs := stepsW_size i n w
  have h0 : DownAt (w.heap.size + 2) (w.heap.size + 1) i n (stepsW i n w) := by
    unfold stepsW
    refine ⟨?_, ?_, ?_, ?_⟩
    · rw [World.cell?_alloc_at _ _ _ _ (by simp)]; rfl
    · rw [World.frozen?_alloc_at _ _ _ _ (by simp)]
    · rw [World.cell?_alloc_past _ _ _ (by simp), World.cell?_alloc_at _ _ _ _ (by simp)]; rfl
    · rw [World.frozen?_alloc_past _ _ _ (by simp), World.frozen?_alloc_at _ _ _ _ (by simp)]
  exact h0.kept (fun k hk => h.block k (by omega))

/-- Between two rounds: how many have come. -/
def StepsI (w : World) (pre : List (Bool × Nat × Nat)) (W : World) : Prop :=
  (W.cell? ⟨w.heap.size, 0, none⟩ = some (.int .i64 pre.length) ∧ W.frozen? ⟨w.heap.size, 0, none⟩ = false) ∧ Below w.heap.size w W

theorem StepsI.kept {w : World} {pre : List (Bool × Nat × Nat)} {A B : World} {row : Option Nat} (h : StepsI w pre A) (hg : A.grownBy B row) (hr : ∀ r, row = some r → w.heap.size < r) : StepsI w pre B := by
  obtain ⟨⟨hc, hf⟩, hb⟩ := h
  have hlt := World.block_lt_of_cell? A _ hc
  have hk : B.heap[w.heap.size]? = A.heap[w.heap.size]? := hg.block _ hlt (fun e => by have := hr _ e.symm; omega)
  exact ⟨⟨(World.cell?_of_block (w := A) hk).trans hc, (World.frozen?_of_block (w := A) hk).trans hf⟩, hb.grown hg hb.size (fun k e => by have := hr k e; omega)⟩

theorem StepsI.more {w : World} {pre : List (Bool × Nat × Nat)} {A : World} (h : StepsI w pre A) (x : Bool × Nat × Nat) :
    StepsI w (pre ++ [x]) (A.setCell ⟨w.heap.size, 0, none⟩ (.int .i64 (pre.length + 1))) := by
  obtain ⟨⟨hc, hf⟩, hb⟩ := h
  refine ⟨⟨?_, by rw [World.frozen?_setCell]; exact hf⟩, hb.setCell (p := ⟨w.heap.size, 0, none⟩) (Nat.le_refl _) _⟩
  rw [World.cell?_setCell_same' _ _ _ (by rw [hc]; rfl)]
  simp

set_option maxHeartbeats 2000000 in
set_option maxRecDepth 100000 in
theorem steps_calls (i n : Nat) (w : World) (h1 : i < n) (h2 : n ≤ 4096) :
    Calls Try.prog 13 #[.int .i64 i, .int .i64 n] w fun e w' => e = .returned (.int .i64 (steps i n)) ∧ Below w.heap.size w w' := by
  have hdl := Lib.hid (downs_len 4096 i n)
  have g1 : decide ((i : Int) < 0) = false := by simp
  have g2 : decide (n ≤ i) = false := by simp; omega
  have g3 : decide (4096 < (n : Int)) = false := by simp; omega
  refine (callsIn_wide (n := 6)).1 ?_
  refine callsIn_of_wp_marks Try.func13 rfl trivial ?_ rfl
  simp only [Try.ntmps13, List.size_toArray, List.length_cons, List.length_nil, Nat.reduceAdd, Nat.reduceSub, Array.replicate_succ, Array.replicate_zero, List.push_toArray, List.append_toArray, List.nil_append, List.cons_append]
  gi_wp2_with fail
  refine ⟨trivial, (callsIn_wide.2 (downs_calls i n _)).mono ?_⟩
  rintro e w' ⟨rfl, rfl⟩
  have hw : ((w.alloc (.cells #[.int .i64 0] 3)).alloc (.cells #[.int .i64 i] 3)).alloc (.cells #[.int .i64 n] 3) = stepsW i n w := rfl
  rw [hw]
  have hs := stepsW_size i n w
  generalize hW : stepsW i n w = W at *
  have HW := Lib.hid hW
  have HS := Lib.hid hs
  clear hw hW hs
  gi_wp2
  refine wpIn_rangeFunc_all rfl (by omega) (gf := 20) (lb := #[.pointer (some ⟨w.heap.size + 1 + 1, 0, none⟩), .pointer (some ⟨w.heap.size + 1, 0, none⟩)]) rfl trivial (enters_of Try.func20 (by kernel_rfl) rfl)
    (downs_all 4096 _ (w.heap.size + 1 + 1) (w.heap.size + 1) i n (by omega) (by omega) (by omega) h2)
    (fun r hr => by rw [HS.out]; omega) (fun r hr => by rw [HS.out]; omega) (fun V hV => by rw [← HW.out] at hV; exact stepsW_at i n w V hV) (fun _ => rfl)
    (StepsI w) (fun pre A B row h hg hr => h.kept hg (fun r e => by have := hr r e; rw [HS.out] at this; omega))
    (by rw [← HW.out]; exact ⟨stepsW_many _ _ _, stepsW_below _ _ _⟩)
    (fun x => { tmps := #[.int .i64 i, .int .i64 n, undef, undef, .int .i64 0, .pointer (some ⟨w.heap.size, 0, none⟩), .int .i64 i, .bool false, .bool false, .int .i64 i, .int .i64 n, .bool false, .bool false, .bool false, .int .i64 n, .bool false, .bool false, .int .i64 i, .int .i64 n,
      .func (.func 20) #[] #[.pointer (some ⟨w.heap.size + 1 + 1, 0, none⟩), .pointer (some ⟨w.heap.size + 1, 0, none⟩)], .bool x.1, .agg #[.int .i64 x.2.1, .int .i64 x.2.2], undef, undef, undef], defers := [] }) ?assign ?body ?done
  case assign =>
    intro l x V M hM
    simp only [encDown]
    rw [fold2]
    gi_wp2
    exact hM
  case body =>
    intro l pre x V hI hpre hlt
    have HI := Lib.hid hI
    have hlen := hpre.length_le
    have hlen2 := hdl.out
    obtain ⟨⟨hc, hf⟩, hb⟩ := hI
    simp only [List.length_append, List.length_singleton] at hlen
    have hp : pre.length ≤ 4096 := by omega
    clear hpre hlen hlen2
    have HL := Lib.hid hlt
    clear hlt
    gi_wp2
    have hS := HS.out
    exact ⟨fun k hk => Below.heap_setCell _ _ _ _ (by simp; omega), HI.out.more x⟩
  case done =>
    rintro V ⟨⟨hc, hf⟩, hb⟩ hD
    gi_wp2
    have hS := HS.out
    exact ⟨by simp, .inl ⟨_, _, rfl, run_takeDeferred hD, _, results_tmp rfl _ _ _, rfl, hb.trans (belowK_b (w := w) (Nat.le_refl _) V W.heap.size _ _ (by omega) hD rfl rfl)⟩⟩

end Go.Proofs.Ytclejdlklcabgaa
