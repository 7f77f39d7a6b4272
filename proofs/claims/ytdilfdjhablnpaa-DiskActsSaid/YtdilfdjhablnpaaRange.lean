/- A range over a function whose own state lies in cells that it captured, and whose loop runs to its end: the contract of the iterator, and the law of the loop. -/
import Derived.RangeFuncNested
import Derived.RangeFuncBound
import Derived.RangeFuncCalls
import Derived.RangeFuncLeaves
import Derived.WalkKit
import Derived.OwnWalkIn
import Derived.TacticsInMore
import Derived.LoopNIn
import Derived.LoopIn
namespace Go.Proofs.Ytdilfdjhablnpaa
open Go.RowKit

variable {F : Fence} {n : Nat} {P : Program}

/-- The iterator hands out xs, one by one, to whatever rounds go on each time. It may turn the blocks of C; a round keeps the blocks of K. -/
def SeqAll {α : Type} (F : Fence) (n : Nat) (P : Program) (g : Nat) (lb : Array Value) (encs : α → Array Value) (R : World → Prop) (C K : Nat → Prop) (xs : List α) : Prop :=
  ∀ (l : Nat) (J : List α → World → Prop) (W : World), R W →
    (∀ pre A B row, J pre A → A.grownBy B row → (∀ r, row = some r → C r) → J pre B) →
    (∀ pre x A, J pre A → pre ++ [x] <+: xs → YieldAt F (n - 1) P l (encs x) A fun e B => e = .returned (.bool true) ∧ J (pre ++ [x]) B ∧ ∀ k, K k → B.heap[k]? = A.heap[k]?) →
    J [] W →
    CallsIn F n P g (#[.func (.yield l) #[] #[]] ++ lb) W fun e B => (∃ v, e = .returned v) ∧ J xs B

/-- How the body of a round is left: off its end. -/
def goesOn (S : World → Prop) : Exit → Act → World → Prop
  | .normal, _, W => S W
  | _, _, _ => False

theorem wpIn_rangeFunc_all {α : Type} {g : Operand} {ps : Array Tmp} {assign body : Code} {Q : Exit → Act → World → Prop} {a : Act} {w : World}
    (hro : F.round = none) (h1 : 1 ≤ n) {gf : Nat} {lb : Array Value} (hg : a.eval g = .func (.func gf) #[] lb) (hFg : F.fn gf) (eg : ∀ args w, (callFunc gf args).run P w = .ok (.enter gf args) w)
    {encs : α → Array Value} {R : World → Prop} {C K : Nat → Prop} {xs : List α} (hseq : SeqAll F (n - 1) P gf lb encs R C K xs)
    (hC : ∀ r, C r → r < w.heap.size) (hK : ∀ k, K k → k < w.heap.size) (hR : ∀ W, Below w.heap.size w W → R W) (hps : ∀ x, (encs x).size = ps.size)
    (I : List α → World → Prop) (hI : ∀ pre A B row, I pre A → A.grownBy B row → (∀ r, row = some r → C r ∨ r = w.heap.size ∨ r = w.heap.size + 1) → I pre B)
    (h0 : I [] w) (a₁ : α → Act)
    (hassign : ∀ (l : Nat) (x : α) (W : World) (M : Act → World → Prop), M (a₁ x) W →
      assign.wpIn (F.inRound l) (n - 1 - 1) P (Exit.then M (fun _ _ _ => False)) { tmps := (ps.zip (encs x)).foldl (fun t (p, v) => t.setIfInBounds p v) a.tmps, defers := [] } W)
    (hbody : ∀ (l : Nat) (pre : List α) (x : α) (W : World), I pre W → pre ++ [x] <+: xs → w.heap.size + 1 < W.heap.size →
      body.wpIn (F.inRound l) (n - 1 - 1) P (goesOn fun W' => (∀ k, (K k ∨ k = w.heap.size ∨ k = w.heap.size + 1) → W'.heap[k]? = W.heap[k]?) ∧ I (pre ++ [x]) W') (a₁ x) W)
    (hdone : ∀ (W : World), I xs W → W.heap[w.heap.size]? = some (.deferred (some [])) → Q .normal { a with defers := { target := .collected w.heap.size, args := #[] } :: a.defers } W) :
    (Code.rangeFunc g ps assign body).wpIn F n P Q a w := by
  refine wpIn_rangeFunc ?_
  intro fn hfn
  rw [hro]
  obtain ⟨rec, hrec⟩ : ∃ rec : LoopState → Loop, rec = fun st => { state := st, pending := none, fn, tmps := a.tmps, params := ps, assign, body, defers := w.heap.size } := ⟨_, rfl⟩
  obtain ⟨W1, hW1⟩ : ∃ W1, (w.alloc (.deferred (some []))).alloc (.loop (rec .ready)) = W1 := ⟨_, rfl⟩
  have hL1 : W1.heap[w.heap.size + 1]? = some (.loop (rec .ready)) := by
    rw [← hW1]; have := World.alloc_heap_new (w.alloc (.deferred (some []))) (.loop (rec .ready)); rwa [World.size_alloc] at this
  have hD1 : W1.heap[w.heap.size]? = some (.deferred (some [])) := by
    rw [← hW1]; exact (Below.heap_alloc _ _ _ (by simp)).trans (World.alloc_heap_new w _)
  have hg1 : w.grownBy W1 none := by
    rw [← hW1]
    exact ⟨rfl, rfl, rfl, by simp; omega, fun k hk _ => (Below.heap_alloc _ _ _ (by simp; omega)).trans (Below.heap_alloc _ _ _ hk)⟩
  have hI1 : I [] W1 := hI _ _ _ _ h0 hg1 (fun r e => by cases e)
  have hB1 : Below w.heap.size w W1 := (Below.refl _ w).grown hg1 (Nat.le_refl _) (fun k e => by cases e)
  refine ⟨w.heap.size + 1, [{ target := .collected w.heap.size, args := #[] }], W1, { target := .fn (.func gf) lb, args := #[.func (.yield (w.heap.size + 1)) #[] #[]] }, W1, gf,
    #[.func (.yield (w.heap.size + 1)) #[] #[]] ++ lb, W1, ?_, ?_, ?_, ?_, fun _ => h1, ?_⟩
  · rw [← hW1, hrec]; exact run_enterLoop_outer _ _ _ _ _
  · simp only [resolve, hg]
    simp [go_sem]
  · intro f' hf'; simp [Target.leads] at hf'; subst hf'; exact hFg
  · simp [invoke, go_sem, eg]
  · refine (hseq (w.heap.size + 1) (fun pre W => I pre W ∧ W.heap[w.heap.size + 1]? = some (.loop (rec .ready)) ∧ W.heap[w.heap.size]? = some (.deferred (some []))) W1 (hR _ hB1) ?_ ?_ ⟨hI1, hL1, hD1⟩).mono ?_
    · rintro pre A B row ⟨hi, hl, hd⟩ hgr hr
      have hlt : w.heap.size + 1 < A.heap.size := (Array.getElem?_eq_some_iff.1 hl).1
      refine ⟨hI _ _ _ _ hi hgr (fun r e => .inl (hr r e)), ?_, ?_⟩
      · rw [hgr.block _ hlt (fun e => by have := hC _ (hr _ e.symm); omega)]; exact hl
      · rw [hgr.block _ (by omega) (fun e => by have := hC _ (hr _ e.symm); omega)]; exact hd
    · rintro pre x W ⟨hi, hl, hd⟩ hpre
      have hlt : w.heap.size + 1 < W.heap.size := (Array.getElem?_eq_some_iff.1 hl).1
      have hy := run_yield (P := P) (args := encs x) hl (by rw [hrec]; exact hps x)
      rw [hrec] at hy
      refine ⟨fn, _, assign, body, hy, roundIn_of_wpIn hfn (hassign _ x W _ ⟨_, run_beginRound hl (by rw [hrec]), ?_⟩)⟩
      have hl2 : (W.putObj (w.heap.size + 1) (.loop { rec .ready with state := .busy })).heap[w.heap.size + 1]? = some (.loop { rec .ready with state := .busy }) := World.putObj_heap_same hlt
      have hd2 : (W.putObj (w.heap.size + 1) (.loop { rec .ready with state := .busy })).heap[w.heap.size]? = some (.deferred (some [])) := (World.putObj_heap_other (by omega)).trans hd
      refine wpIn_mono (hbody _ pre x _ (hI _ _ _ _ hi (grownBy_putObj' W _ _) (fun r e => by cases e; exact .inr (.inr rfl))) hpre (by simpa using hlt)) ?_
      rintro e a3 W3 hp
      cases e with
      | normal =>
        obtain ⟨hk3, hi3⟩ := hp
        have hl3 := (hk3 (w.heap.size + 1) (.inr (.inr rfl))).trans hl2
        have hd3 := (hk3 w.heap.size (.inr (.inl rfl))).trans hd2
        have hend := run_endRound (P := P) none hl3
        rw [hrec] at hend
        have hlt3 := (Array.getElem?_eq_some_iff.1 hl3).1
        refine ⟨_, _, hend, ⟨rfl, ⟨hI _ _ _ _ hi3 (grownBy_putObj' W3 _ _) (fun r e => by cases e; exact .inr (.inr rfl)), ?_, (World.putObj_heap_other (by omega)).trans hd3⟩, ?_⟩⟩
        · rw [hrec]; exact World.putObj_heap_same hlt3
        · intro k hk
          have hkw := hK k hk
          rw [World.putObj_heap_other (by omega), hk3 k (.inl hk), World.putObj_heap_other (by omega)]
      | ret => exact hp.elim
      | exit id => exact hp.elim
      | goto t => exact hp.elim
      | panic ch => exact hp.elim
      | outgrown => exact hp.elim
    · rintro e W2 ⟨⟨v, rfl⟩, hi, hl, hd⟩
      exact ⟨none, _, by have := run_endLoop (P := P) hl (by rw [hrec]; simp); rw [hrec] at this; exact this,
        hdone _ (hI _ _ _ _ hi (grownBy_putObj' W2 _ _) (fun r e => by cases e; exact .inr (.inr rfl))) ((World.putObj_heap_other (by omega)).trans hd)⟩

end Go.Proofs.Ytdilfdjhablnpaa
