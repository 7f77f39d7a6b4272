/- The iterator member.downs: what it hands out. -/
import Derived.Test.YtclejdlklcabgaaRange
import Derived.Test.YtclejdlklcabgaaWalks1
import Derived.Shelf.Abstract
namespace Go.Proofs.Ytclejdlklcabgaa
open Go.RowKit Go.Shelf Plain
attribute [local go_sem] Oper.semAt_some

/-- The nodes above leaf i of n, from the root on. -/
def downs : Nat → Nat → Nat → List (Bool × Nat × Nat)
  | 0, _, _ => []
  | f + 1, i, n => if n ≤ 1 then [] else if i < half n then (true, half n, n) :: downs f i (half n) else (false, half n, n) :: downs f (i - half n) (n - half n)

def encDown (x : Bool × Nat × Nat) : Array Value := #[.bool x.1, .agg #[.int .i64 x.2.1, .int .i64 x.2.2]]

def cellNat (b : Nat) (w : World) : Nat := match w.cell? ⟨b, 0, none⟩ with | some v => (intOf v).toNat | none => 0

/-- The two cells that the iterator keeps. -/
structure DownAt (bn bi i n : Nat) (W : World) : Prop where
  cn : W.cell? ⟨bn, 0, none⟩ = some (.int .i64 n)
  fn : W.frozen? ⟨bn, 0, none⟩ = false
  ci : W.cell? ⟨bi, 0, none⟩ = some (.int .i64 i)
  fi : W.frozen? ⟨bi, 0, none⟩ = false

theorem DownAt.kept {bn bi i n : Nat} {A B : World} (h : DownAt bn bi i n A) (hk : ∀ k, (k = bn ∨ k = bi) → B.heap[k]? = A.heap[k]?) : DownAt bn bi i n B :=
  ⟨(World.cell?_of_block (w := A) (hk bn (.inl rfl))).trans h.cn, (World.frozen?_of_block (w := A) (hk bn (.inl rfl))).trans h.fn,
   (World.cell?_of_block (w := A) (hk bi (.inr rfl))).trans h.ci, (World.frozen?_of_block (w := A) (hk bi (.inr rfl))).trans h.fi⟩

theorem grownBy_setCell (w : World) (a : Addr) (u : Value) : w.grownBy (w.setCell a u) (some a.block) :=
  ⟨rfl, rfl, rfl, by simp [World.setCell], fun k _ hk => Below.heap_setCell _ _ _ _ (fun e => hk (by rw [e]))⟩

theorem DownAt.setN {bn bi i n : Nat} {A : World} (h : DownAt bn bi i n A) (hne : bn ≠ bi) (m : Nat) : DownAt bn bi i m (A.setCell ⟨bn, 0, none⟩ (.int .i64 m)) :=
  have hk := Below.heap_setCell A ⟨bn, 0, none⟩ (.int .i64 m) bi (fun e => hne e.symm)
  ⟨World.cell?_setCell_same' _ _ _ (by rw [h.cn]; rfl), by rw [World.frozen?_setCell]; exact h.fn,
   (World.cell?_of_block (w := A) hk).trans h.ci, (World.frozen?_of_block (w := A) hk).trans h.fi⟩

theorem DownAt.setI {bn bi i n : Nat} {A : World} (h : DownAt bn bi i n A) (hne : bn ≠ bi) (m : Nat) : DownAt bn bi m n (A.setCell ⟨bi, 0, none⟩ (.int .i64 m)) :=
  have hk := Below.heap_setCell A ⟨bi, 0, none⟩ (.int .i64 m) bn hne
  ⟨(World.cell?_of_block (w := A) hk).trans h.cn, (World.frozen?_of_block (w := A) hk).trans h.fn,
   World.cell?_setCell_same' _ _ _ (by rw [h.ci]; rfl), by rw [World.frozen?_setCell]; exact h.fi⟩

theorem DownAt.drew {bn bi i n : Nat} {A : World} (h : DownAt bn bi i n A) : DownAt bn bi i n A.drew := ⟨h.cn, h.fn, h.ci, h.fi⟩

theorem abides_two {J : World → Prop} {A : World} {a b : Addr} {u v : Value} {C : Nat → Prop} (hJ : ∀ A B r, J A → A.grownBy B (some r) → (∀ k, some r = some k → C k) → J B) (h : J A) (ha : C a.block) (hb : C b.block) : J (((A.setCell a u).setCell b v).drew) := by
  have h1 := hJ _ _ _ h (grownBy_setCell A a u) (fun k e => by cases e; exact ha)
  exact hJ _ _ b.block h1 ⟨rfl, rfl, rfl, (grownBy_setCell (A.setCell a u) b v).size, (grownBy_setCell (A.setCell a u) b v).block⟩ (fun k e => by cases e; exact hb)

theorem half_in (N : Nat) (n : Nat) (w : World) (h2 : 2 ≤ N) (hhi : N < 9223372036854775808) :
    CallsIn Fence.wide n Try.prog 10 #[.int .i64 N] w fun e w' => e = .returned (.int .i64 (half N)) ∧ w = w' := by
  refine callsIn_wide.2 ((half_calls N w (by omega) (by omega)).mono ?_)
  rintro e w' ⟨rfl, rfl⟩
  exact ⟨by rw [Int.toNat_natCast], rfl⟩

theorem cellNat_eq {b : Nat} {w : World} {n : Nat} (h : w.cell? ⟨b, 0, none⟩ = some (.int .i64 n)) : cellNat b w = n := by
  simp [cellNat, h, intOf]

/-- The iterator's loop: what has come, what is to come. -/
def DownRel (f i n bn bi : Nat) (J : List (Bool × Nat × Nat) → World → Prop) (wr : World) : Prop :=
  ∃ pre f' i' n', downs f i n = pre ++ downs f' i' n' ∧ n' ≤ f' ∧ i' ≤ n' ∧ n' < 9223372036854775808 ∧ DownAt bn bi i' n' wr ∧ J pre wr

theorem downs_left {f i n : Nat} (h1 : 2 ≤ n) (hf : n ≤ f) (h : i < half n) : ∃ f', f = f' + 1 ∧ downs f i n = (true, half n, n) :: downs f' i (half n) := by
  cases f with
  | zero => omega
  | succ f => exact ⟨f, rfl, by simp only [downs]; rw [if_neg (by omega), if_pos h]⟩
theorem downs_right {f i n : Nat} (h1 : 2 ≤ n) (hf : n ≤ f) (h : ¬ i < half n) : ∃ f', f = f' + 1 ∧ downs f i n = (false, half n, n) :: downs f' (i - half n) (n - half n) := by
  cases f with
  | zero => omega
  | succ f => exact ⟨f, rfl, by simp only [downs]; rw [if_neg (by omega), if_neg h]⟩
theorem downs_end {f i n : Nat} (h1 : n ≤ 1) : downs f i n = [] := by
  cases f with
  | zero => rfl
  | succ f => simp only [downs]; rw [if_pos h1]

theorem nodepth {m : Nat} : Fence.wide.depth.isSome = true → 1 ≤ m := fun h => by simp [Fence.wide] at h

set_option maxHeartbeats 2000000 in
set_option maxRecDepth 100000 in
theorem downs_all (f m bn bi i n : Nat) (hne : bn ≠ bi) (hn : n < 9223372036854775808) (hi : i ≤ n) (hf : n ≤ f) :
    SeqAll Fence.wide m Try.prog 20 #[.pointer (some ⟨bn, 0, none⟩), .pointer (some ⟨bi, 0, none⟩)] encDown (DownAt bn bi i n) (fun r => r = bn ∨ r = bi) (fun r => r = bn ∨ r = bi) (downs f i n) := by
  intro l J W hR hJ hY h0
  have HJ := Lib.hid hJ
  have HY := Lib.hid hY
  have H0 := Lib.hid h0
  have HR := Lib.hid hR
  clear hJ hY h0 hR
  refine callsIn_of_wp Try.func20 rfl trivial ?_ rfl
  simp only [Try.ntmps20, List.size_toArray, List.length_cons, List.length_nil, Nat.reduceAdd, Nat.reduceSub, Array.replicate_succ, Array.replicate_zero, List.push_toArray, List.append_toArray, List.nil_append, List.cons_append]
  gi_wp2
  gi_loopw [4, 5] (fun _ _ wr => DownRel f i n bn bi J wr) (fun _ _ wr => cellNat bn wr)
  case atStart => exact ⟨[], f, i, n, rfl, hf, hi, hn, HR.out, H0.out⟩
  case round =>
    obtain ⟨pre, f', i', n', hx, hf', hi', hn', ⟨hcn, hfn, hci, hfi⟩, hj⟩ := hrel
    have HX := Lib.hid hx
    have Hj := Lib.hid hj
    clear hx hj
    by_cases h2 : 2 ≤ n'
    · obtain ⟨s1, s2, _⟩ := half_spec n' h2 (by omega)
      have HH := half_in n' (m - 1) wr h2 hn'
      generalize hh : half n' = h at *
      have HHH := Lib.hid HH
      clear HH
      have HE := Lib.hid hh
      clear hh
      by_cases hl : i' < h
      · obtain ⟨g, hg, hd⟩ := downs_left (f := f') (i := i') h2 hf' (by rw [HE.out]; exact hl)
        rw [HE.out] at hd
        have hx2 : downs f i n = (pre ++ [(true, h, n')]) ++ downs g i' h := by rw [HX.out, hd]; simp
        obtain ⟨fn, tmps, assign, body, hy, hR⟩ := HY.out pre (true, h, n') wr Hj.out ⟨_, hx2.symm⟩
        have HX2 := Lib.hid hx2
        have HRR := Lib.hid hR
        simp only [encDown] at hy
        have hlb : decide (i' < h) = true := by simpa using hl
        have hil : i' ≤ h := by omega
        clear hx2 hd hR hl
        gi_wp2_with fail
        refine ⟨trivial, nodepth, HHH.out.mono ?_⟩
        rintro e w' ⟨rfl, rfl⟩
        gi_wp2_with fail
        refine ⟨nodepth, HRR.out.mono ?_⟩
        rintro e W3 ⟨rfl, hJ3, hk3⟩
        have hat := DownAt.kept ⟨hcn, hfn, hci, hfi⟩ hk3
        have HAT := Lib.hid hat
        obtain ⟨cn3, fn3, ci3, fi3⟩ := hat
        have HJ3 := Lib.hid hJ3
        clear hk3 hJ3
        gi_wp2
        go_roundw
        case rel => exact ⟨_, g, i', h, HX2.out, by omega, by omega, by omega, HAT.out.setN hne h, HJ.out _ _ _ _ HJ3.out (grownBy_setCell _ _ _) (fun r e => .inl (by cases e; rfl))⟩
        case measure => rw [cellNat_eq hcn, cellNat_eq (HAT.out.setN hne h).cn]; omega
      · obtain ⟨g, hg, hd⟩ := downs_right (f := f') (i := i') h2 hf' (by rw [HE.out]; exact hl)
        rw [HE.out] at hd
        have hx2 : downs f i n = (pre ++ [(false, h, n')]) ++ downs g (i' - h) (n' - h) := by rw [HX.out, hd]; simp
        obtain ⟨fn, tmps, assign, body, hy, hR⟩ := HY.out pre (false, h, n') wr Hj.out ⟨_, hx2.symm⟩
        have HX2 := Lib.hid hx2
        have HRR := Lib.hid hR
        simp only [encDown] at hy
        have hlb : decide (i' < h) = false := by simpa using hl
        have hil : h ≤ i' := by omega
        have HN := Lib.hid hcn
        clear hx2 hd hR hl
        gi_wp2_with fail
        refine ⟨trivial, nodepth, HHH.out.mono ?_⟩
        rintro e w' ⟨rfl, rfl⟩
        gi_wp2_with fail
        refine ⟨nodepth, HRR.out.mono ?_⟩
        rintro e W3 ⟨rfl, hJ3, hk3⟩
        have hat := DownAt.kept ⟨hcn, hfn, hci, hfi⟩ hk3
        have HAT := Lib.hid hat
        obtain ⟨cn3, fn3, ci3, fi3⟩ := hat
        have HJ3 := Lib.hid hJ3
        clear hk3 hJ3 hcn hfn hci hfi
        gi_wp2
        gi_region
        all_goals
          have e1 : ((i' : Int) - h) = ((i' - h : Nat) : Int) := by omega
          have e2 : ((n' : Int) - h) = ((n' - h : Nat) : Int) := by omega
          rw [e1, e2]
          go_roundw
          case rel =>
            repeat apply Exists.intro
            exact ⟨⟨_, g, i' - h, n' - h, HX2.out, by omega, by omega, by omega, ((HAT.out.setI hne (i' - h)).setN hne (n' - h)).drew, abides_two (C := fun r => r = bn ∨ r = bi) (fun A B r => HJ.out _ A B (some r)) HJ3.out (.inr rfl) (.inl rfl)⟩, rfl⟩
          case measure => rw [cellNat_eq HN.out, cellNat_eq ((HAT.out.setI hne (i' - h)).setN hne (n' - h)).drew.cn]; omega
    · have hle : n' ≤ 1 := by omega
      have hg : decide (1 < n') = false := by simp; omega
      gi_wp2
      go_end0
      exact ⟨⟨_, rfl⟩, by have := HX.out; rw [downs_end hle, List.append_nil] at this; rw [this]; exact Hj.out⟩

end Go.Proofs.Ytclejdlklcabgaa
