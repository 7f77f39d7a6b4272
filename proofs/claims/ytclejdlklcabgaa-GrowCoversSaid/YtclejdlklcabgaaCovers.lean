/- The iterator grow.covers: what it hands out. -/
import Derived.Test.YtclejdlklcabgaaRange
import Derived.Test.YtclejdlklcabgaaDowns
import Derived.Test.YtclejdlklcabgaaWalks2
import Derived.Test.YtclejdlklcabgaaCoverPlain
namespace Go.Proofs.Ytclejdlklcabgaa
open Go.RowKit Go.Shelf Plain
attribute [local go_sem] Oper.semAt_some

def encCov (x : Nat × Nat) : Array Value := #[.int .i64 x.1, .int .i64 x.2]

/-- The iterator's loop: what has come, what is to come. -/
def CovRel (f m n bm bn : Nat) (J : List (Nat × Nat) → World → Prop) (wr : World) : Prop :=
  ∃ pre f' m', cov f m n = pre ++ cov f' m' n ∧ n - m' ≤ f' ∧ m' ≤ n ∧ DownAt bm bn n m' wr ∧ J pre wr

theorem sizes_top (d : Nat) (x : Int) (w : World) (hx : x = d) (h0 : 0 < d) (h1 : d ≤ 4096) :
    Calls Try.prog 11 #[.int .i64 x] w fun e w' => ∃ g len cap, e = .returned (.slice (some ⟨g, 0, none⟩) len cap) ∧ 1 ≤ len ∧
      w'.cell? ⟨g, 0, none⟩ = some (.int .i64 (top d)) ∧ Below w.heap.size w w' := by
  subst hx
  refine (sizes_pos d w (by omega) (by omega)).mono ?_
  rintro e w' ⟨v, rfl, hown, hb⟩
  rw [Int.toNat_natCast] at hown
  have hl := len_pos d (by omega) h0
  obtain ⟨g, cap, rfl, hg, _, _, hc⟩ := row_open hown hl
  obtain ⟨j, _, e1, _, _, e5⟩ := top_spec d (by omega) h0
  exact ⟨g, _, cap, rfl, hl, by rw [hc 0 hl, e5], hb⟩

theorem cov_step {f m n : Nat} (h : m < n) (hf : n - m ≤ f) : ∃ g, f = g + 1 ∧ cov f m n = (m, size m n) :: cov g (m + size m n) n := by
  cases f with
  | zero => omega
  | succ f => exact ⟨f, rfl, by simp only [cov]; rw [if_pos h]⟩
theorem cov_end {f m n : Nat} (h : n ≤ m) : cov f m n = [] := by
  cases f with
  | zero => rfl
  | succ f => simp only [cov]; rw [if_neg (by omega)]

theorem DownAt.below {bn bi i n : Nat} {A B : World} (h : DownAt bn bi i n A) (hb : Below A.heap.size A B) : DownAt bn bi i n B :=
  h.kept (fun k hk => hb.block k (by
    rcases hk with rfl | rfl
    · exact World.block_lt_of_cell? A _ h.cn
    · exact World.block_lt_of_cell? A _ h.ci))

theorem grownBy_below {A B : World} (h : Below A.heap.size A B) : A.grownBy B none := ⟨h.os, h.tape, h.output, h.size, fun k hk _ => h.block k hk⟩

set_option maxHeartbeats 2000000 in
set_option maxRecDepth 100000 in
theorem covers_all (f q bm bn m n : Nat) (hne : bm ≠ bn) (hn : n ≤ 4096) (hm : m ≤ n) (hf : n - m ≤ f) :
    SeqAll Fence.wide q Try.prog 17 #[.pointer (some ⟨bm, 0, none⟩), .pointer (some ⟨bn, 0, none⟩)] encCov (DownAt bm bn n m) (fun r => r = bm) (fun r => r = bm ∨ r = bn) (cov f m n) := by
  intro l J W hR hJ hY h0
  have HJ := Lib.hid hJ
  have HY := Lib.hid hY
  have H0 := Lib.hid h0
  have HR := Lib.hid hR
  obtain ⟨cm, fm, cn, fn⟩ := hR
  clear hJ hY h0
  have g1 : decide ((m : Int) < 0) = false := by simp
  have g2 : decide (n < m) = false := by simp; omega
  have g3 : decide (4096 < (n : Int)) = false := by simp; omega
  refine callsIn_of_wp Try.func17 rfl trivial ?_ rfl
  simp only [Try.ntmps17, List.size_toArray, List.length_cons, List.length_nil, Nat.reduceAdd, Nat.reduceSub, Array.replicate_succ, Array.replicate_zero, List.push_toArray, List.append_toArray, List.nil_append, List.cons_append]
  gi_wp2
  gi_loopw [4] (fun _ wr => CovRel f m n bm bn J wr) (fun _ wr => n - cellNat bm wr)
  case atStart => exact ⟨[], f, m, rfl, hf, hm, HR.out, H0.out⟩
  case round =>
    clear cm fm cn fn
    obtain ⟨pre, f', m', hx, hf', hm', ⟨cm, fm, cn, fn⟩, hj⟩ := hrel
    have HX := Lib.hid hx
    have Hj := Lib.hid hj
    clear hx hj
    by_cases h2 : m' < n
    · obtain ⟨g, hg, hd⟩ := cov_step h2 hf'
      obtain ⟨jj, hs1, hs2, hs3⟩ := size_ok m' n h2 hn
      have hp := Nat.two_pow_pos jj
      rw [← hs1] at hs3 hp
      have hx2 : cov f m n = (pre ++ [(m', size m' n)]) ++ cov g (m' + size m' n) n := by rw [HX.out, hd]; simp
      have HC := Lib.hid (fun W => sizes_top (n - m') ((n : Int) - m') W (by omega) (by omega) (by omega))
      have HY2 := fun A hA => HY.out pre (m', size m' n) A hA ⟨_, hx2.symm⟩
      have HSZ : Hid (size m' n = if 0 < m' then min (top (n - m')) (low m') else top (n - m')) := rfl
      have hlow : 0 < m' → bits .and .i64 (m' : Int) (-(m' : Int)) = (low m' : Int) := fun h => low_go m' h (by omega)
      obtain ⟨tj, _, t1, t2, _, _⟩ := top_spec (n - m') (by omega) (by omega)
      rw [← t1] at t2
      generalize size m' n = s at *
      generalize top (n - m') = t at *
      generalize low m' = o at *
      have HX2 := Lib.hid hx2
      have HYY := Lib.hid HY2
      clear hx2 hd HY2 hs1 hs2 t1
      gi_wp2_with fail
      refine ⟨trivial, nodepth, (callsIn_wide.2 (HC.out _)).mono ?_⟩
      rintro e w' ⟨gg, len, cap, rfl, hlen, hcell, hb⟩
      have hat : DownAt bm bn n m' w' := DownAt.below ⟨cm, fm, cn, fn⟩ hb
      have hj' : J pre w' := HJ.out _ _ _ _ Hj.out (grownBy_below hb) (fun r e => by cases e)
      have HM := Lib.hid cm
      clear cm fm cn fn hb
      obtain ⟨fr, tmps, assign, body, hy, hRR⟩ := HYY.out w' hj'
      have HAT := Lib.hid hat
      obtain ⟨cm, fm, cn, fn⟩ := hat
      have HRR := Lib.hid hRR
      clear hRR hj'
      simp only [encCov] at hy
      have hlen0 : 0 < len := hlen
      by_cases h0 : 0 < m'
      · have hl := hlow h0
        have hs : s = min t o := by have := HSZ.out; rw [if_pos h0] at this; exact this
        have hmin : min (t : Int) (o : Int) = (s : Int) := by omega
        have hm0 : decide (0 < (m' : Int)) = true := by simp; omega
        clear hs hlow
        gi_wp2_with fail
        refine ⟨nodepth, HRR.out.mono ?_⟩
        rintro e W3 ⟨rfl, hJ3, hk3⟩
        have hat := DownAt.kept ⟨cm, fm, cn, fn⟩ hk3
        have HAT3 := Lib.hid hat
        obtain ⟨cm3, fm3, cn3, fn3⟩ := hat
        have HJ3 := Lib.hid hJ3
        clear hk3 hJ3 cm fm cn fn
        gi_wp2
        have e1 : ((m' : Int) + s) = ((m' + s : Nat) : Int) := by omega
        rw [e1]
        go_roundw
        case rel =>
          exact ⟨_, g, m' + s, HX2.out, by omega, by omega, HAT3.out.setN hne (m' + s), HJ.out _ _ _ _ HJ3.out (grownBy_setCell _ _ _) (fun r e => by cases e; rfl)⟩
        case measure => rw [cellNat_eq HM.out, cellNat_eq (HAT3.out.setN hne (m' + s)).cn]; omega
      · have hs : s = t := by have := HSZ.out; rw [if_neg h0] at this; exact this
        subst hs
        obtain rfl : m' = 0 := by omega
        have hy' : Sem.run Try.prog (Instr.yield l #[.int .i64 0, .int .i64 s]) w' = .ok (.round l fr tmps assign body) w' := hy
        clear hlow h0 hy
        gi_wp2_with fail
        refine ⟨nodepth, HRR.out.mono ?_⟩
        rintro e W3 ⟨rfl, hJ3, hk3⟩
        have hat := DownAt.kept ⟨cm, fm, cn, fn⟩ hk3
        have HAT3 := Lib.hid hat
        obtain ⟨cm3, fm3, cn3, fn3⟩ := hat
        have HJ3 := Lib.hid hJ3
        clear hk3 hJ3 cm fm cn fn
        gi_wp2
        go_roundw
        case rel =>
          exact ⟨_, g, 0 + s, HX2.out, by omega, by omega, by rw [Nat.zero_add]; exact HAT3.out.setN hne s, HJ.out _ _ _ _ HJ3.out (grownBy_setCell _ _ _) (fun r e => by cases e; rfl)⟩
        case measure => rw [cellNat_eq HM.out, cellNat_eq (HAT3.out.setN hne s).cn]; omega
    · have hg : decide (m' < n) = false := by simp; omega
      gi_wp2
      go_end0
      exact ⟨⟨_, rfl⟩, by have := HX.out; rw [cov_end (f := f') (m := m') (n := n) (by omega), List.append_nil] at this; rw [this]; exact Hj.out⟩

end Go.Proofs.Ytclejdlklcabgaa
