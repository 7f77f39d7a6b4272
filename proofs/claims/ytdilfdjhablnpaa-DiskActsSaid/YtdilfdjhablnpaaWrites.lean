/- The iterator disk.writes: it hands out the writes, each with its place. -/
import Derived.Test.YtdilfdjhablnpaaWrd
import Derived.Shelf.Abstract
namespace Go.Proofs.Ytdilfdjhablnpaa
open Go.RowKit Go.Shelf
attribute [local go_sem] Oper.semAt_some

/-- The writes, each with its place. -/
def idxs (l : List Wr) : List (Nat × Wr) := (List.range l.length).map fun k => (k, l.getD k noWr)

def encWr (x : Nat × Wr) : Array Value := #[.int .i64 x.1, .agg #[.int .i64 x.2.at_, .string x.2.s]]

theorem idxs_len (l : List Wr) : (idxs l).length = l.length := by simp [idxs]
theorem idxs_take_succ (l : List Wr) (k : Nat) (h : k < l.length) : (idxs l).take (k + 1) = (idxs l).take k ++ [(k, l.getD k noWr)] := by
  rw [List.take_succ_eq_append_getElem (by rw [idxs_len]; exact h)]
  congr 1
  simp [idxs]
theorem idxs_all (l : List Wr) : (idxs l).take l.length = idxs l := by rw [← idxs_len]; exact List.take_length

theorem grownBy_alloc' (w : World) (o : Obj) : w.grownBy (w.alloc o) none := World.grownBy_alloc w o none

/-- The blocks that the rounds keep: the one in which the writes lie. -/
def inRow (A : Option Addr) (k : Nat) : Prop := ∃ b o, A = some ⟨b, o, none⟩ ∧ k = b

theorem WrRow.kept {A : Option Addr} {l : List Wr} {W W' : World} (h : WrRow W A l) (hk : ∀ k, inRow A k → W'.heap[k]? = W.heap[k]?) : WrRow W' A l := fun k hl => by
  obtain ⟨b, o, e, hc, hd⟩ := h k hl
  have hb := hk b ⟨b, o, e, rfl⟩
  exact ⟨b, o, e, (World.cell?_of_block (w := W) hb).trans hc, (World.cell?_of_block (w := W) hb).trans hd⟩

def RelW (l : List Wr) (A : Option Addr) (J : List (Nat × Wr) → World → Prop) (i : Value) (wr : World) : Prop :=
  ∃ k : Nat, k ≤ l.length ∧ i = .int .i64 k ∧ WrRow wr A l ∧ J ((idxs l).take k) wr

theorem nodepth {m : Nat} : Fence.wide.depth.isSome = true → 1 ≤ m := fun h => by simp [Fence.wide] at h

set_option maxHeartbeats 2000000 in
set_option maxRecDepth 100000 in
theorem writes_all (q bd : Nat) (A : Option Addr) (m c : Nat) (l : List Wr) (K : Nat → Prop) (hm : m = l.length) (hmx : m ≤ 9223372036854775807) (hK : 0 < l.length → ∀ k, inRow A k → K k) :
    SeqAll Fence.wide q Try.prog 42 #[.pointer (some ⟨bd, 0, none⟩)] encWr (fun W => W.cell? ⟨bd, 2, none⟩ = some (.slice A m c) ∧ WrRow W A l) (fun _ => False) K (idxs l) := by
  subst hm
  intro q' J W hR hJ hY h0
  have HJ := Lib.hid hJ
  have HY := Lib.hid hY
  have H0 := Lib.hid h0
  obtain ⟨hc, hrow⟩ := hR
  have HR := Lib.hid hrow
  have HK := Lib.hid hK
  clear hJ hY h0 hrow hK
  refine callsIn_of_wp Try.func42 rfl trivial ?_ rfl
  simp only [Try.ntmps42, List.size_toArray, List.length_cons, List.length_nil, Nat.reduceAdd, Nat.reduceSub, Array.replicate_succ, Array.replicate_zero, List.push_toArray, List.append_toArray, List.nil_append, List.cons_append]
  gi_wp2
  gi_loopw [8] (fun i wr => RelW l A J i wr) (fun i _ => l.length - (intOf i).toNat)
  case atStart => exact ⟨0, by omega, rfl, HR.out, H0.out⟩
  case round =>
    clear hc
    obtain ⟨k, hk, rfl, hrow, hj⟩ := hrel
    have Hj := Lib.hid hj
    have HR2 := Lib.hid hrow
    clear hj hrow
    by_cases hlt : k < l.length
    · obtain ⟨b, o, rfl, hx, hy⟩ := HR2.out k hlt
      have hts := idxs_take_succ l k hlt
      generalize l.getD k noWr = x at *
      have hpre : (idxs l).take k ++ [(k, x)] <+: idxs l := by rw [← hts]; exact List.take_prefix _ _
      have hj1 : J ((idxs l).take k) (wr.alloc (.cells #[.int .i64 x.at_, .string x.s] 31)) := HJ.out _ _ _ none Hj.out (World.grownBy_alloc _ _ _) (fun r e => by cases e)
      have hrow1 : WrRow (wr.alloc (.cells #[.int .i64 x.at_, .string x.s] 31)) (some ⟨b, o, none⟩) l := HR2.out.below ((Below.refl _ _).alloc (Nat.le_refl _) _)
      obtain ⟨fr, tmps, assign, body, hy', hRR⟩ := HY.out _ (k, x) _ hj1 hpre
      have HTS := Lib.hid hts
      have HRR := Lib.hid hRR
      have HROW := Lib.hid hrow1
      simp only [encWr] at hy'
      clear hts hRR hrow1 hj1 hpre
      gi_wp2_with fail
      refine ⟨nodepth, HRR.out.mono ?_⟩
      rintro e W3 ⟨rfl, hJ3, hk3⟩
      have hrow3 := HROW.out.kept (fun k hin => hk3 k (HK.out (by omega) k hin))
      have HROW3 := Lib.hid hrow3
      have HJ3 := Lib.hid hJ3
      clear hk3 hJ3 hrow3
      gi_wp2
      go_roundw
      case rel => exact ⟨k + 1, by omega, by go_num, HROW3.out, by rw [HTS.out]; exact HJ3.out⟩
      case measure => simp [intOf]; omega
    · obtain rfl : k = l.length := by omega
      gi_wp2
      go_end0
      exact ⟨⟨_, rfl⟩, by have := Hj.out; rw [idxs_all] at this; exact this⟩

end Go.Proofs.Ytdilfdjhablnpaa
