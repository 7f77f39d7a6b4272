/- Numbers that came in, as they are read. -/
import Derived.Test.YtdilfdjhablnpaaOpen
import Derived.ChangeSlices
namespace Go.Proofs.Ytdilfdjhablnpaa
open Go.RowKit Go.Joins Go.Deep Go.ChangeShapes Go.WideShapes

variable {H : Type} {enc : TypeId × Value → H} {w : World} {base : Nat} {spare : Nat → Bool} {held : Bool}

theorem keep_cells {t : TypeId} {fuel : Nat} {cs : List Value} {x : DataW H × List MemPlace} (ht : Try.prog.underlying t = some (.slice 3)) (h : DataW.trod enc Try.prog w base spare held fuel t cs = some x) :
    ∃ A n c l, cs = [.slice A n c] ∧ KeepIn w A n l := by
  rcases Go.ChangeShapes.open_ints ht Try.underlying3 (by kernel_rfl) h with ⟨rfl, _⟩ | ⟨a, len, cap, ss, rfl, _, hl, hmx, hss, _, hcell, hwf⟩
  · exact ⟨none, 0, 0, [], rfl, rfl, by omega, IntRow.nil _ _, fun k hk => by simp at hk⟩
  · have hle : len ≤ ss.length := by rw [hss]; split <;> omega
    have hmx' : cap ≤ 9223372036854775807 := hmx
    refine ⟨some a, len, cap, ss.take len, rfl, by rw [List.length_take]; omega, by omega, fun k hk => ?_, fun k hk => ?_⟩
    · rw [List.length_take] at hk
      have h0 := hcell 0 (by omega)
      rw [add_zero] at h0
      obtain ⟨b, o, rfl⟩ := plain_addr h0
      have h1 := hcell k (by omega)
      rw [Addr.add_lit] at h1
      refine ⟨b, o, rfl, h1.trans ?_⟩
      simp only [List.getD, List.getElem?_take, if_pos (show k < len by omega)]
    · rw [List.length_take] at hk
      have e : (ss.take len).getD k 0 = ss.getD k 0 := by simp only [List.getD, List.getElem?_take, if_pos (show k < len by omega)]
      rw [e]
      have hw := hwf (ss.getD k 0) (by rw [List.getD_eq_getElem?_getD, List.getElem?_eq_getElem (show k < ss.length by omega)]; exact List.getElem_mem _)
      have hw' : ((decide (IntKind.min .i64 ≤ ss.getD k 0)) && (decide (ss.getD k 0 ≤ IntKind.max .i64))) = true := hw
      rw [Bool.and_eq_true, decide_eq_true_eq, decide_eq_true_eq] at hw'
      rw [show IntKind.min .i64 = -9223372036854775808 by decide, show IntKind.max .i64 = 9223372036854775807 by decide] at hw'
      exact hw'

theorem keep_open {r : Reach} {b0 : Nat} {v : Value} {d : DataW H} {p : List MemPlace} (hv : Value.okWide Try.prog w r b0 26 v) (h : DataW.Trod enc Try.prog w base spare held 26 v d p) :
    ∃ A n c l, v = .slice A n c ∧ KeepIn w A n l := by
  obtain ⟨A, n, c, rfl⟩ := okWide_slice Try.underlying26 hv
  obtain ⟨fuel, hf⟩ := h
  obtain ⟨A', n', c', l, e, hk⟩ := keep_cells Try.underlying26 hf
  cases e
  exact ⟨A, n, c, l, rfl, hk⟩
end Go.Proofs.Ytdilfdjhablnpaa
