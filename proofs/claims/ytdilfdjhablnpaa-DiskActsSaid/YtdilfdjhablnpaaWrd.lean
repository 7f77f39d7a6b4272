/- Words: rows of texts and of writes as they are read; a disk. -/
import Derived.Test.YtdilfdjhablnpaaOver
import Derived.Test.YtdilfdjhablnpaaShelf
import Derived.Test.YtdilfdjhablnpaaRange
import Derived.Maps.AppendAt
namespace Go.Proofs.Ytdilfdjhablnpaa
open Go.RowKit

/-- A write that may be lost. -/
structure Wr where
  at_ : Int
  s : ByteArray

def noWr : Wr := ⟨0, ⟨#[]⟩⟩

/-- A slice's cells read as texts. -/
def StrRow (W : World) (A : Option Addr) (l : List ByteArray) : Prop :=
  ∀ k, k < l.length → ∃ b o, A = some ⟨b, o, none⟩ ∧ W.cell? ⟨b, o + k, none⟩ = some (.string (l.getD k ByteArray.empty))

/-- A slice's cells read as writes. -/
def WrRow (W : World) (A : Option Addr) (l : List Wr) : Prop :=
  ∀ k, k < l.length → ∃ b o, A = some ⟨b, o, none⟩ ∧ W.cell? ⟨b, o + k * 2, none⟩ = some (.int .i64 (l.getD k noWr).at_) ∧ W.cell? ⟨b, o + k * 2 + 1, none⟩ = some (.string (l.getD k noWr).s)

/-- A slice's cells read as ints. -/
def IntRow (W : World) (A : Option Addr) (l : List Int) : Prop :=
  ∀ k, k < l.length → ∃ b o, A = some ⟨b, o, none⟩ ∧ W.cell? ⟨b, o + k, none⟩ = some (.int .i64 (l.getD k 0))

theorem cell_below {W W' : World} {a : Addr} {v : Value} (h : Below W.heap.size W W') (hc : W.cell? a = some v) : W'.cell? a = some v :=
  (h.cell (World.block_lt_of_cell? W _ hc)).trans hc

theorem StrRow.below {W W' : World} {A : Option Addr} {l : List ByteArray} (h : StrRow W A l) (hb : Below W.heap.size W W') : StrRow W' A l := fun k hk => by
  obtain ⟨b, o, e, hc⟩ := h k hk
  exact ⟨b, o, e, cell_below hb hc⟩
theorem WrRow.below {W W' : World} {A : Option Addr} {l : List Wr} (h : WrRow W A l) (hb : Below W.heap.size W W') : WrRow W' A l := fun k hk => by
  obtain ⟨b, o, e, hc, hd⟩ := h k hk
  exact ⟨b, o, e, cell_below hb hc, cell_below hb hd⟩
theorem IntRow.below {W W' : World} {A : Option Addr} {l : List Int} (h : IntRow W A l) (hb : Below W.heap.size W W') : IntRow W' A l := fun k hk => by
  obtain ⟨b, o, e, hc⟩ := h k hk
  exact ⟨b, o, e, cell_below hb hc⟩

theorem StrRow.nil (W : World) (A : Option Addr) : StrRow W A [] := fun k hk => by simp at hk
theorem WrRow.nil (W : World) (A : Option Addr) : WrRow W A [] := fun k hk => by simp at hk
theorem IntRow.nil (W : World) (A : Option Addr) : IntRow W A [] := fun k hk => by simp at hk

/-- What a call has made reads as texts. -/
theorem StrRow.of_own {W : World} {base : Nat} {v : Value} {l : List ByteArray} {n : Nat} (hn : n = l.length) (h : W.ownsRow base 9 1 v n (l.map Value.string)) :
    ∃ A c, v = .slice A n c ∧ n ≤ c ∧ StrRow W A l ∧ ((A = none ∧ l = []) ∨ ∃ g, A = some ⟨g, 0, none⟩ ∧ base ≤ g ∧ g < W.heap.size ∧ ∀ k, k < l.length → W.frozen? ⟨g, k, none⟩ = false) := by
  subst hn
  obtain ⟨_, ho⟩ := h
  rcases ho with ⟨rfl, hn⟩ | ⟨g, cap, cur, rfl, hb, hg, hc, _, hs, ht⟩
  · have hl : l = [] := List.length_eq_zero_iff.1 hn
    subst hl
    exact ⟨none, 0, rfl, Nat.le_refl _, StrRow.nil _ _, .inl ⟨rfl, rfl⟩⟩
  · refine ⟨some ⟨g, 0, none⟩, cap, rfl, hc, fun k hk => ⟨g, 0, rfl, ?_⟩, .inr ⟨g, rfl, hb, (Array.getElem?_eq_some_iff.1 hg).1, fun k _ => by simp [World.frozen?, hg]⟩⟩
    have hlen : (l.map Value.string)[k]? = some (.string (l.getD k ByteArray.empty)) := by
      rw [List.getElem?_map, List.getElem?_eq_getElem hk]; simp [hk]
    rw [← ht, List.getElem?_take] at hlen
    split at hlen
    · simp only [World.cell?, hg, Nat.zero_add]
      simpa using hlen
    · cases hlen

theorem clone_ok (A : Option Addr) (n c : Nat) (l : List ByteArray) (w : World) (hn : n = l.length) (h : StrRow w A l) (hb : n ≤ 8796093022208) :
    Calls Try.prog 41 #[.slice A n c] w fun e w' => ∃ v, e = .returned v ∧ w'.ownsRow w.heap.size 9 1 v n (l.map Value.string) ∧ Below w.heap.size w w' := by
  by_cases h0 : 0 < n
  · obtain ⟨b, o, rfl, _⟩ := h 0 (by omega)
    refine (Try.slices_Clone_string b o n c l w (by omega) (by omega) (fun j hj => ?_)).mono ?_
    · obtain ⟨b', o', e, hc⟩ := h j hj
      cases e
      exact hc
    · rintro e w' ⟨v, rfl, ho, _, hbl⟩
      rw [List.take_of_length_le (by omega)] at ho
      exact ⟨v, rfl, ho, hbl⟩
  · have h0' : n = 0 := by omega
    subst h0'
    have hl : l = [] := List.length_eq_zero_iff.1 hn.symm
    subst hl
    cases A with
    | none =>
      refine (Try.slices_Clone_string_nil 0 c w).mono ?_
      rintro e w' ⟨rfl, rfl⟩
      exact ⟨_, rfl, World.ownsRow_nil _ _ _ _, Below.refl _ _⟩
    | some a =>
      refine (Try.slices_Clone_string_zero a c w).mono ?_
      rintro e w' ⟨v, rfl, ho, _, hbl⟩
      exact ⟨v, rfl, ho, hbl⟩

end Go.Proofs.Ytdilfdjhablnpaa
