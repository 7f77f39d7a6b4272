/- A disk that came in, as it is read. -/
import Derived.Test.YtdilfdjhablnpaaCrash
import Derived.Test.YtdilfdjhablnpaaRows
import Derived.Lib.SmallJoins
import Derived.Deep.Slices
import Derived.SliceStrings
import Derived.ChangeArms
namespace Go.Proofs.Ytdilfdjhablnpaa
open Go.RowKit Go.Joins Go.Deep Go.ChangeShapes Go.WideShapes

variable {H : Type} {enc : TypeId × Value → H} {w : World} {base : Nat} {spare : Nat → Bool} {held : Bool}

/-- An address that has a cell is plain. -/
theorem plain_addr {a : Addr} {v : Value} (h : w.cell? a = some v) : ∃ b o, a = ⟨b, o, none⟩ := by
  obtain ⟨b, o, sp⟩ := a
  cases sp with
  | none => exact ⟨b, o, rfl⟩
  | some k =>
    unfold World.cell? at h
    split at h
    · simp at h
    · cases h

theorem add_zero (a : Addr) : a.add 0 = a := by simp [Addr.add]

theorem strs_open {t : TypeId} {fuel : Nat} {cs : List Value} {x : DataW H × List MemPlace} (ht : Try.prog.underlying t = some (.slice 9)) (h : DataW.trod enc Try.prog w base spare held fuel t cs = some x) :
    ∃ A n c l, cs = [.slice A n c] ∧ n = l.length ∧ n ≤ c ∧ StrRow w A l ∧ ∀ s ∈ l, s.size ≤ maxLen := by
  rcases open_strings ht Try.underlying9 (by kernel_rfl) h with ⟨rfl, _⟩ | ⟨a, len, cap, ss, rfl, _, hl, _, hss, _, hcell, hsz⟩
  · exact ⟨none, 0, 0, [], rfl, rfl, Nat.le_refl _, StrRow.nil _ _, fun s hs => by simp at hs⟩
  · have hle : len ≤ ss.length := by rw [hss]; split <;> omega
    refine ⟨some a, len, cap, ss.take len, rfl, by rw [List.length_take]; omega, hl, fun k hk => ?_, fun s hs => hsz s (List.mem_of_mem_take hs)⟩
    rw [List.length_take] at hk
    have h0 := hcell 0 (by omega)
    rw [add_zero] at h0
    obtain ⟨b, o, rfl⟩ := plain_addr h0
    have h1 := hcell k (by omega)
    rw [Addr.add_lit] at h1
    refine ⟨b, o, rfl, h1.trans ?_⟩
    simp only [List.getD, List.getElem?_take, if_pos (show k < len by omega)]

theorem wrs_open {t : TypeId} {fuel : Nat} {cs : List Value} {x : DataW H × List MemPlace} (ht : Try.prog.underlying t = some (.slice 31)) (h : DataW.trod enc Try.prog w base spare held fuel t cs = some x) :
    ∃ A n c l, cs = [.slice A n c] ∧ n = l.length ∧ n ≤ c ∧ WrRow w A l := by
  rcases open_slice ht h with ⟨rfl, _⟩ | ⟨a, len, cap, m, fu, D, Pl, rfl, _, hl, _, hm, _, hx⟩
  · exact ⟨none, 0, 0, [], rfl, rfl, Nat.le_refl _, WrRow.nil _ _⟩
  · have hle : len ≤ m := by rw [hm]; split <;> omega
    have hC : Try.prog.cellsOf 31 = 2 := by kernel_rfl
    rw [hC] at hx
    have each : ∀ i, i < len → ∃ y : Wr, w.cell? (a.add (i * 2)) = some (.int .i64 y.at_) ∧ w.cell? ((a.add (i * 2)).add 1) = some (.string y.s) := fun i hi => by
      obtain ⟨cs', hcs, htr⟩ := hx i (by omega)
      obtain ⟨_, hlen, hget⟩ := World.cells?_some hcs
      match cs', hlen with
      | [c0, c1], _ =>
        obtain ⟨xs, n', _, _, _, hxl, hf⟩ := DataW.trod_struct Try.underlying31 htr
        match xs, hxl with
        | [y0, y1], _ =>
          have f0 : DataW.trod enc Try.prog w base spare held n' 3 (([c0, c1].drop 0).take (Try.prog.cellsOf 3)) = some y0 := hf 0 _ rfl
          have f1 : DataW.trod enc Try.prog w base spare held n' 9 (([c0, c1].drop 1).take (Try.prog.cellsOf 9)) = some y1 := hf 1 _ rfl
          rw [show Try.prog.cellsOf 3 = 1 by kernel_rfl] at f0
          rw [show Try.prog.cellsOf 9 = 1 by kernel_rfl] at f1
          obtain ⟨z, e0, _, _⟩ := DataW.trod_int Try.underlying3 f0
          obtain ⟨s, e1, _, _⟩ := DataW.trod_string Try.underlying9 f1
          have g0 := hget 0 (by omega)
          have g1 := hget 1 (by omega)
          simp at e0 e1
          subst e0 e1
          rw [add_zero] at g0
          exact ⟨⟨z, s⟩, g0, g1⟩
    obtain ⟨f, hf⟩ := @choose_lt Wr ⟨noWr⟩ len _ each
    refine ⟨some a, len, cap, (List.range len).map f, rfl, by simp, hl, fun k hk => ?_⟩
    have hk' : k < len := by simpa using hk
    have h0 := (hf 0 (by omega)).1
    rw [Nat.zero_mul, add_zero] at h0
    obtain ⟨b, o, rfl⟩ := plain_addr h0
    obtain ⟨h1, h2⟩ := hf k hk'
    rw [Addr.add_lit] at h1 h2
    rw [Addr.add_lit] at h2
    have e : ((List.range len).map f).getD k noWr = f k := by simp [List.getD, hk']
    rw [e]
    exact ⟨b, o, rfl, h1, h2⟩

/-- A disk that came in. -/
theorem disk_open {r : Reach} {b0 : Nat} {v : Value} {d : DataW H} {p : List MemPlace} (hv : Value.okWide Try.prog w r b0 25 v) (h : DataW.Trod enc Try.prog w base spare held 25 v d p) :
    ∃ z Ak n ck Aw m cw off kept ws, v = .agg #[.int .i64 z, .slice Ak n ck, .slice Aw m cw, .bool off] ∧ n = kept.length ∧ m = ws.length ∧ n ≤ ck ∧ m ≤ cw ∧ StrRow w Ak kept ∧ WrRow w Aw ws ∧ (Lit.int .i64 z).wf = true := by
  obtain ⟨v0, v1, v2, v3, y0, y1, y2, y3, n, rfl, _, _, h0, h1, h2, h3⟩ := open_agg4 Try.underlying25 (by kernel_rfl) (by kernel_rfl) hv h
  obtain ⟨z, e0, _, hz⟩ := DataW.trod_int Try.underlying3 h0
  obtain ⟨A, n1, c1, l, e1, hn, hc, hrow, _⟩ := strs_open Try.underlying22 h1
  obtain ⟨B, n2, c2, k, e2, hm, hd, hwr⟩ := wrs_open Try.underlying23 h2
  obtain ⟨o, e3, _⟩ := DataW.trod_bool Try.underlying4 h3
  simp at e0 e1 e2 e3
  subst e0 e1 e2 e3
  exact ⟨z, A, n1, c1, B, n2, c2, o, l, k, rfl, hn, hm, hc, hd, hrow, hwr, hz⟩
end Go.Proofs.Ytdilfdjhablnpaa
