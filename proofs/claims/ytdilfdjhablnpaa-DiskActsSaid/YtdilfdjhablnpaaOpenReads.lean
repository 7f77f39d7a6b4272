/- DiskReads' argument that came in, as it is read. -/
import Derived.Test.YtdilfdjhablnpaaOpen
namespace Go.Proofs.Ytdilfdjhablnpaa
open Go.RowKit Go.Joins Go.Deep Go.ChangeShapes Go.WideShapes

variable {H : Type} {enc : TypeId × Value → H} {w : World} {base : Nat} {spare : Nat → Bool} {held : Bool}

/-- A disk's four cells, as they are read. -/
theorem disk_cells {fuel : Nat} {c0 c1 c2 c3 : Value} {x : DataW H × List MemPlace} (h : DataW.trod enc Try.prog w base spare held fuel 25 [c0, c1, c2, c3] = some x) :
    ∃ z Ak n ck Aw m cw off kept ws, c0 = .int .i64 z ∧ c1 = .slice Ak n ck ∧ c2 = .slice Aw m cw ∧ c3 = .bool off ∧ n = kept.length ∧ m = ws.length ∧ n ≤ ck ∧ m ≤ cw ∧ StrRow w Ak kept ∧ WrRow w Aw ws ∧ (Lit.int .i64 z).wf = true := by
  obtain ⟨xs, n', _, _, _, hxl, hf⟩ := DataW.trod_struct Try.underlying25 h
  match xs, hxl with
  | [y0, y1, y2, y3], _ =>
    have f0 : DataW.trod enc Try.prog w base spare held n' 3 (([c0, c1, c2, c3].drop 0).take (Try.prog.cellsOf 3)) = some y0 := hf 0 _ rfl
    have f1 : DataW.trod enc Try.prog w base spare held n' 22 (([c0, c1, c2, c3].drop 1).take (Try.prog.cellsOf 22)) = some y1 := hf 1 _ rfl
    have f2 : DataW.trod enc Try.prog w base spare held n' 23 (([c0, c1, c2, c3].drop 2).take (Try.prog.cellsOf 23)) = some y2 := hf 2 _ rfl
    have f3 : DataW.trod enc Try.prog w base spare held n' 4 (([c0, c1, c2, c3].drop 3).take (Try.prog.cellsOf 4)) = some y3 := hf 3 _ rfl
    rw [show Try.prog.cellsOf 3 = 1 by kernel_rfl] at f0
    rw [show Try.prog.cellsOf 22 = 1 by kernel_rfl] at f1
    rw [show Try.prog.cellsOf 23 = 1 by kernel_rfl] at f2
    rw [show Try.prog.cellsOf 4 = 1 by kernel_rfl] at f3
    obtain ⟨z, e0, _, hz⟩ := DataW.trod_int Try.underlying3 f0
    obtain ⟨A, n1, k1, l, e1, hn, hc, hrow, _⟩ := strs_open Try.underlying22 f1
    obtain ⟨B, n2, k2, k, e2, hm, hd, hwr⟩ := wrs_open Try.underlying23 f2
    obtain ⟨o, e3, _⟩ := DataW.trod_bool Try.underlying4 f3
    simp at e0 e1 e2 e3
    exact ⟨z, A, n1, k1, B, n2, k2, o, l, k, e0, e1, e2, e3, hn, hm, hc, hd, hrow, hwr, hz⟩

theorem reads_open {r : Reach} {b0 : Nat} {v : Value} {d : DataW H} {p : List MemPlace} (hv : Value.okWide Try.prog w r b0 41 v) (h : DataW.Trod enc Try.prog w base spare held 41 v d p) :
    ∃ z Ak n ck Aw m cw off at_ s other kept ws, v = .agg #[.int .i64 z, .slice Ak n ck, .slice Aw m cw, .bool off, .int .i64 at_, .string s, .int .i64 other] ∧ n = kept.length ∧ m = ws.length ∧ n ≤ ck ∧ m ≤ cw ∧ StrRow w Ak kept ∧ WrRow w Aw ws := by
  obtain ⟨cs, rfl, hsz⟩ := okWide_struct Try.underlying41 hv
  obtain ⟨l⟩ := cs
  have h7 : l.length = 7 := by
    have : l.toArray.size = Try.prog.cellsOf 41 := hsz
    rw [show Try.prog.cellsOf 41 = 7 by kernel_rfl] at this
    simpa using this
  match l, h7 with
  | [c0, c1, c2, c3, c4, c5, c6], _ =>
    obtain ⟨fuel, hf0⟩ := h
    obtain ⟨xs, n', _, _, _, hxl, hf⟩ := DataW.trod_struct Try.underlying41 hf0
    match xs, hxl with
    | [y0, y1, y2, y3], _ =>
      have f0 : DataW.trod enc Try.prog w base spare held n' 25 (([c0, c1, c2, c3, c4, c5, c6].drop 0).take (Try.prog.cellsOf 25)) = some y0 := hf 0 _ rfl
      have f1 : DataW.trod enc Try.prog w base spare held n' 3 (([c0, c1, c2, c3, c4, c5, c6].drop 4).take (Try.prog.cellsOf 3)) = some y1 := hf 1 _ rfl
      have f2 : DataW.trod enc Try.prog w base spare held n' 9 (([c0, c1, c2, c3, c4, c5, c6].drop 5).take (Try.prog.cellsOf 9)) = some y2 := hf 2 _ rfl
      have f3 : DataW.trod enc Try.prog w base spare held n' 3 (([c0, c1, c2, c3, c4, c5, c6].drop 6).take (Try.prog.cellsOf 3)) = some y3 := hf 3 _ rfl
      rw [show Try.prog.cellsOf 25 = 4 by kernel_rfl] at f0
      rw [show Try.prog.cellsOf 3 = 1 by kernel_rfl] at f1 f3
      rw [show Try.prog.cellsOf 9 = 1 by kernel_rfl] at f2
      obtain ⟨z, A, n1, k1, B, n2, k2, o, kl, wl, rfl, rfl, rfl, rfl, hn, hm, hc, hd, hrow, hwr, _⟩ := disk_cells f0
      obtain ⟨a, e1, _, _⟩ := DataW.trod_int Try.underlying3 f1
      obtain ⟨s, e2, _, _⟩ := DataW.trod_string Try.underlying9 f2
      obtain ⟨b, e3, _, _⟩ := DataW.trod_int Try.underlying3 f3
      simp at e1 e2 e3
      subst e1 e2 e3
      exact ⟨z, A, n1, k1, B, n2, k2, o, a, s, b, kl, wl, rfl, hn, hm, hc, hd, hrow, hwr⟩
end Go.Proofs.Ytdilfdjhablnpaa
