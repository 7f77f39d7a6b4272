/- The walk of disk.New. -/
import Derived.Test.YtdilfdjhablnpaaRepeat
import Derived.Laws.IdiomStrings
namespace Go.Proofs.Ytdilfdjhablnpaa
open Go.RowKit Go.Shelf

/-- A text of zeros. -/
def zeros (z : Nat) : ByteArray := ⟨Array.replicate z 0⟩

theorem zeros_conv (W : World) (z g : Nat) (hg : g = W.heap.size) :
    (convert 47 9 (.slice (some ⟨g, 0, none⟩) z z)).run Try.prog (W.alloc (.cells (madeCells #[.int .u8 0] z) 5)) = .ok (.string (zeros z)) (W.alloc (.cells (madeCells #[.int .u8 0] z) 5)) := by
  have h := run_convert_bytes_back (P := Try.prog) (W.alloc (.cells (madeCells #[.int .u8 0] z) 5)) 47 9 5 ⟨g, 0, none⟩ z (List.replicate z 0) (by kernel_rfl) (by kernel_rfl) (by kernel_rfl) (fun j hj => by
    rw [List.length_replicate] at hj
    rw [Addr.add_lit, World.cell?_alloc_at _ _ _ _ hg, Nat.zero_add]
    show (madeCells #[.int .u8 0] z)[j]? = _
    rw [← Array.getElem?_toList, toList_madeCells_one, List.getElem?_replicate, if_pos hj, List.getElem_replicate]
    rfl)
  rw [List.length_replicate] at h
  rw [h]
  simp [zeros]

set_option maxHeartbeats 1000000 in
theorem new_calls (c z : Nat) (w : World) (hc1 : 1 ≤ c) (hc : c ≤ 4096) (hz1 : 96 ≤ z) (hz : z ≤ 1024) :
    Calls Try.prog 20 #[.int .i64 c, .int .i64 z] w fun e w' =>
      ∃ A, e = .returned (.tuple #[.agg #[.int .i64 z, .slice A c c, .slice none 0 0, .bool false], .int .i64 0]) ∧ StrRow w' A (List.replicate c (zeros z)) ∧ OwnAt A w.heap.size w'.heap.size c ∧ Below w.heap.size w w' := by
  have d1 : decide ((c : Int) < 1) = false := by simp; omega
  have d2 : decide ((c : Int) > 4096) = false := by simp; omega
  have d3 : decide ((z : Int) < 96) = false := by simp; omega
  have d4 : decide ((z : Int) > 1024) = false := by simp; omega
  have hconv := zeros_conv (w.alloc (.cells #[.int .i64 0, .slice none 0 0, .slice none 0 0, .bool false] 25)) z (w.heap.size + 1) (by simp)
  go_enter Try.func20, Try.ntmps20
  go_wp2_with first
    | (at_make; refine wpList_make_row _ rfl _ _ 47 rfl 5 Try.t5 (.int .u8 0) (by kernel_rfl) (by kernel_rfl) rfl rfl rfl .i64 .i64 z rfl rfl (by show 1 * z ≤ _; omega) (by omega) ?_)
    | (go_at_call 35; refine (repeat_calls (w.heap.size + 1 + 1) c (zeros z) _ hc1 hc ?hs).mono ?_)
  case hs => rw [World.cell?_alloc_at _ _ _ _ (by simp)]; rfl
  have B2 := ((BoxD.new w 0 (.slice none 0 0) (.slice none 0 0) false).alloc (.cells (madeCells #[.int .u8 0] z) 5)).alloc (.cells #[.string (zeros z)] 9)
  have hbw := three_below w (.cells #[.int .i64 0, .slice none 0 0, .slice none 0 0, .bool false] 25) (.cells (madeCells #[.int .u8 0] z) 5) (.cells #[.string (zeros z)] 9)
  have hsz : (((w.alloc (.cells #[.int .i64 0, .slice none 0 0, .slice none 0 0, .bool false] 25)).alloc (.cells (madeCells #[.int .u8 0] z) 5)).alloc (.cells #[.string (zeros z)] 9)).heap.size = w.heap.size + 3 := by simp
  generalize (((w.alloc (.cells #[.int .i64 0, .slice none 0 0, .slice none 0 0, .bool false] 25)).alloc (.cells (madeCells #[.int .u8 0] z) 5)).alloc (.cells #[.string (zeros z)] 9)) = W at *
  rintro e w' ⟨A, rfl, hrow, hown, hbel⟩
  have HBX := Lib.hid (B2.below hbel)
  obtain ⟨r0, r1, r2, r3, rf⟩ := B2.below hbel
  have f0 := rf 0
  have f1 := rf 1
  have f2 := rf 2
  have f3 := rf 3
  have HR := Lib.hid hrow
  have HO := Lib.hid hown
  have HB := Lib.hid (hbw.trans (hbel.mono hbw.size))
  have HS := Lib.hid hsz
  clear hrow hown hbel rf hbw hsz hconv B2
  go_wp2
  have hbox := HBX.out.set z (.slice A c c) (.slice none 0 0) false
  have hbw := setD_below HB.out (b := w.heap.size) (Nat.le_refl _) z (.slice A c c) (.slice none 0 0) false
  have hrow := setD_row HR.out (b := w.heap.size) (own_ne HO.out (by have := HS.out; omega) (by rw [List.length_replicate])) z (.slice A c c) (.slice none 0 0) false
  have hown := OwnAt.mono HO.out (lo' := w.heap.size) (hi' := (setD w' w.heap.size z (.slice A c c) (.slice none 0 0) false).heap.size) (by have := HS.out; omega) (by simp [setD, World.setCell])
  show bodyPost _ _ _ _ _ (setD w' w.heap.size z (.slice A c c) (.slice none 0 0) false)
  generalize setD w' w.heap.size z (.slice A c c) (.slice none 0 0) false = Wf at *
  obtain ⟨t0, t1, t2, t3, _⟩ := hbox
  exact bodyPost_ret (v := .tuple #[.agg #[.int .i64 z, .slice A c c, .slice none 0 0, .bool false], .int .i64 0]) (by simp [results, Try.results20, go_sem, t0, t1, t2, t3]) rfl ⟨A, rfl, hrow, hown, hbw⟩

theorem newBad_calls (c z : Int) (w : World) (h : c < 1 ∨ 4096 < c ∨ z < 96 ∨ 1024 < z) :
    Calls Try.prog 20 #[.int .i64 c, .int .i64 z] w fun e w' =>
      e = .returned (.tuple #[.agg #[.int .i64 0, .slice none 0 0, .slice none 0 0, .bool false], .int .i64 1]) ∧ Below w.heap.size w w' := by
  have hdec : (decide (c < 1) || decide (c > 4096) || decide (z < 96) || decide (z > 1024)) = true := by
    simp; omega
  obtain ⟨t0, t1, t2, t3, _⟩ := BoxD.new w 0 (.slice none 0 0) (.slice none 0 0) false
  have hb := (Below.refl w.heap.size w).alloc (Nat.le_refl _) (.cells #[.int .i64 0, .slice none 0 0, .slice none 0 0, .bool false] 25)
  have done : ∀ (W : World), W.cell? ⟨w.heap.size, 0, none⟩ = some (.int .i64 0) → True := fun _ _ => trivial
  generalize h1 : decide (c < 1) = D1 at *
  generalize h2 : decide (c > 4096) = D2 at *
  generalize h3 : decide (z < 96) = D3 at *
  generalize h4 : decide (z > 1024) = D4 at *
  cases D1 <;> cases D2 <;> cases D3 <;> cases D4 <;> first
    | (simp at hdec; done)
    | (clear hdec h done
       go_enter Try.func20, Try.ntmps20
       go_wp2
       generalize (w.alloc (Obj.cells #[Value.int IntKind.i64 0, Value.slice none 0 0, Value.slice none 0 0, Value.bool false] 25)) = W at *
       exact bodyPost_ret (v := .tuple #[.agg #[.int .i64 0, .slice none 0 0, .slice none 0 0, .bool false], .int .i64 1]) (by simp [results, Try.results20, go_sem, t0, t1, t2, t3]) rfl ⟨rfl, hb⟩)

end Go.Proofs.Ytdilfdjhablnpaa
