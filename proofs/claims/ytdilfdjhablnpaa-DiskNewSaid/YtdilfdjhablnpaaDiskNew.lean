/- The walk of DiskNew. -/
import Derived.Test.YtdilfdjhablnpaaShown
import Derived.Test.YtdilfdjhablnpaaRead
import Derived.Test.YtdilfdjhablnpaaRight
namespace Go.Proofs.Ytdilfdjhablnpaa
open Go.RowKit Go.Shelf

set_option maxHeartbeats 1000000 in
theorem new_many (many size at_ : Int) (w : World) (h1 : 100 < many) (h2 : many ≤ 4096) :
    Calls Try.prog 6 #[.int .i64 many, .int .i64 size, .int .i64 at_] w fun e w' => e = .returned (.bool true) ∧ Below w.heap.size w w' := by
  have d1 : decide (many > 100) = true := by simp; omega
  have d2 : decide (many ≤ 4096) = true := by simp; omega
  go_enter Try.func6, Try.ntmps6
  go_wp2_with (go_at_call 10; refine (shown_calls w).mono ?_)
  rintro e w1 ⟨rfl, hb1⟩
  have HB := Lib.hid hb1
  clear hb1
  go_wp2
  exact bodyPost_ret (v := .bool true) (by simp [results, Try.results6, go_sem]) rfl ⟨rfl, HB.out⟩

set_option maxHeartbeats 1000000 in
theorem new_bad (many size at_ : Int) (w : World) (h : many < 1 ∨ 4096 < many ∨ size < 96 ∨ 1024 < size) (h2 : ¬ (100 < many ∧ many ≤ 4096)) :
    Calls Try.prog 6 #[.int .i64 many, .int .i64 size, .int .i64 at_] w fun e w' => e = .returned (.bool true) ∧ Below w.heap.size w w' := by
  have hor : (decide (many > 100) && decide (many ≤ 4096)) = false := by simp; omega
  have hdec : (decide (many < 1) || decide (many > 4096) || decide (size < 96) || decide (size > 1024)) = true := by simp; omega
  have HN := Lib.hid (newBad_calls many size)
  have HN2 := Lib.hid h
  generalize e1 : decide (many < 1) = D1 at *
  generalize e2 : decide (many > 4096) = D2 at *
  generalize e3 : decide (size < 96) = D3 at *
  generalize e4 : decide (size > 1024) = D4 at *
  generalize e5 : decide (many > 100) = D5 at *
  generalize e6 : decide (many ≤ 4096) = D6 at *
  clear h h2
  cases D5 <;> cases D6 <;> first
    | (simp at hor; done)
    | (cases D1 <;> cases D2 <;> cases D3 <;> cases D4 <;> first
        | (simp at hdec; done)
        | (clear hdec hor
           go_enter Try.func6, Try.ntmps6
           go_wp2_with (go_at_call 10; refine (shown_calls w).mono ?_)
           rintro e w1 ⟨rfl, hb1⟩
           have HB := Lib.hid hb1
           clear hb1
           go_wp2_with (go_at_call 20; refine (HN.out w1 HN2.out).mono ?_)
           rintro e w2 ⟨rfl, hb2⟩
           have HB2 := Lib.hid (HB.out.trans (hb2.mono HB.out.size))
           clear hb2
           go_wp2
           exact bodyPost_ret (v := .bool true) (by simp [results, Try.results6, go_sem]) rfl ⟨rfl, HB2.out.alloc (by exact HB2.out.size) _⟩))

end Go.Proofs.Ytdilfdjhablnpaa
