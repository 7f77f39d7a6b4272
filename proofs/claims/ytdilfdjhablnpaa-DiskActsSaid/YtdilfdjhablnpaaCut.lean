/- The walks of disk.Cut and disk.Sync. -/
import Derived.Test.YtdilfdjhablnpaaCrash
namespace Go.Proofs.Ytdilfdjhablnpaa
open Go.RowKit Go.Shelf

/-- Two boxes made one after the other. -/
theorem two (w : World) (o : Obj) (z : Int) (ka wa : Value) (off : Bool) : BoxD (w.heap.size + 1) z ka wa off ((w.alloc o).alloc (.cells #[.int .i64 z, ka, wa, .bool off] 25)) := by
  have h := BoxD.new (w.alloc o) z ka wa off
  rw [show (w.alloc o).heap.size = w.heap.size + 1 by simp] at h
  exact h

theorem two_below (w : World) (o o' : Obj) : Below w.heap.size w ((w.alloc o).alloc o') := ((Below.refl _ w).alloc (Nat.le_refl _) _).alloc (by simp) _

set_option maxHeartbeats 1000000 in
theorem cut_calls (z : Int) (Ak Aw : Option Addr) (n ck m cw : Nat) (off : Bool) (w : World) :
    Calls Try.prog 21 #[.agg #[.int .i64 z, .slice Ak n ck, .slice Aw m cw, .bool off]] w fun e w' =>
      e = .returned (.agg #[.int .i64 z, .slice Ak n ck, .slice Aw m cw, .bool true]) ∧ Below w.heap.size w w' := by
  go_enter Try.func21, Try.ntmps21
  go_wp2
  obtain ⟨t0, t1, t2, t3, _⟩ := two w (.cells #[.int .i64 z, .slice Ak n ck, .slice Aw m cw, .bool true] 25) z (.slice Ak n ck) (.slice Aw m cw) true
  have hb := two_below w (.cells #[.int .i64 z, .slice Ak n ck, .slice Aw m cw, .bool true] 25) (.cells #[.int .i64 z, .slice Ak n ck, .slice Aw m cw, .bool true] 25)
  generalize ((w.alloc (Obj.cells #[Value.int IntKind.i64 z, Value.slice Ak n ck, Value.slice Aw m cw, Value.bool true] 25)).alloc (Obj.cells #[Value.int IntKind.i64 z, Value.slice Ak n ck, Value.slice Aw m cw, Value.bool true] 25)) = W at *
  exact bodyPost_ret (v := .agg #[.int .i64 z, .slice Ak n ck, .slice Aw m cw, .bool true]) (by simp [results, Try.results21, go_sem, t0, t1, t2, t3]) rfl ⟨rfl, hb⟩

set_option maxHeartbeats 1000000 in
theorem sync_calls (z : Int) (Ak Aw : Option Addr) (n ck m cw : Nat) (kept : List ByteArray) (ws : List Wr) (w : World) (h : Hid (DiskIn w Ak Aw n m kept ws)) (hf : Hid (Fits n ws)) :
    Calls Try.prog 13 #[.agg #[.int .i64 z, .slice Ak n ck, .slice Aw m cw, .bool false]] w fun e w' =>
      ∃ A c, e = .returned (.tuple #[.agg #[.int .i64 z, .slice A n c, .slice none 0 0, .bool false], .int .i64 0]) ∧ n ≤ c ∧ StrRow w' A (image kept ws) ∧ OwnAt A w.heap.size w'.heap.size n ∧ Below w.heap.size w w' := by
  go_enter Try.func13, Try.ntmps13
  go_wp2
  have b1 := (BoxD.new w z (.slice Ak n ck) (.slice Aw m cw) false).alloc (.cells #[.int .i64 0, .slice none 0 0, .slice none 0 0, .bool false] 25)
  have b2 := two w (.cells #[.int .i64 z, .slice Ak n ck, .slice Aw m cw, .bool false] 25) 0 (.slice none 0 0) (.slice none 0 0) false
  have hbW := two_below w (.cells #[.int .i64 z, .slice Ak n ck, .slice Aw m cw, .bool false] 25) (.cells #[.int .i64 0, .slice none 0 0, .slice none 0 0, .bool false] 25)
  have hsW : ((w.alloc (.cells #[.int .i64 z, .slice Ak n ck, .slice Aw m cw, .bool false] 25)).alloc (.cells #[.int .i64 0, .slice none 0 0, .slice none 0 0, .bool false] 25)).heap.size = w.heap.size + 2 := by simp
  generalize ((w.alloc (.cells #[.int .i64 z, .slice Ak n ck, .slice Aw m cw, .bool false] 25)).alloc (.cells #[.int .i64 0, .slice none 0 0, .slice none 0 0, .bool false] 25)) = W at *
  have HD := Lib.hid (image_calls z Ak Aw n ck m cw false kept ws W.drew (Lib.hid (h.out.below hbW.drew)) hf)
  obtain ⟨p0, p1, p2, p3, _⟩ := b1
  have B1 := Lib.hid p0
  have B2 := Lib.hid b2
  have HB := Lib.hid hbW
  have HS := Lib.hid hsW
  clear hbW hsW b2
  go_region_with (go_at_call 15; refine HD.out.mono ?_; rintro e w' ⟨A, c, rfl, hnc, hrow, hown, hbel⟩; have hbel' := undrew hbel; have HBX := Lib.hid (B2.out.below hbel'); obtain ⟨r0, r1, r2, r3, rf⟩ := B2.out.below hbel'; have q0 := (bcell' hbel' w.heap.size 0 (World.block_lt_of_cell? W _ B1.out)).trans B1.out; have f0 := rf 0; have f1 := rf 1; have f2 := rf 2; have f3 := rf 3; have HR := Lib.hid hrow; have HO := Lib.hid hown; have HBEL := Lib.hid hbel'; have HNC := Lib.hid hnc; clear hrow hown hbel hbel' rf hnc)
  all_goals
    show Exit.then _ _ _ _ (setD w' (w.heap.size + 1) z (.slice A n c) (.slice none 0 0) false)
    have hbox := HBX.out.set z (.slice A n c) (.slice none 0 0) false
    have hbw := setD_below (HB.out.trans (HBEL.out.mono HB.out.size)) (b := w.heap.size + 1) (by omega) z (.slice A n c) (.slice none 0 0) false
    have hrow := setD_row HR.out (b := w.heap.size + 1) (own_ne HO.out (by have := HS.out; show _ < W.heap.size; omega) (by unfold image; rw [doneL_len]; exact h.out.n_eq.symm)) z (.slice A n c) (.slice none 0 0) false
    have hown := OwnAt.mono HO.out (lo' := w.heap.size) (hi' := (setD w' (w.heap.size + 1) z (.slice A n c) (.slice none 0 0) false).heap.size) (by have := HS.out; show _ ≤ W.heap.size; omega) (by simp [setD, World.setCell])
    generalize setD w' (w.heap.size + 1) z (.slice A n c) (.slice none 0 0) false = Wf at *
    obtain ⟨t0, t1, t2, t3, _⟩ := hbox
    clear r0 r1 r2 r3 f0 f1 f2 f3 q0
    go_wp2
    exact bodyPost_ret (v := .tuple #[.agg #[.int .i64 z, .slice A n c, .slice none 0 0, .bool false], .int .i64 0]) (by simp [results, Try.results13, go_sem, t0, t1, t2, t3]) rfl ⟨A, c, rfl, HNC.out, hrow, hown, hbw⟩

set_option maxHeartbeats 1000000 in
theorem syncOff_calls (z : Int) (Ak Aw : Option Addr) (n ck m cw : Nat) (w : World) :
    Calls Try.prog 13 #[.agg #[.int .i64 z, .slice Ak n ck, .slice Aw m cw, .bool true]] w fun e w' =>
      e = .returned (.tuple #[.agg #[.int .i64 z, .slice Ak n ck, .slice Aw m cw, .bool true], .int .i64 14]) ∧ Below w.heap.size w w' := by
  go_enter Try.func13, Try.ntmps13
  go_wp2
  obtain ⟨t0, t1, t2, t3, _⟩ := two w (.cells #[.int .i64 z, .slice Ak n ck, .slice Aw m cw, .bool true] 25) z (.slice Ak n ck) (.slice Aw m cw) true
  have hb := two_below w (.cells #[.int .i64 z, .slice Ak n ck, .slice Aw m cw, .bool true] 25) (.cells #[.int .i64 z, .slice Ak n ck, .slice Aw m cw, .bool true] 25)
  generalize ((w.alloc (Obj.cells #[Value.int IntKind.i64 z, Value.slice Ak n ck, Value.slice Aw m cw, Value.bool true] 25)).alloc (Obj.cells #[Value.int IntKind.i64 z, Value.slice Ak n ck, Value.slice Aw m cw, Value.bool true] 25)) = W at *
  exact bodyPost_ret (v := .tuple #[.agg #[.int .i64 z, .slice Ak n ck, .slice Aw m cw, .bool true], .int .i64 14]) (by simp [results, Try.results13, go_sem, t0, t1, t2, t3]) rfl ⟨rfl, hb⟩

end Go.Proofs.Ytdilfdjhablnpaa
