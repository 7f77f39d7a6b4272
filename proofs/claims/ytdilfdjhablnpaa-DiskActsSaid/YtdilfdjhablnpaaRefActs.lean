/- The walks of tabularyref10.Read, Cut, Sync. -/
import Derived.Test.YtdilfdjhablnpaaRefImage
import Derived.Deep.RegionWith
namespace Go.Proofs.Ytdilfdjhablnpaa
open Go.RowKit Go.Shelf

/-- What is read, and which error. -/
def rdS (off : Bool) (at_ : Int) (n : Nat) (kept : List ByteArray) (ws : List Wr) : ByteArray := if off = false ∧ 0 ≤ at_ ∧ at_ < n then readL at_ (kept.getD at_.toNat ByteArray.empty) (idxs ws) else ⟨#[]⟩
def rdE (off : Bool) (at_ : Int) (n : Nat) : Int := if off then 14 else if 0 ≤ at_ ∧ at_ < n then 0 else 5

theorem read_all (z : Int) (Ak Aw : Option Addr) (n ck m cw : Nat) (off : Bool) (at_ : Int) (kept : List ByteArray) (ws : List Wr) (w : World) (h : Hid (DiskIn w Ak Aw n m kept ws)) :
    Calls Try.prog 19 #[.agg #[.int .i64 z, .slice Ak n ck, .slice Aw m cw, .bool off], .int .i64 at_] w fun e w' =>
      e = .returned (.tuple #[.string (rdS off at_ n kept ws), .int .i64 (rdE off at_ n)]) ∧ Below w.heap.size w w' := by
  cases off with
  | true => exact readDead_calls z Ak Aw n ck m cw at_ w
  | false =>
    by_cases hr : 0 ≤ at_ ∧ at_ < n
    · have e1 : rdS false at_ n kept ws = readL at_ (kept.getD at_.toNat ByteArray.empty) (idxs ws) := if_pos ⟨rfl, hr⟩
      have e2 : rdE false at_ n = 0 := if_pos hr
      rw [e1, e2]
      exact read_calls z Ak Aw n ck m cw at_ kept ws w h hr.1 hr.2
    · have e1 : rdS false at_ n kept ws = ⟨#[]⟩ := if_neg (fun q => hr q.2)
      have e2 : rdE false at_ n = 5 := if_neg hr
      rw [e1, e2]
      exact readNone_calls z Ak Aw n ck m cw at_ w (by omega)

set_option maxHeartbeats 1000000 in
theorem refRead_good (z : Int) (Ak Aw : Option Addr) (n ck m cw : Nat) (a : Nat) (kept : List ByteArray) (ws : List Wr) (w : World) (h : Hid (DiskIn w Ak Aw n m kept ws)) (hR : Hid (RightD z kept ws)) (ha : a < n) :
    Calls Try.prog 24 #[.agg #[.int .i64 z, .slice Ak n ck, .slice Aw m cw, .bool false], .int .i64 a] w fun e w' =>
      e = .returned (.tuple #[.string (readL a (kept.getD a ByteArray.empty) (idxs ws)), .int .i64 0]) ∧ Below w.heap.size w w' := by
  have hb := one_below w (.cells #[.int .i64 z, .slice Ak n ck, .slice Aw m cw, .bool false] 25)
  have HD := Lib.hid (h.out.below hb)
  have HB := Lib.hid hb
  have d1 : decide ((a : Int) < 0) = false := by simp
  have d2 : decide ((a : Int) ≥ (n : Int)) = false := by simp; omega
  obtain ⟨c0, c1, c2, c3, _⟩ := BoxD.new w z (.slice Ak n ck) (.slice Aw m cw) false
  clear hb
  go_enter Try.func24, Try.ntmps24
  go_wp2_with (go_at_call 29; refine (refImage_calls z Ak Aw n ck m cw false kept ws _ HD hR).mono ?_)
  rintro e w1 ⟨A, c, rfl, hc, hrow, _, hbel⟩
  obtain ⟨b, o, rfl, hx⟩ := hrow a (by unfold image; rw [doneL_len]; have := HD.out.n_eq; omega)
  have himg := image_get kept ws a (by have := hR.out.fits; exact this) (by omega) (by have := HD.out.n_eq; omega)
  rw [Int.toNat_natCast] at himg
  rw [himg] at hx
  have HBF := Lib.hid (HB.out.trans (hbel.mono HB.out.size))
  obtain ⟨X, hX⟩ : ∃ X, readL a (kept.getD a ByteArray.empty) (idxs ws) = X := ⟨_, rfl⟩
  rw [hX] at hx
  have HX := Lib.hid hX
  clear hX
  clear hrow hbel himg c0 c1 c2 c3
  go_wp2
  exact bodyPost_ret (v := .tuple #[.string X, .int .i64 0]) (by simp [results, Try.results24, go_sem]) rfl ⟨by rw [HX.out], HBF.out⟩

set_option maxHeartbeats 1000000 in
theorem refRead_all (z : Int) (Ak Aw : Option Addr) (n ck m cw : Nat) (off : Bool) (at_ : Int) (kept : List ByteArray) (ws : List Wr) (w : World) (h : Hid (DiskIn w Ak Aw n m kept ws)) (hR : Hid (RightD z kept ws)) :
    Calls Try.prog 24 #[.agg #[.int .i64 z, .slice Ak n ck, .slice Aw m cw, .bool off], .int .i64 at_] w fun e w' =>
      e = .returned (.tuple #[.string (rdS off at_ n kept ws), .int .i64 (rdE off at_ n)]) ∧ Below w.heap.size w w' := by
  have hb := one_below w (.cells #[.int .i64 z, .slice Ak n ck, .slice Aw m cw, .bool off] 25)
  obtain ⟨c0, c1, c2, c3, _⟩ := BoxD.new w z (.slice Ak n ck) (.slice Aw m cw) off
  cases off with
  | true =>
    show Calls _ _ _ _ fun e w' => e = .returned (.tuple #[.string ⟨#[]⟩, .int .i64 14]) ∧ _
    go_enter Try.func24, Try.ntmps24
    go_wp2
    exact bodyPost_ret (v := .tuple #[.string ⟨#[]⟩, .int .i64 14]) (by simp [results, Try.results24, go_sem]) rfl ⟨rfl, hb⟩
  | false =>
    by_cases hr : 0 ≤ at_ ∧ at_ < n
    · have e1 : rdS false at_ n kept ws = readL at_ (kept.getD at_.toNat ByteArray.empty) (idxs ws) := if_pos ⟨rfl, hr⟩
      have e2 : rdE false at_ n = 0 := if_pos hr
      rw [e1, e2]
      obtain ⟨a, rfl⟩ := Int.eq_ofNat_of_zero_le hr.1
      exact refRead_good z Ak Aw n ck m cw a kept ws w h hR (by omega)
    · have e1 : rdS false at_ n kept ws = ⟨#[]⟩ := if_neg (fun q => hr q.2)
      have e2 : rdE false at_ n = 5 := if_neg hr
      rw [e1, e2]
      by_cases h1 : at_ < 0
      · have d1 : decide (at_ < 0) = true := by simpa using h1
        go_enter Try.func24, Try.ntmps24
        go_wp2
        exact bodyPost_ret (v := .tuple #[.string ⟨#[]⟩, .int .i64 5]) (by simp [results, Try.results24, go_sem]) rfl ⟨rfl, hb⟩
      · have d1 : decide (at_ < 0) = false := by simpa using h1
        have d2 : decide (at_ ≥ (n : Int)) = true := by simp; omega
        go_enter Try.func24, Try.ntmps24
        go_wp2
        exact bodyPost_ret (v := .tuple #[.string ⟨#[]⟩, .int .i64 5]) (by simp [results, Try.results24, go_sem]) rfl ⟨rfl, hb⟩

set_option maxHeartbeats 1000000 in
theorem refCut_calls (z : Int) (Ak Aw : Option Addr) (n ck m cw : Nat) (off : Bool) (w : World) :
    Calls Try.prog 28 #[.agg #[.int .i64 z, .slice Ak n ck, .slice Aw m cw, .bool off]] w fun e w' =>
      e = .returned (.agg #[.int .i64 z, .slice Ak n ck, .slice Aw m cw, .bool true]) ∧ Below w.heap.size w w' := by
  go_enter Try.func28, Try.ntmps28
  go_wp2
  obtain ⟨t0, t1, t2, t3, _⟩ := two w (.cells #[.int .i64 z, .slice Ak n ck, .slice Aw m cw, .bool off] 25) z (.slice Ak n ck) (.slice Aw m cw) true
  have hb := two_below w (.cells #[.int .i64 z, .slice Ak n ck, .slice Aw m cw, .bool off] 25) (.cells #[.int .i64 z, .slice Ak n ck, .slice Aw m cw, .bool true] 25)
  generalize ((w.alloc (Obj.cells #[Value.int IntKind.i64 z, Value.slice Ak n ck, Value.slice Aw m cw, Value.bool off] 25)).alloc (Obj.cells #[Value.int IntKind.i64 z, Value.slice Ak n ck, Value.slice Aw m cw, Value.bool true] 25)) = W at *
  exact bodyPost_ret (v := .agg #[.int .i64 z, .slice Ak n ck, .slice Aw m cw, .bool true]) (by simp [results, Try.results28, go_sem, t0, t1, t2, t3]) rfl ⟨rfl, hb⟩

set_option maxHeartbeats 1000000 in
theorem refSync_calls (z : Int) (Ak Aw : Option Addr) (n ck m cw : Nat) (kept : List ByteArray) (ws : List Wr) (w : World) (h : Hid (DiskIn w Ak Aw n m kept ws)) (hR : Hid (RightD z kept ws)) :
    Calls Try.prog 26 #[.agg #[.int .i64 z, .slice Ak n ck, .slice Aw m cw, .bool false]] w fun e w' =>
      ∃ A c, e = .returned (.tuple #[.agg #[.int .i64 z, .slice A n c, .slice none 0 0, .bool false], .int .i64 0]) ∧ n ≤ c ∧ StrRow w' A (image kept ws) ∧ OwnAt A w.heap.size w'.heap.size n ∧ Below w.heap.size w w' := by
  go_enter Try.func26, Try.ntmps26
  go_wp2
  have b1 := (BoxD.new w z (.slice Ak n ck) (.slice Aw m cw) false).alloc (.cells #[.int .i64 0, .slice none 0 0, .slice none 0 0, .bool false] 25)
  have b2 := two w (.cells #[.int .i64 z, .slice Ak n ck, .slice Aw m cw, .bool false] 25) 0 (.slice none 0 0) (.slice none 0 0) false
  have hbW := two_below w (.cells #[.int .i64 z, .slice Ak n ck, .slice Aw m cw, .bool false] 25) (.cells #[.int .i64 0, .slice none 0 0, .slice none 0 0, .bool false] 25)
  have hsW : ((w.alloc (.cells #[.int .i64 z, .slice Ak n ck, .slice Aw m cw, .bool false] 25)).alloc (.cells #[.int .i64 0, .slice none 0 0, .slice none 0 0, .bool false] 25)).heap.size = w.heap.size + 2 := by simp
  generalize ((w.alloc (.cells #[.int .i64 z, .slice Ak n ck, .slice Aw m cw, .bool false] 25)).alloc (.cells #[.int .i64 0, .slice none 0 0, .slice none 0 0, .bool false] 25)) = W at *
  have HD := Lib.hid (refImage_calls z Ak Aw n ck m cw false kept ws W.drew (Lib.hid (h.out.below hbW.drew)) hR)
  obtain ⟨p0, p1, p2, p3, _⟩ := b1
  have B1 := Lib.hid p0
  have B2 := Lib.hid b2
  have HB := Lib.hid hbW
  have HS := Lib.hid hsW
  clear hbW hsW b2
  go_region_with (go_at_call 29; refine HD.out.mono ?_; rintro e w' ⟨A, c, rfl, hnc, hrow, hown, hbel⟩; have hbel' := undrew hbel; have HBX := Lib.hid (B2.out.below hbel'); obtain ⟨r0, r1, r2, r3, rf⟩ := B2.out.below hbel'; have q0 := (bcell' hbel' w.heap.size 0 (World.block_lt_of_cell? W _ B1.out)).trans B1.out; have f0 := rf 0; have f1 := rf 1; have f2 := rf 2; have f3 := rf 3; have HR := Lib.hid hrow; have HO := Lib.hid hown; have HBEL := Lib.hid hbel'; have HNC := Lib.hid hnc; clear hrow hown hbel hbel' rf hnc)
  all_goals
    show Exit.then _ _ _ _ (setD w' (w.heap.size + 1) z (.slice A n c) (.slice none 0 0) false)
    have hbox := HBX.out.set z (.slice A n c) (.slice none 0 0) false
    have hbw := setD_below (HB.out.trans (HBEL.out.mono HB.out.size)) (b := w.heap.size + 1) (by omega) z (.slice A n c) (.slice none 0 0) false
    have hrow := setD_row HR.out (b := w.heap.size + 1) (own_ne HO.out (by have := HS.out; show _ < W.heap.size; omega) (by unfold image; rw [doneL_len]; exact h.out.n_eq.symm)) z (.slice A n c) (.slice none 0 0) false
    have hown := OwnAt.mono HO.out (lo' := w.heap.size) (hi' := (setD w' (w.heap.size + 1) z (.slice A n c) (.slice none 0 0) false).heap.size) (by have := HS.out; show _ ≤ W.heap.size; omega) (by simp [setD, World.setCell])
    generalize setD w' (w.heap.size + 1) z (.slice A n c) (.slice none 0 0) false = Wf at *
    obtain ⟨t0, t1, t2, t3, _⟩ := hbox
    clear r0 r1 r2 r3 f0 f1 f2 f3 q0
    go_wp2
    exact bodyPost_ret (v := .tuple #[.agg #[.int .i64 z, .slice A n c, .slice none 0 0, .bool false], .int .i64 0]) (by simp [results, Try.results26, go_sem, t0, t1, t2, t3]) rfl ⟨A, c, rfl, HNC.out, hrow, hown, hbw⟩

set_option maxHeartbeats 1000000 in
theorem refSyncOff_calls (z : Int) (Ak Aw : Option Addr) (n ck m cw : Nat) (w : World) :
    Calls Try.prog 26 #[.agg #[.int .i64 z, .slice Ak n ck, .slice Aw m cw, .bool true]] w fun e w' =>
      e = .returned (.tuple #[.agg #[.int .i64 z, .slice Ak n ck, .slice Aw m cw, .bool true], .int .i64 14]) ∧ Below w.heap.size w w' := by
  go_enter Try.func26, Try.ntmps26
  go_wp2
  obtain ⟨t0, t1, t2, t3, _⟩ := two w (.cells #[.int .i64 z, .slice Ak n ck, .slice Aw m cw, .bool true] 25) z (.slice Ak n ck) (.slice Aw m cw) true
  have hb := two_below w (.cells #[.int .i64 z, .slice Ak n ck, .slice Aw m cw, .bool true] 25) (.cells #[.int .i64 z, .slice Ak n ck, .slice Aw m cw, .bool true] 25)
  generalize ((w.alloc (Obj.cells #[Value.int IntKind.i64 z, Value.slice Ak n ck, Value.slice Aw m cw, Value.bool true] 25)).alloc (Obj.cells #[Value.int IntKind.i64 z, Value.slice Ak n ck, Value.slice Aw m cw, Value.bool true] 25)) = W at *
  exact bodyPost_ret (v := .tuple #[.agg #[.int .i64 z, .slice Ak n ck, .slice Aw m cw, .bool true], .int .i64 14]) (by simp [results, Try.results26, go_sem, t0, t1, t2, t3]) rfl ⟨rfl, hb⟩

end Go.Proofs.Ytdilfdjhablnpaa
