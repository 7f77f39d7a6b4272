/- The walks of disk.Image, disk.Crash, disk.Cut, disk.Sync. -/
import Derived.Test.YtdilfdjhablnpaaDone
import Derived.Deep.RegionWith
namespace Go.Proofs.Ytdilfdjhablnpaa
open Go.RowKit Go.Shelf

/-- A disk, as it is given: its kept sectors, its writes, each in its sector. -/
structure DiskIn (w : World) (Ak Aw : Option Addr) (n m : Nat) (kept : List ByteArray) (ws : List Wr) : Prop where
  n_eq : n = kept.length
  m_eq : m = ws.length
  n_le : n ≤ 100000
  m_le : m ≤ 100000
  row : StrRow w Ak kept
  wrow : WrRow w Aw ws

theorem DiskIn.below {w w' : World} {Ak Aw : Option Addr} {n m : Nat} {kept : List ByteArray} {ws : List Wr} (h : DiskIn w Ak Aw n m kept ws) (hb : Below w.heap.size w w') : DiskIn w' Ak Aw n m kept ws :=
  ⟨h.n_eq, h.m_eq, h.n_le, h.m_le, h.row.below hb, h.wrow.below hb⟩

/-- Each write's sector is there. -/
def Fits (n : Nat) (ws : List Wr) : Prop := ∀ x, x ∈ idxs ws → 0 ≤ x.2.at_ ∧ x.2.at_ < n

/-- What is read. -/
def image (kept : List ByteArray) (ws : List Wr) : List ByteArray := doneL (fun _ s => s) kept (idxs ws)

theorem first32 (ws : List Wr) (w : World) : FirstAt 32 #[] (fun _ s => s) ws w := fun W _ x _ => image1_calls x.1 x.2.s W

theorem image_calls (z : Int) (Ak Aw : Option Addr) (n ck m cw : Nat) (off : Bool) (kept : List ByteArray) (ws : List Wr) (w : World) (h : Hid (DiskIn w Ak Aw n m kept ws)) (hf : Hid (Fits n ws)) :
    Calls Try.prog 15 #[.agg #[.int .i64 z, .slice Ak n ck, .slice Aw m cw, .bool off]] w fun e w' =>
      ∃ A c, e = .returned (.slice A n c) ∧ n ≤ c ∧ StrRow w' A (image kept ws) ∧ OwnAt A w.heap.size w'.heap.size n ∧ Below w.heap.size w w' := by
  have hb : Below w.heap.size w (w.alloc (.cells #[.int .i64 z, .slice Ak n ck, .slice Aw m cw, .bool off] 25)) := (Below.refl _ _).alloc (Nat.le_refl _) _
  have h' := h.out.below hb
  have HD := Lib.hid (done_calls z Ak Aw n ck m cw off kept ws 32 #[] (fun _ s => s) _ h'.n_eq h'.m_eq h'.n_le h'.m_le h'.row h'.wrow (first32 ws _) (enters_of Try.func32 (by kernel_rfl) rfl) hf.out)
  have HB := Lib.hid hb
  clear hb h'
  go_enter Try.func15, Try.ntmps15
  go_wp2_with fail
  refine HD.out.mono ?_
  rintro e w' ⟨A, c, rfl, hnc, hrow, hown, hbel⟩
  have hbw := HB.out.trans (hbel.mono HB.out.size)
  have HR := Lib.hid hrow
  have HO := Lib.hid hown
  clear hbel hrow hown
  go_wp2
  go_ret
  refine ⟨A, c, rfl, hnc, HR.out, ?_, hbw⟩
  rcases HO.out with h | ⟨g, e, h1, h2⟩
  · exact .inl h
  · simp at h1; exact .inr ⟨g, e, by omega, h2⟩

/-- What a crash leaves. -/
def crashed (keep : List Int) (kept : List ByteArray) (ws : List Wr) : List ByteArray := doneL (firstOf keep) kept (idxs ws)

/-- The numbers that tell what is kept. -/
structure KeepIn (w : World) (A : Option Addr) (n : Nat) (keep : List Int) : Prop where
  n_eq : n = keep.length
  n_le : n ≤ 9223372036854775807
  row : IntRow w A keep
  range : ∀ k, k < keep.length → -9223372036854775808 ≤ keep.getD k 0 ∧ keep.getD k 0 ≤ 9223372036854775807

theorem KeepIn.below {w w' : World} {A : Option Addr} {n : Nat} {keep : List Int} (h : KeepIn w A n keep) (hb : Below w.heap.size w w') : KeepIn w' A n keep := ⟨h.n_eq, h.n_le, h.row.below hb, h.range⟩

theorem first30 (w : World) (bk n c : Nat) (A : Option Addr) (keep : List Int) (ws : List Wr) (hk : KeepIn w A n keep) (hc : w.cell? ⟨bk, 0, none⟩ = some (.slice A n c)) (hs : ∀ x, x ∈ idxs ws → x.2.s.size ≤ 140737488351232) :
    FirstAt 30 #[.pointer (some ⟨bk, 0, none⟩)] (firstOf keep) ws w := fun W hW x hx => by
  have hk' := hk.below hW
  exact crash1_calls x.1 x.2.s bk n c A keep W hk'.n_eq hk'.n_le hk'.range (hs x hx) ((bcell' hW _ _ (World.block_lt_of_cell? w _ hc)).trans hc) hk'.row

theorem bfrozen' {W w1 : World} (hb : Below W.heap.size W w1) : ∀ b o, b < W.heap.size → w1.frozen? ⟨b, o, none⟩ = W.frozen? ⟨b, o, none⟩ :=
  fun b o h => hb.frozen (p := ⟨b, o, none⟩) h

theorem undrew {W w' : World} (h : Below W.drew.heap.size W.drew w') : Below W.heap.size W w' := ⟨h.os, h.tape, h.output, h.size, h.block⟩

/-- The cells of a disk in a box. -/
structure BoxD (b : Nat) (z : Int) (ka wa : Value) (off : Bool) (W : World) : Prop where
  c0 : W.cell? ⟨b, 0, none⟩ = some (.int .i64 z)
  c1 : W.cell? ⟨b, 1, none⟩ = some ka
  c2 : W.cell? ⟨b, 2, none⟩ = some wa
  c3 : W.cell? ⟨b, 3, none⟩ = some (.bool off)
  f : ∀ j, W.frozen? ⟨b, j, none⟩ = false

theorem BoxD.lt {b : Nat} {z : Int} {ka wa : Value} {off : Bool} {W : World} (h : BoxD b z ka wa off W) : b < W.heap.size := World.block_lt_of_cell? W _ h.c0
theorem BoxD.below {b : Nat} {z : Int} {ka wa : Value} {off : Bool} {W W' : World} (h : BoxD b z ka wa off W) (hb : Below W.heap.size W W') : BoxD b z ka wa off W' :=
  ⟨(bcell' hb _ _ h.lt).trans h.c0, (bcell' hb _ _ h.lt).trans h.c1, (bcell' hb _ _ h.lt).trans h.c2, (bcell' hb _ _ h.lt).trans h.c3, fun j => (bfrozen' hb _ _ h.lt).trans (h.f j)⟩
theorem BoxD.new (W : World) (z : Int) (ka wa : Value) (off : Bool) : BoxD W.heap.size z ka wa off (W.alloc (.cells #[.int .i64 z, ka, wa, .bool off] 25)) :=
  ⟨by rw [World.cell?_alloc_at _ _ _ _ rfl]; rfl, by rw [World.cell?_alloc_at _ _ _ _ rfl]; rfl, by rw [World.cell?_alloc_at _ _ _ _ rfl]; rfl, by rw [World.cell?_alloc_at _ _ _ _ rfl]; rfl, fun j => World.frozen?_alloc_at _ _ _ _ rfl⟩
theorem BoxD.alloc {b : Nat} {z : Int} {ka wa : Value} {off : Bool} {W : World} (h : BoxD b z ka wa off W) (o : Obj) : BoxD b z ka wa off (W.alloc o) := h.below ((Below.refl _ _).alloc (Nat.le_refl _) _)
theorem BoxD.drew {b : Nat} {z : Int} {ka wa : Value} {off : Bool} {W : World} (h : BoxD b z ka wa off W) : BoxD b z ka wa off W.drew := ⟨h.c0, h.c1, h.c2, h.c3, h.f⟩

/-- A disk is stored in a box. -/
def setD (W : World) (b : Nat) (z : Int) (ka wa : Value) (off : Bool) : World :=
  (((W.setCell ⟨b, 0, none⟩ (.int .i64 z)).setCell ⟨b, 1, none⟩ ka).setCell ⟨b, 2, none⟩ wa).setCell ⟨b, 3, none⟩ (.bool off)

theorem setD_below {B : Nat} {w0 W : World} (h : Below B w0 W) {b : Nat} (hb : B ≤ b) (z : Int) (ka wa : Value) (off : Bool) : Below B w0 (setD W b z ka wa off) :=
  (((h.setCell (p := ⟨b, 0, none⟩) hb _).setCell (p := ⟨b, 1, none⟩) hb _).setCell (p := ⟨b, 2, none⟩) hb _).setCell (p := ⟨b, 3, none⟩) hb _

theorem setD_block (W : World) (b : Nat) (z : Int) (ka wa : Value) (off : Bool) (k : Nat) (h : k ≠ b) : (setD W b z ka wa off).heap[k]? = W.heap[k]? := by
  have e0 := Below.heap_setCell W ⟨b, 0, none⟩ (.int .i64 z) k h
  unfold setD
  generalize W.setCell ⟨b, 0, none⟩ (.int .i64 z) = W0 at *
  have e1 := Below.heap_setCell W0 ⟨b, 1, none⟩ ka k h
  generalize W0.setCell ⟨b, 1, none⟩ ka = W1 at *
  have e2 := Below.heap_setCell W1 ⟨b, 2, none⟩ wa k h
  generalize W1.setCell ⟨b, 2, none⟩ wa = W2 at *
  have e3 := Below.heap_setCell W2 ⟨b, 3, none⟩ (.bool off) k h
  generalize W2.setCell ⟨b, 3, none⟩ (.bool off) = W3 at *
  rw [e3, e2, e1, e0]

theorem setD_row {W : World} {A : Option Addr} {l : List ByteArray} (h : StrRow W A l) {b : Nat} (hne : ∀ k, k < l.length → ∀ b' o, A = some ⟨b', o, none⟩ → b' ≠ b) (z : Int) (ka wa : Value) (off : Bool) : StrRow (setD W b z ka wa off) A l := fun k hk => by
  obtain ⟨b', o, e, hc⟩ := h k hk
  have hB := setD_block W b z ka wa off b' (hne k hk b' o e)
  generalize setD W b z ka wa off = W' at *
  exact ⟨b', o, e, (World.cell?_of_block (w := W) (w' := W') (a := ⟨b', o + k, none⟩) hB).trans hc⟩

theorem BoxD.set {b : Nat} {z : Int} {ka wa : Value} {off : Bool} {W : World} (h : BoxD b z ka wa off W) (z' : Int) (ka' wa' : Value) (off' : Bool) : BoxD b z' ka' wa' off' (setD W b z' ka' wa' off') := by
  unfold setD
  refine ⟨?_, ?_, ?_, ?_, fun j => by simp only [World.frozen?_setCell]; exact h.f j⟩
  · rw [World.cell?_setCell_other _ _ _ _ (by simp), World.cell?_setCell_other _ _ _ _ (by simp), World.cell?_setCell_other _ _ _ _ (by simp), World.cell?_setCell_same' _ _ _ (by rw [h.c0]; rfl)]
  · rw [World.cell?_setCell_other _ _ _ _ (by simp), World.cell?_setCell_other _ _ _ _ (by simp), World.cell?_setCell_same' _ _ _ (by rw [World.cell?_setCell_other _ _ _ _ (by simp), h.c1]; rfl)]
  · rw [World.cell?_setCell_other _ _ _ _ (by simp), World.cell?_setCell_same' _ _ _ (by rw [World.cell?_setCell_other _ _ _ _ (by simp), World.cell?_setCell_other _ _ _ _ (by simp), h.c2]; rfl)]
  · rw [World.cell?_setCell_same' _ _ _ (by rw [World.cell?_setCell_other _ _ _ _ (by simp), World.cell?_setCell_other _ _ _ _ (by simp), World.cell?_setCell_other _ _ _ _ (by simp), h.c3]; rfl)]

theorem own_ne {A : Option Addr} {lo hi n b : Nat} (h : OwnAt A lo hi n) (hb : b < lo) {m : Nat} (hm : m = n) : ∀ k, k < m → ∀ b' o, A = some ⟨b', o, none⟩ → b' ≠ b := fun k hk b' o e => by
  rcases h with h | ⟨g, e', h1, _⟩
  · omega
  · rw [e] at e'; cases e'; omega

theorem OwnAt.mono {A : Option Addr} {lo hi n lo' hi' : Nat} (h : OwnAt A lo hi n) (hlo : lo' ≤ lo) (hhi : hi ≤ hi') : OwnAt A lo' hi' n := by
  rcases h with h | ⟨g, e, h1, h2⟩
  · exact .inl h
  · exact .inr ⟨g, e, by omega, by omega⟩

set_option maxHeartbeats 1000000 in
theorem crash_calls (z : Int) (Ak Aw : Option Addr) (n ck m cw : Nat) (off : Bool) (kept : List ByteArray) (ws : List Wr) (K : Option Addr) (kn kc : Nat) (keep : List Int) (w : World) (h : Hid (DiskIn w Ak Aw n m kept ws)) (hf : Hid (Fits n ws))
    (hk : Hid (KeepIn w K kn keep)) (hsz : Hid (∀ x, x ∈ idxs ws → x.2.s.size ≤ 140737488351232)) :
    Calls Try.prog 12 #[.agg #[.int .i64 z, .slice Ak n ck, .slice Aw m cw, .bool off], .slice K kn kc] w fun e w' =>
      ∃ A c, e = .returned (.agg #[.int .i64 z, .slice A n c, .slice none 0 0, .bool false]) ∧ n ≤ c ∧ StrRow w' A (crashed keep kept ws) ∧ OwnAt A w.heap.size w'.heap.size n ∧ Below w.heap.size w w' := by
  have hmf : ∀ (fn : Fn) (first cap : Array Value) (w : World), (Instr.makeFunc fn first cap).run Try.prog w = .ok (.func fn first cap) w := fun _ _ _ _ => rfl
  go_enter Try.func12, Try.ntmps12
  go_wp2
  have b1 := ((BoxD.new w z (.slice Ak n ck) (.slice Aw m cw) off).alloc (.cells #[.slice K kn kc] 26)).alloc (.cells #[.int .i64 0, .slice none 0 0, .slice none 0 0, .bool false] 25)
  have b2 := BoxD.new ((w.alloc (.cells #[.int .i64 z, .slice Ak n ck, .slice Aw m cw, .bool off] 25)).alloc (.cells #[.slice K kn kc] 26)) 0 (.slice none 0 0) (.slice none 0 0) false
  have hbW : Below w.heap.size w (((w.alloc (.cells #[.int .i64 z, .slice Ak n ck, .slice Aw m cw, .bool off] 25)).alloc (.cells #[.slice K kn kc] 26)).alloc (.cells #[.int .i64 0, .slice none 0 0, .slice none 0 0, .bool false] 25)) :=
    (((Below.refl _ w).alloc (Nat.le_refl _) _).alloc (by simp) _).alloc (by simp; omega) _
  have hkc : (((w.alloc (.cells #[.int .i64 z, .slice Ak n ck, .slice Aw m cw, .bool off] 25)).alloc (.cells #[.slice K kn kc] 26)).alloc (.cells #[.int .i64 0, .slice none 0 0, .slice none 0 0, .bool false] 25)).cell? ⟨w.heap.size + 1, 0, none⟩ = some (.slice K kn kc) := by
    rw [World.cell?_alloc_past _ _ _ (by simp), World.cell?_alloc_at _ _ _ _ (by simp)]; rfl
  have hsW : (((w.alloc (.cells #[.int .i64 z, .slice Ak n ck, .slice Aw m cw, .bool off] 25)).alloc (.cells #[.slice K kn kc] 26)).alloc (.cells #[.int .i64 0, .slice none 0 0, .slice none 0 0, .bool false] 25)).heap.size = w.heap.size + 3 := by simp
  rw [show ((w.alloc (.cells #[.int .i64 z, .slice Ak n ck, .slice Aw m cw, .bool off] 25)).alloc (.cells #[.slice K kn kc] 26)).heap.size = w.heap.size + 1 + 1 by simp] at b2
  generalize (((w.alloc (.cells #[.int .i64 z, .slice Ak n ck, .slice Aw m cw, .bool off] 25)).alloc (.cells #[.slice K kn kc] 26)).alloc (.cells #[.int .i64 0, .slice none 0 0, .slice none 0 0, .bool false] 25)) = W at *
  have h' := h.out.below hbW.drew
  have hk' := hk.out.below hbW.drew
  have HD := Lib.hid (done_calls z Ak Aw n ck m cw off kept ws 30 #[.pointer (some ⟨w.heap.size + 1, 0, none⟩)] (firstOf keep) W.drew h'.n_eq h'.m_eq h'.n_le h'.m_le h'.row h'.wrow (first30 W.drew (w.heap.size + 1) kn kc K keep ws hk' hkc hsz.out) (enters_of Try.func30 (by kernel_rfl) rfl) hf.out)
  obtain ⟨p0, p1, p2, p3, _⟩ := b1
  have B1 := Lib.hid p0
  have B2 := Lib.hid b2
  have HB := Lib.hid hbW
  have HS := Lib.hid hsW
  clear h' hk' hbW hkc hsW hmf b2
  go_region_with (go_at_call 31; refine HD.out.mono ?_; rintro e w' ⟨A, c, rfl, hnc, hrow, hown, hbel⟩; have hbel' := undrew hbel; have HBX := Lib.hid (B2.out.below hbel'); obtain ⟨r0, r1, r2, r3, rf⟩ := B2.out.below hbel'; have q0 := (bcell' hbel' w.heap.size 0 (World.block_lt_of_cell? W _ B1.out)).trans B1.out; have f0 := rf 0; have f1 := rf 1; have f2 := rf 2; have f3 := rf 3; have HR := Lib.hid hrow; have HO := Lib.hid hown; have HBEL := Lib.hid hbel'; have HNC := Lib.hid hnc; clear hrow hown hbel hbel' rf hnc)
  all_goals
    show Exit.then _ _ _ _ (setD w' (w.heap.size + 1 + 1) z (.slice A n c) (.slice none 0 0) false)
    have hbox := HBX.out.set z (.slice A n c) (.slice none 0 0) false
    have hbw := setD_below (HB.out.trans (HBEL.out.mono HB.out.size)) (b := w.heap.size + 1 + 1) (by omega) z (.slice A n c) (.slice none 0 0) false
    have hrow := setD_row HR.out (b := w.heap.size + 1 + 1) (own_ne HO.out (by have := HS.out; show _ < W.heap.size; omega) (by rw [doneL_len]; exact h.out.n_eq.symm)) z (.slice A n c) (.slice none 0 0) false
    have hown := OwnAt.mono HO.out (lo' := w.heap.size) (hi' := (setD w' (w.heap.size + 1 + 1) z (.slice A n c) (.slice none 0 0) false).heap.size) (by have := HS.out; show _ ≤ W.heap.size; omega) (by simp [setD, World.setCell])
    generalize setD w' (w.heap.size + 1 + 1) z (.slice A n c) (.slice none 0 0) false = Wf at *
    obtain ⟨t0, t1, t2, t3, _⟩ := hbox
    clear r0 r1 r2 r3 f0 f1 f2 f3 q0
    go_wp2
    exact bodyPost_ret (v := .agg #[.int .i64 z, .slice A n c, .slice none 0 0, .bool false]) (by simp [results, Try.results12, go_sem, t0, t1, t2, t3]) rfl ⟨A, c, rfl, HNC.out, hrow, hown, hbw⟩

end Go.Proofs.Ytdilfdjhablnpaa
