/- What Sync answers, both of them; DiskActs' argument that came in; what is known in DiskActs of all rows. -/
import Derived.Test.YtdilfdjhablnpaaWriteAns
import Derived.Test.YtdilfdjhablnpaaRefNew
import Derived.Test.YtdilfdjhablnpaaDiskRight
import Derived.Test.YtdilfdjhablnpaaOpenReads
import Derived.Test.YtdilfdjhablnpaaOpenKeep
namespace Go.Proofs.Ytdilfdjhablnpaa
open Go.RowKit Go.Shelf

def syK (off : Bool) (kept : List ByteArray) (ws : List Wr) : List ByteArray := if off then kept else image kept ws
def syW (off : Bool) (ws : List Wr) : List Wr := if off then ws else []
def syE (off : Bool) : Int := if off then 14 else 0

/-- What a sync answers. -/
def SyAns (f : FuncId) : Prop := ∀ (z : Int) (Ak Aw : Option Addr) (n ck m cw : Nat) (off : Bool) (kept : List ByteArray) (ws : List Wr) (w : World), Hid (DiskIn w Ak Aw n m kept ws) → Hid (RightD z kept ws) →
    Calls Try.prog f #[.agg #[.int .i64 z, .slice Ak n ck, .slice Aw m cw, .bool off]] w fun e w' =>
      ∃ A c B d, e = .returned (.tuple #[.agg #[.int .i64 z, .slice A n c, .slice B (syW off ws).length d, .bool off], .int .i64 (syE off)]) ∧ StrRow w' A (syK off kept ws) ∧ WrRow w' B (syW off ws) ∧ Below w.heap.size w w'

theorem syAns_of (f : FuncId)
    (hoff : ∀ (z : Int) (Ak Aw : Option Addr) (n ck m cw : Nat) (w : World), Calls Try.prog f #[.agg #[.int .i64 z, .slice Ak n ck, .slice Aw m cw, .bool true]] w fun e w' => e = .returned (.tuple #[.agg #[.int .i64 z, .slice Ak n ck, .slice Aw m cw, .bool true], .int .i64 14]) ∧ Below w.heap.size w w')
    (hon : ∀ (z : Int) (Ak Aw : Option Addr) (n ck m cw : Nat) (kept : List ByteArray) (ws : List Wr) (w : World), Hid (DiskIn w Ak Aw n m kept ws) → Hid (RightD z kept ws) → Calls Try.prog f #[.agg #[.int .i64 z, .slice Ak n ck, .slice Aw m cw, .bool false]] w fun e w' => ∃ A c, e = .returned (.tuple #[.agg #[.int .i64 z, .slice A n c, .slice none 0 0, .bool false], .int .i64 0]) ∧ StrRow w' A (image kept ws) ∧ Below w.heap.size w w') : SyAns f := by
  intro z Ak Aw n ck m cw off kept ws w h hR
  have hm := h.out.m_eq
  cases off with
  | true =>
    refine (hoff z Ak Aw n ck m cw w).mono ?_
    rintro e w' ⟨he, hb⟩
    exact ⟨Ak, ck, Aw, cw, by rw [show (syW true ws).length = m from hm.symm]; exact he, h.out.row.below hb, h.out.wrow.below hb, hb⟩
  | false =>
    refine (hon z Ak Aw n ck m cw kept ws w h hR).mono ?_
    rintro e w' ⟨A, c, he, hr, hb⟩
    exact ⟨A, c, none, 0, he, hr, WrRow.nil _ _, hb⟩

theorem sync_ans : SyAns 13 := syAns_of 13 syncOff_calls
  (fun z Ak Aw n ck m cw kept ws w h hR => (sync_calls z Ak Aw n ck m cw kept ws w h (Lib.hid (by rw [h.out.n_eq]; exact hR.out.fits))).mono fun _ _ ⟨A, c, he, _, hr, _, hb⟩ => ⟨A, c, he, hr, hb⟩)
theorem refSync_ans : SyAns 26 := syAns_of 26 refSyncOff_calls
  (fun z Ak Aw n ck m cw kept ws w h hR => (refSync_calls z Ak Aw n ck m cw kept ws w h hR).mono fun _ _ ⟨A, c, he, _, hr, _, hb⟩ => ⟨A, c, he, hr, hb⟩)

theorem syK_len (off : Bool) (kept : List ByteArray) (ws : List Wr) : (syK off kept ws).length = kept.length := by
  cases off with
  | true => rfl
  | false => exact doneL_len _ _ _
theorem syW_len (off : Bool) (ws : List Wr) : (syW off ws).length ≤ ws.length := by
  cases off with
  | true => exact Nat.le_refl _
  | false => exact Nat.zero_le _
theorem wrW_len (z : Int) (off : Bool) (at_ : Int) (n : Nat) (s : ByteArray) (ws : List Wr) : (wrW z off at_ n s ws).length ≤ ws.length + 1 := by
  unfold wrW
  split
  · simp
  · omega

/-- Same of two disks that are read alike. -/
theorem same_ex (z : Int) (Ak Aw Bk Bw : Option Addr) (n ck m cw ck2 cw2 : Nat) (off : Bool) (w : World) (h : ∃ kept ws, DiskIn w Ak Aw n m kept ws ∧ DiskIn w Bk Bw n m kept ws) :
    Calls Try.prog 16 #[.agg #[.int .i64 z, .slice Ak n ck, .slice Aw m cw, .bool off], .agg #[.int .i64 z, .slice Bk n ck2, .slice Bw m cw2, .bool off]] w fun e w' => e = .returned (.bool true) ∧ Below w.heap.size w w' := by
  obtain ⟨kept, ws, h1, h2⟩ := h
  exact same_calls z Ak Aw Bk Bw n ck m cw ck2 cw2 off kept ws w (Lib.hid h1) (Lib.hid h2)

/-- What is known in DiskActs of all rows. -/
structure AF (w : World) (Ak Aw K A5 A6 A7 B7 A8 B8 : Option Addr) (n m kn : Nat) (kept : List ByteArray) (ws : List Wr) (keep : List Int) (WL : List Wr) (SK : List ByteArray) (SW : List Wr) (W : World) : Prop where
  b : Below w.heap.size w W
  d : DiskIn W Ak Aw n m kept ws
  k : KeepIn W K kn keep
  a : DiskIn W Ak A5 n WL.length kept WL
  ra : DiskIn W Ak A6 n WL.length kept WL
  p : DiskIn W A7 B7 n SW.length SK SW
  q : DiskIn W A8 B8 n SW.length SK SW

theorem AF.below {w : World} {Ak Aw K A5 A6 A7 B7 A8 B8 : Option Addr} {n m kn : Nat} {kept : List ByteArray} {ws : List Wr} {keep : List Int} {WL : List Wr} {SK : List ByteArray} {SW : List Wr} {W W' : World}
    (h : AF w Ak Aw K A5 A6 A7 B7 A8 B8 n m kn kept ws keep WL SK SW W) (hb : Below W.heap.size W W') : AF w Ak Aw K A5 A6 A7 B7 A8 B8 n m kn kept ws keep WL SK SW W' :=
  ⟨h.b.trans (hb.mono h.b.size), h.d.below hb, h.k.below hb, h.a.below hb, h.ra.below hb, h.p.below hb, h.q.below hb⟩

theorem held20_below {w : World} {Ak Aw K A5 A6 A7 B7 A8 B8 : Option Addr} {n m kn : Nat} {kept : List ByteArray} {ws : List Wr} {keep : List Int} {WL : List Wr} {SK : List ByteArray} {SW : List Wr} {W W' : World} {x1 x2 x3 x4 x5 x6 x7 x8 x9 x10 x11 x12 x13 x14 x15 x16 x17 x18 x19 x20 : Addr} {v1 v2 v3 v4 v5 v6 v7 v8 v9 v10 v11 v12 v13 v14 v15 v16 v17 v18 v19 v20 : Value}
    (hb : Below W.heap.size W W')
    (h : W.cell? x1 = some v1 ∧ W.cell? x2 = some v2 ∧ W.cell? x3 = some v3 ∧ W.cell? x4 = some v4 ∧ W.cell? x5 = some v5 ∧ W.cell? x6 = some v6 ∧ W.cell? x7 = some v7 ∧ W.cell? x8 = some v8 ∧ W.cell? x9 = some v9 ∧ W.cell? x10 = some v10 ∧ W.cell? x11 = some v11 ∧ W.cell? x12 = some v12 ∧ W.cell? x13 = some v13 ∧ W.cell? x14 = some v14 ∧ W.cell? x15 = some v15 ∧ W.cell? x16 = some v16 ∧ W.cell? x17 = some v17 ∧ W.cell? x18 = some v18 ∧ W.cell? x19 = some v19 ∧ W.cell? x20 = some v20 ∧ Hid (AF w Ak Aw K A5 A6 A7 B7 A8 B8 n m kn kept ws keep WL SK SW W)) :
    W'.cell? x1 = some v1 ∧ W'.cell? x2 = some v2 ∧ W'.cell? x3 = some v3 ∧ W'.cell? x4 = some v4 ∧ W'.cell? x5 = some v5 ∧ W'.cell? x6 = some v6 ∧ W'.cell? x7 = some v7 ∧ W'.cell? x8 = some v8 ∧ W'.cell? x9 = some v9 ∧ W'.cell? x10 = some v10 ∧ W'.cell? x11 = some v11 ∧ W'.cell? x12 = some v12 ∧ W'.cell? x13 = some v13 ∧ W'.cell? x14 = some v14 ∧ W'.cell? x15 = some v15 ∧ W'.cell? x16 = some v16 ∧ W'.cell? x17 = some v17 ∧ W'.cell? x18 = some v18 ∧ W'.cell? x19 = some v19 ∧ W'.cell? x20 = some v20 ∧ Hid (AF w Ak Aw K A5 A6 A7 B7 A8 B8 n m kn kept ws keep WL SK SW W') := by
  obtain ⟨h1, h2, h3, h4, h5, h6, h7, h8, h9, h10, h11, h12, h13, h14, h15, h16, h17, h18, h19, h20, h21⟩ := h
  exact ⟨cell_below hb h1, cell_below hb h2, cell_below hb h3, cell_below hb h4, cell_below hb h5, cell_below hb h6, cell_below hb h7, cell_below hb h8, cell_below hb h9, cell_below hb h10, cell_below hb h11, cell_below hb h12, cell_below hb h13, cell_below hb h14, cell_below hb h15, cell_below hb h16, cell_below hb h17, cell_below hb h18, cell_below hb h19, cell_below hb h20, Lib.hid (h21.out.below hb)⟩

section
open Go.Joins Go.Deep Go.ChangeShapes Go.WideShapes
variable {H : Type} {enc : TypeId × Value → H} {w : World} {base : Nat} {spare : Nat → Bool} {held : Bool}

theorem acts_open {r : Reach} {b0 : Nat} {v : Value} {d : DataW H} {p : List MemPlace} (hv : Value.okWide Try.prog w r b0 55 v) (h : DataW.Trod enc Try.prog w base spare held 55 v d p) :
    ∃ z Ak n ck Aw m cw off at_ s K kn kc many size kept ws keep, v = .agg #[.int .i64 z, .slice Ak n ck, .slice Aw m cw, .bool off, .int .i64 at_, .string s, .slice K kn kc, .int .i64 many, .int .i64 size] ∧ n = kept.length ∧ m = ws.length ∧ n ≤ ck ∧ m ≤ cw ∧ StrRow w Ak kept ∧ WrRow w Aw ws ∧ KeepIn w K kn keep := by
  obtain ⟨cs, rfl, hsz⟩ := okWide_struct Try.underlying55 hv
  obtain ⟨l⟩ := cs
  have h9 : l.length = 9 := by
    have : l.toArray.size = Try.prog.cellsOf 55 := hsz
    rw [show Try.prog.cellsOf 55 = 9 by kernel_rfl] at this
    simpa using this
  match l, h9 with
  | [c0, c1, c2, c3, c4, c5, c6, c7, c8], _ =>
    obtain ⟨fuel, hf0⟩ := h
    obtain ⟨xs, n', _, _, _, hxl, hf⟩ := DataW.trod_struct Try.underlying55 hf0
    match xs, hxl with
    | [y0, y1, y2, y3, y4, y5], _ =>
      have f0 : DataW.trod enc Try.prog w base spare held n' 25 (([c0, c1, c2, c3, c4, c5, c6, c7, c8].drop 0).take (Try.prog.cellsOf 25)) = some y0 := hf 0 _ rfl
      have f1 : DataW.trod enc Try.prog w base spare held n' 3 (([c0, c1, c2, c3, c4, c5, c6, c7, c8].drop 4).take (Try.prog.cellsOf 3)) = some y1 := hf 1 _ rfl
      have f2 : DataW.trod enc Try.prog w base spare held n' 9 (([c0, c1, c2, c3, c4, c5, c6, c7, c8].drop 5).take (Try.prog.cellsOf 9)) = some y2 := hf 2 _ rfl
      have f3 : DataW.trod enc Try.prog w base spare held n' 26 (([c0, c1, c2, c3, c4, c5, c6, c7, c8].drop 6).take (Try.prog.cellsOf 26)) = some y3 := hf 3 _ rfl
      have f4 : DataW.trod enc Try.prog w base spare held n' 3 (([c0, c1, c2, c3, c4, c5, c6, c7, c8].drop 7).take (Try.prog.cellsOf 3)) = some y4 := hf 4 _ rfl
      have f5 : DataW.trod enc Try.prog w base spare held n' 3 (([c0, c1, c2, c3, c4, c5, c6, c7, c8].drop 8).take (Try.prog.cellsOf 3)) = some y5 := hf 5 _ rfl
      rw [show Try.prog.cellsOf 25 = 4 by kernel_rfl] at f0
      rw [show Try.prog.cellsOf 3 = 1 by kernel_rfl] at f1 f4 f5
      rw [show Try.prog.cellsOf 9 = 1 by kernel_rfl] at f2
      rw [show Try.prog.cellsOf 26 = 1 by kernel_rfl] at f3
      obtain ⟨z, A, n1, k1, B, n2, k2, o, kl, wl, rfl, rfl, rfl, rfl, hn, hm, hc, hd, hrow, hwr, _⟩ := disk_cells f0
      obtain ⟨a, e1, _, _⟩ := DataW.trod_int Try.underlying3 f1
      obtain ⟨s, e2, _, _⟩ := DataW.trod_string Try.underlying9 f2
      obtain ⟨K, kn, kc, keep, e3, hk⟩ := keep_cells Try.underlying26 f3
      obtain ⟨many, e4, _, _⟩ := DataW.trod_int Try.underlying3 f4
      obtain ⟨size, e5, _, _⟩ := DataW.trod_int Try.underlying3 f5
      simp at e1 e2 e3 e4 e5
      subst e1 e2 e3 e4 e5
      exact ⟨z, A, n1, k1, B, n2, k2, o, a, s, K, kn, kc, many, size, kl, wl, keep, rfl, hn, hm, hc, hd, hrow, hwr, hk⟩
end
end Go.Proofs.Ytdilfdjhablnpaa
