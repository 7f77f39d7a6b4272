/- The walk of tabularyref10.Image. -/
import Derived.Test.YtdilfdjhablnpaaApply
import Derived.Deep.RegionHeld3
namespace Go.Proofs.Ytdilfdjhablnpaa
open Go.RowKit Go.Shelf

theorem held3_below {W W' : World} {x1 x2 x3 : Addr} {v1 v2 v3 : Value} {A : Option Addr} {l : List ByteArray} (hb : Below W.heap.size W W')
    (h : W.cell? x1 = some v1 ∧ W.cell? x2 = some v2 ∧ W.cell? x3 = some v3 ∧ Hid (StrRow W A l)) :
    W'.cell? x1 = some v1 ∧ W'.cell? x2 = some v2 ∧ W'.cell? x3 = some v3 ∧ Hid (StrRow W' A l) :=
  ⟨cell_below hb h.1, cell_below hb h.2.1, cell_below hb h.2.2.1, Lib.hid (h.2.2.2.out.below hb)⟩

/-- The sectors behind the first k writes. -/
def doneTo (fst : Nat → ByteArray → ByteArray) (kept : List ByteArray) (ws : List Wr) (k : Nat) : List ByteArray := doneL fst kept ((idxs ws).take k)

theorem doneTo_succ (fst : Nat → ByteArray → ByteArray) (kept : List ByteArray) (ws : List Wr) (k : Nat) (h : k < ws.length) :
    doneTo fst kept ws (k + 1) = (doneTo fst kept ws k).set (ws.getD k noWr).at_.toNat (over ((doneTo fst kept ws k).getD (ws.getD k noWr).at_.toNat ByteArray.empty) (fst k (ws.getD k noWr).s)) := by
  unfold doneTo
  rw [idxs_take_succ ws k h, doneL_snoc]
  rfl

theorem doneTo_len (fst : Nat → ByteArray → ByteArray) (kept : List ByteArray) (ws : List Wr) (k : Nat) : (doneTo fst kept ws k).length = kept.length := doneL_len _ _ _
theorem doneTo_size (fst : Nat → ByteArray → ByteArray) (kept : List ByteArray) (ws : List Wr) (k j : Nat) : ((doneTo fst kept ws k).getD j ByteArray.empty).size = (kept.getD j ByteArray.empty).size := doneL_size _ _ _ _
theorem doneTo_all (fst : Nat → ByteArray → ByteArray) (kept : List ByteArray) (ws : List Wr) : doneTo fst kept ws ws.length = doneL fst kept (idxs ws) := by unfold doneTo; rw [idxs_all]

set_option maxHeartbeats 2000000 in
set_option maxRecDepth 100000 in
theorem refImage_calls (z : Int) (Ak Aw : Option Addr) (n ck m cw : Nat) (off : Bool) (kept : List ByteArray) (ws : List Wr) (w : World) (h : Hid (DiskIn w Ak Aw n m kept ws)) (hR : Hid (RightD z kept ws)) :
    Calls Try.prog 29 #[.agg #[.int .i64 z, .slice Ak n ck, .slice Aw m cw, .bool off]] w fun e w' =>
      ∃ A c, e = .returned (.slice A n c) ∧ n ≤ c ∧ StrRow w' A (image kept ws) ∧ OwnAt A w.heap.size w'.heap.size n ∧ Below w.heap.size w w' := by
  obtain ⟨i0, hi, hz0, hz1, hz2⟩ := info_parts infoStr
  have hbw := two_below w (.cells #[.int .i64 z, .slice Ak n ck, .slice Aw m cw, .bool off] 25) (.cells #[] 9)
  have hbx := (BoxD.new w z (.slice Ak n ck) (.slice Aw m cw) off).alloc (.cells #[] 9)
  have hd := h.out.below hbw
  have hn1 := hR.out.n1
  have HNN := Lib.hid hd.n_eq
  have hmm := hd.m_le
  have hn2 := hd.n_le
  obtain ⟨b, o, rfl, _⟩ := hd.row 0 (by have := HNN.out; omega)
  have hold := hd.row.holds
  have hown0 := World.ownsRow_lit (base := w.heap.size) (e := 9) (size := 1) (w.alloc (.cells #[.int .i64 z, .slice (some ⟨b, o, none⟩) n ck, .slice Aw m cw, .bool off] 25)) #[] 0 (by simp) (by unfold maxLen; omega) rfl
  have hsW : ((w.alloc (.cells #[.int .i64 z, .slice (some ⟨b, o, none⟩) n ck, .slice Aw m cw, .bool off] 25)).alloc (.cells #[] 9)).heap.size = w.heap.size + 2 := by simp
  rw [show (w.alloc (.cells #[.int .i64 z, .slice (some ⟨b, o, none⟩) n ck, .slice Aw m cw, .bool off] 25)).heap.size = w.heap.size + 1 by simp] at hown0
  obtain ⟨c0, c1, c2, c3, _⟩ := hbx
  go_enter Try.func29, Try.ntmps29
  go_wp2_with (at_builtin; refine wpList_append_own _ rfl _ _ 22 rfl w.heap.size 9 i0 (.string ⟨#[]⟩) 1 16 Try.underlying22 hi hz0 hz1 hz2 rfl (by decide) _ _ _ rfl hown0 ⟨b, o, none⟩ n ck (kept.map Value.string) rfl (by rw [List.length_map, Nat.mul_one]; exact HNN.out.symm) hold (string_ones kept) (by unfold maxLen; omega) (by omega) (by omega) ?_)
  intro v' w1 hown hgrow _
  have hbel : Below w.heap.size w w1 := hbw.grown hgrow (by omega) (fun k hk => (hown0.lt k hk).1)
  have hown : w1.ownsRow w.heap.size 9 1 v' n (kept.map Value.string) := by simpa using hown
  obtain ⟨A0, s0, rfl, hc0, hrow0, hfr⟩ := StrRow.of_own HNN.out hown
  have HO0 : Hid (OwnAt A0 w.heap.size w1.heap.size n) := Lib.hid (by
    rcases hfr with ⟨_, e⟩ | ⟨g, rfl, hg1, hg2, _⟩
    · have := HNN.out; rw [e] at this; exact .inl this
    · exact .inr ⟨g, rfl, hg1, hg2⟩)
  clear hfr
  have hb2 := hgrow.block w.heap.size (by omega) (by simp [Value.ownBlock])
  have e2 := (World.cell?_of_block (a := ⟨w.heap.size, 2, none⟩) hb2).trans c2
  have HE2 := Lib.hid e2
  have DW := Lib.hid (h.out.below hbel)
  have HB := Lib.hid hbel
  have HR0 := Lib.hid hrow0
  clear hown hgrow hold hown0 hd hbw hb2 hbel hrow0 c0 c1 c2 c3
  go_wp2_with fail
  go_loopw [3, 4] (fun v i wr => ∃ (k : Nat) (A : Option Addr) (c : Nat), k ≤ m ∧ v = .slice A n c ∧ i = .int .i64 k ∧ n ≤ c ∧ Hid (StrRow wr A (doneTo (fun _ s => s) kept ws k)) ∧ Hid (OwnAt A w.heap.size wr.heap.size n) ∧ Hid (Below w1.heap.size w1 wr)) (fun _ i _ => m - (intOf i).toNat)
  case atStart => exact ⟨0, A0, s0, by omega, rfl, rfl, hc0, HR0, HO0, Lib.hid (Below.refl _ _)⟩
  case round =>
    obtain ⟨k, A, c, hkm, rfl, rfl, hcn, hrow, hoA, hbl⟩ := hrel
    have c2 := cell_below hbl.out HE2.out
    by_cases hlt : k < m
    · have e1 : decide ((k : Int) < (m : Int)) = true := by simp; omega
      have HLT := Lib.hid hlt
      obtain ⟨wb, wo, rfl, hw1, hw2⟩ := (DW.out.below hbl.out).wrow k (by have := DW.out.m_eq; omega)
      have hk := hR.out.wrs k (by have := DW.out.m_eq; omega)
      have hsucc := Lib.hid (doneTo_succ (fun _ s => s) kept ws k (by have := DW.out.m_eq; omega))
      have hlen : n = (doneTo (fun _ s => s) kept ws k).length := by rw [doneTo_len]; exact HNN.out
      have hsize := doneTo_size (fun _ s => s) kept ws k (ws.getD k noWr).at_.toNat
      have hrsz := hR.out.rows (ws.getD k noWr).at_.toNat (by omega)
      have hz2 := hR.out.z2
      generalize ws.getD k noWr = x at *
      obtain ⟨xa, xs⟩ := x
      simp only at hw1 hw2 hk hsize hrsz hsucc
      obtain ⟨a, rfl⟩ := Int.eq_ofNat_of_zero_le hk.1
      rw [Int.toNat_natCast] at hsize hrsz hsucc
      have HLEN := Lib.hid hlen
      have HSZ : Hid (xs.size ≤ ((doneTo (fun _ s => s) kept ws k).getD a ByteArray.empty).size) := Lib.hid (by omega)
      have HSZ2 : Hid (((doneTo (fun _ s => s) kept ws k).getD a ByteArray.empty).size ≤ 100000) := Lib.hid (by omega)
      have HA : Hid (a < n) := Lib.hid (by have := HNN.out; omega)
      generalize hL : doneTo (fun _ s => s) kept ws k = L at *
      clear hlen hsize hrsz hk hz2 hL
      go_wp2_with fail
      go_region_held3 (fun W' => W'.cell? ⟨w.heap.size, 2, none⟩ = some (.slice (some ⟨wb, wo, none⟩) m cw) ∧ W'.cell? ⟨wb, wo + k * 2, none⟩ = some (.int .i64 a) ∧ W'.cell? ⟨wb, wo + k * 2 + 1, none⟩ = some (.string xs) ∧ Hid (StrRow W' A L))
        (first | exact held3_below (by assumption) (by assumption) | exact held3_below (Below.refl _ _).drew ⟨c2, hw1, hw2, hrow⟩)
        ((go_at_call 40; refine (apply_calls A n c L a xs _ HLEN.out ?_ HA.out (by omega) HSZ.out HSZ2.out).mono ?_; (go_split_ands; exact Hid.out (by assumption)); rintro e w' ⟨A', c', rfl, hc', hrow', hown', hbel'⟩))
      have HR' := Lib.hid hrow'
      have HO' := Lib.hid (OwnAt.mono hown' (lo' := w.heap.size) (hi' := w'.heap.size) (by have h1 := HB.out.size; have h2 := hbl.out.size; show _ ≤ wr.heap.size; omega) (Nat.le_refl _))
      have HB' := Lib.hid (hbl.out.trans ((undrew hbel').mono hbl.out.size))
      clear hrow' hbel' hown' c2 hw1 hw2
      go_wp2
      go_roundw
      case rel => exact ⟨k + 1, A', c', by have := HLT.out; omega, rfl, by go_num, hc', Lib.hid (by rw [hsucc.out]; exact HR'.out), HO', HB'⟩
      case measure => have := HLT.out; simp [intOf]; omega
    · have hkm2 : m = k := by omega
      subst hkm2
      have e1 : decide ((m : Int) < (m : Int)) = false := by simp
      have HF := Lib.hid (show StrRow wr A (image kept ws) by have := hrow.out; rw [DW.out.m_eq, doneTo_all] at this; exact this)
      have HBF := Lib.hid (HB.out.trans (hbl.out.mono HB.out.size))
      clear hrow hbl
      go_wp2
      exact bodyPost_ret (v := .slice A n c) (by simp [results, Try.results29, go_sem]) rfl ⟨A, c, rfl, hcn, HF.out, hoA.out, HBF.out⟩
end Go.Proofs.Ytdilfdjhablnpaa
