/- The walk of tabularyref10.Write. -/
import Derived.Test.YtdilfdjhablnpaaRefCrash
import Derived.Deep.AppendLies
namespace Go.Proofs.Ytdilfdjhablnpaa
open Go.RowKit Go.Shelf

theorem wcells_ones : ∀ (l : List Wr), ∀ u ∈ wcells l, u.oneCell' = true
  | [], u, hu => by simp [wcells] at hu
  | x :: l, u, hu => by
    have h2 : u = .int .i64 x.at_ ∨ u = .string x.s ∨ u ∈ wcells l := by simpa [wcells] using hu
    rcases h2 with rfl | rfl | h2
    · rfl
    · rfl
    · exact wcells_ones l u h2

set_option maxHeartbeats 2000000 in
set_option maxRecDepth 100000 in
theorem refWrite_none (z : Int) (Ak : Option Addr) (n ck m cw : Nat) (at_ : Int) (s : ByteArray) (kept : List ByteArray) (ws : List Wr) (w : World) (h : Hid (DiskIn w Ak none n m kept ws))
    (ha : 0 ≤ at_) (hb : at_ < n) (hs : 1 ≤ s.size) (hz : (s.size : Int) ≤ z) :
    Calls Try.prog 25 #[.agg #[.int .i64 z, .slice Ak n ck, .slice none m cw, .bool false], .int .i64 at_, .string s] w fun e w' =>
      ∃ A c, e = .returned (.tuple #[.agg #[.int .i64 z, .slice Ak n ck, .slice A (m + 1) c, .bool false], .int .i64 0]) ∧ m + 1 ≤ c ∧ WrRow w' A (ws ++ [⟨at_, s⟩]) ∧ Below w.heap.size w w' := by
  have hws : ws = [] := h.out.wrow.none_nil rfl
  have hm0 : m = 0 := by rw [h.out.m_eq, hws]; rfl
  subst hws hm0
  have d1 : decide (at_ < 0) = false := by simp; omega
  have d2 : decide (at_ ≥ (n : Int)) = false := by simp; omega
  have d3 : decide ((s.size : Int) < 1) = false := by simp; omega
  have d4 : decide ((s.size : Int) > z) = false := by simp; omega
  have hbw := three_below w (.cells #[.int .i64 z, .slice Ak n ck, .slice none 0 cw, .bool false] 25) (.cells #[.int .i64 0, .slice none 0 0, .slice none 0 0, .bool false] 25) (.cells #[] 31)
  have hbx := ((BoxD.new w z (.slice Ak n ck) (.slice none 0 cw) false).alloc (.cells #[.int .i64 0, .slice none 0 0, .slice none 0 0, .bool false] 25)).alloc (.cells #[] 31)
  have hbr := (two w (.cells #[.int .i64 z, .slice Ak n ck, .slice none 0 cw, .bool false] 25) 0 (.slice none 0 0) (.slice none 0 0) false).alloc (.cells #[] 31)
  have hown0 := World.ownsRow_lit (base := w.heap.size + 2) (e := 31) (size := 2) ((w.alloc (.cells #[.int .i64 z, .slice Ak n ck, .slice none 0 cw, .bool false] 25)).alloc (.cells #[.int .i64 0, .slice none 0 0, .slice none 0 0, .bool false] 25)) #[] 0 (by simp) (by unfold maxLen; omega) rfl
  have hsW : (((w.alloc (.cells #[.int .i64 z, .slice Ak n ck, .slice none 0 cw, .bool false] 25)).alloc (.cells #[.int .i64 0, .slice none 0 0, .slice none 0 0, .bool false] 25)).alloc (.cells #[] 31)).heap.size = w.heap.size + 3 := by simp
  rw [show ((w.alloc (.cells #[.int .i64 z, .slice Ak n ck, .slice none 0 cw, .bool false] 25)).alloc (.cells #[.int .i64 0, .slice none 0 0, .slice none 0 0, .bool false] 25)).heap.size = w.heap.size + 2 by simp] at hown0
  go_enter Try.func25, Try.ntmps25
  go_wp2_with fail
  generalize hW : (((w.alloc (.cells #[.int .i64 z, .slice Ak n ck, .slice none 0 cw, .bool false] 25)).alloc (.cells #[.int .i64 0, .slice none 0 0, .slice none 0 0, .bool false] 25)).alloc (.cells #[] 31)) = W1 at *
  have HX1 := Lib.hid hbx
  have HR1 := Lib.hid hbr
  have HO1 := Lib.hid hown0
  have HB1 := Lib.hid hbw
  have HS1 : Hid (w.heap.size + 3 ≤ W1.heap.size) := Lib.hid (by omega)
  clear hbw hbx hbr hown0 hsW hW
  obtain ⟨y0, y1, _, _, _⟩ := HX1.out
  go_region_held3 (fun W' => W'.cell? ⟨w.heap.size, 0, none⟩ = some (.int .i64 z) ∧ W'.cell? ⟨w.heap.size, 1, none⟩ = some (.slice Ak n ck))
    (first
      | (with_reducible exact ⟨by assumption, by assumption⟩)
      | (simp only [World.cell?_drew]; with_reducible exact ⟨y0, y1⟩)
      | (go_split_ands; with_reducible exact ⟨cell_below (one_below _ _) (by assumption), cell_below (one_below _ _) (by assumption)⟩)
      | (refine ⟨?_, ?_⟩ <;> (repeat rw [World.cell?_setCell_other _ _ _ _ (by simp)]) <;> assumption))
    ((refine step_append_lies _ (by rfl) _ _ _ (by rfl) (w.heap.size + 2) 31 Try.t31 _ 2 Try.t31.bytes (by kernel_rfl) (by kernel_rfl) rfl rfl rfl rfl (by omega) _ 0 [] (by rfl) (HO1.out.drew.alloc _) ⟨W1.heap.size, 0, none⟩ 1 1 [.int .i64 at_, .string s] (by rfl) (by rfl) (pair_cells _ _ _ _ _ rfl) (by intro u hu; simp at hu; rcases hu with rfl | rfl <;> rfl) (by omega) (by have := h.out.m_le; unfold maxLen; omega) (by have := h.out.m_le; show (0 + 1) * 24 ≤ _; omega) (by have := HS1.out; simp; omega) (W1.heap.size + 1) (by simp) ?_; intro gg cap w3 hown3 hgrow3 hat hlt; have HBX := Lib.hid ((HR1.out.drew.alloc (.cells #[.int .i64 at_, .string s] 31)).of_block (hgrow3.block (w.heap.size + 1) (by have := HS1.out; simp; omega) (fun e => by have := (HO1.out.lt _ e.symm).1; omega))); have HDX := Lib.hid ((HX1.out.drew.alloc (.cells #[.int .i64 at_, .string s] 31)).of_block (hgrow3.block w.heap.size (by have := HS1.out; simp; omega) (fun e => by have := (HO1.out.lt _ e.symm).1; omega))); have HBW := Lib.hid ((HB1.out.drew.alloc HB1.out.size (.cells #[.int .i64 at_, .string s] 31)).grown hgrow3 (by have := HS1.out; simp; omega) (fun k hk => by have := (HO1.out.lt k hk).1; omega)); have HOW := Lib.hid hown3; obtain ⟨r0, r1, r2, r3, rf⟩ := HBX.out; have f0 := rf 0; have f1 := rf 1; have f2 := rf 2; have f3 := rf 3; obtain ⟨e0, e1, _, _, _⟩ := HDX.out; clear hown3 hgrow3 hat hlt rf HDX))
  obtain ⟨A, c, e3, hmc, hrow, hne⟩ := WrRow.of_own (l := [⟨at_, s⟩]) (by simp) HOW.out
  obtain ⟨rfl, rfl⟩ : A = some ⟨gg, 0, none⟩ ∧ c = cap := by cases e3; exact ⟨rfl, rfl⟩
  have hbox := HBX.out.set z (.slice Ak n ck) (.slice (some ⟨gg, 0, none⟩) (0 + 1) c) false
  have hbw := setD_below HBW.out (b := w.heap.size + 1) (by omega) z (.slice Ak n ck) (.slice (some ⟨gg, 0, none⟩) (0 + 1) c) false
  have hrow := setD_wrow hrow (b := w.heap.size + 1) (fun b' o e => by have := hne b' o e; omega) z (.slice Ak n ck) (.slice (some ⟨gg, 0, none⟩) (0 + 1) c) false
  show Exit.then _ _ _ _ (setD w3 (w.heap.size + 1) z (.slice Ak n ck) (.slice (some ⟨gg, 0, none⟩) (0 + 1) c) false)
  clear r0 r1 r2 r3 f0 f1 f2 f3 e0 e1 y0 y1
  generalize setD w3 (w.heap.size + 1) z (.slice Ak n ck) (.slice (some ⟨gg, 0, none⟩) (0 + 1) c) false = Wf at *
  obtain ⟨t0, t1, t2, t3, _⟩ := hbox
  go_wp2
  exact bodyPost_ret (v := .tuple #[.agg #[.int .i64 z, .slice Ak n ck, .slice (some ⟨gg, 0, none⟩) (0 + 1) c, .bool false], .int .i64 0]) (by simp [results, Try.results25, go_sem, t0, t1, t2, t3]) rfl ⟨_, _, rfl, hmc, hrow, hbw⟩

set_option maxHeartbeats 2000000 in
set_option maxRecDepth 100000 in
theorem refWrite_some (z : Int) (Ak : Option Addr) (ad : Addr) (n ck m cw : Nat) (at_ : Int) (s : ByteArray) (kept : List ByteArray) (ws : List Wr) (w : World) (h : Hid (DiskIn w Ak (some ad) n m kept ws))
    (ha : 0 ≤ at_) (hb : at_ < n) (hs : 1 ≤ s.size) (hz : (s.size : Int) ≤ z) :
    Calls Try.prog 25 #[.agg #[.int .i64 z, .slice Ak n ck, .slice (some ad) m cw, .bool false], .int .i64 at_, .string s] w fun e w' =>
      ∃ A c, e = .returned (.tuple #[.agg #[.int .i64 z, .slice Ak n ck, .slice A (m + 1) c, .bool false], .int .i64 0]) ∧ m + 1 ≤ c ∧ WrRow w' A (ws ++ [⟨at_, s⟩]) ∧ Below w.heap.size w w' := by
  have d1 : decide (at_ < 0) = false := by simp; omega
  have d2 : decide (at_ ≥ (n : Int)) = false := by simp; omega
  have d3 : decide ((s.size : Int) < 1) = false := by simp; omega
  have d4 : decide ((s.size : Int) > z) = false := by simp; omega
  have hbw := three_below w (.cells #[.int .i64 z, .slice Ak n ck, .slice (some ad) m cw, .bool false] 25) (.cells #[.int .i64 0, .slice none 0 0, .slice none 0 0, .bool false] 25) (.cells #[] 31)
  have hbx := ((BoxD.new w z (.slice Ak n ck) (.slice (some ad) m cw) false).alloc (.cells #[.int .i64 0, .slice none 0 0, .slice none 0 0, .bool false] 25)).alloc (.cells #[] 31)
  have hbr := (two w (.cells #[.int .i64 z, .slice Ak n ck, .slice (some ad) m cw, .bool false] 25) 0 (.slice none 0 0) (.slice none 0 0) false).alloc (.cells #[] 31)
  have hown0 := World.ownsRow_lit (base := w.heap.size + 2) (e := 31) (size := 2) ((w.alloc (.cells #[.int .i64 z, .slice Ak n ck, .slice (some ad) m cw, .bool false] 25)).alloc (.cells #[.int .i64 0, .slice none 0 0, .slice none 0 0, .bool false] 25)) #[] 0 (by simp) (by unfold maxLen; omega) rfl
  have hsW : (((w.alloc (.cells #[.int .i64 z, .slice Ak n ck, .slice (some ad) m cw, .bool false] 25)).alloc (.cells #[.int .i64 0, .slice none 0 0, .slice none 0 0, .bool false] 25)).alloc (.cells #[] 31)).heap.size = w.heap.size + 3 := by simp
  rw [show ((w.alloc (.cells #[.int .i64 z, .slice Ak n ck, .slice (some ad) m cw, .bool false] 25)).alloc (.cells #[.int .i64 0, .slice none 0 0, .slice none 0 0, .bool false] 25)).heap.size = w.heap.size + 2 by simp] at hown0
  have hold := (h.out.wrow.below hbw).holds ad rfl
  have HNM := Lib.hid h.out.m_eq
  have hml := h.out.m_le
  go_enter Try.func25, Try.ntmps25
  go_wp2_with (at_builtin; refine wpList_append_own _ rfl _ _ 23 rfl (w.heap.size + 2) 31 Try.t31 _ 2 Try.t31.bytes (by kernel_rfl) (by kernel_rfl) rfl rfl rfl rfl (by omega) _ 0 [] rfl hown0 ad m cw (wcells ws) rfl (by rw [wcells_len, HNM.out]) hold (wcells_ones ws) (by unfold maxLen; omega) (by show (0 + m) * 24 ≤ _; omega) (by omega) ?_)
  intro v1 W1 hown hgrow _
  have hown : W1.ownsRow (w.heap.size + 2) 31 2 v1 m (wcells ws) := by simpa using hown
  have HX1 := Lib.hid (hbx.of_block (hgrow.block w.heap.size (by omega) (by simp [Value.ownBlock] <;> omega)))
  have HR1 := Lib.hid (hbr.of_block (hgrow.block (w.heap.size + 1) (by omega) (by simp [Value.ownBlock] <;> omega)))
  have HO1 := Lib.hid hown
  have HB1 := Lib.hid (hbw.grown hgrow (by omega) (fun k hk => by have := (hown0.lt k hk).1; omega))
  have HS1 : Hid (w.heap.size + 3 ≤ W1.heap.size) := Lib.hid (by have := hgrow.size; omega)
  clear hbw hbx hbr hown0 hsW hown hgrow hold
  go_wp2_with fail
  obtain ⟨y0, y1, _, _, _⟩ := HX1.out
  go_region_held3 (fun W' => W'.cell? ⟨w.heap.size, 0, none⟩ = some (.int .i64 z) ∧ W'.cell? ⟨w.heap.size, 1, none⟩ = some (.slice Ak n ck))
    (first
      | (with_reducible exact ⟨by assumption, by assumption⟩)
      | (simp only [World.cell?_drew]; with_reducible exact ⟨y0, y1⟩)
      | (go_split_ands; with_reducible exact ⟨cell_below (one_below _ _) (by assumption), cell_below (one_below _ _) (by assumption)⟩)
      | (refine ⟨?_, ?_⟩ <;> (repeat rw [World.cell?_setCell_other _ _ _ _ (by simp)]) <;> assumption))
    ((refine step_append_lies _ (by rfl) _ _ _ (by rfl) (w.heap.size + 2) 31 Try.t31 _ 2 Try.t31.bytes (by kernel_rfl) (by kernel_rfl) rfl rfl rfl rfl (by omega) _ m (wcells ws) (by rfl) (HO1.out.drew.alloc _) ⟨W1.heap.size, 0, none⟩ 1 1 [.int .i64 at_, .string s] (by rfl) (by rfl) (pair_cells _ _ _ _ _ rfl) (by intro u hu; simp at hu; rcases hu with rfl | rfl <;> rfl) (by omega) (by have := h.out.m_le; unfold maxLen; omega) (by have := h.out.m_le; show (m + 1) * 24 ≤ _; omega) (by have := HS1.out; simp; omega) (W1.heap.size + 1) (by simp) ?_; intro gg cap w3 hown3 hgrow3 hat hlt; have HBX := Lib.hid ((HR1.out.drew.alloc (.cells #[.int .i64 at_, .string s] 31)).of_block (hgrow3.block (w.heap.size + 1) (by have := HS1.out; simp; omega) (fun e => by have := (HO1.out.lt _ e.symm).1; omega))); have HDX := Lib.hid ((HX1.out.drew.alloc (.cells #[.int .i64 at_, .string s] 31)).of_block (hgrow3.block w.heap.size (by have := HS1.out; simp; omega) (fun e => by have := (HO1.out.lt _ e.symm).1; omega))); have HBW := Lib.hid ((HB1.out.drew.alloc HB1.out.size (.cells #[.int .i64 at_, .string s] 31)).grown hgrow3 (by have := HS1.out; simp; omega) (fun k hk => by have := (HO1.out.lt k hk).1; omega)); have HOW := Lib.hid hown3; obtain ⟨r0, r1, r2, r3, rf⟩ := HBX.out; have f0 := rf 0; have f1 := rf 1; have f2 := rf 2; have f3 := rf 3; obtain ⟨e0, e1, _, _, _⟩ := HDX.out; clear hown3 hgrow3 hat hlt rf HDX))
  rw [show wcells ws ++ [Value.int .i64 at_, .string s] = wcells (ws ++ [⟨at_, s⟩]) by rw [wcells_append]; rfl] at HOW
  obtain ⟨A, c, e3, hmc, hrow, hne⟩ := WrRow.of_own (by have := h.out.m_eq; simp; omega) HOW.out
  obtain ⟨rfl, rfl⟩ : A = some ⟨gg, 0, none⟩ ∧ c = cap := by cases e3; exact ⟨rfl, rfl⟩
  have hbox := HBX.out.set z (.slice Ak n ck) (.slice (some ⟨gg, 0, none⟩) (m + 1) c) false
  have hbw := setD_below HBW.out (b := w.heap.size + 1) (by omega) z (.slice Ak n ck) (.slice (some ⟨gg, 0, none⟩) (m + 1) c) false
  have hrow := setD_wrow hrow (b := w.heap.size + 1) (fun b' o e => by have := hne b' o e; omega) z (.slice Ak n ck) (.slice (some ⟨gg, 0, none⟩) (m + 1) c) false
  show Exit.then _ _ _ _ (setD w3 (w.heap.size + 1) z (.slice Ak n ck) (.slice (some ⟨gg, 0, none⟩) (m + 1) c) false)
  clear r0 r1 r2 r3 f0 f1 f2 f3 e0 e1 y0 y1
  generalize setD w3 (w.heap.size + 1) z (.slice Ak n ck) (.slice (some ⟨gg, 0, none⟩) (m + 1) c) false = Wf at *
  obtain ⟨t0, t1, t2, t3, _⟩ := hbox
  go_wp2
  exact bodyPost_ret (v := .tuple #[.agg #[.int .i64 z, .slice Ak n ck, .slice (some ⟨gg, 0, none⟩) (m + 1) c, .bool false], .int .i64 0]) (by simp [results, Try.results25, go_sem, t0, t1, t2, t3]) rfl ⟨_, _, rfl, hmc, hrow, hbw⟩
end Go.Proofs.Ytdilfdjhablnpaa
