/- The walk of tabularyref10.apply. -/
import Derived.Test.YtdilfdjhablnpaaKeepAll
import Derived.Test.YtdilfdjhablnpaaPlainLast
import Derived.Maps.AppendAt
import Derived.BigQuiet
namespace Go.Proofs.Ytdilfdjhablnpaa
open Go.RowKit Go.Shelf

theorem infoStr : (Try.prog.info? 9).map (fun i => (i.zero, i.size, i.bytes)) = some (some (.string ⟨#[]⟩), 1, 16) := by kernel_rfl

theorem StrRow.holds {W : World} {b o : Nat} {l : List ByteArray} (h : StrRow W (some ⟨b, o, none⟩) l) : ∀ j u, (l.map Value.string)[j]? = some u → W.cell? ((⟨b, o, none⟩ : Addr).add j) = some u := fun j u hj => by
  rw [List.getElem?_map] at hj
  have hl : j < l.length := by
    by_cases h' : j < l.length
    · exact h'
    · rw [List.getElem?_eq_none (by omega)] at hj; cases hj
  obtain ⟨b', o', e, hc⟩ := h j hl
  cases e
  rw [List.getElem?_eq_getElem hl] at hj
  obtain rfl : Value.string l[j] = u := Option.some.inj hj
  rw [Addr.add_lit, hc]
  simp [List.getD, hl]

theorem string_ones (l : List ByteArray) : ∀ u ∈ l.map Value.string, u.oneCell' = true := fun u hu => by
  obtain ⟨x, _, rfl⟩ := List.mem_map.1 hu
  rfl

theorem over_cat (x s : ByteArray) (h : s.size ≤ x.size) : s ++ x.extract s.size x.size = over x s := by
  refine ByteArray.ext ?_
  apply Array.ext'
  rw [over_list _ _ h]
  have hs : s.data.toList.length = s.size := Array.length_toList
  have hx : x.data.toList.length = x.size := Array.length_toList
  rw [ByteArray.data_append, Array.toList_append, ByteArray.data_extract, Array.toList_extract, List.extract_eq_take_drop]
  congr 1
  rw [List.take_of_length_le (by rw [List.length_drop]; omega)]

theorem StrRow.setAt {W : World} {g : Nat} {l : List ByteArray} (h : StrRow W (some ⟨g, 0, none⟩) l) {a : Nat} (ha : a < l.length) (s : ByteArray) : StrRow (W.setCell ⟨g, a, none⟩ (.string s)) (some ⟨g, 0, none⟩) (l.set a s) := fun k hk => by
  rw [List.length_set] at hk
  refine ⟨g, 0, rfl, ?_⟩
  rw [Nat.zero_add]
  by_cases e : k = a
  · subst e
    obtain ⟨b', o', e', hc⟩ := h k hk
    cases e'
    rw [Nat.zero_add] at hc
    rw [World.cell?_setCell_same' _ _ _ (by rw [hc]; rfl)]
    simp [List.getD, hk]
  · obtain ⟨b', o', e', hc⟩ := h k hk
    cases e'
    rw [Nat.zero_add] at hc
    rw [World.cell?_setCell_other _ _ _ _ (by simp), hc]
    simp [List.getD, Ne.symm e]

set_option maxHeartbeats 1000000 in
theorem apply_calls (A : Option Addr) (n c : Nat) (l : List ByteArray) (a : Nat) (s : ByteArray) (w : World) (hn : n = l.length) (hA : StrRow w A l) (ha : a < n) (hb : n ≤ 100000) (hs : s.size ≤ (l.getD a ByteArray.empty).size) (hsz : (l.getD a ByteArray.empty).size ≤ 100000) :
    Calls Try.prog 40 #[.slice A n c, .int .i64 a, .string s] w fun e w' => ∃ A' c', e = .returned (.slice A' n c') ∧ n ≤ c' ∧ StrRow w' A' (l.set a (over (l.getD a ByteArray.empty) s)) ∧ OwnAt A' w.heap.size w'.heap.size n ∧ Below w.heap.size w w' := by
  obtain ⟨i0, hi, hz0, hz1, hz2⟩ := info_parts infoStr
  subst hn
  obtain ⟨b, o, rfl, hx⟩ := hA a (by omega)
  generalize hX : l.getD a ByteArray.empty = X at *
  have hbw := one_below w (.cells #[] 9)
  have hA' := hA.below hbw
  have hold := hA'.holds
  have hown0 := World.ownsRow_lit (base := w.heap.size) (e := 9) (size := 1) w #[] 0 (Nat.le_refl _) (by unfold maxLen; omega) rfl
  have hsW : (w.alloc (.cells #[] 9)).heap.size = w.heap.size + 1 := by simp
  go_enter Try.func40, Try.ntmps40
  go_wp2_with (at_builtin; refine wpList_append_own _ rfl _ _ 22 rfl w.heap.size 9 i0 (.string ⟨#[]⟩) 1 16 Try.underlying22 hi hz0 hz1 hz2 rfl (by decide) _ _ _ rfl hown0 ⟨b, o, none⟩ l.length c (l.map Value.string) rfl (by simp) hold (string_ones l) (by unfold maxLen; omega) (by omega) (by omega) ?_)
  intro v' w1 hown hgrow _
  have hbel : Below w.heap.size w w1 := hbw.grown hgrow (by omega) (fun k hk => (hown0.lt k hk).1)
  have hown : w1.ownsRow w.heap.size 9 1 v' l.length (l.map Value.string) := by simpa using hown
  obtain ⟨A', c', rfl, hc, hrow, hfr⟩ := StrRow.of_own rfl hown
  rcases hfr with ⟨_, e⟩ | ⟨g, rfl, hg1, hg2, hg3⟩
  · exfalso
    rw [e] at ha
    simp at ha
  have hfz := hg3 a (by omega)
  obtain ⟨g', o', e', hcur⟩ := hrow a (by omega)
  cases e'
  rw [hX, Nat.zero_add] at hcur
  have hx1 := cell_below hbel hx
  have HF := Lib.hid (show StrRow (w1.setCell ⟨g, a, none⟩ (.string (s ++ X.extract s.size X.size))) (some ⟨g, 0, none⟩) (l.set a (over X s)) by rw [over_cat X s hs]; exact hrow.setAt (by omega) _)
  have HB := Lib.hid (hbel.setCell (p := ⟨g, a, none⟩) hg1 (.string (s ++ X.extract s.size X.size)))
  have HO := Lib.hid (show OwnAt (some ⟨g, 0, none⟩) w.heap.size (w1.setCell ⟨g, a, none⟩ (.string (s ++ X.extract s.size X.size))).heap.size l.length from .inr ⟨g, rfl, hg1, by simpa [World.setCell] using hg2⟩)
  clear hown hgrow hrow hold hown0 hA' hA hg3 hbel
  go_wp2
  exact bodyPost_ret (v := .slice (some ⟨g, 0, none⟩) l.length c') (by simp [results, Try.results40, go_sem]) rfl ⟨_, _, rfl, hc, HF.out, HO.out, HB.out⟩
end Go.Proofs.Ytdilfdjhablnpaa
