/- The walk of slices.Repeat of one text, and of disk.New. -/
import Derived.Test.YtdilfdjhablnpaaWrite
import Derived.Laws.CopyOwn
import Derived.Laws.OwnMore
import Derived.Deep.OwnRows
import Derived.Deep.RegionLaw
namespace Go.Proofs.Ytdilfdjhablnpaa
open Go.RowKit Go.Shelf

/-- A row whose first k cells are filled. -/
def rowK (s : ByteArray) (c k : Nat) : List Value := List.replicate k (.string s) ++ List.replicate (c - k) (.string ⟨#[]⟩)

theorem rowK_len (s : ByteArray) (c k : Nat) (h : k ≤ c) : (rowK s c k).length = c := by simp [rowK]; omega
theorem rowK_zero (s : ByteArray) (c : Nat) : rowK s c 0 = List.replicate c (.string ⟨#[]⟩) := by simp [rowK]
theorem rowK_full (s : ByteArray) (c : Nat) : rowK s c c = List.replicate c (.string s) := by simp [rowK]
theorem rowK_splice (s : ByteArray) (c k m : Nat) (h : k + m ≤ c) : splice (rowK s c k) k (List.replicate m (.string s)) = rowK s c (k + m) := by
  unfold splice rowK
  rw [List.take_left' (by simp), List.drop_append, List.drop_eq_nil_of_le (by simp), List.nil_append, List.length_replicate, List.length_replicate, List.drop_replicate, ← List.append_assoc, List.replicate_append_replicate]
  congr 2
  omega

theorem rowK_get (s : ByteArray) (c k j : Nat) (h : j < k) : (rowK s c k)[j]? = some (.string s) := by
  unfold rowK
  rw [List.getElem?_append_left (by simpa using h), List.getElem?_replicate]
  simp [h]

set_option maxHeartbeats 1000000 in
theorem repeat_calls (g c : Nat) (s : ByteArray) (w : World) (hc1 : 1 ≤ c) (hc : c ≤ 4096) (hs : w.cell? ⟨g, 0, none⟩ = some (.string s)) :
    Calls Try.prog 35 #[.slice (some ⟨g, 0, none⟩) 1 1, .int .i64 c] w fun e w' =>
      ∃ A, e = .returned (.slice A c c) ∧ StrRow w' A (List.replicate c s) ∧ OwnAt A w.heap.size w'.heap.size c ∧ Below w.heap.size w w' := by
  have d1 : decide ((c : Int) < 0) = false := by simp
  have hm := (Try.bits_Mul 1 c (by omega) (by omega) w).mono (R' := fun e w' => e = .returned (.tuple #[.int .u64 0, .int .u64 c]) ∧ w' = w) (by
    rintro e w' ⟨rfl, rfl⟩
    refine ⟨?_, rfl⟩
    rw [show 1 * c / 18446744073709551616 = 0 by omega, show 1 * c % 18446744073709551616 = c by omega]
    rfl)
  have HM := Lib.hid hm
  have hg := World.block_lt_of_cell? w _ hs
  have hs2 : ∀ o, (w.alloc o).cell? ⟨g, 0, none⟩ = some (.string s) := fun o => by rw [World.cell?_alloc_past _ _ _ hg]; exact hs
  have HS := Lib.hid hs
  have hmade : madeCells #[.string ⟨#[]⟩] c = (rowK s c 0).toArray := by rw [rowK_zero, ← toList_madeCells_one]
  have d0 : decide ((c : Int) > 9223372036854775807) = false := by simp; omega
  have d0' : decide (9223372036854775807 < (c : Int)) = false := by simp; omega
  have H1 := Lib.hid (heap_alloc_new w (.cells (rowK s c 0).toArray 9))
  have H2 := Lib.hid ((Below.refl w.heap.size w).alloc (Nat.le_refl _) (.cells (rowK s c 0).toArray 9))
  have H3 := Lib.hid (hs2 (.cells (rowK s c 0).toArray 9))
  obtain ⟨G, hG⟩ : ∃ G, G = w.heap.size := ⟨_, rfl⟩
  have HG := Lib.hid hG
  rw [← hG] at H1 H2
  clear hm hs2 hg hs hG
  go_enter Try.func35, Try.ntmps35
  go_wp2_with first
    | (go_at_call 43; refine HM.out.mono ?_; rintro e w' ⟨rfl, he⟩; obtain rfl := he.symm)
    | (at_make; refine wpList_make_row _ rfl _ _ 22 rfl 9 Try.t9 (.string ⟨#[]⟩) (by kernel_rfl) (by kernel_rfl) rfl rfl rfl .i64 .i64 c rfl rfl (by show 16 * c ≤ _; omega) (by omega) ?_; rw [hmade, ← HG.out]; generalize w.alloc (.cells (rowK s c 0).toArray 9) = W at *)
    | (with_reducible refine wpList_copy_splice rfl (.tmp 31) (.tmp 32) 22 22 rfl 9 (by kernel_rfl) (by kernel_rfl) (some ⟨G, 0, none⟩) (some ⟨g, 0, none⟩) c c 1 1 rfl rfl G 0 (rowK s c 0) 9 H1.out [.string s] ?c1 ?c2 ?c3 ?c4 G w H2.out (Nat.le_refl _) ?_)
  case c1 => show 1 = Nat.min 1 c; simp [Nat.min_def]; omega
  case c2 =>
    intro j v hj
    match j, hj with
    | 0, hj => cases hj; exact H3.out
    | j + 1, hj => simp at hj
  case c3 => rw [rowK_len _ _ _ (by omega)]; simp; omega
  case c4 => intro v hv; simp at hv; subst hv; rfl
  intro w2 hg2 hb2
  have hr := rowK_splice s c 0 1 (by omega)
  have HR : Hid (w2.heap[G]? = some (.cells (rowK s c 1).toArray 9 (0, 0))) := by
    have := hg2.out
    rw [show ([.string s] : List Value) = List.replicate 1 (.string s) from rfl, hr] at this
    exact this
  have HB := Lib.hid hb2
  clear hg2 hr hb2 H1 H2 H3 HM hmade
  go_wp2
  go_loopw [8] (fun n wr => ∃ k : Nat, 1 ≤ k ∧ k ≤ c ∧ n = .int .i64 k ∧ Hid (wr.heap[G]? = some (.cells (rowK s c k).toArray 9 (0, 0))) ∧ Hid (Below G w wr)) (fun n _ => c - (intOf n).toNat)
  case atStart => exact ⟨1, by omega, by omega, rfl, HR, HB⟩
  case round =>
    obtain ⟨k, hk1, hk2, rfl, hrow, hbel⟩ := hrel
    by_cases hlt : k < c
    · have d2 : decide ((k : Int) < c) = true := by simp; omega
      obtain ⟨M, hM⟩ : ∃ M, M = Nat.min k (c - k) := ⟨_, rfl⟩
      have hM1 : 1 ≤ M := by rw [hM]; simp only [Nat.min_def]; split <;> omega
      have hM2 : k + M ≤ c := by rw [hM]; simp only [Nat.min_def]; split <;> omega
      have L1 := Lib.hid (show (List.replicate M (Value.string s)).length = Nat.min k (c - k) by rw [List.length_replicate, hM])
      have L2 := Lib.hid (show ∀ j v, (List.replicate M (Value.string s))[j]? = some v → wr.drew.cell? ((⟨G, 0, none⟩ : Addr).add j) = some v from fun j v hj => by
        rw [List.getElem?_replicate] at hj
        split at hj
        · cases hj
          rw [Addr.add_lit]
          have h1 := rowK_get s c k j (by have : M ≤ k := (by rw [hM]; simp only [Nat.min_def]; split <;> omega); omega)
          have h2 := hrow.out
          show wr.cell? _ = _
          simp only [World.cell?, h2, Nat.zero_add]
          simpa using h1
        · cases hj)
      have L3 := Lib.hid (show k + (List.replicate M (Value.string s)).length ≤ (rowK s c k).length by rw [rowK_len _ _ _ hk2, List.length_replicate]; exact hM2)
      have L4 := Lib.hid (show ∀ v ∈ List.replicate M (Value.string s), v.oneCell' = true from fun v hv => by rw [List.eq_of_mem_replicate hv]; rfl)
      have L5 := Lib.hid (show goInt (List.replicate M (Value.string s)).length = .int .i64 (M : Int) by rw [List.length_replicate]; rfl)
      have L6 := Lib.hid (show splice (rowK s c k) k (List.replicate M (.string s)) = rowK s c (k + M) from rowK_splice s c k M hM2)
      have n1 : (k : Int) ≤ c := by omega
      have n2 : (((c : Int)) - k).toNat = c - k := by omega
      have n3 : ((k : Int)).toNat = k := by omega
      generalize List.replicate M (Value.string s) = CS at *
      clear hM HS he HR HB
      go_wp2_with fail
      go_region_law (refine step_copy_splice rfl (.tmp 41) (.tmp 44) 22 22 rfl 9 (by kernel_rfl) (by kernel_rfl) (some ⟨G, k, none⟩) (some ⟨G, 0, none⟩) (c - k) (c - k) k c (by simp [Act.eval, Act.put]; omega) (by simp [Act.eval, Act.put]) G k (rowK s c k) 9 hrow.out CS L1.out (fun _ => ⟨rfl, ⟨G, 0, none⟩, rfl, L2.out⟩) L3.out L4.out G w hbel.out.drew (Nat.le_refl _) ?_; intro w4 hg4 hb4; rw [L5.out])
      rw [L6.out] at hg4
      have n5 : IntKind.i64.wrap ((k : Int) + (M : Int)) = ((k + M : Nat) : Int) := by simp [IntKind.wrap, IntKind.bits, IntKind.signed]; omega
      have HB4 := Lib.hid hb4
      clear hb4
      rw [n5]
      go_roundw
      case rel =>
        refine ⟨.int .i64 ((k + M : Nat) : Int), ?_⟩
        repeat apply Exists.intro
        exact ⟨⟨k + M, by omega, by omega, rfl, hg4, HB4⟩, rfl⟩
      case measure =>
        show c - (intOf (.int .i64 ((k + M : Nat) : Int))).toNat < c - (intOf (.int .i64 (k : Int))).toNat
        simp only [intOf]
        omega
    · have : k = c := by omega
      subst this
      have d2 : decide ((k : Int) < k) = false := by simp
      have hr := hrow.out
      have hb := hbel.out
      rw [HG.out] at hb
      go_wp2
      refine bodyPost_ret (v := .slice (some ⟨G, 0, none⟩) k k) (by simp [results, Try.results35, go_sem]) rfl ⟨_, rfl, fun j hj => ⟨G, 0, rfl, ?_⟩, .inr ⟨G, rfl, by rw [HG.out]; exact Nat.le_refl _, (Array.getElem?_eq_some_iff.1 hr).1⟩, hb⟩
      rw [List.length_replicate] at hj
      simp only [World.cell?, hr, Nat.zero_add]
      have h1 := rowK_get s k k j hj
      rw [show (List.replicate k s).getD j ByteArray.empty = s by rw [List.getD, List.getElem?_replicate, if_pos hj]; rfl]
      simpa using h1
end Go.Proofs.Ytdilfdjhablnpaa
