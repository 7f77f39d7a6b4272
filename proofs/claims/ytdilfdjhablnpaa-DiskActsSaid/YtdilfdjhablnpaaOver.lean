/- The walk of disk.over: a text that begins with another's bytes. -/
import Derived.Test.YtdilfdjhablnpaaProg
import Derived.WalkKit
import Derived.Lib.Hide
import Derived.Lib.ConvBytes
import Derived.Laws.IdiomCopy
import Derived.Laws.BytesArg
namespace Go.Proofs.Ytdilfdjhablnpaa
open Go.RowKit

/-- The bytes of a text that begins with another's. -/
def overL (s f : List UInt8) : List UInt8 := f.take s.length ++ s.drop f.length
def over (s f : ByteArray) : ByteArray := ⟨(overL s.data.toList f.data.toList).toArray⟩

theorem overL_len (s f : List UInt8) : (overL s f).length = s.length := by simp [overL]; omega
theorem over_size (s f : ByteArray) : (over s f).size = s.size := by
  show (overL s.data.toList f.data.toList).toArray.size = _
  rw [List.size_toArray, overL_len]; rfl

/-- The cells that the copy writes. -/
def overVs (s f : ByteArray) : List Value := (f.data.toList.take s.size).map fun b => Value.int .u8 b.toNat

theorem overVs_len (s f : ByteArray) : (overVs s f).length = Nat.min f.size s.size := by
  simp only [overVs, List.length_map, List.length_take, Array.length_toList]
  show min s.size f.size = min f.size s.size
  omega

theorem info5 : (Try.prog.info? 5).map (·.size) = some 1 := by kernel_rfl

theorem run_copy_string (W : World) (g n cap : Nat) (s f : ByteArray) (hn : n = s.size) (hc : ∀ j, j < s.size → (W.cell? ⟨g, j, none⟩).isSome = true) (hf : ∀ j, j < s.size → W.frozen? ⟨g, j, none⟩ = false) :
    (Builtin.copy_ #[47, 9] 3 #[.slice (some ⟨g, 0, none⟩) n cap, .string f]).run Try.prog W = .ok (goInt (Nat.min f.size s.size)) (W.setCells g 0 (overVs s f)) := by
  subst hn
  have hl := overVs_len s f
  have hmin : Nat.min f.size s.size ≤ s.size := Nat.min_le_right _ _
  have hst := run_storeCells_cells (P := Try.prog) g 0 (overVs s f) 0 W (fun j hj => by rw [show 0 + 0 + j = j by omega]; exact hc j (by omega)) (fun j hj => by rw [show 0 + 0 + j = j by omega]; exact hf j (by omega))
    (fun v hv => by simp only [overVs, List.mem_map] at hv; obtain ⟨b, _, rfl⟩ := hv; rfl)
  have hcells : List.take (f.size.min s.size) (f.data.toList.map fun b => Value.int .u8 b.toNat) = overVs s f := by
    simp only [overVs, ← List.map_take]
    congr 1
    have : f.data.toList.length = f.size := rfl
    rcases Nat.le_total f.size s.size with h | h
    · rw [show Nat.min f.size s.size = f.size from Nat.min_eq_left h, List.take_of_length_le (by omega), List.take_of_length_le (by omega)]
    · rw [show Nat.min f.size s.size = s.size from Nat.min_eq_right h]
  cases hq : Try.prog.info? 5 with
  | none => have := info5; simp [hq] at this
  | some i =>
    simp only [Nat.add_zero] at hst
    simp [Builtin.copy_, run_underlying Try.underlying47, Builtin.lenOf, Builtin.firstCells, sizeOf, typeInfo, hq]
    rw [hcells, hst]
    rfl

/-- The world behind. -/
def overW (w : World) (s f : ByteArray) : World := (Lib.bytesWorld w 5 s).setCells w.heap.size 0 (overVs s f)

theorem below_setCells (b : Nat) : ∀ (vs : List Value) (o : Nat) (w0 w : World) (B : Nat), Below B w0 w → B ≤ b → Below B w0 (w.setCells b o vs)
  | [], _, _, _, _, h, _ => h
  | v :: r, o, w0, w, B, h, hb => below_setCells b r (o + 1) w0 (w.setCell _ _) B (h.setCell (p := ⟨b, o, none⟩) hb v) hb

theorem overW_below (w : World) (s f : ByteArray) : Below w.heap.size w (overW w s f) := by
  refine below_setCells _ _ _ _ _ _ ⟨?_, ?_, ?_, ?_, ?_⟩ (Nat.le_refl _)
  · rfl
  · rfl
  · rfl
  · rw [Lib.bytesWorld_size]; omega
  · exact fun k hk => Lib.bytesWorld_at_old w 5 s k hk

theorem bytes_frozen (w : World) (s : ByteArray) (j : Nat) (hj : j < s.size) : (Lib.bytesWorld w 5 s).frozen? ⟨w.heap.size, j, none⟩ = false := by
  have hsz : s.size ≤ (Lib.bytesCells w 5 s).size := by
    simp only [Lib.bytesCells, Array.size_append, Array.size_map]
    show s.data.size ≤ _
    omega
  simp only [World.frozen?, Lib.bytesWorld_at_new]
  simp
  omega

theorem overW_cell (w : World) (s f : ByteArray) (j : Nat) (hj : j < s.size) :
    (overW w s f).cell? ⟨w.heap.size, j, none⟩ = some (.int .u8 (((overL s.data.toList f.data.toList).map fun b => (b.toNat : Int)).getD j 0)) := by
  have hls : s.data.toList.length = s.size := rfl
  have hlf : f.data.toList.length = f.size := rfl
  have hl := overVs_len s f
  unfold overW
  by_cases h : j < f.size
  · have hjv : j < (overVs s f).length := by rw [hl]; exact Nat.lt_min.2 ⟨h, hj⟩
    have := World.cell?_setCells_in w.heap.size (overVs s f) 0 (Lib.bytesWorld w 5 s) (fun i hi => by
      rw [Nat.zero_add, Lib.bytesWorld_cell w 5 s i (by rw [hl] at hi; exact (Nat.lt_min.1 hi).2)]; rfl) j hjv
    rw [Nat.zero_add] at this
    rw [this]
    have h1 : j < (f.data.toList.take s.data.toList.length).length := by rw [List.length_take]; omega
    simp only [overVs, List.getElem_map, overL, List.map_append, List.getD_eq_getElem?_getD]
    rw [List.getElem?_append_left (by simpa using h1)]
    rw [List.getElem?_eq_getElem (by simpa using h1)]
    simp
  · have hm : (overVs s f).length ≤ f.size := hl ▸ Nat.min_le_left f.size s.size
    rw [World.cell?_setCells_out _ _ _ _ _ (fun _ _ => .inr (show 0 + (overVs s f).length ≤ j by omega)), Lib.bytesWorld_cell w 5 s j hj]
    have h1 : (f.data.toList.take s.data.toList.length) = f.data.toList := List.take_of_length_le (by omega)
    simp only [overL, h1, List.map_append, List.getD_eq_getElem?_getD]
    rw [List.getElem?_append_right (by simp; omega)]
    simp
    rw [show f.size + (j - f.size) = j by omega]
    cases s.data[j]? <;> rfl

set_option maxHeartbeats 400000 in
theorem over_calls (s f : ByteArray) (w : World) :
    Calls Try.prog 34 #[.string s, .string f] w fun e w' => e = .returned (.string (over s f)) ∧ Below w.heap.size w w' := by
  have kc := Lib.run_convert_string_bytes (P := Try.prog) w 9 47 5 s Try.underlying9 Try.underlying47 Try.underlying5
  have kd := run_copy_string (Lib.bytesWorld w 5 s) w.heap.size s.size (grownCap w s.size 0 5) s f rfl (fun j hj => by rw [Lib.bytesWorld_cell w 5 s j hj]; rfl) (bytes_frozen w s)
  have ke := run_convert_bytes_arg (P := Try.prog) (overW w s f) 47 5 Try.underlying47 Try.underlying5 w.heap.size 0 s.size (grownCap w s.size 0 5) ((overL s.data.toList f.data.toList).map fun b => (b.toNat : Int))
    (by rw [List.length_map, overL_len]; rfl) (fun i hi => by rw [Nat.zero_add]; exact overW_cell w s f i hi) 9 Try.underlying9
  have hs : strOfNums ((overL s.data.toList f.data.toList).map fun b => (b.toNat : Int)) = over s f := by
    unfold strOfNums over
    rw [List.map_map]
    congr 2
    conv => rhs; rw [← List.map_id (overL s.data.toList f.data.toList)]
    exact List.map_congr_left (fun b _ => by simp)
  rw [hs] at ke
  have hb := overW_below w s f
  unfold overW at ke hb
  generalize hW : (Lib.bytesWorld w 5 s).setCells w.heap.size 0 (overVs s f) = W at *
  clear hs hW
  go_enter Try.func34, Try.ntmps34
  go_wp2
  go_ret
  exact ⟨rfl, hb⟩

end Go.Proofs.Ytdilfdjhablnpaa
