/- The walks of disk.writes, and of the two closures that tell what a write leaves. -/
import Derived.Test.YtdilfdjhablnpaaWrites
namespace Go.Proofs.Ytdilfdjhablnpaa
open Go.RowKit Go.Shelf

theorem writes_calls (z : Int) (ka wa : Value) (off : Bool) (w : World) :
    Calls Try.prog 33 #[.agg #[.int .i64 z, ka, wa, .bool off]] w fun e w' => e = .returned (.func (.func 42) #[] #[.pointer (some ⟨w.heap.size, 0, none⟩)]) ∧ w' = w.alloc (.cells #[.int .i64 z, ka, wa, .bool off] 25) := by
  have hmf : ∀ (fn : Fn) (first cap : Array Value) (w : World), (Instr.makeFunc fn first cap).run Try.prog w = .ok (.func fn first cap) w := fun _ _ _ _ => rfl
  go_enter Try.func33, Try.ntmps33
  go_wp2
  go_ret
  exact ⟨rfl, rfl⟩

theorem ret_str {a b : ByteArray} (h : a = b) : Ending.returned (.string a) = .returned (.string b) := by rw [h]
theorem ret_bool {a b : Bool} (h : a = b) : Ending.returned (.bool a) = .returned (.bool b) := by rw [h]

theorem image1_calls (i : Int) (s : ByteArray) (w : World) :
    Calls Try.prog 32 #[.int .i64 i, .string s] w fun e w' => e = .returned (.string s) ∧ w = w' := by
  go_enter Try.func32, Try.ntmps32
  go_wp2
  go_ret
  exact ⟨rfl, rfl⟩

/-- What a crash leaves of a write. -/
def firstOf (keep : List Int) (i : Nat) (s : ByteArray) : ByteArray := if i < keep.length then s.extract 0 (min (max (keep.getD i 0) 0) (s.size : Int)).toNat else ⟨#[]⟩

theorem firstOf_size (keep : List Int) (i : Nat) (s : ByteArray) : (firstOf keep i s).size ≤ s.size := by
  unfold firstOf
  split
  · rw [ByteArray.size_extract]; omega
  · exact Nat.zero_le _

theorem crash1_calls (i : Nat) (s : ByteArray) (bk n c : Nat) (A : Option Addr) (keep : List Int) (w : World) (hn : n = keep.length) (hb : n ≤ 9223372036854775807)
    (hk : ∀ k, k < keep.length → -9223372036854775808 ≤ keep.getD k 0 ∧ keep.getD k 0 ≤ 9223372036854775807) (hs : s.size ≤ 140737488351232)
    (hc : w.cell? ⟨bk, 0, none⟩ = some (.slice A n c)) (hr : IntRow w A keep) :
    Calls Try.prog 30 #[.int .i64 i, .string s, .pointer (some ⟨bk, 0, none⟩)] w fun e w' => e = .returned (.string (firstOf keep i s)) ∧ w = w' := by
  subst hn
  by_cases h : i < keep.length
  · obtain ⟨b, o, rfl, hx⟩ := hr i h
    have hr' := hk i h
    have hf := Lib.hid (show firstOf keep i s = s.extract 0 (min (max (keep.getD i 0) 0) (s.size : Int)).toNat by unfold firstOf; rw [if_pos h])
    generalize keep.getD i 0 = x at *
    clear hk hr
    go_enter Try.func30, Try.ntmps30
    go_wp2
    go_ret
    exact ⟨ret_str hf.out.symm, rfl⟩
  · have hf := Lib.hid (show firstOf keep i s = ⟨#[]⟩ by unfold firstOf; rw [if_neg h])
    clear hk hr
    go_enter Try.func30, Try.ntmps30
    go_wp2
    go_ret
    exact ⟨ret_str hf.out.symm, rfl⟩

end Go.Proofs.Ytdilfdjhablnpaa
