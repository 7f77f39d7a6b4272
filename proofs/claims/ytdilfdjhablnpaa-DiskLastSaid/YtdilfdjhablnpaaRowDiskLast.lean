/- Proved: for every input (a disk, a number, two texts), tabularylaw10.DiskLast returns true (of two writes to one sector the later one is read where both wrote; synced in between it is the same). No condition. -/
import Derived.Test.YtdilfdjhablnpaaRows
import Derived.Test.YtdilfdjhablnpaaDiskLast
import Derived.Test.YtdilfdjhablnpaaDiskLast2
import Derived.Test.YtdilfdjhablnpaaOpenLast
import Derived.ProofKit
import Derived.OpenShut
import Derived.ShutString
import Derived.ChangeOld
import Derived.SizedLaws
namespace Go.Proofs.Ytdilfdjhablnpaa.rowDiskLast
open Go.ChangeShapes Go.WideShapes Go.ChangeAt Go.RowKit
open Go.ChangeMaps (open_string shut_string)
set_option linter.unusedVariables false
theorem own : ownKnob Try.prog.godebug = none := by kernel_rfl
theorem laidOut : laidOutB Try.prog = true := by kernel_rfl

theorem last_any (z : Int) (Ak Aw : Option Addr) (n ck m cw : Nat) (off : Bool) (at_ : Int) (s t : ByteArray) (kept : List ByteArray) (ws : List Wr) (w : World) (hn : n = kept.length) (hm : m = ws.length) (hcap : m ≤ cw) (hk : StrRow w Ak kept) (hw : WrRow w Aw ws) :
    Calls Try.prog 7 #[.agg #[.int .i64 z, .slice Ak n ck, .slice Aw m cw, .bool off, .int .i64 at_, .string s, .string t]] w fun e w' => e = .returned (.bool true) ∧ Below w.heap.size w w' := by
  by_cases h : 40 < n ∨ 40 < m
  · exact last_big z Ak Aw n ck m cw off at_ s t w h
  · have hd : Hid (DiskIn w Ak Aw n m kept ws) := Lib.hid ⟨hn, hm, by omega, by omega, hk, hw⟩
    by_cases hgood : RightD z kept ws ∧ off = false ∧ 0 ≤ at_ ∧ at_ < n ∧ 1 ≤ s.size ∧ (s.size : Int) ≤ z ∧ 1 ≤ t.size ∧ (t.size : Int) ≤ z
    · obtain ⟨hR, rfl, h1, h2, h3, h4, h5, h6⟩ := hgood
      exact last_good z Ak Aw n ck m cw at_ s t kept ws w hd (by omega) (by omega) hcap hR h1 h2 h3 h4 h5 h6
    · exact last_err z Ak Aw n ck m cw off at_ s t kept ws w hd (by omega) (by omega) hcap hgood

set_option maxRecDepth 100000 in
theorem lifted (os : Os) (started : os.Started) (H : Type) (enc : TypeId × Value → H) :
    ReturnsInHanded {} Try.checked os 7 .any (Rows.diskLastSpec.pre6 enc Try.prog Try.f7 Rows.diskLastRow.domain false) (Rows.diskLastSpec.post enc Try.prog Try.f7 false true false false) := by
  refine returnsInHanded_of_change_sized (C := Try.checked) own started (by kernel_rfl) Try.func7
    (ChangeSpec.witness6 (enc := enc) (C := Try.checked) false ⟨#[], #[.agg #[.int .i64 0, .slice none 0 0, .slice none 0 0, .bool false, .int .i64 0, .string ByteArray.empty, .string ByteArray.empty]], []⟩ 8 (by kernel_rfl) (by kernel_rfl) (by kernel_rfl) (by kernel_rfl)) ?_
  intro W base args ds gs before hval0 hW hcnd hsz0 _
  have hval : ∀ (j : Nat) t v, Try.f7.params[j]? = some t → args[j]? = some v → Value.okWide Try.prog W .any base t v := hval0
  have hW' := hW
  obtain ⟨p, q, hA0, hV, rfl, hfz, hnd⟩ := hW
  have hA : DataW.TrodAll enc Try.prog W 0 (fun _ => true) true Try.f7.params.toList args.toList ds p := hA0
  rw [Try.params7] at hA hval
  obtain ⟨v0, vs0, d0, ds0, p0, q0, hargs, rfl, rfl, h0, r0⟩ := trodAll_cons hA
  obtain ⟨rfl, rfl, rfl⟩ := trodAll_nil r0
  obtain rfl : args = #[v0] := by cases args; simp_all
  obtain ⟨rfl, rfl⟩ := trodVars_none hV
  have k0 := h0
  have lt0 : ∀ x ∈ p0, x.block < W.heap.size := by obtain ⟨m, hm⟩ := k0; exact DataW.trod_lt m _ _ _ hm
  obtain ⟨z, Ak, n, ck, Aw, m, cw, off, a1, a2, a3, kept, ws, rfl, hn, hm, _, hcap, hk, hw⟩ := last_open (hval 0 50 v0 rfl rfl) h0
  clear hA0 hval0 hsz0
  refine (last_any z Ak Aw n ck m cw off a1 a2 a3 kept ws W hn hm hcap hk hw).mono fun e W' ⟨he, bel⟩ => ?_
  subst he
  exact ⟨_, rfl, _, _, _, [], _, [], hW', trodAll_mk1 (shut_bool Try.underlying4 _), (trodAll_cons_mk (Below.trod laidOut (by kernel_rfl) (of_decide_eq_true (by kernel_rfl)) k0 bel lt0) trodAll_mk0), rfl, bel.frame _, fun h => by cases h⟩

theorem proved : Rows.DiskLastSaid :=
  OpenClaim.holds_of_wide 7 Try.f7 rfl rfl rfl rfl rfl rfl rfl ⟨rfl, rfl, rfl, rfl, rfl⟩ rfl rfl rfl rfl rfl (by kernel_rfl) Try.func7 (by kernel_rfl)
    (of_decide_eq_true (by kernel_rfl)) (by unfold Func.isWrapper; first | (rw [if_pos (by decide +kernel)]; kernel_rfl) | (rw [if_neg (by decide +kernel)]; exact ⟨rfl, rfl⟩))
    (fun os started H enc _ => lifted os started H enc)
end Go.Proofs.Ytdilfdjhablnpaa.rowDiskLast

namespace Go.Proofs.Ytdilfdjhablnpaa
theorem diskLast_holds : Rows.DiskLastSaid := rowDiskLast.proved
#print axioms diskLast_holds
end Go.Proofs.Ytdilfdjhablnpaa
