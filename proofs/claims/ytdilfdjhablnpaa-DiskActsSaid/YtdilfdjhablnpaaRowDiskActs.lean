/- Proved: for every input (a disk, a number, a text, ints, two numbers), tabularylaw10.DiskActs returns true (what is read, written, synced and left by a crash is as the document says). No condition. -/
import Derived.Test.YtdilfdjhablnpaaRows
import Derived.Test.YtdilfdjhablnpaaDiskActs
import Derived.Test.YtdilfdjhablnpaaDiskActs2
import Derived.ProofKit
import Derived.OpenShut
import Derived.ShutString
import Derived.ChangeOld
import Derived.SizedLaws
namespace Go.Proofs.Ytdilfdjhablnpaa.rowDiskActs
open Go.ChangeShapes Go.WideShapes Go.ChangeAt Go.RowKit
open Go.ChangeMaps (open_string shut_string)
set_option linter.unusedVariables false
theorem own : ownKnob Try.prog.godebug = none := by kernel_rfl
theorem laidOut : laidOutB Try.prog = true := by kernel_rfl

theorem acts_any (z : Int) (Ak Aw : Option Addr) (n ck m cw : Nat) (off : Bool) (at_ : Int) (s : ByteArray) (K : Option Addr) (kn kc : Nat) (many size : Int) (kept : List ByteArray) (ws : List Wr) (keep : List Int) (w : World) (hn : n = kept.length) (hm : m = ws.length) (hcap : m ≤ cw) (hk : StrRow w Ak kept) (hw : WrRow w Aw ws) (hkeep : KeepIn w K kn keep) :
    Calls Try.prog 9 #[.agg #[.int .i64 z, .slice Ak n ck, .slice Aw m cw, .bool off, .int .i64 at_, .string s, .slice K kn kc, .int .i64 many, .int .i64 size]] w fun e w' => e = .returned (.bool true) ∧ Below w.heap.size w w' := by
  by_cases h : 40 < n ∨ 40 < m
  · exact acts_big z Ak Aw n ck m cw off at_ s K kn kc many size w h
  · have hd : Hid (DiskIn w Ak Aw n m kept ws) := Lib.hid ⟨hn, hm, by omega, by omega, hk, hw⟩
    by_cases hR : RightD z kept ws
    · exact acts_good z Ak Aw n ck m cw off at_ s K kn kc many size kept ws keep w hd (Lib.hid hkeep) (by omega) (by omega) hcap hR
    · exact acts_wrong z Ak Aw n ck m cw off at_ s K kn kc many size kept ws keep w hd (Lib.hid hkeep) (by omega) (by omega) hR

set_option maxRecDepth 100000 in
theorem lifted (os : Os) (started : os.Started) (H : Type) (enc : TypeId × Value → H) :
    ReturnsInHanded {} Try.checked os 9 .any (Rows.diskActsSpec.pre6 enc Try.prog Try.f9 Rows.diskActsRow.domain false) (Rows.diskActsSpec.post enc Try.prog Try.f9 false true false false) := by
  refine returnsInHanded_of_change_sized (C := Try.checked) own started (by kernel_rfl) Try.func9
    (ChangeSpec.witness6 (enc := enc) (C := Try.checked) false ⟨#[], #[.agg #[.int .i64 0, .slice none 0 0, .slice none 0 0, .bool false, .int .i64 0, .string ByteArray.empty, .slice none 0 0, .int .i64 0, .int .i64 0]], []⟩ 8 (by kernel_rfl) (by kernel_rfl) (by kernel_rfl) (by kernel_rfl)) ?_
  intro W base args ds gs before hval0 hW hcnd hsz0 _
  have hval : ∀ (j : Nat) t v, Try.f9.params[j]? = some t → args[j]? = some v → Value.okWide Try.prog W .any base t v := hval0
  have hW' := hW
  obtain ⟨p, q, hA0, hV, rfl, hfz, hnd⟩ := hW
  have hA : DataW.TrodAll enc Try.prog W 0 (fun _ => true) true Try.f9.params.toList args.toList ds p := hA0
  rw [Try.params9] at hA hval
  obtain ⟨v0, vs0, d0, ds0, p0, q0, hargs, rfl, rfl, h0, r0⟩ := trodAll_cons hA
  obtain ⟨rfl, rfl, rfl⟩ := trodAll_nil r0
  obtain rfl : args = #[v0] := by cases args; simp_all
  obtain ⟨rfl, rfl⟩ := trodVars_none hV
  have k0 := h0
  have lt0 : ∀ x ∈ p0, x.block < W.heap.size := by obtain ⟨m, hm⟩ := k0; exact DataW.trod_lt m _ _ _ hm
  obtain ⟨z, Ak, n, ck, Aw, m, cw, off, a1, a2, K, kn, kc, many, size, kept, ws, keep, rfl, hn, hm, _, hcap, hk, hw, hkeep⟩ := acts_open (hval 0 55 v0 rfl rfl) h0
  clear hA0 hval0 hsz0
  refine (acts_any z Ak Aw n ck m cw off a1 a2 K kn kc many size kept ws keep W hn hm hcap hk hw hkeep).mono fun e W' ⟨he, bel⟩ => ?_
  subst he
  exact ⟨_, rfl, _, _, _, [], _, [], hW', trodAll_mk1 (shut_bool Try.underlying4 _), (trodAll_cons_mk (Below.trod laidOut (by kernel_rfl) (of_decide_eq_true (by kernel_rfl)) k0 bel lt0) trodAll_mk0), rfl, bel.frame _, fun h => by cases h⟩

theorem proved : Rows.DiskActsSaid :=
  OpenClaim.holds_of_wide 9 Try.f9 rfl rfl rfl rfl rfl rfl rfl ⟨rfl, rfl, rfl, rfl, rfl⟩ rfl rfl rfl rfl rfl (by kernel_rfl) Try.func9 (by kernel_rfl)
    (of_decide_eq_true (by kernel_rfl)) (by unfold Func.isWrapper; first | (rw [if_pos (by decide +kernel)]; kernel_rfl) | (rw [if_neg (by decide +kernel)]; exact ⟨rfl, rfl⟩))
    (fun os started H enc _ => lifted os started H enc)
end Go.Proofs.Ytdilfdjhablnpaa.rowDiskActs

namespace Go.Proofs.Ytdilfdjhablnpaa
theorem diskActs_holds : Rows.DiskActsSaid := rowDiskActs.proved
#print axioms diskActs_holds
end Go.Proofs.Ytdilfdjhablnpaa
