/- Proved: for every disk d and ints keep, tabularylaw10.DiskKeeps(d, keep) returns true (what was synced is there behind each crash; with all kept a crash leaves the image; a crash stays one). No condition. -/
import Derived.Test.YtdilfdjhablnpaaRows
import Derived.Test.YtdilfdjhablnpaaDiskKeeps
import Derived.Test.YtdilfdjhablnpaaDiskKeeps2
import Derived.Test.YtdilfdjhablnpaaOpenKeep
import Derived.ProofKit
import Derived.OpenShut
import Derived.ShutString
import Derived.ChangeOld
import Derived.SizedLaws
namespace Go.Proofs.Ytdilfdjhablnpaa.rowDiskKeeps
open Go.ChangeShapes Go.WideShapes Go.ChangeAt Go.RowKit
open Go.ChangeMaps (open_string shut_string)
set_option linter.unusedVariables false
theorem own : ownKnob Try.prog.godebug = none := by kernel_rfl
theorem laidOut : laidOutB Try.prog = true := by kernel_rfl

theorem keeps_any (z : Int) (Ak Aw : Option Addr) (n ck m cw : Nat) (off : Bool) (K : Option Addr) (kn kc : Nat) (kept : List ByteArray) (ws : List Wr) (keep : List Int) (w : World) (hn : n = kept.length) (hm : m = ws.length) (hk : StrRow w Ak kept) (hw : WrRow w Aw ws) (hkeep : KeepIn w K kn keep) :
    Calls Try.prog 4 #[.agg #[.int .i64 z, .slice Ak n ck, .slice Aw m cw, .bool off], .slice K kn kc] w fun e w' => e = .returned (.bool true) ∧ Below w.heap.size w w' := by
  by_cases h : 40 < n ∨ 40 < m
  · exact keeps_big z Ak Aw n ck m cw off _ w h
  · have hd : Hid (DiskIn w Ak Aw n m kept ws) := Lib.hid ⟨hn, hm, by omega, by omega, hk, hw⟩
    cases off with
    | true => exact keeps_off z Ak Aw n ck m cw _ kept ws w hd (by omega) (by omega)
    | false =>
      by_cases hR : RightD z kept ws
      · exact keeps_good z Ak Aw n ck m cw K kn kc kept ws keep w hd (by omega) (by omega) (Lib.hid hkeep) hR
      · exact keeps_wrong z Ak Aw n ck m cw _ kept ws w hd (by omega) (by omega) hR

set_option maxRecDepth 100000 in
theorem lifted (os : Os) (started : os.Started) (H : Type) (enc : TypeId × Value → H) :
    ReturnsInHanded {} Try.checked os 4 .any (Rows.diskKeepsSpec.pre6 enc Try.prog Try.f4 Rows.diskKeepsRow.domain false) (Rows.diskKeepsSpec.post enc Try.prog Try.f4 false true false false) := by
  refine returnsInHanded_of_change_sized (C := Try.checked) own started (by kernel_rfl) Try.func4
    (ChangeSpec.witness6 (enc := enc) (C := Try.checked) false ⟨#[], #[.agg #[.int .i64 0, .slice none 0 0, .slice none 0 0, .bool false], .slice none 0 0], []⟩ 8 (by kernel_rfl) (by kernel_rfl) (by kernel_rfl) (by kernel_rfl)) ?_
  intro W base args ds gs before hval0 hW hcnd hsz0 _
  have hval : ∀ (j : Nat) t v, Try.f4.params[j]? = some t → args[j]? = some v → Value.okWide Try.prog W .any base t v := hval0
  have hW' := hW
  obtain ⟨p, q, hA0, hV, rfl, hfz, hnd⟩ := hW
  have hA : DataW.TrodAll enc Try.prog W 0 (fun _ => true) true Try.f4.params.toList args.toList ds p := hA0
  rw [Try.params4] at hA hval
  obtain ⟨v0, vs0, d0, ds0, p0, q0, hargs, rfl, rfl, h0, r0⟩ := trodAll_cons hA
  obtain ⟨v1, vs1, d1, ds1, p1, q1, rfl, rfl, rfl, h1, r1⟩ := trodAll_cons r0
  obtain ⟨rfl, rfl, rfl⟩ := trodAll_nil r1
  obtain rfl : args = #[v0, v1] := by cases args; simp_all
  obtain ⟨rfl, rfl⟩ := trodVars_none hV
  have k0 := h0
  have lt0 : ∀ x ∈ p0, x.block < W.heap.size := by obtain ⟨m, hm⟩ := k0; exact DataW.trod_lt m _ _ _ hm
  obtain ⟨z, Ak, n, ck, Aw, m, cw, off, kept, ws, rfl, hn, hm, _, _, hk, hw, _⟩ := disk_open (hval 0 25 v0 rfl rfl) h0
  have k1 := h1
  have lt1 : ∀ x ∈ p1, x.block < W.heap.size := by obtain ⟨m, hm⟩ := k1; exact DataW.trod_lt m _ _ _ hm
  obtain ⟨K, kn, kc, keep, rfl, hkeep⟩ := keep_open (hval 1 26 v1 rfl rfl) h1
  clear hA0 hval0 hsz0
  refine (keeps_any z Ak Aw n ck m cw off K kn kc kept ws keep W hn hm hk hw hkeep).mono fun e W' ⟨he, bel⟩ => ?_
  subst he
  exact ⟨_, rfl, _, _, _, [], _, [], hW', trodAll_mk1 (shut_bool Try.underlying4 _), (trodAll_cons_mk (Below.trod laidOut (by kernel_rfl) (of_decide_eq_true (by kernel_rfl)) k0 bel lt0) (trodAll_cons_mk (Below.trod laidOut (by kernel_rfl) (of_decide_eq_true (by kernel_rfl)) k1 bel lt1) trodAll_mk0)), rfl, bel.frame _, fun h => by cases h⟩

theorem proved : Rows.DiskKeepsSaid :=
  OpenClaim.holds_of_wide 4 Try.f4 rfl rfl rfl rfl rfl rfl rfl ⟨rfl, rfl, rfl, rfl, rfl⟩ rfl rfl rfl rfl rfl (by kernel_rfl) Try.func4 (by kernel_rfl)
    (of_decide_eq_true (by kernel_rfl)) (by unfold Func.isWrapper; first | (rw [if_pos (by decide +kernel)]; kernel_rfl) | (rw [if_neg (by decide +kernel)]; exact ⟨rfl, rfl⟩))
    (fun os started H enc _ => lifted os started H enc)
end Go.Proofs.Ytdilfdjhablnpaa.rowDiskKeeps

namespace Go.Proofs.Ytdilfdjhablnpaa
theorem diskKeeps_holds : Rows.DiskKeepsSaid := rowDiskKeeps.proved
#print axioms diskKeeps_holds
end Go.Proofs.Ytdilfdjhablnpaa
