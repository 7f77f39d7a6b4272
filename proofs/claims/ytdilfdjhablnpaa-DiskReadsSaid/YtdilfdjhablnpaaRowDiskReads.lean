/- Proved: for every input (a disk, two numbers, a text), tabularylaw10.DiskReads returns true (what was written is read; all other sectors are as they were). No condition. -/
import Derived.Test.YtdilfdjhablnpaaRows
import Derived.Test.YtdilfdjhablnpaaDiskReads
import Derived.Test.YtdilfdjhablnpaaDiskReads2
import Derived.Test.YtdilfdjhablnpaaDiskReads3
import Derived.Test.YtdilfdjhablnpaaOpenReads
import Derived.ProofKit
import Derived.OpenShut
import Derived.ShutString
import Derived.ChangeOld
import Derived.SizedLaws
namespace Go.Proofs.Ytdilfdjhablnpaa.rowDiskReads
open Go.ChangeShapes Go.WideShapes Go.ChangeAt Go.RowKit
open Go.ChangeMaps (open_string shut_string)
set_option linter.unusedVariables false
theorem own : ownKnob Try.prog.godebug = none := by kernel_rfl
theorem laidOut : laidOutB Try.prog = true := by kernel_rfl

theorem reads_any (z : Int) (Ak Aw : Option Addr) (n ck m cw : Nat) (off : Bool) (at_ : Int) (s : ByteArray) (other : Int) (kept : List ByteArray) (ws : List Wr) (w : World) (hn : n = kept.length) (hm : m = ws.length) (hcap : m ≤ cw) (hk : StrRow w Ak kept) (hw : WrRow w Aw ws) :
    Calls Try.prog 5 #[.agg #[.int .i64 z, .slice Ak n ck, .slice Aw m cw, .bool off, .int .i64 at_, .string s, .int .i64 other]] w fun e w' => e = .returned (.bool true) ∧ Below w.heap.size w w' := by
  by_cases h : 40 < n ∨ 40 < m
  · exact reads_big z Ak Aw n ck m cw off at_ s other w h
  · have hd : Hid (DiskIn w Ak Aw n m kept ws) := Lib.hid ⟨hn, hm, by omega, by omega, hk, hw⟩
    cases off with
    | true => exact reads_err z Ak Aw n ck m cw true at_ s other 14 kept ws w hd (by omega) (by omega) rfl (Lib.hid fun W => writeOff_calls z Ak Aw n ck m cw at_ s W)
    | false =>
      by_cases h1 : at_ < 0
      · exact reads_err z Ak Aw n ck m cw false at_ s other 5 kept ws w hd (by omega) (by omega) rfl (Lib.hid fun W => writeLow_calls z Ak Aw n ck m cw at_ s W h1)
      by_cases h2 : (n : Int) ≤ at_
      · exact reads_err z Ak Aw n ck m cw false at_ s other 5 kept ws w hd (by omega) (by omega) rfl (Lib.hid fun W => writeHigh_calls z Ak Aw n ck m cw at_ s W (by omega) h2)
      by_cases h3 : s.size = 0
      · exact reads_err z Ak Aw n ck m cw false at_ s other 1 kept ws w hd (by omega) (by omega) rfl (Lib.hid fun W => writeEmpty_calls z Ak Aw n ck m cw at_ s W (by omega) (by omega) h3)
      by_cases h4 : z < (s.size : Int)
      · exact reads_err z Ak Aw n ck m cw false at_ s other 1 kept ws w hd (by omega) (by omega) rfl (Lib.hid fun W => writeLong_calls z Ak Aw n ck m cw at_ s W (by omega) (by omega) (by omega) h4)
      by_cases hR : RightD z kept ws
      · by_cases h5 : other < 0 ∨ (n : Int) ≤ other
        · exact reads_away z Ak Aw n ck m cw at_ s other kept ws w hd (by omega) (by omega) hcap hR (by omega) (by omega) (by omega) (by omega) h5
        · exact reads_good z Ak Aw n ck m cw at_ s other kept ws w hd (by omega) (by omega) hcap hR (by omega) (by omega) (by omega) (by omega) (by omega) (by omega)
      · exact reads_wrong z Ak Aw n ck m cw at_ s other kept ws w hd (by omega) (by omega) hR

set_option maxRecDepth 100000 in
theorem lifted (os : Os) (started : os.Started) (H : Type) (enc : TypeId × Value → H) :
    ReturnsInHanded {} Try.checked os 5 .any (Rows.diskReadsSpec.pre6 enc Try.prog Try.f5 Rows.diskReadsRow.domain false) (Rows.diskReadsSpec.post enc Try.prog Try.f5 false true false false) := by
  refine returnsInHanded_of_change_sized (C := Try.checked) own started (by kernel_rfl) Try.func5
    (ChangeSpec.witness6 (enc := enc) (C := Try.checked) false ⟨#[], #[.agg #[.int .i64 0, .slice none 0 0, .slice none 0 0, .bool false, .int .i64 0, .string ByteArray.empty, .int .i64 0]], []⟩ 8 (by kernel_rfl) (by kernel_rfl) (by kernel_rfl) (by kernel_rfl)) ?_
  intro W base args ds gs before hval0 hW hcnd hsz0 _
  have hval : ∀ (j : Nat) t v, Try.f5.params[j]? = some t → args[j]? = some v → Value.okWide Try.prog W .any base t v := hval0
  have hW' := hW
  obtain ⟨p, q, hA0, hV, rfl, hfz, hnd⟩ := hW
  have hA : DataW.TrodAll enc Try.prog W 0 (fun _ => true) true Try.f5.params.toList args.toList ds p := hA0
  rw [Try.params5] at hA hval
  obtain ⟨v0, vs0, d0, ds0, p0, q0, hargs, rfl, rfl, h0, r0⟩ := trodAll_cons hA
  obtain ⟨rfl, rfl, rfl⟩ := trodAll_nil r0
  obtain rfl : args = #[v0] := by cases args; simp_all
  obtain ⟨rfl, rfl⟩ := trodVars_none hV
  have k0 := h0
  have lt0 : ∀ x ∈ p0, x.block < W.heap.size := by obtain ⟨m, hm⟩ := k0; exact DataW.trod_lt m _ _ _ hm
  obtain ⟨z, Ak, n, ck, Aw, m, cw, off, a1, a2, a3, kept, ws, rfl, hn, hm, _, hcap, hk, hw⟩ := reads_open (hval 0 41 v0 rfl rfl) h0
  clear hA0 hval0 hsz0
  refine (reads_any z Ak Aw n ck m cw off a1 a2 a3 kept ws W hn hm hcap hk hw).mono fun e W' ⟨he, bel⟩ => ?_
  subst he
  exact ⟨_, rfl, _, _, _, [], _, [], hW', trodAll_mk1 (shut_bool Try.underlying4 _), (trodAll_cons_mk (Below.trod laidOut (by kernel_rfl) (of_decide_eq_true (by kernel_rfl)) k0 bel lt0) trodAll_mk0), rfl, bel.frame _, fun h => by cases h⟩

theorem proved : Rows.DiskReadsSaid :=
  OpenClaim.holds_of_wide 5 Try.f5 rfl rfl rfl rfl rfl rfl rfl ⟨rfl, rfl, rfl, rfl, rfl⟩ rfl rfl rfl rfl rfl (by kernel_rfl) Try.func5 (by kernel_rfl)
    (of_decide_eq_true (by kernel_rfl)) (by unfold Func.isWrapper; first | (rw [if_pos (by decide +kernel)]; kernel_rfl) | (rw [if_neg (by decide +kernel)]; exact ⟨rfl, rfl⟩))
    (fun os started H enc _ => lifted os started H enc)
end Go.Proofs.Ytdilfdjhablnpaa.rowDiskReads

namespace Go.Proofs.Ytdilfdjhablnpaa
theorem diskReads_holds : Rows.DiskReadsSaid := rowDiskReads.proved
#print axioms diskReads_holds
end Go.Proofs.Ytdilfdjhablnpaa
