/- WholeSwaps: what is told of the calls; lives answers. Conditions: none. -/
import Derived.Test.YtandggoanbdjkaaGreatDoorWSwC0
import Derived.Test.YtandggoanbdjkaaGreatDoorWSwC1
import Derived.Test.YtandggoanbdjkaaGreatDoorWSwC2
import Derived.Test.YtandggoanbdjkaaGreatDoorWSwC3
import Derived.Test.YtandggoanbdjkaaGreatDoorWSwC4
import Derived.Test.YtandggoanbdjkaaGreatDoorWSwC5
import Derived.Test.YtandggoanbdjkaaGreatDoorWSwC6
import Derived.Test.YtandggoanbdjkaaGreatDoorWAEP
namespace Sw
open Go Go.Proofs Go.RowKit AE

theorem ent [Base] (f : FuncId) {fn : Func} (hf : Tryz.prog.funcs[f]? = some fn) (hb : fn.body.isSome = true) (hn : (fn.name == "runtime.NumGoroutine") = false) : ∀ args w, (callFunc f args).run Tryz.prog w = .ok (.enter f args) w := by
  intro args w
  cases h : fn.body with
  | none => rw [h] at hb; cases hb
  | some c => exact callFunc_enter hf h hn args

theorem ran [Base] (f : FuncId) {fn : Func} (hf : Tryz.prog.funcs[f]? = some fn) (hb : fn.body.isSome = true) (hn : (fn.name == "runtime.NumGoroutine") = false) {c : Canon} (h : c.ran ((FE.both Tryz.prog X0 20000).call f) = true)
    (hT : ∀ w : World, (∀ b o, Base.kept b = some o → w.heap[b]? = some o) → Tryz.TZ w) : RunOk Tryz.prog f c.spec :=
  Canon.ok (RunOk.of_callN (X0_ok hT) Hn.progOk Hn.mixed 20000 (ent f hf hb hn)) h

noncomputable def X1 : AE.Spec :=
  addSpec 29 (altSpec cJita2.spec (altSpec cJita0.spec (altSpec cJita1.spec (altSpec cJita3.spec (cJita4.spec))))) (addSpec 28 (altSpec cJitx2.spec (altSpec cJitx0.spec (altSpec cJitx1.spec (altSpec cJitx3.spec (cJitx4.spec))))) (addSpec 27 (altSpec cInterp2.spec (altSpec cInterp0.spec (altSpec cInterp1.spec (altSpec cInterp3.spec (cInterp4.spec))))) (addSpec 26 (altSpec cFix2.spec (altSpec cFix0.spec (altSpec cFix1.spec (altSpec cFix3.spec (cFix4.spec))))) (addSpec 25 (altSpec cPrune2.spec (altSpec cPrune0.spec (altSpec cPrune1.spec (altSpec cPrune3.spec (cPrune4.spec))))) (addSpec 24 (altSpec cVerify2.spec (altSpec cVerify0.spec (altSpec cVerify1.spec (altSpec cVerify3.spec (cVerify4.spec))))) (X0))))))

theorem ran24 [Base] (hT : ∀ w : World, (∀ b o, Base.kept b = some o → w.heap[b]? = some o) → Tryz.TZ w) : RunOk Tryz.prog 24 (altSpec cVerify2.spec (altSpec cVerify0.spec (altSpec cVerify1.spec (altSpec cVerify3.spec (cVerify4.spec))))) :=
  RunOk.alt (ran 24 Tryz.func24 rfl (by kernel_rfl) cVerify2_ran hT) (RunOk.alt (ran 24 Tryz.func24 rfl (by kernel_rfl) cVerify0_ran hT) (RunOk.alt (ran 24 Tryz.func24 rfl (by kernel_rfl) cVerify1_ran hT) (RunOk.alt (ran 24 Tryz.func24 rfl (by kernel_rfl) cVerify3_ran hT) (ran 24 Tryz.func24 rfl (by kernel_rfl) cVerify4_ran hT))))
theorem ran25 [Base] (hT : ∀ w : World, (∀ b o, Base.kept b = some o → w.heap[b]? = some o) → Tryz.TZ w) : RunOk Tryz.prog 25 (altSpec cPrune2.spec (altSpec cPrune0.spec (altSpec cPrune1.spec (altSpec cPrune3.spec (cPrune4.spec))))) :=
  RunOk.alt (ran 25 Tryz.func25 rfl (by kernel_rfl) cPrune2_ran hT) (RunOk.alt (ran 25 Tryz.func25 rfl (by kernel_rfl) cPrune0_ran hT) (RunOk.alt (ran 25 Tryz.func25 rfl (by kernel_rfl) cPrune1_ran hT) (RunOk.alt (ran 25 Tryz.func25 rfl (by kernel_rfl) cPrune3_ran hT) (ran 25 Tryz.func25 rfl (by kernel_rfl) cPrune4_ran hT))))
theorem ran26 [Base] (hT : ∀ w : World, (∀ b o, Base.kept b = some o → w.heap[b]? = some o) → Tryz.TZ w) : RunOk Tryz.prog 26 (altSpec cFix2.spec (altSpec cFix0.spec (altSpec cFix1.spec (altSpec cFix3.spec (cFix4.spec))))) :=
  RunOk.alt (ran 26 Tryz.func26 rfl (by kernel_rfl) cFix2_ran hT) (RunOk.alt (ran 26 Tryz.func26 rfl (by kernel_rfl) cFix0_ran hT) (RunOk.alt (ran 26 Tryz.func26 rfl (by kernel_rfl) cFix1_ran hT) (RunOk.alt (ran 26 Tryz.func26 rfl (by kernel_rfl) cFix3_ran hT) (ran 26 Tryz.func26 rfl (by kernel_rfl) cFix4_ran hT))))
theorem ran27 [Base] (hT : ∀ w : World, (∀ b o, Base.kept b = some o → w.heap[b]? = some o) → Tryz.TZ w) : RunOk Tryz.prog 27 (altSpec cInterp2.spec (altSpec cInterp0.spec (altSpec cInterp1.spec (altSpec cInterp3.spec (cInterp4.spec))))) :=
  RunOk.alt (ran 27 Tryz.func27 rfl (by kernel_rfl) cInterp2_ran hT) (RunOk.alt (ran 27 Tryz.func27 rfl (by kernel_rfl) cInterp0_ran hT) (RunOk.alt (ran 27 Tryz.func27 rfl (by kernel_rfl) cInterp1_ran hT) (RunOk.alt (ran 27 Tryz.func27 rfl (by kernel_rfl) cInterp3_ran hT) (ran 27 Tryz.func27 rfl (by kernel_rfl) cInterp4_ran hT))))
theorem ran28 [Base] (hT : ∀ w : World, (∀ b o, Base.kept b = some o → w.heap[b]? = some o) → Tryz.TZ w) : RunOk Tryz.prog 28 (altSpec cJitx2.spec (altSpec cJitx0.spec (altSpec cJitx1.spec (altSpec cJitx3.spec (cJitx4.spec))))) :=
  RunOk.alt (ran 28 Tryz.func28 rfl (by kernel_rfl) cJitx2_ran hT) (RunOk.alt (ran 28 Tryz.func28 rfl (by kernel_rfl) cJitx0_ran hT) (RunOk.alt (ran 28 Tryz.func28 rfl (by kernel_rfl) cJitx1_ran hT) (RunOk.alt (ran 28 Tryz.func28 rfl (by kernel_rfl) cJitx3_ran hT) (ran 28 Tryz.func28 rfl (by kernel_rfl) cJitx4_ran hT))))
theorem ran29 [Base] (hT : ∀ w : World, (∀ b o, Base.kept b = some o → w.heap[b]? = some o) → Tryz.TZ w) : RunOk Tryz.prog 29 (altSpec cJita2.spec (altSpec cJita0.spec (altSpec cJita1.spec (altSpec cJita3.spec (cJita4.spec))))) :=
  RunOk.alt (ran 29 Tryz.func29 rfl (by kernel_rfl) cJita2_ran hT) (RunOk.alt (ran 29 Tryz.func29 rfl (by kernel_rfl) cJita0_ran hT) (RunOk.alt (ran 29 Tryz.func29 rfl (by kernel_rfl) cJita1_ran hT) (RunOk.alt (ran 29 Tryz.func29 rfl (by kernel_rfl) cJita3_ran hT) (ran 29 Tryz.func29 rfl (by kernel_rfl) cJita4_ran hT))))

theorem X1_ok [Base] (hT : ∀ w : World, (∀ b o, Base.kept b = some o → w.heap[b]? = some o) → Tryz.TZ w) : SpecOk Tryz.prog X1 :=
  (SpecOk.add (ran29 hT) (SpecOk.add (ran28 hT) (SpecOk.add (ran27 hT) (SpecOk.add (ran26 hT) (SpecOk.add (ran25 hT) (SpecOk.add (ran24 hT) (X0_ok hT)))))))

noncomputable def XL : AE.Spec := addSpec 9 (altSpec cRun0.spec (altSpec cRun1.spec (altSpec cRun2.spec cRun3.spec))) X1

theorem XL_ok [Base] (hT : ∀ w : World, (∀ b o, Base.kept b = some o → w.heap[b]? = some o) → Tryz.TZ w) : SpecOk Tryz.prog XL :=
  SpecOk.add (RunOk.alt (ran 9 Tryz.func9 rfl (by kernel_rfl) cRun0_ran hT) (RunOk.alt (ran 9 Tryz.func9 rfl (by kernel_rfl) cRun1_ran hT) (RunOk.alt (ran 9 Tryz.func9 rfl (by kernel_rfl) cRun2_ran hT) (ran 9 Tryz.func9 rfl (by kernel_rfl) cRun3_ran hT)))) (X1_ok hT)

noncomputable def X2 : AE.Spec := addSpec 18 (closedSpec (.bool true)) X1
end Sw
/- WholeSwaps: lives answers true. Conditions: none. -/
namespace Sw
open Go Go.Proofs Go.RowKit AE
theorem lives_answers : answers ((FE.both Tryz.prog XL 20000).call 18) (.bool true) = true := by kernel_rfl
theorem X2_ok [Base] (hT : ∀ w : World, (∀ b o, Base.kept b = some o → w.heap[b]? = some o) → Tryz.TZ w) : SpecOk Tryz.prog X2 :=
  SpecOk.add (ClosedCall.runOk (ClosedCall.of_answers (XL_ok hT) Hn.progOk Hn.mixed lives_answers (ent 18 Tryz.func18 rfl (by kernel_rfl))) (ent 18 Tryz.func18 rfl (by kernel_rfl))) (X1_ok hT)
end Sw
