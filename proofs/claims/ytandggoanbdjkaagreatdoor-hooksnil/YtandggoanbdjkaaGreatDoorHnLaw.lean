/- HooksNil: the law, in three pieces. Conditions: none. -/
import Derived.Test.YtandggoanbdjkaaGreatDoorHnC2
import Derived.Test.YtandggoanbdjkaaGreatDoorAEP
namespace Hn
open Go Go.Proofs Go.RowKit AE

theorem ent [Base] (f : FuncId) {fn : Func} (hf : Tryz.prog.funcs[f]? = some fn) (hb : fn.body.isSome = true) (hn : (fn.name == "runtime.NumGoroutine") = false) : ∀ args w, (callFunc f args).run Tryz.prog w = .ok (.enter f args) w := by
  intro args w
  cases h : fn.body with
  | none => rw [h] at hb; cases hb
  | some c => exact callFunc_enter hf h hn args

noncomputable def X1 : AE.Spec :=
  addSpec 29 cJita1.spec (addSpec 28 cJitx1.spec (addSpec 27 cInterp1.spec (addSpec 26 (altSpec cFix1.spec cFix2.spec) (addSpec 25 cPrune1.spec (addSpec 24 (altSpec cVerify1.spec cVerify2.spec) X0)))))

section
variable [Base] (hT : ∀ w : World, (∀ b o, Base.kept b = some o → w.heap[b]? = some o) → Tryz.TZ w)
theorem ran (f : FuncId) {fn : Func} (hf : Tryz.prog.funcs[f]? = some fn) (hb : fn.body.isSome = true) (hn : (fn.name == "runtime.NumGoroutine") = false) {c : Canon} (h : c.ran ((FE.both Tryz.prog X0 20000).call f) = true)
    (hT : ∀ w : World, (∀ b o, Base.kept b = some o → w.heap[b]? = some o) → Tryz.TZ w) : RunOk Tryz.prog f c.spec :=
  Canon.ok (RunOk.of_callN (X0_ok hT) progOk mixed 20000 (ent f hf hb hn)) h

theorem X1_ok (hT : ∀ w : World, (∀ b o, Base.kept b = some o → w.heap[b]? = some o) → Tryz.TZ w) : SpecOk Tryz.prog X1 :=
  SpecOk.add (ran 29 Tryz.func29 rfl (by kernel_rfl) cJita1_ran hT) <|
  SpecOk.add (ran 28 Tryz.func28 rfl (by kernel_rfl) cJitx1_ran hT) <|
  SpecOk.add (ran 27 Tryz.func27 rfl (by kernel_rfl) cInterp1_ran hT) <|
  SpecOk.add (RunOk.alt (ran 26 Tryz.func26 rfl (by kernel_rfl) cFix1_ran hT) (ran 26 Tryz.func26 rfl (by kernel_rfl) cFix2_ran hT)) <|
  SpecOk.add (ran 25 Tryz.func25 rfl (by kernel_rfl) cPrune1_ran hT) <|
  SpecOk.add (RunOk.alt (ran 24 Tryz.func24 rfl (by kernel_rfl) cVerify1_ran hT) (ran 24 Tryz.func24 rfl (by kernel_rfl) cVerify2_ran hT)) <|
  X0_ok hT
end

theorem first_answers : answers ((FE.both Tryz.prog X1 20000).call 5) (.bool true) = true := by kernel_rfl

noncomputable def X2 : AE.Spec := addSpec 5 (closedSpec (.bool true)) X1

theorem X2_ok [Base] (hT : ∀ w : World, (∀ b o, Base.kept b = some o → w.heap[b]? = some o) → Tryz.TZ w) : SpecOk Tryz.prog X2 :=
  SpecOk.add (ClosedCall.runOk (ClosedCall.of_answers (X1_ok hT) progOk mixed first_answers (ent 5 Tryz.func5 rfl (by kernel_rfl))) (ent 5 Tryz.func5 rfl (by kernel_rfl))) (X1_ok hT)

noncomputable def body : Code := match Tryz.f3.body with | some c => c | none => .skip
noncomputable def rows : List Code := AE.flat body
noncomputable def lA : List Code := rows.take 16
noncomputable def lC : List Code := rows.drop 17
noncomputable def r20 : Array Oper := match rows[16]? with | some (Code.region _ ops _) => ops | _ => #[]
theorem rows_eq : rows = lA ++ ([Code.region 20 r20 false] ++ lC) := by kernel_rfl
theorem draws_A : lA.all (Draws (drawOk Tryz.prog)) = true := by kernel_rfl
theorem draws_B : Draws (drawOk Tryz.prog) (Code.region 20 r20 false) = true := by kernel_rfl
theorem draws_C : lC.all (Draws (drawOk Tryz.prog)) = true := by kernel_rfl

def hostO : List (Nat × Lay) := [(33, .cells 80 false [.ptr (some (31, 0)), .ptr (some (32, 0)), .slice none 0 0 true, .slice none 0 0 true, .int .i64 0, .int .i64 0]),
    (31, .cells 230 false [.slice none 0 0 true, .int .i64 0]),
    (32, .cells 219 false [.ptr (some (31, 0)), .slice none 0 0 true])]
def dA : AE.Told := { T := [(22, .ptr (some (33, 0)))], n := 156, O := hostO, next := 34 }
def dB : AE.Told := { T := [(22, .ptr (some (33, 0))), (23, .int .i64 20)], n := 156, O := hostO, next := 34 }
def dC : AE.Told := { T := [(4, .bool true)], n := 156, O := [], next := 0 }

noncomputable def sA (y : AV) : St := { T := startT [.agg [.top, .top, .top, .top, .top, .top, .top, .top, .top, .top, .top, .top], y] 0 .leaf, n := 156, ds := [], H := ⟨.leaf, 0⟩ }

theorem A_runs (y : AV) : runsToX Tryz.prog X2 20000 lA (sA y) .normal dA 1 = some y := by kernel_rfl
theorem C_runs : runsToL Tryz.prog X2 20000 lC dB.st .ret dC = true := by kernel_rfl
end Hn
