/- The program is one that the abstract evaluator takes. Conditions: none. -/
import Derived.Test.YtandggoanbdjkaaGreatDoorProg
import Derived.Test.YtandggoanbdjkaaGreatDoorWAEC
namespace Hn
open Go Go.Proofs AE

/-- what is asked of each function -/
def fnOk (P : Program) (fn : Func) : Bool :=
  !(fn.name == "runtime.NumGoroutine") && (match fn.body with | some c => Draws (drawOk P) c | none => fn.origin == "")
def allOk (P : Program) : Bool := P.funcs.toList.all (fnOk P)

theorem ok_of {P : Program} (h : allOk P = true) : ProgOk P (drawOk P) := by
  unfold allOk at h
  rw [List.all_eq_true] at h
  have key : ∀ (f : FuncId) (fn : Func), P.funcs[f]? = some fn → fnOk P fn = true := fun f fn hf =>
    h fn (by rw [Array.mem_toList_iff]; exact Array.mem_of_getElem? hf)
  refine ⟨fun f fn hf => ?_, fun f fn c hf hb => ?_, fun f fn hf hb => ?_⟩
  · have := key f fn hf
    simp only [fnOk, Bool.and_eq_true, Bool.not_eq_true'] at this
    exact this.1
  · have := key f fn hf
    simp only [fnOk, Bool.and_eq_true, hb] at this
    exact this.2
  · have := key f fn hf
    simp only [fnOk, Bool.and_eq_true, hb] at this
    simpa using this.2

theorem all_parts {α : Type} (p : α → Bool) (l : List α) (k : Nat) (h1 : (l.take k).all p = true) (h2 : (l.drop k).all p = true) : l.all p = true := by
  rw [← List.take_append_drop k l, List.all_append, h1, h2]; rfl

theorem ok1 : ((Tryz.prog.funcs.toList.take 100).all (fnOk Tryz.prog)) = true := by kernel_rfl
theorem ok2 : (((Tryz.prog.funcs.toList.drop 100).take 100).all (fnOk Tryz.prog)) = true := by kernel_rfl
theorem ok3 : ((((Tryz.prog.funcs.toList.drop 100).drop 100).take 100).all (fnOk Tryz.prog)) = true := by kernel_rfl
theorem ok4 : ((((Tryz.prog.funcs.toList.drop 100).drop 100).drop 100).all (fnOk Tryz.prog)) = true := by kernel_rfl
theorem mixed : Tryz.prog.follows .mixedOrders = true := by kernel_rfl
theorem progOk : ProgOk Tryz.prog (drawOk Tryz.prog) := ok_of (all_parts _ _ 100 ok1 (all_parts _ _ 100 ok2 (all_parts _ _ 100 ok3 ok4)))
end Hn
