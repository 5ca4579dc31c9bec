/- WholeSwaps: the given card, from the law's call. Conditions: none. -/
import Derived.Test.YtandggoanbdjkaaGreatDoorWSwLoop
import Derived.Test.YtandggoanbdjkaaGreatDoorWSwClosed
import Derived.Test.YtandggoanbdjkaaGreatDoorCards
import Derived.Test.YtandggoanbdjkaaGreatDoorTie
import Derived.ProofKit
import Derived.OpenShut
import Derived.Carry
import Derived.JoinedCond
import Derived.ChangeSlices
import Derived.Deep.DeepHandedRow
import Derived.Lib.LaidTab
namespace Go.Proofs.YtandggoanbdjkaaGreatDoor.sw
open Go.ChangeShapes Go.WideShapes Go.ChangeAt Go.RowKit

/-- a law that turns nothing of what lay, whatever new blocks it lays -/
theorem post_of_below {H : Type} {enc : TypeId × Value → H} {P : Program} {f : Func} {s : ChangeSpec} {apart fresh handsOn again : Bool} {W W' : World} {args : Array Value} {v : Value} {ds gs : List (DataW H)} {before pa pv : List MemPlace}
    (hW : DataW.Whole enc P f.params.toList s.vars apart W args.toList ds gs before)
    (hres : ∀ (b : Nat) (sp : Nat → Bool) (hd : Bool), DataW.TrodAll enc P W' b sp hd f.resultTypes.toList (v.resultList f.resultTypes.size) (s.fn H (ds ++ gs)).results [])
    (hargs : ∀ sp : Nat → Bool, (∀ p ∈ before, sp p.block = true) → DataW.TrodAll enc P W' 0 sp true f.params.toList args.toList (s.fn H (ds ++ gs)).args pa)
    (hvars : ∀ sp : Nat → Bool, (∀ p ∈ before, sp p.block = true) → DataW.TrodVars enc P W' sp s.vars (s.fn H (ds ++ gs)).vars pv)
    (hps : before = pa ++ pv) (hB : Below W.heap.size W W')
    (hok : ∀ (j : Nat) (t : TypeId) (r : Value), f.resultTypes[j]? = some t → (v.resultList f.resultTypes.size)[j]? = some r → Value.okWide P W' .any 0 t r) :
    s.post enc P f apart fresh handsOn again W args v W' := by
  have hold : ∀ p ∈ before, (fun b => decide (b < W.heap.size)) p.block = true := fun p hp => by simpa using hW.lt p hp
  have hlt := hW.lt
  refine ⟨ds, gs, before, [], pa, pv, hW, hres _ _ _, hargs _ hold, hvars _ hold, World.keptBut_mono (fun p hp => ⟨hp, ?_⟩) (hB.frame (· ∈ before)), fun _ => ?_⟩
  · rw [hps, List.mem_append] at hp
    exact Or.inr hp
  · obtain ⟨_, _, _, _, _, hz, hn⟩ := hW
    refine ⟨hok, _, _, ([] ++ pa) ++ pv, ⟨[] ++ pa, pv, trodAll_append (hargs _ (fun _ _ => rfl)) (hres _ _ _), hvars _ (fun _ _ => rfl), rfl, ?_, ?_⟩, ?_⟩
    · intro b off hp
      have hp' : MemPlace.cell b off ∈ before := by rw [hps]; simpa using hp
      rw [hB.frozen (p := ⟨b, off, none⟩) (by simpa [MemPlace.block] using hlt _ hp')]
      exact hz b off hp'
    · intro ha
      have := hn ha
      rw [hps] at this
      simpa using this
    · intro p hp _
      rw [hps]
      simpa using hp

theorem own : ownKnob Tryz.prog.godebug = none := by kernel_rfl
theorem laidOut : laidOutB Tryz.prog = true := by kernel_rfl
theorem reads59 : Tryz.prog.readableRec 59 = true := by kernel_rfl
theorem reads3 : Tryz.prog.readableRec 3 = true := by kernel_rfl
theorem row59 : 59 < Tryz.prog.types.size := of_decide_eq_true (by kernel_rfl)
theorem row3 : 3 < Tryz.prog.types.size := of_decide_eq_true (by kernel_rfl)
theorem cells3 : Tryz.prog.cellsOf 3 = 1 := by kernel_rfl
theorem gTab : Tryz.prog.globalNamed "math/bits.deBruijn64tab" = some 2 := by kernel_rfl
theorem gTabType : (Tryz.prog.globals[2]?).map (·.type) = some 476 := by kernel_rfl
theorem cells476 : Tryz.prog.cellsOf 476 = 64 := by kernel_rfl
theorem cells5 : Tryz.prog.cellsOf 5 = 1 := by kernel_rfl

def tab64 : List Int := AE.tzTab.map Int.ofNat

theorem table {W : World} (h : laidMetH Tryz.prog Rows.wholeSwapsRow.laid W) : Lib.TabIs Tryz.prog W "math/bits.deBruijn64tab" .u8 tab64 := by
  have h : laidMet Tryz.prog [("math/bits.deBruijn32tab", Rows.laid_math_bits_deBruijn32tab), ("math/bits.deBruijn64tab", Lib.tabData .u8 tab64)] W := h
  obtain ⟨ps, ⟨_, _, _, _, _, q, _, _, _, _, hrest, _⟩, _⟩ := h
  obtain ⟨g', t', cs, fuel, p, q, hg', ht', hvar, hd, _, _⟩ := hrest
  obtain rfl := Option.some.inj (gTab.symm.trans hg')
  obtain rfl := Option.some.inj (gTabType.symm.trans ht')
  unfold Lib.TabIs
  rw [hvar, ← Lib.cells_of_tab Tryz.underlying476 Tryz.underlying5 cells5 cells476 hd]

theorem tz {W : World} (h : laidMetH Tryz.prog Rows.wholeSwapsRow.laid W) : Tryz.TZ W := by
  intro k hk
  have := (table h).cell gTab k (by simpa [tab64, AE.tzTab] using hk)
  rw [this]
  have e : ∀ k, k < 64 → tab64.getD k 0 = ((AE.tzTab.getD k 0 : Nat) : Int) := by decide
  rw [e k hk]

set_option maxHeartbeats 100000000 in
set_option maxRecDepth 100000 in
theorem contract (H : Type) (enc : TypeId × Value → H) (W : World) (base : Nat) (args : Array Value) (ds gs : List (DataW H)) (before : List MemPlace)
    (hval : ∀ (j : Nat) t v, Tryz.f4.params[j]? = some t → args[j]? = some v → Value.okWide Tryz.prog W .any base t v)
    (hW : DataW.Whole enc Tryz.prog Tryz.f4.params.toList Rows.wholeSwapsSpec.vars false W args.toList ds gs before) (hL : laidMetH Tryz.prog Rows.wholeSwapsRow.laid W) :
    Calls Tryz.prog 4 args W fun e W' => ∃ v, e = .returned v ∧ Rows.wholeSwapsSpec.post enc Tryz.prog Tryz.f4 false true false false W args v W' := by
  have hW' := hW
  have hlt := hW.lt
  obtain ⟨p, q, hA0, hV, rfl, hfz, hnd⟩ := hW
  have hA : DataW.TrodAll enc Tryz.prog W 0 (fun _ => true) true Tryz.f4.params.toList args.toList ds p := hA0
  rw [Tryz.params4] at hA hval
  obtain ⟨v0, vs0, d0, ds0, p0, q0, hargs, rfl, rfl, h0, r0⟩ := trodAll_cons hA
  obtain ⟨v1, vs1, d1, ds1, p1, q1, rfl, rfl, rfl, h1, r1⟩ := trodAll_cons r0
  obtain ⟨rfl, rfl, rfl⟩ := trodAll_nil r1
  obtain rfl : args = #[v0, v1] := by cases args; simp_all
  obtain ⟨rfl, rfl⟩ := trodVars_none hV
  obtain ⟨m, rfl, hd1, hp1, w1⟩ := open_int Tryz.underlying3 (hval 1 3 v1 rfl rfl) h1
  have hv0 := hval 0 59 v0 rfl rfl
  obtain ⟨a, len, cap, rfl⟩ := Go.WideShapes.okWide_slice Tryz.underlying59 hv0
  obtain ⟨fuel, hfuel⟩ := h0
  have h0 : DataW.Trod enc Tryz.prog W 0 (fun _ => true) true 59 (.slice a len cap) d0 p0 := ⟨fuel, hfuel⟩
  have hcs : (Value.slice a len cap).cells.toList = [.slice a len cap] := by simp [Value.cells]
  rw [hcs] at hfuel
  have hopen := Go.ChangeShapes.open_ints Tryz.underlying59 Tryz.underlying3 cells3 hfuel
  have hpre : len ≤ cap ∧ ((a = none ∧ cap = 0) ∨ ∃ ad : Addr, a = some ad ∧ (len = 0 ∨ ∃ zs : List Int, zs.length = cap ∧ ∀ i, i < zs.length → W.cell? (ad.add i) = some (.int .i64 (zs.getD i 0)))) := by
    rcases hopen with ⟨h, _⟩ | ⟨ad, len', cap', zs, h, _, hle, _, hzl, _, hcell, _⟩
    · simp only [List.cons.injEq, Value.slice.injEq, and_true] at h
      obtain ⟨rfl, rfl, rfl⟩ := h
      exact ⟨Nat.le_refl _, .inl ⟨rfl, rfl⟩⟩
    · simp only [List.cons.injEq, Value.slice.injEq, and_true] at h
      obtain ⟨rfl, rfl, rfl⟩ := h
      exact ⟨hle, .inr ⟨ad, rfl, .inr ⟨zs, by simpa using hzl, hcell⟩⟩⟩
  simp only [List.append_nil] at hW' hlt
  refine (Sw.law_calls W (tz hL) m a len cap hpre.1 hpre.2).mono fun e W' ⟨he, hB⟩ => ?_
  subst he
  exact ⟨_, rfl, post_of_below (pa := p0 ++ (p1 ++ [])) (pv := []) hW' (fun _ _ _ => trodAll_cons_mk (shut_bool Tryz.underlying4 _) trodAll_mk0)
    (fun sp hsp => by
      have j0 : DataW.Trod enc Tryz.prog W' 0 sp true 59 (.slice a len cap) d0 p0 := WideElems.Trod_stays laidOut reads59 row59 h0 (fun x hx => hB.same (hlt x (by simp [hx]))) (fun x hx => hsp x (by simp [hx]))
      have j1 : DataW.Trod enc Tryz.prog W' 0 sp true 3 (.int .i64 m) d1 p1 := WideElems.Trod_stays laidOut reads3 row3 h1 (fun x hx => hB.same (hlt x (by simp [hx]))) (fun x hx => hsp x (by simp [hx]))
      exact ⟨p0, p1 ++ [], j0, ⟨p1, [], j1, rfl, rfl⟩, rfl⟩) (fun _ _ => rfl) (by simp)
    hB (ok_one (by kernel_rfl) rfl (okWide_bool_mk Tryz.underlying4 _))⟩

/-! ### the witness -/

def zeroOp : Value := .slice none 0 0
def tab32 : List Nat := [0, 1, 28, 2, 29, 14, 24, 3, 30, 22, 20, 15, 25, 17, 4, 8, 31, 27, 13, 23, 21, 19, 16, 7, 26, 12, 18, 6, 11, 5, 10, 9]
def lay (l : List Nat) : Obj → Obj
  | .cells _ t frozen => .cells (l.map fun n => Value.int .u8 (Int.ofNat n)).toArray t frozen
  | o => o
noncomputable def laidWorld (os : Os) : World :=
  { World.holding Tryz.prog os ⟨#[], #[], []⟩ with heap := ((World.holding Tryz.prog os ⟨#[], #[], []⟩).heap.modify 1 (lay tab32)).modify 2 (lay AE.tzTab) }
theorem laid_met (os : Os) : laidMet Tryz.prog Rows.wholeSwapsRow.laid ((laidWorld os).forCall (fun _ _ => 0) ⟨#[], #[zeroOp, .int .i64 0], []⟩).memory :=
  laidMet_of_run' 8 (by kernel_rfl) (by kernel_rfl)
theorem reads (os : Os) {H : Type} (enc : TypeId × Value → H) : ∃ places, DataW.whole enc Tryz.prog ((laidWorld os).forCall (fun _ _ => 0) ⟨#[], #[zeroOp, .int .i64 0], []⟩).memory Tryz.f4.params.toList Rows.wholeSwapsSpec.vars false #[zeroOp, .int .i64 0].toList 8 =
    some ([.nil, .lit (.int .i64 0)], [], places) :=
  ⟨[], by kernel_rfl⟩

set_option maxHeartbeats 100000000 in
set_option maxRecDepth 100000 in
theorem lifted (os : Os) (started : os.Started) (H : Type) (enc : TypeId × Value → H) (F : Stop.Interp) :
    ReturnsInHanded {} Tryz.checked os 4 .any ((OpenSpec.ofChange Rows.wholeSwapsSpec).preRow enc Tryz.prog Tryz.f4 Rows.wholeSwapsRow.domain false Rows.wholeSwapsRow.laid) (((OpenSpec.ofChange Rows.wholeSwapsSpec).at F).post enc Tryz.prog Tryz.f4 false true false false) := by
  obtain ⟨places, hx⟩ := reads os enc
  refine returnsInHanded_of_row (C := Tryz.checked) (s := OpenSpec.ofChange Rows.wholeSwapsSpec) own started (by kernel_rfl) Tryz.func4
    (witness_row_at (enc := enc) (C := Tryz.checked) false (laidWorld os) #[zeroOp, .int .i64 0] rfl (by kernel_rfl) (by kernel_rfl) (by kernel_rfl)
      (OpenSpec.preRow_of_cond 8 hx (by kernel_rfl) (fun k hk => by cases hk) (by kernel_rfl) (laid_met os))) ?_
  intro W base args ds gs before hval hW _ _ _ hL _ _
  exact contract H enc W base args ds gs before hval hW hL

set_option maxHeartbeats 100000000 in
theorem said : Rows.WholeSwapsSaid :=
  OpenClaim.holds_of_cond 4 Tryz.f4 rfl rfl rfl rfl rfl rfl rfl ⟨rfl, rfl, rfl, rfl, rfl⟩ rfl rfl rfl rfl rfl (by as_aux_lemma => kernel_rfl) Tryz.func4 closed
    (of_decide_eq_true (by as_aux_lemma => kernel_rfl)) (by unfold Func.isWrapper; first | (rw [if_pos (by decide +kernel)]; kernel_rfl) | (rw [if_neg (by decide +kernel)]; exact ⟨rfl, rfl⟩))
    (fun os started H enc _ F => by rw [OpenClaim.pre_eq_preRow]; exact lifted os started H enc F)
end Go.Proofs.YtandggoanbdjkaaGreatDoor.sw
