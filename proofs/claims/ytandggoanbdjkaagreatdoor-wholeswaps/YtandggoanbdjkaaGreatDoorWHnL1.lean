/- slices.AppendSeq over slices.Values, maps.Clone, bits.TrailingZeros64: what the calls do. Conditions: none. -/
import Derived.Test.YtandggoanbdjkaaGreatDoorProg
import Derived.RangeFuncBox
import Derived.RangeFuncLeaves
import Derived.Shelf.Abstract
import Derived.WalkKit
import Derived.OwnWalkIn
import Derived.TacticsInMore
import Derived.LoopNIn
import Derived.LoopIn
import Derived.Maps.AppendAt
import Derived.Shelf.SlMaps.Clone
import Derived.Test.YtandggoanbdjkaaGreatDoorWAES
import Derived.Test.YtandggoanbdjkaaGreatDoorWAEC
namespace Go.Proofs
open Go.RowKit Go.Shelf

attribute [local go_sem] Oper.semAt_some

def Tryz.upto {α : Type} (f : Nat → α) (k : Nat) : List α := (List.range k).map f
theorem Tryz.upto_succ {α : Type} (f : Nat → α) (k : Nat) : Tryz.upto f (k + 1) = Tryz.upto f k ++ [f k] := by simp [Tryz.upto, List.range_succ]
theorem Tryz.upto_length {α : Type} (f : Nat → α) (k : Nat) : (Tryz.upto f k).length = k := by simp [Tryz.upto]
theorem Tryz.upto_all (zs : List Int) : Tryz.upto (fun j => zs[j]?.getD 0) zs.length = zs := by
  apply List.ext_getElem
  · simp [Tryz.upto]
  · intro i h1 h2
    simp [Tryz.upto, h2]

set_option maxRecDepth 100000 in
set_option maxHeartbeats 2000000 in
theorem Tryz.values1_in (F : Fence) (n : Nat) (h7 : F.fn 215) (hro : F.round = none) (hn : 1 ≤ n) (l Bs n₀ b off len cap : Nat) (zs : List Int) (hreach : len * 8 ≤ 140737488351232) (hb : b < n₀) (J Jx : List Int → World → Prop)
    (hY : ∀ pre x W, J pre W → pre.length < len → YieldAt F (n - 1) Tryz.prog l #[.int .i64 x] W fun e W' =>
      (e = .returned (.bool true) ∧ J (pre ++ [x]) W' ∧ Below n₀ W W') ∨ (e = .returned (.bool false) ∧ Jx (pre ++ [x]) W'))
    (W : World) (hBs : W.cell? ⟨Bs, 0, none⟩ = some (.slice (some ⟨b, off, none⟩) len cap)) (hc : ∀ j, j < len → W.cell? ⟨b, off + j, none⟩ = some (.int .i64 (zs[j]?.getD 0))) (h0 : J [] W) :
    CallsIn F n Tryz.prog 215 #[.func (.yield l) #[] #[], .pointer (some ⟨Bs, 0, none⟩)] W fun e W' => (∃ v, e = .returned v) ∧
      ((∃ ys, ys = Tryz.upto (fun j => zs[j]?.getD 0) len ∧ J ys W') ∨ (∃ pre, (∃ k, k ≤ len ∧ pre = Tryz.upto (fun j => zs[j]?.getD 0) k) ∧ Jx pre W')) := by
  refine callsIn_of_wp Tryz.func215 rfl h7 ?_ hro
  simp only [Tryz.ntmps215, List.size_toArray, List.length_cons, List.length_nil, Nat.reduceAdd, Nat.reduceSub, Array.replicate_succ, Array.replicate_zero, List.push_toArray, List.append_toArray, List.nil_append, List.cons_append]
  gi_wp2
  gi_loopw [7] (fun i wr => ∃ k : Nat, k ≤ len ∧ i = .int .i64 k ∧ J (Tryz.upto (fun j => zs[j]?.getD 0) k) wr ∧ Below n₀ W wr)
    (fun i _ => len - (intOf i).toNat)
  case atStart => exact ⟨0, Nat.zero_le _, rfl, h0, Below.refl _ _⟩
  case round =>
    obtain ⟨k, hk, rfl, hJs, hnx⟩ := hrel
    have hcx : k < len → wr.cell? ⟨b, off + k, none⟩ = some (.int .i64 (zs[k]?.getD 0)) := fun h => (hnx.cell (p := ⟨b, off + k, none⟩) hb).trans (hc k h)
    by_cases hlt : k < len
    · obtain ⟨fn, tmps, assign, body, hy, hR⟩ := hY _ (zs[k]?.getD 0) wr hJs (by rw [Tryz.upto_length]; exact hlt)
      have hcx' := hcx hlt
      gi_wp2
      refine hR.mono ?_
      rintro e W3 (⟨rfl, hJ3, hk3⟩ | ⟨rfl, hJx3⟩)
      · gi_wp2
        go_roundw
        case rel => exact ⟨k + 1, by omega, by simp, by rw [Tryz.upto_succ]; exact hJ3, hnx.trans hk3⟩
        case measure => simp [intOf]; omega
      · gi_wp2
        refine bodyPost_ret (results_none rfl _ _ _) rfl ?_
        exact ⟨⟨_, rfl⟩, .inr ⟨_, ⟨k + 1, by omega, (Tryz.upto_succ _ _).symm⟩, hJx3⟩⟩
    · obtain rfl : k = len := by omega
      gi_wp2
      go_end0
      exact ⟨⟨_, rfl⟩, .inl ⟨_, rfl, hJs⟩⟩

theorem Tryz.upto_take (zs : List Int) {k : Nat} (hk : k ≤ zs.length) : Tryz.upto (fun j => zs[j]?.getD 0) k = zs.take k := by
  apply List.ext_getElem
  · simp [Tryz.upto, hk]
  · intro i h1 h2
    have : i < zs.length := by simp [Tryz.upto] at h1; omega
    simp [Tryz.upto, this]

def Tryz.Ints (n₀ : Nat) (W : World) (sv : Value) (zs : List Int) : Prop :=
  (sv = .slice none 0 0 ∧ zs = []) ∨ ∃ b off cap, sv = .slice (some ⟨b, off, none⟩) zs.length cap ∧ b < n₀ ∧ ∀ j, j < zs.length → W.cell? ⟨b, off + j, none⟩ = some (.int .i64 (zs[j]?.getD 0))
theorem Tryz.Ints.below {n₀ : Nat} {A B : World} (h : Below n₀ A B) {sv : Value} {zs : List Int} : Tryz.Ints n₀ A sv zs → Tryz.Ints n₀ B sv zs
  | .inl e => .inl e
  | .inr ⟨b, off, cap, e, hb, hc⟩ => .inr ⟨b, off, cap, e, hb, fun j hj => (h.cell (p := ⟨b, off + j, none⟩) hb).trans (hc j hj)⟩

set_option maxRecDepth 100000 in
set_option maxHeartbeats 1000000 in
theorem Tryz.values1_nil_in (F : Fence) (n : Nat) (h7 : F.fn 215) (hro : F.round = none) (l Bs : Nat) (J : List Int → World → Prop) (W : World) (hBs : W.cell? ⟨Bs, 0, none⟩ = some (.slice none 0 0)) (h0 : J [] W) :
    CallsIn F n Tryz.prog 215 #[.func (.yield l) #[] #[], .pointer (some ⟨Bs, 0, none⟩)] W fun e W' => (∃ v, e = .returned v) ∧ J [] W' := by
  refine callsIn_of_wp Tryz.func215 rfl h7 ?_ hro
  simp only [Tryz.ntmps215, List.size_toArray, List.length_cons, List.length_nil, Nat.reduceAdd, Nat.reduceSub, Array.replicate_succ, Array.replicate_zero, List.push_toArray, List.append_toArray, List.nil_append, List.cons_append]
  gi_wp2
  gi_loopw [7] (fun i wr => i = .int .i64 0 ∧ J [] wr) (fun _ _ => 0)
  case atStart => exact ⟨rfl, h0⟩
  case round =>
    obtain ⟨rfl, hJs⟩ := hrel
    gi_wp2
    go_end0
    exact ⟨⟨_, rfl⟩, hJs⟩

theorem Tryz.values_stops (F : Fence) (n : Nat) (h7 : F.fn 215) (hro : F.round = none) (hn : 1 ≤ n) (Bs n₀ : Nat) (sv : Value) (zs : List Int) (hreach : zs.length * 8 ≤ 140737488351232) (w : World) (hBs : Bs < w.heap.size) (hn₀ : n₀ ≤ w.heap.size)
    (hc : w.cell? ⟨Bs, 0, none⟩ = some sv) (hI : Tryz.Ints n₀ w sv zs) :
    SeqStopsK F n Tryz.prog 215 #[.pointer (some ⟨Bs, 0, none⟩)] (fun x : Int => #[Value.int .i64 x]) (Below n₀) (fun ys => ys = zs) (fun pre => pre <+: zs) zs.length w := fun l J Jx W hW _ _ hY h0 => by
  have hc' := (hW.cell (p := ⟨Bs, 0, none⟩) hBs).trans hc
  rcases hI.below (hW.mono hn₀) with ⟨rfl, rfl⟩ | ⟨b, off, cap, rfl, hb, hcs⟩
  · exact (Tryz.values1_nil_in F n h7 hro l Bs J W hc' h0).mono fun e W' ⟨he, hj⟩ => ⟨he, .inl ⟨_, rfl, hj⟩⟩
  · refine (Tryz.values1_in F n h7 hro hn l Bs n₀ b off zs.length cap zs hreach hb J Jx hY W hc' hcs h0).mono ?_
    rintro e W' ⟨he, ⟨ys, rfl, hj⟩ | ⟨pre, ⟨k, hk, rfl⟩, hj⟩⟩
    · exact ⟨he, .inl ⟨_, Tryz.upto_all zs, hj⟩⟩
    · exact ⟨he, .inr ⟨_, by rw [Tryz.upto_take zs hk]; exact List.take_prefix _ _, hj⟩⟩

theorem Tryz.infoInt : (Tryz.prog.info? 3).map (fun i => (i.zero, i.size, i.bytes)) = some (some (.int .i64 0), 1, 8) := by kernel_rfl

set_option maxRecDepth 100000 in
set_option maxHeartbeats 2000000 in
theorem Tryz.appendSeq_in (F : Fence) (n : Nat) (h269 : F.fn 269) (h215 : F.fn 215) (hro : F.round = none) (hn : 3 ≤ n) (Bs : Nat) (sv : Value) (zs : List Int) (hlen : zs.length ≤ 1048576) (w : World) (hBs : Bs < w.heap.size)
    (hc : w.cell? ⟨Bs, 0, none⟩ = some sv) (hI : Tryz.Ints w.heap.size w sv zs) :
    CallsIn F n Tryz.prog 269 #[.slice none 0 0, .func (.func 215) #[] #[.pointer (some ⟨Bs, 0, none⟩)]] w fun e W' =>
      ∃ v, e = .returned v ∧ W'.ownsRow w.heap.size 3 1 v zs.length (zs.map (Value.int .i64)) ∧ (v = .slice none 0 0 ↔ zs = []) ∧ Below w.heap.size w W' := by
  have h1 : 1 ≤ n := by omega
  have hmx : 1048576 ≤ maxLen := by decide
  obtain ⟨i0, hi, hz0, hz1, hz2⟩ := info_parts Tryz.infoInt
  refine callsIn_of_wp_marks Tryz.func269 rfl h269 ?_ hro
  simp only [Tryz.ntmps269, List.size_toArray, List.length_cons, List.length_nil, Nat.reduceAdd, Nat.reduceSub, Array.replicate_succ, Array.replicate_zero, List.push_toArray, List.append_toArray, List.nil_append, List.cons_append]
  gi_wp2
  have bO := Boxed.new w 59 (.slice none 0 0)
  have hB0 : Below w.heap.size w (w.alloc (.cells #[.slice none 0 0] 59)) := (Below.refl _ w).alloc (Nat.le_refl _) _
  refine wpIn_rangeFunc_ownG hro h1 (gf := 215) (lb := #[.pointer (some ⟨Bs, 0, none⟩)]) rfl h215 (enters_of Tryz.func215 (by kernel_rfl) rfl)
    (Tryz.values_stops F (n - 1) h215 hro (by omega) Bs w.heap.size sv zs (by omega) _ (by simp; omega) (by simp) ((hB0.cell (p := ⟨Bs, 0, none⟩) hBs).trans hc) (hI.below hB0)) belowK_t (belowK_b (by simp)) (Below.refl _ _) (fun _ => rfl)
    (fun pre W => (∃ v, Boxed W w.heap.size 59 v ∧ W.ownsRow w.heap.size 3 1 v pre.length (pre.map (Value.int .i64)) ∧ (v = .slice none 0 0 ↔ pre = [])) ∧ Below w.heap.size w W)
    (fun _ _ _ => False)
    (OwnFrom.and (Own.from (holdsRow_own w.heap.size w.heap.size 59 3 1 (fun pre => pre.length) (fun pre => pre.map (Value.int .i64)) (fun pre v => v = .slice none 0 0 ↔ pre = [])) _) (ownFrom_below (Nat.le_refl _) (by simp)))
    (fun _ _ _ _ _ hs _ _ => hs)
    ⟨⟨_, bO, World.ownsRow_nil _ _ _ _, by simp⟩, hB0⟩
    (fun x => { tmps := #[.slice none 0 0, .func (.func 215) #[] #[.pointer (some ⟨Bs, 0, none⟩)], .pointer (some ⟨w.heap.size, 0, none⟩), undef, .slice none 0 0, .int .i64 x, .func (.func 215) #[] #[.pointer (some ⟨Bs, 0, none⟩)], .int .i64 x, undef, undef, undef, undef, undef], defers := [] }) ?assign ?body ?done ?stop
  case assign =>
    intro l x W K hK
    gi_wp2
    exact hK
  case body =>
    rintro l pre x W ⟨⟨v, hv, hrow, hnil⟩, hB⟩ hlt
    have hc := hv.cell
    gi_wp2_with (gi_at_builtin; refine wpListIn_append_own _ rfl _ _ 59 rfl w.heap.size 3 i0 (.int .i64 0) 1 8 Tryz.underlying59 hi hz0 hz1 hz2 rfl (by decide) _ _ _ rfl (hrow.alloc _) ⟨W.heap.size, 0, none⟩ 1 1 [.int .i64 x] rfl rfl (cell_one_new _ _ _) (by simp [Value.oneCell']) (by omega) (by omega) (by have := hB.size; simp; omega) ?_; intro v' w1 hown' hgrow _; obtain ⟨g', cap', rfl⟩ := ownsRow_succ hown'; obtain ⟨hv1, hv2, hr2, hk2, hb2⟩ := hv.appended (by decide) hrow hB.size (Nat.le_refl _) hown' hgrow; have hc1 := hv1.cell; have hf1 := hv1.frozen)
    exact ⟨hk2.from _, hb2, ⟨_, hv2, by simpa using hr2, by simp⟩, hB.trans hb2⟩
  case done =>
    rintro D ys W hD rfl ⟨⟨v, hv, hrow, hnil⟩, hB⟩ hK
    have hc := hv.cell
    gi_wp2
    refine ⟨by simp, .inl ⟨_, _, rfl, run_takeDeferred hK, ?_⟩⟩
    exact ⟨_, results_tmp rfl _ _ _, v, rfl, ownsRow_putObj hrow _ hK rfl, hnil, hB.trans (belowK_b (w := w) (Nat.le_refl _) W D _ _ (by simp at hD; omega) hK rfl rfl)⟩
  case stop =>
    rintro D c pre W _ _ h _
    exact h.elim

set_option maxRecDepth 100000 in
set_option maxHeartbeats 2000000 in
theorem Tryz.clone_calls (b : Nat) (es : Array MapEntry) (clock : Nat) (w : World) (hb : w.heap[b]? = some (.map es clock)) :
    Calls Tryz.prog 207 #[.map (some b)] w fun e w' => e = .returned (.map (some w.heap.size)) ∧ w' = w.alloc (.map es clock) := by
  have hq := fun w => run_eql_map_nil_sl (P := Tryz.prog) w 381 _ _ (some b) Tryz.underlying381
  go_enter Tryz.func207, Tryz.ntmps207
  go_wp2
  rw [run_callFunc_extern Tryz.func267 (by kernel_rfl) (by kernel_rfl) (by kernel_rfl) (e := Extern.MapsClone.clone) (by kernel_rfl), run_maps_clone_sl w 381 hb]
  simp only [Result.andThen]
  rw [Oper.upon_value]
  go_wp2
  rw [run_typeAssert_map_sl _ 381 20 _ _ _ Tryz.underlying381]
  simp only [Result.andThen]
  rw [Oper.upon_value]
  go_wp2
  go_ret
  exact ⟨rfl, rfl⟩

set_option maxRecDepth 100000 in
set_option maxHeartbeats 2000000 in
theorem Tryz.clone_nil_calls (w : World) : Calls Tryz.prog 207 #[.map none] w fun e w' => e = .returned (.map none) ∧ w' = w := by
  have hq := fun w => run_eql_map_nil_sl (P := Tryz.prog) w 381 _ _ none Tryz.underlying381
  go_enter Tryz.func207, Tryz.ntmps207
  go_wp2
  go_ret
  exact ⟨rfl, rfl⟩
end Go.Proofs
/- bits.TrailingZeros64. Conditions: none. -/
namespace Go.Proofs
open Go.RowKit Go.Shelf

def Tryz.TZ (w : World) : Prop := ∀ k, k < 64 → w.cell? ⟨2, k, none⟩ = some (.int .u8 (AE.tzTab.getD k 0 : Nat))

def Tryz.tzIdx (m : Nat) : Nat := ((m &&& (18446744073709551616 - m)) * 285870213051353865 % 18446744073709551616) >>> 58

theorem Tryz.tzIdx_lt (m : Nat) : Tryz.tzIdx m < 64 := by
  unfold Tryz.tzIdx
  rw [Nat.shiftRight_eq_div_pow]
  have : (m &&& (18446744073709551616 - m)) * 285870213051353865 % 18446744073709551616 < 18446744073709551616 := Nat.mod_lt _ (by decide)
  omega

theorem Tryz.wrapU (n : Nat) : IntKind.u64.wrap (n : Int) = ((n % 18446744073709551616 : Nat) : Int) := by
  rw [IntKind.wrap_u64]; omega

theorem Tryz.tz_q (m : Nat) (h0 : 0 < m) (hm : m < 18446744073709551616) :
    IntKind.u64.wrap (bits BinOp.and IntKind.u64 (↑m) (IntKind.u64.wrap (-↑m)) * 285870213051353865) / 288230376151711744 = ((Tryz.tzIdx m : Nat) : Int) := by
  have e1 : IntKind.u64.wrap (-(m : Int)) = ((18446744073709551616 - m : Nat) : Int) := by
    rw [IntKind.wrap_u64]; omega
  have e2 : bits BinOp.and IntKind.u64 (↑m) ((18446744073709551616 - m : Nat) : Int) = ((m &&& (18446744073709551616 - m) : Nat) : Int) := by
    show IntKind.u64.wrap ((BitVec.ofInt 64 (m : Int) &&& BitVec.ofInt 64 ((18446744073709551616 - m : Nat) : Int)).toNat : Nat) = _
    rw [BitVec.ofInt_natCast, BitVec.ofInt_natCast, BitVec.toNat_and, BitVec.toNat_ofNat, BitVec.toNat_ofNat, Tryz.wrapU]
    have h1 : m % 2 ^ 64 = m := Nat.mod_eq_of_lt (by omega)
    have h2 : (18446744073709551616 - m) % 2 ^ 64 = 18446744073709551616 - m := Nat.mod_eq_of_lt (by omega)
    rw [h1, h2]
    have h3 : m &&& (18446744073709551616 - m) ≤ m := Nat.and_le_left
    rw [Nat.mod_eq_of_lt (by omega)]
  rw [e1, e2]
  have e3 : ((m &&& (18446744073709551616 - m) : Nat) : Int) * 285870213051353865 = (((m &&& (18446744073709551616 - m)) * 285870213051353865 : Nat) : Int) := by rw [Int.natCast_mul]; rfl
  rw [e3, Tryz.wrapU]
  unfold Tryz.tzIdx
  rw [Nat.shiftRight_eq_div_pow]
  rfl

set_option maxRecDepth 100000 in
set_option maxHeartbeats 2000000 in
theorem Tryz.tz_calls (m : Nat) (hm : m < 18446744073709551616) (w : World) (hT : Tryz.TZ w) (n : Nat) (hn : AE.tzNat m = some n) :
    Calls Tryz.prog 296 #[.int .u64 (m : Int)] w fun e w' => e = .returned (.int .i64 (n : Int)) ∧ w' = w := by
  by_cases h0 : m = 0
  · subst h0
    simp [AE.tzNat] at hn
    subst hn
    go_enter Tryz.func296, Tryz.ntmps296
    go_wp2
    go_ret
    exact ⟨rfl, rfl⟩
  · have hq := Tryz.tz_q m (by omega) hm
    have hlt := Tryz.tzIdx_lt m
    have hc := hT (Tryz.tzIdx m) hlt
    have hn' : AE.tzTab.getD (Tryz.tzIdx m) 0 = n := by
      unfold AE.tzNat at hn
      rw [if_neg h0] at hn
      have hn : AE.tzTab[Tryz.tzIdx m]? = some n := hn
      rw [List.getD_eq_getElem?_getD, hn]; rfl
    rw [hn'] at hc
    have hn64 : n < 65 := by
      rw [← hn']
      have : ∀ k, k < 64 → AE.tzTab.getD k 0 < 65 := by decide
      exact this _ hlt
    have hc' : w.cell? ⟨2, (IntKind.u64.wrap (bits BinOp.and IntKind.u64 (↑m) (IntKind.u64.wrap (-↑m)) * 285870213051353865) / 288230376151711744).toNat, none⟩ = some (.int .u8 (n : Int)) := by
      rw [hq, Int.toNat_natCast]; exact hc
    have hr : 0 ≤ IntKind.u64.wrap (bits BinOp.and IntKind.u64 (↑m) (IntKind.u64.wrap (-↑m)) * 285870213051353865) / 288230376151711744 ∧
        IntKind.u64.wrap (bits BinOp.and IntKind.u64 (↑m) (IntKind.u64.wrap (-↑m)) * 285870213051353865) / 288230376151711744 < 64 := by
      rw [hq]; omega
    clear hq
    go_enter Tryz.func296, Tryz.ntmps296
    go_wp2
    go_ret
    exact ⟨rfl, rfl⟩
end Go.Proofs

/- What is told of slices.AppendSeq, maps.Clone and bits.TrailingZeros64 holds. Conditions: none. -/
namespace AE
open Go Go.RowKit

/-- an object in a block that has come since -/
theorem Rel.fresh [Base] {P : Program} {ρ : Ren} {H : Heap} {w w' : World} (hr : Rel P ρ H w) (hb : Below w.heap.size w w') {o : AObj} {id : Nat} {H' : Heap} (h : H.alloc none o = some (id, H')) {e : Ent}
    (h1 : w.heap.size ≤ e.blk) (h2 : e.blk < w'.heap.size) (ho : ORel P ρ e o w'.heap[e.blk]?) :
    Rel P (ρ.upd id e) H' w' ∧ Step none ρ H w (ρ.upd id e) H' w' ∧ ρ.le (ρ.upd id e) := by
  obtain ⟨hget, hnx, hid, hcase⟩ := Heap.alloc_spec h
  have hidn : id = H.next := by
    rcases hcase with ⟨_, h⟩ | ⟨h, _, _⟩
    · exact h
    · cases h
  have hnone : ρ id = none := by
    cases hc : ρ id with
    | none => rfl
    | some f => exact absurd (hr.nxt _ _ hc) (by omega)
  have hle : ρ.le (ρ.upd id e) := Ren.le_upd hnone
  have hr' := hr.below hb
  refine ⟨⟨fun i q hi ql => ?_, fun i j q q' f f' hi ql hj ql' hf hf' hbb => ?_, fun i f hf => ?_, fun i f hf => ?_, fun b q hk => ⟨(hr'.kept b q hk).1, fun i y f hi yl hf => ?_⟩⟩, ⟨hle, fun i f g1 g2 => ?_, hnx, hb.size, fun b hb' hn => hb.block b hb', fun i q f hi ql hf hbk => ?_, hb.os, hb.tape, hb.output, fun i hi hn ha q hq => ?_⟩, hle⟩
  · rw [hget] at hi
    by_cases c : i = id
    · subst c
      simp only [if_true, Option.some.injEq] at hi
      subst hi
      exact ⟨e, Ren.upd_same, ORel.mono hle _ _ _ ho⟩
    · rw [if_neg c] at hi
      obtain ⟨f, hf, hq⟩ := hr'.obj i q hi ql
      exact ⟨f, by rw [Ren.upd_ne c]; exact hf, ORel.mono hle _ _ _ hq⟩
  · rw [hget] at hi hj
    by_cases c : i = id
    · by_cases d : j = id
      · rw [c, d]
      · rw [Ren.upd_ne d] at hf'
        subst c
        rw [Ren.upd_same] at hf
        simp only [Option.some.injEq] at hf
        subst hf
        have := hr.rng j f' hf'
        omega
    · rw [Ren.upd_ne c] at hf
      rw [if_neg c] at hi
      by_cases d : j = id
      · subst d
        rw [Ren.upd_same] at hf'
        simp only [Option.some.injEq] at hf'
        subst hf'
        have := hr.rng i f hf
        omega
      · rw [Ren.upd_ne d] at hf'
        rw [if_neg d] at hj
        exact hr.inj i j q q' f f' hi ql hj ql' hf hf' hbb
  · by_cases c : i = id
    · subst c; rw [Ren.upd_same] at hf; simp only [Option.some.injEq] at hf; subst hf; exact h2
    · rw [Ren.upd_ne c] at hf; exact hr'.rng i f hf
  · by_cases c : i = id
    · subst c; exact hid
    · rw [Ren.upd_ne c] at hf; have := hr.nxt i f hf; omega
  · by_cases c : i = id
    · subst c; rw [Ren.upd_same] at hf; simp only [Option.some.injEq] at hf; subst hf
      have := (Array.getElem?_eq_some_iff.1 (hr.kept b q hk).1).1
      omega
    · rw [Ren.upd_ne c] at hf; rw [hget, if_neg c] at hi; exact (hr.kept b q hk).2 i y f hi yl hf
  · by_cases c : i = id
    · subst c; exact .inl (by omega)
    · rw [Ren.upd_ne c, g1] at g2; cases g2
  · rw [hget] at hi
    by_cases c : i = id
    · subst c; rw [Ren.upd_same] at hf; simp only [Option.some.injEq] at hf; subst hf; omega
    · rw [Ren.upd_ne c] at hf
      rw [if_neg c] at hi
      exact ⟨i, q, f, hi, ql, hf, rfl⟩
  · rw [hget] at hq
    by_cases c : i = id
    · omega
    · rw [if_neg c] at hq; exact hn q hq

theorem allI64_spec : ∀ (l : List AV), allI64 l = true → ∃ zs : List Int, l = zs.map (AV.int .i64)
  | [], _ => ⟨[], rfl⟩
  | .int .i64 z :: l, h => by
    obtain ⟨zs, hz⟩ := allI64_spec l (by simpa [allI64] using h)
    exact ⟨z :: zs, by rw [hz]; rfl⟩
end AE

namespace Go.Proofs
open Go.RowKit Go.Shelf AE

theorem Tryz.runOk_clone [Base] : RunOk Tryz.prog 207 cloneSpec := by
  intro vs H v H' hs ρ w us hr hu
  unfold cloneSpec at hs
  split at hs
  · simp only [Option.some.injEq, Prod.mk.injEq] at hs
    obtain ⟨rfl, rfl⟩ := hs
    obtain ⟨u, rfl, h1⟩ : ∃ u, us = [u] ∧ VRel ρ (.map none) u := by
      match us, hu with
      | [u], hu => exact ⟨u, rfl, by simpa [VRels] using hu⟩
    have : u = .map none := by
      cases u with
      | map r => cases r with
        | none => rfl
        | some _ => simp [VRel] at h1
      | _ => simp [VRel] at h1
    subst this
    refine ⟨enters_of Tryz.func207 (by kernel_rfl) rfl _ _, (Tryz.clone_nil_calls w).mono ?_⟩
    rintro e w' ⟨rfl, rfl⟩
    exact ⟨ρ, by simp [VRel], hr, Step.refl ..⟩
  · rename_i r
    split at hs
    · rename_i es hes
      simp only [Option.bind_eq_some_iff, Option.some.injEq, Prod.mk.injEq] at hs
      obtain ⟨⟨id, H1⟩, ha, rfl, rfl⟩ := hs
      obtain ⟨u, rfl, h1⟩ : ∃ u, us = [u] ∧ VRel ρ (.map (some r)) u := by
        match us, hu with
        | [u], hu => exact ⟨u, rfl, by simpa [VRels] using hu⟩
      obtain ⟨e, he, rfl⟩ : ∃ e, ρ r = some e ∧ u = .map (some e.blk) := by
        cases u with
        | map q => cases q with
          | none => simp [VRel] at h1
          | some q => simp only [VRel] at h1; obtain ⟨e, he, rfl⟩ := h1; exact ⟨e, he, rfl⟩
        | _ => simp [VRel] at h1
      obtain ⟨e', he', ho⟩ := hr.obj r _ hes trivial
      rw [he] at he'; simp only [Option.some.injEq] at he'; subst he'
      obtain ⟨mes, clock, hb, hrel⟩ : ∃ mes clock, w.heap[e.blk]? = some (.map mes clock) ∧ ERel ρ es mes.toList := by
        cases hx : w.heap[e.blk]? with
        | none => rw [hx] at ho; simp [ORel] at ho
        | some x =>
          rw [hx] at ho
          cases x with
          | map mes clock => exact ⟨mes, clock, rfl, by simpa [ORel] using ho⟩
          | _ => simp [ORel] at ho
      refine ⟨enters_of Tryz.func207 (by kernel_rfl) rfl _ _, (Tryz.clone_calls e.blk mes clock w hb).mono ?_⟩
      rintro en w' ⟨rfl, rfl⟩
      have hB : Below w.heap.size w (w.alloc (.map mes clock)) := (Below.refl _ w).alloc (Nat.le_refl _) _
      obtain ⟨g1, g2, g3⟩ := hr.fresh hB (o := .map es) ha (e := ⟨w.heap.size, 0, 0⟩) (Nat.le_refl _) (by simp) (by rw [World.alloc_heap_new]; exact hrel)
      exact ⟨_, by simp only [VRel]; exact ⟨_, Ren.upd_same, rfl⟩, g1, g2⟩
    · cases hs
  · cases hs

theorem Tryz.runOk_tz [Base] (hT : ∀ w : World, (∀ b o, Base.kept b = some o → w.heap[b]? = some o) → Tryz.TZ w) : RunOk Tryz.prog 296 tzSpec := by
  intro vs H v H' hs ρ w us hr hu
  unfold tzSpec at hs
  split at hs
  · rename_i m
    split at hs
    · rename_i hm
      simp only [Option.map_eq_some_iff, Prod.mk.injEq] at hs
      obtain ⟨n, hn, rfl, rfl⟩ := hs
      obtain ⟨u, rfl, h1⟩ : ∃ u, us = [u] ∧ VRel ρ (.int .u64 (.ofNat m)) u := by
        match us, hu with
        | [u], hu => exact ⟨u, rfl, by simpa [VRels] using hu⟩
      have := int_rel h1
      subst this
      refine ⟨enters_of Tryz.func296 (by kernel_rfl) rfl _ _, (Tryz.tz_calls m hm w (hT w fun b o hk => (hr.kept b o hk).1) n hn).mono ?_⟩
      rintro e w' ⟨rfl, rfl⟩
      exact ⟨ρ, by simp [VRel], hr, Step.refl ..⟩
    · cases hs
  · cases hs

theorem Tryz.runOk_append [Base] : RunOk Tryz.prog 269 (appendSeqSpec 215 3) := by
  intro vs H v H' hs ρ w us hr hu
  unfold appendSeqSpec at hs
  split at hs
  case h_2 => cases hs
  rename_i g b
  split at hs
  case isFalse => cases hs
  rename_i hg
  subst hg
  obtain ⟨u1, u2, rfl, h1, h2⟩ := VRels.two hu
  have hnil : ∀ u, VRel ρ (.slice none 0 0 true) u → u = .slice none 0 0 := by
    intro u h
    cases u with
    | slice p l c => cases p with
      | none => simp only [VRel] at h; obtain ⟨rfl, rfl, _⟩ := h; rfl
      | some _ => simp [VRel] at h
    | _ => simp [VRel] at h
  have e1 := hnil u1 h1
  subst e1
  obtain ⟨e, he, rfl⟩ : ∃ e, ρ b = some e ∧ u2 = .func (.func 215) #[] #[.pointer (some ⟨e.blk, 0, none⟩)] := by
    cases u2 with
    | func fn x y =>
      simp only [VRel] at h2
      obtain ⟨rfl, hx, hy⟩ := h2
      have ex : x = #[] := by
        obtain ⟨l⟩ := x
        cases l with
        | nil => rfl
        | cons _ _ => simp [VRels] at hx
      obtain ⟨l⟩ := y
      match l, hy with
      | [p], hy =>
        simp only [VRels, and_true] at hy
        cases p with
        | pointer q =>
          cases q with
          | none => simp [VRel] at hy
          | some q =>
            simp only [VRel] at hy
            obtain ⟨e, he, rfl⟩ := hy
            exact ⟨e, he, by rw [ex]⟩
        | _ => simp [VRel] at hy
    | _ => simp [VRel] at h2
  have hlt := hr.rng b e he
  have henter := enters_of (P := Tryz.prog) Tryz.func269 (by kernel_rfl) rfl
  -- a cell that the abstract heap tells of
  have hcell : ∀ (id off n : Nat) (l : List AV), AE.loadCells H id off n = some l → ∀ e, ρ id = some e → l.length = n ∧ ∀ j x, l[j]? = some x → ∃ u, w.cell? ⟨e.blk, off + j, none⟩ = some u ∧ VRel ρ x u := by
    intro id off n l hl e he
    unfold AE.loadCells at hl
    split at hl
    · rename_i bl hbl
      obtain ⟨e', cs, fr, he', hcs, _, _, _, _, hget⟩ := hr.cells hbl
      rw [he] at he'; simp only [Option.some.injEq] at he'; subst he'
      obtain ⟨hn, hgl⟩ := Blk.load_spec bl n off l hl
      refine ⟨hn, fun j x hj => ?_⟩
      have hjn : j < n := by
        have := (List.getElem?_eq_some_iff.1 hj).1; omega
      have h3 := hgl j hjn
      rw [hj] at h3
      obtain ⟨x', u, h4, h5, h6⟩ := hget _ (Blk.get_lt h3)
      rw [h3] at h4; simp only [Option.some.injEq] at h4; subst h4
      exact ⟨u, by rw [cell_of_blk hcs]; exact h5, h6⟩
    · cases hl
  split at hs
  · -- nil
    rename_i hl
    simp only [Option.some.injEq, Prod.mk.injEq] at hs
    obtain ⟨rfl, rfl⟩ := hs
    obtain ⟨_, hj⟩ := hcell b 0 1 _ hl e he
    obtain ⟨u, hu1, hu2⟩ := hj 0 _ rfl
    have := hnil u hu2
    subst this
    refine ⟨henter _ _, callsIn_wide.1 ((Tryz.appendSeq_in _ 3 trivial trivial rfl (by omega) e.blk (.slice none 0 0) [] (by simp) w hlt (by simpa using hu1) (.inl ⟨rfl, rfl⟩)).mono ?_)⟩
    rintro en w' ⟨v, rfl, _, hnil, hB⟩
    rw [hnil.2 rfl]
    exact ⟨ρ, by simp [VRel], hr.below hB, Step.below hB⟩
  · rename_i id off len cap ex hl
    split at hs
    · rename_i cs hcs
      split at hs
      case isFalse => cases hs
      rename_i hck
      simp only [Bool.and_eq_true, decide_eq_true_eq] at hck
      obtain ⟨zs, rfl⟩ := allI64_spec cs hck.1
      obtain ⟨_, hj⟩ := hcell b 0 1 _ hl e he
      obtain ⟨u, hu1, hu2⟩ := hj 0 _ rfl
      obtain ⟨f, c', hf, rfl⟩ : ∃ f c', ρ id = some f ∧ u = .slice (some ⟨f.blk, off, none⟩) len c' := by
        cases u with
        | slice p l c =>
          cases p with
          | none => simp [VRel] at hu2
          | some p =>
            simp only [VRel] at hu2
            obtain ⟨rfl, _, f, hf, rfl, _⟩ := hu2
            exact ⟨f, c, hf, rfl⟩
        | _ => simp [VRel] at hu2
      obtain ⟨hn, hj2⟩ := hcell id off len _ hcs f hf
      simp only [List.length_map] at hn
      subst hn
      have hints : Tryz.Ints w.heap.size w (.slice (some ⟨f.blk, off, none⟩) zs.length c') zs := by
        refine .inr ⟨f.blk, off, c', rfl, hr.rng id f hf, fun j hj => ?_⟩
        obtain ⟨u, h3, h4⟩ := hj2 j (.int .i64 zs[j]) (by simp [hj])
        have := int_rel h4
        rw [h3, this]
        simp [hj]
      have hcalls := callsIn_wide.1 (Tryz.appendSeq_in _ 3 trivial trivial rfl (by omega) e.blk _ zs hck.2 w hlt (by simpa using hu1) hints)
      split at hs
      · rename_i h0
        simp only [Option.some.injEq, Prod.mk.injEq] at hs
        obtain ⟨rfl, rfl⟩ := hs
        have hz : zs = [] := List.length_eq_zero_iff.1 h0
        refine ⟨henter _ _, hcalls.mono ?_⟩
        rintro en w' ⟨v, rfl, _, hnil, hB⟩
        rw [hnil.2 hz]
        exact ⟨ρ, by simp [VRel], hr.below hB, Step.below hB⟩
      · rename_i h0
        simp only [Option.bind_eq_some_iff, Option.some.injEq, Prod.mk.injEq] at hs
        obtain ⟨⟨id', H1⟩, ha, rfl, rfl⟩ := hs
        refine ⟨henter _ _, hcalls.mono ?_⟩
        rintro en w' ⟨v, rfl, hown, hnil, hB⟩
        rcases hown.2 with ⟨_, hz⟩ | ⟨g', cap', cur, rfl, hgb, hgc, hc1, _, hc3, hc4⟩
        · exact absurd hz h0
        · have hgl : g' < w'.heap.size := (Array.getElem?_eq_some_iff.1 hgc).1
          obtain ⟨g1, g2, g3⟩ := hr.fresh hB ha (e := ⟨g', cur.size, 1⟩) hgb hgl (by
            rw [hgc]
            refine ⟨rfl, rfl, ?_, .inl rfl, fun _ => by kernel_rfl, fun k hk => ?_⟩
            · show (zs.map (AV.int .i64)).length ≤ cur.size
              simp; omega
            · have hk : k < (zs.map (AV.int .i64)).length := hk
              simp only [List.length_map] at hk
              refine ⟨.int .i64 zs[k], .int .i64 zs[k], ?_, ?_, by simp [VRel]⟩
              · rw [Blk.get_ofList]; simp [hk]
              · have : (cur.toList.take (zs.length * 1))[k]? = some (.int .i64 zs[k]) := by rw [hc4]; simp [hk]
                rw [List.getElem?_take] at this
                simpa [hk] using this)
          refine ⟨_, ?_, g1, g2⟩
          simp only [VRel]
          exact ⟨trivial, Nat.le_refl _, _, Ren.upd_same, rfl, hc1, by simp; omega⟩
    · cases hs
  · cases hs
end Go.Proofs
