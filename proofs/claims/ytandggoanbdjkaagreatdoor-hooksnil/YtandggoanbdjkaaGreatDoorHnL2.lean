/- bits.TrailingZeros64. Conditions: none. -/
import Derived.Test.YtandggoanbdjkaaGreatDoorHnL1
import Derived.Test.YtandggoanbdjkaaGreatDoorAES
namespace Go.Proofs
open Go.RowKit Go.Shelf

def Tryz.TZ (w : World) : Prop := ∀ k, k < 64 → w.cell? ⟨2, k, none⟩ = some (.int .u8 (AE.tzTab.getD k 0 : Nat))

def Tryz.tzIdx (m : Nat) : Nat := ((m &&& (18446744073709551616 - m)) * 285870213051353865 % 18446744073709551616) >>> 58

theorem Tryz.tzIdx_lt (m : Nat) : Tryz.tzIdx m < 64 := by
  unfold Tryz.tzIdx
  rw [Nat.shiftRight_eq_div_pow]
  have : (m &&& (18446744073709551616 - m)) * 285870213051353865 % 18446744073709551616 < 18446744073709551616 := Nat.mod_lt _ (by decide)
  omega

theorem Tryz.wrapU (n : Nat) : IntKind.u64.wrap (n : Int) = ((n % 18446744073709551616 : Nat) : Int) := by
  rw [IntKind.wrap_u64]; omega

theorem Tryz.tz_q (m : Nat) (h0 : 0 < m) (hm : m < 18446744073709551616) :
    IntKind.u64.wrap (bits BinOp.and IntKind.u64 (↑m) (IntKind.u64.wrap (-↑m)) * 285870213051353865) / 288230376151711744 = ((Tryz.tzIdx m : Nat) : Int) := by
  have e1 : IntKind.u64.wrap (-(m : Int)) = ((18446744073709551616 - m : Nat) : Int) := by
    rw [IntKind.wrap_u64]; omega
  have e2 : bits BinOp.and IntKind.u64 (↑m) ((18446744073709551616 - m : Nat) : Int) = ((m &&& (18446744073709551616 - m) : Nat) : Int) := by
    show IntKind.u64.wrap ((BitVec.ofInt 64 (m : Int) &&& BitVec.ofInt 64 ((18446744073709551616 - m : Nat) : Int)).toNat : Nat) = _
    rw [BitVec.ofInt_natCast, BitVec.ofInt_natCast, BitVec.toNat_and, BitVec.toNat_ofNat, BitVec.toNat_ofNat, Tryz.wrapU]
    have h1 : m % 2 ^ 64 = m := Nat.mod_eq_of_lt (by omega)
    have h2 : (18446744073709551616 - m) % 2 ^ 64 = 18446744073709551616 - m := Nat.mod_eq_of_lt (by omega)
    rw [h1, h2]
    have h3 : m &&& (18446744073709551616 - m) ≤ m := Nat.and_le_left
    rw [Nat.mod_eq_of_lt (by omega)]
  rw [e1, e2]
  have e3 : ((m &&& (18446744073709551616 - m) : Nat) : Int) * 285870213051353865 = (((m &&& (18446744073709551616 - m)) * 285870213051353865 : Nat) : Int) := by rw [Int.natCast_mul]; rfl
  rw [e3, Tryz.wrapU]
  unfold Tryz.tzIdx
  rw [Nat.shiftRight_eq_div_pow]
  rfl

set_option maxRecDepth 100000 in
set_option maxHeartbeats 2000000 in
theorem Tryz.tz_calls (m : Nat) (hm : m < 18446744073709551616) (w : World) (hT : Tryz.TZ w) (n : Nat) (hn : AE.tzNat m = some n) :
    Calls Tryz.prog 296 #[.int .u64 (m : Int)] w fun e w' => e = .returned (.int .i64 (n : Int)) ∧ w' = w := by
  by_cases h0 : m = 0
  · subst h0
    simp [AE.tzNat] at hn
    subst hn
    go_enter Tryz.func296, Tryz.ntmps296
    go_wp2
    go_ret
    exact ⟨rfl, rfl⟩
  · have hq := Tryz.tz_q m (by omega) hm
    have hlt := Tryz.tzIdx_lt m
    have hc := hT (Tryz.tzIdx m) hlt
    have hn' : AE.tzTab.getD (Tryz.tzIdx m) 0 = n := by
      unfold AE.tzNat at hn
      rw [if_neg h0] at hn
      have hn : AE.tzTab[Tryz.tzIdx m]? = some n := hn
      rw [List.getD_eq_getElem?_getD, hn]; rfl
    rw [hn'] at hc
    have hn64 : n < 65 := by
      rw [← hn']
      have : ∀ k, k < 64 → AE.tzTab.getD k 0 < 65 := by decide
      exact this _ hlt
    have hc' : w.cell? ⟨2, (IntKind.u64.wrap (bits BinOp.and IntKind.u64 (↑m) (IntKind.u64.wrap (-↑m)) * 285870213051353865) / 288230376151711744).toNat, none⟩ = some (.int .u8 (n : Int)) := by
      rw [hq, Int.toNat_natCast]; exact hc
    have hr : 0 ≤ IntKind.u64.wrap (bits BinOp.and IntKind.u64 (↑m) (IntKind.u64.wrap (-↑m)) * 285870213051353865) / 288230376151711744 ∧
        IntKind.u64.wrap (bits BinOp.and IntKind.u64 (↑m) (IntKind.u64.wrap (-↑m)) * 285870213051353865) / 288230376151711744 < 64 := by
      rw [hq]; omega
    clear hq
    go_enter Tryz.func296, Tryz.ntmps296
    go_wp2
    go_ret
    exact ⟨rfl, rfl⟩
end Go.Proofs
