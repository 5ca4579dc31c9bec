/- Functions of Go's library whose answer is told: AppendSeq over Values, maps.Clone. Conditions: none. -/
import Derived.Test.YtandggoanbdjkaaGreatDoorWAEDefs
namespace AE
open Go

/-- the cells are whole numbers of kind int -/
def allI64 : List AV → Bool
  | [] => true
  | .int .i64 _ :: l => allI64 l
  | _ => false

/-- slices.AppendSeq(nil, slices.Values(s)): g is the iterator's function, tE the elements' type, tS the slice's -/
def appendSeqSpec (g : FuncId) (tE : TypeId) : List AV → Heap → Option (AV × Heap)
  | [.slice none 0 0 true, .func g' [] [.ptr (some (b, 0))]], H =>
    if g' = g then
      match loadCells H b 0 1 with
      | some [.slice none 0 0 true] => some (.slice none 0 0 true, H)
      | some [.slice (some (id, off)) len _ _] => match loadCells H id off len with
        | some cs => if allI64 cs && decide (len ≤ 1048576) then
            (if len = 0 then some (.slice none 0 0 true, H) else
              (H.alloc none (.cells (.ofList tE true cs))).bind fun (id', H) => some (.slice (some (id', 0)) len len false, H))
          else none
        | none => none
      | _ => none
    else none
  | _, _ => none

/-- maps.Clone(m) -/
def cloneSpec : List AV → Heap → Option (AV × Heap)
  | [.map none], H => some (.map none, H)
  | [.map (some r)], H => match H.get r with
    | some (.map es) => (H.alloc none (.map es)).bind fun (id, H) => some (.map (some id), H)
    | _ => none
  | _, _ => none
/-- math/bits.TrailingZeros64, by the table that it reads -/
def tzTab : List Nat := [0, 1, 56, 2, 57, 49, 28, 3, 61, 58, 42, 50, 38, 29, 17, 4, 62, 47, 59, 36, 45, 43, 51, 22, 53, 39, 33, 30, 24, 18, 12, 5, 63, 55, 48, 27, 60, 41, 37, 16, 46, 35, 44, 21, 52, 32, 23, 11, 54, 26, 40, 15, 34, 20, 31, 10, 25, 14, 19, 9, 13, 8, 7, 6]
def tzNat (m : Nat) : Option Nat :=
  if m = 0 then some 64 else tzTab[((m &&& (18446744073709551616 - m)) * 285870213051353865 % 18446744073709551616) >>> 58]?
def tzSpec : List AV → Heap → Option (AV × Heap)
  | [.int .u64 (.ofNat m)], H => if m < 18446744073709551616 then (tzNat m).map fun n => (.int .i64 (.ofNat n), H) else none
  | _, _ => none
end AE
