/- WholeSwaps: the law's pieces, and what is told between them. Conditions: none. -/
import Derived.Test.YtandggoanbdjkaaGreatDoorWSwLaw
import Derived.Test.YtandggoanbdjkaaGreatDoorWAEP
namespace Sw
open Go Go.Proofs Go.RowKit AE

noncomputable def body : Code := match Tryz.f4.body with | some c => c | none => .skip
noncomputable def rows : List Code := AE.flat body
noncomputable def lA : List Code := rows.take 10
noncomputable def lZ : List Code := rows.drop 11
noncomputable def loopB : Code := match rows[10]? with | some (Code.block _ (.loop b)) => b | _ => .skip
theorem rows_eq : rows = lA ++ ([Code.block 2 (.loop loopB)] ++ lZ) := by kernel_rfl
noncomputable def lp : List Code := AE.flat loopB
noncomputable def c14 : Code := (lp[0]?).getD .skip
noncomputable def c56 : Code := (lp[1]?).getD .skip
noncomputable def rnd : Code := match lp[2]? with | some (Code.block _ b) => b | _ => .skip
noncomputable def c32 : Code := (lp[3]?).getD .skip
theorem lp_eq : lp = [c14] ++ ([c56] ++ ([Code.block 3 rnd] ++ [c32])) := by kernel_rfl
noncomputable def rd : List Code := AE.flat rnd
noncomputable def ops (k : Nat) : Array Oper := match rd[k]? with | some (Code.region _ o _) => o | _ => #[]
noncomputable def c15 : Code := .region 15 (ops 0) false
noncomputable def c16 : Code := (rd[1]?).getD .skip
noncomputable def c61 : Code := (rd[2]?).getD .skip
noncomputable def c17 : Code := (rd[3]?).getD .skip
noncomputable def cB4 : Code := (rd[4]?).getD .skip
noncomputable def c26 : Code := .region 26 (ops 5) false
noncomputable def l27 : List Code := (rd.drop 6).take 2
noncomputable def c29 : Code := .region 29 (ops 8) false
noncomputable def l30 : List Code := rd.drop 9
theorem rd_eq : rd = [c15] ++ ([c16] ++ ([c61] ++ ([c17] ++ ([cB4] ++ ((c26 :: l27) ++ (c29 :: l30)))))) := by kernel_rfl
theorem draws_A : lA.all (Draws (drawOk Tryz.prog)) = true := by kernel_rfl
theorem draws_Z : lZ.all (Draws (drawOk Tryz.prog)) = true := by kernel_rfl
theorem draws_lp : Draws (drawOk Tryz.prog) loopB = true := by kernel_rfl
theorem draws_14 : [c14].all (Draws (drawOk Tryz.prog)) = true := by kernel_rfl
theorem draws_56 : [c56].all (Draws (drawOk Tryz.prog)) = true := by kernel_rfl
theorem draws_32 : [c32].all (Draws (drawOk Tryz.prog)) = true := by kernel_rfl
theorem draws_16 : [c16].all (Draws (drawOk Tryz.prog)) = true := by kernel_rfl
theorem draws_61 : [c61].all (Draws (drawOk Tryz.prog)) = true := by kernel_rfl
theorem draws_17 : [c17].all (Draws (drawOk Tryz.prog)) = true := by kernel_rfl
theorem draws_B4 : [cB4].all (Draws (drawOk Tryz.prog)) = true := by kernel_rfl
theorem draws_26 : (c26 :: l27).all (Draws (drawOk Tryz.prog)) = true := by kernel_rfl
theorem draws_29 : (c29 :: l30).all (Draws (drawOk Tryz.prog)) = true := by kernel_rfl

def tailO : List (Nat × Lay) := [(10, .cells 219 false [.ptr (some (9, 0)), .slice none 0 0 true]),
    (11, .cells 90 true [.int .i64 0, .int .i64 2, .iface 91 (.slice (some (12, 0)) 2 2 false), .iface 99 (.agg [.slice (some (13, 0)) 2 2 false, .ptr (some (14, 0))]), .iface 101 (.slice (some (15, 0)) 61 61 false), .iface 102 (.slice (some (16, 0)) 124 124 false), .int .i64 0, .int .i64 2, .iface 91 (.slice (some (17, 0)) 2 2 false), .iface 99 (.agg [.slice (some (18, 0)) 2 2 false, .ptr (some (19, 0))]), .iface 101 (.slice (some (20, 0)) 61 61 false), .iface 102 (.slice (some (21, 0)) 124 124 false), .int .i64 0, .int .i64 2, .iface 91 (.slice (some (22, 0)) 2 2 false), .iface 99 (.agg [.slice (some (23, 0)) 2 2 false, .ptr (some (24, 0))]), .iface 101 (.slice (some (25, 0)) 61 61 false), .iface 102 (.slice (some (26, 0)) 124 124 false), .int .i64 0, .int .i64 2, .iface 91 (.slice (some (27, 0)) 2 2 false), .iface 99 (.agg [.slice (some (28, 0)) 2 2 false, .ptr (some (29, 0))]), .iface 101 (.slice (some (30, 0)) 61 61 false), .iface 102 (.slice (some (31, 0)) 124 124 false), .int .i64 0, .int .i64 2, .iface 91 (.slice (some (32, 0)) 2 2 false), .iface 99 (.agg [.slice (some (33, 0)) 2 2 false, .ptr (some (34, 0))]), .iface 101 (.slice (some (35, 0)) 61 61 false), .iface 102 (.slice (some (36, 0)) 124 124 false)]),
    (12, .cells 62 true [.int .u8 183, .int .u8 0, .int .u8 0, .int .i16 0, .int .i32 0, .int .u8 149, .int .u8 0, .int .u8 0, .int .i16 0, .int .i32 0]),
    (13, .cells 62 true [.int .u8 183, .int .u8 0, .int .u8 0, .int .i16 0, .int .i32 0, .int .u8 149, .int .u8 0, .int .u8 0, .int .i16 0, .int .i32 0]),
    (14, .cells 164 false [.slice (some (37, 0)) 2 2 false]),
    (15, .cells 5 true (u8s [64, 85, 72, 189, 0, 2, 0, 0, 2, 0, 0, 0, 232, 3, 0, 0, 0, 64, 93, 195, 64, 83, 64, 85, 65, 85, 65, 86, 65, 87, 73, 187, 0, 0, 0, 0, 1, 0, 0, 0, 76, 1, 221, 72, 199, 192, 0, 0, 0, 0, 65, 95, 65, 94, 65, 93, 64, 93, 64, 91, 195])),
    (16, .cells 5 true (u8s [255, 67, 0, 209, 249, 3, 0, 249, 254, 7, 0, 249, 25, 64, 128, 210, 89, 0, 192, 242, 6, 0, 0, 148, 249, 3, 64, 249, 254, 7, 64, 249, 255, 67, 0, 145, 224, 3, 7, 170, 192, 3, 95, 214, 255, 195, 0, 209, 243, 3, 0, 249, 244, 7, 0, 249, 245, 11, 0, 249, 246, 15, 0, 249, 249, 19, 0, 249, 254, 23, 0, 249, 9, 0, 128, 210, 41, 0, 192, 242, 57, 3, 9, 139, 9, 0, 128, 210, 231, 3, 9, 170, 243, 3, 64, 249, 244, 7, 64, 249, 245, 11, 64, 249, 246, 15, 64, 249, 249, 19, 64, 249, 254, 23, 64, 249, 255, 195, 0, 145, 192, 3, 95, 214])),
    (17, .cells 62 true [.int .u8 183, .int .u8 0, .int .u8 0, .int .i16 0, .int .i32 1, .int .u8 149, .int .u8 0, .int .u8 0, .int .i16 0, .int .i32 0]),
    (18, .cells 62 true [.int .u8 183, .int .u8 0, .int .u8 0, .int .i16 0, .int .i32 1, .int .u8 149, .int .u8 0, .int .u8 0, .int .i16 0, .int .i32 0]),
    (19, .cells 164 false [.slice (some (38, 0)) 2 2 false]),
    (20, .cells 5 true (u8s [64, 85, 72, 189, 0, 2, 0, 0, 2, 0, 0, 0, 232, 3, 0, 0, 0, 64, 93, 195, 64, 83, 64, 85, 65, 85, 65, 86, 65, 87, 73, 187, 0, 0, 0, 0, 1, 0, 0, 0, 76, 1, 221, 72, 199, 192, 1, 0, 0, 0, 65, 95, 65, 94, 65, 93, 64, 93, 64, 91, 195])),
    (21, .cells 5 true (u8s [255, 67, 0, 209, 249, 3, 0, 249, 254, 7, 0, 249, 25, 64, 128, 210, 89, 0, 192, 242, 6, 0, 0, 148, 249, 3, 64, 249, 254, 7, 64, 249, 255, 67, 0, 145, 224, 3, 7, 170, 192, 3, 95, 214, 255, 195, 0, 209, 243, 3, 0, 249, 244, 7, 0, 249, 245, 11, 0, 249, 246, 15, 0, 249, 249, 19, 0, 249, 254, 23, 0, 249, 9, 0, 128, 210, 41, 0, 192, 242, 57, 3, 9, 139, 41, 0, 128, 210, 231, 3, 9, 170, 243, 3, 64, 249, 244, 7, 64, 249, 245, 11, 64, 249, 246, 15, 64, 249, 249, 19, 64, 249, 254, 23, 64, 249, 255, 195, 0, 145, 192, 3, 95, 214])),
    (22, .cells 62 true [.int .u8 183, .int .u8 0, .int .u8 0, .int .i16 0, .int .i32 2, .int .u8 149, .int .u8 0, .int .u8 0, .int .i16 0, .int .i32 0]),
    (23, .cells 62 true [.int .u8 183, .int .u8 0, .int .u8 0, .int .i16 0, .int .i32 2, .int .u8 149, .int .u8 0, .int .u8 0, .int .i16 0, .int .i32 0]),
    (24, .cells 164 false [.slice (some (39, 0)) 2 2 false]),
    (25, .cells 5 true (u8s [64, 85, 72, 189, 0, 2, 0, 0, 2, 0, 0, 0, 232, 3, 0, 0, 0, 64, 93, 195, 64, 83, 64, 85, 65, 85, 65, 86, 65, 87, 73, 187, 0, 0, 0, 0, 1, 0, 0, 0, 76, 1, 221, 72, 199, 192, 2, 0, 0, 0, 65, 95, 65, 94, 65, 93, 64, 93, 64, 91, 195])),
    (26, .cells 5 true (u8s [255, 67, 0, 209, 249, 3, 0, 249, 254, 7, 0, 249, 25, 64, 128, 210, 89, 0, 192, 242, 6, 0, 0, 148, 249, 3, 64, 249, 254, 7, 64, 249, 255, 67, 0, 145, 224, 3, 7, 170, 192, 3, 95, 214, 255, 195, 0, 209, 243, 3, 0, 249, 244, 7, 0, 249, 245, 11, 0, 249, 246, 15, 0, 249, 249, 19, 0, 249, 254, 23, 0, 249, 9, 0, 128, 210, 41, 0, 192, 242, 57, 3, 9, 139, 73, 0, 128, 210, 231, 3, 9, 170, 243, 3, 64, 249, 244, 7, 64, 249, 245, 11, 64, 249, 246, 15, 64, 249, 249, 19, 64, 249, 254, 23, 64, 249, 255, 195, 0, 145, 192, 3, 95, 214])),
    (27, .cells 62 true [.int .u8 183, .int .u8 0, .int .u8 0, .int .i16 0, .int .i32 3, .int .u8 149, .int .u8 0, .int .u8 0, .int .i16 0, .int .i32 0]),
    (28, .cells 62 true [.int .u8 183, .int .u8 0, .int .u8 0, .int .i16 0, .int .i32 3, .int .u8 149, .int .u8 0, .int .u8 0, .int .i16 0, .int .i32 0]),
    (29, .cells 164 false [.slice (some (40, 0)) 2 2 false]),
    (30, .cells 5 true (u8s [64, 85, 72, 189, 0, 2, 0, 0, 2, 0, 0, 0, 232, 3, 0, 0, 0, 64, 93, 195, 64, 83, 64, 85, 65, 85, 65, 86, 65, 87, 73, 187, 0, 0, 0, 0, 1, 0, 0, 0, 76, 1, 221, 72, 199, 192, 3, 0, 0, 0, 65, 95, 65, 94, 65, 93, 64, 93, 64, 91, 195])),
    (31, .cells 5 true (u8s [255, 67, 0, 209, 249, 3, 0, 249, 254, 7, 0, 249, 25, 64, 128, 210, 89, 0, 192, 242, 6, 0, 0, 148, 249, 3, 64, 249, 254, 7, 64, 249, 255, 67, 0, 145, 224, 3, 7, 170, 192, 3, 95, 214, 255, 195, 0, 209, 243, 3, 0, 249, 244, 7, 0, 249, 245, 11, 0, 249, 246, 15, 0, 249, 249, 19, 0, 249, 254, 23, 0, 249, 9, 0, 128, 210, 41, 0, 192, 242, 57, 3, 9, 139, 105, 0, 128, 210, 231, 3, 9, 170, 243, 3, 64, 249, 244, 7, 64, 249, 245, 11, 64, 249, 246, 15, 64, 249, 249, 19, 64, 249, 254, 23, 64, 249, 255, 195, 0, 145, 192, 3, 95, 214])),
    (32, .cells 62 true [.int .u8 183, .int .u8 0, .int .u8 0, .int .i16 0, .int .i32 4, .int .u8 149, .int .u8 0, .int .u8 0, .int .i16 0, .int .i32 0]),
    (33, .cells 62 true [.int .u8 183, .int .u8 0, .int .u8 0, .int .i16 0, .int .i32 4, .int .u8 149, .int .u8 0, .int .u8 0, .int .i16 0, .int .i32 0]),
    (34, .cells 164 false [.slice (some (41, 0)) 2 2 false]),
    (35, .cells 5 true (u8s [64, 85, 72, 189, 0, 2, 0, 0, 2, 0, 0, 0, 232, 3, 0, 0, 0, 64, 93, 195, 64, 83, 64, 85, 65, 85, 65, 86, 65, 87, 73, 187, 0, 0, 0, 0, 1, 0, 0, 0, 76, 1, 221, 72, 199, 192, 4, 0, 0, 0, 65, 95, 65, 94, 65, 93, 64, 93, 64, 91, 195])),
    (36, .cells 5 true (u8s [255, 67, 0, 209, 249, 3, 0, 249, 254, 7, 0, 249, 25, 64, 128, 210, 89, 0, 192, 242, 6, 0, 0, 148, 249, 3, 64, 249, 254, 7, 64, 249, 255, 67, 0, 145, 224, 3, 7, 170, 192, 3, 95, 214, 255, 195, 0, 209, 243, 3, 0, 249, 244, 7, 0, 249, 245, 11, 0, 249, 246, 15, 0, 249, 249, 19, 0, 249, 254, 23, 0, 249, 9, 0, 128, 210, 41, 0, 192, 242, 57, 3, 9, 139, 137, 0, 128, 210, 231, 3, 9, 170, 243, 3, 64, 249, 244, 7, 64, 249, 245, 11, 64, 249, 246, 15, 64, 249, 249, 19, 64, 249, 254, 23, 64, 249, 255, 195, 0, 145, 192, 3, 95, 214])),
    (37, .cells 168 true [.func 125 [] [], .int .u8 0, .int .u8 0, .bool false, .bool false, .bool true, .int .i64 176, .int .i64 0, .int .u64 0, .int .u64 0, .int .i64 0, .int .i64 0, .func 127 [] [], .int .u8 0, .int .u8 0, .bool false, .bool false, .bool true, .int .i64 144, .int .i64 0, .int .u64 0, .int .u64 0, .int .i64 0, .int .i64 1]),
    (38, .cells 168 true [.func 125 [] [], .int .u8 0, .int .u8 0, .bool false, .bool false, .bool true, .int .i64 176, .int .i64 0, .int .u64 1, .int .u64 0, .int .i64 0, .int .i64 0, .func 127 [] [], .int .u8 0, .int .u8 0, .bool false, .bool false, .bool true, .int .i64 144, .int .i64 0, .int .u64 0, .int .u64 0, .int .i64 0, .int .i64 1]),
    (39, .cells 168 true [.func 125 [] [], .int .u8 0, .int .u8 0, .bool false, .bool false, .bool true, .int .i64 176, .int .i64 0, .int .u64 2, .int .u64 0, .int .i64 0, .int .i64 0, .func 127 [] [], .int .u8 0, .int .u8 0, .bool false, .bool false, .bool true, .int .i64 144, .int .i64 0, .int .u64 0, .int .u64 0, .int .i64 0, .int .i64 1]),
    (40, .cells 168 true [.func 125 [] [], .int .u8 0, .int .u8 0, .bool false, .bool false, .bool true, .int .i64 176, .int .i64 0, .int .u64 3, .int .u64 0, .int .i64 0, .int .i64 0, .func 127 [] [], .int .u8 0, .int .u8 0, .bool false, .bool false, .bool true, .int .i64 144, .int .i64 0, .int .u64 0, .int .u64 0, .int .i64 0, .int .i64 1]),
    (41, .cells 168 true [.func 125 [] [], .int .u8 0, .int .u8 0, .bool false, .bool false, .bool true, .int .i64 176, .int .i64 0, .int .u64 4, .int .u64 0, .int .i64 0, .int .i64 0, .func 127 [] [], .int .u8 0, .int .u8 0, .bool false, .bool false, .bool true, .int .i64 144, .int .i64 0, .int .u64 0, .int .u64 0, .int .i64 0, .int .i64 1])]
/-- the host, k programs' worth attached (0: none), before any run (false) or after one -/
def hostO (v : Bool) (k : Nat) : List (Nat × Lay) :=
  (8, .cells 80 false [.ptr (some (9, 0)), .ptr (some (10, 0)), .slice none 0 0 true, .slice (some (11, 0)) 5 5 false, .int .i64 (.ofNat k), .int .i64 0]) ::
  (bif v then [(42, .cells 282 true []), (9, .cells 230 false [.slice (some (42, 0)) 0 0 true, .sym 1 0])] else [(9, .cells 230 false [.slice none 0 0 true, .int .i64 0])]) ++ tailO
def nowOf : Nat → Int
  | 0 => -1
  | k + 1 => .ofNat k
def told (v : Bool) (k : Nat) : AE.Told := { T := [(5, .ptr (some (8, 0))), (10, .int .i64 (nowOf k))], n := 126, O := hostO v k, next := 43 }
/-- the temporaries that count -/
def LT (m : Int) (y : AV) (n i k : Nat) : List (Nat × AV) := [(1, .int .i64 m), (53, y), (54, .int .i64 (.ofNat n)), (55, .int .i64 (.ofNat i)), (5, .ptr (some (8, 0))), (10, .int .i64 (nowOf k))]
noncomputable def HO (v : Bool) (k : Nat) : Heap := { m := mkHeap (hostO v k), next := 43 }
noncomputable def callF : CallF := (FE.both Tryz.prog X2 20000).call
noncomputable def loopF : Code → St → FE.R := (FE.both Tryz.prog X2 20000).loop
noncomputable def sA (m : Int) (y : AV) : St := { T := startT [y, .int .i64 m] 0 .leaf, n := 126, ds := [], H := ⟨.leaf, 8⟩ }
def sigA : List Nat := [10, 8, 9, 22970, 99, 408, 455, 2522, 4590, 4691, 5000, 5047, 7114, 9182, 9283, 9592, 9639, 11706, 13774, 13875, 14184, 14231, 16298, 18366, 18467, 18776, 18823, 20890, 22958, 553, 5145, 9737, 14329, 18921, 1000000]
def sigW : Nat → List Nat
  | w => [8, 9, 10, 11, 12, 13, 14, 15, 16, 17, 18, 19, 20, 21, 22, 23, 24, 25, 26, 27, 28, 29, 30, 31, 32, 33, 34, 35, 36, 37, 38, 39, 40, 41] ++ [match w with | 0 => 940 | 1 => 1118 | 2 => 3185 | _ => 4799]
def delW : Nat → Nat
  | 0 => 6
  | 1 => 8
  | _ => 9
end Sw
/- WholeSwaps: small pieces, whatever the heap. Conditions: none. -/
namespace Sw
open Go Go.Proofs Go.RowKit AE
def tsL : List Nat := [1, 53, 54, 55, 5, 10]
def ysL (m : Int) (y : AV) (n i k : Nat) : List AV := [.int .i64 m, y, .int .i64 (.ofNat n), .int .i64 (.ofNat i), .ptr (some (8, 0)), .int .i64 (nowOf k)]
variable (m : Int) (y : AV) (n i k : Nat) (H : Heap)
theorem r14 : outH (codeL Tryz.prog callF loopF [c14] (AE.cut 126 (LT m y n i k) H)) 126 (56 :: tsL) = some (.normal, .bool (FE.lt i n) :: ysL m y n i k, H) := by kernel_rfl
theorem r56_in : outH (codeL Tryz.prog callF loopF [c56] (AE.cut 126 ((56, .bool true) :: LT m y n i k) H)) 126 tsL = some (.normal, ysL m y n i k, H) := by kernel_rfl
theorem r56_out : outH (codeL Tryz.prog callF loopF [c56] (AE.cut 126 ((56, .bool false) :: LT m y n i k) H)) 126 tsL = some (.exit 2, ysL m y n i k, H) := by kernel_rfl
theorem r32 : outH (codeL Tryz.prog callF loopF [c32] (AE.cut 126 (LT m y n i k) H)) 126 tsL = some (.normal, [.int .i64 m, y, .int .i64 (.ofNat n), .int .i64 (FE.wrap .i64 (.ofNat (Nat.add i 1))), .ptr (some (8, 0)), .int .i64 (nowOf k)], H) := by kernel_rfl
variable (z : Int)
theorem r16 : outH (codeL Tryz.prog callF loopF [c16] (AE.cut 126 ((12, .int .i64 z) :: (11, .int .i64 (.ofNat i)) :: LT m y n i k) H)) 126 (61 :: 12 :: 11 :: tsL) = some (.normal, .bool (Nat.ble 20 i) :: .int .i64 z :: .int .i64 (.ofNat i) :: ysL m y n i k, H) := by kernel_rfl
theorem r61_in : outH (codeL Tryz.prog callF loopF [c61] (AE.cut 126 ((61, .bool false) :: (12, .int .i64 z) :: (11, .int .i64 (.ofNat i)) :: LT m y n i k) H)) 126 (12 :: 11 :: tsL) = some (.normal, .int .i64 z :: .int .i64 (.ofNat i) :: ysL m y n i k, H) := by kernel_rfl
theorem r61_out : outH (codeL Tryz.prog callF loopF [c61] (AE.cut 126 ((61, .bool true) :: (12, .int .i64 z) :: (11, .int .i64 (.ofNat i)) :: LT m y n i k) H)) 126 tsL = some (.exit 2, ysL m y n i k, H) := by kernel_rfl
theorem r17 : outH (codeL Tryz.prog callF loopF [c17] (AE.cut 126 ((12, .int .i64 z) :: (11, .int .i64 (.ofNat i)) :: LT m y n i k) H)) 126 (13 :: 11 :: tsL) = some (.normal, .int .i64 (FE.wrap .i64 ((FE.wrap .u64 z).tmod 7)) :: .int .i64 (.ofNat i) :: ysL m y n i k, H) := by kernel_rfl
/-- the state in region 26, once the way is chosen -/
noncomputable def mid26 (x x' x'' : AV) : St :=
  FE.set (FE.set (FE.set (FE.set (FE.set (FE.set (AE.cut 126 ((11, .int .i64 (.ofNat i)) :: LT m y n i k) H) (some 85) (.ptr (some (8, 0)))) (some 86) (.int .i64 m)) (some 87) (.int .i64 (.ofNat i))) (some 88) x) (some 89) x') (some 90) x''
noncomputable def way26 (m : Int) (i : Nat) : Int := FE.wrap .i64 (FE.add m ((Int.ofNat i).tmod 4))
noncomputable def way (m : Int) : Int := FE.wrap .i64 ((FE.wrap .u64 m).tmod 4)
theorem r26 : FE.opsL Tryz.prog callF (ops 5) ((ops 5).toList.take 6) (AE.cut 126 ((11, .int .i64 (.ofNat i)) :: LT m y n i k) H) = some (mid26 m y n i k H (.int .i64 ((Int.ofNat i).tmod 4)) (.int .i64 (way26 m i)) (.int .i64 (way (way26 m i)))) := by kernel_rfl
noncomputable def mid29 (x : AV) : St :=
  FE.set (FE.set (FE.set (AE.cut 126 (LT m y n i k) H) (some 117) (.ptr (some (8, 0)))) (some 118) (.int .i64 m)) (some 119) x
theorem r29 : FE.opsL Tryz.prog callF (ops 8) ((ops 8).toList.take 3) (AE.cut 126 (LT m y n i k) H) = some (mid29 m y n i k H (.int .i64 (way m))) := by kernel_rfl
end Sw
