/- The data of calls that were run once (WholeSwaps). Conditions: none. -/
import Derived.Test.YtandggoanbdjkaaGreatDoorWAEC
namespace Sw
open AE

def u8s : List Nat → List AV
  | [] => []
  | n :: l => .int .u8 (.ofNat n) :: u8s l

def cVerify2 : Canon where
  args := [.slice (some (0, 0)) 2 2 false, .int .i64 0, .slice none 0 0 true]
  m := 1
  O := [(0, .cells 62 true [.int .u8 183, .int .u8 0, .int .u8 0, .int .i16 0, .int .i32 2, .int .u8 149, .int .u8 0, .int .u8 0, .int .i16 0, .int .i32 0])]
  v := .tuple [.slice (some (119, 0)) 2 2 true, .int .i64 2, .int .i64 0]
  R := [(0, .cells 62 true [.int .u8 183, .int .u8 0, .int .u8 0, .int .i16 0, .int .i32 2, .int .u8 149, .int .u8 0, .int .u8 0, .int .i16 0, .int .i32 0]),
    (119, .cells 150 false [.bool true, .bool false, .int .i64 0, .bool true, .bool false, .int .i64 0])]
  next := 120

def cPrune2 : Canon where
  args := [.slice (some (0, 0)) 2 2 false, .slice (some (1, 0)) 2 2 true]
  m := 2
  O := [(0, .cells 62 true [.int .u8 183, .int .u8 0, .int .u8 0, .int .i16 0, .int .i32 2, .int .u8 149, .int .u8 0, .int .u8 0, .int .i16 0, .int .i32 0]),
    (1, .cells 150 false [.bool true, .bool false, .int .i64 0, .bool true, .bool false, .int .i64 0])]
  v := .tuple [.slice (some (133, 0)) 2 2 false, .slice (some (134, 0)) 2 2 false, .int .i64 0]
  R := [(0, .cells 62 true [.int .u8 183, .int .u8 0, .int .u8 0, .int .i16 0, .int .i32 2, .int .u8 149, .int .u8 0, .int .u8 0, .int .i16 0, .int .i32 0]),
    (1, .cells 150 false [.bool true, .bool false, .int .i64 0, .bool true, .bool false, .int .i64 0]),
    (133, .cells 62 true [.int .u8 183, .int .u8 0, .int .u8 0, .int .i16 0, .int .i32 2, .int .u8 149, .int .u8 0, .int .u8 0, .int .i16 0, .int .i32 0]),
    (134, .cells 150 true [.bool true, .bool false, .int .i64 0, .bool true, .bool false, .int .i64 0])]
  next := 135

def cFix2 : Canon where
  args := [.slice (some (0, 0)) 2 2 false, .slice (some (1, 0)) 2 2 false, .slice none 0 0 true]
  m := 2
  O := [(0, .cells 62 true [.int .u8 183, .int .u8 0, .int .u8 0, .int .i16 0, .int .i32 2, .int .u8 149, .int .u8 0, .int .u8 0, .int .i16 0, .int .i32 0]),
    (1, .cells 150 true [.bool true, .bool false, .int .i64 0, .bool true, .bool false, .int .i64 0])]
  v := .tuple [.slice (some (57, 0)) 2 2 false, .int .i64 0]
  R := [(0, .cells 62 true [.int .u8 183, .int .u8 0, .int .u8 0, .int .i16 0, .int .i32 2, .int .u8 149, .int .u8 0, .int .u8 0, .int .i16 0, .int .i32 0]),
    (1, .cells 150 true [.bool true, .bool false, .int .i64 0, .bool true, .bool false, .int .i64 0]),
    (57, .cells 62 true [.int .u8 183, .int .u8 0, .int .u8 0, .int .i16 0, .int .i32 2, .int .u8 149, .int .u8 0, .int .u8 0, .int .i16 0, .int .i32 0])]
  next := 58

def cInterp2 : Canon where
  args := [.slice (some (0, 0)) 2 2 false]
  m := 1
  O := [(0, .cells 62 true [.int .u8 183, .int .u8 0, .int .u8 0, .int .i16 0, .int .i32 2, .int .u8 149, .int .u8 0, .int .u8 0, .int .i16 0, .int .i32 0])]
  v := .tuple [.ptr (some (47, 0)), .int .i64 0]
  R := [(0, .cells 62 true [.int .u8 183, .int .u8 0, .int .u8 0, .int .i16 0, .int .i32 2, .int .u8 149, .int .u8 0, .int .u8 0, .int .i16 0, .int .i32 0]),
    (47, .cells 164 false [.slice (some (145, 0)) 2 2 false]),
    (145, .cells 168 true [.func 125 [] [], .int .u8 0, .int .u8 0, .bool false, .bool false, .bool true, .int .i64 176, .int .i64 0, .int .u64 2, .int .u64 0, .int .i64 0, .int .i64 0, .func 127 [] [], .int .u8 0, .int .u8 0, .bool false, .bool false, .bool true, .int .i64 144, .int .i64 0, .int .u64 0, .int .u64 0, .int .i64 0, .int .i64 1])]
  next := 146

def cJitx2 : Canon where
  args := [.slice (some (0, 0)) 2 2 false]
  m := 1
  O := [(0, .cells 62 true [.int .u8 183, .int .u8 0, .int .u8 0, .int .i16 0, .int .i32 2, .int .u8 149, .int .u8 0, .int .u8 0, .int .i16 0, .int .i32 0])]
  v := .tuple [.slice (some (1969, 0)) 61 61 false, .int .i64 0]
  R := [(0, .cells 62 true [.int .u8 183, .int .u8 0, .int .u8 0, .int .i16 0, .int .i32 2, .int .u8 149, .int .u8 0, .int .u8 0, .int .i16 0, .int .i32 0]),
    (1969, .cells 5 true (u8s [64, 85, 72, 189, 0, 2, 0, 0, 2, 0, 0, 0, 232, 3, 0, 0, 0, 64, 93, 195, 64, 83, 64, 85, 65, 85, 65, 86, 65, 87, 73, 187, 0, 0, 0, 0, 1, 0, 0, 0, 76, 1, 221, 72, 199, 192, 2, 0, 0, 0, 65, 95, 65, 94, 65, 93, 64, 93, 64, 91, 195]))]
  next := 1970

def cJita2 : Canon where
  args := [.slice (some (0, 0)) 2 2 false]
  m := 1
  O := [(0, .cells 62 true [.int .u8 183, .int .u8 0, .int .u8 0, .int .i16 0, .int .i32 2, .int .u8 149, .int .u8 0, .int .u8 0, .int .i16 0, .int .i32 0])]
  v := .tuple [.slice (some (2068, 0)) 124 124 false, .int .i64 0]
  R := [(0, .cells 62 true [.int .u8 183, .int .u8 0, .int .u8 0, .int .i16 0, .int .i32 2, .int .u8 149, .int .u8 0, .int .u8 0, .int .i16 0, .int .i32 0]),
    (2068, .cells 5 true (u8s [255, 67, 0, 209, 249, 3, 0, 249, 254, 7, 0, 249, 25, 64, 128, 210, 89, 0, 192, 242, 6, 0, 0, 148, 249, 3, 64, 249, 254, 7, 64, 249, 255, 67, 0, 145, 224, 3, 7, 170, 192, 3, 95, 214, 255, 195, 0, 209, 243, 3, 0, 249, 244, 7, 0, 249, 245, 11, 0, 249, 246, 15, 0, 249, 249, 19, 0, 249, 254, 23, 0, 249, 9, 0, 128, 210, 41, 0, 192, 242, 57, 3, 9, 139, 73, 0, 128, 210, 231, 3, 9, 170, 243, 3, 64, 249, 244, 7, 64, 249, 245, 11, 64, 249, 246, 15, 64, 249, 249, 19, 64, 249, 254, 23, 64, 249, 255, 195, 0, 145, 192, 3, 95, 214]))]
  next := 2069

def cXsix2 : Canon where
  args := [.slice (some (0, 0)) 61 61 false, .ptr (some (1, 0))]
  m := 14
  O := [(0, .cells 5 true (u8s [64, 85, 72, 189, 0, 2, 0, 0, 2, 0, 0, 0, 232, 3, 0, 0, 0, 64, 93, 195, 64, 83, 64, 85, 65, 85, 65, 86, 65, 87, 73, 187, 0, 0, 0, 0, 1, 0, 0, 0, 76, 1, 221, 72, 199, 192, 2, 0, 0, 0, 65, 95, 65, 94, 65, 93, 64, 93, 64, 91, 195])),
    (1, .cells 203 false [.ptr (some (2, 0)), .ptr (some (3, 0)), .ptr (some (4, 0)), .int .i64 0, .slice none 0 0 true, .bool true, .slice (some (5, 0)) 2 2 false, .slice (some (6, 0)) 65 65 false, .int .i64 64, .int .i64 16, .slice none 0 0 true]),
    (2, .cells 219 false [.ptr (some (3, 0)), .slice none 0 0 true]),
    (3, .cells 230 false [.slice (some (7, 0)) 3 3 false, .int .i64 18]),
    (4, .cells 281 false [.ptr (some (3, 0)), .int .i64 0, .int .i64 0, .int .i64 0, .int .i64 0, .int .i64 0, .int .i64 0, .int .i64 0, .int .i64 0, .slice none 0 0 true]),
    (5, .cells 3 true [.int .i64 16, .int .i64 17]),
    (6, .cells 5 true (u8s [0, 0, 0, 0, 0, 0, 0, 0, 0, 0, 0, 0, 0, 0, 0, 0, 0, 0, 0, 0, 0, 0, 0, 0, 0, 0, 0, 0, 0, 0, 0, 0, 0, 0, 0, 0, 0, 0, 0, 0, 0, 0, 0, 0, 0, 0, 0, 0, 0, 0, 0, 0, 0, 0, 0, 0, 0, 0, 0, 0, 0, 0, 0, 0, 7])),
    (7, .cells 282 true [.ptr (some (8, 0)), .ptr (some (9, 0)), .ptr (some (10, 0))]),
    (8, .cells 284 false [.int .i64 15, .int .u64 8589934656, .int .i64 3, .slice (some (11, 0)) 1 1 true, .slice none 0 0 true]),
    (9, .cells 284 false [.int .i64 16, .int .u64 4294967296, .int .i64 3, .slice (some (12, 0)) 4 4 true, .slice none 0 0 true]),
    (10, .cells 284 false [.int .i64 17, .int .u64 4294967300, .int .i64 1, .slice (some (13, 0)) 20 20 true, .slice none 0 0 true]),
    (11, .cells 5 false [.int .u8 7]),
    (12, .cells 5 false (u8s [9, 0, 0, 0])),
    (13, .cells 5 false (u8s [1, 0, 0, 0, 64, 0, 0, 0, 2, 0, 0, 0, 65, 0, 0, 0, 2, 0, 0, 0]))]
  v := .agg [.int .u64 2, .int .i64 19, .int .i64 0, .int .i64 0]
  R := [(0, .cells 5 true (u8s [64, 85, 72, 189, 0, 2, 0, 0, 2, 0, 0, 0, 232, 3, 0, 0, 0, 64, 93, 195, 64, 83, 64, 85, 65, 85, 65, 86, 65, 87, 73, 187, 0, 0, 0, 0, 1, 0, 0, 0, 76, 1, 221, 72, 199, 192, 2, 0, 0, 0, 65, 95, 65, 94, 65, 93, 64, 93, 64, 91, 195])),
    (1, .cells 203 false [.ptr (some (2, 0)), .ptr (some (3, 0)), .ptr (some (4, 0)), .int .i64 0, .slice none 0 0 true, .bool true, .slice (some (5, 0)) 2 2 false, .slice (some (6, 0)) 65 65 false, .int .i64 64, .int .i64 16, .slice none 0 0 true]),
    (2, .cells 219 false [.ptr (some (3, 0)), .slice none 0 0 true]),
    (3, .cells 230 false [.slice (some (2696, 0)) 3 3 true, .int .i64 23]),
    (4, .cells 281 false [.ptr (some (3, 0)), .int .i64 0, .int .i64 0, .int .i64 0, .int .i64 0, .int .i64 0, .int .i64 0, .int .i64 0, .int .i64 0, .slice none 0 0 true]),
    (5, .cells 3 true [.int .i64 16, .int .i64 17]),
    (6, .cells 5 true (u8s [0, 0, 0, 0, 0, 0, 0, 0, 0, 0, 0, 0, 0, 0, 0, 0, 0, 0, 0, 0, 0, 0, 0, 0, 0, 0, 0, 0, 0, 0, 0, 0, 0, 0, 0, 0, 0, 0, 0, 0, 0, 0, 0, 0, 0, 0, 0, 0, 0, 0, 0, 0, 0, 0, 0, 0, 0, 0, 0, 0, 0, 0, 0, 0, 7])),
    (8, .cells 284 false [.int .i64 15, .int .u64 8589934656, .int .i64 3, .slice (some (11, 0)) 1 1 true, .slice none 0 0 true]),
    (9, .cells 284 false [.int .i64 16, .int .u64 4294967296, .int .i64 3, .slice (some (12, 0)) 4 4 true, .slice none 0 0 true]),
    (10, .cells 284 false [.int .i64 17, .int .u64 4294967300, .int .i64 1, .slice (some (13, 0)) 20 20 true, .slice none 0 0 true]),
    (11, .cells 5 false [.int .u8 7]),
    (12, .cells 5 false (u8s [9, 0, 0, 0])),
    (13, .cells 5 false (u8s [1, 0, 0, 0, 64, 0, 0, 0, 2, 0, 0, 0, 65, 0, 0, 0, 2, 0, 0, 0])),
    (2696, .cells 282 true [.ptr (some (8, 0)), .ptr (some (9, 0)), .ptr (some (10, 0)), .ptr (some (636, 0))]),
    (636, .cells 284 false [.int .i64 22, .int .u64 25769803776, .int .i64 3, .slice (some (634, 0)) 512 512 true, .slice none 0 0 true]),
    (634, .cells 5 false (u8s [0, 0, 0, 0, 0, 0, 0, 0, 0, 0, 0, 0, 0, 0, 0, 0, 0, 0, 0, 0, 0, 0, 0, 0, 0, 0, 0, 0, 0, 0, 0, 0, 0, 0, 0, 0, 0, 0, 0, 0, 0, 0, 0, 0, 0, 0, 0, 0, 0, 0, 0, 0, 0, 0, 0, 0, 0, 0, 0, 0, 0, 0, 0, 0, 0, 0, 0, 0, 0, 0, 0, 0, 0, 0, 0, 0, 0, 0, 0, 0, 0, 0, 0, 0, 0, 0, 0, 0, 0, 0, 0, 0, 0, 0, 0, 0, 0, 0, 0, 0, 0, 0, 0, 0, 0, 0, 0, 0, 0, 0, 0, 0, 0, 0, 0, 0, 0, 0, 0, 0, 0, 0, 0, 0, 0, 0, 0, 0, 0, 0, 0, 0, 0, 0, 0, 0, 0, 0, 0, 0, 0, 0, 0, 0, 0, 0, 0, 0, 0, 0, 0, 0, 0, 0, 0, 0, 0, 0, 0, 0, 0, 0, 0, 0, 0, 0, 0, 0, 0, 0, 0, 0, 0, 0, 0, 0, 0, 0, 0, 0, 0, 0, 0, 0, 0, 0, 0, 0, 0, 0, 0, 0, 0, 0, 0, 0, 0, 0, 0, 0, 0, 0, 0, 0, 0, 0, 0, 0, 0, 0, 0, 0, 0, 0, 0, 0, 0, 0, 0, 0, 0, 0, 0, 0, 0, 0, 0, 0, 0, 0, 0, 0, 0, 0, 0, 0, 0, 0, 0, 0, 0, 0, 0, 0, 0, 0, 0, 0, 0, 0, 0, 0, 0, 0, 0, 0, 0, 0, 0, 0, 0, 0, 0, 0, 0, 0, 0, 0, 0, 0, 0, 0, 0, 0, 0, 0, 0, 0, 0, 0, 0, 0, 0, 0, 0, 0, 0, 0, 0, 0, 0, 0, 0, 0, 0, 0, 0, 0, 0, 0, 0, 0, 0, 0, 0, 0, 0, 0, 0, 0, 0, 0, 0, 0, 0, 0, 0, 0, 0, 0, 0, 0, 0, 0, 0, 0, 0, 0, 0, 0, 0, 0, 0, 0, 0, 0, 0, 0, 0, 0, 0, 0, 0, 0, 0, 0, 0, 0, 0, 0, 0, 0, 0, 0, 0, 0, 0, 0, 0, 0, 0, 0, 0, 0, 0, 0, 0, 0, 0, 0, 0, 0, 0, 0, 0, 0, 0, 0, 0, 0, 0, 0, 0, 0, 0, 0, 0, 0, 0, 0, 0, 0, 0, 0, 0, 0, 0, 0, 0, 0, 0, 0, 0, 0, 0, 0, 0, 0, 0, 0, 0, 0, 0, 0, 0, 0, 0, 0, 0, 0, 0, 0, 0, 0, 0, 0, 0, 0, 0, 0, 0, 0, 0, 0, 0, 0, 0, 0, 0, 0, 0, 0, 0, 0, 0, 0, 0, 0, 0, 0, 0, 0, 0, 0, 0, 0, 0, 0, 0, 0, 0, 0, 0, 0, 0, 0, 0, 0, 0, 0, 0, 0, 0, 0, 0, 0, 0, 0, 0, 0, 0, 0, 0, 0, 0, 0, 0, 0, 0, 0, 0, 0, 0, 0, 0, 0, 0, 0, 0, 0, 0, 0, 0, 0, 0, 0, 0, 0, 0, 0, 0, 0]))]
  next := 2697

def cArm2 : Canon where
  args := [.slice (some (0, 0)) 124 124 false, .ptr (some (1, 0))]
  m := 14
  O := [(0, .cells 5 true (u8s [255, 67, 0, 209, 249, 3, 0, 249, 254, 7, 0, 249, 25, 64, 128, 210, 89, 0, 192, 242, 6, 0, 0, 148, 249, 3, 64, 249, 254, 7, 64, 249, 255, 67, 0, 145, 224, 3, 7, 170, 192, 3, 95, 214, 255, 195, 0, 209, 243, 3, 0, 249, 244, 7, 0, 249, 245, 11, 0, 249, 246, 15, 0, 249, 249, 19, 0, 249, 254, 23, 0, 249, 9, 0, 128, 210, 41, 0, 192, 242, 57, 3, 9, 139, 73, 0, 128, 210, 231, 3, 9, 170, 243, 3, 64, 249, 244, 7, 64, 249, 245, 11, 64, 249, 246, 15, 64, 249, 249, 19, 64, 249, 254, 23, 64, 249, 255, 195, 0, 145, 192, 3, 95, 214])),
    (1, .cells 203 false [.ptr (some (2, 0)), .ptr (some (3, 0)), .ptr (some (4, 0)), .int .i64 0, .slice none 0 0 true, .bool true, .slice (some (5, 0)) 2 2 false, .slice (some (6, 0)) 65 65 false, .int .i64 64, .int .i64 25, .slice none 0 0 true]),
    (2, .cells 219 false [.ptr (some (3, 0)), .slice none 0 0 true]),
    (3, .cells 230 false [.slice (some (7, 0)) 3 3 false, .int .i64 27]),
    (4, .cells 281 false [.ptr (some (3, 0)), .int .i64 0, .int .i64 0, .int .i64 0, .int .i64 0, .int .i64 0, .int .i64 0, .int .i64 0, .int .i64 0, .slice none 0 0 true]),
    (5, .cells 3 true [.int .i64 25, .int .i64 26]),
    (6, .cells 5 true (u8s [0, 0, 0, 0, 0, 0, 0, 0, 0, 0, 0, 0, 0, 0, 0, 0, 0, 0, 0, 0, 0, 0, 0, 0, 0, 0, 0, 0, 0, 0, 0, 0, 0, 0, 0, 0, 0, 0, 0, 0, 0, 0, 0, 0, 0, 0, 0, 0, 0, 0, 0, 0, 0, 0, 0, 0, 0, 0, 0, 0, 0, 0, 0, 0, 7])),
    (7, .cells 282 true [.ptr (some (8, 0)), .ptr (some (9, 0)), .ptr (some (10, 0))]),
    (8, .cells 284 false [.int .i64 24, .int .u64 8589934656, .int .i64 3, .slice (some (11, 0)) 1 1 true, .slice none 0 0 true]),
    (9, .cells 284 false [.int .i64 25, .int .u64 4294967296, .int .i64 3, .slice (some (12, 0)) 4 4 true, .slice none 0 0 true]),
    (10, .cells 284 false [.int .i64 26, .int .u64 4294967300, .int .i64 1, .slice (some (13, 0)) 20 20 true, .slice none 0 0 true]),
    (11, .cells 5 false [.int .u8 7]),
    (12, .cells 5 false (u8s [9, 0, 0, 0])),
    (13, .cells 5 false (u8s [1, 0, 0, 0, 64, 0, 0, 0, 2, 0, 0, 0, 65, 0, 0, 0, 2, 0, 0, 0]))]
  v := .agg [.int .u64 2, .int .i64 31, .int .i64 0, .int .i64 0]
  R := [(0, .cells 5 true (u8s [255, 67, 0, 209, 249, 3, 0, 249, 254, 7, 0, 249, 25, 64, 128, 210, 89, 0, 192, 242, 6, 0, 0, 148, 249, 3, 64, 249, 254, 7, 64, 249, 255, 67, 0, 145, 224, 3, 7, 170, 192, 3, 95, 214, 255, 195, 0, 209, 243, 3, 0, 249, 244, 7, 0, 249, 245, 11, 0, 249, 246, 15, 0, 249, 249, 19, 0, 249, 254, 23, 0, 249, 9, 0, 128, 210, 41, 0, 192, 242, 57, 3, 9, 139, 73, 0, 128, 210, 231, 3, 9, 170, 243, 3, 64, 249, 244, 7, 64, 249, 245, 11, 64, 249, 246, 15, 64, 249, 249, 19, 64, 249, 254, 23, 64, 249, 255, 195, 0, 145, 192, 3, 95, 214])),
    (1, .cells 203 false [.ptr (some (2, 0)), .ptr (some (3, 0)), .ptr (some (4, 0)), .int .i64 0, .slice none 0 0 true, .bool true, .slice (some (5, 0)) 2 2 false, .slice (some (6, 0)) 65 65 false, .int .i64 64, .int .i64 25, .slice none 0 0 true]),
    (2, .cells 219 false [.ptr (some (3, 0)), .slice none 0 0 true]),
    (3, .cells 230 false [.slice (some (4310, 0)) 3 3 true, .int .i64 32]),
    (4, .cells 281 false [.ptr (some (3, 0)), .int .i64 0, .int .i64 0, .int .i64 0, .int .i64 0, .int .i64 0, .int .i64 0, .int .i64 0, .int .i64 0, .slice none 0 0 true]),
    (5, .cells 3 true [.int .i64 25, .int .i64 26]),
    (6, .cells 5 true (u8s [0, 0, 0, 0, 0, 0, 0, 0, 0, 0, 0, 0, 0, 0, 0, 0, 0, 0, 0, 0, 0, 0, 0, 0, 0, 0, 0, 0, 0, 0, 0, 0, 0, 0, 0, 0, 0, 0, 0, 0, 0, 0, 0, 0, 0, 0, 0, 0, 0, 0, 0, 0, 0, 0, 0, 0, 0, 0, 0, 0, 0, 0, 0, 0, 7])),
    (8, .cells 284 false [.int .i64 24, .int .u64 8589934656, .int .i64 3, .slice (some (11, 0)) 1 1 true, .slice none 0 0 true]),
    (9, .cells 284 false [.int .i64 25, .int .u64 4294967296, .int .i64 3, .slice (some (12, 0)) 4 4 true, .slice none 0 0 true]),
    (10, .cells 284 false [.int .i64 26, .int .u64 4294967300, .int .i64 1, .slice (some (13, 0)) 20 20 true, .slice none 0 0 true]),
    (11, .cells 5 false [.int .u8 7]),
    (12, .cells 5 false (u8s [9, 0, 0, 0])),
    (13, .cells 5 false (u8s [1, 0, 0, 0, 64, 0, 0, 0, 2, 0, 0, 0, 65, 0, 0, 0, 2, 0, 0, 0])),
    (4310, .cells 282 true [.ptr (some (8, 0)), .ptr (some (9, 0)), .ptr (some (10, 0)), .ptr (some (636, 0))]),
    (636, .cells 284 false [.int .i64 31, .int .u64 25769803776, .int .i64 3, .slice (some (634, 0)) 512 512 true, .slice none 0 0 true]),
    (634, .cells 5 false (u8s [0, 0, 0, 0, 0, 0, 0, 0, 0, 0, 0, 0, 0, 0, 0, 0, 0, 0, 0, 0, 0, 0, 0, 0, 0, 0, 0, 0, 0, 0, 0, 0, 0, 0, 0, 0, 0, 0, 0, 0, 0, 0, 0, 0, 0, 0, 0, 0, 0, 0, 0, 0, 0, 0, 0, 0, 0, 0, 0, 0, 0, 0, 0, 0, 0, 0, 0, 0, 0, 0, 0, 0, 0, 0, 0, 0, 0, 0, 0, 0, 0, 0, 0, 0, 0, 0, 0, 0, 0, 0, 0, 0, 0, 0, 0, 0, 0, 0, 0, 0, 0, 0, 0, 0, 0, 0, 0, 0, 0, 0, 0, 0, 0, 0, 0, 0, 0, 0, 0, 0, 0, 0, 0, 0, 0, 0, 0, 0, 0, 0, 0, 0, 0, 0, 0, 0, 0, 0, 0, 0, 0, 0, 0, 0, 0, 0, 0, 0, 0, 0, 0, 0, 0, 0, 0, 0, 0, 0, 0, 0, 0, 0, 0, 0, 0, 0, 0, 0, 0, 0, 0, 0, 0, 0, 0, 0, 0, 0, 0, 0, 0, 0, 0, 0, 0, 0, 0, 0, 0, 0, 0, 0, 0, 0, 0, 0, 0, 0, 0, 0, 0, 0, 0, 0, 0, 0, 0, 0, 0, 0, 0, 0, 0, 0, 0, 0, 0, 0, 0, 0, 0, 0, 0, 0, 0, 0, 0, 0, 0, 0, 0, 0, 0, 0, 0, 0, 0, 0, 0, 0, 0, 0, 0, 0, 0, 0, 0, 0, 0, 0, 0, 0, 0, 0, 0, 0, 0, 0, 0, 0, 0, 0, 0, 0, 0, 0, 0, 0, 0, 0, 0, 0, 0, 0, 0, 0, 0, 0, 0, 0, 0, 0, 0, 0, 0, 0, 0, 0, 0, 0, 0, 0, 0, 0, 0, 0, 0, 0, 0, 0, 0, 0, 0, 0, 0, 0, 0, 0, 0, 0, 0, 0, 0, 0, 0, 0, 0, 0, 0, 0, 0, 0, 0, 0, 0, 0, 0, 0, 0, 0, 0, 0, 0, 0, 0, 0, 0, 0, 0, 0, 0, 0, 0, 0, 0, 0, 0, 0, 0, 0, 0, 0, 0, 0, 0, 0, 0, 0, 0, 0, 0, 0, 0, 0, 0, 0, 0, 0, 0, 0, 0, 0, 0, 0, 0, 0, 0, 0, 0, 0, 0, 0, 0, 0, 0, 0, 0, 0, 0, 0, 0, 0, 0, 0, 0, 0, 0, 0, 0, 0, 0, 0, 0, 0, 0, 0, 0, 0, 0, 0, 0, 0, 0, 0, 0, 0, 0, 0, 0, 0, 0, 0, 0, 0, 0, 0, 0, 0, 0, 0, 0, 0, 0, 0, 0, 0, 0, 0, 0, 0, 0, 0, 0, 0, 0, 0, 0, 0, 0, 0, 0, 0, 0, 0, 0, 0, 0, 0, 0, 0, 0, 0, 0, 0, 0, 0, 0, 0, 0, 0, 0, 0, 0, 0, 0, 0, 0, 0, 0, 0, 0, 0, 0, 0, 0, 0, 0, 0, 0, 0, 0, 0, 0, 0, 0, 0, 0, 0, 0, 0, 0, 0, 0, 0, 0, 0, 0, 0, 0, 0, 0, 0]))]
  next := 4311

def cVerify0 : Canon where
  args := [.slice (some (0, 0)) 2 2 false, .int .i64 0, .slice none 0 0 true]
  m := 1
  O := [(0, .cells 62 true [.int .u8 183, .int .u8 0, .int .u8 0, .int .i16 0, .int .i32 0, .int .u8 149, .int .u8 0, .int .u8 0, .int .i16 0, .int .i32 0])]
  v := .tuple [.slice (some (119, 0)) 2 2 true, .int .i64 2, .int .i64 0]
  R := [(0, .cells 62 true [.int .u8 183, .int .u8 0, .int .u8 0, .int .i16 0, .int .i32 0, .int .u8 149, .int .u8 0, .int .u8 0, .int .i16 0, .int .i32 0]),
    (119, .cells 150 false [.bool true, .bool false, .int .i64 0, .bool true, .bool false, .int .i64 0])]
  next := 120

def cPrune0 : Canon where
  args := [.slice (some (0, 0)) 2 2 false, .slice (some (1, 0)) 2 2 true]
  m := 2
  O := [(0, .cells 62 true [.int .u8 183, .int .u8 0, .int .u8 0, .int .i16 0, .int .i32 0, .int .u8 149, .int .u8 0, .int .u8 0, .int .i16 0, .int .i32 0]),
    (1, .cells 150 false [.bool true, .bool false, .int .i64 0, .bool true, .bool false, .int .i64 0])]
  v := .tuple [.slice (some (133, 0)) 2 2 false, .slice (some (134, 0)) 2 2 false, .int .i64 0]
  R := [(0, .cells 62 true [.int .u8 183, .int .u8 0, .int .u8 0, .int .i16 0, .int .i32 0, .int .u8 149, .int .u8 0, .int .u8 0, .int .i16 0, .int .i32 0]),
    (1, .cells 150 false [.bool true, .bool false, .int .i64 0, .bool true, .bool false, .int .i64 0]),
    (133, .cells 62 true [.int .u8 183, .int .u8 0, .int .u8 0, .int .i16 0, .int .i32 0, .int .u8 149, .int .u8 0, .int .u8 0, .int .i16 0, .int .i32 0]),
    (134, .cells 150 true [.bool true, .bool false, .int .i64 0, .bool true, .bool false, .int .i64 0])]
  next := 135

def cFix0 : Canon where
  args := [.slice (some (0, 0)) 2 2 false, .slice (some (1, 0)) 2 2 false, .slice none 0 0 true]
  m := 2
  O := [(0, .cells 62 true [.int .u8 183, .int .u8 0, .int .u8 0, .int .i16 0, .int .i32 0, .int .u8 149, .int .u8 0, .int .u8 0, .int .i16 0, .int .i32 0]),
    (1, .cells 150 true [.bool true, .bool false, .int .i64 0, .bool true, .bool false, .int .i64 0])]
  v := .tuple [.slice (some (57, 0)) 2 2 false, .int .i64 0]
  R := [(0, .cells 62 true [.int .u8 183, .int .u8 0, .int .u8 0, .int .i16 0, .int .i32 0, .int .u8 149, .int .u8 0, .int .u8 0, .int .i16 0, .int .i32 0]),
    (1, .cells 150 true [.bool true, .bool false, .int .i64 0, .bool true, .bool false, .int .i64 0]),
    (57, .cells 62 true [.int .u8 183, .int .u8 0, .int .u8 0, .int .i16 0, .int .i32 0, .int .u8 149, .int .u8 0, .int .u8 0, .int .i16 0, .int .i32 0])]
  next := 58

def cInterp0 : Canon where
  args := [.slice (some (0, 0)) 2 2 false]
  m := 1
  O := [(0, .cells 62 true [.int .u8 183, .int .u8 0, .int .u8 0, .int .i16 0, .int .i32 0, .int .u8 149, .int .u8 0, .int .u8 0, .int .i16 0, .int .i32 0])]
  v := .tuple [.ptr (some (47, 0)), .int .i64 0]
  R := [(0, .cells 62 true [.int .u8 183, .int .u8 0, .int .u8 0, .int .i16 0, .int .i32 0, .int .u8 149, .int .u8 0, .int .u8 0, .int .i16 0, .int .i32 0]),
    (47, .cells 164 false [.slice (some (145, 0)) 2 2 false]),
    (145, .cells 168 true [.func 125 [] [], .int .u8 0, .int .u8 0, .bool false, .bool false, .bool true, .int .i64 176, .int .i64 0, .int .u64 0, .int .u64 0, .int .i64 0, .int .i64 0, .func 127 [] [], .int .u8 0, .int .u8 0, .bool false, .bool false, .bool true, .int .i64 144, .int .i64 0, .int .u64 0, .int .u64 0, .int .i64 0, .int .i64 1])]
  next := 146

def cJitx0 : Canon where
  args := [.slice (some (0, 0)) 2 2 false]
  m := 1
  O := [(0, .cells 62 true [.int .u8 183, .int .u8 0, .int .u8 0, .int .i16 0, .int .i32 0, .int .u8 149, .int .u8 0, .int .u8 0, .int .i16 0, .int .i32 0])]
  v := .tuple [.slice (some (1969, 0)) 61 61 false, .int .i64 0]
  R := [(0, .cells 62 true [.int .u8 183, .int .u8 0, .int .u8 0, .int .i16 0, .int .i32 0, .int .u8 149, .int .u8 0, .int .u8 0, .int .i16 0, .int .i32 0]),
    (1969, .cells 5 true (u8s [64, 85, 72, 189, 0, 2, 0, 0, 2, 0, 0, 0, 232, 3, 0, 0, 0, 64, 93, 195, 64, 83, 64, 85, 65, 85, 65, 86, 65, 87, 73, 187, 0, 0, 0, 0, 1, 0, 0, 0, 76, 1, 221, 72, 199, 192, 0, 0, 0, 0, 65, 95, 65, 94, 65, 93, 64, 93, 64, 91, 195]))]
  next := 1970

def cJita0 : Canon where
  args := [.slice (some (0, 0)) 2 2 false]
  m := 1
  O := [(0, .cells 62 true [.int .u8 183, .int .u8 0, .int .u8 0, .int .i16 0, .int .i32 0, .int .u8 149, .int .u8 0, .int .u8 0, .int .i16 0, .int .i32 0])]
  v := .tuple [.slice (some (2068, 0)) 124 124 false, .int .i64 0]
  R := [(0, .cells 62 true [.int .u8 183, .int .u8 0, .int .u8 0, .int .i16 0, .int .i32 0, .int .u8 149, .int .u8 0, .int .u8 0, .int .i16 0, .int .i32 0]),
    (2068, .cells 5 true (u8s [255, 67, 0, 209, 249, 3, 0, 249, 254, 7, 0, 249, 25, 64, 128, 210, 89, 0, 192, 242, 6, 0, 0, 148, 249, 3, 64, 249, 254, 7, 64, 249, 255, 67, 0, 145, 224, 3, 7, 170, 192, 3, 95, 214, 255, 195, 0, 209, 243, 3, 0, 249, 244, 7, 0, 249, 245, 11, 0, 249, 246, 15, 0, 249, 249, 19, 0, 249, 254, 23, 0, 249, 9, 0, 128, 210, 41, 0, 192, 242, 57, 3, 9, 139, 9, 0, 128, 210, 231, 3, 9, 170, 243, 3, 64, 249, 244, 7, 64, 249, 245, 11, 64, 249, 246, 15, 64, 249, 249, 19, 64, 249, 254, 23, 64, 249, 255, 195, 0, 145, 192, 3, 95, 214]))]
  next := 2069

def cVerify1 : Canon where
  args := [.slice (some (0, 0)) 2 2 false, .int .i64 0, .slice none 0 0 true]
  m := 1
  O := [(0, .cells 62 true [.int .u8 183, .int .u8 0, .int .u8 0, .int .i16 0, .int .i32 1, .int .u8 149, .int .u8 0, .int .u8 0, .int .i16 0, .int .i32 0])]
  v := .tuple [.slice (some (119, 0)) 2 2 true, .int .i64 2, .int .i64 0]
  R := [(0, .cells 62 true [.int .u8 183, .int .u8 0, .int .u8 0, .int .i16 0, .int .i32 1, .int .u8 149, .int .u8 0, .int .u8 0, .int .i16 0, .int .i32 0]),
    (119, .cells 150 false [.bool true, .bool false, .int .i64 0, .bool true, .bool false, .int .i64 0])]
  next := 120

def cPrune1 : Canon where
  args := [.slice (some (0, 0)) 2 2 false, .slice (some (1, 0)) 2 2 true]
  m := 2
  O := [(0, .cells 62 true [.int .u8 183, .int .u8 0, .int .u8 0, .int .i16 0, .int .i32 1, .int .u8 149, .int .u8 0, .int .u8 0, .int .i16 0, .int .i32 0]),
    (1, .cells 150 false [.bool true, .bool false, .int .i64 0, .bool true, .bool false, .int .i64 0])]
  v := .tuple [.slice (some (133, 0)) 2 2 false, .slice (some (134, 0)) 2 2 false, .int .i64 0]
  R := [(0, .cells 62 true [.int .u8 183, .int .u8 0, .int .u8 0, .int .i16 0, .int .i32 1, .int .u8 149, .int .u8 0, .int .u8 0, .int .i16 0, .int .i32 0]),
    (1, .cells 150 false [.bool true, .bool false, .int .i64 0, .bool true, .bool false, .int .i64 0]),
    (133, .cells 62 true [.int .u8 183, .int .u8 0, .int .u8 0, .int .i16 0, .int .i32 1, .int .u8 149, .int .u8 0, .int .u8 0, .int .i16 0, .int .i32 0]),
    (134, .cells 150 true [.bool true, .bool false, .int .i64 0, .bool true, .bool false, .int .i64 0])]
  next := 135

def cFix1 : Canon where
  args := [.slice (some (0, 0)) 2 2 false, .slice (some (1, 0)) 2 2 false, .slice none 0 0 true]
  m := 2
  O := [(0, .cells 62 true [.int .u8 183, .int .u8 0, .int .u8 0, .int .i16 0, .int .i32 1, .int .u8 149, .int .u8 0, .int .u8 0, .int .i16 0, .int .i32 0]),
    (1, .cells 150 true [.bool true, .bool false, .int .i64 0, .bool true, .bool false, .int .i64 0])]
  v := .tuple [.slice (some (57, 0)) 2 2 false, .int .i64 0]
  R := [(0, .cells 62 true [.int .u8 183, .int .u8 0, .int .u8 0, .int .i16 0, .int .i32 1, .int .u8 149, .int .u8 0, .int .u8 0, .int .i16 0, .int .i32 0]),
    (1, .cells 150 true [.bool true, .bool false, .int .i64 0, .bool true, .bool false, .int .i64 0]),
    (57, .cells 62 true [.int .u8 183, .int .u8 0, .int .u8 0, .int .i16 0, .int .i32 1, .int .u8 149, .int .u8 0, .int .u8 0, .int .i16 0, .int .i32 0])]
  next := 58

def cInterp1 : Canon where
  args := [.slice (some (0, 0)) 2 2 false]
  m := 1
  O := [(0, .cells 62 true [.int .u8 183, .int .u8 0, .int .u8 0, .int .i16 0, .int .i32 1, .int .u8 149, .int .u8 0, .int .u8 0, .int .i16 0, .int .i32 0])]
  v := .tuple [.ptr (some (47, 0)), .int .i64 0]
  R := [(0, .cells 62 true [.int .u8 183, .int .u8 0, .int .u8 0, .int .i16 0, .int .i32 1, .int .u8 149, .int .u8 0, .int .u8 0, .int .i16 0, .int .i32 0]),
    (47, .cells 164 false [.slice (some (145, 0)) 2 2 false]),
    (145, .cells 168 true [.func 125 [] [], .int .u8 0, .int .u8 0, .bool false, .bool false, .bool true, .int .i64 176, .int .i64 0, .int .u64 1, .int .u64 0, .int .i64 0, .int .i64 0, .func 127 [] [], .int .u8 0, .int .u8 0, .bool false, .bool false, .bool true, .int .i64 144, .int .i64 0, .int .u64 0, .int .u64 0, .int .i64 0, .int .i64 1])]
  next := 146

def cJitx1 : Canon where
  args := [.slice (some (0, 0)) 2 2 false]
  m := 1
  O := [(0, .cells 62 true [.int .u8 183, .int .u8 0, .int .u8 0, .int .i16 0, .int .i32 1, .int .u8 149, .int .u8 0, .int .u8 0, .int .i16 0, .int .i32 0])]
  v := .tuple [.slice (some (1969, 0)) 61 61 false, .int .i64 0]
  R := [(0, .cells 62 true [.int .u8 183, .int .u8 0, .int .u8 0, .int .i16 0, .int .i32 1, .int .u8 149, .int .u8 0, .int .u8 0, .int .i16 0, .int .i32 0]),
    (1969, .cells 5 true (u8s [64, 85, 72, 189, 0, 2, 0, 0, 2, 0, 0, 0, 232, 3, 0, 0, 0, 64, 93, 195, 64, 83, 64, 85, 65, 85, 65, 86, 65, 87, 73, 187, 0, 0, 0, 0, 1, 0, 0, 0, 76, 1, 221, 72, 199, 192, 1, 0, 0, 0, 65, 95, 65, 94, 65, 93, 64, 93, 64, 91, 195]))]
  next := 1970

def cJita1 : Canon where
  args := [.slice (some (0, 0)) 2 2 false]
  m := 1
  O := [(0, .cells 62 true [.int .u8 183, .int .u8 0, .int .u8 0, .int .i16 0, .int .i32 1, .int .u8 149, .int .u8 0, .int .u8 0, .int .i16 0, .int .i32 0])]
  v := .tuple [.slice (some (2068, 0)) 124 124 false, .int .i64 0]
  R := [(0, .cells 62 true [.int .u8 183, .int .u8 0, .int .u8 0, .int .i16 0, .int .i32 1, .int .u8 149, .int .u8 0, .int .u8 0, .int .i16 0, .int .i32 0]),
    (2068, .cells 5 true (u8s [255, 67, 0, 209, 249, 3, 0, 249, 254, 7, 0, 249, 25, 64, 128, 210, 89, 0, 192, 242, 6, 0, 0, 148, 249, 3, 64, 249, 254, 7, 64, 249, 255, 67, 0, 145, 224, 3, 7, 170, 192, 3, 95, 214, 255, 195, 0, 209, 243, 3, 0, 249, 244, 7, 0, 249, 245, 11, 0, 249, 246, 15, 0, 249, 249, 19, 0, 249, 254, 23, 0, 249, 9, 0, 128, 210, 41, 0, 192, 242, 57, 3, 9, 139, 41, 0, 128, 210, 231, 3, 9, 170, 243, 3, 64, 249, 244, 7, 64, 249, 245, 11, 64, 249, 246, 15, 64, 249, 249, 19, 64, 249, 254, 23, 64, 249, 255, 195, 0, 145, 192, 3, 95, 214]))]
  next := 2069

def cVerify3 : Canon where
  args := [.slice (some (0, 0)) 2 2 false, .int .i64 0, .slice none 0 0 true]
  m := 1
  O := [(0, .cells 62 true [.int .u8 183, .int .u8 0, .int .u8 0, .int .i16 0, .int .i32 3, .int .u8 149, .int .u8 0, .int .u8 0, .int .i16 0, .int .i32 0])]
  v := .tuple [.slice (some (119, 0)) 2 2 true, .int .i64 2, .int .i64 0]
  R := [(0, .cells 62 true [.int .u8 183, .int .u8 0, .int .u8 0, .int .i16 0, .int .i32 3, .int .u8 149, .int .u8 0, .int .u8 0, .int .i16 0, .int .i32 0]),
    (119, .cells 150 false [.bool true, .bool false, .int .i64 0, .bool true, .bool false, .int .i64 0])]
  next := 120

def cPrune3 : Canon where
  args := [.slice (some (0, 0)) 2 2 false, .slice (some (1, 0)) 2 2 true]
  m := 2
  O := [(0, .cells 62 true [.int .u8 183, .int .u8 0, .int .u8 0, .int .i16 0, .int .i32 3, .int .u8 149, .int .u8 0, .int .u8 0, .int .i16 0, .int .i32 0]),
    (1, .cells 150 false [.bool true, .bool false, .int .i64 0, .bool true, .bool false, .int .i64 0])]
  v := .tuple [.slice (some (133, 0)) 2 2 false, .slice (some (134, 0)) 2 2 false, .int .i64 0]
  R := [(0, .cells 62 true [.int .u8 183, .int .u8 0, .int .u8 0, .int .i16 0, .int .i32 3, .int .u8 149, .int .u8 0, .int .u8 0, .int .i16 0, .int .i32 0]),
    (1, .cells 150 false [.bool true, .bool false, .int .i64 0, .bool true, .bool false, .int .i64 0]),
    (133, .cells 62 true [.int .u8 183, .int .u8 0, .int .u8 0, .int .i16 0, .int .i32 3, .int .u8 149, .int .u8 0, .int .u8 0, .int .i16 0, .int .i32 0]),
    (134, .cells 150 true [.bool true, .bool false, .int .i64 0, .bool true, .bool false, .int .i64 0])]
  next := 135

def cFix3 : Canon where
  args := [.slice (some (0, 0)) 2 2 false, .slice (some (1, 0)) 2 2 false, .slice none 0 0 true]
  m := 2
  O := [(0, .cells 62 true [.int .u8 183, .int .u8 0, .int .u8 0, .int .i16 0, .int .i32 3, .int .u8 149, .int .u8 0, .int .u8 0, .int .i16 0, .int .i32 0]),
    (1, .cells 150 true [.bool true, .bool false, .int .i64 0, .bool true, .bool false, .int .i64 0])]
  v := .tuple [.slice (some (57, 0)) 2 2 false, .int .i64 0]
  R := [(0, .cells 62 true [.int .u8 183, .int .u8 0, .int .u8 0, .int .i16 0, .int .i32 3, .int .u8 149, .int .u8 0, .int .u8 0, .int .i16 0, .int .i32 0]),
    (1, .cells 150 true [.bool true, .bool false, .int .i64 0, .bool true, .bool false, .int .i64 0]),
    (57, .cells 62 true [.int .u8 183, .int .u8 0, .int .u8 0, .int .i16 0, .int .i32 3, .int .u8 149, .int .u8 0, .int .u8 0, .int .i16 0, .int .i32 0])]
  next := 58

def cInterp3 : Canon where
  args := [.slice (some (0, 0)) 2 2 false]
  m := 1
  O := [(0, .cells 62 true [.int .u8 183, .int .u8 0, .int .u8 0, .int .i16 0, .int .i32 3, .int .u8 149, .int .u8 0, .int .u8 0, .int .i16 0, .int .i32 0])]
  v := .tuple [.ptr (some (47, 0)), .int .i64 0]
  R := [(0, .cells 62 true [.int .u8 183, .int .u8 0, .int .u8 0, .int .i16 0, .int .i32 3, .int .u8 149, .int .u8 0, .int .u8 0, .int .i16 0, .int .i32 0]),
    (47, .cells 164 false [.slice (some (145, 0)) 2 2 false]),
    (145, .cells 168 true [.func 125 [] [], .int .u8 0, .int .u8 0, .bool false, .bool false, .bool true, .int .i64 176, .int .i64 0, .int .u64 3, .int .u64 0, .int .i64 0, .int .i64 0, .func 127 [] [], .int .u8 0, .int .u8 0, .bool false, .bool false, .bool true, .int .i64 144, .int .i64 0, .int .u64 0, .int .u64 0, .int .i64 0, .int .i64 1])]
  next := 146

def cJitx3 : Canon where
  args := [.slice (some (0, 0)) 2 2 false]
  m := 1
  O := [(0, .cells 62 true [.int .u8 183, .int .u8 0, .int .u8 0, .int .i16 0, .int .i32 3, .int .u8 149, .int .u8 0, .int .u8 0, .int .i16 0, .int .i32 0])]
  v := .tuple [.slice (some (1969, 0)) 61 61 false, .int .i64 0]
  R := [(0, .cells 62 true [.int .u8 183, .int .u8 0, .int .u8 0, .int .i16 0, .int .i32 3, .int .u8 149, .int .u8 0, .int .u8 0, .int .i16 0, .int .i32 0]),
    (1969, .cells 5 true (u8s [64, 85, 72, 189, 0, 2, 0, 0, 2, 0, 0, 0, 232, 3, 0, 0, 0, 64, 93, 195, 64, 83, 64, 85, 65, 85, 65, 86, 65, 87, 73, 187, 0, 0, 0, 0, 1, 0, 0, 0, 76, 1, 221, 72, 199, 192, 3, 0, 0, 0, 65, 95, 65, 94, 65, 93, 64, 93, 64, 91, 195]))]
  next := 1970

def cJita3 : Canon where
  args := [.slice (some (0, 0)) 2 2 false]
  m := 1
  O := [(0, .cells 62 true [.int .u8 183, .int .u8 0, .int .u8 0, .int .i16 0, .int .i32 3, .int .u8 149, .int .u8 0, .int .u8 0, .int .i16 0, .int .i32 0])]
  v := .tuple [.slice (some (2068, 0)) 124 124 false, .int .i64 0]
  R := [(0, .cells 62 true [.int .u8 183, .int .u8 0, .int .u8 0, .int .i16 0, .int .i32 3, .int .u8 149, .int .u8 0, .int .u8 0, .int .i16 0, .int .i32 0]),
    (2068, .cells 5 true (u8s [255, 67, 0, 209, 249, 3, 0, 249, 254, 7, 0, 249, 25, 64, 128, 210, 89, 0, 192, 242, 6, 0, 0, 148, 249, 3, 64, 249, 254, 7, 64, 249, 255, 67, 0, 145, 224, 3, 7, 170, 192, 3, 95, 214, 255, 195, 0, 209, 243, 3, 0, 249, 244, 7, 0, 249, 245, 11, 0, 249, 246, 15, 0, 249, 249, 19, 0, 249, 254, 23, 0, 249, 9, 0, 128, 210, 41, 0, 192, 242, 57, 3, 9, 139, 105, 0, 128, 210, 231, 3, 9, 170, 243, 3, 64, 249, 244, 7, 64, 249, 245, 11, 64, 249, 246, 15, 64, 249, 249, 19, 64, 249, 254, 23, 64, 249, 255, 195, 0, 145, 192, 3, 95, 214]))]
  next := 2069

def cVerify4 : Canon where
  args := [.slice (some (0, 0)) 2 2 false, .int .i64 0, .slice none 0 0 true]
  m := 1
  O := [(0, .cells 62 true [.int .u8 183, .int .u8 0, .int .u8 0, .int .i16 0, .int .i32 4, .int .u8 149, .int .u8 0, .int .u8 0, .int .i16 0, .int .i32 0])]
  v := .tuple [.slice (some (119, 0)) 2 2 true, .int .i64 2, .int .i64 0]
  R := [(0, .cells 62 true [.int .u8 183, .int .u8 0, .int .u8 0, .int .i16 0, .int .i32 4, .int .u8 149, .int .u8 0, .int .u8 0, .int .i16 0, .int .i32 0]),
    (119, .cells 150 false [.bool true, .bool false, .int .i64 0, .bool true, .bool false, .int .i64 0])]
  next := 120

def cPrune4 : Canon where
  args := [.slice (some (0, 0)) 2 2 false, .slice (some (1, 0)) 2 2 true]
  m := 2
  O := [(0, .cells 62 true [.int .u8 183, .int .u8 0, .int .u8 0, .int .i16 0, .int .i32 4, .int .u8 149, .int .u8 0, .int .u8 0, .int .i16 0, .int .i32 0]),
    (1, .cells 150 false [.bool true, .bool false, .int .i64 0, .bool true, .bool false, .int .i64 0])]
  v := .tuple [.slice (some (133, 0)) 2 2 false, .slice (some (134, 0)) 2 2 false, .int .i64 0]
  R := [(0, .cells 62 true [.int .u8 183, .int .u8 0, .int .u8 0, .int .i16 0, .int .i32 4, .int .u8 149, .int .u8 0, .int .u8 0, .int .i16 0, .int .i32 0]),
    (1, .cells 150 false [.bool true, .bool false, .int .i64 0, .bool true, .bool false, .int .i64 0]),
    (133, .cells 62 true [.int .u8 183, .int .u8 0, .int .u8 0, .int .i16 0, .int .i32 4, .int .u8 149, .int .u8 0, .int .u8 0, .int .i16 0, .int .i32 0]),
    (134, .cells 150 true [.bool true, .bool false, .int .i64 0, .bool true, .bool false, .int .i64 0])]
  next := 135

def cFix4 : Canon where
  args := [.slice (some (0, 0)) 2 2 false, .slice (some (1, 0)) 2 2 false, .slice none 0 0 true]
  m := 2
  O := [(0, .cells 62 true [.int .u8 183, .int .u8 0, .int .u8 0, .int .i16 0, .int .i32 4, .int .u8 149, .int .u8 0, .int .u8 0, .int .i16 0, .int .i32 0]),
    (1, .cells 150 true [.bool true, .bool false, .int .i64 0, .bool true, .bool false, .int .i64 0])]
  v := .tuple [.slice (some (57, 0)) 2 2 false, .int .i64 0]
  R := [(0, .cells 62 true [.int .u8 183, .int .u8 0, .int .u8 0, .int .i16 0, .int .i32 4, .int .u8 149, .int .u8 0, .int .u8 0, .int .i16 0, .int .i32 0]),
    (1, .cells 150 true [.bool true, .bool false, .int .i64 0, .bool true, .bool false, .int .i64 0]),
    (57, .cells 62 true [.int .u8 183, .int .u8 0, .int .u8 0, .int .i16 0, .int .i32 4, .int .u8 149, .int .u8 0, .int .u8 0, .int .i16 0, .int .i32 0])]
  next := 58

def cInterp4 : Canon where
  args := [.slice (some (0, 0)) 2 2 false]
  m := 1
  O := [(0, .cells 62 true [.int .u8 183, .int .u8 0, .int .u8 0, .int .i16 0, .int .i32 4, .int .u8 149, .int .u8 0, .int .u8 0, .int .i16 0, .int .i32 0])]
  v := .tuple [.ptr (some (47, 0)), .int .i64 0]
  R := [(0, .cells 62 true [.int .u8 183, .int .u8 0, .int .u8 0, .int .i16 0, .int .i32 4, .int .u8 149, .int .u8 0, .int .u8 0, .int .i16 0, .int .i32 0]),
    (47, .cells 164 false [.slice (some (145, 0)) 2 2 false]),
    (145, .cells 168 true [.func 125 [] [], .int .u8 0, .int .u8 0, .bool false, .bool false, .bool true, .int .i64 176, .int .i64 0, .int .u64 4, .int .u64 0, .int .i64 0, .int .i64 0, .func 127 [] [], .int .u8 0, .int .u8 0, .bool false, .bool false, .bool true, .int .i64 144, .int .i64 0, .int .u64 0, .int .u64 0, .int .i64 0, .int .i64 1])]
  next := 146

def cJitx4 : Canon where
  args := [.slice (some (0, 0)) 2 2 false]
  m := 1
  O := [(0, .cells 62 true [.int .u8 183, .int .u8 0, .int .u8 0, .int .i16 0, .int .i32 4, .int .u8 149, .int .u8 0, .int .u8 0, .int .i16 0, .int .i32 0])]
  v := .tuple [.slice (some (1969, 0)) 61 61 false, .int .i64 0]
  R := [(0, .cells 62 true [.int .u8 183, .int .u8 0, .int .u8 0, .int .i16 0, .int .i32 4, .int .u8 149, .int .u8 0, .int .u8 0, .int .i16 0, .int .i32 0]),
    (1969, .cells 5 true (u8s [64, 85, 72, 189, 0, 2, 0, 0, 2, 0, 0, 0, 232, 3, 0, 0, 0, 64, 93, 195, 64, 83, 64, 85, 65, 85, 65, 86, 65, 87, 73, 187, 0, 0, 0, 0, 1, 0, 0, 0, 76, 1, 221, 72, 199, 192, 4, 0, 0, 0, 65, 95, 65, 94, 65, 93, 64, 93, 64, 91, 195]))]
  next := 1970

def cJita4 : Canon where
  args := [.slice (some (0, 0)) 2 2 false]
  m := 1
  O := [(0, .cells 62 true [.int .u8 183, .int .u8 0, .int .u8 0, .int .i16 0, .int .i32 4, .int .u8 149, .int .u8 0, .int .u8 0, .int .i16 0, .int .i32 0])]
  v := .tuple [.slice (some (2068, 0)) 124 124 false, .int .i64 0]
  R := [(0, .cells 62 true [.int .u8 183, .int .u8 0, .int .u8 0, .int .i16 0, .int .i32 4, .int .u8 149, .int .u8 0, .int .u8 0, .int .i16 0, .int .i32 0]),
    (2068, .cells 5 true (u8s [255, 67, 0, 209, 249, 3, 0, 249, 254, 7, 0, 249, 25, 64, 128, 210, 89, 0, 192, 242, 6, 0, 0, 148, 249, 3, 64, 249, 254, 7, 64, 249, 255, 67, 0, 145, 224, 3, 7, 170, 192, 3, 95, 214, 255, 195, 0, 209, 243, 3, 0, 249, 244, 7, 0, 249, 245, 11, 0, 249, 246, 15, 0, 249, 249, 19, 0, 249, 254, 23, 0, 249, 9, 0, 128, 210, 41, 0, 192, 242, 57, 3, 9, 139, 137, 0, 128, 210, 231, 3, 9, 170, 243, 3, 64, 249, 244, 7, 64, 249, 245, 11, 64, 249, 246, 15, 64, 249, 249, 19, 64, 249, 254, 23, 64, 249, 255, 195, 0, 145, 192, 3, 95, 214]))]
  next := 2069

end Sw
/- The data of calls that were run once: Host.Run in lives. Conditions: none. -/
namespace Sw
open AE

def cRun0 : Canon where
  args := [.ptr (some (0, 0)), .int .i64 1, .int .i64 0, .slice (some (1, 0)) 1 1 true, .int .u32 9, .slice none 0 0 true]
  m := 11
  O := [(0, .cells 80 false [.ptr (some (2, 0)), .ptr (some (3, 0)), .slice none 0 0 true, .slice (some (4, 0)) 1 1 false, .int .i64 0, .int .i64 0]),
    (1, .cells 5 false [.int .u8 7]),
    (2, .cells 230 false [.slice none 0 0 true, .int .i64 0]),
    (3, .cells 219 false [.ptr (some (2, 0)), .slice none 0 0 true]),
    (4, .cells 90 true [.int .i64 0, .int .i64 2, .iface 91 (.slice (some (5, 0)) 2 2 false), .iface 99 (.agg [.slice (some (6, 0)) 2 2 false, .ptr (some (7, 0))]), .iface 101 (.slice (some (8, 0)) 61 61 false), .iface 102 (.slice (some (9, 0)) 124 124 false)]),
    (5, .cells 62 true [.int .u8 183, .int .u8 0, .int .u8 0, .int .i16 0, .int .i32 2, .int .u8 149, .int .u8 0, .int .u8 0, .int .i16 0, .int .i32 0]),
    (6, .cells 62 true [.int .u8 183, .int .u8 0, .int .u8 0, .int .i16 0, .int .i32 2, .int .u8 149, .int .u8 0, .int .u8 0, .int .i16 0, .int .i32 0]),
    (7, .cells 164 false [.slice (some (10, 0)) 2 2 false]),
    (8, .cells 5 true (u8s [64, 85, 72, 189, 0, 2, 0, 0, 2, 0, 0, 0, 232, 3, 0, 0, 0, 64, 93, 195, 64, 83, 64, 85, 65, 85, 65, 86, 65, 87, 73, 187, 0, 0, 0, 0, 1, 0, 0, 0, 76, 1, 221, 72, 199, 192, 2, 0, 0, 0, 65, 95, 65, 94, 65, 93, 64, 93, 64, 91, 195])),
    (9, .cells 5 true (u8s [255, 67, 0, 209, 249, 3, 0, 249, 254, 7, 0, 249, 25, 64, 128, 210, 89, 0, 192, 242, 6, 0, 0, 148, 249, 3, 64, 249, 254, 7, 64, 249, 255, 67, 0, 145, 224, 3, 7, 170, 192, 3, 95, 214, 255, 195, 0, 209, 243, 3, 0, 249, 244, 7, 0, 249, 245, 11, 0, 249, 246, 15, 0, 249, 249, 19, 0, 249, 254, 23, 0, 249, 9, 0, 128, 210, 41, 0, 192, 242, 57, 3, 9, 139, 73, 0, 128, 210, 231, 3, 9, 170, 243, 3, 64, 249, 244, 7, 64, 249, 245, 11, 64, 249, 246, 15, 64, 249, 249, 19, 64, 249, 254, 23, 64, 249, 255, 195, 0, 145, 192, 3, 95, 214])),
    (10, .cells 168 true [.func 125 [] [], .int .u8 0, .int .u8 0, .bool false, .bool false, .bool true, .int .i64 176, .int .i64 0, .int .u64 2, .int .u64 0, .int .i64 0, .int .i64 0, .func 127 [] [], .int .u8 0, .int .u8 0, .bool false, .bool false, .bool true, .int .i64 144, .int .i64 0, .int .u64 0, .int .u64 0, .int .i64 0, .int .i64 1])]
  v := .tuple [.agg [.int .u64 2, .slice (some (818, 0)) 1 1 false, .int .u32 9, .slice none 0 0 true, .slice none 0 0 true], .int .i64 0]
  R := [(0, .cells 80 false [.ptr (some (2, 0)), .ptr (some (3, 0)), .slice none 0 0 true, .slice (some (4, 0)) 1 1 false, .int .i64 0, .int .i64 0]),
    (1, .cells 5 false [.int .u8 7]),
    (2, .cells 230 false [.slice (some (906, 0)) 0 0 true, .int .i64 6]),
    (3, .cells 219 false [.ptr (some (2, 0)), .slice none 0 0 true]),
    (4, .cells 90 true [.int .i64 0, .int .i64 2, .iface 91 (.slice (some (5, 0)) 2 2 false), .iface 99 (.agg [.slice (some (6, 0)) 2 2 false, .ptr (some (7, 0))]), .iface 101 (.slice (some (8, 0)) 61 61 false), .iface 102 (.slice (some (9, 0)) 124 124 false)]),
    (5, .cells 62 true [.int .u8 183, .int .u8 0, .int .u8 0, .int .i16 0, .int .i32 2, .int .u8 149, .int .u8 0, .int .u8 0, .int .i16 0, .int .i32 0]),
    (6, .cells 62 true [.int .u8 183, .int .u8 0, .int .u8 0, .int .i16 0, .int .i32 2, .int .u8 149, .int .u8 0, .int .u8 0, .int .i16 0, .int .i32 0]),
    (7, .cells 164 false [.slice (some (10, 0)) 2 2 false]),
    (8, .cells 5 true (u8s [64, 85, 72, 189, 0, 2, 0, 0, 2, 0, 0, 0, 232, 3, 0, 0, 0, 64, 93, 195, 64, 83, 64, 85, 65, 85, 65, 86, 65, 87, 73, 187, 0, 0, 0, 0, 1, 0, 0, 0, 76, 1, 221, 72, 199, 192, 2, 0, 0, 0, 65, 95, 65, 94, 65, 93, 64, 93, 64, 91, 195])),
    (9, .cells 5 true (u8s [255, 67, 0, 209, 249, 3, 0, 249, 254, 7, 0, 249, 25, 64, 128, 210, 89, 0, 192, 242, 6, 0, 0, 148, 249, 3, 64, 249, 254, 7, 64, 249, 255, 67, 0, 145, 224, 3, 7, 170, 192, 3, 95, 214, 255, 195, 0, 209, 243, 3, 0, 249, 244, 7, 0, 249, 245, 11, 0, 249, 246, 15, 0, 249, 249, 19, 0, 249, 254, 23, 0, 249, 9, 0, 128, 210, 41, 0, 192, 242, 57, 3, 9, 139, 73, 0, 128, 210, 231, 3, 9, 170, 243, 3, 64, 249, 244, 7, 64, 249, 245, 11, 64, 249, 246, 15, 64, 249, 249, 19, 64, 249, 254, 23, 64, 249, 255, 195, 0, 145, 192, 3, 95, 214])),
    (10, .cells 168 true [.func 125 [] [], .int .u8 0, .int .u8 0, .bool false, .bool false, .bool true, .int .i64 176, .int .i64 0, .int .u64 2, .int .u64 0, .int .i64 0, .int .i64 0, .func 127 [] [], .int .u8 0, .int .u8 0, .bool false, .bool false, .bool true, .int .i64 144, .int .i64 0, .int .u64 0, .int .u64 0, .int .i64 0, .int .i64 1]),
    (818, .cells 5 true [.int .u8 7]),
    (906, .cells 282 true [.ptr (some (117, 0)), .ptr (some (308, 0))]),
    (117, .cells 284 false [.int .i64 1, .int .u64 8589934656, .int .i64 3, .slice (some (115, 0)) 1 1 true, .slice none 0 0 true]),
    (308, .cells 284 false [.int .i64 4, .int .u64 4294967316, .int .i64 1, .slice (some (306, 0)) 4 4 true, .slice none 0 0 true]),
    (115, .cells 5 false [.int .u8 7]),
    (306, .cells 5 false (u8s [1, 0, 0, 0]))]
  next := 907

def cRun1 : Canon where
  args := [.ptr (some (0, 0)), .int .i64 1, .int .i64 1, .slice (some (1, 0)) 1 1 true, .int .u32 9, .slice none 0 0 true]
  m := 16
  O := [(0, .cells 80 false [.ptr (some (2, 0)), .ptr (some (3, 0)), .slice none 0 0 true, .slice (some (4, 0)) 1 1 false, .int .i64 0, .int .i64 0]),
    (1, .cells 5 false [.int .u8 7]),
    (2, .cells 230 false [.slice (some (5, 0)) 0 0 true, .int .i64 6]),
    (3, .cells 219 false [.ptr (some (2, 0)), .slice none 0 0 true]),
    (4, .cells 90 true [.int .i64 0, .int .i64 2, .iface 91 (.slice (some (6, 0)) 2 2 false), .iface 99 (.agg [.slice (some (7, 0)) 2 2 false, .ptr (some (8, 0))]), .iface 101 (.slice (some (9, 0)) 61 61 false), .iface 102 (.slice (some (10, 0)) 124 124 false)]),
    (5, .cells 282 true [.ptr (some (11, 0)), .ptr (some (12, 0))]),
    (6, .cells 62 true [.int .u8 183, .int .u8 0, .int .u8 0, .int .i16 0, .int .i32 2, .int .u8 149, .int .u8 0, .int .u8 0, .int .i16 0, .int .i32 0]),
    (7, .cells 62 true [.int .u8 183, .int .u8 0, .int .u8 0, .int .i16 0, .int .i32 2, .int .u8 149, .int .u8 0, .int .u8 0, .int .i16 0, .int .i32 0]),
    (8, .cells 164 false [.slice (some (13, 0)) 2 2 false]),
    (9, .cells 5 true (u8s [64, 85, 72, 189, 0, 2, 0, 0, 2, 0, 0, 0, 232, 3, 0, 0, 0, 64, 93, 195, 64, 83, 64, 85, 65, 85, 65, 86, 65, 87, 73, 187, 0, 0, 0, 0, 1, 0, 0, 0, 76, 1, 221, 72, 199, 192, 2, 0, 0, 0, 65, 95, 65, 94, 65, 93, 64, 93, 64, 91, 195])),
    (10, .cells 5 true (u8s [255, 67, 0, 209, 249, 3, 0, 249, 254, 7, 0, 249, 25, 64, 128, 210, 89, 0, 192, 242, 6, 0, 0, 148, 249, 3, 64, 249, 254, 7, 64, 249, 255, 67, 0, 145, 224, 3, 7, 170, 192, 3, 95, 214, 255, 195, 0, 209, 243, 3, 0, 249, 244, 7, 0, 249, 245, 11, 0, 249, 246, 15, 0, 249, 249, 19, 0, 249, 254, 23, 0, 249, 9, 0, 128, 210, 41, 0, 192, 242, 57, 3, 9, 139, 73, 0, 128, 210, 231, 3, 9, 170, 243, 3, 64, 249, 244, 7, 64, 249, 245, 11, 64, 249, 246, 15, 64, 249, 249, 19, 64, 249, 254, 23, 64, 249, 255, 195, 0, 145, 192, 3, 95, 214])),
    (11, .cells 284 false [.int .i64 1, .int .u64 8589934656, .int .i64 3, .slice (some (14, 0)) 1 1 true, .slice none 0 0 true]),
    (12, .cells 284 false [.int .i64 4, .int .u64 4294967316, .int .i64 1, .slice (some (15, 0)) 4 4 true, .slice none 0 0 true]),
    (13, .cells 168 true [.func 125 [] [], .int .u8 0, .int .u8 0, .bool false, .bool false, .bool true, .int .i64 176, .int .i64 0, .int .u64 2, .int .u64 0, .int .i64 0, .int .i64 0, .func 127 [] [], .int .u8 0, .int .u8 0, .bool false, .bool false, .bool true, .int .i64 144, .int .i64 0, .int .u64 0, .int .u64 0, .int .i64 0, .int .i64 1]),
    (14, .cells 5 false [.int .u8 7]),
    (15, .cells 5 false (u8s [1, 0, 0, 0]))]
  v := .tuple [.agg [.int .u64 2, .slice (some (1021, 0)) 1 1 false, .int .u32 9, .slice none 0 0 true, .slice none 0 0 true], .int .i64 0]
  R := [(0, .cells 80 false [.ptr (some (2, 0)), .ptr (some (3, 0)), .slice none 0 0 true, .slice (some (4, 0)) 1 1 false, .int .i64 0, .int .i64 0]),
    (1, .cells 5 false [.int .u8 7]),
    (2, .cells 230 false [.slice (some (1089, 0)) 0 0 true, .int .i64 14]),
    (3, .cells 219 false [.ptr (some (2, 0)), .slice none 0 0 true]),
    (4, .cells 90 true [.int .i64 0, .int .i64 2, .iface 91 (.slice (some (6, 0)) 2 2 false), .iface 99 (.agg [.slice (some (7, 0)) 2 2 false, .ptr (some (8, 0))]), .iface 101 (.slice (some (9, 0)) 61 61 false), .iface 102 (.slice (some (10, 0)) 124 124 false)]),
    (5, .cells 282 true [.ptr (some (11, 0)), .ptr (some (12, 0))]),
    (6, .cells 62 true [.int .u8 183, .int .u8 0, .int .u8 0, .int .i16 0, .int .i32 2, .int .u8 149, .int .u8 0, .int .u8 0, .int .i16 0, .int .i32 0]),
    (7, .cells 62 true [.int .u8 183, .int .u8 0, .int .u8 0, .int .i16 0, .int .i32 2, .int .u8 149, .int .u8 0, .int .u8 0, .int .i16 0, .int .i32 0]),
    (8, .cells 164 false [.slice (some (13, 0)) 2 2 false]),
    (9, .cells 5 true (u8s [64, 85, 72, 189, 0, 2, 0, 0, 2, 0, 0, 0, 232, 3, 0, 0, 0, 64, 93, 195, 64, 83, 64, 85, 65, 85, 65, 86, 65, 87, 73, 187, 0, 0, 0, 0, 1, 0, 0, 0, 76, 1, 221, 72, 199, 192, 2, 0, 0, 0, 65, 95, 65, 94, 65, 93, 64, 93, 64, 91, 195])),
    (10, .cells 5 true (u8s [255, 67, 0, 209, 249, 3, 0, 249, 254, 7, 0, 249, 25, 64, 128, 210, 89, 0, 192, 242, 6, 0, 0, 148, 249, 3, 64, 249, 254, 7, 64, 249, 255, 67, 0, 145, 224, 3, 7, 170, 192, 3, 95, 214, 255, 195, 0, 209, 243, 3, 0, 249, 244, 7, 0, 249, 245, 11, 0, 249, 246, 15, 0, 249, 249, 19, 0, 249, 254, 23, 0, 249, 9, 0, 128, 210, 41, 0, 192, 242, 57, 3, 9, 139, 73, 0, 128, 210, 231, 3, 9, 170, 243, 3, 64, 249, 244, 7, 64, 249, 245, 11, 64, 249, 246, 15, 64, 249, 249, 19, 64, 249, 254, 23, 64, 249, 255, 195, 0, 145, 192, 3, 95, 214])),
    (11, .cells 284 false [.int .i64 1, .int .u64 8589934656, .int .i64 3, .slice (some (14, 0)) 1 1 true, .slice none 0 0 true]),
    (12, .cells 284 false [.int .i64 4, .int .u64 4294967316, .int .i64 1, .slice (some (15, 0)) 4 4 true, .slice none 0 0 true]),
    (13, .cells 168 true [.func 125 [] [], .int .u8 0, .int .u8 0, .bool false, .bool false, .bool true, .int .i64 176, .int .i64 0, .int .u64 2, .int .u64 0, .int .i64 0, .int .i64 0, .func 127 [] [], .int .u8 0, .int .u8 0, .bool false, .bool false, .bool true, .int .i64 144, .int .i64 0, .int .u64 0, .int .u64 0, .int .i64 0, .int .i64 1]),
    (14, .cells 5 false [.int .u8 7]),
    (15, .cells 5 false (u8s [1, 0, 0, 0])),
    (1021, .cells 5 true [.int .u8 7]),
    (1089, .cells 282 true [.ptr (some (123, 0)), .ptr (some (233, 0))]),
    (123, .cells 284 false [.int .i64 7, .int .u64 8589934656, .int .i64 3, .slice (some (121, 0)) 1 1 true, .slice none 0 0 true]),
    (233, .cells 284 false [.int .i64 9, .int .u64 4294967300, .int .i64 1, .slice (some (231, 0)) 20 20 true, .slice none 0 0 true]),
    (121, .cells 5 false [.int .u8 7]),
    (231, .cells 5 false (u8s [1, 0, 0, 0, 64, 0, 0, 0, 2, 0, 0, 0, 65, 0, 0, 0, 2, 0, 0, 0]))]
  next := 1090

def cRun2 : Canon where
  args := [.ptr (some (0, 0)), .int .i64 1, .int .i64 2, .slice (some (1, 0)) 1 1 true, .int .u32 9, .slice none 0 0 true]
  m := 16
  O := [(0, .cells 80 false [.ptr (some (2, 0)), .ptr (some (3, 0)), .slice none 0 0 true, .slice (some (4, 0)) 1 1 false, .int .i64 0, .int .i64 0]),
    (1, .cells 5 false [.int .u8 7]),
    (2, .cells 230 false [.slice (some (5, 0)) 0 0 true, .int .i64 14]),
    (3, .cells 219 false [.ptr (some (2, 0)), .slice none 0 0 true]),
    (4, .cells 90 true [.int .i64 0, .int .i64 2, .iface 91 (.slice (some (6, 0)) 2 2 false), .iface 99 (.agg [.slice (some (7, 0)) 2 2 false, .ptr (some (8, 0))]), .iface 101 (.slice (some (9, 0)) 61 61 false), .iface 102 (.slice (some (10, 0)) 124 124 false)]),
    (5, .cells 282 true [.ptr (some (11, 0)), .ptr (some (12, 0))]),
    (6, .cells 62 true [.int .u8 183, .int .u8 0, .int .u8 0, .int .i16 0, .int .i32 2, .int .u8 149, .int .u8 0, .int .u8 0, .int .i16 0, .int .i32 0]),
    (7, .cells 62 true [.int .u8 183, .int .u8 0, .int .u8 0, .int .i16 0, .int .i32 2, .int .u8 149, .int .u8 0, .int .u8 0, .int .i16 0, .int .i32 0]),
    (8, .cells 164 false [.slice (some (13, 0)) 2 2 false]),
    (9, .cells 5 true (u8s [64, 85, 72, 189, 0, 2, 0, 0, 2, 0, 0, 0, 232, 3, 0, 0, 0, 64, 93, 195, 64, 83, 64, 85, 65, 85, 65, 86, 65, 87, 73, 187, 0, 0, 0, 0, 1, 0, 0, 0, 76, 1, 221, 72, 199, 192, 2, 0, 0, 0, 65, 95, 65, 94, 65, 93, 64, 93, 64, 91, 195])),
    (10, .cells 5 true (u8s [255, 67, 0, 209, 249, 3, 0, 249, 254, 7, 0, 249, 25, 64, 128, 210, 89, 0, 192, 242, 6, 0, 0, 148, 249, 3, 64, 249, 254, 7, 64, 249, 255, 67, 0, 145, 224, 3, 7, 170, 192, 3, 95, 214, 255, 195, 0, 209, 243, 3, 0, 249, 244, 7, 0, 249, 245, 11, 0, 249, 246, 15, 0, 249, 249, 19, 0, 249, 254, 23, 0, 249, 9, 0, 128, 210, 41, 0, 192, 242, 57, 3, 9, 139, 73, 0, 128, 210, 231, 3, 9, 170, 243, 3, 64, 249, 244, 7, 64, 249, 245, 11, 64, 249, 246, 15, 64, 249, 249, 19, 64, 249, 254, 23, 64, 249, 255, 195, 0, 145, 192, 3, 95, 214])),
    (11, .cells 284 false [.int .i64 7, .int .u64 8589934656, .int .i64 3, .slice (some (14, 0)) 1 1 true, .slice none 0 0 true]),
    (12, .cells 284 false [.int .i64 9, .int .u64 4294967300, .int .i64 1, .slice (some (15, 0)) 20 20 true, .slice none 0 0 true]),
    (13, .cells 168 true [.func 125 [] [], .int .u8 0, .int .u8 0, .bool false, .bool false, .bool true, .int .i64 176, .int .i64 0, .int .u64 2, .int .u64 0, .int .i64 0, .int .i64 0, .func 127 [] [], .int .u8 0, .int .u8 0, .bool false, .bool false, .bool true, .int .i64 144, .int .i64 0, .int .u64 0, .int .u64 0, .int .i64 0, .int .i64 1]),
    (14, .cells 5 false [.int .u8 7]),
    (15, .cells 5 false (u8s [1, 0, 0, 0, 64, 0, 0, 0, 2, 0, 0, 0, 65, 0, 0, 0, 2, 0, 0, 0]))]
  v := .tuple [.agg [.int .u64 2, .slice (some (3088, 0)) 1 1 false, .int .u32 9, .slice none 0 0 true, .slice none 0 0 true], .int .i64 0]
  R := [(0, .cells 80 false [.ptr (some (2, 0)), .ptr (some (3, 0)), .slice none 0 0 true, .slice (some (4, 0)) 1 1 false, .int .i64 0, .int .i64 0]),
    (1, .cells 5 false [.int .u8 7]),
    (2, .cells 230 false [.slice (some (3156, 0)) 0 0 true, .int .i64 23]),
    (3, .cells 219 false [.ptr (some (2, 0)), .slice none 0 0 true]),
    (4, .cells 90 true [.int .i64 0, .int .i64 2, .iface 91 (.slice (some (6, 0)) 2 2 false), .iface 99 (.agg [.slice (some (7, 0)) 2 2 false, .ptr (some (8, 0))]), .iface 101 (.slice (some (9, 0)) 61 61 false), .iface 102 (.slice (some (10, 0)) 124 124 false)]),
    (5, .cells 282 true [.ptr (some (11, 0)), .ptr (some (12, 0))]),
    (6, .cells 62 true [.int .u8 183, .int .u8 0, .int .u8 0, .int .i16 0, .int .i32 2, .int .u8 149, .int .u8 0, .int .u8 0, .int .i16 0, .int .i32 0]),
    (7, .cells 62 true [.int .u8 183, .int .u8 0, .int .u8 0, .int .i16 0, .int .i32 2, .int .u8 149, .int .u8 0, .int .u8 0, .int .i16 0, .int .i32 0]),
    (8, .cells 164 false [.slice (some (13, 0)) 2 2 false]),
    (9, .cells 5 true (u8s [64, 85, 72, 189, 0, 2, 0, 0, 2, 0, 0, 0, 232, 3, 0, 0, 0, 64, 93, 195, 64, 83, 64, 85, 65, 85, 65, 86, 65, 87, 73, 187, 0, 0, 0, 0, 1, 0, 0, 0, 76, 1, 221, 72, 199, 192, 2, 0, 0, 0, 65, 95, 65, 94, 65, 93, 64, 93, 64, 91, 195])),
    (10, .cells 5 true (u8s [255, 67, 0, 209, 249, 3, 0, 249, 254, 7, 0, 249, 25, 64, 128, 210, 89, 0, 192, 242, 6, 0, 0, 148, 249, 3, 64, 249, 254, 7, 64, 249, 255, 67, 0, 145, 224, 3, 7, 170, 192, 3, 95, 214, 255, 195, 0, 209, 243, 3, 0, 249, 244, 7, 0, 249, 245, 11, 0, 249, 246, 15, 0, 249, 249, 19, 0, 249, 254, 23, 0, 249, 9, 0, 128, 210, 41, 0, 192, 242, 57, 3, 9, 139, 73, 0, 128, 210, 231, 3, 9, 170, 243, 3, 64, 249, 244, 7, 64, 249, 245, 11, 64, 249, 246, 15, 64, 249, 249, 19, 64, 249, 254, 23, 64, 249, 255, 195, 0, 145, 192, 3, 95, 214])),
    (11, .cells 284 false [.int .i64 7, .int .u64 8589934656, .int .i64 3, .slice (some (14, 0)) 1 1 true, .slice none 0 0 true]),
    (12, .cells 284 false [.int .i64 9, .int .u64 4294967300, .int .i64 1, .slice (some (15, 0)) 20 20 true, .slice none 0 0 true]),
    (13, .cells 168 true [.func 125 [] [], .int .u8 0, .int .u8 0, .bool false, .bool false, .bool true, .int .i64 176, .int .i64 0, .int .u64 2, .int .u64 0, .int .i64 0, .int .i64 0, .func 127 [] [], .int .u8 0, .int .u8 0, .bool false, .bool false, .bool true, .int .i64 144, .int .i64 0, .int .u64 0, .int .u64 0, .int .i64 0, .int .i64 1]),
    (14, .cells 5 false [.int .u8 7]),
    (15, .cells 5 false (u8s [1, 0, 0, 0, 64, 0, 0, 0, 2, 0, 0, 0, 65, 0, 0, 0, 2, 0, 0, 0])),
    (3088, .cells 5 true [.int .u8 7]),
    (3156, .cells 282 true [.ptr (some (122, 0)), .ptr (some (232, 0))]),
    (122, .cells 284 false [.int .i64 15, .int .u64 8589934656, .int .i64 3, .slice (some (120, 0)) 1 1 true, .slice none 0 0 true]),
    (232, .cells 284 false [.int .i64 17, .int .u64 4294967300, .int .i64 1, .slice (some (230, 0)) 20 20 true, .slice none 0 0 true]),
    (120, .cells 5 false [.int .u8 7]),
    (230, .cells 5 false (u8s [1, 0, 0, 0, 64, 0, 0, 0, 2, 0, 0, 0, 65, 0, 0, 0, 2, 0, 0, 0]))]
  next := 3157

def cRun3 : Canon where
  args := [.ptr (some (0, 0)), .int .i64 1, .int .i64 3, .slice (some (1, 0)) 1 1 true, .int .u32 9, .slice none 0 0 true]
  m := 16
  O := [(0, .cells 80 false [.ptr (some (2, 0)), .ptr (some (3, 0)), .slice none 0 0 true, .slice (some (4, 0)) 1 1 false, .int .i64 0, .int .i64 0]),
    (1, .cells 5 false [.int .u8 7]),
    (2, .cells 230 false [.slice (some (5, 0)) 0 0 true, .int .i64 23]),
    (3, .cells 219 false [.ptr (some (2, 0)), .slice none 0 0 true]),
    (4, .cells 90 true [.int .i64 0, .int .i64 2, .iface 91 (.slice (some (6, 0)) 2 2 false), .iface 99 (.agg [.slice (some (7, 0)) 2 2 false, .ptr (some (8, 0))]), .iface 101 (.slice (some (9, 0)) 61 61 false), .iface 102 (.slice (some (10, 0)) 124 124 false)]),
    (5, .cells 282 true [.ptr (some (11, 0)), .ptr (some (12, 0))]),
    (6, .cells 62 true [.int .u8 183, .int .u8 0, .int .u8 0, .int .i16 0, .int .i32 2, .int .u8 149, .int .u8 0, .int .u8 0, .int .i16 0, .int .i32 0]),
    (7, .cells 62 true [.int .u8 183, .int .u8 0, .int .u8 0, .int .i16 0, .int .i32 2, .int .u8 149, .int .u8 0, .int .u8 0, .int .i16 0, .int .i32 0]),
    (8, .cells 164 false [.slice (some (13, 0)) 2 2 false]),
    (9, .cells 5 true (u8s [64, 85, 72, 189, 0, 2, 0, 0, 2, 0, 0, 0, 232, 3, 0, 0, 0, 64, 93, 195, 64, 83, 64, 85, 65, 85, 65, 86, 65, 87, 73, 187, 0, 0, 0, 0, 1, 0, 0, 0, 76, 1, 221, 72, 199, 192, 2, 0, 0, 0, 65, 95, 65, 94, 65, 93, 64, 93, 64, 91, 195])),
    (10, .cells 5 true (u8s [255, 67, 0, 209, 249, 3, 0, 249, 254, 7, 0, 249, 25, 64, 128, 210, 89, 0, 192, 242, 6, 0, 0, 148, 249, 3, 64, 249, 254, 7, 64, 249, 255, 67, 0, 145, 224, 3, 7, 170, 192, 3, 95, 214, 255, 195, 0, 209, 243, 3, 0, 249, 244, 7, 0, 249, 245, 11, 0, 249, 246, 15, 0, 249, 249, 19, 0, 249, 254, 23, 0, 249, 9, 0, 128, 210, 41, 0, 192, 242, 57, 3, 9, 139, 73, 0, 128, 210, 231, 3, 9, 170, 243, 3, 64, 249, 244, 7, 64, 249, 245, 11, 64, 249, 246, 15, 64, 249, 249, 19, 64, 249, 254, 23, 64, 249, 255, 195, 0, 145, 192, 3, 95, 214])),
    (11, .cells 284 false [.int .i64 15, .int .u64 8589934656, .int .i64 3, .slice (some (14, 0)) 1 1 true, .slice none 0 0 true]),
    (12, .cells 284 false [.int .i64 17, .int .u64 4294967300, .int .i64 1, .slice (some (15, 0)) 20 20 true, .slice none 0 0 true]),
    (13, .cells 168 true [.func 125 [] [], .int .u8 0, .int .u8 0, .bool false, .bool false, .bool true, .int .i64 176, .int .i64 0, .int .u64 2, .int .u64 0, .int .i64 0, .int .i64 0, .func 127 [] [], .int .u8 0, .int .u8 0, .bool false, .bool false, .bool true, .int .i64 144, .int .i64 0, .int .u64 0, .int .u64 0, .int .i64 0, .int .i64 1]),
    (14, .cells 5 false [.int .u8 7]),
    (15, .cells 5 false (u8s [1, 0, 0, 0, 64, 0, 0, 0, 2, 0, 0, 0, 65, 0, 0, 0, 2, 0, 0, 0]))]
  v := .tuple [.agg [.int .u64 2, .slice (some (4702, 0)) 1 1 false, .int .u32 9, .slice none 0 0 true, .slice none 0 0 true], .int .i64 0]
  R := [(0, .cells 80 false [.ptr (some (2, 0)), .ptr (some (3, 0)), .slice none 0 0 true, .slice (some (4, 0)) 1 1 false, .int .i64 0, .int .i64 0]),
    (1, .cells 5 false [.int .u8 7]),
    (2, .cells 230 false [.slice (some (4770, 0)) 0 0 true, .int .i64 32]),
    (3, .cells 219 false [.ptr (some (2, 0)), .slice none 0 0 true]),
    (4, .cells 90 true [.int .i64 0, .int .i64 2, .iface 91 (.slice (some (6, 0)) 2 2 false), .iface 99 (.agg [.slice (some (7, 0)) 2 2 false, .ptr (some (8, 0))]), .iface 101 (.slice (some (9, 0)) 61 61 false), .iface 102 (.slice (some (10, 0)) 124 124 false)]),
    (5, .cells 282 true [.ptr (some (11, 0)), .ptr (some (12, 0))]),
    (6, .cells 62 true [.int .u8 183, .int .u8 0, .int .u8 0, .int .i16 0, .int .i32 2, .int .u8 149, .int .u8 0, .int .u8 0, .int .i16 0, .int .i32 0]),
    (7, .cells 62 true [.int .u8 183, .int .u8 0, .int .u8 0, .int .i16 0, .int .i32 2, .int .u8 149, .int .u8 0, .int .u8 0, .int .i16 0, .int .i32 0]),
    (8, .cells 164 false [.slice (some (13, 0)) 2 2 false]),
    (9, .cells 5 true (u8s [64, 85, 72, 189, 0, 2, 0, 0, 2, 0, 0, 0, 232, 3, 0, 0, 0, 64, 93, 195, 64, 83, 64, 85, 65, 85, 65, 86, 65, 87, 73, 187, 0, 0, 0, 0, 1, 0, 0, 0, 76, 1, 221, 72, 199, 192, 2, 0, 0, 0, 65, 95, 65, 94, 65, 93, 64, 93, 64, 91, 195])),
    (10, .cells 5 true (u8s [255, 67, 0, 209, 249, 3, 0, 249, 254, 7, 0, 249, 25, 64, 128, 210, 89, 0, 192, 242, 6, 0, 0, 148, 249, 3, 64, 249, 254, 7, 64, 249, 255, 67, 0, 145, 224, 3, 7, 170, 192, 3, 95, 214, 255, 195, 0, 209, 243, 3, 0, 249, 244, 7, 0, 249, 245, 11, 0, 249, 246, 15, 0, 249, 249, 19, 0, 249, 254, 23, 0, 249, 9, 0, 128, 210, 41, 0, 192, 242, 57, 3, 9, 139, 73, 0, 128, 210, 231, 3, 9, 170, 243, 3, 64, 249, 244, 7, 64, 249, 245, 11, 64, 249, 246, 15, 64, 249, 249, 19, 64, 249, 254, 23, 64, 249, 255, 195, 0, 145, 192, 3, 95, 214])),
    (11, .cells 284 false [.int .i64 15, .int .u64 8589934656, .int .i64 3, .slice (some (14, 0)) 1 1 true, .slice none 0 0 true]),
    (12, .cells 284 false [.int .i64 17, .int .u64 4294967300, .int .i64 1, .slice (some (15, 0)) 20 20 true, .slice none 0 0 true]),
    (13, .cells 168 true [.func 125 [] [], .int .u8 0, .int .u8 0, .bool false, .bool false, .bool true, .int .i64 176, .int .i64 0, .int .u64 2, .int .u64 0, .int .i64 0, .int .i64 0, .func 127 [] [], .int .u8 0, .int .u8 0, .bool false, .bool false, .bool true, .int .i64 144, .int .i64 0, .int .u64 0, .int .u64 0, .int .i64 0, .int .i64 1]),
    (14, .cells 5 false [.int .u8 7]),
    (15, .cells 5 false (u8s [1, 0, 0, 0, 64, 0, 0, 0, 2, 0, 0, 0, 65, 0, 0, 0, 2, 0, 0, 0])),
    (4702, .cells 5 true [.int .u8 7]),
    (4770, .cells 282 true [.ptr (some (122, 0)), .ptr (some (232, 0))]),
    (122, .cells 284 false [.int .i64 24, .int .u64 8589934656, .int .i64 3, .slice (some (120, 0)) 1 1 true, .slice none 0 0 true]),
    (232, .cells 284 false [.int .i64 26, .int .u64 4294967300, .int .i64 1, .slice (some (230, 0)) 20 20 true, .slice none 0 0 true]),
    (120, .cells 5 false [.int .u8 7]),
    (230, .cells 5 false (u8s [1, 0, 0, 0, 64, 0, 0, 0, 2, 0, 0, 0, 65, 0, 0, 0, 2, 0, 0, 0]))]
  next := 4771

end Sw
