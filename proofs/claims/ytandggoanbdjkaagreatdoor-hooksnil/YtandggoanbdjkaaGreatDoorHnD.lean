/- The data of calls that were run once. Conditions: none. -/
import Derived.Test.YtandggoanbdjkaaGreatDoorAEC
namespace Hn
open AE

def u8s : List Nat → List AV
  | [] => []
  | n :: l => .int .u8 (.ofNat n) :: u8s l

def cVerify1 : Canon where
  args := [.slice (some (0, 0)) 2 2 false, .int .i64 0, .slice (some (1, 0)) 1 1 false]
  m := 2
  O := [(0, .cells 62 true [.int .u8 183, .int .u8 0, .int .u8 0, .int .i16 0, .int .i32 2, .int .u8 149, .int .u8 0, .int .u8 0, .int .i16 0, .int .i32 0]),
    (1, .cells 73 true [.int .i64 0, .int .i64 4, .int .i64 8, .int .i64 2])]
  v := .tuple [.slice (some (267, 0)) 2 2 true, .int .i64 2, .int .i64 0]
  R := [(0, .cells 62 true [.int .u8 183, .int .u8 0, .int .u8 0, .int .i16 0, .int .i32 2, .int .u8 149, .int .u8 0, .int .u8 0, .int .i16 0, .int .i32 0]),
    (1, .cells 73 true [.int .i64 0, .int .i64 4, .int .i64 8, .int .i64 2]),
    (267, .cells 150 false [.bool true, .bool false, .int .i64 0, .bool true, .bool false, .int .i64 0])]
  next := 268

def cPrune1 : Canon where
  args := [.slice (some (0, 0)) 2 2 false, .slice (some (1, 0)) 2 2 true]
  m := 2
  O := [(0, .cells 62 true [.int .u8 183, .int .u8 0, .int .u8 0, .int .i16 0, .int .i32 2, .int .u8 149, .int .u8 0, .int .u8 0, .int .i16 0, .int .i32 0]),
    (1, .cells 150 false [.bool true, .bool false, .int .i64 0, .bool true, .bool false, .int .i64 0])]
  v := .tuple [.slice (some (133, 0)) 2 2 false, .slice (some (134, 0)) 2 2 false, .int .i64 0]
  R := [(0, .cells 62 true [.int .u8 183, .int .u8 0, .int .u8 0, .int .i16 0, .int .i32 2, .int .u8 149, .int .u8 0, .int .u8 0, .int .i16 0, .int .i32 0]),
    (1, .cells 150 false [.bool true, .bool false, .int .i64 0, .bool true, .bool false, .int .i64 0]),
    (133, .cells 62 true [.int .u8 183, .int .u8 0, .int .u8 0, .int .i16 0, .int .i32 2, .int .u8 149, .int .u8 0, .int .u8 0, .int .i16 0, .int .i32 0]),
    (134, .cells 150 true [.bool true, .bool false, .int .i64 0, .bool true, .bool false, .int .i64 0])]
  next := 135

def cFix1 : Canon where
  args := [.slice (some (0, 0)) 2 2 false, .slice (some (1, 0)) 2 2 false, .slice (some (2, 0)) 1 1 false]
  m := 3
  O := [(0, .cells 62 true [.int .u8 183, .int .u8 0, .int .u8 0, .int .i16 0, .int .i32 2, .int .u8 149, .int .u8 0, .int .u8 0, .int .i16 0, .int .i32 0]),
    (1, .cells 150 true [.bool true, .bool false, .int .i64 0, .bool true, .bool false, .int .i64 0]),
    (2, .cells 73 true [.int .i64 0, .int .i64 4, .int .i64 8, .int .i64 2])]
  v := .tuple [.slice (some (58, 0)) 2 2 false, .int .i64 0]
  R := [(0, .cells 62 true [.int .u8 183, .int .u8 0, .int .u8 0, .int .i16 0, .int .i32 2, .int .u8 149, .int .u8 0, .int .u8 0, .int .i16 0, .int .i32 0]),
    (1, .cells 150 true [.bool true, .bool false, .int .i64 0, .bool true, .bool false, .int .i64 0]),
    (2, .cells 73 true [.int .i64 0, .int .i64 4, .int .i64 8, .int .i64 2]),
    (58, .cells 62 true [.int .u8 183, .int .u8 0, .int .u8 0, .int .i16 0, .int .i32 2, .int .u8 149, .int .u8 0, .int .u8 0, .int .i16 0, .int .i32 0])]
  next := 59

def cInterp1 : Canon where
  args := [.slice (some (0, 0)) 2 2 false]
  m := 1
  O := [(0, .cells 62 true [.int .u8 183, .int .u8 0, .int .u8 0, .int .i16 0, .int .i32 2, .int .u8 149, .int .u8 0, .int .u8 0, .int .i16 0, .int .i32 0])]
  v := .tuple [.ptr (some (47, 0)), .int .i64 0]
  R := [(0, .cells 62 true [.int .u8 183, .int .u8 0, .int .u8 0, .int .i16 0, .int .i32 2, .int .u8 149, .int .u8 0, .int .u8 0, .int .i16 0, .int .i32 0]),
    (47, .cells 164 false [.slice (some (145, 0)) 2 2 false]),
    (145, .cells 168 true [.func 125 [] [], .int .u8 0, .int .u8 0, .bool false, .bool false, .bool true, .int .i64 176, .int .i64 0, .int .u64 2, .int .u64 0, .int .i64 0, .int .i64 0, .func 127 [] [], .int .u8 0, .int .u8 0, .bool false, .bool false, .bool true, .int .i64 144, .int .i64 0, .int .u64 0, .int .u64 0, .int .i64 0, .int .i64 1])]
  next := 146

def cJitx1 : Canon where
  args := [.slice (some (0, 0)) 2 2 false]
  m := 1
  O := [(0, .cells 62 true [.int .u8 183, .int .u8 0, .int .u8 0, .int .i16 0, .int .i32 2, .int .u8 149, .int .u8 0, .int .u8 0, .int .i16 0, .int .i32 0])]
  v := .tuple [.slice (some (1969, 0)) 61 61 false, .int .i64 0]
  R := [(0, .cells 62 true [.int .u8 183, .int .u8 0, .int .u8 0, .int .i16 0, .int .i32 2, .int .u8 149, .int .u8 0, .int .u8 0, .int .i16 0, .int .i32 0]),
    (1969, .cells 5 true (u8s [64, 85, 72, 189, 0, 2, 0, 0, 2, 0, 0, 0, 232, 3, 0, 0, 0, 64, 93, 195, 64, 83, 64, 85, 65, 85, 65, 86, 65, 87, 73, 187, 0, 0, 0, 0, 1, 0, 0, 0, 76, 1, 221, 72, 199, 192, 2, 0, 0, 0, 65, 95, 65, 94, 65, 93, 64, 93, 64, 91, 195]))]
  next := 1970

def cJita1 : Canon where
  args := [.slice (some (0, 0)) 2 2 false]
  m := 1
  O := [(0, .cells 62 true [.int .u8 183, .int .u8 0, .int .u8 0, .int .i16 0, .int .i32 2, .int .u8 149, .int .u8 0, .int .u8 0, .int .i16 0, .int .i32 0])]
  v := .tuple [.slice (some (2068, 0)) 124 124 false, .int .i64 0]
  R := [(0, .cells 62 true [.int .u8 183, .int .u8 0, .int .u8 0, .int .i16 0, .int .i32 2, .int .u8 149, .int .u8 0, .int .u8 0, .int .i16 0, .int .i32 0]),
    (2068, .cells 5 true (u8s [255, 67, 0, 209, 249, 3, 0, 249, 254, 7, 0, 249, 25, 64, 128, 210, 89, 0, 192, 242, 6, 0, 0, 148, 249, 3, 64, 249, 254, 7, 64, 249, 255, 67, 0, 145, 224, 3, 7, 170, 192, 3, 95, 214, 255, 195, 0, 209, 243, 3, 0, 249, 244, 7, 0, 249, 245, 11, 0, 249, 246, 15, 0, 249, 249, 19, 0, 249, 254, 23, 0, 249, 9, 0, 128, 210, 41, 0, 192, 242, 57, 3, 9, 139, 73, 0, 128, 210, 231, 3, 9, 170, 243, 3, 64, 249, 244, 7, 64, 249, 245, 11, 64, 249, 246, 15, 64, 249, 249, 19, 64, 249, 254, 23, 64, 249, 255, 195, 0, 145, 192, 3, 95, 214]))]
  next := 2069

def cVerify2 : Canon where
  args := [.slice (some (0, 0)) 2 2 false, .int .i64 1, .slice none 0 0 true]
  m := 1
  O := [(0, .cells 62 true [.int .u8 183, .int .u8 0, .int .u8 0, .int .i16 0, .int .i32 2, .int .u8 149, .int .u8 0, .int .u8 0, .int .i16 0, .int .i32 0])]
  v := .tuple [.slice (some (119, 0)) 2 2 true, .int .i64 2, .int .i64 0]
  R := [(0, .cells 62 true [.int .u8 183, .int .u8 0, .int .u8 0, .int .i16 0, .int .i32 2, .int .u8 149, .int .u8 0, .int .u8 0, .int .i16 0, .int .i32 0]),
    (119, .cells 150 false [.bool true, .bool false, .int .i64 0, .bool true, .bool false, .int .i64 0])]
  next := 120

def cFix2 : Canon where
  args := [.slice (some (0, 0)) 2 2 false, .slice (some (1, 0)) 2 2 false, .slice none 0 0 true]
  m := 2
  O := [(0, .cells 62 true [.int .u8 183, .int .u8 0, .int .u8 0, .int .i16 0, .int .i32 2, .int .u8 149, .int .u8 0, .int .u8 0, .int .i16 0, .int .i32 0]),
    (1, .cells 150 true [.bool true, .bool false, .int .i64 0, .bool true, .bool false, .int .i64 0])]
  v := .tuple [.slice (some (57, 0)) 2 2 false, .int .i64 0]
  R := [(0, .cells 62 true [.int .u8 183, .int .u8 0, .int .u8 0, .int .i16 0, .int .i32 2, .int .u8 149, .int .u8 0, .int .u8 0, .int .i16 0, .int .i32 0]),
    (1, .cells 150 true [.bool true, .bool false, .int .i64 0, .bool true, .bool false, .int .i64 0]),
    (57, .cells 62 true [.int .u8 183, .int .u8 0, .int .u8 0, .int .i16 0, .int .i32 2, .int .u8 149, .int .u8 0, .int .u8 0, .int .i16 0, .int .i32 0])]
  next := 58

end Hn
