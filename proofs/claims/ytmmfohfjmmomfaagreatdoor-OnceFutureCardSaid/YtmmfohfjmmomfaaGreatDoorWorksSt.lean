/- States between the pieces of a function: typed out by a program. Nothing is proved here. -/
import Derived.Test.YtmmfohfjmmomfaaGreatDoorAbRow
import Derived.Test.YtmmfohfjmmomfaaGreatDoorRows
namespace Go.Proofs.YtmmfohfjmmomfaaGreatDoor
open Go Go.Ab
noncomputable section
abbrev PP : Program := Tryz.prog
def CC : Callers := knotF PP [103] 1000 100
abbrev runC : Code → DAct → Mem → Option Out := dCode PP CC (dDraw PP CC) 1000
def wG : List (Nat × AObj) := [(0, .cells [.int .i64 (0), .int .i64 (0), .int .i64 (0), .int .i64 (0), .int .i64 (0), .int .i64 (0), .int .i64 (0), .int .i64 (0), .int .i64 (0), .int .i64 (0), .int .i64 (-576460752303423488), .int .i64 (576460752303423487), .int .i64 (0), .int .i64 (2147483647), .int .i64 (1), .int .i64 (22), .int .i64 (0), .int .i64 (2147483647)] 0 false false true), (1, .cells [.int .i64 (0), .int .i64 (2), .int .i64 (1), .int .i64 (1), .int .i64 (2), .int .i64 (2), .int .i64 (1), .int .i64 (1), .int .i64 (2), .int .i64 (3), .int .i64 (2), .int .i64 (2), .int .i64 (1), .int .i64 (1), .int .i64 (1), .int .i64 (2), .int .i64 (2), .int .i64 (2), .int .i64 (2), .int .i64 (2), .int .i64 (2), .int .i64 (1), .int .i64 (1)] 0 false false true)]
def w1 : St := {
  n := 113
  tmps := [(0, .bool false), (1, .pointer (some ⟨7, 0, none⟩)), (2, .pointer (some ⟨9, 0, none⟩)), (17, .complex .f64 0 0), (18, .complex .f64 0 0), (19, .complex .f64 0 0), (20, .bool false), (21, .bool false), (22, .complex .f64 0 0), (23, .bool false), (24, .bool false)]
  defers := []
  next := 10
  objs := [
    (0, .cells [.int .i64 (0), .int .i64 (0), .int .i64 (0), .int .i64 (0), .int .i64 (0), .int .i64 (0), .int .i64 (0), .int .i64 (0), .int .i64 (0), .int .i64 (0), .int .i64 (-576460752303423488), .int .i64 (576460752303423487), .int .i64 (0), .int .i64 (2147483647), .int .i64 (1), .int .i64 (22), .int .i64 (0), .int .i64 (2147483647)] 0 false false true),
    (1, .cells [.int .i64 (0), .int .i64 (2), .int .i64 (1), .int .i64 (1), .int .i64 (2), .int .i64 (2), .int .i64 (1), .int .i64 (1), .int .i64 (2), .int .i64 (3), .int .i64 (2), .int .i64 (2), .int .i64 (1), .int .i64 (1), .int .i64 (1), .int .i64 (2), .int .i64 (2), .int .i64 (2), .int .i64 (2), .int .i64 (2), .int .i64 (2), .int .i64 (1), .int .i64 (1)] 0 false false true),
    (3, .map []),
    (4, .cells [.slice none 0 0, .map (some 3)] 186 false false false),
    (5, .cells [.pointer (some ⟨4, 0, none⟩)] 193 false false false),
    (6, .map []),
    (7, .cells [.int .i32 (0), .int .u32 (0), .map (some 6), .int .i64 (0), .pointer (some ⟨5, 0, none⟩)] 129 false false false),
    (8, .chan false),
    (9, .cells [.int .u32 (0), .chan (some 8), .int .u64 (0)] 115 false false false)] }

def w2 : St := {
  n := 113
  tmps := [(0, .bool false), (1, .pointer (some ⟨7, 0, none⟩)), (2, .pointer (some ⟨9, 0, none⟩)), (3, .pointer (some ⟨379, 0, none⟩)), (4, .int .i64 (0)), (5, .complex .f64 0 0), (17, .complex .f64 0 0), (18, .complex .f64 0 0), (19, .complex .f64 0 0), (20, .bool false), (21, .bool false), (22, .complex .f64 0 0), (23, .bool false), (24, .bool false), (25, .tuple #[.agg #[.complex .f64 0 0, .complex .f64 0 0, .complex .f64 0 0], .complex .f64 0 0, .complex .f64 0 0]), (26, .complex .f64 0 0), (27, .tuple #[.agg #[.complex .f64 0 0, .complex .f64 0 0, .complex .f64 0 0], .complex .f64 0 0, .complex .f64 0 0]), (28, .agg #[.complex .f64 0 0, .complex .f64 0 0, .complex .f64 0 0]), (29, .complex .f64 0 0), (30, .complex .f64 0 0)]
  defers := []
  next := 380
  objs := [
    (0, .cells [.int .i64 (0), .int .i64 (0), .int .i64 (0), .int .i64 (0), .int .i64 (0), .int .i64 (0), .int .i64 (0), .int .i64 (0), .int .i64 (0), .int .i64 (0), .int .i64 (-576460752303423488), .int .i64 (576460752303423487), .int .i64 (0), .int .i64 (2147483647), .int .i64 (1), .int .i64 (22), .int .i64 (0), .int .i64 (2147483647)] 0 false false true),
    (1, .cells [.int .i64 (0), .int .i64 (2), .int .i64 (1), .int .i64 (1), .int .i64 (2), .int .i64 (2), .int .i64 (1), .int .i64 (1), .int .i64 (2), .int .i64 (3), .int .i64 (2), .int .i64 (2), .int .i64 (1), .int .i64 (1), .int .i64 (1), .int .i64 (2), .int .i64 (2), .int .i64 (2), .int .i64 (2), .int .i64 (2), .int .i64 (2), .int .i64 (1), .int .i64 (1)] 0 false false true),
    (3, .map []),
    (4, .cells [.slice none 0 0, .map (some 3)] 186 false false false),
    (5, .cells [.pointer (some ⟨4, 0, none⟩)] 193 false false false),
    (6, .map [{ key := .string ⟨#[40, 99, 97, 114, 32, 120, 41]⟩, val := .pointer (some ⟨11, 0, none⟩), born := 0 }]),
    (7, .cells [.int .i32 (0), .int .u32 (0), .map (some 6), .int .i64 (1), .pointer (some ⟨5, 0, none⟩)] 129 false false false),
    (8, .chan false),
    (9, .cells [.int .u32 (0), .chan (some 8), .int .u64 (0)] 115 false false false),
    (11, .cells [.int .u32 (1), .int .i32 (0), .int .u32 (0), .int .u32 (1), .int .i32 (0), .int .u32 (0), .slice none 0 0, .slice none 0 0, .slice (some ⟨366, 0, none⟩) 1 1, .slice (some ⟨364, 0, none⟩) 1 1, .int .i64 (0), .int .i64 (0)] 162 false false false),
    (364, .cells [.string ⟨#[120]⟩] 655361 true false false),
    (366, .cells [.int .i64 (0), .slice (some ⟨370, 0, none⟩) 3 3] 13107202 true false false),
    (370, .cells [.int .u8 (4), .int .i64 (0), .int .u8 (13), .int .i64 (2), .int .u8 (12), .int .i64 (0)] 13828098 true false false),
    (374, .cells [.string ⟨#[120]⟩] 655361 true false false),
    (376, .cells [.int .u8 (4), .int .i64 (0), .int .u8 (13), .int .i64 (2), .int .u8 (12), .int .i64 (0)] 13828098 true false false),
    (378, .cells [.int .i64 (0), .slice (some ⟨376, 0, none⟩) 3 3] 13107202 true false false),
    (379, .cells [.slice none 0 0, .slice (some ⟨378, 0, none⟩) 1 1, .slice (some ⟨374, 0, none⟩) 1 1] 70 false false false)] }

def w3 : St := {
  n := 113
  tmps := [(0, .bool false), (1, .pointer (some ⟨7, 0, none⟩)), (2, .pointer (some ⟨9, 0, none⟩)), (3, .pointer (some ⟨379, 0, none⟩)), (4, .int .i64 (0)), (5, .complex .f64 0 0), (6, .complex .f64 0 0), (7, .int .i64 (60)), (8, .int .i64 (4)), (17, .complex .f64 0 0), (18, .complex .f64 0 0), (19, .complex .f64 0 0), (20, .bool false), (21, .bool false), (22, .complex .f64 0 0), (23, .bool false), (24, .bool false), (25, .tuple #[.agg #[.complex .f64 0 0, .complex .f64 0 0, .complex .f64 0 0], .complex .f64 0 0, .complex .f64 0 0]), (26, .complex .f64 0 0), (27, .tuple #[.agg #[.complex .f64 0 0, .complex .f64 0 0, .complex .f64 0 0], .complex .f64 0 0, .complex .f64 0 0]), (28, .agg #[.complex .f64 0 0, .complex .f64 0 0, .complex .f64 0 0]), (29, .complex .f64 0 0), (30, .complex .f64 0 0), (31, .tuple #[.agg #[.complex .f64 0 0, .complex .f64 0 0, .complex .f64 0 0], .complex .f64 0 0, .complex .f64 0 0]), (32, .complex .f64 0 0), (33, .tuple #[.agg #[.complex .f64 0 0, .complex .f64 0 0, .complex .f64 0 0], .complex .f64 0 0, .complex .f64 0 0]), (34, .agg #[.complex .f64 0 0, .complex .f64 0 0, .complex .f64 0 0]), (35, .complex .f64 0 0), (36, .complex .f64 0 0)]
  defers := []
  next := 382
  objs := [
    (0, .cells [.int .i64 (0), .int .i64 (0), .int .i64 (0), .int .i64 (0), .int .i64 (0), .int .i64 (0), .int .i64 (0), .int .i64 (0), .int .i64 (0), .int .i64 (0), .int .i64 (-576460752303423488), .int .i64 (576460752303423487), .int .i64 (0), .int .i64 (2147483647), .int .i64 (1), .int .i64 (22), .int .i64 (0), .int .i64 (2147483647)] 0 false false true),
    (1, .cells [.int .i64 (0), .int .i64 (2), .int .i64 (1), .int .i64 (1), .int .i64 (2), .int .i64 (2), .int .i64 (1), .int .i64 (1), .int .i64 (2), .int .i64 (3), .int .i64 (2), .int .i64 (2), .int .i64 (1), .int .i64 (1), .int .i64 (1), .int .i64 (2), .int .i64 (2), .int .i64 (2), .int .i64 (2), .int .i64 (2), .int .i64 (2), .int .i64 (1), .int .i64 (1)] 0 false false true),
    (3, .map []),
    (4, .cells [.slice none 0 0, .map (some 3)] 186 false false false),
    (5, .cells [.pointer (some ⟨4, 0, none⟩)] 193 false false false),
    (6, .map [{ key := .string ⟨#[40, 99, 97, 114, 32, 120, 41]⟩, val := .pointer (some ⟨11, 0, none⟩), born := 0 }, { key := .string ⟨#[40, 99, 97, 114]⟩, val := .pointer (some ⟨381, 0, none⟩), born := 0 }]),
    (7, .cells [.int .i32 (0), .int .u32 (0), .map (some 6), .int .i64 (2), .pointer (some ⟨5, 0, none⟩)] 129 false false false),
    (8, .chan false),
    (9, .cells [.int .u32 (0), .chan (some 8), .int .u64 (0)] 115 false false false),
    (11, .cells [.int .u32 (1), .int .i32 (0), .int .u32 (0), .int .u32 (1), .int .i32 (0), .int .u32 (0), .slice none 0 0, .slice none 0 0, .slice (some ⟨366, 0, none⟩) 1 1, .slice (some ⟨364, 0, none⟩) 1 1, .int .i64 (0), .int .i64 (0)] 162 false false false),
    (364, .cells [.string ⟨#[120]⟩] 655361 true false false),
    (366, .cells [.int .i64 (0), .slice (some ⟨370, 0, none⟩) 3 3] 13107202 true false false),
    (370, .cells [.int .u8 (4), .int .i64 (0), .int .u8 (13), .int .i64 (2), .int .u8 (12), .int .i64 (0)] 13828098 true false false),
    (374, .cells [.string ⟨#[120]⟩] 655361 true false false),
    (376, .cells [.int .u8 (4), .int .i64 (0), .int .u8 (13), .int .i64 (2), .int .u8 (12), .int .i64 (0)] 13828098 true false false),
    (378, .cells [.int .i64 (0), .slice (some ⟨376, 0, none⟩) 3 3] 13107202 true false false),
    (379, .cells [.slice none 0 0, .slice (some ⟨378, 0, none⟩) 1 1, .slice (some ⟨374, 0, none⟩) 1 1] 70 false false false),
    (381, .cells [.int .u32 (1), .int .i32 (0), .int .u32 (0), .int .u32 (1), .int .i32 (0), .int .u32 (0), .slice none 0 0, .slice none 0 0, .slice none 0 0, .slice none 0 0, .int .i64 (60), .int .i64 (4)] 162 false false false)] }

def w4 : St := {
  n := 113
  tmps := [(0, .bool false), (1, .pointer (some ⟨7, 0, none⟩)), (2, .pointer (some ⟨9, 0, none⟩)), (3, .pointer (some ⟨379, 0, none⟩)), (4, .int .i64 (0)), (5, .complex .f64 0 0), (6, .complex .f64 0 0), (7, .int .i64 (60)), (8, .int .i64 (4)), (9, .complex .f64 0 0), (10, .int .i64 (70)), (11, .int .i64 (1)), (17, .complex .f64 0 0), (18, .complex .f64 0 0), (19, .complex .f64 0 0), (20, .bool false), (21, .bool false), (22, .complex .f64 0 0), (23, .bool false), (24, .bool false), (25, .tuple #[.agg #[.complex .f64 0 0, .complex .f64 0 0, .complex .f64 0 0], .complex .f64 0 0, .complex .f64 0 0]), (26, .complex .f64 0 0), (27, .tuple #[.agg #[.complex .f64 0 0, .complex .f64 0 0, .complex .f64 0 0], .complex .f64 0 0, .complex .f64 0 0]), (28, .agg #[.complex .f64 0 0, .complex .f64 0 0, .complex .f64 0 0]), (29, .complex .f64 0 0), (30, .complex .f64 0 0), (31, .tuple #[.agg #[.complex .f64 0 0, .complex .f64 0 0, .complex .f64 0 0], .complex .f64 0 0, .complex .f64 0 0]), (32, .complex .f64 0 0), (33, .tuple #[.agg #[.complex .f64 0 0, .complex .f64 0 0, .complex .f64 0 0], .complex .f64 0 0, .complex .f64 0 0]), (34, .agg #[.complex .f64 0 0, .complex .f64 0 0, .complex .f64 0 0]), (35, .complex .f64 0 0), (36, .complex .f64 0 0), (37, .tuple #[.agg #[.complex .f64 0 0, .complex .f64 0 0, .complex .f64 0 0], .complex .f64 0 0, .complex .f64 0 0]), (38, .complex .f64 0 0), (39, .tuple #[.agg #[.complex .f64 0 0, .complex .f64 0 0, .complex .f64 0 0], .complex .f64 0 0, .complex .f64 0 0]), (40, .agg #[.complex .f64 0 0, .complex .f64 0 0, .complex .f64 0 0]), (41, .complex .f64 0 0), (42, .complex .f64 0 0)]
  defers := []
  next := 384
  objs := [
    (0, .cells [.int .i64 (0), .int .i64 (0), .int .i64 (0), .int .i64 (0), .int .i64 (0), .int .i64 (0), .int .i64 (0), .int .i64 (0), .int .i64 (0), .int .i64 (0), .int .i64 (-576460752303423488), .int .i64 (576460752303423487), .int .i64 (0), .int .i64 (2147483647), .int .i64 (1), .int .i64 (22), .int .i64 (0), .int .i64 (2147483647)] 0 false false true),
    (1, .cells [.int .i64 (0), .int .i64 (2), .int .i64 (1), .int .i64 (1), .int .i64 (2), .int .i64 (2), .int .i64 (1), .int .i64 (1), .int .i64 (2), .int .i64 (3), .int .i64 (2), .int .i64 (2), .int .i64 (1), .int .i64 (1), .int .i64 (1), .int .i64 (2), .int .i64 (2), .int .i64 (2), .int .i64 (2), .int .i64 (2), .int .i64 (2), .int .i64 (1), .int .i64 (1)] 0 false false true),
    (3, .map []),
    (4, .cells [.slice none 0 0, .map (some 3)] 186 false false false),
    (5, .cells [.pointer (some ⟨4, 0, none⟩)] 193 false false false),
    (6, .map [{ key := .string ⟨#[40, 99, 97, 114, 32, 120, 41]⟩, val := .pointer (some ⟨11, 0, none⟩), born := 0 }, { key := .string ⟨#[40, 99, 97, 114]⟩, val := .pointer (some ⟨381, 0, none⟩), born := 0 }, { key := .string ⟨#[49, 32, 40, 105, 102, 41]⟩, val := .pointer (some ⟨383, 0, none⟩), born := 0 }]),
    (7, .cells [.int .i32 (0), .int .u32 (0), .map (some 6), .int .i64 (3), .pointer (some ⟨5, 0, none⟩)] 129 false false false),
    (8, .chan false),
    (9, .cells [.int .u32 (0), .chan (some 8), .int .u64 (0)] 115 false false false),
    (11, .cells [.int .u32 (1), .int .i32 (0), .int .u32 (0), .int .u32 (1), .int .i32 (0), .int .u32 (0), .slice none 0 0, .slice none 0 0, .slice (some ⟨366, 0, none⟩) 1 1, .slice (some ⟨364, 0, none⟩) 1 1, .int .i64 (0), .int .i64 (0)] 162 false false false),
    (364, .cells [.string ⟨#[120]⟩] 655361 true false false),
    (366, .cells [.int .i64 (0), .slice (some ⟨370, 0, none⟩) 3 3] 13107202 true false false),
    (370, .cells [.int .u8 (4), .int .i64 (0), .int .u8 (13), .int .i64 (2), .int .u8 (12), .int .i64 (0)] 13828098 true false false),
    (374, .cells [.string ⟨#[120]⟩] 655361 true false false),
    (376, .cells [.int .u8 (4), .int .i64 (0), .int .u8 (13), .int .i64 (2), .int .u8 (12), .int .i64 (0)] 13828098 true false false),
    (378, .cells [.int .i64 (0), .slice (some ⟨376, 0, none⟩) 3 3] 13107202 true false false),
    (379, .cells [.slice none 0 0, .slice (some ⟨378, 0, none⟩) 1 1, .slice (some ⟨374, 0, none⟩) 1 1] 70 false false false),
    (381, .cells [.int .u32 (1), .int .i32 (0), .int .u32 (0), .int .u32 (1), .int .i32 (0), .int .u32 (0), .slice none 0 0, .slice none 0 0, .slice none 0 0, .slice none 0 0, .int .i64 (60), .int .i64 (4)] 162 false false false),
    (383, .cells [.int .u32 (1), .int .i32 (0), .int .u32 (0), .int .u32 (1), .int .i32 (0), .int .u32 (0), .slice none 0 0, .slice none 0 0, .slice none 0 0, .slice none 0 0, .int .i64 (70), .int .i64 (1)] 162 false false false)] }


end
end Go.Proofs.YtmmfohfjmmomfaaGreatDoor
