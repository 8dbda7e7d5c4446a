/- The states of OnceFuture at its loop's head: typed out by a program. Nothing is proved here. -/
import Derived.Test.YtmmfohfjmmomfaaGreatDoorWorks
import Derived.Test.YtmmfohfjmmomfaaGreatDoorAbHand
namespace Go.Proofs.YtmmfohfjmmomfaaGreatDoor.onceFuture
open Go Go.Ab
noncomputable section
def f0 : St := {
  n := 73
  tmps := [(0, .complex .f64 2 3), (2, .bool false), (3, .bool true), (4, .pointer (some ⟨9, 0, none⟩)), (5, .pointer (some ⟨11, 0, none⟩)), (6, .int .i64 (0)), (9, .bool true), (10, .complex .f64 0 0), (11, .complex .f64 0 0), (12, .bool true), (13, .bool false), (14, .bool false), (15, .complex .f64 0 0), (16, .bool false), (17, .bool false), (18, .bool false), (19, .complex .f64 0 0), (20, .bool false), (21, .bool false), (22, .bool false), (23, .complex .f64 0 0), (24, .bool false), (25, .bool false)]
  defers := []
  next := 12
  objs := [
    (0, .cells [.int .i64 (0), .int .i64 (0), .int .i64 (0), .int .i64 (0), .int .i64 (0), .int .i64 (0), .int .i64 (0), .int .i64 (0), .int .i64 (0), .int .i64 (0), .int .i64 (-576460752303423488), .int .i64 (576460752303423487), .int .i64 (0), .int .i64 (2147483647), .int .i64 (1), .int .i64 (22), .int .i64 (0), .int .i64 (2147483647)] 0 false false true),
    (1, .cells [.int .i64 (0), .int .i64 (2), .int .i64 (1), .int .i64 (1), .int .i64 (2), .int .i64 (2), .int .i64 (1), .int .i64 (1), .int .i64 (2), .int .i64 (3), .int .i64 (2), .int .i64 (2), .int .i64 (1), .int .i64 (1), .int .i64 (1), .int .i64 (2), .int .i64 (2), .int .i64 (2), .int .i64 (2), .int .i64 (2), .int .i64 (2), .int .i64 (1), .int .i64 (1)] 0 false false true),
    (3, .dead),
    (8, .chan false),
    (9, .cells [.int .u32 (0), .chan (some 8), .int .u64 (0)] 115 false false false),
    (10, .chan false),
    (11, .cells [.int .u32 (0), .chan (some 10), .int .u64 (0)] 115 false false false)] }

def f1 : St := {
  n := 73
  tmps := [(0, .complex .f64 2 3), (2, .bool false), (3, .bool true), (4, .pointer (some ⟨9, 0, none⟩)), (5, .pointer (some ⟨11, 0, none⟩)), (6, .complex .f32 0 0), (7, .complex .f64 0 0), (8, .complex .f64 0 0), (9, .bool true), (10, .complex .f64 0 0), (11, .complex .f64 0 0), (12, .bool true), (13, .bool false), (14, .bool false), (15, .complex .f64 0 0), (16, .bool false), (17, .bool false), (18, .bool false), (19, .complex .f64 0 0), (20, .bool false), (21, .bool false), (22, .bool false), (23, .complex .f64 0 0), (24, .bool false), (25, .bool false), (26, .complex .f64 0 0), (27, .complex .f64 0 0), (28, .complex .f64 0 0), (29, .bool true), (30, .bool true), (31, .complex .f64 0 0), (32, .bool true), (33, .bool true), (34, .complex .f64 0 0), (35, .complex .f64 0 0), (36, .complex .f64 0 0), (37, .complex .f64 0 0), (38, .complex .f64 0 0), (39, .complex .f64 0 0), (40, .complex .f64 0 0), (41, .complex .f64 0 0), (42, .complex .f64 0 0), (43, .complex .f64 0 0), (44, .complex .f64 0 0), (45, .bool true), (46, .complex .f64 0 0), (47, .bool true), (48, .bool false), (49, .bool false), (50, .complex .f64 0 0), (51, .bool false), (52, .bool false), (53, .tuple #[]), (54, .tuple #[]), (55, .bool false), (56, .bool false), (57, .bool false), (58, .complex .f64 0 0), (59, .complex .f64 0 0), (60, .complex .f64 0 0), (61, .complex .f64 0 0), (62, .bool false), (63, .bool false), (64, .bool false), (65, .complex .f64 0 0), (66, .bool true), (67, .bool false), (68, .bool false), (69, .bool false), (70, .complex .f64 0 0), (71, .bool false), (72, .bool false)]
  defers := []
  next := 12
  objs := [
    (0, .cells [.int .i64 (0), .int .i64 (0), .int .i64 (0), .int .i64 (0), .int .i64 (0), .int .i64 (0), .int .i64 (0), .int .i64 (0), .int .i64 (0), .int .i64 (0), .int .i64 (-576460752303423488), .int .i64 (576460752303423487), .int .i64 (0), .int .i64 (2147483647), .int .i64 (1), .int .i64 (22), .int .i64 (0), .int .i64 (2147483647)] 0 false false true),
    (1, .cells [.int .i64 (0), .int .i64 (2), .int .i64 (1), .int .i64 (1), .int .i64 (2), .int .i64 (2), .int .i64 (1), .int .i64 (1), .int .i64 (2), .int .i64 (3), .int .i64 (2), .int .i64 (2), .int .i64 (1), .int .i64 (1), .int .i64 (1), .int .i64 (2), .int .i64 (2), .int .i64 (2), .int .i64 (2), .int .i64 (2), .int .i64 (2), .int .i64 (1), .int .i64 (1)] 0 false false true),
    (3, .dead),
    (4, .dead),
    (5, .cells [.complex .f64 1 4] 0 false false true),
    (8, .chan true),
    (9, .cells [.int .u32 (1), .chan (some 8), .complex .f64 1 4] 115 false false false),
    (10, .chan false),
    (11, .cells [.int .u32 (0), .chan (some 10), .int .u64 (0)] 115 false false false)] }

def f2 : St := {
  n := 73
  tmps := [(0, .complex .f64 2 3), (2, .bool false), (3, .bool true), (4, .pointer (some ⟨9, 0, none⟩)), (5, .pointer (some ⟨11, 0, none⟩)), (6, .complex .f32 0 0), (7, .complex .f64 0 0), (8, .complex .f64 0 0), (9, .bool true), (10, .complex .f64 0 0), (11, .complex .f64 0 0), (12, .bool true), (13, .bool false), (14, .bool false), (15, .complex .f64 0 0), (16, .bool false), (17, .bool false), (18, .bool false), (19, .complex .f64 0 0), (20, .bool false), (21, .bool false), (22, .bool false), (23, .complex .f64 0 0), (24, .bool false), (25, .bool false), (26, .complex .f64 0 0), (27, .complex .f64 0 0), (28, .complex .f64 0 0), (29, .bool true), (30, .bool true), (31, .complex .f64 0 0), (32, .bool true), (33, .bool true), (34, .complex .f64 0 0), (35, .complex .f64 0 0), (36, .complex .f64 0 0), (37, .complex .f64 0 0), (38, .complex .f64 0 0), (39, .complex .f64 0 0), (40, .complex .f64 0 0), (41, .complex .f64 0 0), (42, .complex .f64 0 0), (43, .complex .f64 0 0), (44, .complex .f64 0 0), (45, .bool false), (46, .complex .f64 0 0), (47, .bool false), (48, .bool false), (49, .bool false), (50, .complex .f64 0 0), (51, .bool true), (52, .bool true), (53, .complex .f64 0 0), (54, .bool false), (55, .bool false), (56, .bool false), (57, .bool false), (58, .complex .f64 0 0), (59, .complex .f64 0 0), (60, .complex .f64 0 0), (61, .complex .f64 0 0), (62, .bool false), (63, .bool false), (64, .bool false), (65, .complex .f64 0 0), (66, .bool true), (67, .bool false), (68, .bool false), (69, .bool false), (70, .complex .f64 0 0), (71, .bool false), (72, .bool false)]
  defers := []
  next := 12
  objs := [
    (0, .cells [.int .i64 (0), .int .i64 (0), .int .i64 (0), .int .i64 (0), .int .i64 (0), .int .i64 (0), .int .i64 (0), .int .i64 (0), .int .i64 (0), .int .i64 (0), .int .i64 (-576460752303423488), .int .i64 (576460752303423487), .int .i64 (0), .int .i64 (2147483647), .int .i64 (1), .int .i64 (22), .int .i64 (0), .int .i64 (2147483647)] 0 false false true),
    (1, .cells [.int .i64 (0), .int .i64 (2), .int .i64 (1), .int .i64 (1), .int .i64 (2), .int .i64 (2), .int .i64 (1), .int .i64 (1), .int .i64 (2), .int .i64 (3), .int .i64 (2), .int .i64 (2), .int .i64 (1), .int .i64 (1), .int .i64 (1), .int .i64 (2), .int .i64 (2), .int .i64 (2), .int .i64 (2), .int .i64 (2), .int .i64 (2), .int .i64 (1), .int .i64 (1)] 0 false false true),
    (3, .dead),
    (4, .dead),
    (5, .cells [.complex .f64 1 4] 0 false false true),
    (8, .chan true),
    (9, .cells [.int .u32 (1), .chan (some 8), .complex .f64 1 4] 115 false false false),
    (10, .chan false),
    (11, .cells [.int .u32 (0), .chan (some 10), .int .u64 (0)] 115 false false false)] }

end
end Go.Proofs.YtmmfohfjmmomfaaGreatDoor.onceFuture
