/-
  The evaluator's tables for this seat, and facts on its types. Written by gen_env.py.
-/
import Derived.Test.YtpfhhcjdknmbbaaGreatDoorA5
import Derived.Test.YtpfhhcjdknmbbaaGreatDoorProg
set_option linter.all false
set_option linter.unusedSimpArgs false
set_option linter.unusedVariables false
namespace Go.DM
open Go.Proofs

def lk {α : Type} (d : α) (k : Nat) : List (Nat × α) → α
  | [] => d
  | (j, a) :: l => bif Nat.beq j k then a else lk d k l
def escL : List (Nat × List Nat) := [(9, [9]), (10, [5]), (34, [6, 7, 8, 9, 14]), (99, [3, 5]), (121, [1]), (168, [3, 4, 5]), (275, [9]), (276, [11]), (304, [7]), (305, [9]), (316, [9]), (317, [11])]
def ownL : List (Nat × List Nat) := [(12, [189, 200]), (51, [28, 68])]
def modL : List (Nat × Mode) := [(9, .raw), (15, .raw), (33, .raw), (50, .raw), (51, .raw), (52, .raw), (56, .raw), (58, .raw), (61, .raw), (75, .raw), (76, .raw), (95, .raw), (96, .raw), (107, .raw), (109, .raw), (113, .raw), (114, .raw), (115, .raw), (117, .raw), (119, .raw), (120, .raw), (122, .raw), (163, .raw), (164, .raw), (165, .raw), (172, .raw), (173, .raw), (178, .raw), (179, .raw), (180, .raw), (181, .raw), (182, .raw), (184, .raw), (220, .raw), (222, .raw), (231, .raw), (232, .raw), (233, .raw), (238, .raw), (239, .raw), (261, .raw), (262, .raw), (263, .raw), (265, .raw), (266, .raw), (273, .raw), (274, .raw), (275, .raw), (276, .raw), (277, .raw), (278, .raw), (279, .raw), (280, .raw), (284, .raw), (293, .raw), (294, .raw), (295, .raw), (296, .raw), (297, .raw), (302, .raw), (303, .raw), (304, .raw), (305, .raw), (306, .raw), (307, .raw), (309, .raw), (310, .raw), (314, .raw), (315, .raw), (316, .raw), (317, .raw), (318, .raw), (319, .raw), (320, .raw), (321, .raw), (322, .raw), (328, .raw), (329, .raw), (330, .raw), (332, .raw), (333, .raw), (334, .raw), (337, .raw), (338, .raw), (10, .shared), (11, .shared), (12, .shared), (48, .shared), (105, .shared), (106, .shared), (108, .shared)]
def annL : List (Nat × List (Nat × List (Nat × Nat × Bool))) := [(3, [(10, [(7, 9999, false), (11, 9999, false), (13, 9999, false), (15, 9999, false)]), (16, [(0, 12, true), (4, 9999, false), (5, 9999, true), (11, 15, true)]), (24, [(0, 13, true), (4, 9999, false), (5, 9999, true), (11, 19, true)]), (25, [(0, 19, true), (7, 9999, false), (8, 9999, true), (14, 22, true)])]),
  (10, [(3, [(6, 9999, false), (7, 9999, true), (12, 9999, false), (13, 9999, true), (17, 9999, false), (21, 9999, false)]), (4, [(7, 9999, false), (12, 9999, false), (17, 9999, false), (22, 9999, false), (26, 9999, false), (29, 9999, false), (32, 9999, false), (35, 9999, false)]), (7, [(1, 7, true), (7, 7, true), (10, 7, true), (12, 7, true)]), (11, [(1, 7, true), (4, 7, true), (7, 7, true), (11, 9999, false), (14, 7, true), (18, 9999, false), (22, 9999, false), (25, 9999, false)]), (13, [(0, 8003, false), (4, 8001, false), (8, 8001, false), (9, 7, true), (11, 4, true)])]),
  (11, [(9, [(5, 9999, false), (10, 9999, false), (14, 9999, false), (17, 9999, false)])]),
  (12, [(21, [(4, 17, true), (6, 7, true), (8, 9999, true), (10, 17, true), (12, 7, true), (14, 9999, true), (17, 17, true), (19, 7, true), (21, 9999, true)]), (23, [(2, 9, true), (5, 9, true), (8, 9, true), (13, 9999, false)]), (32, [(1, 12, true), (6, 8001, false), (15, 23, true)])]),
  (14, [(8, [(1, 7, true), (4, 3, true), (5, 3, true), (7, 9999, true), (12, 7, true)]), (10, [(1, 7, true), (5, 9999, false), (6, 3, true), (7, 9999, true)]), (13, [(1, 7, true), (4, 9999, true), (7, 9999, false)])]),
  (16, [(7, [(10, 4, true), (11, 9999, true), (18, 9999, false), (20, 4, true), (28, 1, true), (33, 9999, false), (35, 4, true), (36, 9999, true)])]),
  (17, [(6, [(1, 2, true), (5, 9999, false), (7, 3, true), (11, 9999, false), (15, 2, true), (19, 9999, false), (21, 3, true), (25, 9999, false), (26, 9999, true)])]),
  (19, [(2, [(0, 1, true), (1, 9999, true), (2, 9999, true), (8, 4, true)])]),
  (26, [(6, [(3, 9999, false), (7, 9999, false), (8, 9999, true)])]),
  (43, [(15, [(1, 11, true), (3, 11, true), (5, 11, true), (7, 11, true), (9, 11, true), (10, 9999, true), (13, 11, true), (15, 9, true)])]),
  (44, [(11, [(1, 11, true), (3, 11, true), (5, 10, true), (7, 10, true)])]),
  (50, [(5, [(1, 3, true), (18, 3, true)])]),
  (51, [(6, [(2, 7, true), (6, 8, true)]), (14, [(1, 8, true), (6, 9999, false)])]),
  (52, [(1, [(3, 3, true), (6, 3, true), (11, 3, true), (14, 3, true), (19, 3, true), (22, 3, true), (25, 4, true)])]),
  (56, [(5, [(1, 3, true), (4, 5, true), (5, 9999, true), (8, 9999, false)])]),
  (58, [(11, []), (15, [])]),
  (61, [(1, [(3, 9999, false), (7, 9999, false)]), (4, [(3, 9999, false), (7, 9999, false), (10, 9999, false)])]),
  (64, [(1, [(1, 2, true), (3, 3, true), (4, 9999, true), (6, 2, true), (8, 3, true), (9, 9999, true), (11, 2, true), (13, 3, true), (14, 9999, true), (16, 2, true), (18, 3, true), (19, 9999, true), (21, 9999, true)])]),
  (93, [(8, [(1, 3, true), (3, 3, true), (8, 3, true), (10, 4, true), (12, 9999, true), (15, 3, true), (18, 3, true)]), (9, [(0, 3, true), (2, 3, true), (3, 9999, true), (4, 6, true)])]),
  (99, [(4, [(0, 9999, false), (1, 9999, false), (3, 9999, true), (5, 9999, true), (9, 6, true)])]),
  (103, [(6, [(3, 9999, false), (7, 9999, false)])]),
  (106, [(5, [(2, 3, true), (6, 3, true), (10, 3, true), (13, 9999, false), (17, 3, true), (20, 9999, false), (23, 9999, false), (25, 9999, false)])]),
  (116, [(5, [(4, 9999, false), (5, 4, true), (6, 9999, true)]), (8, [(9, 9999, false), (10, 4, true), (11, 9999, true)])]),
  (138, [(13, [(8, 9999, false), (12, 9999, false), (21, 9999, false), (23, 14, true)]), (15, [(4, 9999, false), (9, 9999, false), (11, 14, true)])]),
  (159, [(13, [(1, 6, true), (2, 6, true), (4, 9999, true), (5, 9999, true), (6, 9999, true)])]),
  (165, [(1, [(0, 9999, false), (3, 9999, true), (4, 9999, false)])]),
  (172, [(2, [(0, 7, true), (2, 7, true), (9, 7, true), (16, 7, true), (24, 6, true)])]),
  (173, [(4, [(2, 3, true)]), (6, [(1, 3, true), (6, 3, true), (11, 3, true), (13, 3, true)]), (7, [(5, 3, true)])]),
  (177, [(1, [(1, 2, true), (2, 9999, true), (5, 2, true)])]),
  (181, [(1, [(0, 2, true), (1, 9999, true), (5, 2, true), (6, 9999, false), (9, 9999, false)])]),
  (183, [(1, [(1, 2, true), (3, 3, true), (4, 9999, true), (5, 2, true), (6, 9999, true), (7, 3, true), (8, 9999, true), (9, 9999, true), (11, 2, true), (13, 3, true), (14, 9999, true), (16, 2, true), (18, 3, true), (19, 9999, true), (22, 2, true), (25, 3, true), (26, 9999, true), (29, 2, true), (32, 3, true), (33, 9999, true), (35, 2, true), (37, 3, true), (38, 9999, true), (40, 2, true), (42, 3, true), (43, 9999, true), (45, 2, true), (47, 3, true), (48, 9999, true), (50, 2, true), (53, 3, true), (55, 9999, true), (57, 2, true), (59, 3, true), (60, 9999, true), (62, 9999, true)])]),
  (184, [(6, [(4, 9999, false), (9, 9999, false), (10, 9999, true)]), (11, [(4, 9999, false), (9, 9999, false), (10, 9999, true)])]),
  (185, [(6, [(3, 9999, false), (7, 9999, false)])]),
  (194, [(5, [(19, 9999, true)])]),
  (215, [(1, [(1, 2, true), (3, 3, true), (4, 9999, true), (6, 3, true), (8, 2, true), (9, 9999, true), (11, 3, true), (13, 2, true), (14, 9999, true), (15, 2, true), (16, 3, true), (17, 9999, true), (19, 9999, true)])]),
  (216, [(1, [(0, 1, true), (1, 9999, true), (2, 1, true), (4, 1, true), (6, 9999, true), (8, 2, true)])]),
  (218, [(7, [(9, 9999, false), (13, 9999, false)]), (9, [(11, 9999, false), (16, 9999, false), (20, 9999, false)])]),
  (219, [(8, [(4, 6, true), (10, 9999, false)]), (9, [(8, 9999, false), (10, 6, true), (14, 9999, false)])]),
  (222, [(1, [(0, 9999, false), (2, 9999, false), (4, 9999, true), (5, 9999, false)])]),
  (229, [(2, [])]),
  (231, [(3, [(7, 9999, false), (11, 9999, false), (13, 9999, false), (15, 9999, false)])]),
  (233, [(17, [(8, 9999, false), (12, 9999, false), (13, 9999, true)])]),
  (239, [(6, [(3, 9999, false), (8, 9999, false)]), (11, [(3, 9999, false), (8, 9999, false)])]),
  (240, [(5, [(2, 2, true), (5, 2, true), (8, 9999, false)])]),
  (273, [(4, [(8, 9999, false), (13, 9999, false), (14, 9999, true)]), (6, [(9, 9999, false), (13, 9999, false), (15, 9999, false), (17, 9999, false)])]),
  (274, [(10, [(11, 9999, false), (15, 9999, false), (17, 9999, false), (19, 9999, false)])]),
  (275, [(10, [(11, 9999, false), (15, 9999, false), (17, 9999, false), (19, 9999, false)])]),
  (277, [(3, [(7, 9999, false), (11, 9999, false), (13, 9999, false), (15, 9999, false)])]),
  (278, [(5, [(8, 9999, false), (13, 9999, false), (14, 9999, true)]), (11, [(9, 9999, false), (13, 9999, false), (15, 9999, false), (17, 9999, false)]), (16, [(4, 9999, false), (9, 9999, false), (10, 9999, true)]), (17, [(9, 9999, false), (13, 9999, false), (15, 9999, false), (17, 9999, false)]), (22, [(4, 9999, false), (9, 9999, false), (10, 9999, true)]), (23, [(9, 9999, false), (13, 9999, false), (15, 9999, false), (17, 9999, false)])]),
  (279, [(1, [(7, 9999, false), (11, 9999, false), (13, 9999, false), (15, 9999, false)]), (3, [(8, 9999, false), (12, 9999, false), (13, 9999, true)]), (5, [(8, 9999, false), (12, 9999, false), (13, 9999, true)]), (8, [(7, 9999, false), (11, 9999, false), (13, 9999, false), (15, 9999, false)])]),
  (280, [(1, [(7, 9999, false), (11, 9999, false), (13, 9999, false), (15, 9999, false)]), (3, [(8, 9999, false), (12, 9999, false), (13, 9999, true)]), (5, [(8, 9999, false), (12, 9999, false), (13, 9999, true)]), (8, [(7, 9999, false), (11, 9999, false), (13, 9999, false), (15, 9999, false)]), (10, [(7, 9999, false), (11, 9999, false), (13, 9999, false), (15, 9999, false)]), (13, [(8, 9999, false), (12, 9999, false), (13, 9999, true)]), (15, [(8, 9999, false), (12, 9999, false), (13, 9999, true)]), (18, [(7, 9999, false), (11, 9999, false), (13, 9999, false), (15, 9999, false)]), (21, [(7, 9999, false), (11, 9999, false), (13, 9999, false), (15, 9999, false)])]),
  (284, [(17, [(7, 9999, false), (11, 9999, false), (12, 9999, true)])]),
  (288, [(1, [(2, 9999, false), (5, 9999, false), (9, 9999, false)]), (2, [(2, 9999, false), (5, 9999, false), (9, 9999, false)]), (3, [(2, 9999, false), (5, 9999, false), (9, 9999, false)])]),
  (294, [(17, [(8, 9999, false), (12, 9999, false), (13, 9999, true)])]),
  (295, [(3, [(11, 9999, false), (18, 9999, false), (19, 9999, true)]), (5, [(6, 9999, false), (12, 9999, false), (13, 9999, true)]), (6, [(13, 9999, false), (19, 9999, false), (21, 9999, false), (23, 9999, false)])]),
  (302, [(4, [(7, 9999, false), (12, 9999, false), (13, 9999, true)]), (6, [(9, 9999, false), (13, 9999, false), (15, 9999, false), (17, 9999, false)])]),
  (303, [(10, [(11, 9999, false), (15, 9999, false), (17, 9999, false), (19, 9999, false)])]),
  (304, [(10, [(11, 9999, false), (15, 9999, false), (17, 9999, false), (19, 9999, false)])]),
  (306, [(3, [(7, 9999, false), (11, 9999, false), (13, 9999, false), (15, 9999, false)])]),
  (307, [(5, [(7, 9999, false), (12, 9999, false), (13, 9999, true)]), (11, [(9, 9999, false), (13, 9999, false), (15, 9999, false), (17, 9999, false)]), (16, [(3, 9999, false), (8, 9999, false), (9, 9999, true)]), (17, [(9, 9999, false), (13, 9999, false), (15, 9999, false), (17, 9999, false)]), (22, [(3, 9999, false), (8, 9999, false), (9, 9999, true)]), (23, [(9, 9999, false), (13, 9999, false), (15, 9999, false), (17, 9999, false)])]),
  (309, [(1, [(7, 9999, false), (11, 9999, false), (13, 9999, false), (15, 9999, false)]), (3, [(7, 9999, false), (11, 9999, false), (12, 9999, true)]), (5, [(7, 9999, false), (11, 9999, false), (12, 9999, true)]), (8, [(7, 9999, false), (11, 9999, false), (13, 9999, false), (15, 9999, false)])]),
  (310, [(1, [(7, 9999, false), (11, 9999, false), (13, 9999, false), (15, 9999, false)]), (3, [(7, 9999, false), (11, 9999, false), (12, 9999, true)]), (5, [(7, 9999, false), (11, 9999, false), (12, 9999, true)]), (8, [(7, 9999, false), (11, 9999, false), (13, 9999, false), (15, 9999, false)]), (10, [(7, 9999, false), (11, 9999, false), (13, 9999, false), (15, 9999, false)]), (13, [(7, 9999, false), (11, 9999, false), (12, 9999, true)]), (15, [(7, 9999, false), (11, 9999, false), (12, 9999, true)]), (18, [(7, 9999, false), (11, 9999, false), (13, 9999, false), (15, 9999, false)]), (21, [(7, 9999, false), (11, 9999, false), (13, 9999, false), (15, 9999, false)])]),
  (314, [(4, [(8, 9999, false), (13, 9999, false), (14, 9999, true)]), (6, [(9, 9999, false), (13, 9999, false), (15, 9999, false), (17, 9999, false)])]),
  (315, [(10, [(11, 9999, false), (15, 9999, false), (17, 9999, false), (19, 9999, false)])]),
  (316, [(10, [(11, 9999, false), (15, 9999, false), (17, 9999, false), (19, 9999, false)])]),
  (318, [(3, [(7, 9999, false), (11, 9999, false), (13, 9999, false), (15, 9999, false)])]),
  (319, [(5, [(8, 9999, false), (13, 9999, false), (14, 9999, true)]), (11, [(9, 9999, false), (13, 9999, false), (15, 9999, false), (17, 9999, false)]), (16, [(4, 9999, false), (9, 9999, false), (10, 9999, true)]), (17, [(9, 9999, false), (13, 9999, false), (15, 9999, false), (17, 9999, false)]), (22, [(4, 9999, false), (9, 9999, false), (10, 9999, true)]), (23, [(9, 9999, false), (13, 9999, false), (15, 9999, false), (17, 9999, false)])]),
  (320, [(1, [(7, 9999, false), (11, 9999, false), (13, 9999, false), (15, 9999, false)]), (3, [(8, 9999, false), (12, 9999, false), (13, 9999, true)]), (5, [(8, 9999, false), (12, 9999, false), (13, 9999, true)]), (8, [(7, 9999, false), (11, 9999, false), (13, 9999, false), (15, 9999, false)])]),
  (321, [(1, [(7, 9999, false), (11, 9999, false), (13, 9999, false), (15, 9999, false)]), (3, [(8, 9999, false), (12, 9999, false), (13, 9999, true)]), (5, [(8, 9999, false), (12, 9999, false), (13, 9999, true)]), (8, [(7, 9999, false), (11, 9999, false), (13, 9999, false), (15, 9999, false)]), (10, [(7, 9999, false), (11, 9999, false), (13, 9999, false), (15, 9999, false)]), (13, [(8, 9999, false), (12, 9999, false), (13, 9999, true)]), (15, [(8, 9999, false), (12, 9999, false), (13, 9999, true)]), (18, [(7, 9999, false), (11, 9999, false), (13, 9999, false), (15, 9999, false)]), (21, [(7, 9999, false), (11, 9999, false), (13, 9999, false), (15, 9999, false)])]),
  (322, [(1, [(4, 9999, false), (8, 9999, false), (9, 9999, true)])]),
  (328, [(3, [(10, 9999, false), (17, 9999, false), (18, 9999, true)]), (5, [(5, 9999, false), (11, 9999, false), (12, 9999, true)]), (6, [(13, 9999, false), (19, 9999, false), (21, 9999, false), (23, 9999, false)])]),
  (331, [(2, [(4, 2, true), (10, 2, true)])]),
  (332, [(3, [(11, 9999, false), (18, 9999, false), (19, 9999, true)]), (5, [(6, 9999, false), (12, 9999, false), (13, 9999, true)]), (6, [(13, 9999, false), (19, 9999, false), (21, 9999, false), (23, 9999, false)])]),
  (337, [(1, [(3, 9999, false), (7, 9999, false), (8, 9999, true)])]),
  (338, [(1, [(4, 9999, false), (8, 9999, false), (9, 9999, true)])])]
def okL : List Nat := [3, 9, 10, 11, 12, 13, 14, 15, 16, 17, 18, 19, 26, 28, 31, 33, 34, 43, 44, 48, 49, 50, 51, 52, 53, 54, 55, 56, 57, 58, 59, 60, 61, 62, 63, 64, 70, 73, 74, 75, 76, 77, 78, 91, 92, 93, 94, 95, 96, 97, 98, 99, 100, 103, 105, 106, 107, 108, 109, 110, 111, 112, 113, 114, 115, 116, 117, 119, 120, 121, 122, 123, 124, 125, 126, 127, 135, 136, 137, 138, 159, 160, 161, 162, 163, 164, 165, 166, 167, 168, 172, 173, 174, 175, 176, 177, 178, 179, 180, 181, 182, 183, 184, 185, 186, 191, 192, 193, 194, 195, 196, 197, 198, 199, 209, 210, 215, 216, 217, 218, 219, 220, 221, 222, 229, 230, 231, 232, 233, 234, 235, 237, 238, 239, 240, 250, 251, 252, 258, 259, 260, 261, 262, 263, 264, 265, 266, 273, 274, 275, 276, 277, 278, 279, 280, 281, 282, 283, 284, 285, 287, 288, 293, 294, 295, 296, 297, 298, 299, 301, 302, 303, 304, 305, 306, 307, 308, 309, 310, 311, 312, 314, 315, 316, 317, 318, 319, 320, 321, 322, 323, 324, 326, 327, 328, 329, 330, 331, 332, 333, 334, 336, 337, 338]
def eqL : List (Nat × List LK) := [(55, [.str, .str, .str, .str]), (57, [.int .i64, .int .i64]), (107, [.int .i64, .int .i64])]
def extL : List (Nat × Nat) := [(300, 0), (335, 1), (58, 60)]
noncomputable def TE : Env where
  P := Tryz.prog
  mode f := lk .pure f modL
  esc f d := (lk [] f escL).any (Nat.beq d)
  own f d := (lk [] f ownL).any (Nat.beq d)
  ann f r := lk [] r (lk [] f annL)
  ok f := okL.any (Nat.beq f)
  eqOk t := lk none t (eqL.map fun p => (p.1, some p.2))
  ext f := lk none f (extL.map fun p => (p.1, some p.2))
theorem TE_P : TE.P = Tryz.prog := rfl
@[simp] theorem es_100_1 : TE.esc 100 1 = false := by kernel_rfl
@[simp] theorem es_100_2 : TE.esc 100 2 = false := by kernel_rfl
@[simp] theorem es_105_4 : TE.esc 105 4 = false := by kernel_rfl
@[simp] theorem es_106_2 : TE.esc 106 2 = false := by kernel_rfl
@[simp] theorem es_106_3 : TE.esc 106 3 = false := by kernel_rfl
@[simp] theorem es_107_4 : TE.esc 107 4 = false := by kernel_rfl
@[simp] theorem es_108_2 : TE.esc 108 2 = false := by kernel_rfl
@[simp] theorem es_108_3 : TE.esc 108 3 = false := by kernel_rfl
@[simp] theorem es_108_5 : TE.esc 108 5 = false := by kernel_rfl
@[simp] theorem es_10_4 : TE.esc 10 4 = false := by kernel_rfl
@[simp] theorem es_10_5 : TE.esc 10 5 = true := by kernel_rfl
@[simp] theorem es_10_7 : TE.esc 10 7 = false := by kernel_rfl
@[simp] theorem es_110_1 : TE.esc 110 1 = false := by kernel_rfl
@[simp] theorem es_112_4 : TE.esc 112 4 = false := by kernel_rfl
@[simp] theorem es_116_4 : TE.esc 116 4 = false := by kernel_rfl
@[simp] theorem es_117_2 : TE.esc 117 2 = false := by kernel_rfl
@[simp] theorem es_117_3 : TE.esc 117 3 = false := by kernel_rfl
@[simp] theorem es_11_4 : TE.esc 11 4 = false := by kernel_rfl
@[simp] theorem es_11_5 : TE.esc 11 5 = false := by kernel_rfl
@[simp] theorem es_121_1 : TE.esc 121 1 = true := by kernel_rfl
@[simp] theorem es_124_8 : TE.esc 124 8 = false := by kernel_rfl
@[simp] theorem es_124_9 : TE.esc 124 9 = false := by kernel_rfl
@[simp] theorem es_125_2 : TE.esc 125 2 = false := by kernel_rfl
@[simp] theorem es_125_3 : TE.esc 125 3 = false := by kernel_rfl
@[simp] theorem es_12_12 : TE.esc 12 12 = false := by kernel_rfl
@[simp] theorem es_12_17 : TE.esc 12 17 = false := by kernel_rfl
@[simp] theorem es_12_23 : TE.esc 12 23 = false := by kernel_rfl
@[simp] theorem es_12_4 : TE.esc 12 4 = false := by kernel_rfl
@[simp] theorem es_12_5 : TE.esc 12 5 = false := by kernel_rfl
@[simp] theorem es_12_7 : TE.esc 12 7 = false := by kernel_rfl
@[simp] theorem es_12_9 : TE.esc 12 9 = false := by kernel_rfl
@[simp] theorem es_136_3 : TE.esc 136 3 = false := by kernel_rfl
@[simp] theorem es_138_14 : TE.esc 138 14 = false := by kernel_rfl
@[simp] theorem es_14_2 : TE.esc 14 2 = false := by kernel_rfl
@[simp] theorem es_14_3 : TE.esc 14 3 = false := by kernel_rfl
@[simp] theorem es_14_4 : TE.esc 14 4 = false := by kernel_rfl
@[simp] theorem es_14_7 : TE.esc 14 7 = false := by kernel_rfl
@[simp] theorem es_159_6 : TE.esc 159 6 = false := by kernel_rfl
@[simp] theorem es_159_9 : TE.esc 159 9 = false := by kernel_rfl
@[simp] theorem es_161_2 : TE.esc 161 2 = false := by kernel_rfl
@[simp] theorem es_166_2 : TE.esc 166 2 = false := by kernel_rfl
@[simp] theorem es_167_3 : TE.esc 167 3 = false := by kernel_rfl
@[simp] theorem es_167_6 : TE.esc 167 6 = false := by kernel_rfl
@[simp] theorem es_168_3 : TE.esc 168 3 = true := by kernel_rfl
@[simp] theorem es_168_4 : TE.esc 168 4 = true := by kernel_rfl
@[simp] theorem es_168_5 : TE.esc 168 5 = true := by kernel_rfl
@[simp] theorem es_16_1 : TE.esc 16 1 = false := by kernel_rfl
@[simp] theorem es_16_4 : TE.esc 16 4 = false := by kernel_rfl
@[simp] theorem es_172_6 : TE.esc 172 6 = false := by kernel_rfl
@[simp] theorem es_172_7 : TE.esc 172 7 = false := by kernel_rfl
@[simp] theorem es_173_2 : TE.esc 173 2 = false := by kernel_rfl
@[simp] theorem es_173_3 : TE.esc 173 3 = false := by kernel_rfl
@[simp] theorem es_175_1 : TE.esc 175 1 = false := by kernel_rfl
@[simp] theorem es_177_2 : TE.esc 177 2 = false := by kernel_rfl
@[simp] theorem es_17_2 : TE.esc 17 2 = false := by kernel_rfl
@[simp] theorem es_17_3 : TE.esc 17 3 = false := by kernel_rfl
@[simp] theorem es_181_2 : TE.esc 181 2 = false := by kernel_rfl
@[simp] theorem es_183_2 : TE.esc 183 2 = false := by kernel_rfl
@[simp] theorem es_183_3 : TE.esc 183 3 = false := by kernel_rfl
@[simp] theorem es_18_1 : TE.esc 18 1 = false := by kernel_rfl
@[simp] theorem es_18_5 : TE.esc 18 5 = false := by kernel_rfl
@[simp] theorem es_193_1 : TE.esc 193 1 = false := by kernel_rfl
@[simp] theorem es_193_2 : TE.esc 193 2 = false := by kernel_rfl
@[simp] theorem es_196_6 : TE.esc 196 6 = false := by kernel_rfl
@[simp] theorem es_197_10 : TE.esc 197 10 = false := by kernel_rfl
@[simp] theorem es_197_7 : TE.esc 197 7 = false := by kernel_rfl
@[simp] theorem es_198_9 : TE.esc 198 9 = false := by kernel_rfl
@[simp] theorem es_199_4 : TE.esc 199 4 = false := by kernel_rfl
@[simp] theorem es_199_5 : TE.esc 199 5 = false := by kernel_rfl
@[simp] theorem es_199_9 : TE.esc 199 9 = false := by kernel_rfl
@[simp] theorem es_19_1 : TE.esc 19 1 = false := by kernel_rfl
@[simp] theorem es_19_4 : TE.esc 19 4 = false := by kernel_rfl
@[simp] theorem es_215_2 : TE.esc 215 2 = false := by kernel_rfl
@[simp] theorem es_215_3 : TE.esc 215 3 = false := by kernel_rfl
@[simp] theorem es_216_1 : TE.esc 216 1 = false := by kernel_rfl
@[simp] theorem es_216_2 : TE.esc 216 2 = false := by kernel_rfl
@[simp] theorem es_217_2 : TE.esc 217 2 = false := by kernel_rfl
@[simp] theorem es_217_8 : TE.esc 217 8 = false := by kernel_rfl
@[simp] theorem es_218_2 : TE.esc 218 2 = false := by kernel_rfl
@[simp] theorem es_219_6 : TE.esc 219 6 = false := by kernel_rfl
@[simp] theorem es_221_3 : TE.esc 221 3 = false := by kernel_rfl
@[simp] theorem es_221_6 : TE.esc 221 6 = false := by kernel_rfl
@[simp] theorem es_230_1 : TE.esc 230 1 = false := by kernel_rfl
@[simp] theorem es_234_1 : TE.esc 234 1 = false := by kernel_rfl
@[simp] theorem es_240_2 : TE.esc 240 2 = false := by kernel_rfl
@[simp] theorem es_258_2 : TE.esc 258 2 = false := by kernel_rfl
@[simp] theorem es_259_3 : TE.esc 259 3 = false := by kernel_rfl
@[simp] theorem es_259_6 : TE.esc 259 6 = false := by kernel_rfl
@[simp] theorem es_260_1 : TE.esc 260 1 = false := by kernel_rfl
@[simp] theorem es_261_7 : TE.esc 261 7 = false := by kernel_rfl
@[simp] theorem es_263_1 : TE.esc 263 1 = false := by kernel_rfl
@[simp] theorem es_264_1 : TE.esc 264 1 = false := by kernel_rfl
@[simp] theorem es_266_2 : TE.esc 266 2 = false := by kernel_rfl
@[simp] theorem es_266_3 : TE.esc 266 3 = false := by kernel_rfl
@[simp] theorem es_275_9 : TE.esc 275 9 = true := by kernel_rfl
@[simp] theorem es_276_11 : TE.esc 276 11 = true := by kernel_rfl
@[simp] theorem es_285_4 : TE.esc 285 4 = false := by kernel_rfl
@[simp] theorem es_28_2 : TE.esc 28 2 = false := by kernel_rfl
@[simp] theorem es_304_7 : TE.esc 304 7 = true := by kernel_rfl
@[simp] theorem es_305_9 : TE.esc 305 9 = true := by kernel_rfl
@[simp] theorem es_311_4 : TE.esc 311 4 = false := by kernel_rfl
@[simp] theorem es_312_2 : TE.esc 312 2 = false := by kernel_rfl
@[simp] theorem es_316_9 : TE.esc 316 9 = true := by kernel_rfl
@[simp] theorem es_317_11 : TE.esc 317 11 = true := by kernel_rfl
@[simp] theorem es_31_2 : TE.esc 31 2 = false := by kernel_rfl
@[simp] theorem es_323_9 : TE.esc 323 9 = false := by kernel_rfl
@[simp] theorem es_331_2 : TE.esc 331 2 = false := by kernel_rfl
@[simp] theorem es_34_14 : TE.esc 34 14 = true := by kernel_rfl
@[simp] theorem es_34_5 : TE.esc 34 5 = false := by kernel_rfl
@[simp] theorem es_34_6 : TE.esc 34 6 = true := by kernel_rfl
@[simp] theorem es_34_7 : TE.esc 34 7 = true := by kernel_rfl
@[simp] theorem es_34_8 : TE.esc 34 8 = true := by kernel_rfl
@[simp] theorem es_34_9 : TE.esc 34 9 = true := by kernel_rfl
@[simp] theorem es_3_12 : TE.esc 3 12 = false := by kernel_rfl
@[simp] theorem es_3_13 : TE.esc 3 13 = false := by kernel_rfl
@[simp] theorem es_3_15 : TE.esc 3 15 = false := by kernel_rfl
@[simp] theorem es_3_19 : TE.esc 3 19 = false := by kernel_rfl
@[simp] theorem es_3_22 : TE.esc 3 22 = false := by kernel_rfl
@[simp] theorem es_3_6 : TE.esc 3 6 = false := by kernel_rfl
@[simp] theorem es_3_7 : TE.esc 3 7 = false := by kernel_rfl
@[simp] theorem es_43_11 : TE.esc 43 11 = false := by kernel_rfl
@[simp] theorem es_43_12 : TE.esc 43 12 = false := by kernel_rfl
@[simp] theorem es_43_9 : TE.esc 43 9 = false := by kernel_rfl
@[simp] theorem es_44_10 : TE.esc 44 10 = false := by kernel_rfl
@[simp] theorem es_44_11 : TE.esc 44 11 = false := by kernel_rfl
@[simp] theorem es_48_4 : TE.esc 48 4 = false := by kernel_rfl
@[simp] theorem es_50_2 : TE.esc 50 2 = false := by kernel_rfl
@[simp] theorem es_50_3 : TE.esc 50 3 = false := by kernel_rfl
@[simp] theorem es_51_4 : TE.esc 51 4 = false := by kernel_rfl
@[simp] theorem es_51_5 : TE.esc 51 5 = false := by kernel_rfl
@[simp] theorem es_51_7 : TE.esc 51 7 = false := by kernel_rfl
@[simp] theorem es_51_8 : TE.esc 51 8 = false := by kernel_rfl
@[simp] theorem es_51_9 : TE.esc 51 9 = false := by kernel_rfl
@[simp] theorem es_52_3 : TE.esc 52 3 = false := by kernel_rfl
@[simp] theorem es_52_4 : TE.esc 52 4 = false := by kernel_rfl
@[simp] theorem es_53_11 : TE.esc 53 11 = false := by kernel_rfl
@[simp] theorem es_53_3 : TE.esc 53 3 = false := by kernel_rfl
@[simp] theorem es_53_4 : TE.esc 53 4 = false := by kernel_rfl
@[simp] theorem es_53_6 : TE.esc 53 6 = false := by kernel_rfl
@[simp] theorem es_53_9 : TE.esc 53 9 = false := by kernel_rfl
@[simp] theorem es_55_1 : TE.esc 55 1 = false := by kernel_rfl
@[simp] theorem es_56_1 : TE.esc 56 1 = false := by kernel_rfl
@[simp] theorem es_56_2 : TE.esc 56 2 = false := by kernel_rfl
@[simp] theorem es_56_3 : TE.esc 56 3 = false := by kernel_rfl
@[simp] theorem es_56_5 : TE.esc 56 5 = false := by kernel_rfl
@[simp] theorem es_57_2 : TE.esc 57 2 = false := by kernel_rfl
@[simp] theorem es_57_3 : TE.esc 57 3 = false := by kernel_rfl
@[simp] theorem es_59_5 : TE.esc 59 5 = false := by kernel_rfl
@[simp] theorem es_60_3 : TE.esc 60 3 = false := by kernel_rfl
@[simp] theorem es_64_2 : TE.esc 64 2 = false := by kernel_rfl
@[simp] theorem es_64_3 : TE.esc 64 3 = false := by kernel_rfl
@[simp] theorem es_70_2 : TE.esc 70 2 = false := by kernel_rfl
@[simp] theorem es_70_3 : TE.esc 70 3 = false := by kernel_rfl
@[simp] theorem es_73_10 : TE.esc 73 10 = false := by kernel_rfl
@[simp] theorem es_75_6 : TE.esc 75 6 = false := by kernel_rfl
@[simp] theorem es_76_10 : TE.esc 76 10 = false := by kernel_rfl
@[simp] theorem es_76_6 : TE.esc 76 6 = false := by kernel_rfl
@[simp] theorem es_77_3 : TE.esc 77 3 = false := by kernel_rfl
@[simp] theorem es_78_12 : TE.esc 78 12 = false := by kernel_rfl
@[simp] theorem es_78_4 : TE.esc 78 4 = false := by kernel_rfl
@[simp] theorem es_78_8 : TE.esc 78 8 = false := by kernel_rfl
@[simp] theorem es_93_3 : TE.esc 93 3 = false := by kernel_rfl
@[simp] theorem es_93_4 : TE.esc 93 4 = false := by kernel_rfl
@[simp] theorem es_93_6 : TE.esc 93 6 = false := by kernel_rfl
@[simp] theorem es_96_1 : TE.esc 96 1 = false := by kernel_rfl
@[simp] theorem es_97_1 : TE.esc 97 1 = false := by kernel_rfl
@[simp] theorem es_99_3 : TE.esc 99 3 = true := by kernel_rfl
@[simp] theorem es_99_5 : TE.esc 99 5 = true := by kernel_rfl
@[simp] theorem es_99_6 : TE.esc 99 6 = false := by kernel_rfl
@[simp] theorem es_9_9 : TE.esc 9 9 = true := by kernel_rfl
@[simp] theorem ow_105_11 : TE.own 105 11 = false := by kernel_rfl
@[simp] theorem ow_105_14 : TE.own 105 14 = false := by kernel_rfl
@[simp] theorem ow_105_17 : TE.own 105 17 = false := by kernel_rfl
@[simp] theorem ow_105_20 : TE.own 105 20 = false := by kernel_rfl
@[simp] theorem ow_108_20 : TE.own 108 20 = false := by kernel_rfl
@[simp] theorem ow_108_29 : TE.own 108 29 = false := by kernel_rfl
@[simp] theorem ow_108_33 : TE.own 108 33 = false := by kernel_rfl
@[simp] theorem ow_108_64 : TE.own 108 64 = false := by kernel_rfl
@[simp] theorem ow_10_116 : TE.own 10 116 = false := by kernel_rfl
@[simp] theorem ow_10_120 : TE.own 10 120 = false := by kernel_rfl
@[simp] theorem ow_10_74 : TE.own 10 74 = false := by kernel_rfl
@[simp] theorem ow_115_5 : TE.own 115 5 = false := by kernel_rfl
@[simp] theorem ow_120_5 : TE.own 120 5 = false := by kernel_rfl
@[simp] theorem ow_12_175 : TE.own 12 175 = false := by kernel_rfl
@[simp] theorem ow_12_189 : TE.own 12 189 = true := by kernel_rfl
@[simp] theorem ow_12_200 : TE.own 12 200 = true := by kernel_rfl
@[simp] theorem ow_12_204 : TE.own 12 204 = false := by kernel_rfl
@[simp] theorem ow_137_26 : TE.own 137 26 = false := by kernel_rfl
@[simp] theorem ow_138_99 : TE.own 138 99 = false := by kernel_rfl
@[simp] theorem ow_14_44 : TE.own 14 44 = false := by kernel_rfl
@[simp] theorem ow_14_47 : TE.own 14 47 = false := by kernel_rfl
@[simp] theorem ow_159_30 : TE.own 159 30 = false := by kernel_rfl
@[simp] theorem ow_173_26 : TE.own 173 26 = false := by kernel_rfl
@[simp] theorem ow_173_31 : TE.own 173 31 = false := by kernel_rfl
@[simp] theorem ow_173_37 : TE.own 173 37 = false := by kernel_rfl
@[simp] theorem ow_173_48 : TE.own 173 48 = false := by kernel_rfl
@[simp] theorem ow_173_8 : TE.own 173 8 = false := by kernel_rfl
@[simp] theorem ow_183_66 : TE.own 183 66 = false := by kernel_rfl
@[simp] theorem ow_196_19 : TE.own 196 19 = false := by kernel_rfl
@[simp] theorem ow_197_48 : TE.own 197 48 = false := by kernel_rfl
@[simp] theorem ow_197_64 : TE.own 197 64 = false := by kernel_rfl
@[simp] theorem ow_198_14 : TE.own 198 14 = false := by kernel_rfl
@[simp] theorem ow_198_41 : TE.own 198 41 = false := by kernel_rfl
@[simp] theorem ow_215_23 : TE.own 215 23 = false := by kernel_rfl
@[simp] theorem ow_217_41 : TE.own 217 41 = false := by kernel_rfl
@[simp] theorem ow_219_50 : TE.own 219 50 = false := by kernel_rfl
@[simp] theorem ow_260_16 : TE.own 260 16 = false := by kernel_rfl
@[simp] theorem ow_262_5 : TE.own 262 5 = false := by kernel_rfl
@[simp] theorem ow_28_3 : TE.own 28 3 = false := by kernel_rfl
@[simp] theorem ow_31_6 : TE.own 31 6 = false := by kernel_rfl
@[simp] theorem ow_3_35 : TE.own 3 35 = false := by kernel_rfl
@[simp] theorem ow_43_65 : TE.own 43 65 = false := by kernel_rfl
@[simp] theorem ow_44_44 : TE.own 44 44 = false := by kernel_rfl
@[simp] theorem ow_48_11 : TE.own 48 11 = false := by kernel_rfl
@[simp] theorem ow_49_18 : TE.own 49 18 = false := by kernel_rfl
@[simp] theorem ow_50_28 : TE.own 50 28 = false := by kernel_rfl
@[simp] theorem ow_50_31 : TE.own 50 31 = false := by kernel_rfl
@[simp] theorem ow_50_34 : TE.own 50 34 = false := by kernel_rfl
@[simp] theorem ow_50_6 : TE.own 50 6 = false := by kernel_rfl
@[simp] theorem ow_50_9 : TE.own 50 9 = false := by kernel_rfl
@[simp] theorem ow_51_28 : TE.own 51 28 = true := by kernel_rfl
@[simp] theorem ow_51_54 : TE.own 51 54 = false := by kernel_rfl
@[simp] theorem ow_51_68 : TE.own 51 68 = true := by kernel_rfl
@[simp] theorem ow_60_11 : TE.own 60 11 = false := by kernel_rfl
@[simp] theorem ow_60_20 : TE.own 60 20 = false := by kernel_rfl
@[simp] theorem ow_64_25 : TE.own 64 25 = false := by kernel_rfl
@[simp] theorem ow_73_33 : TE.own 73 33 = false := by kernel_rfl
@[simp] theorem ow_76_35 : TE.own 76 35 = false := by kernel_rfl
@[simp] theorem ow_93_74 : TE.own 93 74 = false := by kernel_rfl
@[simp] theorem ow_94_5 : TE.own 94 5 = false := by kernel_rfl
@[simp] theorem ta_100 : tAgg TE.P 100 = some false := by kernel_rfl
@[simp] theorem ta_101 : tAgg TE.P 101 = some false := by kernel_rfl
@[simp] theorem ta_103 : tAgg TE.P 103 = some true := by kernel_rfl
@[simp] theorem ta_105 : tAgg TE.P 105 = some true := by kernel_rfl
@[simp] theorem ta_107 : tAgg TE.P 107 = some true := by kernel_rfl
@[simp] theorem ta_126 : tAgg TE.P 126 = some false := by kernel_rfl
@[simp] theorem ta_128 : tAgg TE.P 128 = some true := by kernel_rfl
@[simp] theorem ta_130 : tAgg TE.P 130 = some false := by kernel_rfl
@[simp] theorem ta_132 : tAgg TE.P 132 = some true := by kernel_rfl
@[simp] theorem ta_134 : tAgg TE.P 134 = some true := by kernel_rfl
@[simp] theorem ta_174 : tAgg TE.P 174 = some true := by kernel_rfl
@[simp] theorem ta_176 : tAgg TE.P 176 = some true := by kernel_rfl
@[simp] theorem ta_22 : tAgg TE.P 22 = some false := by kernel_rfl
@[simp] theorem ta_234 : tAgg TE.P 234 = some true := by kernel_rfl
@[simp] theorem ta_246 : tAgg TE.P 246 = some true := by kernel_rfl
@[simp] theorem ta_251 : tAgg TE.P 251 = some true := by kernel_rfl
@[simp] theorem ta_26 : tAgg TE.P 26 = some true := by kernel_rfl
@[simp] theorem ta_28 : tAgg TE.P 28 = some true := by kernel_rfl
@[simp] theorem ta_3 : tAgg TE.P 3 = some false := by kernel_rfl
@[simp] theorem ta_30 : tAgg TE.P 30 = some true := by kernel_rfl
@[simp] theorem ta_319 : tAgg TE.P 319 = some false := by kernel_rfl
@[simp] theorem ta_32 : tAgg TE.P 32 = some true := by kernel_rfl
@[simp] theorem ta_34 : tAgg TE.P 34 = some true := by kernel_rfl
@[simp] theorem ta_355 : tAgg TE.P 355 = some true := by kernel_rfl
@[simp] theorem ta_36 : tAgg TE.P 36 = some true := by kernel_rfl
@[simp] theorem ta_4 : tAgg TE.P 4 = some false := by kernel_rfl
@[simp] theorem ta_41 : tAgg TE.P 41 = some false := by kernel_rfl
@[simp] theorem ta_43 : tAgg TE.P 43 = some true := by kernel_rfl
@[simp] theorem ta_45 : tAgg TE.P 45 = some true := by kernel_rfl
@[simp] theorem ta_47 : tAgg TE.P 47 = some false := by kernel_rfl
@[simp] theorem ta_49 : tAgg TE.P 49 = some true := by kernel_rfl
@[simp] theorem ta_5 : tAgg TE.P 5 = some false := by kernel_rfl
@[simp] theorem ta_51 : tAgg TE.P 51 = some false := by kernel_rfl
@[simp] theorem ta_55 : tAgg TE.P 55 = some true := by kernel_rfl
@[simp] theorem ta_57 : tAgg TE.P 57 = some true := by kernel_rfl
@[simp] theorem ta_59 : tAgg TE.P 59 = some true := by kernel_rfl
@[simp] theorem ta_60 : tAgg TE.P 60 = some false := by kernel_rfl
@[simp] theorem ta_62 : tAgg TE.P 62 = some true := by kernel_rfl
@[simp] theorem ta_82 : tAgg TE.P 82 = some true := by kernel_rfl
@[simp] theorem ta_86 : tAgg TE.P 86 = some false := by kernel_rfl
@[simp] theorem ta_9 : tAgg TE.P 9 = some false := by kernel_rfl
@[simp] theorem ta_99 : tAgg TE.P 99 = some false := by kernel_rfl
@[simp] theorem tb_103 : TE.P.bytesOf 103 = 136 := by kernel_rfl
@[simp] theorem tb_105 : TE.P.bytesOf 105 = 88 := by kernel_rfl
@[simp] theorem tb_107 : TE.P.bytesOf 107 = 16 := by kernel_rfl
@[simp] theorem tb_125 : TE.P.bytesOf 125 = 32 := by kernel_rfl
@[simp] theorem tb_128 : TE.P.bytesOf 128 = 88 := by kernel_rfl
@[simp] theorem tb_134 : TE.P.bytesOf 134 = 80 := by kernel_rfl
@[simp] theorem tb_174 : TE.P.bytesOf 174 = 64 := by kernel_rfl
@[simp] theorem tb_216 : TE.P.bytesOf 216 = 24 := by kernel_rfl
@[simp] theorem tb_22 : TE.P.bytesOf 22 = 24 := by kernel_rfl
@[simp] theorem tb_234 : TE.P.bytesOf 234 = 96 := by kernel_rfl
@[simp] theorem tb_3 : TE.P.bytesOf 3 = 8 := by kernel_rfl
@[simp] theorem tb_4 : TE.P.bytesOf 4 = 1 := by kernel_rfl
@[simp] theorem tb_55 : TE.P.bytesOf 55 = 64 := by kernel_rfl
@[simp] theorem tb_59 : TE.P.bytesOf 59 = 144 := by kernel_rfl
@[simp] theorem tb_9 : TE.P.bytesOf 9 = 16 := by kernel_rfl
@[simp] theorem tc_100 : TE.P.cellsOf 100 = 1 := by kernel_rfl
@[simp] theorem tc_101 : TE.P.cellsOf 101 = 1 := by kernel_rfl
@[simp] theorem tc_103 : TE.P.cellsOf 103 = 7 := by kernel_rfl
@[simp] theorem tc_105 : TE.P.cellsOf 105 = 5 := by kernel_rfl
@[simp] theorem tc_107 : TE.P.cellsOf 107 = 2 := by kernel_rfl
@[simp] theorem tc_119 : TE.P.cellsOf 119 = 2 := by kernel_rfl
@[simp] theorem tc_125 : TE.P.cellsOf 125 = 4 := by kernel_rfl
@[simp] theorem tc_126 : TE.P.cellsOf 126 = 1 := by kernel_rfl
@[simp] theorem tc_128 : TE.P.cellsOf 128 = 5 := by kernel_rfl
@[simp] theorem tc_130 : TE.P.cellsOf 130 = 1 := by kernel_rfl
@[simp] theorem tc_132 : TE.P.cellsOf 132 = 1 := by kernel_rfl
@[simp] theorem tc_134 : TE.P.cellsOf 134 = 8 := by kernel_rfl
@[simp] theorem tc_174 : TE.P.cellsOf 174 = 6 := by kernel_rfl
@[simp] theorem tc_176 : TE.P.cellsOf 176 = 8 := by kernel_rfl
@[simp] theorem tc_216 : TE.P.cellsOf 216 = 3 := by kernel_rfl
@[simp] theorem tc_22 : TE.P.cellsOf 22 = 1 := by kernel_rfl
@[simp] theorem tc_234 : TE.P.cellsOf 234 = 10 := by kernel_rfl
@[simp] theorem tc_246 : TE.P.cellsOf 246 = 4 := by kernel_rfl
@[simp] theorem tc_251 : TE.P.cellsOf 251 = 2 := by kernel_rfl
@[simp] theorem tc_26 : TE.P.cellsOf 26 = 3 := by kernel_rfl
@[simp] theorem tc_28 : TE.P.cellsOf 28 = 6 := by kernel_rfl
@[simp] theorem tc_3 : TE.P.cellsOf 3 = 1 := by kernel_rfl
@[simp] theorem tc_30 : TE.P.cellsOf 30 = 3 := by kernel_rfl
@[simp] theorem tc_319 : TE.P.cellsOf 319 = 1 := by kernel_rfl
@[simp] theorem tc_32 : TE.P.cellsOf 32 = 14 := by kernel_rfl
@[simp] theorem tc_34 : TE.P.cellsOf 34 = 5 := by kernel_rfl
@[simp] theorem tc_355 : TE.P.cellsOf 355 = 2 := by kernel_rfl
@[simp] theorem tc_36 : TE.P.cellsOf 36 = 20 := by kernel_rfl
@[simp] theorem tc_38 : TE.P.cellsOf 38 = 4 := by kernel_rfl
@[simp] theorem tc_4 : TE.P.cellsOf 4 = 1 := by kernel_rfl
@[simp] theorem tc_40 : TE.P.cellsOf 40 = 7 := by kernel_rfl
@[simp] theorem tc_41 : TE.P.cellsOf 41 = 1 := by kernel_rfl
@[simp] theorem tc_43 : TE.P.cellsOf 43 = 3 := by kernel_rfl
@[simp] theorem tc_45 : TE.P.cellsOf 45 = 31 := by kernel_rfl
@[simp] theorem tc_47 : TE.P.cellsOf 47 = 1 := by kernel_rfl
@[simp] theorem tc_49 : TE.P.cellsOf 49 = 1 := by kernel_rfl
@[simp] theorem tc_5 : TE.P.cellsOf 5 = 1 := by kernel_rfl
@[simp] theorem tc_51 : TE.P.cellsOf 51 = 1 := by kernel_rfl
@[simp] theorem tc_55 : TE.P.cellsOf 55 = 4 := by kernel_rfl
@[simp] theorem tc_57 : TE.P.cellsOf 57 = 2 := by kernel_rfl
@[simp] theorem tc_59 : TE.P.cellsOf 59 = 12 := by kernel_rfl
@[simp] theorem tc_60 : TE.P.cellsOf 60 = 1 := by kernel_rfl
@[simp] theorem tc_62 : TE.P.cellsOf 62 = 1 := by kernel_rfl
@[simp] theorem tc_82 : TE.P.cellsOf 82 = 3 := by kernel_rfl
@[simp] theorem tc_86 : TE.P.cellsOf 86 = 1 := by kernel_rfl
@[simp] theorem tc_9 : TE.P.cellsOf 9 = 1 := by kernel_rfl
@[simp] theorem tc_99 : TE.P.cellsOf 99 = 1 := by kernel_rfl
@[simp] theorem te_100 : tElem TE.P 100 = some 107 := by kernel_rfl
@[simp] theorem te_101 : tElem TE.P 101 = some 216 := by kernel_rfl
@[simp] theorem te_126 : tElem TE.P 126 = some 134 := by kernel_rfl
@[simp] theorem te_130 : tElem TE.P 130 = some 234 := by kernel_rfl
@[simp] theorem te_22 : tElem TE.P 22 = some 3 := by kernel_rfl
@[simp] theorem te_246 : tElem TE.P 246 = none := by kernel_rfl
@[simp] theorem te_265 : tElem TE.P 265 = some 4 := by kernel_rfl
@[simp] theorem te_267 : tElem TE.P 267 = some 22 := by kernel_rfl
@[simp] theorem te_3 : tElem TE.P 3 = none := by kernel_rfl
@[simp] theorem te_353 : tElem TE.P 353 = none := by kernel_rfl
@[simp] theorem te_356 : tElem TE.P 356 = none := by kernel_rfl
@[simp] theorem te_41 : tElem TE.P 41 = some 125 := by kernel_rfl
@[simp] theorem te_47 : tElem TE.P 47 = some 128 := by kernel_rfl
@[simp] theorem te_51 : tElem TE.P 51 = some 59 := by kernel_rfl
@[simp] theorem te_60 : tElem TE.P 60 = some 105 := by kernel_rfl
@[simp] theorem te_78 : tElem TE.P 78 = some 55 := by kernel_rfl
@[simp] theorem te_82 : tElem TE.P 82 = none := by kernel_rfl
@[simp] theorem te_85 : tElem TE.P 85 = some 9 := by kernel_rfl
@[simp] theorem te_86 : tElem TE.P 86 = some 103 := by kernel_rfl
@[simp] theorem te_9 : tElem TE.P 9 = none := by kernel_rfl
@[simp] theorem te_99 : tElem TE.P 99 = some 174 := by kernel_rfl
@[simp] theorem tf_103_1 : tField TE.P 103 1 = some (4, 99) := by kernel_rfl
@[simp] theorem tf_103_2 : tField TE.P 103 2 = some (5, 100) := by kernel_rfl
@[simp] theorem tf_103_3 : tField TE.P 103 3 = some (6, 101) := by kernel_rfl
@[simp] theorem tf_105_0 : tField TE.P 105 0 = some (0, 55) := by kernel_rfl
@[simp] theorem tf_105_1 : tField TE.P 105 1 = some (4, 51) := by kernel_rfl
@[simp] theorem tf_107_0 : tField TE.P 107 0 = some (0, 3) := by kernel_rfl
@[simp] theorem tf_107_1 : tField TE.P 107 1 = some (1, 3) := by kernel_rfl
@[simp] theorem tf_119_0 : tField TE.P 119 0 = some (0, 22) := by kernel_rfl
@[simp] theorem tf_119_1 : tField TE.P 119 1 = some (1, 3) := by kernel_rfl
@[simp] theorem tf_125_2 : tField TE.P 125 2 = some (2, 3) := by kernel_rfl
@[simp] theorem tf_125_3 : tField TE.P 125 3 = some (3, 3) := by kernel_rfl
@[simp] theorem tf_128_0 : tField TE.P 128 0 = some (0, 55) := by kernel_rfl
@[simp] theorem tf_128_1 : tField TE.P 128 1 = some (4, 126) := by kernel_rfl
@[simp] theorem tf_132_0 : tField TE.P 132 0 = some (0, 130) := by kernel_rfl
@[simp] theorem tf_134_0 : tField TE.P 134 0 = some (0, 3) := by kernel_rfl
@[simp] theorem tf_134_1 : tField TE.P 134 1 = some (1, 3) := by kernel_rfl
@[simp] theorem tf_134_3 : tField TE.P 134 3 = some (4, 26) := by kernel_rfl
@[simp] theorem tf_134_4 : tField TE.P 134 4 = some (7, 132) := by kernel_rfl
@[simp] theorem tf_174_0 : tField TE.P 174 0 = some (0, 3) := by kernel_rfl
@[simp] theorem tf_174_1 : tField TE.P 174 1 = some (1, 3) := by kernel_rfl
@[simp] theorem tf_174_2 : tField TE.P 174 2 = some (2, 57) := by kernel_rfl
@[simp] theorem tf_174_3 : tField TE.P 174 3 = some (4, 3) := by kernel_rfl
@[simp] theorem tf_174_4 : tField TE.P 174 4 = some (5, 22) := by kernel_rfl
@[simp] theorem tf_176_0 : tField TE.P 176 0 = some (0, 174) := by kernel_rfl
@[simp] theorem tf_176_1 : tField TE.P 176 1 = some (6, 3) := by kernel_rfl
@[simp] theorem tf_176_2 : tField TE.P 176 2 = some (7, 3) := by kernel_rfl
@[simp] theorem tf_216_1 : tField TE.P 216 1 = some (1, 3) := by kernel_rfl
@[simp] theorem tf_216_2 : tField TE.P 216 2 = some (2, 4) := by kernel_rfl
@[simp] theorem tf_234_0 : tField TE.P 234 0 = some (0, 3) := by kernel_rfl
@[simp] theorem tf_234_1 : tField TE.P 234 1 = some (1, 82) := by kernel_rfl
@[simp] theorem tf_234_2 : tField TE.P 234 2 = some (4, 82) := by kernel_rfl
@[simp] theorem tf_234_3 : tField TE.P 234 3 = some (7, 22) := by kernel_rfl
@[simp] theorem tf_234_4 : tField TE.P 234 4 = some (8, 3) := by kernel_rfl
@[simp] theorem tf_234_5 : tField TE.P 234 5 = some (9, 3) := by kernel_rfl
@[simp] theorem tf_251_0 : tField TE.P 251 0 = some (0, 3) := by kernel_rfl
@[simp] theorem tf_251_1 : tField TE.P 251 1 = some (1, 4) := by kernel_rfl
@[simp] theorem tf_26_0 : tField TE.P 26 0 = some (0, 3) := by kernel_rfl
@[simp] theorem tf_26_1 : tField TE.P 26 1 = some (1, 3) := by kernel_rfl
@[simp] theorem tf_26_2 : tField TE.P 26 2 = some (2, 3) := by kernel_rfl
@[simp] theorem tf_28_0 : tField TE.P 28 0 = some (0, 26) := by kernel_rfl
@[simp] theorem tf_28_1 : tField TE.P 28 1 = some (3, 26) := by kernel_rfl
@[simp] theorem tf_30_0 : tField TE.P 30 0 = some (0, 3) := by kernel_rfl
@[simp] theorem tf_30_1 : tField TE.P 30 1 = some (1, 22) := by kernel_rfl
@[simp] theorem tf_30_2 : tField TE.P 30 2 = some (2, 22) := by kernel_rfl
@[simp] theorem tf_32_0 : tField TE.P 32 0 = some (0, 28) := by kernel_rfl
@[simp] theorem tf_32_1 : tField TE.P 32 1 = some (6, 30) := by kernel_rfl
@[simp] theorem tf_32_2 : tField TE.P 32 2 = some (9, 3) := by kernel_rfl
@[simp] theorem tf_32_3 : tField TE.P 32 3 = some (10, 3) := by kernel_rfl
@[simp] theorem tf_32_4 : tField TE.P 32 4 = some (11, 3) := by kernel_rfl
@[simp] theorem tf_32_5 : tField TE.P 32 5 = some (12, 3) := by kernel_rfl
@[simp] theorem tf_34_0 : tField TE.P 34 0 = some (0, 30) := by kernel_rfl
@[simp] theorem tf_355_0 : tField TE.P 355 0 = some (0, 5) := by kernel_rfl
@[simp] theorem tf_355_1 : tField TE.P 355 1 = some (1, 5) := by kernel_rfl
@[simp] theorem tf_36_0 : tField TE.P 36 0 = some (0, 32) := by kernel_rfl
@[simp] theorem tf_36_2 : tField TE.P 36 2 = some (19, 3) := by kernel_rfl
@[simp] theorem tf_43_0 : tField TE.P 43 0 = some (0, 41) := by kernel_rfl
@[simp] theorem tf_43_1 : tField TE.P 43 1 = some (1, 3) := by kernel_rfl
@[simp] theorem tf_43_2 : tField TE.P 43 2 = some (2, 3) := by kernel_rfl
@[simp] theorem tf_45_0 : tField TE.P 45 0 = some (0, 36) := by kernel_rfl
@[simp] theorem tf_49_0 : tField TE.P 49 0 = some (0, 47) := by kernel_rfl
@[simp] theorem tf_55_0 : tField TE.P 55 0 = some (0, 9) := by kernel_rfl
@[simp] theorem tf_55_1 : tField TE.P 55 1 = some (1, 9) := by kernel_rfl
@[simp] theorem tf_55_2 : tField TE.P 55 2 = some (2, 9) := by kernel_rfl
@[simp] theorem tf_55_3 : tField TE.P 55 3 = some (3, 9) := by kernel_rfl
@[simp] theorem tf_57_0 : tField TE.P 57 0 = some (0, 3) := by kernel_rfl
@[simp] theorem tf_57_1 : tField TE.P 57 1 = some (1, 3) := by kernel_rfl
@[simp] theorem tf_59_0 : tField TE.P 59 0 = some (0, 55) := by kernel_rfl
@[simp] theorem tf_59_1 : tField TE.P 59 1 = some (4, 3) := by kernel_rfl
@[simp] theorem tf_59_2 : tField TE.P 59 2 = some (5, 3) := by kernel_rfl
@[simp] theorem tf_59_3 : tField TE.P 59 3 = some (6, 57) := by kernel_rfl
@[simp] theorem tf_59_4 : tField TE.P 59 4 = some (8, 3) := by kernel_rfl
@[simp] theorem tf_59_5 : tField TE.P 59 5 = some (9, 3) := by kernel_rfl
@[simp] theorem tf_59_6 : tField TE.P 59 6 = some (10, 3) := by kernel_rfl
@[simp] theorem tf_59_7 : tField TE.P 59 7 = some (11, 22) := by kernel_rfl
@[simp] theorem tf_62_0 : tField TE.P 62 0 = some (0, 60) := by kernel_rfl
@[simp] theorem ti_3 : (TE.P.info? 3).isSome = true := by kernel_rfl
@[simp] theorem ti_355 : (TE.P.info? 355).isSome = true := by kernel_rfl
@[simp] theorem ti_5 : (TE.P.info? 5).isSome = true := by kernel_rfl
@[simp] theorem ti_9 : (TE.P.info? 9).isSome = true := by kernel_rfl
@[simp] theorem tk_103 : zOk TE.P 103 = some (.agg [.str [], .str [], .str [], .str [], .nils, .nils, .nils]) := by kernel_rfl
@[simp] theorem tk_105 : zOk TE.P 105 = some (.agg [.str [], .str [], .str [], .str [], .nils]) := by kernel_rfl
@[simp] theorem tk_107 : zOk TE.P 107 = some (.agg [.int .i64 0, .int .i64 0]) := by kernel_rfl
@[simp] theorem tk_125 : zOk TE.P 125 = some (.agg [.int .i64 0, .int .i64 0, .int .i64 0, .int .i64 0]) := by kernel_rfl
@[simp] theorem tk_128 : zOk TE.P 128 = some (.agg [.str [], .str [], .str [], .str [], .nils]) := by kernel_rfl
@[simp] theorem tk_134 : zOk TE.P 134 = some (.agg [.int .i64 0, .int .i64 0, .int .i64 0, .int .i64 0, .int .i64 0, .int .i64 0, .int .i64 0, .nils]) := by kernel_rfl
@[simp] theorem tk_174 : zOk TE.P 174 = some (.agg [.int .i64 0, .int .i64 0, .int .i64 0, .int .i64 0, .int .i64 0, .nils]) := by kernel_rfl
@[simp] theorem tk_216 : zOk TE.P 216 = some (.agg [.int .i64 0, .int .i64 0, .bool false]) := by kernel_rfl
@[simp] theorem tk_22 : zOk TE.P 22 = some (.nils) := by kernel_rfl
@[simp] theorem tk_234 : zOk TE.P 234 = some (.agg [.int .i64 0, .int .i64 0, .int .i64 0, .int .i64 0, .int .i64 0, .int .i64 0, .int .i64 0, .nils, .int .i64 0, .int .i64 0]) := by kernel_rfl
@[simp] theorem tk_3 : zOk TE.P 3 = some (.int .i64 0) := by kernel_rfl
@[simp] theorem tk_4 : zOk TE.P 4 = some (.bool false) := by kernel_rfl
@[simp] theorem tk_55 : zOk TE.P 55 = some (.agg [.str [], .str [], .str [], .str []]) := by kernel_rfl
@[simp] theorem tk_59 : zOk TE.P 59 = some (.agg [.str [], .str [], .str [], .str [], .int .i64 0, .int .i64 0, .int .i64 0, .int .i64 0, .int .i64 0, .int .i64 0, .int .i64 0, .nils]) := by kernel_rfl
@[simp] theorem tk_9 : zOk TE.P 9 = some (.str []) := by kernel_rfl
@[simp] theorem tn_100 : nilEq TE.P 100 .nils .nils = some true := by kernel_rfl
@[simp] theorem tn_22 : nilEq TE.P 22 .nils .nils = some true := by kernel_rfl
@[simp] theorem tn_51 : nilEq TE.P 51 .nils .nils = some true := by kernel_rfl
@[simp] theorem tn_60 : nilEq TE.P 60 .nils .nils = some true := by kernel_rfl
@[simp] theorem to_103 : buildOk TE.P 103 = true := by kernel_rfl
@[simp] theorem to_105 : buildOk TE.P 105 = true := by kernel_rfl
@[simp] theorem to_107 : buildOk TE.P 107 = true := by kernel_rfl
@[simp] theorem to_119 : buildOk TE.P 119 = true := by kernel_rfl
@[simp] theorem to_125 : buildOk TE.P 125 = true := by kernel_rfl
@[simp] theorem to_128 : buildOk TE.P 128 = true := by kernel_rfl
@[simp] theorem to_134 : buildOk TE.P 134 = true := by kernel_rfl
@[simp] theorem to_174 : buildOk TE.P 174 = true := by kernel_rfl
@[simp] theorem to_176 : buildOk TE.P 176 = true := by kernel_rfl
@[simp] theorem to_216 : buildOk TE.P 216 = true := by kernel_rfl
@[simp] theorem to_234 : buildOk TE.P 234 = true := by kernel_rfl
@[simp] theorem to_246 : buildOk TE.P 246 = true := by kernel_rfl
@[simp] theorem to_251 : buildOk TE.P 251 = true := by kernel_rfl
@[simp] theorem to_26 : buildOk TE.P 26 = true := by kernel_rfl
@[simp] theorem to_28 : buildOk TE.P 28 = true := by kernel_rfl
@[simp] theorem to_30 : buildOk TE.P 30 = true := by kernel_rfl
@[simp] theorem to_32 : buildOk TE.P 32 = true := by kernel_rfl
@[simp] theorem to_34 : buildOk TE.P 34 = true := by kernel_rfl
@[simp] theorem to_36 : buildOk TE.P 36 = true := by kernel_rfl
@[simp] theorem to_38 : buildOk TE.P 38 = true := by kernel_rfl
@[simp] theorem to_40 : buildOk TE.P 40 = true := by kernel_rfl
@[simp] theorem to_43 : buildOk TE.P 43 = true := by kernel_rfl
@[simp] theorem to_45 : buildOk TE.P 45 = true := by kernel_rfl
@[simp] theorem to_55 : buildOk TE.P 55 = true := by kernel_rfl
@[simp] theorem to_57 : buildOk TE.P 57 = true := by kernel_rfl
@[simp] theorem to_59 : buildOk TE.P 59 = true := by kernel_rfl
@[simp] theorem to_62 : buildOk TE.P 62 = true := by kernel_rfl
@[simp] theorem to_82 : buildOk TE.P 82 = true := by kernel_rfl
@[simp] theorem tp_103_0 : placeOf TE.P 103 0 = some (0, 4) := by kernel_rfl
@[simp] theorem tp_103_1 : placeOf TE.P 103 1 = some (4, 1) := by kernel_rfl
@[simp] theorem tp_103_2 : placeOf TE.P 103 2 = some (5, 1) := by kernel_rfl
@[simp] theorem tp_103_3 : placeOf TE.P 103 3 = some (6, 1) := by kernel_rfl
@[simp] theorem tp_105_0 : placeOf TE.P 105 0 = some (0, 4) := by kernel_rfl
@[simp] theorem tp_105_1 : placeOf TE.P 105 1 = some (4, 1) := by kernel_rfl
@[simp] theorem tp_107_0 : placeOf TE.P 107 0 = some (0, 1) := by kernel_rfl
@[simp] theorem tp_107_1 : placeOf TE.P 107 1 = some (1, 1) := by kernel_rfl
@[simp] theorem tp_119_0 : placeOf TE.P 119 0 = some (0, 1) := by kernel_rfl
@[simp] theorem tp_119_1 : placeOf TE.P 119 1 = some (1, 1) := by kernel_rfl
@[simp] theorem tp_125_0 : placeOf TE.P 125 0 = some (0, 1) := by kernel_rfl
@[simp] theorem tp_125_1 : placeOf TE.P 125 1 = some (1, 1) := by kernel_rfl
@[simp] theorem tp_125_2 : placeOf TE.P 125 2 = some (2, 1) := by kernel_rfl
@[simp] theorem tp_125_3 : placeOf TE.P 125 3 = some (3, 1) := by kernel_rfl
@[simp] theorem tp_128_0 : placeOf TE.P 128 0 = some (0, 4) := by kernel_rfl
@[simp] theorem tp_128_1 : placeOf TE.P 128 1 = some (4, 1) := by kernel_rfl
@[simp] theorem tp_134_0 : placeOf TE.P 134 0 = some (0, 1) := by kernel_rfl
@[simp] theorem tp_134_1 : placeOf TE.P 134 1 = some (1, 1) := by kernel_rfl
@[simp] theorem tp_134_2 : placeOf TE.P 134 2 = some (2, 2) := by kernel_rfl
@[simp] theorem tp_134_3 : placeOf TE.P 134 3 = some (4, 3) := by kernel_rfl
@[simp] theorem tp_134_4 : placeOf TE.P 134 4 = some (7, 1) := by kernel_rfl
@[simp] theorem tp_174_0 : placeOf TE.P 174 0 = some (0, 1) := by kernel_rfl
@[simp] theorem tp_174_1 : placeOf TE.P 174 1 = some (1, 1) := by kernel_rfl
@[simp] theorem tp_174_2 : placeOf TE.P 174 2 = some (2, 2) := by kernel_rfl
@[simp] theorem tp_174_3 : placeOf TE.P 174 3 = some (4, 1) := by kernel_rfl
@[simp] theorem tp_174_4 : placeOf TE.P 174 4 = some (5, 1) := by kernel_rfl
@[simp] theorem tp_176_0 : placeOf TE.P 176 0 = some (0, 6) := by kernel_rfl
@[simp] theorem tp_176_1 : placeOf TE.P 176 1 = some (6, 1) := by kernel_rfl
@[simp] theorem tp_176_2 : placeOf TE.P 176 2 = some (7, 1) := by kernel_rfl
@[simp] theorem tp_216_0 : placeOf TE.P 216 0 = some (0, 1) := by kernel_rfl
@[simp] theorem tp_216_1 : placeOf TE.P 216 1 = some (1, 1) := by kernel_rfl
@[simp] theorem tp_216_2 : placeOf TE.P 216 2 = some (2, 1) := by kernel_rfl
@[simp] theorem tp_234_0 : placeOf TE.P 234 0 = some (0, 1) := by kernel_rfl
@[simp] theorem tp_234_1 : placeOf TE.P 234 1 = some (1, 3) := by kernel_rfl
@[simp] theorem tp_234_2 : placeOf TE.P 234 2 = some (4, 3) := by kernel_rfl
@[simp] theorem tp_234_3 : placeOf TE.P 234 3 = some (7, 1) := by kernel_rfl
@[simp] theorem tp_234_4 : placeOf TE.P 234 4 = some (8, 1) := by kernel_rfl
@[simp] theorem tp_234_5 : placeOf TE.P 234 5 = some (9, 1) := by kernel_rfl
@[simp] theorem tp_246_0 : placeOf TE.P 246 0 = some (0, 1) := by kernel_rfl
@[simp] theorem tp_246_1 : placeOf TE.P 246 1 = some (1, 1) := by kernel_rfl
@[simp] theorem tp_246_2 : placeOf TE.P 246 2 = some (2, 1) := by kernel_rfl
@[simp] theorem tp_246_3 : placeOf TE.P 246 3 = some (3, 1) := by kernel_rfl
@[simp] theorem tp_251_0 : placeOf TE.P 251 0 = some (0, 1) := by kernel_rfl
@[simp] theorem tp_251_1 : placeOf TE.P 251 1 = some (1, 1) := by kernel_rfl
@[simp] theorem tp_26_0 : placeOf TE.P 26 0 = some (0, 1) := by kernel_rfl
@[simp] theorem tp_26_1 : placeOf TE.P 26 1 = some (1, 1) := by kernel_rfl
@[simp] theorem tp_26_2 : placeOf TE.P 26 2 = some (2, 1) := by kernel_rfl
@[simp] theorem tp_28_0 : placeOf TE.P 28 0 = some (0, 3) := by kernel_rfl
@[simp] theorem tp_28_1 : placeOf TE.P 28 1 = some (3, 3) := by kernel_rfl
@[simp] theorem tp_30_0 : placeOf TE.P 30 0 = some (0, 1) := by kernel_rfl
@[simp] theorem tp_30_1 : placeOf TE.P 30 1 = some (1, 1) := by kernel_rfl
@[simp] theorem tp_30_2 : placeOf TE.P 30 2 = some (2, 1) := by kernel_rfl
@[simp] theorem tp_32_0 : placeOf TE.P 32 0 = some (0, 6) := by kernel_rfl
@[simp] theorem tp_32_1 : placeOf TE.P 32 1 = some (6, 3) := by kernel_rfl
@[simp] theorem tp_32_2 : placeOf TE.P 32 2 = some (9, 1) := by kernel_rfl
@[simp] theorem tp_32_3 : placeOf TE.P 32 3 = some (10, 1) := by kernel_rfl
@[simp] theorem tp_32_4 : placeOf TE.P 32 4 = some (11, 1) := by kernel_rfl
@[simp] theorem tp_32_5 : placeOf TE.P 32 5 = some (12, 1) := by kernel_rfl
@[simp] theorem tp_32_6 : placeOf TE.P 32 6 = some (13, 1) := by kernel_rfl
@[simp] theorem tp_34_0 : placeOf TE.P 34 0 = some (0, 3) := by kernel_rfl
@[simp] theorem tp_34_1 : placeOf TE.P 34 1 = some (3, 1) := by kernel_rfl
@[simp] theorem tp_34_2 : placeOf TE.P 34 2 = some (4, 1) := by kernel_rfl
@[simp] theorem tp_36_0 : placeOf TE.P 36 0 = some (0, 14) := by kernel_rfl
@[simp] theorem tp_36_1 : placeOf TE.P 36 1 = some (14, 5) := by kernel_rfl
@[simp] theorem tp_36_2 : placeOf TE.P 36 2 = some (19, 1) := by kernel_rfl
@[simp] theorem tp_38_0 : placeOf TE.P 38 0 = some (0, 1) := by kernel_rfl
@[simp] theorem tp_38_1 : placeOf TE.P 38 1 = some (1, 1) := by kernel_rfl
@[simp] theorem tp_38_2 : placeOf TE.P 38 2 = some (2, 1) := by kernel_rfl
@[simp] theorem tp_38_3 : placeOf TE.P 38 3 = some (3, 1) := by kernel_rfl
@[simp] theorem tp_40_0 : placeOf TE.P 40 0 = some (0, 4) := by kernel_rfl
@[simp] theorem tp_40_1 : placeOf TE.P 40 1 = some (4, 1) := by kernel_rfl
@[simp] theorem tp_40_2 : placeOf TE.P 40 2 = some (5, 1) := by kernel_rfl
@[simp] theorem tp_40_3 : placeOf TE.P 40 3 = some (6, 1) := by kernel_rfl
@[simp] theorem tp_43_0 : placeOf TE.P 43 0 = some (0, 1) := by kernel_rfl
@[simp] theorem tp_43_1 : placeOf TE.P 43 1 = some (1, 1) := by kernel_rfl
@[simp] theorem tp_43_2 : placeOf TE.P 43 2 = some (2, 1) := by kernel_rfl
@[simp] theorem tp_45_0 : placeOf TE.P 45 0 = some (0, 20) := by kernel_rfl
@[simp] theorem tp_45_1 : placeOf TE.P 45 1 = some (20, 7) := by kernel_rfl
@[simp] theorem tp_45_2 : placeOf TE.P 45 2 = some (27, 1) := by kernel_rfl
@[simp] theorem tp_45_3 : placeOf TE.P 45 3 = some (28, 3) := by kernel_rfl
@[simp] theorem tp_55_0 : placeOf TE.P 55 0 = some (0, 1) := by kernel_rfl
@[simp] theorem tp_55_1 : placeOf TE.P 55 1 = some (1, 1) := by kernel_rfl
@[simp] theorem tp_55_2 : placeOf TE.P 55 2 = some (2, 1) := by kernel_rfl
@[simp] theorem tp_55_3 : placeOf TE.P 55 3 = some (3, 1) := by kernel_rfl
@[simp] theorem tp_57_0 : placeOf TE.P 57 0 = some (0, 1) := by kernel_rfl
@[simp] theorem tp_57_1 : placeOf TE.P 57 1 = some (1, 1) := by kernel_rfl
@[simp] theorem tp_59_0 : placeOf TE.P 59 0 = some (0, 4) := by kernel_rfl
@[simp] theorem tp_59_1 : placeOf TE.P 59 1 = some (4, 1) := by kernel_rfl
@[simp] theorem tp_59_2 : placeOf TE.P 59 2 = some (5, 1) := by kernel_rfl
@[simp] theorem tp_59_3 : placeOf TE.P 59 3 = some (6, 2) := by kernel_rfl
@[simp] theorem tp_59_4 : placeOf TE.P 59 4 = some (8, 1) := by kernel_rfl
@[simp] theorem tp_59_5 : placeOf TE.P 59 5 = some (9, 1) := by kernel_rfl
@[simp] theorem tp_59_6 : placeOf TE.P 59 6 = some (10, 1) := by kernel_rfl
@[simp] theorem tp_59_7 : placeOf TE.P 59 7 = some (11, 1) := by kernel_rfl
@[simp] theorem tp_62_0 : placeOf TE.P 62 0 = some (0, 1) := by kernel_rfl
@[simp] theorem tp_82_0 : placeOf TE.P 82 0 = some (0, 1) := by kernel_rfl
@[simp] theorem tp_82_1 : placeOf TE.P 82 1 = some (1, 1) := by kernel_rfl
@[simp] theorem tp_82_2 : placeOf TE.P 82 2 = some (2, 1) := by kernel_rfl
@[simp] theorem tq_107 : TE.eqOk 107 = some [.int .i64, .int .i64] := by kernel_rfl
@[simp] theorem tq_55 : TE.eqOk 55 = some [.str, .str, .str, .str] := by kernel_rfl
@[simp] theorem tq_57 : TE.eqOk 57 = some [.int .i64, .int .i64] := by kernel_rfl
@[simp] theorem ts_100 : isStrT TE.P 100 = false := by kernel_rfl
@[simp] theorem ts_101 : isStrT TE.P 101 = false := by kernel_rfl
@[simp] theorem ts_126 : isStrT TE.P 126 = false := by kernel_rfl
@[simp] theorem ts_130 : isStrT TE.P 130 = false := by kernel_rfl
@[simp] theorem ts_22 : isStrT TE.P 22 = false := by kernel_rfl
@[simp] theorem ts_246 : isStrT TE.P 246 = false := by kernel_rfl
@[simp] theorem ts_265 : isStrT TE.P 265 = false := by kernel_rfl
@[simp] theorem ts_267 : isStrT TE.P 267 = false := by kernel_rfl
@[simp] theorem ts_3 : isStrT TE.P 3 = false := by kernel_rfl
@[simp] theorem ts_353 : isStrT TE.P 353 = false := by kernel_rfl
@[simp] theorem ts_356 : isStrT TE.P 356 = false := by kernel_rfl
@[simp] theorem ts_41 : isStrT TE.P 41 = false := by kernel_rfl
@[simp] theorem ts_47 : isStrT TE.P 47 = false := by kernel_rfl
@[simp] theorem ts_51 : isStrT TE.P 51 = false := by kernel_rfl
@[simp] theorem ts_60 : isStrT TE.P 60 = false := by kernel_rfl
@[simp] theorem ts_78 : isStrT TE.P 78 = false := by kernel_rfl
@[simp] theorem ts_82 : isStrT TE.P 82 = false := by kernel_rfl
@[simp] theorem ts_85 : isStrT TE.P 85 = false := by kernel_rfl
@[simp] theorem ts_86 : isStrT TE.P 86 = false := by kernel_rfl
@[simp] theorem ts_9 : isStrT TE.P 9 = true := by kernel_rfl
@[simp] theorem ts_99 : isStrT TE.P 99 = false := by kernel_rfl
@[simp] theorem tu_246 : TE.P.underlying 246 = some (.array 4 9) := by kernel_rfl
@[simp] theorem tu_353 : TE.P.underlying 353 = some (.array 256 5) := by kernel_rfl
@[simp] theorem tu_356 : TE.P.underlying 356 = some (.array 16 355) := by kernel_rfl
@[simp] theorem tu_82 : TE.P.underlying 82 = some (.array 3 3) := by kernel_rfl
@[simp] theorem tv_238_297 : ∀ k n, convV TE.P 238 297 (.int k n) = some (.int .u32 (IntKind.u32.wrap n)) := by intros; kernel_rfl
@[simp] theorem tv_238_3 : ∀ k n, convV TE.P 238 3 (.int k n) = some (.int .i64 (IntKind.i64.wrap n)) := by intros; kernel_rfl
@[simp] theorem tv_297_5 : ∀ k n, convV TE.P 297 5 (.int k n) = some (.int .u8 (IntKind.u8.wrap n)) := by intros; kernel_rfl
@[simp] theorem tv_299_5 : ∀ k n, convV TE.P 299 5 (.int k n) = some (.int .u8 (IntKind.u8.wrap n)) := by intros; kernel_rfl
@[simp] theorem tv_3_238 : ∀ k n, convV TE.P 3 238 (.int k n) = some (.int .u64 (IntKind.u64.wrap n)) := by intros; kernel_rfl
@[simp] theorem tv_3_319 : ∀ k n, convV TE.P 3 319 (.int k n) = some (.int .u64 (IntKind.u64.wrap n)) := by intros; kernel_rfl
@[simp] theorem tv_5_21 : ∀ k n, convV TE.P 5 21 (.int k n) = some (.int .i32 (IntKind.i32.wrap n)) := by intros; kernel_rfl
@[simp] theorem tv_5_297 : ∀ k n, convV TE.P 5 297 (.int k n) = some (.int .u32 (IntKind.u32.wrap n)) := by intros; kernel_rfl
@[simp] theorem tv_5_3 : ∀ k n, convV TE.P 5 3 (.int k n) = some (.int .i64 (IntKind.i64.wrap n)) := by intros; kernel_rfl
@[simp] theorem tz_103 : tZero TE.P 103 = some (.agg [.str [], .str [], .str [], .str [], .nils, .nils, .nils]) := by kernel_rfl
@[simp] theorem tz_105 : tZero TE.P 105 = some (.agg [.str [], .str [], .str [], .str [], .nils]) := by kernel_rfl
@[simp] theorem tz_107 : tZero TE.P 107 = some (.agg [.int .i64 0, .int .i64 0]) := by kernel_rfl
@[simp] theorem tz_119 : tZero TE.P 119 = some (.agg [.nils, .int .i64 0]) := by kernel_rfl
@[simp] theorem tz_125 : tZero TE.P 125 = some (.agg [.int .i64 0, .int .i64 0, .int .i64 0, .int .i64 0]) := by kernel_rfl
@[simp] theorem tz_128 : tZero TE.P 128 = some (.agg [.str [], .str [], .str [], .str [], .nils]) := by kernel_rfl
@[simp] theorem tz_132 : tZero TE.P 132 = some (.agg [.nils]) := by kernel_rfl
@[simp] theorem tz_134 : tZero TE.P 134 = some (.agg [.int .i64 0, .int .i64 0, .int .i64 0, .int .i64 0, .int .i64 0, .int .i64 0, .int .i64 0, .nils]) := by kernel_rfl
@[simp] theorem tz_174 : tZero TE.P 174 = some (.agg [.int .i64 0, .int .i64 0, .int .i64 0, .int .i64 0, .int .i64 0, .nils]) := by kernel_rfl
@[simp] theorem tz_176 : tZero TE.P 176 = some (.agg [.int .i64 0, .int .i64 0, .int .i64 0, .int .i64 0, .int .i64 0, .nils, .int .i64 0, .int .i64 0]) := by kernel_rfl
@[simp] theorem tz_216 : tZero TE.P 216 = some (.agg [.int .i64 0, .int .i64 0, .bool false]) := by kernel_rfl
@[simp] theorem tz_234 : tZero TE.P 234 = some (.agg [.int .i64 0, .int .i64 0, .int .i64 0, .int .i64 0, .int .i64 0, .int .i64 0, .int .i64 0, .nils, .int .i64 0, .int .i64 0]) := by kernel_rfl
@[simp] theorem tz_246 : tZero TE.P 246 = some (.agg [.str [], .str [], .str [], .str []]) := by kernel_rfl
@[simp] theorem tz_251 : tZero TE.P 251 = some (.agg [.int .i64 0, .bool false]) := by kernel_rfl
@[simp] theorem tz_26 : tZero TE.P 26 = some (.agg [.int .i64 0, .int .i64 0, .int .i64 0]) := by kernel_rfl
@[simp] theorem tz_28 : tZero TE.P 28 = some (.agg [.int .i64 0, .int .i64 0, .int .i64 0, .int .i64 0, .int .i64 0, .int .i64 0]) := by kernel_rfl
@[simp] theorem tz_3 : tZero TE.P 3 = some (.int .i64 0) := by kernel_rfl
@[simp] theorem tz_30 : tZero TE.P 30 = some (.agg [.int .i64 0, .nils, .nils]) := by kernel_rfl
@[simp] theorem tz_319 : tZero TE.P 319 = some (.int .u64 0) := by kernel_rfl
@[simp] theorem tz_32 : tZero TE.P 32 = some (.agg [.int .i64 0, .int .i64 0, .int .i64 0, .int .i64 0, .int .i64 0, .int .i64 0, .int .i64 0, .nils, .nils, .int .i64 0, .int .i64 0, .int .i64 0, .int .i64 0, .int .i64 0]) := by kernel_rfl
@[simp] theorem tz_34 : tZero TE.P 34 = some (.agg [.int .i64 0, .nils, .nils, .int .i64 0, .int .i64 0]) := by kernel_rfl
@[simp] theorem tz_355 : tZero TE.P 355 = some (.agg [.int .u8 0, .int .u8 0]) := by kernel_rfl
@[simp] theorem tz_36 : tZero TE.P 36 = some (.agg [.int .i64 0, .int .i64 0, .int .i64 0, .int .i64 0, .int .i64 0, .int .i64 0, .int .i64 0, .nils, .nils, .int .i64 0, .int .i64 0, .int .i64 0, .int .i64 0, .int .i64 0, .int .i64 0, .nils, .nils, .int .i64 0, .int .i64 0, .int .i64 0]) := by kernel_rfl
@[simp] theorem tz_38 : tZero TE.P 38 = some (.agg [.int .i64 0, .int .i64 0, .int .i64 0, .int .i64 0]) := by kernel_rfl
@[simp] theorem tz_40 : tZero TE.P 40 = some (.agg [.int .i64 0, .int .i64 0, .int .i64 0, .int .i64 0, .int .i64 0, .int .i64 0, .int .i64 0]) := by kernel_rfl
@[simp] theorem tz_43 : tZero TE.P 43 = some (.agg [.nils, .int .i64 0, .int .i64 0]) := by kernel_rfl
@[simp] theorem tz_45 : tZero TE.P 45 = some (.agg [.int .i64 0, .int .i64 0, .int .i64 0, .int .i64 0, .int .i64 0, .int .i64 0, .int .i64 0, .nils, .nils, .int .i64 0, .int .i64 0, .int .i64 0, .int .i64 0, .int .i64 0, .int .i64 0, .nils, .nils, .int .i64 0, .int .i64 0, .int .i64 0, .int .i64 0, .int .i64 0, .int .i64 0, .int .i64 0, .int .i64 0, .int .i64 0, .int .i64 0, .int .i64 0, .nils, .int .i64 0, .int .i64 0]) := by kernel_rfl
@[simp] theorem tz_49 : tZero TE.P 49 = some (.agg [.nils]) := by kernel_rfl
@[simp] theorem tz_51 : tZero TE.P 51 = some (.nils) := by kernel_rfl
@[simp] theorem tz_55 : tZero TE.P 55 = some (.agg [.str [], .str [], .str [], .str []]) := by kernel_rfl
@[simp] theorem tz_57 : tZero TE.P 57 = some (.agg [.int .i64 0, .int .i64 0]) := by kernel_rfl
@[simp] theorem tz_59 : tZero TE.P 59 = some (.agg [.str [], .str [], .str [], .str [], .int .i64 0, .int .i64 0, .int .i64 0, .int .i64 0, .int .i64 0, .int .i64 0, .int .i64 0, .nils]) := by kernel_rfl
@[simp] theorem tz_62 : tZero TE.P 62 = some (.agg [.nils]) := by kernel_rfl
@[simp] theorem tz_82 : tZero TE.P 82 = some (.agg [.int .i64 0, .int .i64 0, .int .i64 0]) := by kernel_rfl
@[simp] theorem tz_86 : tZero TE.P 86 = some (.nils) := by kernel_rfl
@[simp] theorem tz_9 : tZero TE.P 9 = some (.str []) := by kernel_rfl
@[simp] theorem an_3_10 : TE.ann 3 10 = [(7, 9999, false), (11, 9999, false), (13, 9999, false), (15, 9999, false)] := by kernel_rfl
@[simp] theorem an_3_16 : TE.ann 3 16 = [(0, 12, true), (4, 9999, false), (5, 9999, true), (11, 15, true)] := by kernel_rfl
@[simp] theorem an_3_24 : TE.ann 3 24 = [(0, 13, true), (4, 9999, false), (5, 9999, true), (11, 19, true)] := by kernel_rfl
@[simp] theorem an_3_25 : TE.ann 3 25 = [(0, 19, true), (7, 9999, false), (8, 9999, true), (14, 22, true)] := by kernel_rfl
@[simp] theorem an_10_3 : TE.ann 10 3 = [(6, 9999, false), (7, 9999, true), (12, 9999, false), (13, 9999, true), (17, 9999, false), (21, 9999, false)] := by kernel_rfl
@[simp] theorem an_10_4 : TE.ann 10 4 = [(7, 9999, false), (12, 9999, false), (17, 9999, false), (22, 9999, false), (26, 9999, false), (29, 9999, false), (32, 9999, false), (35, 9999, false)] := by kernel_rfl
@[simp] theorem an_10_7 : TE.ann 10 7 = [(1, 7, true), (7, 7, true), (10, 7, true), (12, 7, true)] := by kernel_rfl
@[simp] theorem an_10_11 : TE.ann 10 11 = [(1, 7, true), (4, 7, true), (7, 7, true), (11, 9999, false), (14, 7, true), (18, 9999, false), (22, 9999, false), (25, 9999, false)] := by kernel_rfl
@[simp] theorem an_10_13 : TE.ann 10 13 = [(0, 8003, false), (4, 8001, false), (8, 8001, false), (9, 7, true), (11, 4, true)] := by kernel_rfl
@[simp] theorem an_11_9 : TE.ann 11 9 = [(5, 9999, false), (10, 9999, false), (14, 9999, false), (17, 9999, false)] := by kernel_rfl
@[simp] theorem an_12_21 : TE.ann 12 21 = [(4, 17, true), (6, 7, true), (8, 9999, true), (10, 17, true), (12, 7, true), (14, 9999, true), (17, 17, true), (19, 7, true), (21, 9999, true)] := by kernel_rfl
@[simp] theorem an_12_23 : TE.ann 12 23 = [(2, 9, true), (5, 9, true), (8, 9, true), (13, 9999, false)] := by kernel_rfl
@[simp] theorem an_12_32 : TE.ann 12 32 = [(1, 12, true), (6, 8001, false), (15, 23, true)] := by kernel_rfl
@[simp] theorem an_14_8 : TE.ann 14 8 = [(1, 7, true), (4, 3, true), (5, 3, true), (7, 9999, true), (12, 7, true)] := by kernel_rfl
@[simp] theorem an_14_10 : TE.ann 14 10 = [(1, 7, true), (5, 9999, false), (6, 3, true), (7, 9999, true)] := by kernel_rfl
@[simp] theorem an_14_13 : TE.ann 14 13 = [(1, 7, true), (4, 9999, true), (7, 9999, false)] := by kernel_rfl
@[simp] theorem an_16_7 : TE.ann 16 7 = [(10, 4, true), (11, 9999, true), (18, 9999, false), (20, 4, true), (28, 1, true), (33, 9999, false), (35, 4, true), (36, 9999, true)] := by kernel_rfl
@[simp] theorem an_17_6 : TE.ann 17 6 = [(1, 2, true), (5, 9999, false), (7, 3, true), (11, 9999, false), (15, 2, true), (19, 9999, false), (21, 3, true), (25, 9999, false), (26, 9999, true)] := by kernel_rfl
@[simp] theorem an_19_2 : TE.ann 19 2 = [(0, 1, true), (1, 9999, true), (2, 9999, true), (8, 4, true)] := by kernel_rfl
@[simp] theorem an_26_6 : TE.ann 26 6 = [(3, 9999, false), (7, 9999, false), (8, 9999, true)] := by kernel_rfl
@[simp] theorem an_43_15 : TE.ann 43 15 = [(1, 11, true), (3, 11, true), (5, 11, true), (7, 11, true), (9, 11, true), (10, 9999, true), (13, 11, true), (15, 9, true)] := by kernel_rfl
@[simp] theorem an_44_11 : TE.ann 44 11 = [(1, 11, true), (3, 11, true), (5, 10, true), (7, 10, true)] := by kernel_rfl
@[simp] theorem an_50_5 : TE.ann 50 5 = [(1, 3, true), (18, 3, true)] := by kernel_rfl
@[simp] theorem an_51_6 : TE.ann 51 6 = [(2, 7, true), (6, 8, true)] := by kernel_rfl
@[simp] theorem an_51_14 : TE.ann 51 14 = [(1, 8, true), (6, 9999, false)] := by kernel_rfl
@[simp] theorem an_52_1 : TE.ann 52 1 = [(3, 3, true), (6, 3, true), (11, 3, true), (14, 3, true), (19, 3, true), (22, 3, true), (25, 4, true)] := by kernel_rfl
@[simp] theorem an_56_5 : TE.ann 56 5 = [(1, 3, true), (4, 5, true), (5, 9999, true), (8, 9999, false)] := by kernel_rfl
@[simp] theorem an_58_11 : TE.ann 58 11 = [] := by kernel_rfl
@[simp] theorem an_58_15 : TE.ann 58 15 = [] := by kernel_rfl
@[simp] theorem an_61_1 : TE.ann 61 1 = [(3, 9999, false), (7, 9999, false)] := by kernel_rfl
@[simp] theorem an_61_4 : TE.ann 61 4 = [(3, 9999, false), (7, 9999, false), (10, 9999, false)] := by kernel_rfl
@[simp] theorem an_64_1 : TE.ann 64 1 = [(1, 2, true), (3, 3, true), (4, 9999, true), (6, 2, true), (8, 3, true), (9, 9999, true), (11, 2, true), (13, 3, true), (14, 9999, true), (16, 2, true), (18, 3, true), (19, 9999, true), (21, 9999, true)] := by kernel_rfl
@[simp] theorem an_93_8 : TE.ann 93 8 = [(1, 3, true), (3, 3, true), (8, 3, true), (10, 4, true), (12, 9999, true), (15, 3, true), (18, 3, true)] := by kernel_rfl
@[simp] theorem an_93_9 : TE.ann 93 9 = [(0, 3, true), (2, 3, true), (3, 9999, true), (4, 6, true)] := by kernel_rfl
@[simp] theorem an_99_4 : TE.ann 99 4 = [(0, 9999, false), (1, 9999, false), (3, 9999, true), (5, 9999, true), (9, 6, true)] := by kernel_rfl
@[simp] theorem an_103_6 : TE.ann 103 6 = [(3, 9999, false), (7, 9999, false)] := by kernel_rfl
@[simp] theorem an_106_5 : TE.ann 106 5 = [(2, 3, true), (6, 3, true), (10, 3, true), (13, 9999, false), (17, 3, true), (20, 9999, false), (23, 9999, false), (25, 9999, false)] := by kernel_rfl
@[simp] theorem an_116_5 : TE.ann 116 5 = [(4, 9999, false), (5, 4, true), (6, 9999, true)] := by kernel_rfl
@[simp] theorem an_116_8 : TE.ann 116 8 = [(9, 9999, false), (10, 4, true), (11, 9999, true)] := by kernel_rfl
@[simp] theorem an_138_13 : TE.ann 138 13 = [(8, 9999, false), (12, 9999, false), (21, 9999, false), (23, 14, true)] := by kernel_rfl
@[simp] theorem an_138_15 : TE.ann 138 15 = [(4, 9999, false), (9, 9999, false), (11, 14, true)] := by kernel_rfl
@[simp] theorem an_159_13 : TE.ann 159 13 = [(1, 6, true), (2, 6, true), (4, 9999, true), (5, 9999, true), (6, 9999, true)] := by kernel_rfl
@[simp] theorem an_165_1 : TE.ann 165 1 = [(0, 9999, false), (3, 9999, true), (4, 9999, false)] := by kernel_rfl
@[simp] theorem an_172_2 : TE.ann 172 2 = [(0, 7, true), (2, 7, true), (9, 7, true), (16, 7, true), (24, 6, true)] := by kernel_rfl
@[simp] theorem an_173_4 : TE.ann 173 4 = [(2, 3, true)] := by kernel_rfl
@[simp] theorem an_173_6 : TE.ann 173 6 = [(1, 3, true), (6, 3, true), (11, 3, true), (13, 3, true)] := by kernel_rfl
@[simp] theorem an_173_7 : TE.ann 173 7 = [(5, 3, true)] := by kernel_rfl
@[simp] theorem an_177_1 : TE.ann 177 1 = [(1, 2, true), (2, 9999, true), (5, 2, true)] := by kernel_rfl
@[simp] theorem an_181_1 : TE.ann 181 1 = [(0, 2, true), (1, 9999, true), (5, 2, true), (6, 9999, false), (9, 9999, false)] := by kernel_rfl
@[simp] theorem an_183_1 : TE.ann 183 1 = [(1, 2, true), (3, 3, true), (4, 9999, true), (5, 2, true), (6, 9999, true), (7, 3, true), (8, 9999, true), (9, 9999, true), (11, 2, true), (13, 3, true), (14, 9999, true), (16, 2, true), (18, 3, true), (19, 9999, true), (22, 2, true), (25, 3, true), (26, 9999, true), (29, 2, true), (32, 3, true), (33, 9999, true), (35, 2, true), (37, 3, true), (38, 9999, true), (40, 2, true), (42, 3, true), (43, 9999, true), (45, 2, true), (47, 3, true), (48, 9999, true), (50, 2, true), (53, 3, true), (55, 9999, true), (57, 2, true), (59, 3, true), (60, 9999, true), (62, 9999, true)] := by kernel_rfl
@[simp] theorem an_184_6 : TE.ann 184 6 = [(4, 9999, false), (9, 9999, false), (10, 9999, true)] := by kernel_rfl
@[simp] theorem an_184_11 : TE.ann 184 11 = [(4, 9999, false), (9, 9999, false), (10, 9999, true)] := by kernel_rfl
@[simp] theorem an_185_6 : TE.ann 185 6 = [(3, 9999, false), (7, 9999, false)] := by kernel_rfl
@[simp] theorem an_194_5 : TE.ann 194 5 = [(19, 9999, true)] := by kernel_rfl
@[simp] theorem an_215_1 : TE.ann 215 1 = [(1, 2, true), (3, 3, true), (4, 9999, true), (6, 3, true), (8, 2, true), (9, 9999, true), (11, 3, true), (13, 2, true), (14, 9999, true), (15, 2, true), (16, 3, true), (17, 9999, true), (19, 9999, true)] := by kernel_rfl
@[simp] theorem an_216_1 : TE.ann 216 1 = [(0, 1, true), (1, 9999, true), (2, 1, true), (4, 1, true), (6, 9999, true), (8, 2, true)] := by kernel_rfl
@[simp] theorem an_218_7 : TE.ann 218 7 = [(9, 9999, false), (13, 9999, false)] := by kernel_rfl
@[simp] theorem an_218_9 : TE.ann 218 9 = [(11, 9999, false), (16, 9999, false), (20, 9999, false)] := by kernel_rfl
@[simp] theorem an_219_8 : TE.ann 219 8 = [(4, 6, true), (10, 9999, false)] := by kernel_rfl
@[simp] theorem an_219_9 : TE.ann 219 9 = [(8, 9999, false), (10, 6, true), (14, 9999, false)] := by kernel_rfl
@[simp] theorem an_222_1 : TE.ann 222 1 = [(0, 9999, false), (2, 9999, false), (4, 9999, true), (5, 9999, false)] := by kernel_rfl
@[simp] theorem an_229_2 : TE.ann 229 2 = [] := by kernel_rfl
@[simp] theorem an_231_3 : TE.ann 231 3 = [(7, 9999, false), (11, 9999, false), (13, 9999, false), (15, 9999, false)] := by kernel_rfl
@[simp] theorem an_233_17 : TE.ann 233 17 = [(8, 9999, false), (12, 9999, false), (13, 9999, true)] := by kernel_rfl
@[simp] theorem an_239_6 : TE.ann 239 6 = [(3, 9999, false), (8, 9999, false)] := by kernel_rfl
@[simp] theorem an_239_11 : TE.ann 239 11 = [(3, 9999, false), (8, 9999, false)] := by kernel_rfl
@[simp] theorem an_240_5 : TE.ann 240 5 = [(2, 2, true), (5, 2, true), (8, 9999, false)] := by kernel_rfl
@[simp] theorem an_273_4 : TE.ann 273 4 = [(8, 9999, false), (13, 9999, false), (14, 9999, true)] := by kernel_rfl
@[simp] theorem an_273_6 : TE.ann 273 6 = [(9, 9999, false), (13, 9999, false), (15, 9999, false), (17, 9999, false)] := by kernel_rfl
@[simp] theorem an_274_10 : TE.ann 274 10 = [(11, 9999, false), (15, 9999, false), (17, 9999, false), (19, 9999, false)] := by kernel_rfl
@[simp] theorem an_275_10 : TE.ann 275 10 = [(11, 9999, false), (15, 9999, false), (17, 9999, false), (19, 9999, false)] := by kernel_rfl
@[simp] theorem an_277_3 : TE.ann 277 3 = [(7, 9999, false), (11, 9999, false), (13, 9999, false), (15, 9999, false)] := by kernel_rfl
@[simp] theorem an_278_5 : TE.ann 278 5 = [(8, 9999, false), (13, 9999, false), (14, 9999, true)] := by kernel_rfl
@[simp] theorem an_278_11 : TE.ann 278 11 = [(9, 9999, false), (13, 9999, false), (15, 9999, false), (17, 9999, false)] := by kernel_rfl
@[simp] theorem an_278_16 : TE.ann 278 16 = [(4, 9999, false), (9, 9999, false), (10, 9999, true)] := by kernel_rfl
@[simp] theorem an_278_17 : TE.ann 278 17 = [(9, 9999, false), (13, 9999, false), (15, 9999, false), (17, 9999, false)] := by kernel_rfl
@[simp] theorem an_278_22 : TE.ann 278 22 = [(4, 9999, false), (9, 9999, false), (10, 9999, true)] := by kernel_rfl
@[simp] theorem an_278_23 : TE.ann 278 23 = [(9, 9999, false), (13, 9999, false), (15, 9999, false), (17, 9999, false)] := by kernel_rfl
@[simp] theorem an_279_1 : TE.ann 279 1 = [(7, 9999, false), (11, 9999, false), (13, 9999, false), (15, 9999, false)] := by kernel_rfl
@[simp] theorem an_279_3 : TE.ann 279 3 = [(8, 9999, false), (12, 9999, false), (13, 9999, true)] := by kernel_rfl
@[simp] theorem an_279_5 : TE.ann 279 5 = [(8, 9999, false), (12, 9999, false), (13, 9999, true)] := by kernel_rfl
@[simp] theorem an_279_8 : TE.ann 279 8 = [(7, 9999, false), (11, 9999, false), (13, 9999, false), (15, 9999, false)] := by kernel_rfl
@[simp] theorem an_280_1 : TE.ann 280 1 = [(7, 9999, false), (11, 9999, false), (13, 9999, false), (15, 9999, false)] := by kernel_rfl
@[simp] theorem an_280_3 : TE.ann 280 3 = [(8, 9999, false), (12, 9999, false), (13, 9999, true)] := by kernel_rfl
@[simp] theorem an_280_5 : TE.ann 280 5 = [(8, 9999, false), (12, 9999, false), (13, 9999, true)] := by kernel_rfl
@[simp] theorem an_280_8 : TE.ann 280 8 = [(7, 9999, false), (11, 9999, false), (13, 9999, false), (15, 9999, false)] := by kernel_rfl
@[simp] theorem an_280_10 : TE.ann 280 10 = [(7, 9999, false), (11, 9999, false), (13, 9999, false), (15, 9999, false)] := by kernel_rfl
@[simp] theorem an_280_13 : TE.ann 280 13 = [(8, 9999, false), (12, 9999, false), (13, 9999, true)] := by kernel_rfl
@[simp] theorem an_280_15 : TE.ann 280 15 = [(8, 9999, false), (12, 9999, false), (13, 9999, true)] := by kernel_rfl
@[simp] theorem an_280_18 : TE.ann 280 18 = [(7, 9999, false), (11, 9999, false), (13, 9999, false), (15, 9999, false)] := by kernel_rfl
@[simp] theorem an_280_21 : TE.ann 280 21 = [(7, 9999, false), (11, 9999, false), (13, 9999, false), (15, 9999, false)] := by kernel_rfl
@[simp] theorem an_284_17 : TE.ann 284 17 = [(7, 9999, false), (11, 9999, false), (12, 9999, true)] := by kernel_rfl
@[simp] theorem an_288_1 : TE.ann 288 1 = [(2, 9999, false), (5, 9999, false), (9, 9999, false)] := by kernel_rfl
@[simp] theorem an_288_2 : TE.ann 288 2 = [(2, 9999, false), (5, 9999, false), (9, 9999, false)] := by kernel_rfl
@[simp] theorem an_288_3 : TE.ann 288 3 = [(2, 9999, false), (5, 9999, false), (9, 9999, false)] := by kernel_rfl
@[simp] theorem an_294_17 : TE.ann 294 17 = [(8, 9999, false), (12, 9999, false), (13, 9999, true)] := by kernel_rfl
@[simp] theorem an_295_3 : TE.ann 295 3 = [(11, 9999, false), (18, 9999, false), (19, 9999, true)] := by kernel_rfl
@[simp] theorem an_295_5 : TE.ann 295 5 = [(6, 9999, false), (12, 9999, false), (13, 9999, true)] := by kernel_rfl
@[simp] theorem an_295_6 : TE.ann 295 6 = [(13, 9999, false), (19, 9999, false), (21, 9999, false), (23, 9999, false)] := by kernel_rfl
@[simp] theorem an_302_4 : TE.ann 302 4 = [(7, 9999, false), (12, 9999, false), (13, 9999, true)] := by kernel_rfl
@[simp] theorem an_302_6 : TE.ann 302 6 = [(9, 9999, false), (13, 9999, false), (15, 9999, false), (17, 9999, false)] := by kernel_rfl
@[simp] theorem an_303_10 : TE.ann 303 10 = [(11, 9999, false), (15, 9999, false), (17, 9999, false), (19, 9999, false)] := by kernel_rfl
@[simp] theorem an_304_10 : TE.ann 304 10 = [(11, 9999, false), (15, 9999, false), (17, 9999, false), (19, 9999, false)] := by kernel_rfl
@[simp] theorem an_306_3 : TE.ann 306 3 = [(7, 9999, false), (11, 9999, false), (13, 9999, false), (15, 9999, false)] := by kernel_rfl
@[simp] theorem an_307_5 : TE.ann 307 5 = [(7, 9999, false), (12, 9999, false), (13, 9999, true)] := by kernel_rfl
@[simp] theorem an_307_11 : TE.ann 307 11 = [(9, 9999, false), (13, 9999, false), (15, 9999, false), (17, 9999, false)] := by kernel_rfl
@[simp] theorem an_307_16 : TE.ann 307 16 = [(3, 9999, false), (8, 9999, false), (9, 9999, true)] := by kernel_rfl
@[simp] theorem an_307_17 : TE.ann 307 17 = [(9, 9999, false), (13, 9999, false), (15, 9999, false), (17, 9999, false)] := by kernel_rfl
@[simp] theorem an_307_22 : TE.ann 307 22 = [(3, 9999, false), (8, 9999, false), (9, 9999, true)] := by kernel_rfl
@[simp] theorem an_307_23 : TE.ann 307 23 = [(9, 9999, false), (13, 9999, false), (15, 9999, false), (17, 9999, false)] := by kernel_rfl
@[simp] theorem an_309_1 : TE.ann 309 1 = [(7, 9999, false), (11, 9999, false), (13, 9999, false), (15, 9999, false)] := by kernel_rfl
@[simp] theorem an_309_3 : TE.ann 309 3 = [(7, 9999, false), (11, 9999, false), (12, 9999, true)] := by kernel_rfl
@[simp] theorem an_309_5 : TE.ann 309 5 = [(7, 9999, false), (11, 9999, false), (12, 9999, true)] := by kernel_rfl
@[simp] theorem an_309_8 : TE.ann 309 8 = [(7, 9999, false), (11, 9999, false), (13, 9999, false), (15, 9999, false)] := by kernel_rfl
@[simp] theorem an_310_1 : TE.ann 310 1 = [(7, 9999, false), (11, 9999, false), (13, 9999, false), (15, 9999, false)] := by kernel_rfl
@[simp] theorem an_310_3 : TE.ann 310 3 = [(7, 9999, false), (11, 9999, false), (12, 9999, true)] := by kernel_rfl
@[simp] theorem an_310_5 : TE.ann 310 5 = [(7, 9999, false), (11, 9999, false), (12, 9999, true)] := by kernel_rfl
@[simp] theorem an_310_8 : TE.ann 310 8 = [(7, 9999, false), (11, 9999, false), (13, 9999, false), (15, 9999, false)] := by kernel_rfl
@[simp] theorem an_310_10 : TE.ann 310 10 = [(7, 9999, false), (11, 9999, false), (13, 9999, false), (15, 9999, false)] := by kernel_rfl
@[simp] theorem an_310_13 : TE.ann 310 13 = [(7, 9999, false), (11, 9999, false), (12, 9999, true)] := by kernel_rfl
@[simp] theorem an_310_15 : TE.ann 310 15 = [(7, 9999, false), (11, 9999, false), (12, 9999, true)] := by kernel_rfl
@[simp] theorem an_310_18 : TE.ann 310 18 = [(7, 9999, false), (11, 9999, false), (13, 9999, false), (15, 9999, false)] := by kernel_rfl
@[simp] theorem an_310_21 : TE.ann 310 21 = [(7, 9999, false), (11, 9999, false), (13, 9999, false), (15, 9999, false)] := by kernel_rfl
@[simp] theorem an_314_4 : TE.ann 314 4 = [(8, 9999, false), (13, 9999, false), (14, 9999, true)] := by kernel_rfl
@[simp] theorem an_314_6 : TE.ann 314 6 = [(9, 9999, false), (13, 9999, false), (15, 9999, false), (17, 9999, false)] := by kernel_rfl
@[simp] theorem an_315_10 : TE.ann 315 10 = [(11, 9999, false), (15, 9999, false), (17, 9999, false), (19, 9999, false)] := by kernel_rfl
@[simp] theorem an_316_10 : TE.ann 316 10 = [(11, 9999, false), (15, 9999, false), (17, 9999, false), (19, 9999, false)] := by kernel_rfl
@[simp] theorem an_318_3 : TE.ann 318 3 = [(7, 9999, false), (11, 9999, false), (13, 9999, false), (15, 9999, false)] := by kernel_rfl
@[simp] theorem an_319_5 : TE.ann 319 5 = [(8, 9999, false), (13, 9999, false), (14, 9999, true)] := by kernel_rfl
@[simp] theorem an_319_11 : TE.ann 319 11 = [(9, 9999, false), (13, 9999, false), (15, 9999, false), (17, 9999, false)] := by kernel_rfl
@[simp] theorem an_319_16 : TE.ann 319 16 = [(4, 9999, false), (9, 9999, false), (10, 9999, true)] := by kernel_rfl
@[simp] theorem an_319_17 : TE.ann 319 17 = [(9, 9999, false), (13, 9999, false), (15, 9999, false), (17, 9999, false)] := by kernel_rfl
@[simp] theorem an_319_22 : TE.ann 319 22 = [(4, 9999, false), (9, 9999, false), (10, 9999, true)] := by kernel_rfl
@[simp] theorem an_319_23 : TE.ann 319 23 = [(9, 9999, false), (13, 9999, false), (15, 9999, false), (17, 9999, false)] := by kernel_rfl
@[simp] theorem an_320_1 : TE.ann 320 1 = [(7, 9999, false), (11, 9999, false), (13, 9999, false), (15, 9999, false)] := by kernel_rfl
@[simp] theorem an_320_3 : TE.ann 320 3 = [(8, 9999, false), (12, 9999, false), (13, 9999, true)] := by kernel_rfl
@[simp] theorem an_320_5 : TE.ann 320 5 = [(8, 9999, false), (12, 9999, false), (13, 9999, true)] := by kernel_rfl
@[simp] theorem an_320_8 : TE.ann 320 8 = [(7, 9999, false), (11, 9999, false), (13, 9999, false), (15, 9999, false)] := by kernel_rfl
@[simp] theorem an_321_1 : TE.ann 321 1 = [(7, 9999, false), (11, 9999, false), (13, 9999, false), (15, 9999, false)] := by kernel_rfl
@[simp] theorem an_321_3 : TE.ann 321 3 = [(8, 9999, false), (12, 9999, false), (13, 9999, true)] := by kernel_rfl
@[simp] theorem an_321_5 : TE.ann 321 5 = [(8, 9999, false), (12, 9999, false), (13, 9999, true)] := by kernel_rfl
@[simp] theorem an_321_8 : TE.ann 321 8 = [(7, 9999, false), (11, 9999, false), (13, 9999, false), (15, 9999, false)] := by kernel_rfl
@[simp] theorem an_321_10 : TE.ann 321 10 = [(7, 9999, false), (11, 9999, false), (13, 9999, false), (15, 9999, false)] := by kernel_rfl
@[simp] theorem an_321_13 : TE.ann 321 13 = [(8, 9999, false), (12, 9999, false), (13, 9999, true)] := by kernel_rfl
@[simp] theorem an_321_15 : TE.ann 321 15 = [(8, 9999, false), (12, 9999, false), (13, 9999, true)] := by kernel_rfl
@[simp] theorem an_321_18 : TE.ann 321 18 = [(7, 9999, false), (11, 9999, false), (13, 9999, false), (15, 9999, false)] := by kernel_rfl
@[simp] theorem an_321_21 : TE.ann 321 21 = [(7, 9999, false), (11, 9999, false), (13, 9999, false), (15, 9999, false)] := by kernel_rfl
@[simp] theorem an_322_1 : TE.ann 322 1 = [(4, 9999, false), (8, 9999, false), (9, 9999, true)] := by kernel_rfl
@[simp] theorem an_328_3 : TE.ann 328 3 = [(10, 9999, false), (17, 9999, false), (18, 9999, true)] := by kernel_rfl
@[simp] theorem an_328_5 : TE.ann 328 5 = [(5, 9999, false), (11, 9999, false), (12, 9999, true)] := by kernel_rfl
@[simp] theorem an_328_6 : TE.ann 328 6 = [(13, 9999, false), (19, 9999, false), (21, 9999, false), (23, 9999, false)] := by kernel_rfl
@[simp] theorem an_331_2 : TE.ann 331 2 = [(4, 2, true), (10, 2, true)] := by kernel_rfl
@[simp] theorem an_332_3 : TE.ann 332 3 = [(11, 9999, false), (18, 9999, false), (19, 9999, true)] := by kernel_rfl
@[simp] theorem an_332_5 : TE.ann 332 5 = [(6, 9999, false), (12, 9999, false), (13, 9999, true)] := by kernel_rfl
@[simp] theorem an_332_6 : TE.ann 332 6 = [(13, 9999, false), (19, 9999, false), (21, 9999, false), (23, 9999, false)] := by kernel_rfl
@[simp] theorem an_337_1 : TE.ann 337 1 = [(3, 9999, false), (7, 9999, false), (8, 9999, true)] := by kernel_rfl
@[simp] theorem an_338_1 : TE.ann 338 1 = [(4, 9999, false), (8, 9999, false), (9, 9999, true)] := by kernel_rfl
end Go.DM
