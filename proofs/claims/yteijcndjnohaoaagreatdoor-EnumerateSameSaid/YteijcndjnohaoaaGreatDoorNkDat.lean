/- Tables: how calls are carried out; calls of constants and what they come to. -/
import Derived.Test.YteijcndjnohaoaaGreatDoorProg
import Derived.KernelRfl
import Derived.Test.YteijcndjnohaoaaGreatDoorNvMemo
set_option linter.all false
set_option linter.unusedVariables false
set_option linter.unusedSimpArgs false
namespace Go.Nv
open Go Go.Proofs
def l_heap : List Nat := [18, 20, 21, 24, 26, 27, 32, 34, 51, 60, 61, 63, 65, 72, 75, 76, 77, 81, 82, 83, 84, 85, 86, 87, 88, 89, 90, 91, 142, 145, 146, 147, 148, 150, 151, 152, 153, 154, 165, 167, 168, 169, 170, 171, 172, 173, 174, 175, 182, 195, 196, 197, 198, 199, 200, 201, 207, 208, 210, 211, 212, 228, 229, 230, 232, 233, 234, 236, 238, 239, 240, 241, 253, 261, 262, 263, 266, 267, 268, 269, 270, 272, 273, 274, 278, 279, 284, 288, 291, 292, 294, 295, 297, 299, 301, 306, 313, 314, 317, 318, 319, 323, 325, 327, 329, 331, 337, 338, 339, 340, 341, 342, 345, 346, 347, 348, 349, 350, 353, 355, 356, 357, 360, 363, 364, 365, 371, 372, 373, 374, 377, 378, 379, 386, 387, 389, 395, 396, 397, 398, 399, 400, 401, 402, 403, 404, 405, 406, 407, 408, 409, 411, 417, 418, 423, 426, 428, 429, 432, 434, 436, 438, 439, 440, 442, 443, 444, 445, 446, 449, 450, 451, 452, 454, 456, 458, 463, 464, 465, 466, 467, 468, 469, 471, 472, 473, 474, 476, 477, 478, 479, 480, 481, 483, 485, 486, 487, 488, 490, 491, 492, 493, 495, 499, 500, 501, 502, 504, 505, 509, 511, 519, 521, 525, 527, 528, 529, 535, 558, 570, 571, 572, 573, 574, 577, 579, 581, 582]
def l_fresh : List Nat := [38, 49, 101, 139, 140, 215, 255, 282, 352, 383, 384, 385, 455]
def l_eat : List Nat := [256, 283]
def l_same : List Nat := [510]

def putAll (m : Nv.Mode) : List Nat → PT Nv.Mode → PT Nv.Mode
  | [], t => t
  | n :: r, t => putAll m r (t.set n (some m))
def tab : PT Nv.Mode := putAll .heap l_heap (putAll .fresh l_fresh (putAll .eat l_eat (putAll .same l_same .leaf)))
def exV : AV := (.agg [(.psl 2 6 [(.str [109, 97, 105, 110]), (.int .i64 (0)), (.int .i64 (2)), (.int .i64 (0)), (.bool false), (.psl 5 5 [(.int .i64 (35)), (.int .i64 (-1)), (.int .i64 (-1)), (.int .i64 (4)), .snil, (.int .i64 (34)), (.int .i64 (0)), (.int .i64 (1)), (.int .i64 (0)), .snil, (.int .i64 (1)), (.int .i64 (1)), (.int .i64 (2)), (.int .i64 (0)), .snil, (.int .i64 (31)), (.int .i64 (0)), (.int .i64 (1)), (.int .i64 (0)), .snil, (.int .i64 (36)), (.int .i64 (0)), (.int .i64 (0)), (.int .i64 (0)), .snil]), (.str [119, 111, 114, 107]), (.int .i64 (0)), (.int .i64 (2)), (.int .i64 (0)), (.bool false), (.psl 2 5 [(.int .i64 (1)), (.int .i64 (1)), (.int .i64 (1)), (.int .i64 (0)), .snil, (.int .i64 (31)), (.int .i64 (0)), (.int .i64 (1)), (.int .i64 (0)), .snil])]), .snil, (.psl 1 3 [(.str [120]), (.int .i64 (0)), (.bool false)])])
def fuel : Nat := 100000
set_option maxRecDepth 1000000

def c0 : AV := (.psl 3 2 [(.int .i64 (0)), (.int .i64 (0)), (.int .i64 (0)), (.int .i64 (0)), (.int .i64 (1)), (.int .i64 (0))])
def c1 : AV := (.psl 3 2 [(.int .i64 (0)), (.int .i64 (0)), (.int .i64 (0)), (.int .i64 (0)), (.int .i64 (0)), (.int .i64 (0))])
def c2 : AV := (.psl 1 7 [(.int .i64 (-1)), (.int .i64 (-1)), (.int .i64 (0)), (.int .i64 (0)), (.int .i64 (0)), (.int .i64 (-1)), (.bool false)])
def c3 : AV := (.psl 1 7 [(.int .i64 (-1)), (.int .i64 (-1)), (.int .i64 (1)), (.int .i64 (0)), (.int .i64 (0)), (.int .i64 (-1)), (.bool false)])
def c4 : AV := (.psl 4 2 [(.int .i64 (0)), (.int .i64 (0)), (.int .i64 (0)), (.int .i64 (0)), (.int .i64 (1)), (.int .i64 (0)), (.int .i64 (1)), (.int .i64 (0))])
def c5 : AV := (.psl 4 2 [(.int .i64 (0)), (.int .i64 (0)), (.int .i64 (0)), (.int .i64 (0)), (.int .i64 (0)), (.int .i64 (0)), (.int .i64 (1)), (.int .i64 (0))])
def c6 : AV := (.psl 4 2 [(.int .i64 (0)), (.int .i64 (0)), (.int .i64 (0)), (.int .i64 (0)), (.int .i64 (1)), (.int .i64 (0)), (.int .i64 (0)), (.int .i64 (0))])
def c7 : AV := (.psl 4 2 [(.int .i64 (0)), (.int .i64 (0)), (.int .i64 (0)), (.int .i64 (0)), (.int .i64 (0)), (.int .i64 (0)), (.int .i64 (0)), (.int .i64 (0))])
def c8 : AV := (.psl 1 8 [(.int .i64 (1)), (.int .i64 (0)), (.int .i64 (0)), (.int .i64 (35)), (.int .i64 (-1)), (.int .i64 (1)), (.int .i64 (0)), (.int .i64 (-1))])
def c9 : AV := (.psl 1 8 [(.int .i64 (3)), (.int .i64 (0)), (.int .i64 (0)), (.int .i64 (31)), (.int .i64 (0)), (.int .i64 (-1)), (.int .i64 (2)), (.int .i64 (-1))])
def c10 : AV := (.psl 1 8 [(.int .i64 (3)), (.int .i64 (0)), (.int .i64 (1)), (.int .i64 (31)), (.int .i64 (0)), (.int .i64 (-1)), (.int .i64 (1)), (.int .i64 (-1))])
def c11 : AV := (.psl 1 8 [(.int .i64 (4)), (.int .i64 (0)), (.int .i64 (0)), (.int .i64 (31)), (.int .i64 (0)), (.int .i64 (-1)), (.int .i64 (2)), (.int .i64 (-1))])
def c12 : AV := (.psl 1 8 [(.int .i64 (4)), (.int .i64 (0)), (.int .i64 (1)), (.int .i64 (31)), (.int .i64 (0)), (.int .i64 (-1)), (.int .i64 (1)), (.int .i64 (-1))])
def c13 : AV := (.psl 1 8 [(.int .i64 (5)), (.int .i64 (0)), (.int .i64 (0)), (.int .i64 (31)), (.int .i64 (0)), (.int .i64 (-1)), (.int .i64 (2)), (.int .i64 (-1))])
def c14 : AV := (.psl 1 8 [(.int .i64 (5)), (.int .i64 (0)), (.int .i64 (1)), (.int .i64 (31)), (.int .i64 (0)), (.int .i64 (-1)), (.int .i64 (1)), (.int .i64 (-1))])
def c15 : AV := (.psl 1 8 [(.int .i64 (4)), (.int .i64 (0)), (.int .i64 (1)), (.int .i64 (205)), (.int .i64 (-1)), (.int .i64 (1)), (.int .i64 (0)), (.int .i64 (-1))])
def c16 : AV := (.psl 1 8 [(.int .i64 (4)), (.int .i64 (0)), (.int .i64 (0)), (.int .i64 (202)), (.int .i64 (-1)), (.int .i64 (1)), (.int .i64 (0)), (.int .i64 (-1))])
def c17 : AV := (.psl 1 8 [(.int .i64 (5)), (.int .i64 (0)), (.int .i64 (0)), (.int .i64 (202)), (.int .i64 (-1)), (.int .i64 (1)), (.int .i64 (0)), (.int .i64 (-1))])
def c18 : AV := (.psl 1 8 [(.int .i64 (5)), (.int .i64 (0)), (.int .i64 (1)), (.int .i64 (205)), (.int .i64 (-1)), (.int .i64 (1)), (.int .i64 (0)), (.int .i64 (-1))])
def c19 : AV := (.psl 5 2 [(.int .i64 (0)), (.int .i64 (0)), (.int .i64 (0)), (.int .i64 (0)), (.int .i64 (0)), (.int .i64 (0)), (.int .i64 (1)), (.int .i64 (0)), (.int .i64 (1)), (.int .i64 (0))])
def c20 : AV := (.psl 5 2 [(.int .i64 (0)), (.int .i64 (0)), (.int .i64 (0)), (.int .i64 (0)), (.int .i64 (1)), (.int .i64 (0)), (.int .i64 (0)), (.int .i64 (0)), (.int .i64 (1)), (.int .i64 (0))])
def c21 : AV := (.psl 5 2 [(.int .i64 (0)), (.int .i64 (0)), (.int .i64 (0)), (.int .i64 (0)), (.int .i64 (1)), (.int .i64 (0)), (.int .i64 (1)), (.int .i64 (0)), (.int .i64 (0)), (.int .i64 (0))])
def c22 : AV := (.psl 5 2 [(.int .i64 (0)), (.int .i64 (0)), (.int .i64 (0)), (.int .i64 (0)), (.int .i64 (0)), (.int .i64 (0)), (.int .i64 (0)), (.int .i64 (0)), (.int .i64 (1)), (.int .i64 (0))])
def c23 : AV := (.psl 5 2 [(.int .i64 (0)), (.int .i64 (0)), (.int .i64 (0)), (.int .i64 (0)), (.int .i64 (0)), (.int .i64 (0)), (.int .i64 (1)), (.int .i64 (0)), (.int .i64 (0)), (.int .i64 (0))])
def c24 : AV := (.psl 5 2 [(.int .i64 (0)), (.int .i64 (0)), (.int .i64 (0)), (.int .i64 (0)), (.int .i64 (1)), (.int .i64 (0)), (.int .i64 (0)), (.int .i64 (0)), (.int .i64 (0)), (.int .i64 (0))])
def c25 : AV := (.psl 6 2 [(.int .i64 (0)), (.int .i64 (0)), (.int .i64 (0)), (.int .i64 (0)), (.int .i64 (0)), (.int .i64 (0)), (.int .i64 (0)), (.int .i64 (0)), (.int .i64 (1)), (.int .i64 (0)), (.int .i64 (1)), (.int .i64 (0))])
def c26 : AV := (.psl 6 2 [(.int .i64 (0)), (.int .i64 (0)), (.int .i64 (0)), (.int .i64 (0)), (.int .i64 (0)), (.int .i64 (0)), (.int .i64 (1)), (.int .i64 (0)), (.int .i64 (0)), (.int .i64 (0)), (.int .i64 (1)), (.int .i64 (0))])
def c27 : AV := (.psl 6 2 [(.int .i64 (0)), (.int .i64 (0)), (.int .i64 (0)), (.int .i64 (0)), (.int .i64 (1)), (.int .i64 (0)), (.int .i64 (0)), (.int .i64 (0)), (.int .i64 (0)), (.int .i64 (0)), (.int .i64 (1)), (.int .i64 (0))])
def c28 : AV := (.psl 6 2 [(.int .i64 (0)), (.int .i64 (0)), (.int .i64 (0)), (.int .i64 (0)), (.int .i64 (0)), (.int .i64 (0)), (.int .i64 (1)), (.int .i64 (0)), (.int .i64 (1)), (.int .i64 (0)), (.int .i64 (0)), (.int .i64 (0))])
def c29 : AV := (.psl 6 2 [(.int .i64 (0)), (.int .i64 (0)), (.int .i64 (0)), (.int .i64 (0)), (.int .i64 (1)), (.int .i64 (0)), (.int .i64 (0)), (.int .i64 (0)), (.int .i64 (1)), (.int .i64 (0)), (.int .i64 (0)), (.int .i64 (0))])
def c30 : AV := (.psl 6 2 [(.int .i64 (0)), (.int .i64 (0)), (.int .i64 (0)), (.int .i64 (0)), (.int .i64 (1)), (.int .i64 (0)), (.int .i64 (1)), (.int .i64 (0)), (.int .i64 (0)), (.int .i64 (0)), (.int .i64 (0)), (.int .i64 (0))])
def c31 : AV := (.agg [(.int .i64 (0)), (.int .i64 (0)), (.int .i64 (0)), (.int .i64 (3)), (.int .i64 (0)), (.int .i64 (0)), (.bool false), .snil, .snil, (.int .i64 (0)), (.bool false), (.int .i64 (0)), (.int .i64 (0)), (.int .i64 (0))])
def c32 : AV := (.agg [(.int .i64 (1)), (.int .i64 (1)), (.int .i64 (0)), (.int .i64 (3)), (.int .i64 (0)), (.int .i64 (0)), (.bool false), .snil, .snil, (.int .i64 (0)), (.bool false), (.int .i64 (0)), (.int .i64 (0)), (.int .i64 (0))])
def c33 : AV := (.psl 2 7 [(.int .i64 (-1)), (.int .i64 (-1)), (.int .i64 (0)), (.int .i64 (0)), (.int .i64 (0)), (.int .i64 (-1)), (.bool true), (.int .i64 (0)), (.int .i64 (0)), (.int .i64 (0)), (.int .i64 (0)), (.int .i64 (0)), (.int .i64 (-1)), (.bool true)])
def c34 : AV := (.psl 2 7 [(.int .i64 (-1)), (.int .i64 (-1)), (.int .i64 (0)), (.int .i64 (0)), (.int .i64 (0)), (.int .i64 (-1)), (.bool false), (.int .i64 (0)), (.int .i64 (0)), (.int .i64 (0)), (.int .i64 (0)), (.int .i64 (0)), (.int .i64 (-1)), (.bool true)])
def c35 : AV := (.psl 2 7 [(.int .i64 (-1)), (.int .i64 (-1)), (.int .i64 (1)), (.int .i64 (0)), (.int .i64 (0)), (.int .i64 (-1)), (.bool false), (.int .i64 (0)), (.int .i64 (0)), (.int .i64 (0)), (.int .i64 (0)), (.int .i64 (0)), (.int .i64 (-1)), (.bool true)])
def c36 : AV := (.psl 2 7 [(.int .i64 (-1)), (.int .i64 (-1)), (.int .i64 (1)), (.int .i64 (0)), (.int .i64 (0)), (.int .i64 (-1)), (.bool false), (.int .i64 (0)), (.int .i64 (0)), (.int .i64 (0)), (.int .i64 (0)), (.int .i64 (0)), (.int .i64 (-1)), (.bool false)])
def c37 : AV := (.psl 2 7 [(.int .i64 (-1)), (.int .i64 (-1)), (.int .i64 (1)), (.int .i64 (0)), (.int .i64 (0)), (.int .i64 (-1)), (.bool false), (.int .i64 (0)), (.int .i64 (0)), (.int .i64 (1)), (.int .i64 (0)), (.int .i64 (0)), (.int .i64 (-1)), (.bool false)])
def c38 : AV := (.psl 7 2 [(.int .i64 (0)), (.int .i64 (0)), (.int .i64 (0)), (.int .i64 (0)), (.int .i64 (0)), (.int .i64 (0)), (.int .i64 (0)), (.int .i64 (0)), (.int .i64 (1)), (.int .i64 (0)), (.int .i64 (1)), (.int .i64 (0)), (.int .i64 (0)), (.int .i64 (0))])
def c39 : AV := (.psl 7 2 [(.int .i64 (0)), (.int .i64 (0)), (.int .i64 (0)), (.int .i64 (0)), (.int .i64 (0)), (.int .i64 (0)), (.int .i64 (1)), (.int .i64 (0)), (.int .i64 (0)), (.int .i64 (0)), (.int .i64 (1)), (.int .i64 (0)), (.int .i64 (0)), (.int .i64 (0))])
def c40 : AV := (.psl 7 2 [(.int .i64 (0)), (.int .i64 (0)), (.int .i64 (0)), (.int .i64 (0)), (.int .i64 (1)), (.int .i64 (0)), (.int .i64 (0)), (.int .i64 (0)), (.int .i64 (0)), (.int .i64 (0)), (.int .i64 (1)), (.int .i64 (0)), (.int .i64 (0)), (.int .i64 (0))])
def c41 : AV := (.psl 7 2 [(.int .i64 (0)), (.int .i64 (0)), (.int .i64 (0)), (.int .i64 (0)), (.int .i64 (0)), (.int .i64 (0)), (.int .i64 (1)), (.int .i64 (0)), (.int .i64 (1)), (.int .i64 (0)), (.int .i64 (0)), (.int .i64 (0)), (.int .i64 (0)), (.int .i64 (0))])
def c42 : AV := (.psl 7 2 [(.int .i64 (0)), (.int .i64 (0)), (.int .i64 (0)), (.int .i64 (0)), (.int .i64 (1)), (.int .i64 (0)), (.int .i64 (0)), (.int .i64 (0)), (.int .i64 (1)), (.int .i64 (0)), (.int .i64 (0)), (.int .i64 (0)), (.int .i64 (0)), (.int .i64 (0))])
def c43 : AV := (.psl 7 2 [(.int .i64 (0)), (.int .i64 (0)), (.int .i64 (0)), (.int .i64 (0)), (.int .i64 (1)), (.int .i64 (0)), (.int .i64 (1)), (.int .i64 (0)), (.int .i64 (0)), (.int .i64 (0)), (.int .i64 (0)), (.int .i64 (0)), (.int .i64 (0)), (.int .i64 (0))])
def c44 : AV := (.psl 8 2 [(.int .i64 (0)), (.int .i64 (0)), (.int .i64 (0)), (.int .i64 (0)), (.int .i64 (0)), (.int .i64 (0)), (.int .i64 (0)), (.int .i64 (0)), (.int .i64 (1)), (.int .i64 (0)), (.int .i64 (1)), (.int .i64 (0)), (.int .i64 (0)), (.int .i64 (0)), (.int .i64 (0)), (.int .i64 (0))])
def c45 : AV := (.psl 8 2 [(.int .i64 (0)), (.int .i64 (0)), (.int .i64 (0)), (.int .i64 (0)), (.int .i64 (0)), (.int .i64 (0)), (.int .i64 (1)), (.int .i64 (0)), (.int .i64 (0)), (.int .i64 (0)), (.int .i64 (1)), (.int .i64 (0)), (.int .i64 (0)), (.int .i64 (0)), (.int .i64 (0)), (.int .i64 (0))])
def c46 : AV := (.psl 8 2 [(.int .i64 (0)), (.int .i64 (0)), (.int .i64 (0)), (.int .i64 (0)), (.int .i64 (1)), (.int .i64 (0)), (.int .i64 (0)), (.int .i64 (0)), (.int .i64 (0)), (.int .i64 (0)), (.int .i64 (1)), (.int .i64 (0)), (.int .i64 (0)), (.int .i64 (0)), (.int .i64 (0)), (.int .i64 (0))])
def c47 : AV := (.psl 2 8 [(.int .i64 (2)), (.int .i64 (0)), (.int .i64 (0)), (.int .i64 (34)), (.int .i64 (-1)), (.int .i64 (1)), (.int .i64 (1)), (.int .i64 (-1)), (.int .i64 (2)), (.int .i64 (0)), (.int .i64 (1)), (.int .i64 (204)), (.int .i64 (-1)), (.int .i64 (1)), (.int .i64 (1)), (.int .i64 (0))])
def c48 : AV := (.psl 2 8 [(.int .i64 (6)), (.int .i64 (0)), (.int .i64 (0)), (.int .i64 (36)), (.int .i64 (-1)), (.int .i64 (1)), (.int .i64 (0)), (.int .i64 (-1)), (.int .i64 (6)), (.int .i64 (0)), (.int .i64 (0)), (.int .i64 (212)), (.int .i64 (-1)), (.int .i64 (1)), (.int .i64 (0)), (.int .i64 (-1))])
def c49 : AV := (.psl 2 8 [(.int .i64 (7)), (.int .i64 (0)), (.int .i64 (0)), (.int .i64 (36)), (.int .i64 (-1)), (.int .i64 (1)), (.int .i64 (0)), (.int .i64 (-1)), (.int .i64 (7)), (.int .i64 (0)), (.int .i64 (0)), (.int .i64 (212)), (.int .i64 (-1)), (.int .i64 (1)), (.int .i64 (0)), (.int .i64 (-1))])
def c50 : AV := (.psl 2 8 [(.int .i64 (6)), (.int .i64 (0)), (.int .i64 (1)), (.int .i64 (205)), (.int .i64 (-1)), (.int .i64 (1)), (.int .i64 (0)), (.int .i64 (-1)), (.int .i64 (6)), (.int .i64 (0)), (.int .i64 (0)), (.int .i64 (203)), (.int .i64 (-1)), (.int .i64 (1)), (.int .i64 (0)), (.int .i64 (-1))])
def c51 : AV := (.psl 2 8 [(.int .i64 (7)), (.int .i64 (0)), (.int .i64 (0)), (.int .i64 (205)), (.int .i64 (-1)), (.int .i64 (0)), (.int .i64 (0)), (.int .i64 (-1)), (.int .i64 (7)), (.int .i64 (0)), (.int .i64 (0)), (.int .i64 (212)), (.int .i64 (-1)), (.int .i64 (0)), (.int .i64 (0)), (.int .i64 (-1))])
def c52 : AV := (.psl 2 8 [(.int .i64 (8)), (.int .i64 (0)), (.int .i64 (0)), (.int .i64 (205)), (.int .i64 (-1)), (.int .i64 (0)), (.int .i64 (0)), (.int .i64 (-1)), (.int .i64 (8)), (.int .i64 (0)), (.int .i64 (0)), (.int .i64 (212)), (.int .i64 (-1)), (.int .i64 (0)), (.int .i64 (0)), (.int .i64 (-1))])
def c53 : AV := (.agg [(.int .i64 (1)), (.str [128, 129, 2, 128, 128, 128, 129, 3, 128, 128, 128, 128, 128, 128, 128, 128, 128, 128, 129, 1, 129, 1, 128, 129, 3, 128, 128, 128, 128, 128, 128, 128, 128, 128, 128, 129, 2, 127, 127, 128, 128, 128, 127, 129, 1, 128, 128, 128, 128, 128, 127, 129, 1, 128, 129, 1, 1, 128, 1]), .snil])
def c54 : AV := (.agg [(.int .i64 (1)), (.str [128, 129, 2, 128, 128, 128, 129, 3, 128, 128, 128, 128, 128, 128, 128, 128, 128, 128, 129, 1, 129, 1, 128, 129, 3, 128, 128, 128, 128, 128, 128, 128, 128, 128, 128, 129, 2, 127, 127, 128, 128, 128, 127, 129, 1, 128, 128, 128, 128, 128, 127, 129, 1, 128, 129, 2, 1, 128, 1]), .snil])
def c55 : AV := (.agg [(.int .i64 (0)), (.int .i64 (0)), (.int .i64 (0)), (.int .i64 (1)), (.int .i64 (0)), (.int .i64 (0)), (.bool false), (.psl 1 5 [(.int .i64 (0)), (.int .i64 (0)), (.psl 2 1 [(.int .i64 (0)), (.int .i64 (0))]), (.int .i64 (-1)), (.bool false)]), (.psl 1 5 [(.int .i64 (-1)), (.int .i64 (0)), (.int .i64 (0)), (.int .i64 (0)), .snil]), (.int .i64 (0)), (.bool false), (.int .i64 (0)), (.int .i64 (0)), (.int .i64 (0))])
def c56 : AV := (.agg [(.int .i64 (0)), (.int .i64 (0)), (.int .i64 (0)), (.int .i64 (1)), (.int .i64 (0)), (.int .i64 (0)), (.bool false), (.psl 1 5 [(.int .i64 (0)), (.int .i64 (5)), (.psl 2 1 [(.int .i64 (0)), (.int .i64 (2))]), (.int .i64 (-1)), (.bool false)]), (.psl 1 5 [(.int .i64 (-1)), (.int .i64 (0)), (.int .i64 (0)), (.int .i64 (0)), .snil]), (.int .i64 (0)), (.bool false), (.int .i64 (0)), (.int .i64 (0)), (.int .i64 (0))])
def c57 : AV := (.agg [(.int .i64 (1)), (.int .i64 (1)), (.int .i64 (0)), (.int .i64 (1)), (.int .i64 (0)), (.int .i64 (0)), (.bool false), (.psl 1 5 [(.int .i64 (1)), (.int .i64 (0)), (.psl 2 1 [(.int .i64 (0)), (.int .i64 (0))]), (.int .i64 (-1)), (.bool false)]), (.psl 1 5 [(.int .i64 (-1)), (.int .i64 (0)), (.int .i64 (0)), (.int .i64 (0)), .snil]), (.int .i64 (0)), (.bool false), (.int .i64 (0)), (.int .i64 (0)), (.int .i64 (0))])
def c58 : AV := (.agg [(.int .i64 (1)), (.int .i64 (1)), (.int .i64 (0)), (.int .i64 (1)), (.int .i64 (0)), (.int .i64 (0)), (.bool false), (.psl 1 5 [(.int .i64 (1)), (.int .i64 (1)), (.psl 2 1 [(.int .i64 (0)), (.int .i64 (1))]), (.int .i64 (-1)), (.bool false)]), (.psl 1 5 [(.int .i64 (-1)), (.int .i64 (0)), (.int .i64 (0)), (.int .i64 (0)), .snil]), (.int .i64 (0)), (.bool false), (.int .i64 (0)), (.int .i64 (0)), (.int .i64 (0))])
def c59 : AV := (.agg [(.int .i64 (1)), (.int .i64 (1)), (.int .i64 (0)), (.int .i64 (1)), (.int .i64 (0)), (.int .i64 (0)), (.bool false), (.psl 1 5 [(.int .i64 (1)), (.int .i64 (2)), (.psl 2 1 [(.int .i64 (0)), (.int .i64 (1))]), (.int .i64 (-1)), (.bool false)]), (.psl 1 5 [(.int .i64 (-1)), (.int .i64 (0)), (.int .i64 (0)), (.int .i64 (0)), .snil]), (.int .i64 (0)), (.bool false), (.int .i64 (0)), (.int .i64 (0)), (.int .i64 (0))])
def c60 : AV := (.agg [(.int .i64 (0)), (.int .i64 (0)), (.int .i64 (0)), (.int .i64 (1)), (.int .i64 (0)), (.int .i64 (0)), (.bool false), (.psl 1 5 [(.int .i64 (0)), (.int .i64 (1)), (.psl 2 1 [(.int .i64 (0)), (.int .i64 (0))]), (.int .i64 (-1)), (.bool false)]), (.psl 2 5 [(.int .i64 (-1)), (.int .i64 (0)), (.int .i64 (0)), (.int .i64 (0)), .snil, (.int .i64 (1)), (.int .i64 (1)), (.int .i64 (4)), (.int .i64 (0)), .snil]), (.int .i64 (0)), (.bool false), (.int .i64 (0)), (.int .i64 (0)), (.int .i64 (0))])
def c61 : AV := (.agg [(.int .i64 (0)), (.int .i64 (0)), (.int .i64 (0)), (.int .i64 (1)), (.int .i64 (0)), (.int .i64 (0)), (.bool false), (.psl 1 5 [(.int .i64 (0)), (.int .i64 (2)), (.psl 2 1 [(.int .i64 (1)), (.int .i64 (0))]), (.int .i64 (-1)), (.bool false)]), (.psl 2 5 [(.int .i64 (-1)), (.int .i64 (0)), (.int .i64 (0)), (.int .i64 (0)), .snil, (.int .i64 (1)), (.int .i64 (1)), (.int .i64 (4)), (.int .i64 (0)), .snil]), (.int .i64 (0)), (.bool false), (.int .i64 (0)), (.int .i64 (0)), (.int .i64 (0))])
def c62 : AV := (.agg [(.int .i64 (0)), (.int .i64 (0)), (.int .i64 (0)), (.int .i64 (1)), (.int .i64 (0)), (.int .i64 (0)), (.bool false), (.psl 1 5 [(.int .i64 (0)), (.int .i64 (3)), (.psl 2 1 [(.int .i64 (1)), (.int .i64 (2))]), (.int .i64 (-1)), (.bool false)]), (.psl 2 5 [(.int .i64 (-1)), (.int .i64 (0)), (.int .i64 (0)), (.int .i64 (0)), .snil, (.int .i64 (1)), (.int .i64 (1)), (.int .i64 (4)), (.int .i64 (0)), .snil]), (.int .i64 (0)), (.bool false), (.int .i64 (0)), (.int .i64 (0)), (.int .i64 (0))])
def c63 : AV := (.agg [(.int .i64 (0)), (.int .i64 (0)), (.int .i64 (0)), (.int .i64 (1)), (.int .i64 (0)), (.int .i64 (0)), (.bool false), (.psl 1 5 [(.int .i64 (0)), (.int .i64 (4)), (.psl 2 1 [(.int .i64 (1)), (.int .i64 (2))]), (.int .i64 (-1)), (.bool false)]), (.psl 2 5 [(.int .i64 (-1)), (.int .i64 (0)), (.int .i64 (0)), (.int .i64 (0)), .snil, (.int .i64 (1)), (.int .i64 (1)), (.int .i64 (4)), (.int .i64 (0)), .snil]), (.int .i64 (0)), (.bool false), (.int .i64 (0)), (.int .i64 (0)), (.int .i64 (0))])
def c64 : AV := (.agg [(.int .i64 (0)), (.int .i64 (0)), (.int .i64 (0)), (.int .i64 (2)), (.int .i64 (4)), (.int .i64 (1)), (.bool false), (.psl 1 5 [(.int .i64 (0)), (.int .i64 (4)), (.psl 2 1 [(.int .i64 (1)), (.int .i64 (2))]), (.int .i64 (-1)), (.bool false)]), (.psl 2 5 [(.int .i64 (-1)), (.int .i64 (0)), (.int .i64 (0)), (.int .i64 (0)), .snil, (.int .i64 (1)), (.int .i64 (1)), (.int .i64 (4)), (.int .i64 (0)), .snil]), (.int .i64 (0)), (.bool false), (.int .i64 (0)), (.int .i64 (0)), (.int .i64 (0))])
def c65 : AV := (.agg [(.int .i64 (0)), (.int .i64 (0)), (.psl 1 14 [(.int .i64 (0)), (.int .i64 (0)), (.int .i64 (0)), (.int .i64 (1)), (.int .i64 (0)), (.int .i64 (0)), (.bool false), (.psl 1 5 [(.int .i64 (0)), (.int .i64 (0)), (.psl 2 1 [(.int .i64 (0)), (.int .i64 (0))]), (.int .i64 (-1)), (.bool false)]), (.psl 1 5 [(.int .i64 (-1)), (.int .i64 (0)), (.int .i64 (0)), (.int .i64 (0)), .snil]), (.int .i64 (0)), (.bool false), (.int .i64 (0)), (.int .i64 (0)), (.int .i64 (0))]), c3, .snil, (.psl 1 1 [(.int .i64 (0))]), .snil, .snil])
def c66 : AV := (.agg [(.int .i64 (0)), (.int .i64 (7)), (.psl 2 14 [(.int .i64 (0)), (.int .i64 (0)), (.int .i64 (0)), (.int .i64 (3)), (.int .i64 (0)), (.int .i64 (0)), (.bool false), .snil, .snil, (.int .i64 (0)), (.bool false), (.int .i64 (0)), (.int .i64 (0)), (.int .i64 (0)), (.int .i64 (1)), (.int .i64 (1)), (.int .i64 (0)), (.int .i64 (3)), (.int .i64 (0)), (.int .i64 (0)), (.bool false), .snil, .snil, (.int .i64 (0)), (.bool false), (.int .i64 (0)), (.int .i64 (0)), (.int .i64 (0))]), c33, .snil, (.psl 1 1 [(.int .i64 (1))]), .snil, .snil])
def c67 : AV := (.agg [(.int .i64 (0)), (.int .i64 (7)), (.psl 2 14 [(.int .i64 (0)), (.int .i64 (0)), (.int .i64 (0)), (.int .i64 (3)), (.int .i64 (0)), (.int .i64 (0)), (.bool false), .snil, .snil, (.int .i64 (0)), (.bool false), (.int .i64 (0)), (.int .i64 (0)), (.int .i64 (0)), (.int .i64 (1)), (.int .i64 (1)), (.int .i64 (0)), (.int .i64 (3)), (.int .i64 (0)), (.int .i64 (0)), (.bool false), .snil, .snil, (.int .i64 (0)), (.bool false), (.int .i64 (0)), (.int .i64 (0)), (.int .i64 (0))]), c33, .snil, (.psl 1 1 [(.int .i64 (2))]), .snil, .snil])
def c68 : AV := (.agg [(.int .i64 (0)), (.int .i64 (8)), (.psl 2 14 [(.int .i64 (0)), (.int .i64 (0)), (.int .i64 (0)), (.int .i64 (3)), (.int .i64 (0)), (.int .i64 (0)), (.bool false), .snil, .snil, (.int .i64 (0)), (.bool false), (.int .i64 (0)), (.int .i64 (0)), (.int .i64 (0)), (.int .i64 (1)), (.int .i64 (1)), (.int .i64 (0)), (.int .i64 (3)), (.int .i64 (0)), (.int .i64 (0)), (.bool false), .snil, .snil, (.int .i64 (0)), (.bool false), (.int .i64 (0)), (.int .i64 (0)), (.int .i64 (0))]), c33, .snil, (.psl 1 1 [(.int .i64 (1))]), .snil, .snil])
def c69 : AV := (.agg [(.int .i64 (0)), (.int .i64 (8)), (.psl 2 14 [(.int .i64 (0)), (.int .i64 (0)), (.int .i64 (0)), (.int .i64 (3)), (.int .i64 (0)), (.int .i64 (0)), (.bool false), .snil, .snil, (.int .i64 (0)), (.bool false), (.int .i64 (0)), (.int .i64 (0)), (.int .i64 (0)), (.int .i64 (1)), (.int .i64 (1)), (.int .i64 (0)), (.int .i64 (3)), (.int .i64 (0)), (.int .i64 (0)), (.bool false), .snil, .snil, (.int .i64 (0)), (.bool false), (.int .i64 (0)), (.int .i64 (0)), (.int .i64 (0))]), c33, .snil, (.psl 1 1 [(.int .i64 (2))]), .snil, .snil])
def c70 : AV := (.agg [(.int .i64 (0)), (.int .i64 (1)), (.psl 1 14 [(.int .i64 (0)), (.int .i64 (0)), (.int .i64 (0)), (.int .i64 (1)), (.int .i64 (0)), (.int .i64 (0)), (.bool false), (.psl 1 5 [(.int .i64 (0)), (.int .i64 (1)), (.psl 2 1 [(.int .i64 (0)), (.int .i64 (0))]), (.int .i64 (-1)), (.bool false)]), (.psl 2 5 [(.int .i64 (-1)), (.int .i64 (0)), (.int .i64 (0)), (.int .i64 (0)), .snil, (.int .i64 (1)), (.int .i64 (1)), (.int .i64 (4)), (.int .i64 (0)), .snil]), (.int .i64 (0)), (.bool false), (.int .i64 (0)), (.int .i64 (0)), (.int .i64 (0))]), c36, .snil, (.psl 1 1 [(.int .i64 (0))]), .snil, .snil])
def c71 : AV := (.agg [(.int .i64 (0)), (.int .i64 (6)), (.psl 2 14 [(.int .i64 (0)), (.int .i64 (0)), (.int .i64 (0)), (.int .i64 (1)), (.int .i64 (0)), (.int .i64 (0)), (.bool false), (.psl 1 5 [(.int .i64 (0)), (.int .i64 (5)), (.psl 2 1 [(.int .i64 (0)), (.int .i64 (2))]), (.int .i64 (-1)), (.bool false)]), (.psl 1 5 [(.int .i64 (-1)), (.int .i64 (0)), (.int .i64 (0)), (.int .i64 (0)), .snil]), (.int .i64 (0)), (.bool false), (.int .i64 (0)), (.int .i64 (0)), (.int .i64 (0)), (.int .i64 (1)), (.int .i64 (1)), (.int .i64 (0)), (.int .i64 (3)), (.int .i64 (0)), (.int .i64 (0)), (.bool false), .snil, .snil, (.int .i64 (0)), (.bool false), (.int .i64 (0)), (.int .i64 (0)), (.int .i64 (0))]), c35, .snil, (.psl 1 1 [(.int .i64 (1))]), .snil, .snil])
def c72 : AV := (.agg [(.int .i64 (0)), (.int .i64 (6)), (.psl 2 14 [(.int .i64 (0)), (.int .i64 (0)), (.int .i64 (0)), (.int .i64 (1)), (.int .i64 (0)), (.int .i64 (0)), (.bool false), (.psl 1 5 [(.int .i64 (0)), (.int .i64 (5)), (.psl 2 1 [(.int .i64 (0)), (.int .i64 (2))]), (.int .i64 (-1)), (.bool false)]), (.psl 1 5 [(.int .i64 (-1)), (.int .i64 (0)), (.int .i64 (0)), (.int .i64 (0)), .snil]), (.int .i64 (0)), (.bool false), (.int .i64 (0)), (.int .i64 (0)), (.int .i64 (0)), (.int .i64 (1)), (.int .i64 (1)), (.int .i64 (0)), (.int .i64 (3)), (.int .i64 (0)), (.int .i64 (0)), (.bool false), .snil, .snil, (.int .i64 (0)), (.bool false), (.int .i64 (0)), (.int .i64 (0)), (.int .i64 (0))]), c35, .snil, (.psl 1 1 [(.int .i64 (2))]), .snil, .snil])
def c73 : AV := (.agg [(.int .i64 (0)), (.int .i64 (7)), (.psl 2 14 [(.int .i64 (0)), (.int .i64 (0)), (.int .i64 (0)), (.int .i64 (1)), (.int .i64 (0)), (.int .i64 (0)), (.bool false), (.psl 1 5 [(.int .i64 (0)), (.int .i64 (5)), (.psl 2 1 [(.int .i64 (0)), (.int .i64 (2))]), (.int .i64 (-1)), (.bool false)]), (.psl 1 5 [(.int .i64 (-1)), (.int .i64 (0)), (.int .i64 (0)), (.int .i64 (0)), .snil]), (.int .i64 (0)), (.bool false), (.int .i64 (0)), (.int .i64 (0)), (.int .i64 (0)), (.int .i64 (1)), (.int .i64 (1)), (.int .i64 (0)), (.int .i64 (3)), (.int .i64 (0)), (.int .i64 (0)), (.bool false), .snil, .snil, (.int .i64 (0)), (.bool false), (.int .i64 (0)), (.int .i64 (0)), (.int .i64 (0))]), c35, .snil, (.psl 1 1 [(.int .i64 (1))]), .snil, .snil])
def c74 : AV := (.agg [(.int .i64 (0)), (.int .i64 (7)), (.psl 2 14 [(.int .i64 (0)), (.int .i64 (0)), (.int .i64 (0)), (.int .i64 (1)), (.int .i64 (0)), (.int .i64 (0)), (.bool false), (.psl 1 5 [(.int .i64 (0)), (.int .i64 (5)), (.psl 2 1 [(.int .i64 (0)), (.int .i64 (2))]), (.int .i64 (-1)), (.bool false)]), (.psl 1 5 [(.int .i64 (-1)), (.int .i64 (0)), (.int .i64 (0)), (.int .i64 (0)), .snil]), (.int .i64 (0)), (.bool false), (.int .i64 (0)), (.int .i64 (0)), (.int .i64 (0)), (.int .i64 (1)), (.int .i64 (1)), (.int .i64 (0)), (.int .i64 (3)), (.int .i64 (0)), (.int .i64 (0)), (.bool false), .snil, .snil, (.int .i64 (0)), (.bool false), (.int .i64 (0)), (.int .i64 (0)), (.int .i64 (0))]), c35, .snil, (.psl 1 1 [(.int .i64 (2))]), .snil, .snil])
def c75 : AV := (.agg [(.int .i64 (0)), (.int .i64 (4)), (.psl 2 14 [(.int .i64 (0)), (.int .i64 (0)), (.int .i64 (0)), (.int .i64 (1)), (.int .i64 (0)), (.int .i64 (0)), (.bool false), (.psl 1 5 [(.int .i64 (0)), (.int .i64 (2)), (.psl 2 1 [(.int .i64 (1)), (.int .i64 (0))]), (.int .i64 (-1)), (.bool false)]), (.psl 2 5 [(.int .i64 (-1)), (.int .i64 (0)), (.int .i64 (0)), (.int .i64 (0)), .snil, (.int .i64 (1)), (.int .i64 (1)), (.int .i64 (4)), (.int .i64 (0)), .snil]), (.int .i64 (0)), (.bool false), (.int .i64 (0)), (.int .i64 (0)), (.int .i64 (0)), (.int .i64 (1)), (.int .i64 (1)), (.int .i64 (0)), (.int .i64 (3)), (.int .i64 (0)), (.int .i64 (0)), (.bool false), .snil, .snil, (.int .i64 (0)), (.bool false), (.int .i64 (0)), (.int .i64 (0)), (.int .i64 (0))]), c36, .snil, (.psl 1 1 [(.int .i64 (1))]), .snil, .snil])
def c76 : AV := (.agg [(.int .i64 (0)), (.int .i64 (5)), (.psl 2 14 [(.int .i64 (0)), (.int .i64 (0)), (.int .i64 (0)), (.int .i64 (1)), (.int .i64 (0)), (.int .i64 (0)), (.bool false), (.psl 1 5 [(.int .i64 (0)), (.int .i64 (4)), (.psl 2 1 [(.int .i64 (1)), (.int .i64 (2))]), (.int .i64 (-1)), (.bool false)]), (.psl 2 5 [(.int .i64 (-1)), (.int .i64 (0)), (.int .i64 (0)), (.int .i64 (0)), .snil, (.int .i64 (1)), (.int .i64 (1)), (.int .i64 (4)), (.int .i64 (0)), .snil]), (.int .i64 (0)), (.bool false), (.int .i64 (0)), (.int .i64 (0)), (.int .i64 (0)), (.int .i64 (1)), (.int .i64 (1)), (.int .i64 (0)), (.int .i64 (3)), (.int .i64 (0)), (.int .i64 (0)), (.bool false), .snil, .snil, (.int .i64 (0)), (.bool false), (.int .i64 (0)), (.int .i64 (0)), (.int .i64 (0))]), c36, .snil, (.psl 1 1 [(.int .i64 (1))]), .snil, .snil])
def c77 : AV := (.agg [(.int .i64 (0)), (.int .i64 (5)), (.psl 2 14 [(.int .i64 (0)), (.int .i64 (0)), (.int .i64 (0)), (.int .i64 (1)), (.int .i64 (0)), (.int .i64 (0)), (.bool false), (.psl 1 5 [(.int .i64 (0)), (.int .i64 (4)), (.psl 2 1 [(.int .i64 (1)), (.int .i64 (2))]), (.int .i64 (-1)), (.bool false)]), (.psl 2 5 [(.int .i64 (-1)), (.int .i64 (0)), (.int .i64 (0)), (.int .i64 (0)), .snil, (.int .i64 (1)), (.int .i64 (1)), (.int .i64 (4)), (.int .i64 (0)), .snil]), (.int .i64 (0)), (.bool false), (.int .i64 (0)), (.int .i64 (0)), (.int .i64 (0)), (.int .i64 (1)), (.int .i64 (1)), (.int .i64 (0)), (.int .i64 (3)), (.int .i64 (0)), (.int .i64 (0)), (.bool false), .snil, .snil, (.int .i64 (0)), (.bool false), (.int .i64 (0)), (.int .i64 (0)), (.int .i64 (0))]), c36, .snil, (.psl 1 1 [(.int .i64 (2))]), .snil, .snil])
def c78 : AV := (.agg [(.int .i64 (0)), (.int .i64 (6)), (.psl 2 14 [(.int .i64 (0)), (.int .i64 (0)), (.int .i64 (0)), (.int .i64 (1)), (.int .i64 (0)), (.int .i64 (0)), (.bool false), (.psl 1 5 [(.int .i64 (0)), (.int .i64 (4)), (.psl 2 1 [(.int .i64 (1)), (.int .i64 (2))]), (.int .i64 (-1)), (.bool false)]), (.psl 2 5 [(.int .i64 (-1)), (.int .i64 (0)), (.int .i64 (0)), (.int .i64 (0)), .snil, (.int .i64 (1)), (.int .i64 (1)), (.int .i64 (4)), (.int .i64 (0)), .snil]), (.int .i64 (0)), (.bool false), (.int .i64 (0)), (.int .i64 (0)), (.int .i64 (0)), (.int .i64 (1)), (.int .i64 (1)), (.int .i64 (0)), (.int .i64 (3)), (.int .i64 (0)), (.int .i64 (0)), (.bool false), .snil, .snil, (.int .i64 (0)), (.bool false), (.int .i64 (0)), (.int .i64 (0)), (.int .i64 (0))]), c36, .snil, (.psl 1 1 [(.int .i64 (1))]), .snil, .snil])
def c79 : AV := (.agg [(.int .i64 (0)), (.int .i64 (6)), (.psl 2 14 [(.int .i64 (0)), (.int .i64 (0)), (.int .i64 (0)), (.int .i64 (1)), (.int .i64 (0)), (.int .i64 (0)), (.bool false), (.psl 1 5 [(.int .i64 (0)), (.int .i64 (4)), (.psl 2 1 [(.int .i64 (1)), (.int .i64 (2))]), (.int .i64 (-1)), (.bool false)]), (.psl 2 5 [(.int .i64 (-1)), (.int .i64 (0)), (.int .i64 (0)), (.int .i64 (0)), .snil, (.int .i64 (1)), (.int .i64 (1)), (.int .i64 (4)), (.int .i64 (0)), .snil]), (.int .i64 (0)), (.bool false), (.int .i64 (0)), (.int .i64 (0)), (.int .i64 (0)), (.int .i64 (1)), (.int .i64 (1)), (.int .i64 (0)), (.int .i64 (3)), (.int .i64 (0)), (.int .i64 (0)), (.bool false), .snil, .snil, (.int .i64 (0)), (.bool false), (.int .i64 (0)), (.int .i64 (0)), (.int .i64 (0))]), c36, .snil, (.psl 1 1 [(.int .i64 (2))]), .snil, .snil])
def c80 : AV := (.agg [(.int .i64 (0)), (.int .i64 (2)), (.psl 2 14 [(.int .i64 (0)), (.int .i64 (0)), (.int .i64 (0)), (.int .i64 (1)), (.int .i64 (0)), (.int .i64 (0)), (.bool false), (.psl 1 5 [(.int .i64 (0)), (.int .i64 (2)), (.psl 2 1 [(.int .i64 (1)), (.int .i64 (0))]), (.int .i64 (-1)), (.bool false)]), (.psl 2 5 [(.int .i64 (-1)), (.int .i64 (0)), (.int .i64 (0)), (.int .i64 (0)), .snil, (.int .i64 (1)), (.int .i64 (1)), (.int .i64 (4)), (.int .i64 (0)), .snil]), (.int .i64 (0)), (.bool false), (.int .i64 (0)), (.int .i64 (0)), (.int .i64 (0)), (.int .i64 (1)), (.int .i64 (1)), (.int .i64 (0)), (.int .i64 (1)), (.int .i64 (0)), (.int .i64 (0)), (.bool false), (.psl 1 5 [(.int .i64 (1)), (.int .i64 (0)), (.psl 2 1 [(.int .i64 (0)), (.int .i64 (0))]), (.int .i64 (-1)), (.bool false)]), (.psl 1 5 [(.int .i64 (-1)), (.int .i64 (0)), (.int .i64 (0)), (.int .i64 (0)), .snil]), (.int .i64 (0)), (.bool false), (.int .i64 (0)), (.int .i64 (0)), (.int .i64 (0))]), c37, .snil, (.psl 1 1 [(.int .i64 (0))]), .snil, .snil])
def c81 : AV := (.agg [(.int .i64 (0)), (.int .i64 (3)), (.psl 2 14 [(.int .i64 (0)), (.int .i64 (0)), (.int .i64 (0)), (.int .i64 (1)), (.int .i64 (0)), (.int .i64 (0)), (.bool false), (.psl 1 5 [(.int .i64 (0)), (.int .i64 (2)), (.psl 2 1 [(.int .i64 (1)), (.int .i64 (0))]), (.int .i64 (-1)), (.bool false)]), (.psl 2 5 [(.int .i64 (-1)), (.int .i64 (0)), (.int .i64 (0)), (.int .i64 (0)), .snil, (.int .i64 (1)), (.int .i64 (1)), (.int .i64 (4)), (.int .i64 (0)), .snil]), (.int .i64 (0)), (.bool false), (.int .i64 (0)), (.int .i64 (0)), (.int .i64 (0)), (.int .i64 (1)), (.int .i64 (1)), (.int .i64 (0)), (.int .i64 (1)), (.int .i64 (0)), (.int .i64 (0)), (.bool false), (.psl 1 5 [(.int .i64 (1)), (.int .i64 (2)), (.psl 2 1 [(.int .i64 (0)), (.int .i64 (1))]), (.int .i64 (-1)), (.bool false)]), (.psl 1 5 [(.int .i64 (-1)), (.int .i64 (0)), (.int .i64 (0)), (.int .i64 (0)), .snil]), (.int .i64 (0)), (.bool false), (.int .i64 (0)), (.int .i64 (0)), (.int .i64 (0))]), c37, .snil, (.psl 1 1 [(.int .i64 (1))]), .snil, .snil])
def c82 : AV := (.agg [(.int .i64 (0)), (.int .i64 (3)), (.psl 2 14 [(.int .i64 (0)), (.int .i64 (0)), (.int .i64 (0)), (.int .i64 (1)), (.int .i64 (0)), (.int .i64 (0)), (.bool false), (.psl 1 5 [(.int .i64 (0)), (.int .i64 (4)), (.psl 2 1 [(.int .i64 (1)), (.int .i64 (2))]), (.int .i64 (-1)), (.bool false)]), (.psl 2 5 [(.int .i64 (-1)), (.int .i64 (0)), (.int .i64 (0)), (.int .i64 (0)), .snil, (.int .i64 (1)), (.int .i64 (1)), (.int .i64 (4)), (.int .i64 (0)), .snil]), (.int .i64 (0)), (.bool false), (.int .i64 (0)), (.int .i64 (0)), (.int .i64 (0)), (.int .i64 (1)), (.int .i64 (1)), (.int .i64 (0)), (.int .i64 (1)), (.int .i64 (0)), (.int .i64 (0)), (.bool false), (.psl 1 5 [(.int .i64 (1)), (.int .i64 (0)), (.psl 2 1 [(.int .i64 (0)), (.int .i64 (0))]), (.int .i64 (-1)), (.bool false)]), (.psl 1 5 [(.int .i64 (-1)), (.int .i64 (0)), (.int .i64 (0)), (.int .i64 (0)), .snil]), (.int .i64 (0)), (.bool false), (.int .i64 (0)), (.int .i64 (0)), (.int .i64 (0))]), c37, .snil, (.psl 1 1 [(.int .i64 (2))]), .snil, .snil])
def c83 : AV := (.agg [(.int .i64 (0)), (.int .i64 (4)), (.psl 2 14 [(.int .i64 (0)), (.int .i64 (0)), (.int .i64 (0)), (.int .i64 (1)), (.int .i64 (0)), (.int .i64 (0)), (.bool false), (.psl 1 5 [(.int .i64 (0)), (.int .i64 (4)), (.psl 2 1 [(.int .i64 (1)), (.int .i64 (2))]), (.int .i64 (-1)), (.bool false)]), (.psl 2 5 [(.int .i64 (-1)), (.int .i64 (0)), (.int .i64 (0)), (.int .i64 (0)), .snil, (.int .i64 (1)), (.int .i64 (1)), (.int .i64 (4)), (.int .i64 (0)), .snil]), (.int .i64 (0)), (.bool false), (.int .i64 (0)), (.int .i64 (0)), (.int .i64 (0)), (.int .i64 (1)), (.int .i64 (1)), (.int .i64 (0)), (.int .i64 (1)), (.int .i64 (0)), (.int .i64 (0)), (.bool false), (.psl 1 5 [(.int .i64 (1)), (.int .i64 (2)), (.psl 2 1 [(.int .i64 (0)), (.int .i64 (1))]), (.int .i64 (-1)), (.bool false)]), (.psl 1 5 [(.int .i64 (-1)), (.int .i64 (0)), (.int .i64 (0)), (.int .i64 (0)), .snil]), (.int .i64 (0)), (.bool false), (.int .i64 (0)), (.int .i64 (0)), (.int .i64 (0))]), c37, .snil, (.psl 1 1 [(.int .i64 (1))]), .snil, .snil])
def c84 : AV := (.agg [(.int .i64 (0)), (.int .i64 (4)), (.psl 2 14 [(.int .i64 (0)), (.int .i64 (0)), (.int .i64 (0)), (.int .i64 (1)), (.int .i64 (0)), (.int .i64 (0)), (.bool false), (.psl 1 5 [(.int .i64 (0)), (.int .i64 (4)), (.psl 2 1 [(.int .i64 (1)), (.int .i64 (2))]), (.int .i64 (-1)), (.bool false)]), (.psl 2 5 [(.int .i64 (-1)), (.int .i64 (0)), (.int .i64 (0)), (.int .i64 (0)), .snil, (.int .i64 (1)), (.int .i64 (1)), (.int .i64 (4)), (.int .i64 (0)), .snil]), (.int .i64 (0)), (.bool false), (.int .i64 (0)), (.int .i64 (0)), (.int .i64 (0)), (.int .i64 (1)), (.int .i64 (1)), (.int .i64 (0)), (.int .i64 (1)), (.int .i64 (0)), (.int .i64 (0)), (.bool false), (.psl 1 5 [(.int .i64 (1)), (.int .i64 (2)), (.psl 2 1 [(.int .i64 (0)), (.int .i64 (1))]), (.int .i64 (-1)), (.bool false)]), (.psl 1 5 [(.int .i64 (-1)), (.int .i64 (0)), (.int .i64 (0)), (.int .i64 (0)), .snil]), (.int .i64 (0)), (.bool false), (.int .i64 (0)), (.int .i64 (0)), (.int .i64 (0))]), c37, .snil, (.psl 1 1 [(.int .i64 (2))]), .snil, .snil])
def c85 : AV := (.agg [(.int .i64 (0)), (.int .i64 (4)), (.psl 2 14 [(.int .i64 (0)), (.int .i64 (0)), (.int .i64 (0)), (.int .i64 (2)), (.int .i64 (4)), (.int .i64 (1)), (.bool false), (.psl 1 5 [(.int .i64 (0)), (.int .i64 (4)), (.psl 2 1 [(.int .i64 (1)), (.int .i64 (2))]), (.int .i64 (-1)), (.bool false)]), (.psl 2 5 [(.int .i64 (-1)), (.int .i64 (0)), (.int .i64 (0)), (.int .i64 (0)), .snil, (.int .i64 (1)), (.int .i64 (1)), (.int .i64 (4)), (.int .i64 (0)), .snil]), (.int .i64 (0)), (.bool false), (.int .i64 (0)), (.int .i64 (0)), (.int .i64 (0)), (.int .i64 (1)), (.int .i64 (1)), (.int .i64 (0)), (.int .i64 (1)), (.int .i64 (0)), (.int .i64 (0)), (.bool false), (.psl 1 5 [(.int .i64 (1)), (.int .i64 (0)), (.psl 2 1 [(.int .i64 (0)), (.int .i64 (0))]), (.int .i64 (-1)), (.bool false)]), (.psl 1 5 [(.int .i64 (-1)), (.int .i64 (0)), (.int .i64 (0)), (.int .i64 (0)), .snil]), (.int .i64 (0)), (.bool false), (.int .i64 (0)), (.int .i64 (0)), (.int .i64 (0))]), c37, .snil, (.psl 1 1 [(.int .i64 (2))]), .snil, .snil])
def c86 : AV := (.agg [(.int .i64 (0)), (.int .i64 (5)), (.psl 2 14 [(.int .i64 (0)), (.int .i64 (0)), (.int .i64 (0)), (.int .i64 (2)), (.int .i64 (4)), (.int .i64 (1)), (.bool false), (.psl 1 5 [(.int .i64 (0)), (.int .i64 (4)), (.psl 2 1 [(.int .i64 (1)), (.int .i64 (2))]), (.int .i64 (-1)), (.bool false)]), (.psl 2 5 [(.int .i64 (-1)), (.int .i64 (0)), (.int .i64 (0)), (.int .i64 (0)), .snil, (.int .i64 (1)), (.int .i64 (1)), (.int .i64 (4)), (.int .i64 (0)), .snil]), (.int .i64 (0)), (.bool false), (.int .i64 (0)), (.int .i64 (0)), (.int .i64 (0)), (.int .i64 (1)), (.int .i64 (1)), (.int .i64 (0)), (.int .i64 (1)), (.int .i64 (0)), (.int .i64 (0)), (.bool false), (.psl 1 5 [(.int .i64 (1)), (.int .i64 (2)), (.psl 2 1 [(.int .i64 (0)), (.int .i64 (1))]), (.int .i64 (-1)), (.bool false)]), (.psl 1 5 [(.int .i64 (-1)), (.int .i64 (0)), (.int .i64 (0)), (.int .i64 (0)), .snil]), (.int .i64 (0)), (.bool false), (.int .i64 (0)), (.int .i64 (0)), (.int .i64 (0))]), c37, .snil, (.psl 1 1 [(.int .i64 (1))]), .snil, .snil])
def c87 : AV := (.agg [(.int .i64 (0)), (.int .i64 (5)), (.psl 2 14 [(.int .i64 (0)), (.int .i64 (0)), (.int .i64 (0)), (.int .i64 (2)), (.int .i64 (4)), (.int .i64 (1)), (.bool false), (.psl 1 5 [(.int .i64 (0)), (.int .i64 (4)), (.psl 2 1 [(.int .i64 (1)), (.int .i64 (2))]), (.int .i64 (-1)), (.bool false)]), (.psl 2 5 [(.int .i64 (-1)), (.int .i64 (0)), (.int .i64 (0)), (.int .i64 (0)), .snil, (.int .i64 (1)), (.int .i64 (1)), (.int .i64 (4)), (.int .i64 (0)), .snil]), (.int .i64 (0)), (.bool false), (.int .i64 (0)), (.int .i64 (0)), (.int .i64 (0)), (.int .i64 (1)), (.int .i64 (1)), (.int .i64 (0)), (.int .i64 (1)), (.int .i64 (0)), (.int .i64 (0)), (.bool false), (.psl 1 5 [(.int .i64 (1)), (.int .i64 (2)), (.psl 2 1 [(.int .i64 (0)), (.int .i64 (1))]), (.int .i64 (-1)), (.bool false)]), (.psl 1 5 [(.int .i64 (-1)), (.int .i64 (0)), (.int .i64 (0)), (.int .i64 (0)), .snil]), (.int .i64 (0)), (.bool false), (.int .i64 (0)), (.int .i64 (0)), (.int .i64 (0))]), c37, .snil, (.psl 1 1 [(.int .i64 (2))]), .snil, .snil])
def n22 : List Ent := [⟨22, [c65, (.int .i64 (1)), .snil], .snil⟩,
  ⟨22, [c70, (.int .i64 (1)), (.psl 1 2 [(.int .i64 (0)), (.int .i64 (0))])], .snil⟩,
  ⟨22, [c80, (.int .i64 (1)), (.psl 2 2 [(.int .i64 (0)), (.int .i64 (0)), (.int .i64 (0)), (.int .i64 (0))])], .snil⟩,
  ⟨22, [c81, (.int .i64 (1)), c0], .snil⟩,
  ⟨22, [c82, (.int .i64 (1)), c1], .snil⟩,
  ⟨22, [c75, (.int .i64 (1)), c4], .snil⟩,
  ⟨22, [c83, (.int .i64 (1)), c5], .snil⟩,
  ⟨22, [c84, (.int .i64 (1)), c6], .snil⟩,
  ⟨22, [c85, (.int .i64 (1)), c7], .snil⟩,
  ⟨22, [c76, (.int .i64 (1)), c19], .snil⟩,
  ⟨22, [c77, (.int .i64 (1)), c20], .snil⟩,
  ⟨22, [c77, (.int .i64 (1)), c21], .snil⟩,
  ⟨22, [c86, (.int .i64 (1)), c22], .snil⟩,
  ⟨22, [c86, (.int .i64 (1)), c23], .snil⟩,
  ⟨22, [c87, (.int .i64 (1)), c24], .snil⟩,
  ⟨22, [c78, (.int .i64 (1)), c25], .snil⟩,
  ⟨22, [c78, (.int .i64 (1)), c26], .snil⟩,
  ⟨22, [c79, (.int .i64 (1)), c27], .snil⟩,
  ⟨22, [c71, (.int .i64 (1)), c28], .snil⟩,
  ⟨22, [c72, (.int .i64 (1)), c29], .snil⟩,
  ⟨22, [c72, (.int .i64 (1)), c30], .snil⟩,
  ⟨22, [c73, (.int .i64 (1)), c38], .snil⟩,
  ⟨22, [c73, (.int .i64 (1)), c39], .snil⟩,
  ⟨22, [c74, (.int .i64 (1)), c40], .snil⟩,
  ⟨22, [c66, (.int .i64 (2)), c41], .snil⟩,
  ⟨22, [c67, (.int .i64 (2)), c42], .snil⟩,
  ⟨22, [c67, (.int .i64 (2)), c43], .snil⟩,
  ⟨22, [c68, (.int .i64 (2)), c44], .snil⟩,
  ⟨22, [c68, (.int .i64 (2)), c45], .snil⟩,
  ⟨22, [c69, (.int .i64 (2)), c46], .snil⟩]
def n25 : List Ent := [⟨25, [exV, c80], (.tup [(.agg [(.int .i64 (3)), (.str []), .snil]), (.int .i64 (0))])⟩,
  ⟨25, [exV, c66], (.tup [c53, (.int .i64 (0))])⟩,
  ⟨25, [exV, c67], (.tup [c54, (.int .i64 (0))])⟩,
  ⟨25, [exV, c68], (.tup [c53, (.int .i64 (0))])⟩,
  ⟨25, [exV, c69], (.tup [c54, (.int .i64 (0))])⟩]
def n33 : List Ent := [⟨33, [exV], (.tup [c65, (.int .i64 (0))])⟩]
def n37 : List Ent := [⟨37, [exV, c65], (.tup [(.int .i64 (1)), (.int .i64 (0))])⟩,
  ⟨37, [exV, c70], (.tup [(.int .i64 (1)), (.int .i64 (0))])⟩,
  ⟨37, [exV, c80], (.tup [(.int .i64 (1)), (.int .i64 (0))])⟩,
  ⟨37, [exV, c81], (.tup [(.int .i64 (1)), (.int .i64 (0))])⟩,
  ⟨37, [exV, c82], (.tup [(.int .i64 (1)), (.int .i64 (0))])⟩,
  ⟨37, [exV, c75], (.tup [(.int .i64 (1)), (.int .i64 (0))])⟩,
  ⟨37, [exV, c83], (.tup [(.int .i64 (1)), (.int .i64 (0))])⟩,
  ⟨37, [exV, c84], (.tup [(.int .i64 (1)), (.int .i64 (0))])⟩,
  ⟨37, [exV, c85], (.tup [(.int .i64 (1)), (.int .i64 (0))])⟩,
  ⟨37, [exV, c76], (.tup [(.int .i64 (1)), (.int .i64 (0))])⟩,
  ⟨37, [exV, c77], (.tup [(.int .i64 (1)), (.int .i64 (0))])⟩,
  ⟨37, [exV, c86], (.tup [(.int .i64 (1)), (.int .i64 (0))])⟩,
  ⟨37, [exV, c87], (.tup [(.int .i64 (1)), (.int .i64 (0))])⟩,
  ⟨37, [exV, c78], (.tup [(.int .i64 (1)), (.int .i64 (0))])⟩,
  ⟨37, [exV, c79], (.tup [(.int .i64 (1)), (.int .i64 (0))])⟩,
  ⟨37, [exV, c71], (.tup [(.int .i64 (1)), (.int .i64 (0))])⟩,
  ⟨37, [exV, c72], (.tup [(.int .i64 (1)), (.int .i64 (0))])⟩,
  ⟨37, [exV, c73], (.tup [(.int .i64 (1)), (.int .i64 (0))])⟩,
  ⟨37, [exV, c74], (.tup [(.int .i64 (1)), (.int .i64 (0))])⟩,
  ⟨37, [exV, c66], (.tup [(.int .i64 (2)), (.int .i64 (0))])⟩,
  ⟨37, [exV, c67], (.tup [(.int .i64 (2)), (.int .i64 (0))])⟩,
  ⟨37, [exV, c68], (.tup [(.int .i64 (2)), (.int .i64 (0))])⟩,
  ⟨37, [exV, c69], (.tup [(.int .i64 (2)), (.int .i64 (0))])⟩]
def n47 : List Ent := [⟨47, [exV, c65], (.tup [(.psl 1 2 [(.int .i64 (0)), (.int .i64 (0))]), (.int .i64 (0))])⟩,
  ⟨47, [exV, c70], (.tup [(.psl 1 2 [(.int .i64 (0)), (.int .i64 (0))]), (.int .i64 (0))])⟩,
  ⟨47, [exV, c80], (.tup [(.psl 2 2 [(.int .i64 (0)), (.int .i64 (0)), (.int .i64 (1)), (.int .i64 (0))]), (.int .i64 (0))])⟩,
  ⟨47, [exV, c81], (.tup [(.psl 2 2 [(.int .i64 (0)), (.int .i64 (0)), (.int .i64 (1)), (.int .i64 (0))]), (.int .i64 (0))])⟩,
  ⟨47, [exV, c82], (.tup [(.psl 2 2 [(.int .i64 (0)), (.int .i64 (0)), (.int .i64 (1)), (.int .i64 (0))]), (.int .i64 (0))])⟩,
  ⟨47, [exV, c75], (.tup [(.psl 1 2 [(.int .i64 (0)), (.int .i64 (0))]), (.int .i64 (0))])⟩,
  ⟨47, [exV, c83], (.tup [(.psl 2 2 [(.int .i64 (0)), (.int .i64 (0)), (.int .i64 (1)), (.int .i64 (0))]), (.int .i64 (0))])⟩,
  ⟨47, [exV, c84], (.tup [(.psl 2 2 [(.int .i64 (0)), (.int .i64 (0)), (.int .i64 (1)), (.int .i64 (0))]), (.int .i64 (0))])⟩,
  ⟨47, [exV, c85], (.tup [(.psl 1 2 [(.int .i64 (1)), (.int .i64 (0))]), (.int .i64 (0))])⟩,
  ⟨47, [exV, c76], (.tup [(.psl 1 2 [(.int .i64 (0)), (.int .i64 (0))]), (.int .i64 (0))])⟩,
  ⟨47, [exV, c77], (.tup [(.psl 1 2 [(.int .i64 (0)), (.int .i64 (0))]), (.int .i64 (0))])⟩,
  ⟨47, [exV, c86], (.tup [(.psl 1 2 [(.int .i64 (1)), (.int .i64 (0))]), (.int .i64 (0))])⟩,
  ⟨47, [exV, c87], (.tup [(.psl 1 2 [(.int .i64 (1)), (.int .i64 (0))]), (.int .i64 (0))])⟩,
  ⟨47, [exV, c78], (.tup [(.psl 1 2 [(.int .i64 (0)), (.int .i64 (0))]), (.int .i64 (0))])⟩,
  ⟨47, [exV, c79], (.tup [(.psl 1 2 [(.int .i64 (0)), (.int .i64 (0))]), (.int .i64 (0))])⟩,
  ⟨47, [exV, c71], (.tup [(.psl 1 2 [(.int .i64 (0)), (.int .i64 (0))]), (.int .i64 (0))])⟩,
  ⟨47, [exV, c72], (.tup [(.psl 1 2 [(.int .i64 (0)), (.int .i64 (0))]), (.int .i64 (0))])⟩,
  ⟨47, [exV, c73], (.tup [(.psl 1 2 [(.int .i64 (0)), (.int .i64 (0))]), (.int .i64 (0))])⟩,
  ⟨47, [exV, c74], (.tup [(.psl 1 2 [(.int .i64 (0)), (.int .i64 (0))]), (.int .i64 (0))])⟩,
  ⟨47, [exV, c66], (.tup [.snil, (.int .i64 (0))])⟩,
  ⟨47, [exV, c67], (.tup [.snil, (.int .i64 (0))])⟩,
  ⟨47, [exV, c68], (.tup [.snil, (.int .i64 (0))])⟩,
  ⟨47, [exV, c69], (.tup [.snil, (.int .i64 (0))])⟩]
def n48 : List Ent := [⟨48, [exV, c65, (.agg [(.int .i64 (0)), (.int .i64 (0))])], (.tup [c70, c8, (.int .i64 (0))])⟩,
  ⟨48, [exV, c70, (.agg [(.int .i64 (0)), (.int .i64 (0))])], (.tup [c80, c47, (.int .i64 (0))])⟩,
  ⟨48, [exV, c80, (.agg [(.int .i64 (0)), (.int .i64 (0))])], (.tup [c82, c9, (.int .i64 (0))])⟩,
  ⟨48, [exV, c80, (.agg [(.int .i64 (1)), (.int .i64 (0))])], (.tup [c81, c10, (.int .i64 (0))])⟩,
  ⟨48, [exV, c81, (.agg [(.int .i64 (0)), (.int .i64 (0))])], (.tup [c84, c11, (.int .i64 (0))])⟩,
  ⟨48, [exV, c81, (.agg [(.int .i64 (1)), (.int .i64 (0))])], (.tup [c75, c15, (.int .i64 (0))])⟩,
  ⟨48, [exV, c82, (.agg [(.int .i64 (0)), (.int .i64 (0))])], (.tup [c85, c16, (.int .i64 (0))])⟩,
  ⟨48, [exV, c82, (.agg [(.int .i64 (1)), (.int .i64 (0))])], (.tup [c83, c12, (.int .i64 (0))])⟩,
  ⟨48, [exV, c75, (.agg [(.int .i64 (0)), (.int .i64 (0))])], (.tup [c77, c13, (.int .i64 (0))])⟩,
  ⟨48, [exV, c83, (.agg [(.int .i64 (0)), (.int .i64 (0))])], (.tup [c86, c17, (.int .i64 (0))])⟩,
  ⟨48, [exV, c83, (.agg [(.int .i64 (1)), (.int .i64 (0))])], (.tup [c76, c18, (.int .i64 (0))])⟩,
  ⟨48, [exV, c84, (.agg [(.int .i64 (0)), (.int .i64 (0))])], (.tup [c87, c17, (.int .i64 (0))])⟩,
  ⟨48, [exV, c84, (.agg [(.int .i64 (1)), (.int .i64 (0))])], (.tup [c77, c18, (.int .i64 (0))])⟩,
  ⟨48, [exV, c85, (.agg [(.int .i64 (1)), (.int .i64 (0))])], (.tup [c86, c14, (.int .i64 (0))])⟩,
  ⟨48, [exV, c76, (.agg [(.int .i64 (0)), (.int .i64 (0))])], (.tup [c71, c48, (.int .i64 (0))])⟩,
  ⟨48, [exV, c77, (.agg [(.int .i64 (0)), (.int .i64 (0))])], (.tup [c72, c48, (.int .i64 (0))])⟩,
  ⟨48, [exV, c86, (.agg [(.int .i64 (1)), (.int .i64 (0))])], (.tup [c78, c50, (.int .i64 (0))])⟩,
  ⟨48, [exV, c87, (.agg [(.int .i64 (1)), (.int .i64 (0))])], (.tup [c79, c50, (.int .i64 (0))])⟩,
  ⟨48, [exV, c78, (.agg [(.int .i64 (0)), (.int .i64 (0))])], (.tup [c73, c49, (.int .i64 (0))])⟩,
  ⟨48, [exV, c79, (.agg [(.int .i64 (0)), (.int .i64 (0))])], (.tup [c74, c49, (.int .i64 (0))])⟩,
  ⟨48, [exV, c71, (.agg [(.int .i64 (0)), (.int .i64 (0))])], (.tup [c66, c51, (.int .i64 (0))])⟩,
  ⟨48, [exV, c72, (.agg [(.int .i64 (0)), (.int .i64 (0))])], (.tup [c67, c51, (.int .i64 (0))])⟩,
  ⟨48, [exV, c73, (.agg [(.int .i64 (0)), (.int .i64 (0))])], (.tup [c68, c52, (.int .i64 (0))])⟩,
  ⟨48, [exV, c74, (.agg [(.int .i64 (0)), (.int .i64 (0))])], (.tup [c69, c52, (.int .i64 (0))])⟩]
def n50 : List Ent := [⟨50, [exV, c65], (.int .i64 (0))⟩,
  ⟨50, [exV, c70], (.int .i64 (0))⟩,
  ⟨50, [exV, c80], (.int .i64 (0))⟩,
  ⟨50, [exV, c81], (.int .i64 (0))⟩,
  ⟨50, [exV, c82], (.int .i64 (0))⟩,
  ⟨50, [exV, c75], (.int .i64 (0))⟩,
  ⟨50, [exV, c83], (.int .i64 (0))⟩,
  ⟨50, [exV, c84], (.int .i64 (0))⟩,
  ⟨50, [exV, c85], (.int .i64 (0))⟩,
  ⟨50, [exV, c76], (.int .i64 (0))⟩,
  ⟨50, [exV, c77], (.int .i64 (0))⟩,
  ⟨50, [exV, c86], (.int .i64 (0))⟩,
  ⟨50, [exV, c87], (.int .i64 (0))⟩,
  ⟨50, [exV, c78], (.int .i64 (0))⟩,
  ⟨50, [exV, c79], (.int .i64 (0))⟩,
  ⟨50, [exV, c71], (.int .i64 (0))⟩,
  ⟨50, [exV, c72], (.int .i64 (0))⟩,
  ⟨50, [exV, c73], (.int .i64 (0))⟩,
  ⟨50, [exV, c74], (.int .i64 (0))⟩,
  ⟨50, [exV, c66], (.int .i64 (0))⟩,
  ⟨50, [exV, c67], (.int .i64 (0))⟩,
  ⟨50, [exV, c68], (.int .i64 (0))⟩,
  ⟨50, [exV, c69], (.int .i64 (0))⟩]
def n52 : List Ent := [⟨52, [exV, c65], (.psl 1 2 [(.int .i64 (0)), (.int .i64 (0))])⟩,
  ⟨52, [exV, c70], (.psl 1 2 [(.int .i64 (0)), (.int .i64 (0))])⟩,
  ⟨52, [exV, c80], (.psl 2 2 [(.int .i64 (0)), (.int .i64 (0)), (.int .i64 (1)), (.int .i64 (0))])⟩,
  ⟨52, [exV, c81], (.psl 2 2 [(.int .i64 (0)), (.int .i64 (0)), (.int .i64 (1)), (.int .i64 (0))])⟩,
  ⟨52, [exV, c82], (.psl 2 2 [(.int .i64 (0)), (.int .i64 (0)), (.int .i64 (1)), (.int .i64 (0))])⟩,
  ⟨52, [exV, c75], (.psl 1 2 [(.int .i64 (0)), (.int .i64 (0))])⟩,
  ⟨52, [exV, c83], (.psl 2 2 [(.int .i64 (0)), (.int .i64 (0)), (.int .i64 (1)), (.int .i64 (0))])⟩,
  ⟨52, [exV, c84], (.psl 2 2 [(.int .i64 (0)), (.int .i64 (0)), (.int .i64 (1)), (.int .i64 (0))])⟩,
  ⟨52, [exV, c85], (.psl 1 2 [(.int .i64 (1)), (.int .i64 (0))])⟩,
  ⟨52, [exV, c76], (.psl 1 2 [(.int .i64 (0)), (.int .i64 (0))])⟩,
  ⟨52, [exV, c77], (.psl 1 2 [(.int .i64 (0)), (.int .i64 (0))])⟩,
  ⟨52, [exV, c86], (.psl 1 2 [(.int .i64 (1)), (.int .i64 (0))])⟩,
  ⟨52, [exV, c87], (.psl 1 2 [(.int .i64 (1)), (.int .i64 (0))])⟩,
  ⟨52, [exV, c78], (.psl 1 2 [(.int .i64 (0)), (.int .i64 (0))])⟩,
  ⟨52, [exV, c79], (.psl 1 2 [(.int .i64 (0)), (.int .i64 (0))])⟩,
  ⟨52, [exV, c71], (.psl 1 2 [(.int .i64 (0)), (.int .i64 (0))])⟩,
  ⟨52, [exV, c72], (.psl 1 2 [(.int .i64 (0)), (.int .i64 (0))])⟩,
  ⟨52, [exV, c73], (.psl 1 2 [(.int .i64 (0)), (.int .i64 (0))])⟩,
  ⟨52, [exV, c74], (.psl 1 2 [(.int .i64 (0)), (.int .i64 (0))])⟩,
  ⟨52, [exV, c66], .snil⟩,
  ⟨52, [exV, c67], .snil⟩,
  ⟨52, [exV, c68], .snil⟩,
  ⟨52, [exV, c69], .snil⟩]
def n79 : List Ent := [⟨79, [exV, c65, (.int .i64 (0))], (.psl 1 2 [(.int .i64 (0)), (.int .i64 (0))])⟩,
  ⟨79, [exV, c70, (.int .i64 (0))], (.psl 1 2 [(.int .i64 (0)), (.int .i64 (0))])⟩,
  ⟨79, [exV, c80, (.int .i64 (0))], (.psl 1 2 [(.int .i64 (0)), (.int .i64 (0))])⟩,
  ⟨79, [exV, c80, (.int .i64 (1))], (.psl 1 2 [(.int .i64 (1)), (.int .i64 (0))])⟩,
  ⟨79, [exV, c81, (.int .i64 (0))], (.psl 1 2 [(.int .i64 (0)), (.int .i64 (0))])⟩,
  ⟨79, [exV, c81, (.int .i64 (1))], (.psl 1 2 [(.int .i64 (1)), (.int .i64 (0))])⟩,
  ⟨79, [exV, c82, (.int .i64 (0))], (.psl 1 2 [(.int .i64 (0)), (.int .i64 (0))])⟩,
  ⟨79, [exV, c82, (.int .i64 (1))], (.psl 1 2 [(.int .i64 (1)), (.int .i64 (0))])⟩,
  ⟨79, [exV, c75, (.int .i64 (0))], (.psl 1 2 [(.int .i64 (0)), (.int .i64 (0))])⟩,
  ⟨79, [exV, c83, (.int .i64 (0))], (.psl 1 2 [(.int .i64 (0)), (.int .i64 (0))])⟩,
  ⟨79, [exV, c83, (.int .i64 (1))], (.psl 1 2 [(.int .i64 (1)), (.int .i64 (0))])⟩,
  ⟨79, [exV, c84, (.int .i64 (0))], (.psl 1 2 [(.int .i64 (0)), (.int .i64 (0))])⟩,
  ⟨79, [exV, c84, (.int .i64 (1))], (.psl 1 2 [(.int .i64 (1)), (.int .i64 (0))])⟩,
  ⟨79, [exV, c85, (.int .i64 (1))], (.psl 1 2 [(.int .i64 (1)), (.int .i64 (0))])⟩,
  ⟨79, [exV, c76, (.int .i64 (0))], (.psl 1 2 [(.int .i64 (0)), (.int .i64 (0))])⟩,
  ⟨79, [exV, c77, (.int .i64 (0))], (.psl 1 2 [(.int .i64 (0)), (.int .i64 (0))])⟩,
  ⟨79, [exV, c86, (.int .i64 (1))], (.psl 1 2 [(.int .i64 (1)), (.int .i64 (0))])⟩,
  ⟨79, [exV, c87, (.int .i64 (1))], (.psl 1 2 [(.int .i64 (1)), (.int .i64 (0))])⟩,
  ⟨79, [exV, c78, (.int .i64 (0))], (.psl 1 2 [(.int .i64 (0)), (.int .i64 (0))])⟩,
  ⟨79, [exV, c79, (.int .i64 (0))], (.psl 1 2 [(.int .i64 (0)), (.int .i64 (0))])⟩,
  ⟨79, [exV, c71, (.int .i64 (0))], (.psl 1 2 [(.int .i64 (0)), (.int .i64 (0))])⟩,
  ⟨79, [exV, c72, (.int .i64 (0))], (.psl 1 2 [(.int .i64 (0)), (.int .i64 (0))])⟩,
  ⟨79, [exV, c73, (.int .i64 (0))], (.psl 1 2 [(.int .i64 (0)), (.int .i64 (0))])⟩,
  ⟨79, [exV, c74, (.int .i64 (0))], (.psl 1 2 [(.int .i64 (0)), (.int .i64 (0))])⟩]
def n100 : List Ent := [⟨100, [c2], (.int .i64 (0))⟩,
  ⟨100, [c3], (.int .i64 (0))⟩,
  ⟨100, [c34], (.int .i64 (0))⟩,
  ⟨100, [c33], (.int .i64 (0))⟩,
  ⟨100, [c36], (.int .i64 (0))⟩,
  ⟨100, [c35], (.int .i64 (0))⟩,
  ⟨100, [c37], (.int .i64 (0))⟩]
def n264 : List Ent := [⟨264, [exV, c55], (.int .i64 (0))⟩,
  ⟨264, [exV, c60], (.int .i64 (0))⟩,
  ⟨264, [exV, c61], (.int .i64 (0))⟩,
  ⟨264, [exV, c62], (.int .i64 (0))⟩,
  ⟨264, [exV, c63], (.int .i64 (0))⟩,
  ⟨264, [exV, c56], (.int .i64 (0))⟩,
  ⟨264, [exV, c64], (.int .i64 (0))⟩,
  ⟨264, [exV, c31], (.int .i64 (0))⟩,
  ⟨264, [exV, c57], (.int .i64 (0))⟩,
  ⟨264, [exV, c58], (.int .i64 (0))⟩,
  ⟨264, [exV, c59], (.int .i64 (0))⟩,
  ⟨264, [exV, c32], (.int .i64 (0))⟩]
def nB : List Ent := [⟨10, [], exV⟩, ⟨29, [exV], .int .i64 0⟩]

def mA : List Ent := nB ++ (n100 ++ n264)
def mB : List Ent := mA ++ n50
def mC : List Ent := mB ++ (n52 ++ (n79 ++ n37))
def mT : List Ent := mC ++ (n47 ++ (n48 ++ (n22 ++ (n25 ++ n33))))
end Go.Nv
