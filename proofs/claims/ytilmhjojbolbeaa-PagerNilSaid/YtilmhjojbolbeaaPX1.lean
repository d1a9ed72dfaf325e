/-
  What functions of the program compute. No condition beside those that each theorem states.
-/
import Derived.Test.YtilmhjojbolbeaaPA4
import Derived.IntWalk
import Derived.Shelf.Strings.Builder1
import Derived.Shelf.Strings.Builder2
import Derived.Shelf.Small.Bits
import Derived.Shelf.Small.Wraps
import Derived.Shelf.Strings.BuilderF
import Derived.Shelf.Strings.BuilderK
import Derived.Shelf.Strings.Builder2Cap
import Derived.Shelf.Strconv.Itoa0
import Derived.Shelf.Sort.Plain
import Derived.Shelf.Strings.Prefix
import Derived.Shelf.Bits.Mul64
import Derived.Shelf.Strings.Repeat
import Derived.Shelf.Strings.BuilderCap
import Derived.Ground.Names2Prog
import Derived.Shelf.Slices.Clone
import Derived.Shelf.Slices.CompactI
import Derived.Shelf.Slices.SearchI
import Derived.Shelf.Slices.Cells
import Derived.Shelf.Slices.In.SortNone
import Derived.Ground.SlgnProg
import Derived.Shelf.SlicesE.Clone
import Derived.Test.YtilmhjojbolbeaaProg
set_option linter.all false

namespace Go.Proofs.Ytilmhjojbolbeaa.AM
open Go
theorem mixed : Try.prog.follows .mixedOrders = true := by kernel_rfl
abbrev ORD3 := OR0
abbrev ORD4 := OR0
abbrev ORD5 := OR0
abbrev ORD6 := OR0
abbrev ORD8 := OR0
abbrev ORD9 := OR0
abbrev ORD11 := OR0
abbrev ORD12 := OR0
abbrev ORD13 := OR0
abbrev ORD15 := OR0
abbrev ORD19 := OR0
abbrev ORD22 := OR0
abbrev ORD25 := OR0
abbrev ORD26 := OR0
abbrev ORD27 := OR0
abbrev ORD28 := OR0
abbrev ORD32 := OR0
abbrev ORD33 := OR0
abbrev ORD34 := OR0
abbrev ORD36 := OR0
abbrev ORD37 := OR0
abbrev ORD38 := OR0
abbrev ORD42 := OR0
abbrev ORD43 := OR0
abbrev ORD44 := OR0
abbrev ORD45 := OR0
abbrev ORD46 := OR0
abbrev ORD48 := OR0
abbrev ORD49 := OR0
abbrev ORD51 := OR0
abbrev ORD52 := OR0
abbrev ORD53 := OR0
abbrev ORD56 := OR0
abbrev ORD58 := OR0
abbrev ORD59 := OR0
abbrev ORD60 := OR0
abbrev ORD62 := OR0
abbrev ORD64 := OR0
abbrev ORD65 := OR0
abbrev ORD66 := OR0
abbrev ORD67 := OR0
abbrev ORD68 := OR0
abbrev ORD69 := OR0
abbrev ORD74 := OR0
abbrev ORD75 := OR0
abbrev ORD76 := OR0
abbrev ORD77 := OR0
abbrev ORD78 := OR0
abbrev ORD80 := OR0
abbrev ORD82 := OR0
abbrev ORD83 := OR0
abbrev ORD85 := OR0
abbrev ORD86 := OR0
abbrev ORD87 := OR0
abbrev ORD88 := OR0
abbrev ORD89 := OR0
abbrev ORD90 := OR0
abbrev ORD91 := OR0
abbrev ORD93 := OR0
abbrev ORD94 := OR0
abbrev ORD95 := OR0
abbrev ORD96 := OR0
abbrev ORD97 := OR0
abbrev ORD98 := OR0
abbrev ORD99 := OR0
abbrev ORD100 := OR0
abbrev ORD101 := OR0
abbrev ORD102 := OR0
abbrev ORD103 := OR0
abbrev ORD104 := OR0
abbrev ORD106 := OR0
abbrev ORD107 := OR0
abbrev ORD108 := OR0
abbrev ORD111 := OR0
abbrev ORD112 := OR0
abbrev ORD113 := OR0
abbrev ORD114 := OR0
abbrev ORD115 := OR0
abbrev ORD116 := OR0
abbrev ORD118 := OR0
abbrev ORD119 := OR0
abbrev ORD120 := OR0
abbrev ORD121 := OR0
abbrev ORD122 := OR0
abbrev ORD123 := OR0
abbrev ORD124 := OR0
abbrev ORD126 := OR0
abbrev ORD127 := OR0
abbrev ORD129 := OR0
abbrev ORD130 := OR0
abbrev ORD131 := OR0
abbrev ORD132 := OR0
abbrev ORD133 := OR0
abbrev ORD134 := OR0
abbrev ORD135 := OR0
abbrev ORD136 := OR0
abbrev ORD137 := OR0
abbrev ORD141 := OR0
abbrev ORD144 := OR0
abbrev ORD147 := OR0
abbrev ORD148 := OR0
abbrev ORD149 := OR0
abbrev ORD150 := OR0
abbrev ORD151 := OR0
abbrev ORD152 := OR0
abbrev ORD154 := OR0
abbrev ORD155 := OR0
abbrev ORD157 := OR0
abbrev ORD159 := OR0
abbrev ORD160 := OR0
abbrev ORD161 := OR0
abbrev ORD162 := OR0
abbrev ORD164 := OR0
abbrev ORD165 := OR0
abbrev ORD166 := OR0
abbrev ORD167 := OR0
abbrev ORD168 := OR0
abbrev ORD169 := OR0
abbrev ORD170 := OR0
abbrev ORD171 := OR0
abbrev ORD173 := OR0
abbrev ORD174 := OR0
abbrev ORD175 := OR0
abbrev ORD176 := OR0
abbrev ORD177 := OR0
abbrev ORD178 := OR0
abbrev ORD179 := OR0
abbrev ORD180 := OR0
abbrev ORD181 := OR0
abbrev ORD182 := OR0
abbrev ORD183 := OR0
abbrev ORD184 := OR0
abbrev ORD185 := OR0
abbrev ORD186 := OR0
abbrev ORD187 := OR0
abbrev ORD188 := OR0
abbrev ORD189 := OR0
abbrev ORD190 := OR0
abbrev ORD191 := OR0
abbrev ORD192 := OR0
abbrev ORD193 := OR0
def ORD7 : Nat → List (Nat × List Nat)
  | 1 => [(0, []), (1, []), (2, []), (3, []), (4, []), (5, []), (6, []), (7, []), (8, [2, 3, 4, 5, 6, 7]), (9, [4, 5, 6, 7]), (10, [6, 7]), (11, [])]
  | _ => []
def ORD10 : Nat → List (Nat × List Nat)
  | 15 => [(0, []), (1, []), (2, []), (3, []), (4, []), (5, []), (6, []), (7, []), (8, []), (9, []), (10, []), (11, []), (12, []), (13, []), (14, []), (15, []), (16, []), (17, [])]
  | _ => []
def ORD14 : Nat → List (Nat × List Nat)
  | 7 => [(0, []), (1, []), (2, [1]), (3, []), (4, [])]
  | _ => []
def ORD16 : Nat → List (Nat × List Nat)
  | 16 => [(0, []), (1, []), (2, []), (3, []), (4, []), (5, []), (6, []), (7, []), (8, []), (9, []), (10, []), (11, []), (12, [])]
  | 17 => [(0, []), (1, []), (2, []), (3, []), (4, []), (5, []), (6, []), (7, []), (8, []), (9, []), (10, []), (11, []), (12, [])]
  | 22 => [(0, []), (1, []), (2, []), (3, []), (4, []), (5, []), (6, []), (7, []), (8, []), (9, []), (10, []), (11, []), (12, [])]
  | _ => []
def ORD17 : Nat → List (Nat × List Nat)
  | 7 => [(0, []), (1, []), (2, []), (3, []), (4, []), (5, []), (6, []), (7, []), (8, []), (9, []), (10, []), (11, []), (12, []), (13, []), (14, []), (15, []), (16, []), (17, [])]
  | 9 => [(0, []), (1, []), (2, []), (3, []), (4, []), (5, []), (6, []), (7, []), (8, []), (9, []), (10, []), (11, []), (12, []), (13, []), (14, []), (15, []), (16, []), (17, [])]
  | _ => []
def ORD18 : Nat → List (Nat × List Nat)
  | 6 => [(0, []), (1, []), (2, []), (3, []), (4, []), (5, []), (6, []), (7, []), (8, [])]
  | _ => []
def ORD20 : Nat → List (Nat × List Nat)
  | 7 => [(0, []), (1, []), (2, []), (4, []), (5, []), (6, []), (3, [4, 5, 6]), (7, []), (8, []), (9, [0, 1, 2, 4, 5, 6, 8]), (10, [])]
  | _ => []
def ORD21 : Nat → List (Nat × List Nat)
  | 10 => [(0, []), (1, []), (3, []), (4, []), (2, [3, 4]), (5, []), (6, []), (7, [0, 1, 3, 4, 6]), (8, [])]
  | 12 => [(0, []), (1, []), (3, []), (4, []), (2, [3, 4]), (5, []), (6, []), (7, [])]
  | _ => []
def ORD23 : Nat → List (Nat × List Nat)
  | 1 => [(0, []), (1, []), (2, []), (3, []), (4, []), (5, []), (6, []), (7, []), (8, []), (9, []), (10, []), (11, []), (12, []), (13, []), (14, []), (15, []), (16, []), (17, []), (18, []), (19, []), (20, []), (21, []), (22, []), (23, []), (24, []), (25, []), (26, []), (27, []), (28, []), (29, [])]
  | 3 => [(0, []), (1, []), (2, []), (3, []), (4, []), (5, []), (6, []), (7, []), (8, []), (9, []), (10, []), (11, []), (12, []), (13, []), (14, []), (15, []), (16, []), (17, []), (18, [])]
  | 4 => [(0, []), (1, []), (3, []), (4, []), (2, [3, 4]), (5, []), (6, []), (7, [0, 1, 3, 4, 6]), (8, [])]
  | 5 => [(0, []), (1, []), (3, []), (4, []), (2, [3, 4]), (5, []), (6, []), (7, [0, 1, 3, 4, 6]), (8, [])]
  | 8 => [(0, []), (1, []), (2, [1]), (3, []), (4, [])]
  | _ => []
def ORD24 : Nat → List (Nat × List Nat)
  | 6 => [(0, []), (1, []), (2, []), (3, []), (4, []), (5, []), (6, []), (7, [])]
  | _ => []
def ORD29 : Nat → List (Nat × List Nat)
  | 15 => [(0, []), (1, []), (2, []), (3, []), (4, []), (5, []), (6, []), (7, []), (8, []), (9, []), (10, []), (11, []), (12, []), (13, []), (14, []), (15, []), (16, []), (17, [])]
  | _ => []
def ORD30 : Nat → List (Nat × List Nat)
  | 25 => [(0, []), (1, []), (2, []), (3, []), (4, []), (5, []), (6, [0, 1, 2, 3, 4]), (7, [0]), (8, []), (9, []), (10, [])]
  | _ => []
def ORD31 : Nat → List (Nat × List Nat)
  | 6 => [(0, []), (1, []), (2, []), (3, []), (4, []), (5, []), (6, []), (7, []), (8, [])]
  | _ => []
def ORD35 : Nat → List (Nat × List Nat)
  | 3 => [(0, []), (1, []), (2, []), (3, []), (4, []), (5, []), (6, []), (7, []), (8, []), (9, []), (10, []), (11, []), (12, [4, 5, 6, 7, 8, 9, 10, 11]), (13, [8, 9, 10, 11]), (14, [])]
  | _ => []
def ORD39 : Nat → List (Nat × List Nat)
  | 10 => [(0, []), (1, []), (2, []), (3, []), (4, []), (5, []), (6, []), (7, []), (8, [])]
  | _ => []
def ORD40 : Nat → List (Nat × List Nat)
  | 3 => [(0, []), (1, []), (3, []), (4, []), (2, [3, 4]), (5, []), (6, []), (7, [])]
  | _ => []
def ORD41 : Nat → List (Nat × List Nat)
  | 5 => [(0, []), (1, []), (2, []), (3, []), (4, []), (5, []), (6, []), (7, []), (8, []), (9, []), (10, []), (11, [0, 1]), (12, []), (13, [])]
  | _ => []
def ORD47 : Nat → List (Nat × List Nat)
  | 6 => [(0, []), (1, []), (2, []), (3, []), (4, []), (5, []), (6, []), (7, []), (8, []), (9, [])]
  | 11 => [(0, []), (1, []), (2, []), (3, []), (4, []), (5, []), (6, []), (7, []), (8, []), (9, [])]
  | _ => []
def ORD50 : Nat → List (Nat × List Nat)
  | 4 => [(0, []), (1, []), (3, []), (4, []), (2, [3, 4]), (5, []), (6, []), (7, [0, 1, 3, 4, 6]), (8, [])]
  | 5 => [(0, []), (1, []), (3, []), (4, []), (2, [3, 4]), (5, []), (6, []), (7, [0, 1, 3, 4, 6]), (8, [])]
  | 6 => [(0, []), (1, []), (2, []), (3, []), (4, []), (5, []), (6, []), (7, []), (8, []), (9, []), (10, [3, 4, 5, 7, 8]), (11, []), (12, [])]
  | 7 => [(0, []), (1, []), (2, [1]), (3, []), (4, [])]
  | _ => []
def ORD54 : Nat → List (Nat × List Nat)
  | 6 => [(0, []), (1, []), (2, []), (3, []), (4, []), (5, []), (6, []), (7, []), (8, []), (9, []), (10, [])]
  | _ => []
def ORD55 : Nat → List (Nat × List Nat)
  | 8 => [(0, []), (1, []), (2, []), (3, []), (4, []), (5, []), (6, []), (7, []), (8, [])]
  | _ => []
def ORD57 : Nat → List (Nat × List Nat)
  | 9 => [(0, []), (1, []), (2, []), (3, []), (4, []), (5, []), (6, []), (7, [0]), (8, []), (9, [])]
  | _ => []
def ORD61 : Nat → List (Nat × List Nat)
  | 2 => [(0, []), (1, []), (2, []), (3, []), (4, []), (5, []), (6, []), (7, []), (8, []), (9, [])]
  | _ => []
def ORD63 : Nat → List (Nat × List Nat)
  | 6 => [(0, []), (1, []), (2, []), (3, []), (4, []), (5, []), (6, []), (7, []), (8, []), (9, [])]
  | _ => []
def ORD70 : Nat → List (Nat × List Nat)
  | 1 => [(0, []), (1, []), (2, []), (3, []), (4, []), (5, []), (6, []), (7, []), (8, []), (9, []), (10, []), (11, []), (12, [11]), (13, [])]
  | 3 => [(0, []), (1, []), (2, []), (3, []), (4, []), (5, []), (6, []), (7, []), (8, []), (9, []), (10, []), (11, []), (12, []), (13, []), (14, []), (15, [])]
  | _ => []
def ORD71 : Nat → List (Nat × List Nat)
  | 11 => [(0, []), (1, []), (2, []), (3, []), (4, []), (5, []), (6, []), (7, []), (8, []), (9, []), (10, []), (11, []), (12, []), (13, []), (14, []), (15, []), (16, []), (17, [14, 15]), (18, []), (19, []), (20, [])]
  | _ => []
def ORD72 : Nat → List (Nat × List Nat)
  | 8 => [(0, []), (1, []), (2, []), (3, []), (4, []), (5, []), (6, []), (7, []), (8, [])]
  | _ => []
def ORD73 : Nat → List (Nat × List Nat)
  | 7 => [(0, []), (1, []), (2, []), (3, [0, 1]), (4, [])]
  | 9 => [(0, []), (1, []), (2, [0]), (3, []), (4, []), (5, []), (6, []), (7, [6]), (8, [])]
  | _ => []
def ORD79 : Nat → List (Nat × List Nat)
  | 3 => [(0, []), (1, []), (2, []), (3, []), (4, []), (5, []), (6, []), (7, []), (8, []), (9, []), (10, [5, 6, 7, 8, 9]), (11, [])]
  | _ => []
def ORD81 : Nat → List (Nat × List Nat)
  | 4 => [(0, []), (1, []), (2, []), (3, []), (4, []), (5, []), (6, []), (7, []), (8, [])]
  | 6 => [(0, []), (1, []), (2, []), (3, []), (4, []), (5, []), (6, []), (7, []), (8, [])]
  | _ => []
def ORD84 : Nat → List (Nat × List Nat)
  | 0 => [(0, []), (2, []), (1, [2]), (3, [2]), (4, [])]
  | 3 => [(0, []), (1, []), (2, []), (3, []), (4, []), (5, []), (6, []), (7, []), (8, []), (9, []), (10, []), (11, []), (12, [])]
  | _ => []
def ORD92 : Nat → List (Nat × List Nat)
  | 8 => [(0, []), (1, []), (2, []), (3, []), (4, []), (5, [2, 3]), (6, []), (7, [])]
  | _ => []
def ORD105 : Nat → List (Nat × List Nat)
  | 3 => [(0, []), (1, []), (2, []), (3, []), (4, []), (5, []), (6, []), (7, [])]
  | _ => []
def ORD109 : Nat → List (Nat × List Nat)
  | 14 => [(0, []), (2, []), (4, []), (5, []), (1, [2, 4, 5]), (3, [4, 5]), (6, []), (7, []), (8, [])]
  | _ => []
def ORD110 : Nat → List (Nat × List Nat)
  | 1 => [(0, []), (1, []), (2, []), (3, []), (4, []), (5, []), (6, []), (7, []), (8, []), (9, []), (10, []), (11, []), (12, []), (13, []), (14, [13]), (15, [])]
  | 3 => [(0, []), (1, []), (2, []), (3, []), (4, []), (5, []), (6, []), (7, []), (8, []), (9, []), (10, []), (11, []), (12, []), (13, []), (14, []), (15, []), (16, []), (17, [])]
  | 6 => [(0, []), (1, []), (2, []), (3, []), (4, []), (5, []), (6, []), (7, []), (8, []), (9, []), (10, []), (11, []), (12, []), (13, []), (14, []), (15, []), (16, []), (17, []), (18, [13, 14, 15, 16, 17]), (19, [])]
  | _ => []
def ORD117 : Nat → List (Nat × List Nat)
  | 17 => [(0, []), (1, []), (2, []), (3, []), (4, []), (5, []), (6, []), (7, []), (8, []), (9, []), (10, []), (11, []), (12, []), (13, []), (14, [])]
  | _ => []
def ORD125 : Nat → List (Nat × List Nat)
  | 3 => [(0, []), (1, []), (2, []), (3, []), (5, []), (6, []), (7, []), (8, []), (9, []), (11, []), (4, [5, 6, 7, 8, 9, 11]), (10, []), (12, [])]
  | _ => []
def ORD128 : Nat → List (Nat × List Nat)
  | 1 => [(0, []), (1, []), (2, []), (3, []), (5, []), (6, []), (7, []), (8, []), (9, []), (4, [5, 6, 7, 8, 9]), (10, []), (11, [])]
  | _ => []
def ORD138 : Nat → List (Nat × List Nat)
  | 4 => [(0, []), (1, []), (2, []), (3, []), (4, []), (5, []), (6, []), (7, []), (8, []), (9, []), (10, []), (11, []), (12, []), (13, []), (14, [])]
  | 6 => [(0, []), (1, []), (2, []), (3, []), (4, []), (5, []), (6, []), (7, []), (8, []), (9, []), (10, []), (11, []), (12, []), (13, []), (14, []), (15, [2, 3, 4]), (16, []), (17, [])]
  | _ => []
def ORD139 : Nat → List (Nat × List Nat)
  | 10 => [(0, []), (1, []), (2, []), (3, []), (4, []), (5, []), (6, []), (7, []), (8, []), (9, []), (10, []), (11, []), (12, []), (13, []), (14, []), (15, []), (16, []), (17, [2, 3, 4, 5]), (18, []), (19, [])]
  | _ => []
def ORD140 : Nat → List (Nat × List Nat)
  | 10 => [(0, []), (1, []), (2, []), (3, []), (4, []), (5, []), (6, []), (7, []), (8, []), (9, []), (10, []), (11, []), (12, []), (13, []), (14, []), (15, []), (16, []), (17, [2, 3, 4, 5]), (18, []), (19, [])]
  | _ => []
def ORD142 : Nat → List (Nat × List Nat)
  | 3 => [(0, []), (1, []), (2, []), (3, []), (4, []), (5, []), (6, []), (7, []), (8, []), (9, []), (10, []), (11, []), (12, []), (13, [2, 3]), (14, []), (15, [])]
  | _ => []
def ORD143 : Nat → List (Nat × List Nat)
  | 5 => [(0, []), (1, []), (2, []), (3, []), (4, []), (5, []), (6, []), (7, []), (8, []), (9, []), (10, []), (11, []), (12, []), (13, []), (14, []), (15, [])]
  | 11 => [(0, []), (1, []), (2, []), (3, []), (4, []), (5, []), (6, []), (7, []), (8, []), (9, []), (10, []), (11, []), (12, []), (13, []), (14, []), (15, [2, 3, 4]), (16, []), (17, [])]
  | 16 => [(0, []), (1, []), (2, []), (3, []), (4, []), (5, []), (6, []), (7, []), (8, []), (9, []), (10, [])]
  | 17 => [(0, []), (1, []), (2, []), (3, []), (4, []), (5, []), (6, []), (7, []), (8, []), (9, []), (10, []), (11, []), (12, []), (13, []), (14, []), (15, [2, 3, 4]), (16, []), (17, [])]
  | 22 => [(0, []), (1, []), (2, []), (3, []), (4, []), (5, []), (6, []), (7, []), (8, []), (9, []), (10, [])]
  | 23 => [(0, []), (1, []), (2, []), (3, []), (4, []), (5, []), (6, []), (7, []), (8, []), (9, []), (10, []), (11, []), (12, []), (13, []), (14, []), (15, [2, 3, 4]), (16, []), (17, [])]
  | _ => []
def ORD145 : Nat → List (Nat × List Nat)
  | 1 => [(0, []), (1, []), (2, []), (3, []), (4, []), (5, []), (6, []), (7, []), (8, []), (9, []), (10, []), (11, []), (12, []), (13, [2, 3]), (14, []), (15, [])]
  | 3 => [(0, []), (1, []), (2, []), (3, []), (4, []), (5, []), (6, []), (7, []), (8, []), (9, []), (10, []), (11, []), (12, []), (13, []), (14, [])]
  | 5 => [(0, []), (1, []), (2, []), (3, []), (4, []), (5, []), (6, []), (7, []), (8, []), (9, []), (10, []), (11, []), (12, []), (13, [])]
  | 8 => [(0, []), (1, []), (2, []), (3, []), (4, []), (5, []), (6, []), (7, []), (8, []), (9, []), (10, []), (11, []), (12, []), (13, [2, 3]), (14, []), (15, [])]
  | _ => []
def ORD146 : Nat → List (Nat × List Nat)
  | 1 => [(0, []), (1, []), (2, []), (3, []), (4, []), (5, []), (6, []), (7, []), (8, []), (9, []), (10, []), (11, []), (12, []), (13, [2, 3]), (14, []), (15, [])]
  | 3 => [(0, []), (1, []), (2, []), (3, []), (4, []), (5, []), (6, []), (7, []), (8, []), (9, []), (10, []), (11, []), (12, []), (13, [])]
  | 5 => [(0, []), (1, []), (2, []), (3, []), (4, []), (5, []), (6, []), (7, []), (8, []), (9, []), (10, []), (11, []), (12, []), (13, []), (14, [])]
  | 8 => [(0, []), (1, []), (2, []), (3, []), (4, []), (5, []), (6, []), (7, []), (8, []), (9, []), (10, []), (11, []), (12, []), (13, [2, 3]), (14, []), (15, [])]
  | 10 => [(0, []), (1, []), (2, []), (3, []), (4, []), (5, []), (6, []), (7, []), (8, []), (9, []), (10, []), (11, []), (12, []), (13, [2, 3]), (14, []), (15, [])]
  | 13 => [(0, []), (1, []), (2, []), (3, []), (4, []), (5, []), (6, []), (7, []), (8, []), (9, []), (10, []), (11, []), (12, []), (13, [])]
  | 15 => [(0, []), (1, []), (2, []), (3, []), (4, []), (5, []), (6, []), (7, []), (8, []), (9, []), (10, []), (11, []), (12, []), (13, []), (14, [])]
  | 18 => [(0, []), (1, []), (2, []), (3, []), (4, []), (5, []), (6, []), (7, []), (8, []), (9, []), (10, []), (11, []), (12, []), (13, [2, 3]), (14, []), (15, [])]
  | 21 => [(0, []), (1, []), (2, []), (3, []), (4, []), (5, []), (6, []), (7, []), (8, []), (9, []), (10, []), (11, []), (12, []), (13, [2, 3]), (14, []), (15, [])]
  | _ => []
def ORD153 : Nat → List (Nat × List Nat)
  | 0 => [(0, []), (1, []), (2, []), (3, []), (6, []), (9, []), (10, []), (11, []), (12, []), (13, []), (4, [6, 9, 10, 11, 12, 13]), (5, []), (7, []), (8, [9, 10, 11, 12, 13]), (14, []), (15, [])]
  | _ => []
def ORD156 : Nat → List (Nat × List Nat)
  | 3 => [(0, []), (1, []), (2, []), (3, []), (4, []), (5, []), (6, []), (7, []), (8, []), (9, []), (10, []), (11, []), (12, []), (13, []), (14, []), (15, []), (16, []), (17, []), (18, []), (19, [])]
  | 5 => [(0, []), (1, []), (2, []), (3, []), (4, []), (5, []), (6, []), (7, []), (8, []), (9, []), (10, []), (11, []), (12, []), (13, [])]
  | 6 => [(0, []), (1, []), (2, []), (3, []), (4, []), (5, []), (6, []), (7, []), (8, []), (9, []), (10, []), (11, []), (12, []), (13, []), (14, []), (15, []), (16, []), (17, []), (18, []), (19, []), (20, []), (21, [4, 5, 6, 7]), (22, []), (23, [])]
  | _ => []
def ORD158 : Nat → List (Nat × List Nat)
  | 1 => [(0, []), (1, []), (2, []), (3, []), (4, []), (5, []), (6, []), (7, []), (8, []), (9, [])]
  | 2 => [(0, []), (1, []), (2, []), (3, []), (4, []), (5, []), (6, []), (7, []), (8, []), (9, [])]
  | 3 => [(0, []), (1, []), (2, []), (3, []), (4, []), (5, []), (6, []), (7, []), (8, []), (9, [])]
  | _ => []
def ORD163 : Nat → List (Nat × List Nat)
  | 6 => [(0, []), (1, []), (2, []), (3, []), (4, []), (5, []), (6, []), (7, []), (8, []), (9, []), (10, [])]
  | _ => []
def ORD172 : Nat → List (Nat × List Nat)
  | 1 => [(0, []), (1, []), (2, []), (3, []), (4, []), (5, []), (6, []), (7, []), (8, [])]
  | _ => []
end Go.Proofs.Ytilmhjojbolbeaa.AM

namespace Go.Proofs.Ytilmhjojbolbeaa.AM
open Go

set_option maxRecDepth 100000
/-- a disk: its pages' object, what waits -/
def diskC (op ow : Nat) (n m r w f u : Int) : List V := [.sl op 0 n 1 false, .sl ow 0 m 2 false, .i .i64 r, .i .i64 w, .i .i64 f, .i .i64 u]
def diskS (d op ow : Nat) (n m k r w f u : Int) (pg : Ix → Str) (wn : Ix → Int) (ws : Ix → Str) : Sto :=
  [(d, .st (diskC op ow n m r w f u) 128), (op, .ar n [.s pg] 9), (ow, .ar k [.i .i64 wn, .s ws] 155)]
theorem step_tri (n m k r w f u : Int) (pg : Ix → Str) (wn : Ix → Int) (ws : Ix → Str) (hu : -1 ≤ u ∧ u ≤ 9223372036854775807) :
    TriS Try.prog 99 [.pt 0 0] (diskS 0 1 2 n m k r w f u pg wn ws) (fun x σ => ∃ (b : Bool) (u' : Int), x = .b b ∧ (b = true ↔ 0 < u ∨ u = -1) ∧ (u' = if 0 < u then u - 1 else u) ∧ σ = diskS 0 1 2 n m k r w f u' pg wn ws) := by
  refine tri_of TT_ok mixed (OR := OR0) (fn := Try.f99) (c := body Try.f99) (by kernel_rfl) (by kernel_rfl) (by kernel_rfl) (by kernel_rfl) (by simp [Try.f99]) fun H Tri hH hTri => ?_
  cbv
  split
  · rename_i h
    simp only [hH, decide_eq_true_eq] at h
    refine ⟨.b true, diskS 0 1 2 n m k r w f (u - 1) pg wn ws, ⟨true, u - 1, rfl, by simp; omega, by rw [if_pos h], rfl⟩, ?_⟩
    have e1 : IntKind.i64.wrap (u - 1) = u - 1 := IntWalk.i64_in _ (by omega)
    rw [e1, hH]
    cbv
  · rename_i h
    simp only [hH, decide_eq_false_iff_not] at h
    cbv
    obtain ⟨b, hb⟩ : ∃ b, b = decide (u = -1) := ⟨_, rfl⟩
    rw [hH, ← hb]
    refine ⟨.b b, diskS 0 1 2 n m k r w f u pg wn ws, ⟨b, u, rfl, by rw [hb]; simp [h], by rw [if_neg h], rfl⟩, ?_⟩
    cbv
theorem has_tri (n m k r w f u q : Int) (pg : Ix → Str) (wn : Ix → Int) (ws : Ix → Str) :
    TriS Try.prog 111 [.pt 0 0, .i .i64 q] (diskS 0 1 2 n m k r w f u pg wn ws) (fun x σ => ∃ b : Bool, x = .b b ∧ (b = true ↔ 0 ≤ q ∧ q < n) ∧ σ = diskS 0 1 2 n m k r w f u pg wn ws) := by
  refine tri_of TT_ok mixed (OR := OR0) (fn := Try.f111) (c := body Try.f111) (by kernel_rfl) (by kernel_rfl) (by kernel_rfl) (by kernel_rfl) (by simp [Try.f111]) fun H Tri hH hTri => ?_
  cbv
  split
  · rename_i h
    simp only [hH, decide_eq_true_eq] at h
    cbv
    obtain ⟨b, hb⟩ : ∃ b, b = decide (q < n) := ⟨_, rfl⟩
    rw [hH, ← hb]
    refine ⟨.b b, diskS 0 1 2 n m k r w f u pg wn ws, ⟨b, rfl, by rw [hb]; simp [h], rfl⟩, ?_⟩
    cbv
  · rename_i h
    simp only [hH, decide_eq_false_iff_not] at h
    cbv
    refine ⟨.b false, diskS 0 1 2 n m k r w f u pg wn ws, ⟨false, rfl, by simp; omega, rfl⟩, ?_⟩
    cbv
theorem write_tri (n m k r w f u q : Int) (s : Str) (pg : Ix → Str) (wn : Ix → Int) (ws : Ix → Str) (hu : -1 ≤ u ∧ u ≤ 9223372036854775807) (hq : 0 ≤ q ∧ q < n) (hs : s.length = 256) (hu2 : 0 < u ∨ u = -1) (hm : 0 ≤ m ∧ m ≤ 1000000000000) (hw : 0 ≤ w ∧ w ≤ 1000000000000) :
    TriS Try.prog 98 [.pt 0 0, .i .i64 q, .s s] (diskS 0 1 2 n m k r w f u pg wn ws) (fun x σ => x = .i .i64 0 ∧ ∃ u', u' = (if 0 < u then u - 1 else u) ∧ σ = diskS 0 1 100 n (m + 1) (m + 1) r (w + 1) f u' pg (fun ix => bif decide (hd ix < m) then wn ix else q) (fun ix => bif decide (hd ix < m) then ws ix else s)) := by
  refine tri_of TT_ok mixed (OR := OR0) (fn := Try.f98) (c := body Try.f98) (by kernel_rfl) (by kernel_rfl) (by kernel_rfl) (by kernel_rfl) (by simp [Try.f98]) fun H Tri hH hTri => ?_
  cbv
  refine ⟨[0, 1, 2], ⟨⟨rfl, rfl⟩, rfl⟩, _, _, ?_, ?_, _, hTri _ _ _ _ (has_tri n m k r w f u q pg wn ws), ?_⟩
  · cbv
  · cbv
  rintro x σ ⟨b, rfl, hb, rfl⟩
  obtain rfl : b = true := hb.2 hq
  cbv
  split
  · rename_i h
    simp [hH, hs] at h
  · rename_i h
    cbv
    refine ⟨[0, 1, 2], ⟨⟨rfl, rfl⟩, rfl⟩, _, _, ?_, ?_, _, hTri _ _ _ _ (step_tri n m k r w f u pg wn ws hu), ?_⟩
    · cbv
    · cbv
    rintro x σ ⟨b, u', rfl, hb, hu', rfl⟩
    obtain rfl : b = true := hb.2 hu2
    cbv
    have e1 : IntKind.i64.wrap (w + 1) = w + 1 := IntWalk.i64_in _ (by omega)
    refine ⟨by rw [hH]; rfl, by rw [hH]; simp; omega, _, _, ⟨rfl, u', hu', rfl⟩, ?_⟩
    rw [e1]
    obtain ⟨m1, hm1⟩ : ∃ m1, m1 = m + 1 := ⟨_, rfl⟩
    obtain ⟨w1, hw1⟩ : ∃ w1, w1 = w + 1 := ⟨_, rfl⟩
    rw [hH, ← hm1, ← hw1, hH]
    cbv
end Go.Proofs.Ytilmhjojbolbeaa.AM

namespace Go.Proofs.Ytilmhjojbolbeaa.AM
open Go
set_option maxRecDepth 100000
/-- an area: its object, its bytes' object -/
def areaS (a o : Nat) (n : Int) (f : Ix → Int) : Sto := [(a, .st [.sl o 0 n 1 false] 193), (o, .ar n [.i .u8 f] 5)]
theorem area_new (n : Int) (hn : 0 ≤ n ∧ n ≤ 4096) : TriS Try.prog 93 [.i .i64 n] [] (fun r σ => ∃ f, f = (fun _ => 0) ∧ r = .tu [.pt 100 0, .i .i64 0] ∧ σ = areaS 100 101 n f) := by
  refine tri_of TT_ok mixed (OR := OR0) (fn := Try.f93) (c := body Try.f93) (by kernel_rfl) (by kernel_rfl) (by kernel_rfl) (by kernel_rfl) (by simp [Try.f93]) fun H Tri hH hTri => ?_
  cbv
  obtain ⟨z, hz⟩ : ∃ z : Ix → Int, z = fun _ => 0 := ⟨_, rfl⟩
  split
  · rename_i h
    simp only [hH, decide_eq_true_eq] at h
    omega
  · rename_i h
    simp only [hH, decide_eq_false_iff_not] at h
    cbv
    split
    · rename_i h
      simp only [hH, decide_eq_true_eq] at h
      omega
    · rename_i h
      simp only [hH, decide_eq_false_iff_not] at h
      cbv
      refine ⟨by rw [hH]; simp [show (TT 184).eb = 1 from rfl]; omega, ?_⟩
      refine ⟨_, _, ⟨z, hz, rfl, rfl⟩, ?_⟩
      rw [← hz]
      cbv
theorem area_part (n at' size : Int) (f : Ix → Int) (hb : 0 ≤ at' ∧ 0 ≤ size ∧ at' + size ≤ n ∧ n ≤ 4096) : TriS Try.prog 131 [.pt 0 0, .i .i64 at', .i .i64 size] (areaS 0 1 n f) (fun r σ => r = .sl 1 at' size 1 true ∧ σ = areaS 0 1 n f) := by
  refine tri_of TT_ok mixed (OR := OR0) (fn := Try.f131) (c := body Try.f131) (by kernel_rfl) (by kernel_rfl) (by kernel_rfl) (by kernel_rfl) (by simp [Try.f131]) fun H Tri hH hTri => ?_
  cbv
  split
  · rename_i h
    simp only [hH, decide_eq_true_eq] at h
    omega
  · rename_i h
    simp only [hH, decide_eq_false_iff_not] at h
    cbv
    split
    · rename_i h
      simp only [hH, decide_eq_true_eq] at h
      omega
    · rename_i h
      simp only [hH, decide_eq_false_iff_not] at h
      cbv
      split
      · rename_i h
        simp only [hH, decide_eq_true_eq] at h
        have h : n < at' := h
        omega
      · rename_i h
        simp only [hH, decide_eq_false_iff_not] at h
        cbv
        have e1 : IntKind.i64.wrap (n - at') = n - at' := IntWalk.i64_in _ (by omega)
        have e2 : IntKind.i64.wrap (at' + size) = at' + size := IntWalk.i64_in _ (by omega)
        split
        · rename_i h
          simp only [hH, decide_eq_true_eq, e1] at h
          have h : n - at' < size := h
          omega
        · rename_i h
          simp only [hH, decide_eq_false_iff_not] at h
          cbv
          rw [e2]
          simp only [hH, Int.zero_add, o0]
          rw [show at' + size - at' = size by omega]
          obtain ⟨u, hu⟩ : ∃ u, u = at' + size := ⟨_, rfl⟩
          refine ⟨by simp; omega, ?_⟩
          refine ⟨_, _, ⟨rfl, rfl⟩, ?_⟩
          cbv
theorem area_number (n at' w : Int) (f : Ix → Int) (hb : 0 ≤ at' ∧ at' + w ≤ n ∧ n ≤ 4096) (hw : w = 1 ∨ w = 2 ∨ w = 4) : TriS Try.prog 130 [.pt 0 0, .i .i64 at', .i .i64 w] (areaS 0 1 n f) (fun r σ => r = .sl 1 at' w 1 true ∧ σ = areaS 0 1 n f) := by
  refine tri_of TT_ok mixed (OR := OR0) (fn := Try.f130) (c := body Try.f130) (by kernel_rfl) (by kernel_rfl) (by kernel_rfl) (by kernel_rfl) (by simp [Try.f130]) fun H Tri hH hTri => ?_
  cbv
  split
  · rename_i h
    simp only [hH, decide_eq_true_eq] at h
    cbv
    split
    · rename_i h2
      simp only [hH, decide_eq_true_eq] at h2
      cbv
      split
      · rename_i h3
        simp only [hH, decide_eq_true_eq] at h3
        omega
      · cbv
        refine ⟨[0, 1], ⟨⟨rfl, rfl⟩, rfl⟩, _, _, ?_, ?_, _, hTri _ _ _ _ (area_part n at' w f ⟨hb.1, by omega, hb.2.1, hb.2.2⟩), ?_⟩
        · cbv
        · cbv
        rintro x σ ⟨rfl, rfl⟩
        cbv
        refine ⟨_, _, ⟨rfl, rfl⟩, ?_⟩
        cbv
    · cbv
      refine ⟨[0, 1], ⟨⟨rfl, rfl⟩, rfl⟩, _, _, ?_, ?_, _, hTri _ _ _ _ (area_part n at' w f ⟨hb.1, by omega, hb.2.1, hb.2.2⟩), ?_⟩
      · cbv
      · cbv
      rintro x σ ⟨rfl, rfl⟩
      cbv
      refine ⟨_, _, ⟨rfl, rfl⟩, ?_⟩
      cbv
  · cbv
    refine ⟨[0, 1], ⟨⟨rfl, rfl⟩, rfl⟩, _, _, ?_, ?_, _, hTri _ _ _ _ (area_part n at' w f ⟨hb.1, by omega, hb.2.1, hb.2.2⟩), ?_⟩
    · cbv
    · cbv
    rintro x σ ⟨rfl, rfl⟩
    cbv
    refine ⟨_, _, ⟨rfl, rfl⟩, ?_⟩
    cbv
/-- a number's bytes -/
def putF (f : Ix → Int) (at' w v : Int) (j : Int) : Int := if at' ≤ j ∧ j < at' + w then IntKind.u8.wrap (shrF .u32 v (8 * (w - 1 - (j - at')))) else f [j]
theorem area_put (n at' w v : Int) (f : Ix → Int) (hb : 0 ≤ at' ∧ at' + w ≤ n ∧ n ≤ 4096) (hw : w = 1 ∨ w = 2 ∨ w = 4) (hv : shrF .u64 (IntKind.u64.wrap v) (8 * w) = 0) :
    TriS Try.prog 94 [.pt 0 0, .i .i64 at', .i .i64 w, .i .u32 v] (areaS 0 1 n f) (fun r σ => ∃ f', (∀ j, f' [j] = putF f at' w v j) ∧ r = .i .i64 0 ∧ σ = areaS 0 1 n f') := by
  refine tri_of TT_ok mixed (OR := OR0) (fn := Try.f94) (c := body Try.f94) (by kernel_rfl) (by kernel_rfl) (by kernel_rfl) (by kernel_rfl) (by simp [Try.f94]) fun H Tri hH hTri => ?_
  cbv
  refine ⟨[0, 1], ⟨⟨rfl, rfl⟩, rfl⟩, _, _, ?_, ?_, _, hTri _ _ _ _ (area_number n at' w f hb hw), ?_⟩
  · cbv
  · cbv
  rintro x σ ⟨rfl, rfl⟩
  cbv
  intro b hbn
  obtain rfl : b = false := by
    cases b with
    | false => rfl
    | true => have := (hbn rfl).1; omega
  cbv
  have e8 : IntKind.i64.wrap (8 * w) = 8 * w := IntWalk.i64_in _ (by omega)
  refine ⟨by rw [hH, hH, e8]; simp; omega, ?_⟩
  split
  · rename_i h
    simp only [hH, decide_eq_true_eq, e8, foldR] at h
    exact absurd hv h
  · clear hv
    cbv
    simp only [hH, e8, foldR]
    obtain ⟨z1, hz1⟩ : ∃ z1, z1 = IntKind.u64.wrap v := ⟨_, rfl⟩
    obtain ⟨z2, hz2⟩ : ∃ z2, z2 = 8 * w := ⟨_, rfl⟩
    rw [← hz1, ← hz2]
    obtain ⟨z3, hz3⟩ : ∃ z3, z3 = shrF .u64 z1 z2 := ⟨_, rfl⟩
    rw [← hz3]
    refine ⟨0, Int × (Ix → Int), fun a => ⟨[(2, .i .i64 w), (3, .i .u32 v), (9, .sl 1 at' w 1 true), (26, .i .i64 w), (27, .i .i64 a.1)], areaS 0 1 n a.2, 300⟩, fun a => 0 ≤ a.1 ∧ a.1 ≤ w ∧ ∀ j, a.2 [j] = if at' ≤ j ∧ j < at' + a.1 then IntKind.u8.wrap (shrF .u32 v (8 * (w - 1 - (j - at')))) else f [j], fun a => (w - a.1).toNat, ⟨(0, f), ⟨by simp, by simp; omega, fun j => by rw [if_neg (by simp)]⟩, ?_⟩, ?_⟩
    · cbv
    · rintro ⟨i, f2⟩ ⟨h0, h1, hf⟩
      simp only at h0 h1 hf
      cbv
      split
      · rename_i h
        simp only [hH, decide_eq_true_eq] at h
        cbv
        have e1 : IntKind.i64.wrap (i + 1) = i + 1 := IntWalk.i64_in _ (by omega)
        have e2 : IntKind.i64.wrap (w - 1) = w - 1 := IntWalk.i64_in _ (by omega)
        have e3 : IntKind.i64.wrap (w - 1 - i) = w - 1 - i := IntWalk.i64_in _ (by omega)
        have e4 : IntKind.i64.wrap (8 * (w - 1 - i)) = 8 * (w - 1 - i) := IntWalk.i64_in _ (by omega)
        simp only [hH, e1, e2, e3, e4, foldR, decide_eq_true h]
        obtain ⟨i2, hi2⟩ : ∃ i2, i2 = i + 1 := ⟨_, rfl⟩
        obtain ⟨y1, hy1⟩ : ∃ y1, y1 = 8 * (w - 1 - i) := ⟨_, rfl⟩
        obtain ⟨y2, hy2⟩ : ∃ y2, y2 = shrF .u32 v y1 := ⟨_, rfl⟩
        obtain ⟨y3, hy3⟩ : ∃ y3, y3 = IntKind.u8.wrap y2 := ⟨_, rfl⟩
        obtain ⟨y4, hy4⟩ : ∃ y4, y4 = w - 1 - i := ⟨_, rfl⟩
        obtain ⟨y5, hy5⟩ : ∃ y5, y5 = w - 1 := ⟨_, rfl⟩
        obtain ⟨y6, hy6⟩ : ∃ y6, y6 = at' + i := ⟨_, rfl⟩
        rw [← hi2, ← hy1, ← hy2, ← hy3, ← hy4, ← hy5, ← hy6]
        obtain ⟨f3, hf3⟩ : ∃ f3 : Ix → Int, f3 = fun ix => bif decide (hd ix = y6) then y3 else f2 ix := ⟨_, rfl⟩
        rw [← hf3]
        refine ⟨by simp; omega, by simp; omega, (i2, f3), ⟨by simp; omega, by simp; omega, fun j => ?_⟩, by simp; omega, ?_⟩
        · simp only
          rw [hf3]
          by_cases e : j = y6
          · have h9 : w - 1 - (j - at') = y4 := by omega
            rw [if_pos (by omega), hy5, h9, hy4, ← hy1, ← hy2, ← hy3]
            simp [AM.hd, e]
          · simp only [AM.hd, e, decide_false, cond_false]
            rw [hf, hy5]
            by_cases h9 : at' ≤ j ∧ j < at' + i
            · rw [if_pos h9, if_pos (by omega)]
            · rw [if_neg h9, if_neg (by omega)]
        · cbv
      · rename_i h
        simp only [hH, decide_eq_false_iff_not] at h
        have hi : i = w := by omega
        cbv
        refine ⟨_, _, ⟨f2, fun j => by rw [hf, hi]; rfl, rfl, rfl⟩, ?_⟩
        cbv
/-- a text's bytes -/
def putT (f : Ix → Int) (at' : Int) (s : Str) (j : Int) : Int := if at' ≤ j ∧ j < at' + s.length then ((s.getD (j - at').toNat 0).toNat : Int) else f [j]
theorem area_putText (n at' : Int) (s : Str) (f : Ix → Int) (hb : 0 ≤ at' ∧ at' + s.length ≤ n ∧ n ≤ 4096) (hn : 0 < n) :
    TriS Try.prog 95 [.pt 0 0, .i .i64 at', .s s] (areaS 0 1 n f) (fun r σ => ∃ f', (∀ j, f' [j] = putT f at' s j) ∧ r = .i .i64 0 ∧ σ = areaS 0 1 n f') := by
  refine tri_of TT_ok mixed (OR := OR0) (fn := Try.f95) (c := body Try.f95) (by kernel_rfl) (by kernel_rfl) (by kernel_rfl) (by kernel_rfl) (by simp [Try.f95]) fun H Tri hH hTri => ?_
  cbv
  obtain ⟨L, hL⟩ : ∃ L : Int, L = NatCast.natCast s.length := ⟨_, rfl⟩
  obtain ⟨bf, hbf⟩ : ∃ bf : Ix → Int, bf = fun ix => NatCast.natCast (s.getD (hd ix).toNat 0).toNat := ⟨_, rfl⟩
  rw [hH, ← hL]
  obtain ⟨hL1, hL2, hL3⟩ := castN hL
  refine ⟨[0, 1], ⟨⟨rfl, rfl⟩, rfl⟩, _, _, ?_, ?_, _, hTri _ _ _ _ (area_part n at' L f ⟨hb.1, hL3, by omega, hb.2.2⟩), ?_⟩
  · cbv
  · cbv
  rintro x σ ⟨rfl, rfl⟩
  cbv
  intro b hbn
  obtain rfl : b = false := by
    cases b with
    | false => rfl
    | true => have := (hbn rfl).2; omega
  cbv
  obtain ⟨f', hf'⟩ : ∃ f' : Ix → Int, f' = fun ix => bif decide (at' ≤ hd ix ∧ hd ix < H Int (at' + cnt2 (H Int (NatCast.natCast s.length)) L)) then NatCast.natCast (s.getD (hd ((hd ix + H Int (-at')) :: ix.tail)).toNat 0).toNat else f ix := ⟨_, rfl⟩
  rw [← hf']
  refine ⟨_, _, ⟨f', fun j => ?_, rfl, rfl⟩, ?_⟩
  · have hc : cnt2 L L = L := by unfold cnt2; split <;> omega
    rw [hf']
    simp only [hH, ← hL, hc, AM.hd, putT]
    by_cases h9 : at' ≤ j ∧ j < at' + L
    · rw [if_pos (by omega), decide_eq_true h9, cond_true, show j + -at' = j - at' by omega]
    · rw [if_neg (by omega), decide_eq_false h9, cond_false]
  · cbv
theorem area_bytes (n : Int) (f : Ix → Int) : TriS Try.prog 96 [.pt 0 0] (areaS 0 1 n f) (fun r σ => ∃ s, s = bytesOf n f ∧ r = .s s ∧ σ = areaS 0 1 n f) := by
  refine tri_of TT_ok mixed (OR := OR0) (fn := Try.f96) (c := body Try.f96) (by kernel_rfl) (by kernel_rfl) (by kernel_rfl) (by kernel_rfl) (by simp [Try.f96]) fun H Tri hH hTri => ?_
  cbv
  simp only [hH]
  have e : (bytesOf n fun ix => f ((hd ix + 0) :: ix.tail)) = bytesOf n f := by
    unfold bytesOf
    simp [AM.hd]
  rw [e]
  obtain ⟨s, hs⟩ : ∃ s, s = bytesOf n f := ⟨_, rfl⟩
  rw [← hs]
  refine ⟨_, _, ⟨s, rfl, rfl, rfl⟩, ?_⟩
  cbv
/-! reading: an area made of a text -/
def textS (a : Nat) (n : Int) (f : Ix → Int) : Sto := [(a, .st [.l n [.i .u8 f] false] 193)]
theorem area_of (s : Str) (hs : s.length ≤ 4096) : TriS Try.prog 107 [.s s] [] (fun r σ => ∃ f, (∀ j : Int, f [j] = ((s.getD j.toNat 0).toNat : Int)) ∧ r = .tu [.pt 100 0, .i .i64 0] ∧ ∃ L, L = (s.length : Int) ∧ σ = textS 100 L f) := by
  refine tri_of TT_ok mixed (OR := OR0) (fn := Try.f107) (c := body Try.f107) (by kernel_rfl) (by kernel_rfl) (by kernel_rfl) (by kernel_rfl) (by simp [Try.f107]) fun H Tri hH hTri => ?_
  cbv
  obtain ⟨L, hL⟩ : ∃ L : Int, L = NatCast.natCast s.length := ⟨_, rfl⟩
  obtain ⟨bf, hbf⟩ : ∃ bf : Ix → Int, bf = fun ix => NatCast.natCast (s.getD (hd ix).toNat 0).toNat := ⟨_, rfl⟩
  obtain ⟨hL1, hL2, hL3⟩ := castN hL
  split
  · rename_i h
    simp only [hH, decide_eq_true_eq, ← hL] at h
    have h : 4096 < L := h
    omega
  · cbv
    rw [hH, ← hL, ← hbf]
    refine ⟨_, _, ⟨bf, fun j => by rw [hbf]; rfl, rfl, L, rfl, rfl⟩, ?_⟩
    cbv
    simp
theorem text_part (n at' size : Int) (f : Ix → Int) (hb : 0 ≤ at' ∧ 0 ≤ size ∧ at' + size ≤ n ∧ n ≤ 4096) : TriS Try.prog 131 [.pt 0 0, .i .i64 at', .i .i64 size] (textS 0 n f) (fun r σ => ∃ f', (∀ j, f' [j] = f [j + at']) ∧ r = .l size [.i .u8 f'] true ∧ σ = textS 0 n f) := by
  refine tri_of TT_ok mixed (OR := OR0) (fn := Try.f131) (c := body Try.f131) (by kernel_rfl) (by kernel_rfl) (by kernel_rfl) (by kernel_rfl) (by simp [Try.f131]) fun H Tri hH hTri => ?_
  cbv
  split
  · rename_i h
    simp only [hH, decide_eq_true_eq] at h
    omega
  · rename_i h
    simp only [hH, decide_eq_false_iff_not] at h
    cbv
    split
    · rename_i h
      simp only [hH, decide_eq_true_eq] at h
      omega
    · rename_i h
      simp only [hH, decide_eq_false_iff_not] at h
      cbv
      split
      · rename_i h
        simp only [hH, decide_eq_true_eq] at h
        have h : n < at' := h
        omega
      · rename_i h
        simp only [hH, decide_eq_false_iff_not] at h
        cbv
        have e1 : IntKind.i64.wrap (n - at') = n - at' := IntWalk.i64_in _ (by omega)
        have e2 : IntKind.i64.wrap (at' + size) = at' + size := IntWalk.i64_in _ (by omega)
        split
        · rename_i h
          simp only [hH, decide_eq_true_eq, e1] at h
          have h : n - at' < size := h
          omega
        · rename_i h
          simp only [hH, decide_eq_false_iff_not] at h
          cbv
          rw [e2]
          simp only [hH, Int.zero_add, o0]
          rw [show at' + size - at' = size by omega]
          obtain ⟨u, hu⟩ : ∃ u, u = at' + size := ⟨_, rfl⟩
          obtain ⟨f', hf'⟩ : ∃ f' : Ix → Int, f' = fun ix => f ((hd ix + at') :: ix.tail) := ⟨_, rfl⟩
          rw [← hf']
          refine .inl ⟨by simp; omega, ?_⟩
          refine ⟨_, _, ⟨f', fun j => by rw [hf']; rfl, rfl, rfl⟩, ?_⟩
          cbv
          simp
/-- of no bytes: they are none, but not nil -/
theorem text_part0 (n at' : Int) (f : Ix → Int) (hb : 0 ≤ at' ∧ at' < n ∧ n ≤ 4096) : TriS Try.prog 131 [.pt 0 0, .i .i64 at', .i .i64 0] (textS 0 n f) (fun r σ => ∃ a : Addr, r = .v (.slice (some a) 0 0) ∧ σ = textS 0 n f) := by
  refine tri_of TT_ok mixed (OR := OR0) (fn := Try.f131) (c := body Try.f131) (by kernel_rfl) (by kernel_rfl) (by kernel_rfl) (by kernel_rfl) (by simp [Try.f131]) fun H Tri hH hTri => ?_
  cbv
  split
  · rename_i h
    simp only [hH, decide_eq_true_eq] at h
    omega
  · rename_i h
    simp only [hH, decide_eq_false_iff_not] at h
    cbv
    split
    · rename_i h
      simp only [hH, decide_eq_true_eq] at h
      omega
    · rename_i h
      simp only [hH, decide_eq_false_iff_not] at h
      cbv
      split
      · rename_i h
        simp only [hH, decide_eq_true_eq] at h
        have h : n < at' := h
        omega
      · rename_i h
        simp only [hH, decide_eq_false_iff_not] at h
        cbv
        have e1 : IntKind.i64.wrap (n - at') = n - at' := IntWalk.i64_in _ (by omega)
        have e2 : IntKind.i64.wrap (at' + 0) = at' + 0 := IntWalk.i64_in _ (by omega)
        split
        · rename_i h
          simp only [hH, decide_eq_true_eq, e1] at h
          have h : n - at' < 0 := h
          omega
        · rename_i h
          simp only [hH, decide_eq_false_iff_not] at h
          cbv
          rw [e2]
          refine .inr ⟨by simp [hH, o0]; omega, fun a => ⟨_, _, ⟨a, rfl, rfl⟩, ?_⟩⟩
          cbv
          simp
theorem text_number (n at' w : Int) (f : Ix → Int) (hb : 0 ≤ at' ∧ at' + w ≤ n ∧ n ≤ 4096) (hw : w = 1 ∨ w = 2 ∨ w = 4) : TriS Try.prog 130 [.pt 0 0, .i .i64 at', .i .i64 w] (textS 0 n f) (fun r σ => ∃ f', (∀ j, f' [j] = f [j + at']) ∧ r = .l w [.i .u8 f'] true ∧ σ = textS 0 n f) := by
  refine tri_of TT_ok mixed (OR := OR0) (fn := Try.f130) (c := body Try.f130) (by kernel_rfl) (by kernel_rfl) (by kernel_rfl) (by kernel_rfl) (by simp [Try.f130]) fun H Tri hH hTri => ?_
  cbv
  split
  · rename_i h
    simp only [hH, decide_eq_true_eq] at h
    cbv
    split
    · rename_i h2
      simp only [hH, decide_eq_true_eq] at h2
      cbv
      split
      · rename_i h3
        simp only [hH, decide_eq_true_eq] at h3
        omega
      · cbv
        refine ⟨[0], ⟨⟨rfl, rfl⟩, rfl⟩, _, _, ?_, ?_, _, hTri _ _ _ _ (text_part n at' w f ⟨hb.1, by omega, hb.2.1, hb.2.2⟩), ?_⟩
        · cbv
        · cbv
        rintro x σ ⟨f1, hf1, rfl, rfl⟩
        cbv
        refine ⟨_, _, ⟨f1, hf1, rfl, rfl⟩, ?_⟩
        cbv
        simp
    · cbv
      refine ⟨[0], ⟨⟨rfl, rfl⟩, rfl⟩, _, _, ?_, ?_, _, hTri _ _ _ _ (text_part n at' w f ⟨hb.1, by omega, hb.2.1, hb.2.2⟩), ?_⟩
      · cbv
      · cbv
      rintro x σ ⟨f1, hf1, rfl, rfl⟩
      cbv
      refine ⟨_, _, ⟨f1, hf1, rfl, rfl⟩, ?_⟩
      cbv
      simp
  · cbv
    refine ⟨[0], ⟨⟨rfl, rfl⟩, rfl⟩, _, _, ?_, ?_, _, hTri _ _ _ _ (text_part n at' w f ⟨hb.1, by omega, hb.2.1, hb.2.2⟩), ?_⟩
    · cbv
    · cbv
    rintro x σ ⟨f1, hf1, rfl, rfl⟩
    cbv
    refine ⟨_, _, ⟨f1, hf1, rfl, rfl⟩, ?_⟩
    cbv
    simp
/-- a number out of its bytes -/
def getF (f : Ix → Int) (at' : Int) : Nat → Int
  | 0 => 0
  | k + 1 => orF .u32 (shlF .u32 (getF f at' k) 8) (IntKind.u32.wrap (f [at' + k]))
theorem area_get (n at' w : Int) (f : Ix → Int) (hb : 0 ≤ at' ∧ at' + w ≤ n ∧ n ≤ 4096) (hw : w = 1 ∨ w = 2 ∨ w = 4) : TriS Try.prog 108 [.pt 0 0, .i .i64 at', .i .i64 w] (textS 0 n f) (fun r σ => ∃ v, v = getF f at' w.toNat ∧ r = .tu [.i .u32 v, .i .i64 0] ∧ σ = textS 0 n f) := by
  refine tri_of TT_ok mixed (OR := OR0) (fn := Try.f108) (c := body Try.f108) (by kernel_rfl) (by kernel_rfl) (by kernel_rfl) (by kernel_rfl) (by simp [Try.f108]) fun H Tri hH hTri => ?_
  cbv
  refine ⟨[0], ⟨⟨rfl, rfl⟩, rfl⟩, _, _, ?_, ?_, _, hTri _ _ _ _ (text_number n at' w f hb hw), ?_⟩
  · cbv
  · cbv
  rintro x σ ⟨f1, hf1, rfl, rfl⟩
  cbv
  intro b hbn
  obtain rfl : b = false := by
    cases b with
    | false => rfl
    | true => have := hbn rfl; omega
  cbv
  refine ⟨0, Int × Int, fun a => ⟨[(9, .i .u32 a.2), (18, .l w [.i .u8 f1] true), (19, .i .i64 w), (20, .i .i64 a.1)], textS 0 n f, 300⟩, fun a => 0 ≤ a.1 ∧ a.1 ≤ w ∧ a.2 = getF f at' a.1.toNat, fun a => (w - a.1).toNat, ⟨(0, 0), ⟨by simp, by simp; omega, rfl⟩, ?_⟩, ?_⟩
  · cbv
    simp
  · rintro ⟨i, v⟩ ⟨h0, h1, hv⟩
    simp only at h0 h1 hv
    cbv
    split
    · rename_i h
      simp only [hH, decide_eq_true_eq] at h
      cbv
      have e1 : IntKind.i64.wrap (i + 1) = i + 1 := IntWalk.i64_in _ (by omega)
      simp only [hH, e1, foldL, foldO, decide_eq_true h]
      obtain ⟨i2, hi2⟩ : ∃ i2, i2 = i + 1 := ⟨_, rfl⟩
      obtain ⟨y1, hy1⟩ : ∃ y1, y1 = shlF .u32 v 8 := ⟨_, rfl⟩
      obtain ⟨y2, hy2⟩ : ∃ y2, y2 = IntKind.u32.wrap (f1 [i]) := ⟨_, rfl⟩
      rw [← hi2, ← hy1, ← hy2]
      obtain ⟨y3, hy3⟩ : ∃ y3, y3 = orF .u32 y1 y2 := ⟨_, rfl⟩
      rw [← hy3]
      refine ⟨by simp; omega, by simp, (i2, y3), ⟨by simp; omega, by simp; omega, ?_⟩, by simp; omega, ?_⟩
      · simp only
        rw [hy3, hy1, hy2, show i2.toNat = i.toNat + 1 by omega, getF, hf1, hv, Int.toNat_of_nonneg h0, Int.add_comm i at']
      · cbv
        simp
    · rename_i h
      simp only [hH, decide_eq_false_iff_not] at h
      have hi : i = w := by omega
      cbv
      refine ⟨_, _, ⟨v, by rw [hv, hi], rfl, rfl⟩, ?_⟩
      cbv
      simp
theorem area_getText0 (n at' : Int) (f : Ix → Int) (hb : 0 ≤ at' ∧ at' < n ∧ n ≤ 4096) : TriS Try.prog 115 [.pt 0 0, .i .i64 at', .i .i64 0] (textS 0 n f) (fun r σ => r = .tu [.s [], .i .i64 0] ∧ σ = textS 0 n f) := by
  refine tri_of TT_ok mixed (OR := OR0) (fn := Try.f115) (c := body Try.f115) (by kernel_rfl) (by kernel_rfl) (by kernel_rfl) (by kernel_rfl) (by simp [Try.f115]) fun H Tri hH hTri => ?_
  cbv
  refine ⟨[0], ⟨⟨rfl, rfl⟩, rfl⟩, _, _, ?_, ?_, _, hTri _ _ _ _ (text_part0 n at' f hb), ?_⟩
  · cbv
  · cbv
  rintro x σ ⟨a, rfl, rfl⟩
  cbv
  refine ⟨_, _, ⟨rfl, rfl⟩, ?_⟩
  cbv
  simp
theorem area_getText (n at' size : Int) (f : Ix → Int) (hb : 0 ≤ at' ∧ 0 < size ∧ at' + size ≤ n ∧ n ≤ 4096) : TriS Try.prog 115 [.pt 0 0, .i .i64 at', .i .i64 size] (textS 0 n f) (fun r σ => ∃ f' s, (∀ j, f' [j] = f [j + at']) ∧ s = bytesOf size f' ∧ r = .tu [.s s, .i .i64 0] ∧ σ = textS 0 n f) := by
  refine tri_of TT_ok mixed (OR := OR0) (fn := Try.f115) (c := body Try.f115) (by kernel_rfl) (by kernel_rfl) (by kernel_rfl) (by kernel_rfl) (by simp [Try.f115]) fun H Tri hH hTri => ?_
  cbv
  refine ⟨[0], ⟨⟨rfl, rfl⟩, rfl⟩, _, _, ?_, ?_, _, hTri _ _ _ _ (text_part n at' size f ⟨hb.1, by omega, hb.2.2⟩), ?_⟩
  · cbv
  · cbv
  rintro x σ ⟨f1, hf1, rfl, rfl⟩
  cbv
  intro b hbn
  obtain rfl : b = false := by
    cases b with
    | false => rfl
    | true => have := hbn rfl; omega
  cbv
  simp only [hH]
  obtain ⟨s, hs⟩ : ∃ s, s = bytesOf size f1 := ⟨_, rfl⟩
  rw [← hs]
  refine ⟨_, _, ⟨f1, s, hf1, hs, rfl, rfl⟩, ?_⟩
  cbv
  simp
theorem area_getTextA (n at' size : Int) (f : Ix → Int) (hb : 0 ≤ at' ∧ 0 ≤ size ∧ at' + size ≤ n ∧ at' < n ∧ n ≤ 4096) : TriS Try.prog 115 [.pt 0 0, .i .i64 at', .i .i64 size] (textS 0 n f) (fun r σ => ∃ f' s, (∀ j, f' [j] = f [j + at']) ∧ s = bytesOf size f' ∧ r = .tu [.s s, .i .i64 0] ∧ σ = textS 0 n f) := by
  by_cases h : 0 < size
  · exact area_getText n at' size f ⟨hb.1, h, hb.2.2.1, hb.2.2.2.2⟩
  · obtain rfl : size = 0 := by omega
    have h0 := area_getText0 n at' f ⟨hb.1, hb.2.2.2.1, hb.2.2.2.2⟩
    refine ⟨h0.1, fun X g w vs hX hob hvs => (h0.2 X g w vs hX hob hvs).mono ?_⟩
    rintro e w' ⟨r, σ', g', v, ⟨rfl, rfl⟩, rest⟩
    exact ⟨_, _, g', v, ⟨fun ix => f ((hd ix + at') :: ix.tail), [], fun j => rfl, rfl, rfl, rfl⟩, rest⟩
end Go.Proofs.Ytilmhjojbolbeaa.AM

namespace Go.Proofs.Ytilmhjojbolbeaa.AM
open Go
set_option maxRecDepth 100000
/-- one step of the sum -/
def stepF (n : Int) : Int := if andF .u32 n 1 = 1 then xorF .u32 (shrF .u32 n 1) 3988292384 else shrF .u32 n 1
theorem sum_step (n : Int) : TriS Try.prog 168 [.i .u32 n] [] (fun r σ => ∃ v, v = stepF n ∧ r = .i .u32 v ∧ σ = []) := by
  refine tri_of TT_ok mixed (OR := OR0) (fn := Try.f168) (c := body Try.f168) (by kernel_rfl) (by kernel_rfl) (by kernel_rfl) (by kernel_rfl) (by simp [Try.f168]) fun H Tri hH hTri => ?_
  cbv
  split
  · rename_i h
    simp only [hH, decide_eq_true_eq] at h
    cbv
    refine ⟨by rw [hH]; rfl, ?_⟩
    simp only [hH]
    exact fin_i ⟨_, (if_pos h).symm, rfl, rfl⟩
  · rename_i h
    simp only [hH, decide_eq_false_iff_not] at h
    cbv
    refine ⟨by rw [hH]; rfl, ?_⟩
    simp only [hH]
    exact fin_i ⟨_, (if_neg h).symm, rfl, rfl⟩
def iterF (f : Int → Int) : Nat → Int → Int
  | 0, n => n
  | k + 1, n => f (iterF f k n)
def tabF (j : Int) : Int := iterF stepF 8 (IntKind.u32.wrap j)
theorem sum_table : TriS Try.prog 171 [] [] (fun r σ => ∃ f, (∀ j : Int, 0 ≤ j → j < 256 → f [j] = tabF j) ∧ r = .av .u32 256 f ∧ σ = []) := by
  refine tri_of TT_ok mixed (OR := OR0) (fn := Try.f171) (c := body Try.f171) (by kernel_rfl) (by kernel_rfl) (by kernel_rfl) (by kernel_rfl) (by simp [Try.f171]) fun H Tri hH hTri => ?_
  cbv
  refine ⟨0, Int × (Ix → Int), fun a => ⟨[(0, .pt 100 0), (3, .i .i64 a.1)], [(100, .ar (Int.ofNat 256) [.i .u32 a.2] 232)], 300⟩, fun a => 0 ≤ a.1 ∧ a.1 ≤ 256 ∧ ∀ j : Int, 0 ≤ j → j < a.1 → a.2 [j] = tabF j, fun a => (256 - a.1).toNat, ⟨(0, fun _ => 0), ⟨by simp, by simp, fun j h1 h2 => by omega⟩, ?_⟩, ?_⟩
  · cbv
  · rintro ⟨i, f⟩ ⟨h0, h1, hf⟩
    simp only at h0 h1 hf
    cbv
    split
    · rename_i h
      simp only [hH, decide_eq_true_eq] at h
      cbv
      simp only [hH, decide_eq_true h]
      obtain ⟨n0, hn0⟩ : ∃ n0, n0 = IntKind.u32.wrap i := ⟨_, rfl⟩
      rw [← hn0]
      refine ⟨0, Int × Int, fun a => ⟨[(0, .pt 100 0), (1, .i .i64 i), (2, .i .u32 a.2), (3, .i .i64 i), (8, .i .i64 a.1)], [(100, .ar (Int.ofNat 256) [.i .u32 f] 232)], 400⟩, fun a => 0 ≤ a.1 ∧ a.1 ≤ 8 ∧ a.2 = iterF stepF a.1.toNat n0, fun a => (8 - a.1).toNat, ⟨(0, n0), ⟨by simp, by simp, rfl⟩, ?_⟩, ?_⟩
      · cbv
      · rintro ⟨k, v⟩ ⟨k0, k1, hv⟩
        simp only at k0 k1 hv
        cbv
        split
        · rename_i hk
          simp only [hH, decide_eq_true_eq] at hk
          cbv
          refine ⟨[], ⟨⟨rfl, rfl⟩, rfl⟩, _, _, ?_, ?_, _, hTri _ _ _ _ (sum_step v), ?_⟩
          · cbv
          · cbv
          rintro x σ ⟨v1, hv1, rfl, rfl⟩
          cbv
          have e1 : IntKind.i64.wrap (k + 1) = k + 1 := IntWalk.i64_in _ (by omega)
          rw [e1]
          obtain ⟨k2, hk2⟩ : ∃ k2, k2 = k + 1 := ⟨_, rfl⟩
          simp only [hH, decide_eq_true hk]
          rw [← hk2]
          refine ⟨(k2, v1), ⟨by simp; omega, by simp; omega, ?_⟩, by simp; omega, ?_⟩
          · simp only
            rw [hv1, show k2.toNat = k.toNat + 1 by omega, iterF, hv]
          · cbv
        · rename_i hk
          simp only [hH, decide_eq_false_iff_not] at hk
          have hk8 : k = 8 := by omega
          cbv
          refine ⟨by rw [hH]; simp; omega, ?_⟩
          have e1 : IntKind.i64.wrap (i + 1) = i + 1 := IntWalk.i64_in _ (by omega)
          rw [e1]
          obtain ⟨i2, hi2⟩ : ∃ i2, i2 = i + 1 := ⟨_, rfl⟩
          simp only [hH, decide_eq_false hk]
          obtain ⟨f1, hf1⟩ : ∃ f1 : Ix → Int, f1 = fun ix => bif decide (hd ix = i) then v else f ix := ⟨_, rfl⟩
          rw [← hi2, ← hf1]
          refine ⟨(i2, f1), ⟨by simp; omega, by simp; omega, fun j j0 j1 => ?_⟩, by simp; omega, ?_⟩
          · simp only at j1 ⊢
            rw [hf1]
            by_cases e : j = i
            · subst e; simp [AM.hd, hv, hk8, hn0, tabF]
            · simp [AM.hd, e]; exact hf j j0 (by omega)
          · cbv
    · rename_i h
      simp only [hH, decide_eq_false_iff_not] at h
      cbv
      exact fin_av ⟨f, fun j j0 j1 => hf j j0 (by omega), rfl, rfl⟩
/-- the sum, a byte on -/
def onB (a c : Int) : Int := xorF .u32 (shrF .u32 a 8) (tabF (xorF .u8 (IntKind.u8.wrap a) c))
def onF (n : Int) (s : Str) : Int := s.foldl (fun a c => onB a (c.toNat : Int)) n
theorem sum_on (n : Int) (s : Str) (hs : s.length ≤ 1000000000) : TriS Try.prog 155 [.i .u32 n, .s s] [] (fun r σ => ∃ v, v = onF n s ∧ r = .i .u32 v ∧ σ = []) := by
  refine tri_of TT_ok mixed (OR := OR0) (fn := Try.f155) (c := body Try.f155) (by kernel_rfl) (by kernel_rfl) (by kernel_rfl) (by kernel_rfl) (by simp [Try.f155]) fun H Tri hH hTri => ?_
  cbv
  refine ⟨[], ⟨⟨rfl, rfl⟩, rfl⟩, _, _, ?_, ?_, _, hTri _ _ _ _ sum_table, ?_⟩
  · cbv
  · cbv
  rintro x σ ⟨f, hf, rfl, rfl⟩
  cbv
  obtain ⟨L, hL⟩ : ∃ L : Int, L = NatCast.natCast s.length := ⟨_, rfl⟩
  obtain ⟨bf, hbf⟩ : ∃ bf : Ix → Int, bf = fun ix => NatCast.natCast (s.getD (hd ix).toNat 0).toNat := ⟨_, rfl⟩
  rw [hH, ← hL, ← hbf]
  obtain ⟨hL', hL2, hL3⟩ := castN hL
  clear hL
  refine ⟨0, Int × Int, fun a => ⟨[(0, .i .u32 a.2), (5, .pt 120 0), (10, .l L [.i .u8 bf] false), (11, .i .i64 L), (12, .i .i64 a.1)], [(120, .ar (Int.ofNat 256) [.i .u32 f] 232)], 300⟩, fun a => 0 ≤ a.1 ∧ a.1 ≤ L ∧ a.2 = onF n (s.take a.1.toNat), fun a => (L - a.1).toNat, ⟨(0, n), ⟨by simp, by simp; omega, rfl⟩, ?_⟩, ?_⟩
  · cbv
    simp
  · rintro ⟨i, v⟩ ⟨h0, h1, hv⟩
    simp only at h0 h1 hv
    cbv
    split
    · rename_i h
      simp only [hH, decide_eq_true_eq] at h
      cbv
      simp only [hH, decide_eq_true h, foldX, foldR]
      obtain ⟨w8, hw8⟩ : ∃ w8, w8 = IntKind.u8.wrap v := ⟨_, rfl⟩
      obtain ⟨v2, hv2⟩ : ∃ v2, v2 = shrF .u32 v 8 := ⟨_, rfl⟩
      rw [← hw8, ← hv2]
      obtain ⟨y, hy⟩ : ∃ y, y = xorF .u8 w8 (bf [i]) := ⟨_, rfl⟩
      rw [← hy]
      obtain ⟨v1, hv1⟩ : ∃ v1, v1 = xorF .u32 v2 (f [y]) := ⟨_, rfl⟩
      have e1 : IntKind.i64.wrap (i + 1) = i + 1 := IntWalk.i64_in _ (by omega)
      obtain ⟨i2, hi2⟩ : ∃ i2, i2 = i + 1 := ⟨_, rfl⟩
      rw [← hv1, e1, ← hi2]
      have hyr : 0 ≤ y ∧ y < 256 := by rw [hy]; exact wrapU (k := .u8) (.inl rfl) _
      refine ⟨by simp; omega, by simp, by simpa using hyr, (i2, v1), ⟨by simp; omega, by simp; omega, ?_⟩, by simp; omega, ?_⟩
      · simp only
        have hit : i.toNat < s.length := by omega
        rw [hv1, hf y hyr.1 hyr.2, hy, hw8, hv2, show i2.toNat = i.toNat + 1 by omega, List.take_add_one, List.getElem?_eq_getElem hit, onF, List.foldl_append, hv, onF, hbf]
        simp [onB, AM.hd, hit]
      · cbv
        simp
    · rename_i h
      simp only [hH, decide_eq_false_iff_not] at h
      have hi : i = L := by omega
      cbv
      exact fin_i ⟨_, by rw [hv, hi, hL', Int.toNat_natCast, List.take_length], rfl, rfl⟩
end Go.Proofs.Ytilmhjojbolbeaa.AM

namespace Go.Proofs.Ytilmhjojbolbeaa.AM
open Go
set_option maxRecDepth 100000
def sumF (s : Str) : Int := xorF .u32 (onF 4294967295 s) 4294967295
theorem sum_sum (s : Str) (hs : s.length ≤ 1000000000) : TriS Try.prog 134 [.s s] [] (fun r σ => ∃ v, v = sumF s ∧ r = .i .u32 v ∧ σ = []) := by
  refine tri_of TT_ok mixed (OR := OR0) (fn := Try.f134) (c := body Try.f134) (by kernel_rfl) (by kernel_rfl) (by kernel_rfl) (by kernel_rfl) (by simp [Try.f134]) fun H Tri hH hTri => ?_
  cbv
  refine ⟨[], ⟨⟨rfl, rfl⟩, rfl⟩, _, _, ?_, ?_, _, hTri _ _ _ _ (sum_on 4294967295 s hs), ?_⟩
  · cbv
  · cbv
  rintro x σ ⟨v, hv, rfl, rfl⟩
  cbv
  simp only [hH, foldX]
  exact fin_i ⟨_, by rw [hv]; rfl, rfl, rfl⟩
/-- a matrix times a column -/
def ofF (m : Int → Int) (n : Int) : Nat → Int
  | 0 => 0
  | k + 1 => if andF .u32 (shrF .u32 n k) 1 = 1 then xorF .u32 (ofF m n k) (m k) else ofF m n k
theorem ofF_congr {m m' : Int → Int} (n : Int) : ∀ (k : Nat), (∀ j : Int, 0 ≤ j → j < k → m j = m' j) → ofF m n k = ofF m' n k
  | 0, _ => rfl
  | k + 1, h => by
    simp only [ofF]
    rw [ofF_congr n k (fun j h0 h1 => h j h0 (by omega)), h k (by omega) (by omega)]
theorem sum_of (m : Ix → Int) (n : Int) : TriS Try.prog 170 [.pt 0 0, .i .u32 n] [(0, .ar (Int.ofNat 32) [.i .u32 m] 229)] (fun r σ => ∃ v, v = ofF (fun j => m [j]) n 32 ∧ r = .i .u32 v ∧ σ = [(0, .ar (Int.ofNat 32) [.i .u32 m] 229)]) := by
  refine tri_of TT_ok mixed (OR := OR0) (fn := Try.f170) (c := body Try.f170) (by kernel_rfl) (by kernel_rfl) (by kernel_rfl) (by kernel_rfl) (by simp [Try.f170]) fun H Tri hH hTri => ?_
  cbv
  refine ⟨0, Int × Int, fun a => ⟨[(0, .pt 0 0), (1, .i .u32 n), (5, .i .u32 a.2), (7, .i .i64 a.1)], [(0, .ar (Int.ofNat 32) [.i .u32 m] 229)], 300⟩, fun a => 0 ≤ a.1 ∧ a.1 ≤ 32 ∧ a.2 = ofF (fun j => m [j]) n a.1.toNat, fun a => (32 - a.1).toNat, ⟨(0, 0), ⟨by simp, by simp, rfl⟩, ?_⟩, ?_⟩
  · cbv
  · rintro ⟨i, v⟩ ⟨h0, h1, hv⟩
    simp only at h0 h1 hv
    cbv
    split
    · rename_i h
      simp only [hH, decide_eq_true_eq] at h
      cbv
      refine ⟨by rw [hH]; simp; omega, ?_⟩
      have e1 : IntKind.i64.wrap (i + 1) = i + 1 := IntWalk.i64_in _ (by omega)
      obtain ⟨i2, hi2⟩ : ∃ i2, i2 = i + 1 := ⟨_, rfl⟩
      have hi3 : i2.toNat = i.toNat + 1 := by omega
      split
      · rename_i hq
        simp only [hH, foldA, foldR, decide_eq_true_eq] at hq
        cbv
        obtain ⟨v1, hv1⟩ : ∃ v1, v1 = xorF .u32 v (m [i]) := ⟨_, rfl⟩
        simp only [hH, foldX, foldA, foldR, decide_eq_true h, decide_eq_true hq, hq, e1]
        obtain ⟨z, hz⟩ : ∃ z, z = shrF .u32 n i := ⟨_, rfl⟩
        rw [← hv1, ← hi2, ← hz]
        refine ⟨by simp; omega, (i2, v1), ⟨by simp; omega, by simp; omega, ?_⟩, by simp; omega, ?_⟩
        · simp only
          rw [hi3, ofF, Int.toNat_of_nonneg h0, if_pos hq, hv1, hv]
        · cbv
      · rename_i hq
        simp only [hH, foldA, foldR, decide_eq_false_iff_not] at hq
        cbv
        simp only [hH, foldX, foldA, foldR, decide_eq_true h, decide_eq_false hq, e1]
        obtain ⟨z, hz⟩ : ∃ z, z = shrF .u32 n i := ⟨_, rfl⟩
        rw [← hi2, ← hz]
        obtain ⟨y, hy⟩ : ∃ y, y = andF .u32 z 1 := ⟨_, rfl⟩
        rw [← hy]
        refine ⟨(i2, v), ⟨by simp; omega, by simp; omega, ?_⟩, by simp; omega, ?_⟩
        · simp only
          rw [hi3, ofF, Int.toNat_of_nonneg h0, if_neg hq, hv]
        · cbv
    · rename_i h
      simp only [hH, decide_eq_false_iff_not] at h
      have hi : i.toNat = 32 := by omega
      cbv
      refine ⟨_, _, ⟨v, by rw [hv, hi], rfl, rfl⟩, ?_⟩
      cbv
theorem sum_twice (m : Ix → Int) : TriS Try.prog 169 [.av .u32 32 m] [] (fun r σ => ∃ f, (∀ j : Int, 0 ≤ j → j < 32 → f [j] = ofF (fun j => m [j]) (m [j]) 32) ∧ r = .av .u32 32 f ∧ σ = []) := by
  refine tri_of TT_ok mixed (OR := OR0) (fn := Try.f169) (c := body Try.f169) (by kernel_rfl) (by kernel_rfl) (by kernel_rfl) (by kernel_rfl) (by simp [Try.f169]) fun H Tri hH hTri => ?_
  cbv
  obtain ⟨z, hz⟩ : ∃ z : Ix → Int, z = fun _ => 0 := ⟨_, rfl⟩
  rw [← hz]
  refine ⟨0, Int × (Ix → Int), fun a => ⟨[(1, .pt 100 0), (2, .pt 101 0), (3, .pt 102 0), (5, .i .i64 a.1)], [(100, .ar (Int.ofNat 32) [.i .u32 m] 229), (101, .ar (Int.ofNat 32) [.i .u32 z] 229), (102, .ar (Int.ofNat 32) [.i .u32 a.2] 229)], 300⟩, fun a => 0 ≤ a.1 ∧ a.1 ≤ 32 ∧ ∀ j : Int, 0 ≤ j → j < a.1 → a.2 [j] = ofF (fun j => m [j]) (m [j]) 32, fun a => (32 - a.1).toNat, ⟨(0, z), ⟨by simp, by simp, fun j h0 h1 => by omega⟩, ?_⟩, ?_⟩
  · cbv
  · rintro ⟨i, f⟩ ⟨h0, h1, hf⟩
    simp only at h0 h1 hf
    cbv
    split
    · rename_i h
      simp only [hH, decide_eq_true_eq] at h
      cbv
      refine ⟨by rw [hH]; simp; omega, ?_⟩
      simp only [hH, decide_eq_true h]
      refine ⟨[100], ⟨⟨rfl, rfl⟩, rfl⟩, _, _, ?_, ?_, _, hTri _ _ _ _ (sum_of m (m [i])), ?_⟩
      · cbv
      · cbv
      rintro x σ ⟨v, hv, rfl, rfl⟩
      cbv
      have e1 : IntKind.i64.wrap (i + 1) = i + 1 := IntWalk.i64_in _ (by omega)
      obtain ⟨i2, hi2⟩ : ∃ i2, i2 = i + 1 := ⟨_, rfl⟩
      obtain ⟨f1, hf1⟩ : ∃ f1 : Ix → Int, f1 = fun ix => bif decide (hd ix = i) then v else f ix := ⟨_, rfl⟩
      simp only [hH, e1]
      rw [← hi2, ← hf1]
      refine ⟨by simp; omega, (i2, f1), ⟨by simp; omega, by simp; omega, fun j j0 j1 => ?_⟩, by simp; omega, ?_⟩
      · simp only at j1 ⊢
        rw [hf1]
        by_cases e : j = i
        · subst e; simp [AM.hd, hv]
        · simp [AM.hd, e]; exact hf j j0 (by omega)
      · cbv
    · rename_i h
      simp only [hH, decide_eq_false_iff_not] at h
      cbv
      exact fin_av ⟨f, fun j j0 j1 => hf j j0 (by omega), rfl, rfl⟩
/-- the matrices -/
def matF : Nat → Int → Int
  | 0, j => stepF (shlF .u32 1 j)
  | k + 1, j => ofF (matF k) (matF k j) 32
def thrF : Nat → Nat → Int → Int → Int
  | 0, _, n, _ => n
  | q + 1, k, n, sz => if 0 < sz then thrF q (k + 1) (if andF .i64 sz 1 = 1 then ofF (matF k) n 32 else n) (shrF .i64 sz 1) else n
theorem shr1 {n : Int} (h : 0 ≤ n) : shrF .i64 n 1 = n / 2 := by
  unfold shrF
  rw [show (2 : Int) ^ min (Int.toNat 1) IntKind.i64.bits = 2 from rfl, Int.fdiv_eq_ediv_of_nonneg _ (by omega)]
theorem sum_through (n size : Int) (hs : 0 ≤ size ∧ size ≤ 1000000000) : TriS Try.prog 154 [.i .u32 n, .i .i64 size] [] (fun r σ => ∃ v, v = thrF 64 3 n size ∧ r = .i .u32 v ∧ σ = []) := by
  refine tri_of TT_ok mixed (OR := OR0) (fn := Try.f154) (c := body Try.f154) (by kernel_rfl) (by kernel_rfl) (by kernel_rfl) (by kernel_rfl) (by simp [Try.f154]) fun H Tri hH hTri => ?_
  cbv
  obtain ⟨z, hz⟩ : ∃ z : Ix → Int, z = fun _ => 0 := ⟨_, rfl⟩
  rw [← hz]
  refine ⟨0, Int × (Ix → Int), fun a => ⟨[(0, .i .u32 n), (1, .i .i64 size), (5, .pt 100 0), (7, .i .i64 a.1)], [(100, .ar (Int.ofNat 32) [.i .u32 a.2] 229)], 300⟩, fun a => 0 ≤ a.1 ∧ a.1 ≤ 32 ∧ ∀ j : Int, 0 ≤ j → j < a.1 → a.2 [j] = matF 0 j, fun a => (32 - a.1).toNat, ⟨(0, z), ⟨by simp, by simp, fun j h0 h1 => by omega⟩, ?_⟩, ?_⟩
  · cbv
  · rintro ⟨i, f⟩ ⟨h0, h1, hf⟩
    simp only at h0 h1 hf
    cbv
    split
    · rename_i h
      simp only [hH, decide_eq_true_eq] at h
      cbv
      simp only [hH, decide_eq_true h, foldL]
      refine ⟨by simp; omega, ?_⟩
      obtain ⟨z1, hz1⟩ : ∃ z1, z1 = shlF .u32 1 i := ⟨_, rfl⟩
      rw [← hz1]
      refine ⟨[], ⟨⟨rfl, rfl⟩, rfl⟩, _, _, ?_, ?_, _, hTri _ _ _ _ (sum_step z1), ?_⟩
      · cbv
      · cbv
      rintro x σ ⟨v, hv, rfl, rfl⟩
      cbv
      have e1 : IntKind.i64.wrap (i + 1) = i + 1 := IntWalk.i64_in _ (by omega)
      obtain ⟨i2, hi2⟩ : ∃ i2, i2 = i + 1 := ⟨_, rfl⟩
      obtain ⟨f1, hf1⟩ : ∃ f1 : Ix → Int, f1 = fun ix => bif decide (hd ix = i) then v else f ix := ⟨_, rfl⟩
      simp only [hH, e1]
      rw [← hi2, ← hf1]
      refine ⟨by simp; omega, (i2, f1), ⟨by simp; omega, by simp; omega, fun j j0 j1 => ?_⟩, by simp; omega, ?_⟩
      · simp only at j1 ⊢
        rw [hf1]
        by_cases e : j = i
        · subst e; simp [AM.hd, hv, hz1, matF]
        · simp [AM.hd, e]; exact hf j j0 (by omega)
      · cbv
    · rename_i h
      simp only [hH, decide_eq_false_iff_not] at h
      cbv
      clear hz z
      refine ⟨0, Int × (Ix → Int), fun a => ⟨[(0, .i .u32 n), (1, .i .i64 size), (5, .pt 100 0), (16, .i .i64 a.1)], [(100, .ar (Int.ofNat 32) [.i .u32 a.2] 229)], 400⟩, fun a => 0 ≤ a.1 ∧ a.1 ≤ 3 ∧ ∀ j : Int, 0 ≤ j → j < 32 → a.2 [j] = matF a.1.toNat j, fun a => (3 - a.1).toNat, ⟨(0, f), ⟨by simp, by simp, fun j h0 h1 => hf j h0 (by omega)⟩, ?_⟩, ?_⟩
      · cbv
      · rintro ⟨c, f2⟩ ⟨c0, c1, hf2⟩
        simp only at c0 c1 hf2
        cbv
        split
        · rename_i hc
          simp only [hH, decide_eq_true_eq] at hc
          cbv
          refine ⟨[], ⟨⟨rfl, rfl⟩, rfl⟩, _, _, ?_, ?_, _, hTri _ _ _ _ (sum_twice f2), ?_⟩
          · cbv
          · cbv
          rintro x σ ⟨f3, hf3, rfl, rfl⟩
          cbv
          have e1 : IntKind.i64.wrap (c + 1) = c + 1 := IntWalk.i64_in _ (by omega)
          obtain ⟨c2, hc2⟩ : ∃ c2, c2 = c + 1 := ⟨_, rfl⟩
          simp only [hH, e1, decide_eq_true hc]
          rw [← hc2]
          refine ⟨(c2, f3), ⟨by simp; omega, by simp; omega, fun j j0 j1 => ?_⟩, by simp; omega, ?_⟩
          · simp only
            rw [hf3 j j0 j1, show c2.toNat = c.toNat + 1 by omega, matF, hf2 j j0 j1]
            exact ofF_congr _ 32 (fun j h0 h1 => hf2 j h0 h1)
          · cbv
        · rename_i hc
          simp only [hH, decide_eq_false_iff_not] at hc
          cbv
          have hc3 : c.toNat = 3 := by omega
          rw [hc3] at hf2
          refine ⟨0, (Int × Int) × (Ix → Int) × Nat × Nat, fun a => ⟨[(0, .i .u32 a.1.1), (1, .i .i64 a.1.2), (5, .pt 100 0)], [(100, .ar (Int.ofNat 32) [.i .u32 a.2.1] 229)], 500⟩, fun a => (0 ≤ a.1.2 ∧ a.1.2 ≤ 1000000000) ∧ a.1.2.toNat < 2 ^ a.2.2.1 ∧ thrF a.2.2.1 a.2.2.2 a.1.1 a.1.2 = thrF 64 3 n size ∧ ∀ j : Int, 0 ≤ j → j < 32 → a.2.1 [j] = matF a.2.2.2 j, fun a => a.1.2.toNat, ⟨((n, size), f2, 64, 3), ⟨hs, by simp; omega, rfl, hf2⟩, ?_⟩, ?_⟩
          · cbv
          · rintro ⟨⟨v, sz⟩, f4, q, k⟩ ⟨hsz, hq, hthr, hf4⟩
            simp only at hsz hq hthr hf4
            cbv
            split
            · rename_i hp
              simp only [hH, decide_eq_true_eq] at hp
              have hp : 0 < sz := hp
              cbv
              obtain ⟨sz2, hsz2⟩ : ∃ sz2, sz2 = shrF .i64 sz 1 := ⟨_, rfl⟩
              have hsz3 : sz2 = sz / 2 := by rw [hsz2, shr1 hsz.1]
              obtain ⟨q, rfl⟩ : ∃ q', q = q' + 1 := ⟨q - 1, by cases q with | zero => simp at hq; omega | succ q => rfl⟩
              have hq2 : sz2.toNat < 2 ^ q := by rw [Nat.pow_succ] at hq; omega
              rw [thrF, if_pos hp, ← hsz2] at hthr
              split
              · rename_i ha
                simp only [hH, foldA, decide_eq_true_eq] at ha
                rw [if_pos ha] at hthr
                cbv
                simp only [hH, foldA, decide_eq_true hp, ha, decide_true]
                refine ⟨[100], ⟨⟨rfl, rfl⟩, rfl⟩, _, _, ?_, ?_, _, hTri _ _ _ _ (sum_of f4 v), ?_⟩
                · cbv
                · cbv
                rintro x σ ⟨v1, hv1, rfl, rfl⟩
                cbv
                refine ⟨[], ⟨⟨rfl, rfl⟩, rfl⟩, _, _, ?_, ?_, _, hTri _ _ _ _ (sum_twice f4), ?_⟩
                · cbv
                · cbv
                rintro x σ ⟨f3, hf3, rfl, rfl⟩
                cbv
                simp only [hH, foldR]
                rw [← hsz2]
                refine ⟨by simp, ((v1, sz2), f3, q, k + 1), ⟨by simp; omega, hq2, ?_, fun j j0 j1 => ?_⟩, by simp; omega, ?_⟩
                · simp only
                  rw [hv1, ofF_congr (m' := matF k) v 32 (fun j h0 h1 => hf4 j h0 h1)]; exact hthr
                · simp only
                  rw [hf3 j j0 j1, matF, hf4 j j0 j1]
                  exact ofF_congr _ 32 (fun j h0 h1 => hf4 j h0 h1)
                · cbv
              · rename_i ha
                simp only [hH, foldA, decide_eq_false_iff_not] at ha
                rw [if_neg ha] at hthr
                cbv
                simp only [hH, foldA, decide_eq_true hp, decide_eq_false ha]
                obtain ⟨y, hy⟩ : ∃ y, y = andF .i64 sz 1 := ⟨_, rfl⟩
                rw [← hy]
                refine ⟨[], ⟨⟨rfl, rfl⟩, rfl⟩, _, _, ?_, ?_, _, hTri _ _ _ _ (sum_twice f4), ?_⟩
                · cbv
                · cbv
                rintro x σ ⟨f3, hf3, rfl, rfl⟩
                cbv
                simp only [hH, foldR]
                rw [← hsz2]
                refine ⟨by simp, ((v, sz2), f3, q, k + 1), ⟨by simp; omega, hq2, hthr, fun j j0 j1 => ?_⟩, by simp; omega, ?_⟩
                · simp only
                  rw [hf3 j j0 j1, matF, hf4 j j0 j1]
                  exact ofF_congr _ 32 (fun j h0 h1 => hf4 j h0 h1)
                · cbv
            · rename_i hp
              simp only [hH, decide_eq_false_iff_not] at hp
              have hp : ¬ 0 < sz := hp
              cbv
              refine fin_i ⟨v, ?_, rfl, rfl⟩
              rw [← hthr]
              cases q with
              | zero => rfl
              | succ q => rw [thrF, if_neg hp]
def joinF (a b size : Int) : Int := xorF .u32 (thrF 64 3 a size) b
theorem sum_join (a b size : Int) (hs : 0 ≤ size ∧ size ≤ 1000000000) : TriS Try.prog 133 [.i .u32 a, .i .u32 b, .i .i64 size] [] (fun r σ => ∃ v, v = joinF a b size ∧ r = .i .u32 v ∧ σ = []) := by
  refine tri_of TT_ok mixed (OR := OR0) (fn := Try.f133) (c := body Try.f133) (by kernel_rfl) (by kernel_rfl) (by kernel_rfl) (by kernel_rfl) (by simp [Try.f133]) fun H Tri hH hTri => ?_
  cbv
  refine ⟨[], ⟨⟨rfl, rfl⟩, rfl⟩, _, _, ?_, ?_, _, hTri _ _ _ _ (sum_through a size hs), ?_⟩
  · cbv
  · cbv
  rintro x σ ⟨v, hv, rfl, rfl⟩
  cbv
  simp only [hH, foldX]
  exact fin_i ⟨_, by rw [hv]; rfl, rfl, rfl⟩
end Go.Proofs.Ytilmhjojbolbeaa.AM

namespace Go.Proofs.Ytilmhjojbolbeaa.AM
open Go
set_option maxRecDepth 100000
/-- the four bytes behind a page -/
def tailF (s : Str) : Str := let n := sumF (s.take 252); [UInt8.ofNat (IntKind.u8.wrap n).toNat, UInt8.ofNat (IntKind.u8.wrap (shrF .u32 n 8)).toNat, UInt8.ofNat (IntKind.u8.wrap (shrF .u32 n 16)).toNat, UInt8.ofNat (IntKind.u8.wrap (shrF .u32 n 24)).toNat]
theorem page_tail (s : Str) (hs : s.length = 256) : TriS Try.prog 114 [.s s] [] (fun r σ => ∃ t, t = tailF s ∧ r = .s t ∧ σ = []) := by
  refine tri_of TT_ok mixed (OR := OR0) (fn := Try.f114) (c := body Try.f114) (by kernel_rfl) (by kernel_rfl) (by kernel_rfl) (by kernel_rfl) (by simp [Try.f114]) fun H Tri hH hTri => ?_
  cbv
  refine ⟨by rw [hH]; simp [o0, hs], ?_⟩
  obtain ⟨u, hu⟩ : ∃ u, u = s.take 252 := ⟨_, rfl⟩
  have e : List.drop (o0 none).toNat (List.take (Int.toNat 252) s) = u := by rw [hu]; simp [o0]
  rw [hH, e]
  refine ⟨[], ⟨⟨rfl, rfl⟩, rfl⟩, _, _, ?_, ?_, _, hTri _ _ _ _ (sum_sum u (by rw [hu]; simp; omega)), ?_⟩
  · cbv
  · cbv
  rintro x σ ⟨v, hv, rfl, rfl⟩
  cbv
  simp only [hH, foldR]
  refine ⟨by simp, by simp, by simp, ?_⟩
  refine fin_s ⟨_, ?_, rfl, rfl⟩
  rw [tailF, ← hu, ← hv]
  rfl
theorem bytesOf_congr {n : Int} {f f' : Ix → Int} (h : ∀ j : Int, 0 ≤ j → j < n → f [j] = f' [j]) : bytesOf n f = bytesOf n f' := by
  unfold bytesOf
  apply List.map_congr_left
  intro i hi
  have hi := List.mem_range.1 hi
  rw [h i (by omega) (by omega)]
theorem bytesOf_length (n : Int) (f : Ix → Int) : (bytesOf n f).length = n.toNat := by simp [bytesOf]
theorem tailF_length (s : Str) : (tailF s).length = 4 := rfl
/-- a page's bytes but the last four -/
def sealCol (k n : Int) (b : Str) (j : Int) : Int :=
  putT (fun ix => putF (fun ix => putF (fun ix => putF (fun _ => 0) 0 1 (IntKind.u32.wrap k) (hd ix)) 2 2 (IntKind.u32.wrap b.length) (hd ix)) 4 4 (IntKind.u32.wrap n) (hd ix)) 8 b j
def sealA (k n : Int) (b : Str) : Str := bytesOf 256 (fun ix => sealCol k n b (hd ix))
def sealF (k n : Int) (b : Str) : Str := bytesOf 256 (fun ix => putT (fun ix => sealCol k n b (hd ix)) 252 (tailF (sealA k n b)) (hd ix))
theorem small_shr {v w : Int} (hv : 0 ≤ v) (hw : (w = 1 ∧ v < 256) ∨ (w = 2 ∧ v < 65536) ∨ (w = 4 ∧ v < 4294967296)) : shrF .u64 (IntKind.u64.wrap (IntKind.u32.wrap v)) (8 * w) = 0 := by
  have e1 : IntKind.u32.wrap v = v := by simp [IntKind.wrap, IntKind.bits, IntKind.signed]; omega
  have e2 : IntKind.u64.wrap v = v := by simp [IntKind.wrap, IntKind.bits, IntKind.signed]; omega
  rw [e1, e2, shrF]
  rcases hw with ⟨rfl, h⟩ | ⟨rfl, h⟩ | ⟨rfl, h⟩ <;> (rw [Int.fdiv_eq_ediv_of_nonneg _ (by simp [IntKind.bits])]; apply Int.ediv_eq_zero_of_lt hv; simpa [IntKind.bits] using h)
theorem page_seal (k n : Int) (b : Str) (hk : 1 ≤ k ∧ k ≤ 5) (hn : 0 ≤ n ∧ n < 1000) (hb : b.length ≤ 244) :
    TriS Try.prog 97 [.ag [.i .i64 k, .i .i64 n, .s b]] [] (fun r σ => ∃ s, s = sealF k n b ∧ r = .tu [.s s, .i .i64 0] ∧ σ = []) := by
  refine tri_of TT_ok mixed (OR := OR0) (fn := Try.f97) (c := body Try.f97) (by kernel_rfl) (by kernel_rfl) (by kernel_rfl) (by kernel_rfl) (by simp [Try.f97]) fun H Tri hH hTri => ?_
  cbv
  obtain ⟨L, hL⟩ : ∃ L : Int, L = NatCast.natCast b.length := ⟨_, rfl⟩
  obtain ⟨hL1, hL2, hL3⟩ := castN hL
  have d1 : ∀ p : Prop, [Decidable p] → ¬ p → H Bool (decide p) = false := fun p _ hp => by rw [hH, decide_eq_false hp]
  split
  · rename_i h
    simp only [hH, decide_eq_true_eq] at h
    omega
  cbv
  split
  · rename_i h
    simp only [hH, decide_eq_true_eq] at h
    have h : 5 < k := h
    omega
  cbv
  split
  · rename_i h
    simp only [hH, decide_eq_true_eq] at h
    omega
  cbv
  split
  · rename_i h
    simp only [hH, decide_eq_true_eq] at h
    have h : 1000 ≤ n := h
    omega
  cbv
  split
  · rename_i h
    simp only [hH, decide_eq_true_eq, ← hL] at h
    have h : 244 < L := h
    omega
  cbv
  refine ⟨[], ⟨⟨rfl, rfl⟩, rfl⟩, _, _, ?_, ?_, _, hTri _ _ _ _ (area_new 256 (by omega)), ?_⟩
  · cbv
  · cbv
  rintro x σ ⟨f0, hf0, rfl, rfl⟩
  cbv
  obtain ⟨k1, hk1⟩ : ∃ k1, k1 = IntKind.u32.wrap k := ⟨_, rfl⟩
  rw [hH, ← hk1]
  refine ⟨[201, 202], ⟨⟨rfl, rfl⟩, rfl⟩, _, _, ?_, ?_, _, hTri _ _ _ _ (area_put 256 0 1 k1 f0 (by omega) (.inl rfl) (by rw [hk1]; exact small_shr (by omega) (.inl ⟨rfl, by omega⟩))), ?_⟩
  · cbv
  · cbv
  rintro x σ ⟨f1, hf1, rfl, rfl⟩
  cbv
  obtain ⟨L1, hL4⟩ : ∃ L1, L1 = IntKind.u32.wrap L := ⟨_, rfl⟩
  rw [show H Int (IntKind.u32.wrap (H Int (NatCast.natCast b.length))) = L1 from by rw [hH, hH, hL4, hL]]
  refine ⟨[201, 202], ⟨⟨rfl, rfl⟩, rfl⟩, _, _, ?_, ?_, _, hTri _ _ _ _ (area_put 256 2 2 L1 f1 (by omega) (.inr (.inl rfl)) (by rw [hL4]; exact small_shr (by omega) (.inr (.inl ⟨rfl, by omega⟩)))), ?_⟩
  · cbv
  · cbv
  rintro x σ ⟨f2, hf2, rfl, rfl⟩
  cbv
  obtain ⟨n1, hn1⟩ : ∃ n1, n1 = IntKind.u32.wrap n := ⟨_, rfl⟩
  rw [show H Int (IntKind.u32.wrap n) = n1 from by rw [hH, hn1]]
  refine ⟨[201, 202], ⟨⟨rfl, rfl⟩, rfl⟩, _, _, ?_, ?_, _, hTri _ _ _ _ (area_put 256 4 4 n1 f2 (by omega) (.inr (.inr rfl)) (by rw [hn1]; exact small_shr (by omega) (.inr (.inr ⟨rfl, by omega⟩)))), ?_⟩
  · cbv
  · cbv
  rintro x σ ⟨f3, hf3, rfl, rfl⟩
  cbv
  refine ⟨[201, 202], ⟨⟨rfl, rfl⟩, rfl⟩, _, _, ?_, ?_, _, hTri _ _ _ _ (area_putText 256 8 b f3 (by omega) (by omega)), ?_⟩
  · cbv
  · cbv
  rintro x σ ⟨f4, hf4, rfl, rfl⟩
  cbv
  refine ⟨[201, 202], ⟨⟨rfl, rfl⟩, rfl⟩, _, _, ?_, ?_, _, hTri _ _ _ _ (area_bytes 256 f4), ?_⟩
  · cbv
  · cbv
  rintro x σ ⟨s1, hs1, rfl, rfl⟩
  cbv
  have hlen1 : s1.length = 256 := by rw [hs1, bytesOf_length]; rfl
  refine ⟨[], ⟨⟨rfl, rfl⟩, rfl⟩, _, _, ?_, ?_, _, hTri _ _ _ _ (page_tail s1 hlen1), ?_⟩
  · cbv
  · cbv
  rintro x σ ⟨t1, ht1, rfl, rfl⟩
  cbv
  have hlen2 : t1.length = 4 := by rw [ht1]; rfl
  refine ⟨[201, 202], ⟨⟨rfl, rfl⟩, rfl⟩, _, _, ?_, ?_, _, hTri _ _ _ _ (area_putText 256 252 t1 f4 (by omega) (by omega)), ?_⟩
  · cbv
  · cbv
  rintro x σ ⟨f5, hf5, rfl, rfl⟩
  cbv
  refine ⟨[201, 202], ⟨⟨rfl, rfl⟩, rfl⟩, _, _, ?_, ?_, _, hTri _ _ _ _ (area_bytes 256 f5), ?_⟩
  · cbv
  · cbv
  rintro x σ ⟨s2, hs2, rfl, rfl⟩
  cbv
  refine fin_si ⟨s2, ?_, rfl, rfl⟩
  have c4 : ∀ j : Int, f4 [j] = sealCol k n b j := fun j => by
    rw [hf4, sealCol]
    simp only [putT, hf3, putF, hf2, hf1, hf0, AM.hd, hk1, hL4, hn1, hL1]
    rfl
  have c5 : s1 = sealA k n b := by rw [hs1, sealA]; exact bytesOf_congr fun j _ _ => c4 j
  rw [hs2, sealF]
  refine bytesOf_congr fun j _ _ => ?_
  rw [hf5, ht1, c5]
  simp only [putT, AM.hd, c4]
  rfl
end Go.Proofs.Ytilmhjojbolbeaa.AM

namespace Go.Proofs.Ytilmhjojbolbeaa.AM
open Go
set_option maxRecDepth 100000
theorem orF_add {a c : Int} (ha : 0 ≤ a ∧ a < 16777216) (hc : 0 ≤ c ∧ c < 256) : orF .u32 (shlF .u32 a 8) (IntKind.u32.wrap c) = a * 256 + c := by
  obtain ⟨a, rfl⟩ := Int.eq_ofNat_of_zero_le ha.1
  obtain ⟨c, rfl⟩ := Int.eq_ofNat_of_zero_le hc.1
  have e1 : shlF .u32 (a : Int) 8 = ((a * 256 : Nat) : Int) := by
    simp [shlF, IntKind.wrap, IntKind.bits, IntKind.signed]; omega
  have e2 : IntKind.u32.wrap (c : Int) = (c : Nat) := by simp [IntKind.wrap, IntKind.bits, IntKind.signed]; omega
  rw [e1, e2, orF]
  have e3 : ∀ n : Nat, n < 4294967296 → (BitVec.ofInt IntKind.u32.bits (n : Int)).toNat = n := fun n hn => by
    simp [IntKind.bits]; omega
  have e4 : (BitVec.ofInt IntKind.u32.bits ((a * 256 : Nat) : Int) ||| BitVec.ofInt IntKind.u32.bits (c : Int)).toNat = a * 256 + c := by
    rw [BitVec.toNat_or, e3 _ (by omega), e3 _ (by omega)]
    have := Nat.shiftLeft_add_eq_or_of_lt (i := 8) (b := c) (by omega) a
    rw [Nat.shiftLeft_eq] at this
    exact this.symm
  rw [e4]
  simp [IntKind.wrap, IntKind.bits, IntKind.signed]; omega
theorem u8_in {n : Int} : 0 ≤ IntKind.u8.wrap n ∧ IntKind.u8.wrap n < 256 := wrapU (k := .u8) (.inl rfl) n
theorem u8_mod (n : Int) : IntKind.u8.wrap n = n % 256 := by simp [IntKind.wrap, IntKind.bits, IntKind.signed]
theorem u32_id {n : Int} (h : 0 ≤ n ∧ n < 4294967296) : IntKind.u32.wrap n = n := by simp [IntKind.wrap, IntKind.bits, IntKind.signed]; omega
theorem shr_div {v : Int} (hv : 0 ≤ v) : shrF .u32 v 0 = v ∧ shrF .u32 v 8 = v / 256 ∧ shrF .u32 v 16 = v / 65536 ∧ shrF .u32 v 24 = v / 16777216 := by
  refine ⟨?_, ?_, ?_, ?_⟩ <;> (rw [shrF, Int.fdiv_eq_ediv_of_nonneg _ (by simp [IntKind.bits])]; simp [IntKind.bits])
theorem getF_1 {f : Ix → Int} {at' v : Int} (hv : 0 ≤ v ∧ v < 256) (h : f [at'] = IntKind.u8.wrap (shrF .u32 v 0)) : getF f at' 1 = v := by
  have e0 : f [at' + ((0 : Nat) : Int)] = v := by
    rw [show at' + ((0 : Nat) : Int) = at' by simp, h, (shr_div hv.1).1, u8_mod]; omega
  rw [getF, getF, e0, orF_add (by omega) (by omega)]; omega
theorem getF_2 {f : Ix → Int} {at' v : Int} (hv : 0 ≤ v ∧ v < 65536) (h0 : f [at'] = IntKind.u8.wrap (shrF .u32 v 8)) (h1 : f [at' + 1] = IntKind.u8.wrap (shrF .u32 v 0)) : getF f at' 2 = v := by
  have e0 : f [at' + ((0 : Nat) : Int)] = v / 256 := by
    rw [show at' + ((0 : Nat) : Int) = at' by simp, h0, (shr_div hv.1).2.1, u8_mod]; omega
  have e1 : f [at' + ((1 : Nat) : Int)] = v % 256 := by
    rw [show at' + ((1 : Nat) : Int) = at' + 1 by simp, h1, (shr_div hv.1).1, u8_mod]
  have s1 : getF f at' 1 = v / 256 := by rw [getF, getF, e0, orF_add (by omega) (by omega)]; omega
  rw [getF, s1, e1, orF_add (by omega) (by omega)]; omega
theorem getF_4 {f : Ix → Int} {at' v : Int} (hv : 0 ≤ v ∧ v < 4294967296) (h0 : f [at'] = IntKind.u8.wrap (shrF .u32 v 24)) (h1 : f [at' + 1] = IntKind.u8.wrap (shrF .u32 v 16)) (h2 : f [at' + 2] = IntKind.u8.wrap (shrF .u32 v 8)) (h3 : f [at' + 3] = IntKind.u8.wrap (shrF .u32 v 0)) : getF f at' 4 = v := by
  have e0 : f [at' + ((0 : Nat) : Int)] = v / 16777216 := by
    rw [show at' + ((0 : Nat) : Int) = at' by simp, h0, (shr_div hv.1).2.2.2, u8_mod]; omega
  have e1 : f [at' + ((1 : Nat) : Int)] = v / 65536 % 256 := by
    rw [show at' + ((1 : Nat) : Int) = at' + 1 by simp, h1, (shr_div hv.1).2.2.1, u8_mod]
  have e2 : f [at' + ((2 : Nat) : Int)] = v / 256 % 256 := by
    rw [show at' + ((2 : Nat) : Int) = at' + 2 by simp, h2, (shr_div hv.1).2.1, u8_mod]
  have e3 : f [at' + ((3 : Nat) : Int)] = v % 256 := by
    rw [show at' + ((3 : Nat) : Int) = at' + 3 by simp, h3, (shr_div hv.1).1, u8_mod]
  have s1 : getF f at' 1 = v / 16777216 := by rw [getF, getF, e0, orF_add (by omega) (by omega)]; omega
  have s2 : getF f at' 2 = v / 65536 := by rw [getF, s1, e1, orF_add (by omega) (by omega)]; omega
  have s3 : getF f at' 3 = v / 256 := by rw [getF, s2, e2, orF_add (by omega) (by omega)]; omega
  rw [getF, s3, e3, orF_add (by omega) (by omega)]; omega
theorem bytesOf_at {n : Int} {f : Ix → Int} {j : Nat} (hj : (j : Int) < n) (h : 0 ≤ f [(j : Int)] ∧ f [(j : Int)] < 256) : (((bytesOf n f).getD j 0).toNat : Int) = f [(j : Int)] := by
  have hlt : j < n.toNat := by omega
  have : (bytesOf n f).getD j 0 = UInt8.ofNat (f [(j : Int)]).toNat := by simp [bytesOf, hlt]
  rw [this, UInt8.toNat_ofNat']
  omega
theorem putT_in {f : Ix → Int} {at' : Int} {s : Str} {j : Int} (h : 0 ≤ f [j] ∧ f [j] < 256) : 0 ≤ putT f at' s j ∧ putT f at' s j < 256 := by
  unfold putT
  split
  · have := (s.getD (j - at').toNat 0).toNat_lt
    omega
  · exact h
theorem putF_in {f : Ix → Int} {at' w v j : Int} (h : 0 ≤ f [j] ∧ f [j] < 256) : 0 ≤ putF f at' w v j ∧ putF f at' w v j < 256 := by
  unfold putF
  split
  · exact u8_in
  · exact h
theorem sealCol_in (k n : Int) (b : Str) (j : Int) : 0 ≤ sealCol k n b j ∧ sealCol k n b j < 256 := by
  unfold sealCol
  refine putT_in (putF_in (f := fun ix => putF (fun ix => putF (fun _ => 0) 0 1 (IntKind.u32.wrap k) (hd ix)) 2 2 (IntKind.u32.wrap b.length) (hd ix)) (putF_in (f := fun ix => putF (fun _ => 0) 0 1 (IntKind.u32.wrap k) (hd ix)) (putF_in (by simp))))
theorem bytesOf_take (m : Nat) {n : Int} (hm : (m : Int) ≤ n) (f : Ix → Int) : (bytesOf n f).take m = bytesOf m f := by
  apply List.ext_getElem?
  intro j
  rw [List.getElem?_take]
  by_cases hj : j < m
  · rw [if_pos hj]
    have h1 : j < n.toNat := by omega
    simp [bytesOf, hj, h1]
  · rw [if_neg hj, List.getElem?_eq_none (by rw [bytesOf_length]; omega)]
theorem seal_len (k n : Int) (b : Str) : (sealF k n b).length = 256 := by rw [sealF, bytesOf_length]; rfl
theorem putT_low (k n : Int) (b t : Str) {j : Int} (hj : j < 252) : putT (fun ix => sealCol k n b (hd ix)) 252 t j = sealCol k n b j := by
  unfold putT; exact if_neg (by omega)
theorem seal_take (k n : Int) (b : Str) : (sealF k n b).take 252 = (sealA k n b).take 252 := by
  rw [sealF, sealA, bytesOf_take 252 (by omega), bytesOf_take 252 (by omega)]
  refine bytesOf_congr fun j h0 h1 => ?_
  exact putT_low k n b _ h1
theorem seal_tail (k n : Int) (b : Str) : tailF (sealF k n b) = tailF (sealA k n b) := by
  rw [tailF, seal_take, ← tailF]
theorem seal_drop (k n : Int) (b : Str) : (sealF k n b).drop 252 = tailF (sealF k n b) := by
  rw [seal_tail]
  apply List.ext_getElem?
  intro j
  rw [List.getElem?_drop]
  by_cases hj : j < 4
  · have hl : 252 + j < (256 : Int).toNat := by omega
    have hjt : j < (tailF (sealA k n b)).length := hj
    have h1 : (sealF k n b)[252 + j]? = some (UInt8.ofNat (putT (fun ix => sealCol k n b (hd ix)) 252 (tailF (sealA k n b)) ((252 + j : Nat) : Int)).toNat) := by
      rw [sealF, bytesOf, List.getElem?_map, List.getElem?_range hl]; rfl
    rw [h1, putT, if_pos ⟨by omega, by omega⟩, show (((252 + j : Nat) : Int) - 252).toNat = j by omega, List.getElem?_eq_getElem hjt]
    congr 1
    rw [Int.toNat_natCast, UInt8.ofNat_toNat, List.getD_eq_getElem?_getD, List.getElem?_eq_getElem hjt]
    rfl
  · rw [List.getElem?_eq_none (by rw [seal_len]; omega), List.getElem?_eq_none (by rw [tailF_length]; omega)]
theorem seal_at (k n : Int) (b : Str) {j : Nat} (hj : j < 252) : (((sealF k n b).getD j 0).toNat : Int) = sealCol k n b j := by
  have e : (putT (fun ix => sealCol k n b (hd ix)) 252 (tailF (sealA k n b)) (hd [(j : Int)])) = sealCol k n b j := by
    exact putT_low k n b _ (by show (j : Int) < 252; omega)
  rw [sealF, bytesOf_at (f := fun ix => putT (fun ix => sealCol k n b (hd ix)) 252 (tailF (sealA k n b)) (hd ix)) (by omega) (by simp only [e]; exact sealCol_in k n b j)]
  exact e
theorem col_kind {k : Int} (n : Int) (b : Str) : sealCol k n b 0 = IntKind.u8.wrap (shrF .u32 (IntKind.u32.wrap k) 0) := by
  simp [sealCol, putT, putF, AM.hd]
theorem col_len (k n : Int) (b : Str) : sealCol k n b 2 = IntKind.u8.wrap (shrF .u32 (IntKind.u32.wrap b.length) 8) ∧ sealCol k n b 3 = IntKind.u8.wrap (shrF .u32 (IntKind.u32.wrap b.length) 0) := by
  constructor <;> simp [sealCol, putT, putF, AM.hd]
theorem col_num (k n : Int) (b : Str) : sealCol k n b 4 = IntKind.u8.wrap (shrF .u32 (IntKind.u32.wrap n) 24) ∧ sealCol k n b 5 = IntKind.u8.wrap (shrF .u32 (IntKind.u32.wrap n) 16) ∧ sealCol k n b 6 = IntKind.u8.wrap (shrF .u32 (IntKind.u32.wrap n) 8) ∧ sealCol k n b 7 = IntKind.u8.wrap (shrF .u32 (IntKind.u32.wrap n) 0) := by
  refine ⟨?_, ?_, ?_, ?_⟩ <;> simp [sealCol, putT, putF, AM.hd]
theorem col_body (k n : Int) (b : Str) {j : Nat} (hj : j < b.length) : sealCol k n b ((j : Int) + 8) = ((b.getD j 0).toNat : Int) := by
  unfold sealCol putT
  rw [if_pos ⟨by omega, by omega⟩, show ((j : Int) + 8 - 8).toNat = j by omega]
end Go.Proofs.Ytilmhjojbolbeaa.AM

namespace Go.Proofs
open Go.Shelf
def Try.lays170_ren : Go.Shelf.Ren := ⟨fun | 170 => 127 | n => n, fun | 70 => 183 | 3 => 3 | 0 => 0 | 72 => 186 | 37 => 184 | 5 => 5 | n => n, fun | n => n⟩
theorem Try.lays170 : Go.Proofs.Lays.n170 Try.prog Try.lays170_ren := {
  mixed := by kernel_rfl
  f170 := Try.func127.trans (congrArg some (by kernel_rfl))
  t0 := Try.underlying0
  a0 := Try.isAgg0
  z0 := Try.sizeOf0
  v0 := Try.zeroValue0
  t3 := Try.underlying3
  a3 := Try.isAgg3
  z3 := Try.sizeOf3
  v3 := Try.zeroValue3
  t37 := Try.underlying184
  a37 := Try.isAgg184
  z37 := Try.sizeOf184
  v37 := Try.zeroValue184
  t70 := Try.underlying183
  a70 := Try.isAgg183
  z70 := Try.sizeOf183
  v70 := Try.zeroValue183
  t72 := Try.underlying186
  a72 := Try.isAgg186
  z72 := Try.sizeOf186
  v72 := Try.zeroValue186 }
open Go.RowKit in
/-- (*strings.Builder).Len: "Len returns the number of accumulated bytes; b.Len() == len(b.String()).": the world is as it was. (LAID: no walk: one application.) -/
theorem Try.Builder_Len (B b : Nat) (bs : List Value) (w : World) (h : Lib.IsBuilder 186 5 B b bs w) :
    Calls Try.prog 127 #[.pointer (some ⟨b, 0, none⟩)] w fun e w' => e = .returned (.int .i64 bs.length) ∧ w' = w := Any.Builder_Len Try.lays170 B b bs w h
def Try.lays169_ren : Go.Shelf.Ren := ⟨fun | 169 => 128 | n => n, fun | 70 => 183 | 9 => 9 | 0 => 0 | 72 => 186 | 37 => 184 | 127 => 212 | 3 => 3 | 5 => 5 | n => n, fun | n => n⟩
theorem Try.lays169 : Go.Proofs.Lays.n169 Try.prog Try.lays169_ren := {
  mixed := by kernel_rfl
  f169 := Try.func128.trans (congrArg some (by kernel_rfl))
  t0 := Try.underlying0
  a0 := Try.isAgg0
  z0 := Try.sizeOf0
  v0 := Try.zeroValue0
  t3 := Try.underlying3
  a3 := Try.isAgg3
  z3 := Try.sizeOf3
  v3 := Try.zeroValue3
  t9 := Try.underlying9
  a9 := Try.isAgg9
  z9 := Try.sizeOf9
  v9 := Try.zeroValue9
  t37 := Try.underlying184
  a37 := Try.isAgg184
  z37 := Try.sizeOf184
  v37 := Try.zeroValue184
  t70 := Try.underlying183
  a70 := Try.isAgg183
  z70 := Try.sizeOf183
  v70 := Try.zeroValue183
  t72 := Try.underlying186
  a72 := Try.isAgg186
  z72 := Try.sizeOf186
  v72 := Try.zeroValue186
  t127 := Try.underlying212
  a127 := Try.isAgg212
  z127 := Try.sizeOf212
  v127 := Try.zeroValue212 }
theorem Try.Builder_Extra_169 : Builder.Extra Try.prog Try.lays169_ren := {
  sizeBuilder := by kernel_rfl
  liesBuilder := by kernel_rfl
  t5 := Try.underlying5
  a5 := Try.isAgg5
  z5 := Try.sizeOf5
  v5 := Try.zeroValue5
  infoByte := by kernel_rfl
  cellsByte := by kernel_rfl
  sizeByte := by kernel_rfl
  neB5 := by decide }
open Go.RowKit in
/-- (*strings.Builder).String: "String returns the accumulated string.": OF A BUILDER THAT HOLDS AT LEAST ONE BYTE. ✋ THE MODEL FREEZES THOSE BYTES IN THE BUFFER (unsafe.String): a later write INTO them ends the model's run without an answer; a later append BEHIND them goes on. The statement's order of evaluation is drawn: one draw. (LAID: no walk: one application.) -/
theorem Try.Builder_String (B b : Nat) (l : List UInt8) (w : World) (h : Lib.IsBuilder 186 5 B b (Lib.byteCells l) w) (h0 : l ≠ []) :
    Calls Try.prog 128 #[.pointer (some ⟨b, 0, none⟩)] w fun e w' => e = .returned (.string ⟨l.toArray⟩) ∧ Below B w w' := Any.Builder_String Try.lays169 Try.Builder_Extra_169 B b l w h h0
open Go.RowKit in
/-- (*strings.Builder).String OF A BUILDER THAT HOLDS NO BYTE: the empty string. (Its buffer is nil, or a row of which it has taken nothing yet; where that row has NO capacity the model lays one new block for unsafe.SliceData's 'some address'.) One draw. (LAID: no walk: one application.) -/
theorem Try.Builder_String_empty (B b : Nat) (w : World) (h : Lib.IsBuilder 186 5 B b [] w) (hBw : B ≤ w.heap.size) :
    Calls Try.prog 128 #[.pointer (some ⟨b, 0, none⟩)] w fun e w' => e = .returned (.string ⟨#[]⟩) ∧ Below B w w' := Any.Builder_String_empty Try.lays169 Try.Builder_Extra_169 B b w h hBw
open Go.RowKit in
/-- (*strings.Builder).String: "String returns the accumulated string.": WHATEVER THE BUILDER HOLDS. (LAID: no walk: one application.) -/
theorem Try.Builder_String_any (B b : Nat) (l : List UInt8) (w : World) (h : Lib.IsBuilder 186 5 B b (Lib.byteCells l) w) (hBw : B ≤ w.heap.size) :
    Calls Try.prog 128 #[.pointer (some ⟨b, 0, none⟩)] w fun e w' => e = .returned (.string ⟨l.toArray⟩) ∧ Below B w w' := Any.Builder_String_any Try.lays169 Try.Builder_Extra_169 B b l w h hBw
def Try.lays241_ren : Go.Shelf.Ren := ⟨fun | 241 => 153 | 277 => 167 | n => n, fun | 70 => 183 | 3 => 3 | 0 => 0 | 72 => 186 | 37 => 184 | 5 => 5 | n => n, fun | n => n⟩
theorem Try.lays241 : Go.Proofs.Lays.n241 Try.prog Try.lays241_ren := {
  mixed := by kernel_rfl
  f241 := Try.func153.trans (congrArg some (by kernel_rfl))
  f277 := Try.func167.trans (congrArg some (by kernel_rfl))
  t0 := Try.underlying0
  a0 := Try.isAgg0
  z0 := Try.sizeOf0
  v0 := Try.zeroValue0
  t3 := Try.underlying3
  a3 := Try.isAgg3
  z3 := Try.sizeOf3
  v3 := Try.zeroValue3
  t37 := Try.underlying184
  a37 := Try.isAgg184
  z37 := Try.sizeOf184
  v37 := Try.zeroValue184
  t70 := Try.underlying183
  a70 := Try.isAgg183
  z70 := Try.sizeOf183
  v70 := Try.zeroValue183
  t72 := Try.underlying186
  a72 := Try.isAgg186
  z72 := Try.sizeOf186
  v72 := Try.zeroValue186 }
theorem Try.Builder_Extra_241 : Builder.Extra Try.prog Try.lays241_ren := {
  sizeBuilder := by kernel_rfl
  liesBuilder := by kernel_rfl
  t5 := Try.underlying5
  a5 := Try.isAgg5
  z5 := Try.sizeOf5
  v5 := Try.zeroValue5
  infoByte := by kernel_rfl
  cellsByte := by kernel_rfl
  sizeByte := by kernel_rfl
  neB5 := by decide }
open Go.RowKit in
/-- (*strings.Builder).grow (no doc but "grow copies the buffer to a new, larger buffer so that there are at least n bytes of capacity beyond len(b.buf)."): AT A BUILDER WITHOUT A BUFFER: a new row of whatever bytes for its buffer, none of them its own yet. Three draws. (LAID: no walk: one application.) -/
theorem Try.Builder_grow_fresh (B b n : Nat) (w : World) (hB : B ≤ b) (hbk : w.heap[b]? = some (.cells #[.pointer (some ⟨b, 0, none⟩), .slice none 0 0] 186 (0, 0))) (hBw : B ≤ w.heap.size) (hn : n ≤ 281474976710656) :
    Calls Try.prog 153 #[.pointer (some ⟨b, 0, none⟩), .int .i64 n] w fun e w' => e = .returned (.tuple #[]) ∧ (Lib.BuilderAt 186 5 B b (.pointer (some ⟨b, 0, none⟩)) [] w' ∧ Below B w w') := Any.Builder_grow_fresh Try.lays241 Try.Builder_Extra_241 B b n w hB hbk hBw hn
def Try.lays165_ren : Go.Shelf.Ren := ⟨fun | 165 => 125 | 240 => 152 | 241 => 153 | 276 => 166 | 277 => 167 | n => n, fun | 70 => 183 | 3 => 3 | 0 => 0 | 4 => 4 | 9 => 9 | 20 => 20 | 72 => 186 | 37 => 184 | 164 => 225 | 5 => 5 | n => n, fun | n => n⟩
theorem Try.lays165 : Go.Proofs.Lays.n165 Try.prog Try.lays165_ren := {
  mixed := by kernel_rfl
  f165 := Try.func125.trans (congrArg some (by kernel_rfl))
  f240 := Try.func152.trans (congrArg some (by kernel_rfl))
  f241 := Try.func153.trans (congrArg some (by kernel_rfl))
  f276 := Try.func166.trans (congrArg some (by kernel_rfl))
  f277 := Try.func167.trans (congrArg some (by kernel_rfl))
  t0 := Try.underlying0
  a0 := Try.isAgg0
  z0 := Try.sizeOf0
  v0 := Try.zeroValue0
  t3 := Try.underlying3
  a3 := Try.isAgg3
  z3 := Try.sizeOf3
  v3 := Try.zeroValue3
  t4 := Try.underlying4
  a4 := Try.isAgg4
  z4 := Try.sizeOf4
  v4 := Try.zeroValue4
  t9 := Try.underlying9
  a9 := Try.isAgg9
  z9 := Try.sizeOf9
  v9 := Try.zeroValue9
  t20 := Try.underlying20
  a20 := Try.isAgg20
  z20 := Try.sizeOf20
  v20 := Try.zeroValue20
  t37 := Try.underlying184
  a37 := Try.isAgg184
  z37 := Try.sizeOf184
  v37 := Try.zeroValue184
  t70 := Try.underlying183
  a70 := Try.isAgg183
  z70 := Try.sizeOf183
  v70 := Try.zeroValue183
  t72 := Try.underlying186
  a72 := Try.isAgg186
  z72 := Try.sizeOf186
  v72 := Try.zeroValue186
  t164 := Try.underlying225
  a164 := Try.isAgg225
  z164 := Try.sizeOf225
  v164 := Try.zeroValue225 }
theorem Try.Builder_Extra_165 : Builder.Extra Try.prog Try.lays165_ren := {
  sizeBuilder := by kernel_rfl
  liesBuilder := by kernel_rfl
  t5 := Try.underlying5
  a5 := Try.isAgg5
  z5 := Try.sizeOf5
  v5 := Try.zeroValue5
  infoByte := by kernel_rfl
  cellsByte := by kernel_rfl
  sizeByte := by kernel_rfl
  neB5 := by decide }
open Go.RowKit in
/-- (*strings.Builder).Grow AT A BUILDER THAT HAS NOT BEEN WRITTEN ('var b strings.Builder; b.Grow(n)'): "Grow grows b's capacity, if necessary, to guarantee space for another n bytes.": it holds no byte behind it as before it. (LAID: no walk: one application.) -/
theorem Try.Builder_Grow_fresh (B b n : Nat) (w : World) (hB : B ≤ b) (hbk : w.heap[b]? = some (.cells #[.pointer none, .slice none 0 0] 186 (0, 0))) (hBw : B ≤ w.heap.size) (hn : n ≤ 281474976710656) :
    Calls Try.prog 125 #[.pointer (some ⟨b, 0, none⟩), .int .i64 n] w fun e w' => e = .returned (.tuple #[]) ∧ (Lib.BuilderAt 186 5 B b (.pointer (some ⟨b, 0, none⟩)) [] w' ∧ Below B w w') := Any.Builder_Grow_fresh Try.lays165 Try.Builder_Extra_165 B b n w hB hbk hBw hn
def Try.lays128_ren : Go.Shelf.Ren := ⟨fun | 128 => 147 | n => n, fun | 51 => 77 | 3 => 3 | 4 => 4 | 46 => 141 | 5 => 5 | 9 => 9 | n => n, fun | n => n⟩
theorem Try.lays128 : Go.Proofs.Lays.n128 Try.prog Try.lays128_ren := {
  mixed := by kernel_rfl
  f128 := Try.func147.trans (congrArg some (by kernel_rfl))
  t3 := Try.underlying3
  a3 := Try.isAgg3
  z3 := Try.sizeOf3
  v3 := Try.zeroValue3
  t4 := Try.underlying4
  a4 := Try.isAgg4
  z4 := Try.sizeOf4
  v4 := Try.zeroValue4
  t5 := Try.underlying5
  a5 := Try.isAgg5
  z5 := Try.sizeOf5
  v5 := Try.zeroValue5
  t9 := Try.underlying9
  a9 := Try.isAgg9
  z9 := Try.sizeOf9
  v9 := Try.zeroValue9
  t46 := Try.underlying141
  a46 := Try.isAgg141
  z46 := Try.sizeOf141
  v46 := Try.zeroValue141
  t51 := Try.underlying77
  a51 := Try.isAgg77
  z51 := Try.sizeOf77
  v51 := Try.zeroValue77 }
/-- bits.Len32: "Len32 returns the minimum number of bits required to represent x; the result is 0 for x == 0.": IT RETURNS 'Lib.bitLen x'; the world is as it was. ('h0', 'h1': x is a uint32.) (LAID: no walk: one application.) -/
theorem Try.bits_Len32 (x : Int) (w : World) (h0 : 0 ≤ x) (h1 : x ≤ 4294967295) :
    Calls Try.prog 147 #[.int .u32 x] w fun e w' => e = .returned (.int .i64 (Lib.bitLen x.toNat)) ∧ w' = w := Any.bits_Len32 Try.lays128 x w h0 h1
def Try.lays125_ren : Go.Shelf.Ren := ⟨fun | 125 => 118 | 128 => 147 | 129 => 148 | n => n, fun | 46 => 141 | 3 => 3 | 51 => 77 | 53 => 179 | 4 => 4 | 5 => 5 | 9 => 9 | n => n, fun | n => n⟩
theorem Try.lays125 : Go.Proofs.Lays.n125 Try.prog Try.lays125_ren := {
  mixed := by kernel_rfl
  f125 := Try.func118.trans (congrArg some (by kernel_rfl))
  f128 := Try.func147.trans (congrArg some (by kernel_rfl))
  f129 := Try.func148.trans (congrArg some (by kernel_rfl))
  t3 := Try.underlying3
  a3 := Try.isAgg3
  z3 := Try.sizeOf3
  v3 := Try.zeroValue3
  t4 := Try.underlying4
  a4 := Try.isAgg4
  z4 := Try.sizeOf4
  v4 := Try.zeroValue4
  t5 := Try.underlying5
  a5 := Try.isAgg5
  z5 := Try.sizeOf5
  v5 := Try.zeroValue5
  t9 := Try.underlying9
  a9 := Try.isAgg9
  z9 := Try.sizeOf9
  v9 := Try.zeroValue9
  t46 := Try.underlying141
  a46 := Try.isAgg141
  z46 := Try.sizeOf141
  v46 := Try.zeroValue141
  t51 := Try.underlying77
  a51 := Try.isAgg77
  z51 := Try.sizeOf77
  v51 := Try.zeroValue77
  t53 := Try.underlying179
  a53 := Try.isAgg179
  z53 := Try.sizeOf179
  v53 := Try.zeroValue179 }
/-- bits.Len: "Len returns the minimum number of bits required to represent x; the result is 0 for x == 0.": IT RETURNS 'Lib.bitLen x'; the world is as it was. (A uint has 64 bits in the model.) ITS CALLEE bits.Len64 IS MET BY ITS OWN CONTRACT OFF THE SHELF (lay that first). (LAID: no walk: one application.) -/
theorem Try.bits_Len (x : Int) (w : World) (h0 : 0 ≤ x) (h1 : x ≤ 18446744073709551615) :
    Calls Try.prog 118 #[.int .u64 x] w fun e w' => e = .returned (.int .i64 (Lib.bitLen x.toNat)) ∧ w' = w := Any.bits_Len Try.lays125 x w h0 h1
def Try.lays215_ren : Go.Shelf.Ren := ⟨fun | 215 => 161 | n => n, fun | 3 => 3 | 4 => 4 | n => n, fun | n => n⟩
theorem Try.lays215 : Go.Proofs.Lays.n215 Try.prog Try.lays215_ren := {
  mixed := by kernel_rfl
  f215 := Try.func161.trans (congrArg some (by kernel_rfl))
  t3 := Try.underlying3
  a3 := Try.isAgg3
  z3 := Try.sizeOf3
  v3 := Try.zeroValue3
  t4 := Try.underlying4
  a4 := Try.isAgg4
  z4 := Try.sizeOf4
  v4 := Try.zeroValue4 }
open Go.RowKit in
/-- cmp.isNaN at int: 'x != x': false. (LAID: no walk: one application.) -/
theorem Try.cmp_isNaN_int (x : Int) (w : World) :
    Calls Try.prog 161 #[.int .i64 x] w fun e w' => e = .returned (.bool false) ∧ w' = w := Any.cmp_isNaN_int Try.lays215 x w
open Go.RowKit in
/-- (*strings.Builder).Len: "Len returns the number of accumulated bytes; b.Len() == len(b.String()).": the world is as it was. (THE FORM '_f': 'Lib.IsBuilderF'.) (LAID: no walk: one application.) -/
theorem Try.Builder_Len_f (B b : Nat) (bs : List Value) (w : World) (h : Lib.IsBuilderF 186 5 B b bs w) :
    Calls Try.prog 127 #[.pointer (some ⟨b, 0, none⟩)] w fun e w' => e = .returned (.int .i64 bs.length) ∧ w' = w := Any.Builder_Len_f Try.lays170 B b bs w h
open Go.RowKit in
/-- (*strings.Builder).String: "String returns the accumulated string.": OF A BUILDER THAT HOLDS AT LEAST ONE BYTE. ✋ THE MODEL FREEZES THOSE BYTES IN THE BUFFER (unsafe.String): a later write INTO them ends the model's run without an answer; a later append BEHIND them goes on. The statement's order of evaluation is drawn: one draw. THE FORM '_f': IT SAYS BESIDES THAT THE BUILDER IS A BUILDER STILL ('Lib.IsBuilderF', the same bytes): SO IT CAN BE WRITTEN ON: 'b.WriteString(b.String()[:k])'. (LAID: no walk: one application.) -/
theorem Try.Builder_String_f (B b : Nat) (l : List UInt8) (w : World) (h : Lib.IsBuilderF 186 5 B b (Lib.byteCells l) w) (h0 : l ≠ []) :
    Calls Try.prog 128 #[.pointer (some ⟨b, 0, none⟩)] w fun e w' => e = .returned (.string ⟨l.toArray⟩) ∧ (Lib.IsBuilderF 186 5 B b (Lib.byteCells l) w' ∧ Below B w w') := Any.Builder_String_f Try.lays169 Try.Builder_Extra_169 B b l w h h0
open Go.RowKit in
/-- (*strings.Builder).String OF A BUILDER THAT HOLDS NO BYTE: the empty string; THE FORM '_f': a builder still. (LAID: no walk: one application.) -/
theorem Try.Builder_String_empty_f (B b : Nat) (w : World) (h : Lib.IsBuilderF 186 5 B b [] w) (hBw : B ≤ w.heap.size) :
    Calls Try.prog 128 #[.pointer (some ⟨b, 0, none⟩)] w fun e w' => e = .returned (.string ⟨#[]⟩) ∧ (Lib.IsBuilderF 186 5 B b [] w' ∧ Below B w w') := Any.Builder_String_empty_f Try.lays169 Try.Builder_Extra_169 B b w h hBw
open Go.RowKit in
/-- (*strings.Builder).String: "String returns the accumulated string.": WHATEVER THE BUILDER HOLDS; THE FORM '_f': OF A BUILDER THAT MAY HAVE BEEN READ BEFORE; AND IT IS A BUILDER STILL, holding the same bytes: it can be written on. (LAID: no walk: one application.) -/
theorem Try.Builder_String_any_f (B b : Nat) (l : List UInt8) (w : World) (h : Lib.IsBuilderF 186 5 B b (Lib.byteCells l) w) (hBw : B ≤ w.heap.size) :
    Calls Try.prog 128 #[.pointer (some ⟨b, 0, none⟩)] w fun e w' => e = .returned (.string ⟨l.toArray⟩) ∧ (Lib.IsBuilderF 186 5 B b (Lib.byteCells l) w' ∧ Below B w w') := Any.Builder_String_any_f Try.lays169 Try.Builder_Extra_169 B b l w h hBw
open Go.RowKit in
/-- (*strings.Builder).String: "String returns the accumulated string.": OF A BUILDER THAT HOLDS AT LEAST ONE BYTE. ✋ THE MODEL FREEZES THOSE BYTES IN THE BUFFER (unsafe.String): a later write INTO them ends the model's run without an answer; a later append BEHIND them goes on. The statement's order of evaluation is drawn: one draw. THE FORM '_k': OVER 'Lib.IsBuilderF' (a builder that 'String()' may have read), AND WITH THE FRAME THAT REACHES ABOVE THE BUILDER: 'Lib.OthersKept': every block that is not b and is no row of uint8's stands as it stood: the iterator of a range among them. (LAID: no walk: one application.) -/
theorem Try.Builder_String_k (B b : Nat) (l : List UInt8) (w : World) (h : Lib.IsBuilderF 186 5 B b (Lib.byteCells l) w) (h0 : l ≠ []) :
    Calls Try.prog 128 #[.pointer (some ⟨b, 0, none⟩)] w fun e w' => e = .returned (.string ⟨l.toArray⟩) ∧ (Lib.IsBuilderF 186 5 B b (Lib.byteCells l) w' ∧ Below B w w' ∧ Lib.OthersKept 5 (some b) w w') := Any.Builder_String_k Try.lays169 Try.Builder_Extra_169 B b l w h h0
open Go.RowKit in
/-- (*strings.Builder).String OF A BUILDER THAT HOLDS NO BYTE: the empty string; THE FORM '_k': OVER 'Lib.IsBuilderF' (a builder that 'String()' may have read), AND WITH THE FRAME THAT REACHES ABOVE THE BUILDER: 'Lib.OthersKept': every block that is not b and is no row of uint8's stands as it stood: the iterator of a range among them. (LAID: no walk: one application.) -/
theorem Try.Builder_String_empty_k (B b : Nat) (w : World) (h : Lib.IsBuilderF 186 5 B b [] w) (hBw : B ≤ w.heap.size) :
    Calls Try.prog 128 #[.pointer (some ⟨b, 0, none⟩)] w fun e w' => e = .returned (.string ⟨#[]⟩) ∧ (Lib.IsBuilderF 186 5 B b [] w' ∧ Below B w w' ∧ Lib.OthersKept 5 (some b) w w') := Any.Builder_String_empty_k Try.lays169 Try.Builder_Extra_169 B b w h hBw
open Go.RowKit in
/-- (*strings.Builder).String: "String returns the accumulated string.": WHATEVER THE BUILDER HOLDS; THE FORM '_k': OVER 'Lib.IsBuilderF' (a builder that 'String()' may have read), AND WITH THE FRAME THAT REACHES ABOVE THE BUILDER: 'Lib.OthersKept': every block that is not b and is no row of uint8's stands as it stood: the iterator of a range among them. (LAID: no walk: one application.) -/
theorem Try.Builder_String_any_k (B b : Nat) (l : List UInt8) (w : World) (h : Lib.IsBuilderF 186 5 B b (Lib.byteCells l) w) (hBw : B ≤ w.heap.size) :
    Calls Try.prog 128 #[.pointer (some ⟨b, 0, none⟩)] w fun e w' => e = .returned (.string ⟨l.toArray⟩) ∧ (Lib.IsBuilderF 186 5 B b (Lib.byteCells l) w' ∧ Below B w w' ∧ Lib.OthersKept 5 (some b) w w') := Any.Builder_String_any_k Try.lays169 Try.Builder_Extra_169 B b l w h hBw
open Go.RowKit in
/-- (*strings.Builder).grow (no doc but "grow copies the buffer to a new, larger buffer so that there are at least n bytes of capacity beyond len(b.buf)."): AT A BUILDER WITHOUT A BUFFER: a new row of whatever bytes for its buffer, none of them its own yet. Three draws. (LAID: no walk: one application.) -/
theorem Try.Builder_grow_fresh_cap (B b n : Nat) (w : World) (hB : B ≤ b) (hbk : w.heap[b]? = some (.cells #[.pointer (some ⟨b, 0, none⟩), .slice none 0 0] 186 (0, 0))) (hBw : B ≤ w.heap.size) (hn : n ≤ 281474976710656) :
    Calls Try.prog 153 #[.pointer (some ⟨b, 0, none⟩), .int .i64 n] w fun e w' => e = .returned (.tuple #[]) ∧ (Lib.BuilderAt 186 5 B b (.pointer (some ⟨b, 0, none⟩)) [] w' ∧ Below B w w') ∧ ∃ p cap, w'.cell? ⟨b, 1, none⟩ = some (.slice p 0 cap) ∧ n ≤ cap := Any.Builder_grow_fresh_cap Try.lays241 Try.Builder_Extra_241 B b n w hB hbk hBw hn
open Go.RowKit in
/-- (*strings.Builder).Grow AT A BUILDER THAT HAS NOT BEEN WRITTEN ('var b strings.Builder; b.Grow(n)'): "Grow grows b's capacity, if necessary, to guarantee space for another n bytes.": it holds no byte behind it as before it. (LAID: no walk: one application.) -/
theorem Try.Builder_Grow_fresh_cap (B b n : Nat) (w : World) (hB : B ≤ b) (hbk : w.heap[b]? = some (.cells #[.pointer none, .slice none 0 0] 186 (0, 0))) (hBw : B ≤ w.heap.size) (hn : n ≤ 281474976710656) :
    Calls Try.prog 125 #[.pointer (some ⟨b, 0, none⟩), .int .i64 n] w fun e w' => e = .returned (.tuple #[]) ∧ (Lib.BuilderAt 186 5 B b (.pointer (some ⟨b, 0, none⟩)) [] w' ∧ Below B w w') ∧ ∃ p cap, w'.cell? ⟨b, 1, none⟩ = some (.slice p 0 cap) ∧ n ≤ cap := Any.Builder_Grow_fresh_cap Try.lays165 Try.Builder_Extra_165 B b n w hB hbk hBw hn
def Try.lays129_ren : Go.Shelf.Ren := ⟨fun | 129 => 148 | n => n, fun | 53 => 179 | 3 => 3 | 4 => 4 | 46 => 141 | 5 => 5 | 9 => 9 | n => n, fun | n => n⟩
theorem Try.lays129 : Go.Proofs.Lays.n129 Try.prog Try.lays129_ren := {
  mixed := by kernel_rfl
  f129 := Try.func148.trans (congrArg some (by kernel_rfl))
  t3 := Try.underlying3
  a3 := Try.isAgg3
  z3 := Try.sizeOf3
  v3 := Try.zeroValue3
  t4 := Try.underlying4
  a4 := Try.isAgg4
  z4 := Try.sizeOf4
  v4 := Try.zeroValue4
  t5 := Try.underlying5
  a5 := Try.isAgg5
  z5 := Try.sizeOf5
  v5 := Try.zeroValue5
  t9 := Try.underlying9
  a9 := Try.isAgg9
  z9 := Try.sizeOf9
  v9 := Try.zeroValue9
  t46 := Try.underlying141
  a46 := Try.isAgg141
  z46 := Try.sizeOf141
  v46 := Try.zeroValue141
  t53 := Try.underlying179
  a53 := Try.isAgg179
  z53 := Try.sizeOf179
  v53 := Try.zeroValue179 }
/-- bits.Len64: "Len64 returns the minimum number of bits required to represent x; the result is 0 for x == 0.": IT RETURNS 'Lib.bitLen x'; the world is as it was. ('h0', 'h1': x is a uint64.) (LAID: no walk: one application.) -/
theorem Try.bits_Len64 (x : Int) (w : World) (h0 : 0 ≤ x) (h1 : x ≤ 18446744073709551615) :
    Calls Try.prog 148 #[.int .u64 x] w fun e w' => e = .returned (.int .i64 (Lib.bitLen x.toNat)) ∧ w' = w := Any.bits_Len64 Try.lays129 x w h0 h1
def Try.lays189_ren : Go.Shelf.Ren := ⟨fun | 189 => 77 | 125 => 118 | 257 => 117 | 128 => 147 | 129 => 148 | 294 => 138 | 295 => 139 | 296 => 140 | 297 => 141 | 298 => 142 | 299 => 143 | 216 => 144 | 300 => 145 | 301 => 146 | 328 => 156 | 329 => 157 | 330 => 158 | 331 => 159 | 332 => 160 | 215 => 161 | 343 => 172 | n => n, fun | 28 => 22 | 3 => 3 | 46 => 141 | 0 => 0 | 51 => 77 | 53 => 179 | 4 => 4 | 183 => 202 | 182 => 201 | 131 => 207 | 5 => 5 | 9 => 9 | 218 => 216 | 222 => 220 | 228 => 234 | 229 => 235 | n => n, fun | n => n⟩
theorem Try.lays189 : Go.Proofs.Lays.n189 Try.prog Try.lays189_ren := {
  mixed := by kernel_rfl
  f125 := Try.func118.trans (congrArg some (by kernel_rfl))
  f128 := Try.func147.trans (congrArg some (by kernel_rfl))
  f129 := Try.func148.trans (congrArg some (by kernel_rfl))
  f189 := Try.func77.trans (congrArg some (by kernel_rfl))
  f215 := Try.func161.trans (congrArg some (by kernel_rfl))
  f216 := Try.func144.trans (congrArg some (by kernel_rfl))
  f257 := Try.func117.trans (congrArg some (by kernel_rfl))
  f294 := Try.func138.trans (congrArg some (by kernel_rfl))
  f295 := Try.func139.trans (congrArg some (by kernel_rfl))
  f296 := Try.func140.trans (congrArg some (by kernel_rfl))
  f297 := Try.func141.trans (congrArg some (by kernel_rfl))
  f298 := Try.func142.trans (congrArg some (by kernel_rfl))
  f299 := Try.func143.trans (congrArg some (by kernel_rfl))
  f300 := Try.func145.trans (congrArg some (by kernel_rfl))
  f301 := Try.func146.trans (congrArg some (by kernel_rfl))
  f328 := Try.func156.trans (congrArg some (by kernel_rfl))
  f329 := Try.func157.trans (congrArg some (by kernel_rfl))
  f330 := Try.func158.trans (congrArg some (by kernel_rfl))
  f331 := Try.func159.trans (congrArg some (by kernel_rfl))
  f332 := Try.func160.trans (congrArg some (by kernel_rfl))
  f343 := Try.func172.trans (congrArg some (by kernel_rfl))
  t0 := Try.underlying0
  a0 := Try.isAgg0
  z0 := Try.sizeOf0
  v0 := Try.zeroValue0
  t3 := Try.underlying3
  a3 := Try.isAgg3
  z3 := Try.sizeOf3
  v3 := Try.zeroValue3
  t4 := Try.underlying4
  a4 := Try.isAgg4
  z4 := Try.sizeOf4
  v4 := Try.zeroValue4
  t5 := Try.underlying5
  a5 := Try.isAgg5
  z5 := Try.sizeOf5
  v5 := Try.zeroValue5
  t9 := Try.underlying9
  a9 := Try.isAgg9
  z9 := Try.sizeOf9
  v9 := Try.zeroValue9
  t28 := Try.underlying22
  a28 := Try.isAgg22
  z28 := Try.sizeOf22
  v28 := Try.zeroValue22
  t46 := Try.underlying141
  a46 := Try.isAgg141
  z46 := Try.sizeOf141
  v46 := Try.zeroValue141
  t51 := Try.underlying77
  a51 := Try.isAgg77
  z51 := Try.sizeOf77
  v51 := Try.zeroValue77
  t53 := Try.underlying179
  a53 := Try.isAgg179
  z53 := Try.sizeOf179
  v53 := Try.zeroValue179
  t131 := Try.underlying207
  a131 := Try.isAgg207
  z131 := Try.sizeOf207
  v131 := Try.zeroValue207
  t182 := Try.underlying201
  a182 := Try.isAgg201
  z182 := Try.sizeOf201
  v182 := Try.zeroValue201
  t183 := Try.underlying202
  a183 := Try.isAgg202
  z183 := Try.sizeOf202
  v183 := Try.zeroValue202
  t218 := Try.underlying216
  a218 := Try.isAgg216
  z218 := Try.sizeOf216
  v218 := Try.zeroValue216
  t222 := Try.underlying220
  a222 := Try.isAgg220
  z222 := Try.sizeOf220
  v222 := Try.zeroValue220
  t228 := Try.underlying234
  a228 := Try.isAgg234
  z228 := Try.sizeOf234
  v228 := Try.zeroValue234
  t229 := Try.underlying235
  a229 := Try.isAgg235
  z229 := Try.sizeOf235
  v229 := Try.zeroValue235 }
open Go.Sort Go.RowKit in
theorem Try.slices_Sort_int (blk off cap : Nat) (zs : List Int) (w : World) (hH : Holds (Value.int .i64) w blk off zs.toArray) (hblk : blk < w.heap.size) (hsz : zs.length < 4611686018427387904) :
    Calls Try.prog 77 #[.slice (some ⟨blk, off, none⟩) zs.length cap] w fun e w' =>
      e = .returned (.tuple #[]) ∧ ∃ n os, w' = grow (putRow (Value.int .i64) (Sort.ahead w n) blk off (zs.mergeSort fun x y => decide (x ≤ y)).toArray) os := Any.slices_Sort_int Try.lays189 blk off cap zs w hH hblk hsz
def Try.lays206_ren : Go.Shelf.Ren := ⟨fun | 206 => 151 | n => n, fun | 9 => 9 | 4 => 4 | 3 => 3 | n => n, fun | n => n⟩
theorem Try.lays206 : Go.Proofs.Lays.n206 Try.prog Try.lays206_ren := {
  mixed := by kernel_rfl
  f206 := Try.func151.trans (congrArg some (by kernel_rfl))
  t3 := Try.underlying3
  a3 := Try.isAgg3
  z3 := Try.sizeOf3
  v3 := Try.zeroValue3
  t4 := Try.underlying4
  a4 := Try.isAgg4
  z4 := Try.sizeOf4
  v4 := Try.zeroValue4
  t9 := Try.underlying9
  a9 := Try.isAgg9
  z9 := Try.sizeOf9
  v9 := Try.zeroValue9 }
open Go.RowKit Go.Lib in
/-- internal/stringslite.HasPrefix (what strings.HasPrefix calls). (LAID: no walk: one application.) -/
theorem Try.stringslite_HasPrefix (s p : ByteArray) (w : World) :
    Calls Try.prog 151 #[.string s, .string p] w fun e w' => e = .returned (.bool (Lib.hasPrefix s.data.toList p.data.toList)) ∧ w' = w := Any.stringslite_HasPrefix Try.lays206 s p w
def Try.lays99_ren : Go.Shelf.Ren := ⟨fun | 99 => 124 | 206 => 151 | n => n, fun | 9 => 9 | 4 => 4 | 3 => 3 | n => n, fun | n => n⟩
theorem Try.lays99 : Go.Proofs.Lays.n99 Try.prog Try.lays99_ren := {
  mixed := by kernel_rfl
  f99 := Try.func124.trans (congrArg some (by kernel_rfl))
  f206 := Try.func151.trans (congrArg some (by kernel_rfl))
  t3 := Try.underlying3
  a3 := Try.isAgg3
  z3 := Try.sizeOf3
  v3 := Try.zeroValue3
  t4 := Try.underlying4
  a4 := Try.isAgg4
  z4 := Try.sizeOf4
  v4 := Try.zeroValue4
  t9 := Try.underlying9
  a9 := Try.isAgg9
  z9 := Try.sizeOf9
  v9 := Try.zeroValue9 }
open Go.RowKit Go.Lib in
/-- strings.HasPrefix: "HasPrefix reports whether the string s begins with prefix.": IT RETURNS 'Lib.hasPrefix s prefix'; the world is as it was. (LAID: no walk: one application.) -/
theorem Try.strings_HasPrefix (s p : ByteArray) (w : World) :
    Calls Try.prog 124 #[.string s, .string p] w fun e w' => e = .returned (.bool (Lib.hasPrefix s.data.toList p.data.toList)) ∧ w' = w := Any.strings_HasPrefix Try.lays99 s p w
def Try.lays264_ren : Go.Shelf.Ren := ⟨fun | 264 => 123 | n => n, fun | 53 => 179 | 46 => 141 | n => n, fun | n => n⟩
theorem Try.lays264 : Go.Proofs.Lays.n264 Try.prog Try.lays264_ren := {
  mixed := by kernel_rfl
  f264 := Try.func123.trans (congrArg some (by kernel_rfl))
  t46 := Try.underlying141
  a46 := Try.isAgg141
  z46 := Try.sizeOf141
  v46 := Try.zeroValue141
  t53 := Try.underlying179
  a53 := Try.isAgg179
  z53 := Try.sizeOf179
  v53 := Try.zeroValue179 }
open Go.RowKit Go.Lib in
theorem Try.bits_Mul64 (x y : Nat) (hx : x < 18446744073709551616) (hy : y < 18446744073709551616) (w : World) :
    Calls Try.prog 123 #[.int .u64 x, .int .u64 y] w fun e w' => e = .returned (.tuple #[.int .u64 ((x * y / 18446744073709551616 : Nat) : Int), .int .u64 ((x * y % 18446744073709551616 : Nat) : Int)]) ∧ w' = w := Any.bits_Mul64 Try.lays264 x y hx hy w
def Try.lays212_ren : Go.Shelf.Ren := ⟨fun | 212 => 88 | 263 => 122 | 264 => 123 | n => n, fun | 46 => 141 | 51 => 77 | 146 => 177 | 53 => 179 | 148 => 180 | n => n, fun | n => n⟩
theorem Try.lays212 : Go.Proofs.Lays.n212 Try.prog Try.lays212_ren := {
  mixed := by kernel_rfl
  f212 := Try.func88.trans (congrArg some (by kernel_rfl))
  f263 := Try.func122.trans (congrArg some (by kernel_rfl))
  f264 := Try.func123.trans (congrArg some (by kernel_rfl))
  t46 := Try.underlying141
  a46 := Try.isAgg141
  z46 := Try.sizeOf141
  v46 := Try.zeroValue141
  t51 := Try.underlying77
  a51 := Try.isAgg77
  z51 := Try.sizeOf77
  v51 := Try.zeroValue77
  t53 := Try.underlying179
  a53 := Try.isAgg179
  z53 := Try.sizeOf179
  v53 := Try.zeroValue179
  t146 := Try.underlying177
  a146 := Try.isAgg177
  z146 := Try.sizeOf177
  v146 := Try.zeroValue177
  t148 := Try.underlying180
  a148 := Try.isAgg180
  z148 := Try.sizeOf180
  v148 := Try.zeroValue180 }
open Go.RowKit Go.Lib in
/-- math/bits.Mul: "Mul returns the full-width product of x and y": on a machine of 64 bits: Mul64's. (LAID: no walk: one application.) -/
theorem Try.bits_Mul (x y : Nat) (hx : x < 18446744073709551616) (hy : y < 18446744073709551616) (w : World) :
    Calls Try.prog 88 #[.int .u64 x, .int .u64 y] w fun e w' => e = .returned (.tuple #[.int .u64 ((x * y / 18446744073709551616 : Nat) : Int), .int .u64 ((x * y % 18446744073709551616 : Nat) : Int)]) ∧ w' = w := Any.bits_Mul Try.lays212 x y hx hy w
def Try.lays105_ren : Go.Shelf.Ren := ⟨fun | 105 => 89 | 212 => 88 | 99 => 124 | 165 => 125 | 166 => 126 | 170 => 127 | 169 => 128 | 263 => 122 | 264 => 123 | 206 => 151 | 240 => 152 | 241 => 153 | 276 => 166 | 277 => 167 | n => n, fun | 9 => 9 | 3 => 3 | 4 => 4 | 20 => 20 | 0 => 0 | 46 => 141 | 109 => 142 | 5 => 5 | 72 => 186 | 76 => 190 | 51 => 77 | 146 => 177 | 53 => 179 | 148 => 180 | 70 => 183 | 37 => 184 | 75 => 189 | 127 => 212 | 164 => 225 | 80 => 105 | n => n, fun | n => n⟩
theorem Try.lays105 : Go.Proofs.Lays.n105 Try.prog Try.lays105_ren := {
  mixed := by kernel_rfl
  f99 := Try.func124.trans (congrArg some (by kernel_rfl))
  f105 := Try.func89.trans (congrArg some (by kernel_rfl))
  f165 := Try.func125.trans (congrArg some (by kernel_rfl))
  f166 := Try.func126.trans (congrArg some (by kernel_rfl))
  f169 := Try.func128.trans (congrArg some (by kernel_rfl))
  f170 := Try.func127.trans (congrArg some (by kernel_rfl))
  f206 := Try.func151.trans (congrArg some (by kernel_rfl))
  f212 := Try.func88.trans (congrArg some (by kernel_rfl))
  f240 := Try.func152.trans (congrArg some (by kernel_rfl))
  f241 := Try.func153.trans (congrArg some (by kernel_rfl))
  f263 := Try.func122.trans (congrArg some (by kernel_rfl))
  f264 := Try.func123.trans (congrArg some (by kernel_rfl))
  f276 := Try.func166.trans (congrArg some (by kernel_rfl))
  f277 := Try.func167.trans (congrArg some (by kernel_rfl))
  t0 := Try.underlying0
  a0 := Try.isAgg0
  z0 := Try.sizeOf0
  v0 := Try.zeroValue0
  t3 := Try.underlying3
  a3 := Try.isAgg3
  z3 := Try.sizeOf3
  v3 := Try.zeroValue3
  t4 := Try.underlying4
  a4 := Try.isAgg4
  z4 := Try.sizeOf4
  v4 := Try.zeroValue4
  t5 := Try.underlying5
  a5 := Try.isAgg5
  z5 := Try.sizeOf5
  v5 := Try.zeroValue5
  t9 := Try.underlying9
  a9 := Try.isAgg9
  z9 := Try.sizeOf9
  v9 := Try.zeroValue9
  t20 := Try.underlying20
  a20 := Try.isAgg20
  z20 := Try.sizeOf20
  v20 := Try.zeroValue20
  t37 := Try.underlying184
  a37 := Try.isAgg184
  z37 := Try.sizeOf184
  v37 := Try.zeroValue184
  t46 := Try.underlying141
  a46 := Try.isAgg141
  z46 := Try.sizeOf141
  v46 := Try.zeroValue141
  t51 := Try.underlying77
  a51 := Try.isAgg77
  z51 := Try.sizeOf77
  v51 := Try.zeroValue77
  t53 := Try.underlying179
  a53 := Try.isAgg179
  z53 := Try.sizeOf179
  v53 := Try.zeroValue179
  t70 := Try.underlying183
  a70 := Try.isAgg183
  z70 := Try.sizeOf183
  v70 := Try.zeroValue183
  t72 := Try.underlying186
  a72 := Try.isAgg186
  z72 := Try.sizeOf186
  v72 := Try.zeroValue186
  t75 := Try.underlying189
  a75 := Try.isAgg189
  z75 := Try.sizeOf189
  v75 := Try.zeroValue189
  t76 := Try.underlying190
  a76 := Try.isAgg190
  z76 := Try.sizeOf190
  v76 := Try.zeroValue190
  t109 := Try.underlying142
  a109 := Try.isAgg142
  z109 := Try.sizeOf142
  v109 := Try.zeroValue142
  t127 := Try.underlying212
  a127 := Try.isAgg212
  z127 := Try.sizeOf212
  v127 := Try.zeroValue212
  t146 := Try.underlying177
  a146 := Try.isAgg177
  z146 := Try.sizeOf177
  v146 := Try.zeroValue177
  t148 := Try.underlying180
  a148 := Try.isAgg180
  z148 := Try.sizeOf180
  v148 := Try.zeroValue180
  t164 := Try.underlying225
  a164 := Try.isAgg225
  z164 := Try.sizeOf225
  v164 := Try.zeroValue225 }
theorem Try.Builder_Extra_105 : Builder.Extra Try.prog Try.lays105_ren := {
  sizeBuilder := by kernel_rfl
  liesBuilder := by kernel_rfl
  t5 := Try.underlying5
  a5 := Try.isAgg5
  z5 := Try.sizeOf5
  v5 := Try.zeroValue5
  infoByte := by kernel_rfl
  cellsByte := by kernel_rfl
  sizeByte := by kernel_rfl
  neB5 := by decide }
open Go.RowKit Go.Lib in
/-- THE MAIN CASE: at least two copies of a string that is not empty. (LAID: no walk: one application.) -/
theorem Try.strings_Repeat_main (s : ByteArray) (c : Nat) (w : World) (hc2 : 2 ≤ c) (hc : c ≤ 9223372036854775807) (hlen : s.size * c ≤ 140737488355328) (h0 : 0 < s.size) :
    Calls Try.prog 89 #[.string s, .int .i64 c] w fun e w' => e = .returned (.string ⟨(Lib.repeatL s.data.toList c).toArray⟩) ∧ Below w.heap.size w w' := Any.strings_Repeat_main Try.lays105 Try.Builder_Extra_105 s c w hc2 hc hlen h0
open Go.RowKit Go.Lib in
theorem Try.strings_Repeat_zero (s : ByteArray) (w : World) :
    Calls Try.prog 89 #[.string s, .int .i64 0] w fun e w' => e = .returned (.string ⟨#[]⟩) ∧ w' = w := Any.strings_Repeat_zero Try.lays105 s w
open Go.RowKit Go.Lib in
theorem Try.strings_Repeat_one (s : ByteArray) (w : World) :
    Calls Try.prog 89 #[.string s, .int .i64 1] w fun e w' => e = .returned (.string s) ∧ w' = w := Any.strings_Repeat_one Try.lays105 s w
open Go.RowKit Go.Lib in
/-- Copies of the empty string. (LAID: no walk: one application.) -/
theorem Try.strings_Repeat_empty (s : ByteArray) (c : Nat) (w : World) (hc2 : 2 ≤ c) (hc : c ≤ 9223372036854775807) (h0 : s.size = 0) :
    Calls Try.prog 89 #[.string s, .int .i64 c] w fun e w' => e = .returned (.string ⟨#[]⟩) ∧ w' = w := Any.strings_Repeat_empty Try.lays105 s c w hc2 hc h0
open Go.RowKit Go.Lib in
/-- count < 0: "It panics if count is negative". (LAID: no walk: one application.) -/
theorem Try.strings_Repeat_negative (s : ByteArray) (c : Int) (w : World) (hc : c < 0) :
    Calls Try.prog 89 #[.string s, .int .i64 c] w fun e w' => e = .panicked [{ v := repeatPanic Try.lays105_ren "strings: negative Repeat count", recovered := false }] ∧ w' = w := Any.strings_Repeat_negative Try.lays105 s c w hc
open Go.RowKit Go.Lib in
/-- len(s) * count is no int: ".. or if the result of (len(s) * count) overflows". (LAID: no walk: one application.) -/
theorem Try.strings_Repeat_overflow (s : ByteArray) (c : Nat) (w : World) (hc : c ≤ 9223372036854775807) (hs : s.size ≤ 9223372036854775807) (hbig : 9223372036854775807 < s.size * c) :
    Calls Try.prog 89 #[.string s, .int .i64 c] w fun e w' => e = .panicked [{ v := repeatPanic Try.lays105_ren "strings: Repeat output length overflow", recovered := false }] ∧ w' = w := Any.strings_Repeat_overflow Try.lays105 s c w hc hs hbig
open Go.RowKit Go.Lib in
/-- **strings.Repeat: count ≥ 0, the result within one allocation: count copies of s.** (LAID: no walk: one application.) -/
theorem Try.strings_Repeat (s : ByteArray) (c : Nat) (w : World) (hc : c ≤ 9223372036854775807) (hlen : s.size * c ≤ 140737488355328) :
    Calls Try.prog 89 #[.string s, .int .i64 c] w fun e w' => e = .returned (.string ⟨(Lib.repeatL s.data.toList c).toArray⟩) ∧ Below w.heap.size w w' := Any.strings_Repeat Try.lays105 Try.Builder_Extra_105 s c w hc hlen
def Try.laysNm215_ren : Go.Shelf.Ren := ⟨fun | 15 => 37 | n => n, fun | 22 => 22 | 3 => 3 | 4 => 4 | n => n, fun | n => n⟩
theorem Try.laysNm215 : Go.Proofs.Lays2.n15 Try.prog Try.laysNm215_ren := {
  mixed := by kernel_rfl
  f15 := Try.func37.trans (congrArg some (by kernel_rfl))
  t3 := Try.underlying3
  a3 := Try.isAgg3
  z3 := Try.sizeOf3
  v3 := Try.zeroValue3
  t4 := Try.underlying4
  a4 := Try.isAgg4
  z4 := Try.sizeOf4
  v4 := Try.zeroValue4
  t22 := Try.underlying22
  a22 := Try.isAgg22
  z22 := Try.sizeOf22
  v22 := Try.zeroValue22
  i3 := by kernel_rfl }
open Go.RowKit Go.Lib in
/-- slices.Clone at []int: "Clone returns a copy of the slice. The elements are copied using assignment, so this is a shallow clone. The result may have additional unused capacity. The result preserves the nilness of s.": OF A SLICE THAT IS NOT nil IT RETURNS A SLICE THAT IS NOT nil, OF THE SAME ELEMENTS, IN MEMORY OF THE CALL's OWN: in the how-to's words (6f): 'w'.ownsRow B e 1 v' n cells': v' begins at the head of a row among the blocks from B on (B: the heap's size at the call), not frozen, whose first cells are the elements · 'Below B w w'': below B all is as it was. The capacity is whatever the run-time gives. 'zs': what the cells behind the slice's address hold; 'zs.take n': its elements. (LAID: no walk: one application.) -/
theorem Try.slices_Clone_int (b off n c : Nat) (zs : List Int) (w : World) (hz : n ≤ zs.length) (hbig : n * 8 ≤ 140737488355328) (hc : ∀ j, j < zs.length → w.cell? ⟨b, off + j, none⟩ = some (.int .i64 (zs.getD j 0))) :
    Calls Try.prog 37 #[.slice (some ⟨b, off, none⟩) n c] w fun e w' => ∃ v', e = .returned v' ∧ w'.ownsRow w.heap.size 3 1 v' n ((zs.take n).map (Value.int .i64)) ∧ v' ≠ .slice none 0 0 ∧ Below w.heap.size w w' := Any.slices_Clone_int Try.laysNm215 b off n c zs w hz hbig hc
open Go.RowKit Go.Lib in
/-- The same at nil: nil comes back; the world is as it was. (LAID: no walk: one application.) -/
theorem Try.slices_Clone_int_nil (n c : Nat) (w : World) :
    Calls Try.prog 37 #[.slice none n c] w fun e w' => e = .returned (.slice none 0 0) ∧ w' = w := Any.slices_Clone_int_nil Try.laysNm215 n c w
def Try.laysNm216_ren : Go.Shelf.Ren := ⟨fun | 16 => 87 | n => n, fun | 24 => 103 | 9 => 9 | 4 => 4 | n => n, fun | n => n⟩
theorem Try.laysNm216 : Go.Proofs.Lays2.n16 Try.prog Try.laysNm216_ren := {
  mixed := by kernel_rfl
  f16 := Try.func87.trans (congrArg some (by kernel_rfl))
  t4 := Try.underlying4
  a4 := Try.isAgg4
  z4 := Try.sizeOf4
  v4 := Try.zeroValue4
  t9 := Try.underlying9
  a9 := Try.isAgg9
  z9 := Try.sizeOf9
  v9 := Try.zeroValue9
  t24 := Try.underlying103
  a24 := Try.isAgg103
  z24 := Try.sizeOf103
  v24 := Try.zeroValue103
  i9 := by kernel_rfl }
open Go.RowKit Go.Lib in
/-- slices.Clone at []string: "Clone returns a copy of the slice. The elements are copied using assignment, so this is a shallow clone. The result may have additional unused capacity. The result preserves the nilness of s.": OF A SLICE THAT IS NOT nil IT RETURNS A SLICE THAT IS NOT nil, OF THE SAME ELEMENTS, IN MEMORY OF THE CALL's OWN: in the how-to's words (6f): 'w'.ownsRow B e 1 v' n cells': v' begins at the head of a row among the blocks from B on (B: the heap's size at the call), not frozen, whose first cells are the elements · 'Below B w w'': below B all is as it was. The capacity is whatever the run-time gives. 'zs': what the cells behind the slice's address hold; 'zs.take n': its elements. (LAID: no walk: one application.) -/
theorem Try.slices_Clone_string (b off n c : Nat) (zs : List ByteArray) (w : World) (hz : n ≤ zs.length) (hbig : n * 16 ≤ 140737488355328) (hc : ∀ j, j < zs.length → w.cell? ⟨b, off + j, none⟩ = some (.string (zs.getD j ByteArray.empty))) :
    Calls Try.prog 87 #[.slice (some ⟨b, off, none⟩) n c] w fun e w' => ∃ v', e = .returned v' ∧ w'.ownsRow w.heap.size 9 1 v' n ((zs.take n).map (Value.string)) ∧ v' ≠ .slice none 0 0 ∧ Below w.heap.size w w' := Any.slices_Clone_string Try.laysNm216 b off n c zs w hz hbig hc
open Go.RowKit Go.Lib in
/-- The same at nil: nil comes back; the world is as it was. (LAID: no walk: one application.) -/
theorem Try.slices_Clone_string_nil (n c : Nat) (w : World) :
    Calls Try.prog 87 #[.slice none n c] w fun e w' => e = .returned (.slice none 0 0) ∧ w' = w := Any.slices_Clone_string_nil Try.laysNm216 n c w
open Go.RowKit Go.Lib in
/-- The same at a slice of length 0 that is not nil, WHATEVER ITS ADDRESS (no cell is asked for): a slice that is not nil and owns nothing comes back. (LAID: no walk: one application.) -/
theorem Try.slices_Clone_int_zero (a : Addr) (c : Nat) (w : World) :
    Calls Try.prog 37 #[.slice (some a) 0 c] w fun e w' => ∃ v', e = .returned v' ∧ w'.ownsRow w.heap.size 3 1 v' 0 [] ∧ v' ≠ .slice none 0 0 ∧ Below w.heap.size w w' := Any.slices_Clone_int_zero Try.laysNm215 a c w
open Go.RowKit Go.Lib in
/-- The same at a slice of length 0 that is not nil, WHATEVER ITS ADDRESS (no cell is asked for): a slice that is not nil and owns nothing comes back. (LAID: no walk: one application.) -/
theorem Try.slices_Clone_string_zero (a : Addr) (c : Nat) (w : World) :
    Calls Try.prog 87 #[.slice (some a) 0 c] w fun e w' => ∃ v', e = .returned v' ∧ w'.ownsRow w.heap.size 9 1 v' 0 [] ∧ v' ≠ .slice none 0 0 ∧ Below w.heap.size w w' := Any.slices_Clone_string_zero Try.laysNm216 a c w
def Try.laysNm220_ren : Go.Shelf.Ren := ⟨fun | 20 => 47 | n => n, fun | 22 => 22 | 3 => 3 | 4 => 4 | 0 => 0 | n => n, fun | n => n⟩
theorem Try.laysNm220 : Go.Proofs.Lays2.n20 Try.prog Try.laysNm220_ren := {
  mixed := by kernel_rfl
  f20 := Try.func47.trans (congrArg some (by kernel_rfl))
  t0 := Try.underlying0
  a0 := Try.isAgg0
  z0 := Try.sizeOf0
  v0 := Try.zeroValue0
  t3 := Try.underlying3
  a3 := Try.isAgg3
  z3 := Try.sizeOf3
  v3 := Try.zeroValue3
  t4 := Try.underlying4
  a4 := Try.isAgg4
  z4 := Try.sizeOf4
  v4 := Try.zeroValue4
  t22 := Try.underlying22
  a22 := Try.isAgg22
  z22 := Try.sizeOf22
  v22 := Try.zeroValue22
  i3 := by kernel_rfl }
open Go.RowKit Go.Lib Go.Sort in
/-- slices.Compact at []int, over an array: the library's two loops are walked. (LAID: no walk: one application.) -/
theorem Try.slices_Compact_int_arr (blk off cap : Nat) (d : Array Int) (w : World) (hH : Holds encI w blk off d) (hsz : d.size ≤ 9223372036854775807) (hcap : d.size ≤ cap) :
    Calls Try.prog 47 #[.slice (some ⟨blk, off, none⟩) d.size cap] w fun e w' => e = .returned (.slice (some ⟨blk, off, none⟩) (compactUpTo d d.size).length cap) ∧ ∃ q, w' = putRow encI (Sort.ahead w q) blk off (compactUpTo d d.size ++ List.replicate (d.size - (compactUpTo d d.size).length) 0).toArray := Any.slices_Compact_int_arr Try.laysNm220 blk off cap d w hH hsz hcap
open Go.RowKit Go.Lib Go.Sort in
/-- slices.Compact at []int: "Compact replaces consecutive runs of equal elements with a single copy. This is like the uniq command found on Unix. Compact modifies the contents of the slice s and returns the modified slice, which may have a smaller length. Compact zeroes the elements between the new length and the original length. The result preserves the nilness of s.": IT RETURNS THE SLICE CUT TO 'Lib.compact zs'; ITS CELLS HOLD 'Lib.compact zs', THEN ZERO VALUES up to the old length; all else is as it was, but for the count of draws. IN THE WORDS OF slices.Sort's CONTRACT ('Holds', 'putRow'): so the everyday 'slices.Sort(xs); xs = slices.Compact(xs)' goes from the one contract to the other. It asks 'zs.length ≤ cap' (every slice's: the reslicing 's[:k]' looks at it). Length 0, nil: '.._empty'. (LAID: no walk: one application.) -/
theorem Try.slices_Compact_int (blk off cap : Nat) (zs : List Int) (w : World) (hH : Holds (Value.int .i64) w blk off zs.toArray) (hsz : zs.length ≤ 9223372036854775807) (hcap : zs.length ≤ cap) :
    Calls Try.prog 47 #[.slice (some ⟨blk, off, none⟩) zs.length cap] w fun e w' => e = .returned (.slice (some ⟨blk, off, none⟩) (Lib.compact zs).length cap) ∧ ∃ q, w' = putRow (Value.int .i64) (Sort.ahead w q) blk off (Lib.compact zs ++ List.replicate (zs.length - (Lib.compact zs).length) 0).toArray := Any.slices_Compact_int Try.laysNm220 blk off cap zs w hH hsz hcap
open Go.RowKit Go.Lib Go.Sort in
/-- The same at a slice of length 0, a nil one too: it comes back as it is. (LAID: no walk: one application.) -/
theorem Try.slices_Compact_int_empty (a : Option Addr) (cap : Nat) (w : World) :
    Calls Try.prog 47 #[.slice a 0 cap] w fun e w' => e = .returned (.slice a 0 cap) ∧ w' = w := Any.slices_Compact_int_empty Try.laysNm220 a cap w
def Try.laysNm237_ren : Go.Shelf.Ren := ⟨fun | 37 => 161 | n => n, fun | 3 => 3 | 4 => 4 | n => n, fun | n => n⟩
theorem Try.laysNm237 : Go.Proofs.Lays2.n37 Try.prog Try.laysNm237_ren := {
  mixed := by kernel_rfl
  f37 := Try.func161.trans (congrArg some (by kernel_rfl))
  t3 := Try.underlying3
  a3 := Try.isAgg3
  z3 := Try.sizeOf3
  v3 := Try.zeroValue3
  t4 := Try.underlying4
  a4 := Try.isAgg4
  z4 := Try.sizeOf4
  v4 := Try.zeroValue4 }
open Go.RowKit Go.Lib in
/-- cmp.isNaN[int]: 'x != x': false. (LAID: no walk: one application.) -/
theorem Try.cmp_isNaN_int2 (x : Int) (w : World) :
    Calls Try.prog 161 #[.int .i64 x] w fun e w' => e = .returned (.bool false) ∧ w' = w := Any.cmp_isNaN_int2 Try.laysNm237 x w
def Try.laysNm231_ren : Go.Shelf.Ren := ⟨fun | 31 => 144 | 37 => 161 | n => n, fun | 3 => 3 | 4 => 4 | n => n, fun | n => n⟩
theorem Try.laysNm231 : Go.Proofs.Lays2.n31 Try.prog Try.laysNm231_ren := {
  mixed := by kernel_rfl
  f31 := Try.func144.trans (congrArg some (by kernel_rfl))
  f37 := Try.func161.trans (congrArg some (by kernel_rfl))
  t3 := Try.underlying3
  a3 := Try.isAgg3
  z3 := Try.sizeOf3
  v3 := Try.zeroValue3
  t4 := Try.underlying4
  a4 := Try.isAgg4
  z4 := Try.sizeOf4
  v4 := Try.zeroValue4 }
open Go.RowKit Go.Lib in
/-- cmp.Less[int]: "Less reports whether x is less than y.": 'x < y'; the world is as it was. (LAID: no walk: one application.) -/
theorem Try.cmp_Less_int2 (x y : Int) (w : World) :
    Calls Try.prog 144 #[.int .i64 x, .int .i64 y] w fun e w' => e = .returned (.bool (decide (x < y))) ∧ w' = w := Any.cmp_Less_int2 Try.laysNm231 x y w
open Go.RowKit Go.Lib Go.Sort in
/-- slices.Compact at []int, of an argument: the slice cut to 'Lib.compact (elements)'; the n cells hold that, then zeros. (LAID: no walk: one application.) -/
theorem Try.slices_Compact_int_cells (b off n c : Nat) (zs : List Int) (w : World) (hz : n ≤ zs.length) (hbig : n ≤ 9223372036854775807) (hcap : n ≤ c) (hc : ∀ j, j < zs.length → w.cell? ⟨b, off + j, none⟩ = some (.int .i64 (zs.getD j 0))) (hf : ∀ j, j < n → w.frozen? ⟨b, off + j, none⟩ = false) :
    Calls Try.prog 47 #[.slice (some ⟨b, off, none⟩) n c] w fun e w' => e = .returned (.slice (some ⟨b, off, none⟩) (Lib.compact (zs.take n)).length c) ∧ ∃ q, w' = (w.drewN q).setCells b off ((Lib.compact (zs.take n) ++ List.replicate (n - (Lib.compact (zs.take n)).length) 0).map (Value.int .i64)) := Any.slices_Compact_int_cells Try.laysNm220 b off n c zs w hz hbig hcap hc hf
open Go.RowKit Go.Sort in
/-- .. and plain. (LAID: no walk: one application.) -/
theorem Try.slices_Sort_int_none (p : Option Addr) (cap : Nat) (w : World) :
    Calls Try.prog 77 #[.slice p 0 cap] w fun e w' => e = .returned (.tuple #[]) ∧ w' = w := Any.slices_Sort_int_none Try.lays189 p cap w
def Try.laysSlE041_f37_ren : Go.Shelf.Ren := ⟨fun | 41 => 37 | n => n, fun | 22 => 22 | 23 => 3 | 4 => 4 | n => n, fun | n => n⟩
theorem Try.laysSlE041_f37 : Go.Proofs.SlLaysE0.n41 Try.prog Try.laysSlE041_f37_ren := {
  mixed := by kernel_rfl
  f41 := ⟨Try.f37.name, by decide, Try.func37.trans (congrArg some (by kernel_rfl))⟩
  t4 := Try.underlying4
  a4 := Try.isAgg4
  z4 := Try.sizeOf4
  v4 := Try.zeroValue4
  t22 := Try.underlying22
  a22 := Try.isAgg22
  z22 := Try.sizeOf22
  v22 := Try.zeroValue22 }
open Go.RowKit Go.Lib in
/-- slices.Clone: "Clone returns a copy of the slice. The elements are copied using assignment, so this is a shallow clone. The result may have additional unused capacity. The result preserves the nilness of s.": OF A SLICE THAT IS NOT nil IT RETURNS A SLICE THAT IS NOT nil, OF THE SAME CELLS, IN MEMORY OF THE CALL's OWN ('ownsRow': the how-to's 6f); below the heap's size at the call all is as it was. (LAID AT THE INSTANCE 'slices.Clone[[]int,int]': no walk: one application.) -/
theorem Try.slices_Clone_f37 (i0 : TypeInfo) (z : Value) (size bytes : Nat) (hi : Try.prog.info? 3 = some i0) (hz0 : i0.zero = some z) (hz1 : i0.size = size) (hz2 : i0.bytes = bytes) (hzs : z.cells.size = size) (hsz : 0 < size) (z23 : ∀ w, (Go.sizeOf 3).run Try.prog w = .ok size w) (b off n c : Nat) (news : List Value) (w : World) (hl : news.length = n * size) (hn : n ≤ maxLen) (hbig : n * bytes ≤ 140737488355328) (hc : ∀ j u, news[j]? = some u → w.cell? ⟨b, off + j, none⟩ = some u) (h1 : ∀ u ∈ news, u.oneCell' = true) :
    Calls Try.prog 37 #[.slice (some ⟨b, off, none⟩) n c] w fun e w' => ∃ v', e = .returned v' ∧ w'.ownsRow w.heap.size 3 size v' n news ∧ v' ≠ .slice none 0 0 ∧ Below w.heap.size w w' := AnyE.slices_Clone Try.laysSlE041_f37 i0 z size bytes hi hz0 hz1 hz2 hzs hsz z23 b off n c news w hl hn hbig hc h1
def Try.laysSlE041_f87_ren : Go.Shelf.Ren := ⟨fun | 41 => 87 | n => n, fun | 22 => 103 | 23 => 9 | 4 => 4 | n => n, fun | n => n⟩
theorem Try.laysSlE041_f87 : Go.Proofs.SlLaysE0.n41 Try.prog Try.laysSlE041_f87_ren := {
  mixed := by kernel_rfl
  f41 := ⟨Try.f87.name, by decide, Try.func87.trans (congrArg some (by kernel_rfl))⟩
  t4 := Try.underlying4
  a4 := Try.isAgg4
  z4 := Try.sizeOf4
  v4 := Try.zeroValue4
  t22 := Try.underlying103
  a22 := Try.isAgg103
  z22 := Try.sizeOf103
  v22 := Try.zeroValue103 }
open Go.RowKit Go.Lib in
/-- slices.Clone: "Clone returns a copy of the slice. The elements are copied using assignment, so this is a shallow clone. The result may have additional unused capacity. The result preserves the nilness of s.": OF A SLICE THAT IS NOT nil IT RETURNS A SLICE THAT IS NOT nil, OF THE SAME CELLS, IN MEMORY OF THE CALL's OWN ('ownsRow': the how-to's 6f); below the heap's size at the call all is as it was. (LAID AT THE INSTANCE 'slices.Clone[[]string,string]': no walk: one application.) -/
theorem Try.slices_Clone_f87 (i0 : TypeInfo) (z : Value) (size bytes : Nat) (hi : Try.prog.info? 9 = some i0) (hz0 : i0.zero = some z) (hz1 : i0.size = size) (hz2 : i0.bytes = bytes) (hzs : z.cells.size = size) (hsz : 0 < size) (z23 : ∀ w, (Go.sizeOf 9).run Try.prog w = .ok size w) (b off n c : Nat) (news : List Value) (w : World) (hl : news.length = n * size) (hn : n ≤ maxLen) (hbig : n * bytes ≤ 140737488355328) (hc : ∀ j u, news[j]? = some u → w.cell? ⟨b, off + j, none⟩ = some u) (h1 : ∀ u ∈ news, u.oneCell' = true) :
    Calls Try.prog 87 #[.slice (some ⟨b, off, none⟩) n c] w fun e w' => ∃ v', e = .returned v' ∧ w'.ownsRow w.heap.size 9 size v' n news ∧ v' ≠ .slice none 0 0 ∧ Below w.heap.size w w' := AnyE.slices_Clone Try.laysSlE041_f87 i0 z size bytes hi hz0 hz1 hz2 hzs hsz z23 b off n c news w hl hn hbig hc h1
open Go.RowKit Go.Lib in
/-- The same at nil: nil comes back; the world is as it was; nothing is asked of the element's type. (LAID AT THE INSTANCE 'slices.Clone[[]int,int]': no walk: one application.) -/
theorem Try.slices_Clone_nil_f37 (n c : Nat) (w : World) :
    Calls Try.prog 37 #[.slice none n c] w fun e w' => e = .returned (.slice none 0 0) ∧ w' = w := AnyE.slices_Clone_nil Try.laysSlE041_f37 n c w
open Go.RowKit Go.Lib in
/-- The same at nil: nil comes back; the world is as it was; nothing is asked of the element's type. (LAID AT THE INSTANCE 'slices.Clone[[]string,string]': no walk: one application.) -/
theorem Try.slices_Clone_nil_f87 (n c : Nat) (w : World) :
    Calls Try.prog 87 #[.slice none n c] w fun e w' => e = .returned (.slice none 0 0) ∧ w' = w := AnyE.slices_Clone_nil Try.laysSlE041_f87 n c w
end Go.Proofs

namespace Go.Proofs.Ytilmhjojbolbeaa.AM
open Go
set_option maxRecDepth 100000
def blankF : Str := List.replicate 256 0
theorem repeat_tri : TriS Try.prog 89 [.s [0], .i .i64 256] [] (fun r σ => r = .s blankF ∧ σ = []) := by
  refine tri_plain (vs0 := [.string ⟨#[0]⟩, .int .i64 256]) (v := .string ⟨blankF.toArray⟩) (by kernel_rfl) (fun g w ow vs h => ?_) (fun _ _ _ => rfl) rfl (fun w => ?_)
  · match vs, h with
    | [a, b], h => obtain rfl : a = _ := h.1; obtain rfl : b = _ := h.2.1; rfl
  · have := Try.strings_Repeat ⟨#[0]⟩ 256 w (by omega) (by decide)
    refine this.mono ?_
    rintro e w' ⟨rfl, h⟩
    exact ⟨rfl, h⟩
theorem blank_tri : TriS Try.prog 58 [] [] (fun r σ => ∃ s, s = blankF ∧ r = .s s ∧ σ = []) := by
  refine tri_of TT_ok mixed (OR := OR0) (fn := Try.f58) (c := body Try.f58) (by kernel_rfl) (by kernel_rfl) (by kernel_rfl) (by kernel_rfl) (by simp [Try.f58]) fun H Tri hH hTri => ?_
  cbv
  refine ⟨[], ⟨⟨rfl, rfl⟩, rfl⟩, _, _, ?_, ?_, _, hTri _ _ _ _ repeat_tri, ?_⟩
  · cbv
  · cbv
  rintro x σ ⟨rfl, rfl⟩
  obtain ⟨z, hz⟩ : ∃ z, z = blankF := ⟨_, rfl⟩
  rw [← hz]
  cbv
  exact fin_s ⟨z, rfl, rfl, rfl⟩
theorem get_tri (n at' w : Int) (f : Ix → Int) (hb : 0 ≤ at' ∧ at' + w ≤ n ∧ n ≤ 4096) (hw : w = 1 ∨ w = 2 ∨ w = 4) :
    TriS Try.prog 113 [.i .i64 at', .i .i64 w, .pt 0 0] ((0, .st [.pt 1 0] 148) :: textS 1 n f) (fun r σ => ∃ v, v = IntKind.i64.wrap (getF f at' w.toNat) ∧ r = .i .i64 v ∧ σ = (0, .st [.pt 1 0] 148) :: textS 1 n f) := by
  refine tri_of TT_ok mixed (OR := OR0) (fn := Try.f113) (c := body Try.f113) (by kernel_rfl) (by kernel_rfl) (by kernel_rfl) (by kernel_rfl) (by simp [Try.f113]) fun H Tri hH hTri => ?_
  cbv
  refine ⟨[1], ⟨⟨rfl, rfl⟩, rfl⟩, _, _, ?_, ?_, _, hTri _ _ _ _ (area_get n at' w f hb hw), ?_⟩
  · cbv
  · cbv
  rintro x σ ⟨v, hv, rfl, rfl⟩
  cbv
  obtain ⟨v1, hv1⟩ : ∃ v1, v1 = IntKind.i64.wrap v := ⟨_, rfl⟩
  rw [hH, ← hv1]
  refine ⟨_, _, ⟨v1, by rw [hv1, hv], rfl, rfl⟩, ?_⟩
  cbv
  simp
def OR73 : Nat → List (Nat × List Nat)
  | 7 => [(0, []), (1, []), (2, []), (3, [0, 1]), (4, [])]
  | 9 => [(0, []), (1, []), (2, [0]), (3, []), (4, []), (5, []), (6, []), (7, [6]), (8, [])]
  | _ => []
theorem open_blank : TriS Try.prog 73 [.s blankF] [] (fun r σ => r = .tu [.ag [.i .i64 0, .i .i64 0, .s []], .i .i64 0] ∧ σ = []) := by
  refine tri_of TT_ok mixed (OR := OR73) (fn := Try.f73) (c := body Try.f73) (by kernel_rfl) (by kernel_rfl) (by kernel_rfl) (by kernel_rfl) (by simp [Try.f73]) fun H Tri hH hTri => ?_
  obtain ⟨z, hz⟩ : ∃ z, z = blankF := ⟨_, rfl⟩
  have hl : z.length = 256 := by rw [hz]; simp [blankF]
  rw [← hz]
  cbv
  split
  · rename_i h
    simp only [hH, decide_eq_true_eq] at h
    exact absurd (congrArg Nat.cast hl) h
  cbv
  refine ⟨[], ⟨⟨rfl, rfl⟩, rfl⟩, _, _, ?_, ?_, _, hTri _ _ _ _ blank_tri, ?_⟩
  · cbv
  · cbv
  rintro x σ ⟨y, hy, rfl, rfl⟩
  obtain rfl : y = z := by rw [hy, hz]
  cbv
  split
  · cbv
    refine ⟨_, _, ⟨rfl, rfl⟩, ?_⟩
    cbv
  · rename_i h
    simp [hH] at h
theorem open_sealA (k n : Int) (b : Str) (hk : 1 ≤ k ∧ k ≤ 5) (hn : 0 ≤ n ∧ n < 1000) (hb : b.length ≤ 244) :
    TriS Try.prog 73 [.s (sealF k n b)] [] (fun r σ => r = .tu [.ag [.i .i64 k, .i .i64 n, .s b], .i .i64 0] ∧ σ = []) := by
  refine tri_of TT_ok mixed (OR := OR73) (fn := Try.f73) (c := body Try.f73) (by kernel_rfl) (by kernel_rfl) (by kernel_rfl) (by kernel_rfl) (by simp [Try.f73]) fun H Tri hH hTri => ?_
  have hl := seal_len k n b
  have hat : ∀ j : Int, 0 ≤ j → j < 252 → (((sealF k n b).getD j.toNat 0).toNat : Int) = sealCol k n b j := fun j h0 hj => by
    have := seal_at k n b (j := j.toNat) (by omega)
    rwa [Int.toNat_of_nonneg h0] at this
  have hdrop := seal_drop k n b
  have hseal := page_seal k n b hk hn hb
  obtain ⟨z, hz⟩ : ∃ z, z = sealF k n b := ⟨_, rfl⟩
  rw [← hz] at hl hat hdrop hseal ⊢
  have hk0 : (z.getD 0 0).toNat ≠ 0 := by
    have := hat 0 (by omega) (by omega)
    rw [show (0 : Int).toNat = 0 from rfl, col_kind n b, u32_id (by omega), (shr_div (by omega)).1, u8_mod] at this
    omega
  cbv
  split
  · rename_i h
    simp only [hH, decide_eq_true_eq] at h
    exact absurd (congrArg Nat.cast hl) h
  cbv
  refine ⟨[], ⟨⟨rfl, rfl⟩, rfl⟩, _, _, ?_, ?_, _, hTri _ _ _ _ blank_tri, ?_⟩
  · cbv
  · cbv
  rintro x σ ⟨y, hy, rfl, rfl⟩
  cbv
  split
  · rename_i h
    simp only [hH, decide_eq_true_eq] at h
    exfalso
    apply hk0
    rw [h, hy]
    decide
  cbv
  refine ⟨[], ⟨⟨rfl, rfl⟩, rfl⟩, _, _, ?_, ?_, _, hTri _ _ _ _ (area_of z (by omega)), ?_⟩
  · cbv
  · cbv
  rintro x σ ⟨f, hf, rfl, L, hL, rfl⟩
  obtain ⟨t0, ht0⟩ : ∃ t0, t0 = tailF z := ⟨_, rfl⟩
  cbv
  have hd0 : H (List UInt8) (List.drop (o0 (some 252)).toNat z) = t0 := by rw [hH, ht0, ← hdrop]; rfl
  have hzi : (NatCast.natCast z.length : Int) = 256 := by rw [hl]; rfl
  refine ⟨by rw [hH, hzi]; simp [o0], ?_⟩
  rw [hd0]
  refine ⟨[], ⟨⟨rfl, rfl⟩, rfl⟩, _, _, ?_, ?_, _, hTri _ _ _ _ (page_tail z hl), ?_⟩
  · cbv
  · cbv
  rintro x σ ⟨t1, ht1, rfl, rfl⟩
  obtain rfl : t1 = t0 := by rw [ht1, ht0]
  cbv
  refine ⟨⟨⟨by rw [hH, hzi]; simp [o0], hd0⟩, trivial⟩, ?_⟩
  split
  · rename_i h
    simp [hH] at h
  cbv
  have hLz : L = 256 := by rw [hL]; exact hzi
  clear hL
  have hcol : ∀ j : Int, 0 ≤ j → j < 252 → f [j] = sealCol k n b j := fun j h0 hj => (hf j).trans (hat j h0 hj)
  refine ⟨[141, 221], ⟨⟨rfl, rfl⟩, rfl⟩, _, _, ?_, ?_, _, hTri _ _ _ _ (get_tri L 2 2 f (by omega) (.inr (.inl rfl))), ?_⟩
  · cbv
  · cbv
  rintro x σ ⟨v1, hv1, rfl, rfl⟩
  have hv1' : v1 = b.length := by
    rw [hv1, show ((2 : Int).toNat) = 2 from rfl, getF_2 (v := b.length) (by omega) (by
      have := hcol 2 (by omega) (by omega); rw [(col_len k n b).1, u32_id (by omega)] at this; exact this) (by
      have := hcol 3 (by omega) (by omega); rw [(col_len k n b).2, u32_id (by omega)] at this; exact this)]
    exact IntWalk.i64_in _ (by omega)
  obtain ⟨hv2, hv3, hv4⟩ := castN hv1'
  clear hv1'
  cbv
  refine ⟨[221], ⟨⟨rfl, rfl⟩, rfl⟩, _, _, ?_, ?_, _, hTri _ _ _ _ (area_getTextA L 8 v1 f (by omega)), ?_⟩
  · cbv
  · cbv
  rintro x σ ⟨f1, b1, hf1, hb1, rfl, rfl⟩
  obtain rfl : b1 = b := by
    rw [hb1]
    apply List.ext_getElem?
    intro j
    by_cases hj : j < b.length
    · have h1 : f1 [(j : Int)] = ((b.getD j 0).toNat : Int) := by
        rw [hf1]
        exact (hcol ((j : Int) + 8) (by omega) (by omega)).trans (col_body k n b hj)
      simp [bytesOf, hv3, hj, h1]
    · rw [List.getElem?_eq_none (by rw [bytesOf_length, hv3]; omega), List.getElem?_eq_none (by omega)]
  cbv
  split
  · rename_i h
    simp [hH] at h
  cbv
  refine ⟨[141, 221], ⟨⟨rfl, rfl⟩, rfl⟩, _, _, ?_, ?_, _, hTri _ _ _ _ (get_tri L 0 1 f (by omega) (.inl rfl)), ?_⟩
  · cbv
  · cbv
  rintro x σ ⟨k1, hk1, rfl, rfl⟩
  obtain rfl : k1 = k := by
    rw [hk1, show ((1 : Int).toNat) = 1 from rfl, getF_1 (v := k) (by omega) (by
      have := hcol 0 (by omega) (by omega); rw [col_kind n b1, u32_id (by omega)] at this; exact this)]
    exact IntWalk.i64_in _ (by omega)
  cbv
  refine ⟨[141, 221], ⟨⟨rfl, rfl⟩, rfl⟩, _, _, ?_, ?_, _, hTri _ _ _ _ (get_tri L 4 4 f (by omega) (.inr (.inr rfl))), ?_⟩
  · cbv
  · cbv
  rintro x σ ⟨n1, hn1, rfl, rfl⟩
  obtain rfl : n1 = n := by
    obtain ⟨c4, c5, c6, c7⟩ := col_num k1 n b1
    rw [u32_id (by omega)] at c4 c5 c6 c7
    rw [hn1, show ((4 : Int).toNat) = 4 from rfl, getF_4 (v := n) (by omega) ((hcol 4 (by omega) (by omega)).trans c4) ((hcol 5 (by omega) (by omega)).trans c5) ((hcol 6 (by omega) (by omega)).trans c6) ((hcol 7 (by omega) (by omega)).trans c7)]
    exact IntWalk.i64_in _ (by omega)
  cbv
  refine ⟨[], ⟨⟨rfl, rfl⟩, rfl⟩, _, _, ?_, ?_, _, hTri _ _ _ _ hseal, ?_⟩
  · cbv
  · cbv
  rintro x σ ⟨z1, hz1, rfl, rfl⟩
  obtain rfl : z1 = z := hz1
  cbv
  split
  · rename_i h
    simp [hH] at h
  cbv
  split
  · rename_i h
    simp [hH] at h
  cbv
  refine ⟨_, _, ⟨rfl, rfl⟩, ?_⟩
  cbv
theorem open_seal (k n : Int) (b : Str) (hk : 1 ≤ k ∧ k ≤ 5) (hn : 0 ≤ n ∧ n < 1000) (hb : 0 < b.length ∧ b.length ≤ 244) :
    TriS Try.prog 73 [.s (sealF k n b)] [] (fun r σ => r = .tu [.ag [.i .i64 k, .i .i64 n, .s b], .i .i64 0] ∧ σ = []) := open_sealA k n b hk hn hb.2
end Go.Proofs.Ytilmhjojbolbeaa.AM

