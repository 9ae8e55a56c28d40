/- The table of the functions that the evaluator runs; what is known of the package-level variable 'rename.none'. -/
import Derived.Test.YtnibcojenlijgaaGreatDoorEv2
import Derived.Test.YtnibcojenlijgaaGreatDoorProg
import Derived.KernelRfl
namespace Go.Proofs.YtnibcojenlijgaaGreatDoor.Ev
open Go
def liveTab : List (Nat × List (Nat × List Nat)) :=
  [(3, [(22, [17, 18, 20])]),
   (4, [(10, [10, 11])]),
   (6, [(7, [36])]),
   (7, [(6, [5])]),
   (11, [(2, [6]), (6, [8])]),
   (12, [(6, [7, 21])]),
   (13, [(4, [8, 19])]),
   (14, [(5, [6])]),
   (15, [(5, [18])]),
   (16, [(2, [12])]),
   (17, [(3, [3, 4])]),
   (18, [(4, [3])]),
   (21, [(2, [3]), (5, [4])]),
   (24, [(7, [20])]),
   (26, [(4, [17])]),
   (27, [(3, [3, 8])]),
   (28, [(3, [16]), (6, [1000000])]),
   (30, [(6, [5]), (20, [7]), (29, [10])]),
   (31, [(4, [3])]),
   (32, [(2, [5])]),
   (33, [(4, [13])]),
   (34, [(7, [31])]),
   (36, [(3, [9, 10])]),
   (39, [(2, [3])]),
   (42, [(2, [9])]),
   (47, [(20, [6, 7]), (26, [9])]),
   (54, [(4, [18])]),
   (67, [(2, [8])]),
   (77, [(4, [11])]),
   (84, [(2, [8])]),
   (88, [(1, [0])]),
   (97, [(2, [3])]),
   (98, [(5, [3, 13])]),
   (103, [(19, [157])]),
   (111, [(2, [8])]),
   (112, [(3, [8])]),
   (114, [(2, [6])]),
   (121, [(2, [8])])]
def look2 (l : List (Nat × List (Nat × List Nat))) (f r : Nat) : List Nat :=
  match l with
  | [] => []
  | (k, t) :: rest => bif Nat.beq k f then look1 t r else look2 rest f r
where look1 : List (Nat × List Nat) → Nat → List Nat
  | [], _ => []
  | (k, t) :: rest, r => bif Nat.beq k r then t else look1 rest r
def gTab : Nat → Option (List AV)
  | 0 => some [.int .i64 (-1), .int .i64 (-1), .int .i64 (-1), .int .i64 (-1)]
  | _ => none
noncomputable def cfg : Cfg := ⟨Tryz.prog, gTab, look2 liveTab, fun _ => []⟩
noncomputable def tab (f : FuncId) : Option RFn := (Tryz.prog.funcs[f]?).bind (rFunc cfg f)
end Go.Proofs.YtnibcojenlijgaaGreatDoor.Ev
