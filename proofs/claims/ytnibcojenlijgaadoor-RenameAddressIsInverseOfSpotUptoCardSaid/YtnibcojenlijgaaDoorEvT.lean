/- The table of the functions that the evaluator runs; what is known of the package-level variable 'rename.none'. -/
import Derived.Test.YtnibcojenlijgaaDoorEv2
import Derived.Test.YtnibcojenlijgaaDoorProg
import Derived.KernelRfl
namespace Go.Proofs.YtnibcojenlijgaaDoor.Ev
open Go
def liveTab : List (Nat × List (Nat × List Nat)) :=
  [(10, [(4, [5])]),
   (11, [(7, [36])]),
   (14, [(6, [7, 21])]),
   (15, [(4, [8, 19])]),
   (16, [(5, [18])]),
   (17, [(2, [12])]),
   (18, [(4, [13])]),
   (19, [(7, [31])]),
   (21, [(7, [20])]),
   (23, [(4, [17])]),
   (24, [(3, [3, 8])]),
   (25, [(3, [16]), (6, [1000000])]),
   (32, [(4, [18])]),
   (45, [(2, [8])]),
   (55, [(4, [11])]),
   (62, [(3, [9, 10])]),
   (66, [(5, [3, 13])]),
   (71, [(19, [157])]),
   (74, [(2, [8])]),
   (78, [(2, [8])]),
   (79, [(3, [8])]),
   (81, [(2, [6])]),
   (88, [(2, [8])])]
def look2 (l : List (Nat × List (Nat × List Nat))) (f r : Nat) : List Nat :=
  match l with
  | [] => []
  | (k, t) :: rest => bif Nat.beq k f then look1 t r else look2 rest f r
where look1 : List (Nat × List Nat) → Nat → List Nat
  | [], _ => []
  | (k, t) :: rest, r => bif Nat.beq k r then t else look1 rest r
def gTab : Nat → Option (List AV)
  | 0 => some [.int .i64 (-1), .int .i64 (-1), .int .i64 (-1), .int .i64 (-1)]
  | _ => none
noncomputable def cfg : Cfg := ⟨Tryd.prog, gTab, look2 liveTab, fun _ => []⟩
noncomputable def tab (f : FuncId) : Option RFn := (Tryd.prog.funcs[f]?).bind (rFunc cfg f)
end Go.Proofs.YtnibcojenlijgaaDoor.Ev
