/- From the model's code to the evaluator's: types looked up, orders checked. Definitions. No condition. -/
import Derived.Test.YtnibcojenlijgaaGreatDoorEv1
namespace Go.Proofs.YtnibcojenlijgaaGreatDoor.Ev
open Go

/-- A constant; what is not known of it is 'top'. -/
def avOf : Nat → Value → AV
  | 0, _ => .top
  | n + 1, v => match v with
    | .bool b => .bool b
    | .int k n => .int k n
    | .string s => .str s
    | .pointer none => .nilp
    | .slice none 0 0 => .nils
    | .nilFunc => .nilf
    | .agg cs => .agg (cs.toList.map (avOf n))
    | _ => .top

structure Cfg where
  P : Program
  /-- what is known of package-level variables -/
  G : Nat → Option (List AV)
  /-- the slots that are carried through a loop, by the first region of its body -/
  live : FuncId → Nat → List Nat
  /-- literals of slices that are written to or appended to, by their slot -/
  lits : FuncId → List Nat

section
variable (C : Cfg)

def rOpd : Operand → Option Opd
  | .tmp t => some (.tmp t)
  | .const v => some (.con (avOf 4 v))
  | .func f => some (.func f)
  | .global g => match C.G g with | some cs => some (.con (.rp cs 0)) | none => none

def rOpds : List Operand → Option (List Opd) := mapO (rOpd C)
def rOpt : Option Operand → Option (Option Opd)
  | none => some none
  | some x => match rOpd C x with | some y => some (some y) | none => none

def isAggT (P : Program) (t : TypeId) : Option Bool :=
  match P.underlying t with
  | some (.struct _) | some (.array ..) => some true
  | some _ => some false
  | none => none
def sizeT (P : Program) (t : TypeId) : Option Nat := (P.info? t).map (·.size)
def bytesT (P : Program) (t : TypeId) : Option Nat := (P.info? t).map (·.bytes)
def zeroT (P : Program) (t : TypeId) : Option (List AV) :=
  match (P.info? t).bind (·.zero) with
  | some v => cellsO (avOf 4 v)
  | none => none

/-- The leaves of a struct that is compared by its parts in order. -/
def leavesFs (P : Program) (go : Nat → TypeId → Option (List (Nat × Nat))) (off tot : Nat) : List Field → Option (List (Nat × Nat))
  | [] => some []
  | f :: fs =>
    if f.name ≠ "_" ∧ f.offset + (sizeT P f.type).getD (tot + 1) ≤ tot ∧ 0 < (sizeT P f.type).getD 0 then
      match go (off + f.offset) f.type, leavesFs P go off tot fs with
      | some l, some r => some (l ++ r)
      | _, _ => none
    else none
def leavesT (P : Program) : Nat → Nat → TypeId → Option (List (Nat × Nat))
  | 0, _, _ => none
  | d + 1, off, t => match P.underlying t with
    | some (.int _) => some [(off, 0)]
    | some .bool => some [(off, 1)]
    | some .string => some [(off, 2)]
    | some (.struct fs) => if P.stoodInHeld t then none else leavesFs P (leavesT P d) off ((sizeT P t).getD 0) fs.toList
    | _ => none

def rParts3 (P : Program) (places : List (Nat × Nat)) : List (Nat × Operand) → Option (List (Nat × Nat × Opd))
  | [] => some []
  | (i, x) :: r => match places[i]?, rOpd C x, rParts3 P places r with
    | some (off, sz), some y, some r => some ((off, sz, y) :: r)
    | _, _, _ => none
def rParts2 : List (Nat × Operand) → Option (List (Nat × Opd))
  | [] => some []
  | (i, x) :: r => match rOpd C x, rParts2 r with
    | some y, some r => some ((i, y) :: r)
    | _, _ => none
def placesT (P : Program) (t : TypeId) : Option (List (Nat × Nat)) :=
  match P.underlying t with
  | some (.struct fs) => mapO (fun (f : Field) => match sizeT P f.type with | some s => some (f.offset, s) | none => none) fs.toList
  | some (.array n e) => match sizeT P e with | some s => some ((List.range n).map fun i => (i * s, s)) | none => none
  | _ => none

def r1 (x : Operand) (k : Opd → RO) : Option RO := match rOpd C x with | some y => some (k y) | none => none
def r2 (x y : Operand) (k : Opd → Opd → RO) : Option RO := match rOpd C x, rOpd C y with | some x, some y => some (k x y) | _, _ => none
def mayCmp : BinOp → Bool
  | .eql | .neq => true
  | _ => false
def isNeq : BinOp → Bool
  | .neq => true
  | _ => false

def isFunc : TypeDesc → Bool
  | .func .. => true
  | _ => false

def litHere (f : FuncId) : Option Tmp → Bool
  | some t => (C.lits f).contains t
  | none => false

def rOp (f : FuncId) (dst : Option Tmp) (op : Op) : Option RO :=
  match op with
  | .move x | .assign x => r1 C x .mov
  | .nilCheck x => r1 C x .nck
  | .pick c a b => match rOpd C c, rOpd C a, rOpd C b with | some c, some a, some b => some (.pick c a b) | _, _, _ => none
  | .alloc t => match zeroT C.P t with | some z => some (.alloc z) | none => none
  | .box t x => match sizeT C.P t with | some s => r1 C x (.box s) | none => none
  | .build t ps => match zeroT C.P t, placesT C.P t with
    | some z, some pl => match rParts3 C C.P pl ps.toList with | some ps => some (.build z ps) | none => none
    | _, _ => none
  | .buildSlice t n ps => match C.P.underlying t with
    | some (.slice e) => match zeroT C.P e, sizeT C.P e, rParts2 C ps.toList with
      | some z, some s, some ps => if s = z.length ∧ n * s ≤ 16777216 ∧ 0 < n then
          (if (C.P.underlying e).any isFunc || litHere C f dst then some (.bslice z n ps) else some (.blit z n ps)) else none
      | _, _, _ => none
    | _ => none
  | .load t x => match isAggT C.P t, sizeT C.P t with | some a, some s => r1 C x (.load a s) | _, _ => none
  | .store t a v => match sizeT C.P t with | some s => r2 C a v (.store s) | none => none
  | .binOp op t x y _ => match C.P.underlying t with
    | some (.int _) | some .string => r2 C x y (.bin op)
    | some .bool => if mayCmp op then r2 C x y (.eqb (isNeq op)) else none
    | some (.struct _) => if mayCmp op ∧ C.P.eqGuardType C.P.depth t = false then (match leavesT C.P 4 0 t with | some ls => r2 C x y (.eqs (isNeq op) ls) | none => none) else none
    | _ => none
  | .unOp op _ x => r1 C x (.un op)
  | .convert s d x => match C.P.underlying s, C.P.underlying d with
    | some (.int _), some (.int k) => r1 C x (.conv k)
    | _, _ => none
  | .makeFunc (.func f) a c => match rOpds C a.toList, rOpds C c.toList with | some a, some c => some (.mkfn f a c) | _, _ => none
  | .fieldAddr t x f => match C.P.underlying t with
    | some (.struct fs) => match fs[f]? with
      | some g => match sizeT C.P g.type with | some s => if s = 0 then none else r1 C x (.fieldA g.offset) | none => none
      | none => none
    | _ => none
  | .field t x f => match C.P.underlying t with
    | some (.struct fs) => match fs[f]? with
      | some g => match isAggT C.P g.type, sizeT C.P g.type with | some a, some s => r1 C x (.field a g.offset s) | _, _ => none
      | none => none
    | _ => none
  | .indexAddr t x i => match C.P.underlying t with
    | some (.slice e) => match sizeT C.P e with | some s => r2 C x i (.idxA s) | none => none
    | some (.array n e) => match sizeT C.P e with | some s => r2 C x i (.idxAarr n s) | none => none
    | _ => none
  | .index t x i => match C.P.underlying t with
    | some .string => r2 C x i .idxS
    | some (.array n e) => match isAggT C.P e, sizeT C.P e with | some a, some s => r2 C x i (.idxV a n s) | _, _ => none
    | _ => none
  | .slice t x lo hi none => match C.P.underlying t with
    | some (.slice e) => match sizeT C.P e, rOpd C x, rOpt C lo, rOpt C hi with | some s, some x, some lo, some hi => some (.slc s x lo hi) | _, _, _, _ => none
    | some .string => match rOpd C x, rOpt C lo, rOpt C hi with | some x, some lo, some hi => some (.slcS x lo hi) | _, _, _ => none
    | _ => none
  | .extract x i => r1 C x (.ext · i)
  | .makeSlice t n c => match C.P.underlying t with
    | some (.slice e) => match zeroT C.P e, sizeT C.P e, bytesT C.P e with
      | some z, some s, some b => if s = z.length then r2 C n c (.mks z b) else none
      | _, _, _ => none
    | _ => none
  | .call c => match c.callee with
    | .builtin .len => match (c.argTypes[0]?).bind C.P.underlying, c.args.toList with
      | some (.slice _), [x] => r1 C x .lenL
      | some .string, [x] => r1 C x .lenS
      | some (.array n _), [_] => some (.mov (.con (.int .i64 n)))
      | _, _ => none
    | .builtin .append => match c.argTypes.toList, c.args.toList with
      | [t, u], [s, x] => match C.P.underlying t, C.P.underlying u with
        | some (.slice e), some (.slice _) => match sizeT C.P e, bytesT C.P e, zeroT C.P e with
          | some sz, some b, some z => if z.length = sz then r2 C s x (.app sz b) else none
          | _, _, _ => none
        | _, _ => none
      | _, _ => none
    | _ => none
  | _ => none

def rX (f : FuncId) (dst : Option Tmp) (op : Op) : Option RX :=
  match op with
  | .call { callee := .value g, args, .. } => match rOpd C g, rOpds C args.toList with | some g, some xs => some (.call g xs) | _, _ => none
  | op => match rOp C f dst op with | some r => some (.op r) | none => none

def dstLt (nt : Nat) : Option Tmp → Bool
  | some d => decide (d < nt)
  | none => true

def rROp (f : FuncId) (nt : Nat) (ops : Array Oper) (o : Oper) : Option ROp :=
  match rX C f o.dst o.op with
  | some r =>
    if dstLt nt o.dst = true then
      match o.guard with
      | none => some ⟨none, o.dst, r⟩
      | some (j, want) => match (ops[j]?).bind (·.dst) with
        | some t => some ⟨some (t, want), o.dst, r⟩
        | none => none
    else none
  | none => none

/-- The operations that must stand ahead of each one. -/
def ancs (ops : List Oper) : List (List Nat) → List (List Nat) 
  | acc => match ops with
    | [] => acc
    | o :: os => ancs os (acc ++ [o.after.toList.foldl (fun s e => if Region.binds .any e then e.on :: ((acc[e.on]?).getD [] ++ s) else s) []])
def edgesDown (ops : Array Oper) : Bool :=
  ops.zipIdx.all fun (o, i) => o.after.all fun e => !Region.binds .any e || decide (e.on < i)
def tmOf : Opd → List Nat
  | .tmp t => [t]
  | _ => []
def tmO : Option Opd → List Nat
  | some x => tmOf x
  | none => []
def looksRO : RO → List Nat
  | .mov x | .nck x | .box _ x | .load _ _ x | .un _ x | .conv _ x | .fieldA _ x | .field _ _ _ x | .ext x _ | .lenL x | .lenS x => tmOf x
  | .pick a b c => tmOf a ++ tmOf b ++ tmOf c
  | .alloc _ => []
  | .build _ ps => ps.flatMap fun p => tmOf p.2.2
  | .bslice _ _ ps | .blit _ _ ps => ps.flatMap fun p => tmOf p.2
  | .store _ x y | .bin _ x y | .eqs _ _ x y | .eqb _ x y | .idxA _ x y | .idxAarr _ _ x y | .idxS x y | .idxV _ _ _ x y | .app _ _ x y | .mks _ _ x y => tmOf x ++ tmOf y
  | .mkfn _ a c => a.flatMap tmOf ++ c.flatMap tmOf
  | .slc _ x lo hi | .slcS x lo hi => tmOf x ++ tmO lo ++ tmO hi
def looksR (r : ROp) : List Nat :=
  (match r.g with | some (t, _) => [t] | none => []) ++
  (match r.op with
   | .op o => looksRO o
   | .call f xs => tmOf f ++ xs.flatMap tmOf)
def apartR (x y : ROp) : Bool :=
  (match x.dst with | some d => !(looksR y).contains d && y.dst != some d | none => true) &&
  (match y.dst with | some d => !(looksR x).contains d | none => true)
/-- Pairs that no order binds. -/
def openPairs (an : List (List Nat)) (n : Nat) : List (Nat × Nat) :=
  (List.range n).flatMap fun i => (List.range i).filterMap fun p => if ((an[i]?).getD []).contains p then none else some (p, i)
def noHeap : RX → Bool
  | .call .. => false
  | .op r => match r with
    | .load .. | .store .. | .alloc .. | .box .. | .bslice .. | .mks .. | .app .. => false
    | _ => true

def rRegion (f : FuncId) (nt : Nat) (ops : Array Oper) (draw : Bool) : Option RC :=
  match mapO (rROp C f nt ops) ops.toList with
  | none => none
  | some rs =>
    if draw then
      let ps := openPairs (ancs ops.toList []) ops.size
      if edgesDown ops && ps.all (fun p => match rs[p.1]?, rs[p.2]? with | some a, some b => apartR a b | _, _ => false) then
        some (.dops rs (ps.filter fun p => match rs[p.1]?, rs[p.2]? with | some a, some b => !(noHeap a.op || noHeap b.op) | _, _ => true))
      else none
    else some (.ops rs)

def writesR : RC → List Nat
  | .ops os | .dops os _ => dstsOf os
  | .seq a b | .cond _ a b => writesR a ++ writesR b
  | .block _ b => writesR b
  | .loop _ _ b => writesR b
  | .rawloop b => writesR b
  | _ => []
def firstRegion : Code → Nat
  | .region id _ _ => id
  | .seq a _ => firstRegion a
  | .block _ b | .loop b | .scope b => firstRegion b
  | _ => 0

def rCode (f : FuncId) (nt : Nat) : Code → Option RC
  | .skip => some .skip
  | .region _ ops draw => rRegion C f nt ops draw
  | .seq a b => match rCode f nt a, rCode f nt b with | some a, some b => some (.seq a b) | _, _ => none
  | .cond c a b => match rOpd C c, rCode f nt a, rCode f nt b with | some c, some a, some b => some (.cond c a b) | _, _, _ => none
  | .block id b => match rCode f nt b with | some b => some (.block id b) | none => none
  | .loop b => match rCode f nt b with | some r => if C.live f (firstRegion b) = [1000000] then some (.rawloop r) else some (.loop (writesR r).eraseDups (C.live f (firstRegion b)) r) | none => none
  | .exit id => some (.exit id)
  | .label _ => some .skip
  | .ret => some .ret
  | _ => none

def rRes (P : Program) : ResultVar → Option RRes
  | .tmp t => some (.tmp t)
  | .cell a t => match isAggT P t, sizeT P t with | some g, some s => some (.cell a g s) | _, _ => none

def rFunc (f : FuncId) (fn : Func) : Option RFn :=
  match fn.body with
  | none => none
  | some c => if fn.name == "runtime.NumGoroutine" then none else match rCode C f fn.ntmps c, mapO (rRes C.P) fn.results.toList with
    | some r, some res => some ⟨fn.params.size + fn.nfree, r, res⟩
    | _, _ => none

end
end Go.Proofs.YtnibcojenlijgaaGreatDoor.Ev
