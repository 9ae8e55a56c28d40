/- An evaluator over abstract values for the model's code: definitions. No condition. -/
import Derived.Calls
import Derived.Tactics
namespace Go.Proofs.YtnibcojenlijgaaGreatDoor.Ev
open Go

/-- Abstract values: trees of data, with references (`ptr`, `sl`) into an abstract heap. -/
inductive AV where
  | top
  | bool (b : Bool)
  | int (k : IntKind) (n : Int)
  | str (s : ByteArray)
  | agg (cs : List AV)
  | tup (vs : List AV)
  | rs (es : List (List AV))
  | rp (cs : List AV) (off : Nat)
  | sl (l off n : Nat) (cap : Option Nat) (sz : Nat)
  | ptr (l i off : Nat)
  | nils
  | nilp
  | nilf
  | fn (f : FuncId) (first captured : List AV)
  deriving Inhabited

/-- A value of one cell. -/
def one : AV → Bool
  | .top | .agg _ | .tup _ => false
  | _ => true
def oneL : List AV → Bool
  | [] => true
  | v :: vs => one v && oneL vs
/-- The cells of a value that can be stored. -/
def cellsO : AV → Option (List AV)
  | .top | .tup _ => none
  | .agg cs => bif oneL cs then some cs else none
  | v => some [v]

structure Blk where
  sz : Nat
  es : List (List AV)

structure Hp where
  blk : List (Nat × Blk)
  next : Nat

def alook : List (Nat × Blk) → Nat → Option Blk
  | [], _ => none
  | (k, b) :: r, l => bif Nat.beq k l then some b else alook r l
def Hp.get (h : Hp) (l : Nat) : Option Blk := alook h.blk l
def adel : List (Nat × Blk) → Nat → List (Nat × Blk)
  | [], _ => []
  | (k, b) :: r, l => bif Nat.beq k l then adel r l else (k, b) :: adel r l
def aset : List (Nat × Blk) → Nat → Blk → List (Nat × Blk)
  | [], _, _ => []
  | (k, b) :: r, l, c => bif Nat.beq k l then (k, c) :: r else (k, b) :: aset r l c
def ains (l : Nat) (b : Blk) : List (Nat × Blk) → List (Nat × Blk)
  | [] => [(l, b)]
  | (k, c) :: r => bif Nat.blt k l then (l, b) :: (k, c) :: r else (k, c) :: ains l b r
def Hp.new (h : Hp) (l : Nat) (b : Blk) : Hp := ⟨ains l b h.blk, h.next⟩
def Hp.set (h : Hp) (l : Nat) (b : Blk) : Hp := ⟨aset h.blk l b, h.next⟩
def Hp.del (h : Hp) (l : Nat) : Hp := ⟨adel h.blk l, h.next⟩

abbrev Env := Nat → AV
def upd (e : Env) (t : Nat) (v : AV) : Env := fun k => bif Nat.beq k t then v else e k
def updO (e : Env) (t : Option Nat) (v : AV) : Env := match t with | some t => upd e t v | none => e

structure St where
  env : Env
  h : Hp

inductive Opd where
  | tmp (t : Nat)
  | con (v : AV)
  | func (f : FuncId)

def Opd.ev (e : Env) : Opd → AV
  | .tmp t => e t
  | .con v => v
  | .func f => .fn f [] []

/-- An operation, its types looked up. 'eqs': the leaves at which two structs are compared: offset and kind (0: int, 1: bool, 2: string). -/
inductive RO where
  | mov (x : Opd)
  | nck (x : Opd)
  | pick (c a b : Opd)
  | alloc (zero : List AV)
  | box (sz : Nat) (x : Opd)
  | build (zero : List AV) (parts : List (Nat × Nat × Opd))
  | bslice (zero : List AV) (n : Nat) (parts : List (Nat × Opd))
  | blit (zero : List AV) (n : Nat) (parts : List (Nat × Opd))
  | load (agg : Bool) (sz : Nat) (x : Opd)
  | store (sz : Nat) (a v : Opd)
  | bin (op : BinOp) (x y : Opd)
  | eqs (neg : Bool) (leaves : List (Nat × Nat)) (x y : Opd)
  | eqb (neg : Bool) (x y : Opd)
  | un (op : UnOp) (x : Opd)
  | conv (k : IntKind) (x : Opd)
  | mkfn (f : FuncId) (first captured : List Opd)
  | fieldA (off : Nat) (x : Opd)
  | field (agg : Bool) (off sz : Nat) (x : Opd)
  | idxA (sz : Nat) (x i : Opd)
  | idxAarr (len sz : Nat) (x i : Opd)
  | idxS (x i : Opd)
  | idxV (agg : Bool) (len sz : Nat) (x i : Opd)
  | slc (sz : Nat) (x : Opd) (lo hi : Option Opd)
  | slcS (x : Opd) (lo hi : Option Opd)
  | ext (x : Opd) (i : Nat)
  | lenL (x : Opd)
  | lenS (x : Opd)
  | app (sz bytes : Nat) (s x : Opd)
  | mks (zero : List AV) (bytes : Nat) (n c : Opd)
/-- An operation, or a call of a function. -/
inductive RX where
  | op (r : RO)
  | call (f : Opd) (xs : List Opd)

structure ROp where
  g : Option (Nat × Bool)
  dst : Option Nat
  op : RX

inductive RC where
  | skip
  | ops (os : List ROp)
  | dops (os : List ROp) (pairs : List (Nat × Nat))
  | seq (a b : RC)
  | cond (c : Opd) (t e : RC)
  | block (id : Nat) (b : RC)
  | loop (ws live : List Nat) (b : RC)
  | rawloop (b : RC)
  | exit (id : Nat)
  | ret

inductive RRes where
  | tmp (t : Nat)
  | cell (t : Nat) (agg : Bool) (sz : Nat)

structure RFn where
  np : Nat
  body : RC
  res : List RRes

inductive Ex where
  | nrm
  | exit (id : Nat)
  | ret

/-! ### Freezing and flatness -/
mutual
def refFree : AV → Bool
  | .agg cs => refFreeL cs
  | .tup vs => refFreeL vs
  | .fn _ a b => refFreeL a && refFreeL b
  | .sl .. | .ptr .. => false
  | _ => true
def refFreeL : List AV → Bool
  | [] => true
  | v :: vs => refFree v && refFreeL vs
end
mutual
def flat : AV → Bool
  | .agg cs => flatL cs
  | .tup vs => flatL vs
  | .bool _ | .int .. | .str _ | .nils | .nilp | .nilf => true
  | _ => false
def flatL : List AV → Bool
  | [] => true
  | v :: vs => flat v && flatL vs
end
def refFreeLL : List (List AV) → Bool
  | [] => true
  | e :: es => refFreeL e && refFreeLL es

def mapO {α β : Type} (f : α → Option β) : List α → Option (List β)
  | [] => some []
  | x :: xs => match f x with
    | some y => match mapO f xs with
      | some ys => some (y :: ys)
      | none => none
    | none => none

/-- A value without references, as it reads now. -/
def frz (h : Hp) : Nat → AV → Option AV
  | 0, _ => none
  | n + 1, v =>
    bif refFree v then some v else
    match v with
    | .agg cs => match mapO (frz h n) cs with | some cs => some (.agg cs) | none => none
    | .tup cs => match mapO (frz h n) cs with | some cs => some (.tup cs) | none => none
    | .fn f a b => match mapO (frz h n) a, mapO (frz h n) b with | some a, some b => some (.fn f a b) | _, _ => none
    | .sl l off k _ _ => match h.get l with
      | some B => bif Nat.ble (off + k) B.es.length then
          (bif refFreeLL ((B.es.drop off).take k) then some (.rs ((B.es.drop off).take k)) else
            match mapO (mapO (frz h n)) ((B.es.drop off).take k) with | some es => some (.rs es) | none => none)
          else none
      | none => none
    | .ptr l i off => match h.get l with
      | some B => match B.es[i]? with
        | some cs => match mapO (frz h n) cs with | some cs => some (.rp cs off) | none => none
        | none => none
      | none => none
    | _ => none
def frzL (h : Hp) (vs : List AV) : Option (List AV) := bif refFreeL vs then some vs else mapO (frz h 6) vs

/-! ### Forgetting at a loop's head -/
mutual
def purge (n0 : Nat) : AV → AV
  | .agg cs => .agg (purgeL n0 cs)
  | .tup vs => .tup (purgeL n0 vs)
  | .fn f a b => .fn f (purgeL n0 a) (purgeL n0 b)
  | .sl l off n c z => bif Nat.blt l n0 then .sl l off n c z else .top
  | .ptr l i off => bif Nat.blt l n0 then .ptr l i off else .top
  | v => v
def purgeL (n0 : Nat) : List AV → List AV
  | [] => []
  | v :: vs => purge n0 v :: purgeL n0 vs
end
def purgeLL (n0 : Nat) : List (List AV) → List (List AV)
  | [] => []
  | e :: es => purgeL n0 e :: purgeLL n0 es
def purgeB (n0 : Nat) (b : Blk) : Blk := ⟨b.sz, bif refFreeLL b.es then b.es else purgeLL n0 b.es⟩
/-- The old blocks, purged. -/
def oldBlks (n0 : Nat) : List (Nat × Blk) → List (Nat × Blk)
  | [] => []
  | (l, b) :: r => bif Nat.blt l n0 then (l, purgeB n0 b) :: oldBlks n0 r else oldBlks n0 r
/-- The slots that are carried: a slice at the begin of a young block is carried with its block, which is renamed to the slot's place. -/
def carry (h : Hp) (n0 : Nat) (e : Env) : Nat → List Nat → List AV × List (Nat × Blk)
  | _, [] => ([], [])
  | j, t :: ts =>
    let r := carry h n0 e (j + 1) ts
    match e t with
    | .sl l off n c z =>
      bif Nat.blt l n0 then (.sl l off n c z :: r.1, r.2) else
      (match h.get l with
        | some b => bif twice ts e l then (.top :: r.1, r.2) else (.sl (n0 + j) off n c z :: r.1, r.2 ++ [(n0 + j, purgeB n0 b)])
        | none => (.top :: r.1, r.2))
    | v => (purge n0 v :: r.1, r.2)
where
  /-- another carried slot speaks of the same block -/
  twice (ts : List Nat) (e : Env) (l : Nat) : Bool := ts.any fun u => match e u with | .sl l' _ _ _ _ => Nat.beq l l' | _ => false
def pick1 (live : List Nat) (vs : List AV) (k : Nat) (d : AV) : AV :=
  match live, vs with
  | t :: ts, v :: vs => bif Nat.beq k t then v else pick1 ts vs k d
  | _, _ => d
def headEnv (ws live : List Nat) (env0 : Env) (vs : List AV) : Env :=
  fun k => pick1 live vs k (bif ws.any (Nat.beq k) then .top else env0 k)
/-- The state at a loop's head. -/
def headSt (ws live : List Nat) (env0 : Env) (n0 : Nat) (vs : List AV) (bs : List (Nat × Blk)) : St :=
  ⟨headEnv ws live env0 vs, ⟨bs, n0 + live.length⟩⟩
def canon (live : List Nat) (n0 : Nat) (s : St) : List AV × List (Nat × Blk) :=
  let r := carry s.h n0 s.env 0 live
  (r.1, r.2 ++ oldBlks n0 s.h.blk)

/-! ### The operations -/
def intBin (op : BinOp) (k : IntKind) (a b : Int) : Option AV :=
  match op with
  | .add => some (.int k (k.wrap (a + b)))
  | .sub => some (.int k (k.wrap (a - b)))
  | .mul => some (.int k (k.wrap (a * b)))
  | .quo => if b = 0 then none else some (.int k (k.wrap (a.tdiv b)))
  | .rem => if b = 0 then none else some (.int k (a.tmod b))
  | .and => some (.int k (k.wrap (BitVec.ofInt k.bits a &&& BitVec.ofInt k.bits b).toNat))
  | .or => some (.int k (k.wrap (BitVec.ofInt k.bits a ||| BitVec.ofInt k.bits b).toNat))
  | .xor => some (.int k (k.wrap (BitVec.ofInt k.bits a ^^^ BitVec.ofInt k.bits b).toNat))
  | .andNot => some (.int k (k.wrap (BitVec.ofInt k.bits a &&& ~~~ BitVec.ofInt k.bits b).toNat))
  | .eql => some (.bool (a == b))
  | .neq => some (.bool (a != b))
  | .lss => some (.bool (decide (a < b)))
  | .leq => some (.bool (decide (a ≤ b)))
  | .gtr => some (.bool (decide (a > b)))
  | .geq => some (.bool (decide (a ≥ b)))
  | _ => none
def shBin (op : BinOp) (k : IntKind) (a b : Int) : Option AV :=
  if b < 0 then none else
  match op with
  | .shl => some (.int k (k.wrap (a * 2 ^ (min b.toNat k.bits))))
  | .shr => some (.int k (a.fdiv (2 ^ (min b.toNat k.bits))))
  | _ => none
def strBin (op : BinOp) (a b : ByteArray) : Option AV :=
  match op with
  | .add => if ((a.size + b.size : Nat) : Int) > IntKind.i64.max then none else some (.str (a ++ b))
  | .eql => some (.bool (a.toList == b.toList))
  | .neq => some (.bool (!(a.toList == b.toList)))
  | .lss => some (.bool (Op.bytesLess a.toList b.toList))
  | .leq => some (.bool (Op.bytesLess a.toList b.toList || (a.toList == b.toList)))
  | .gtr => some (.bool (!(Op.bytesLess a.toList b.toList || (a.toList == b.toList))))
  | .geq => some (.bool (!(Op.bytesLess a.toList b.toList)))
  | _ => none
def avBin (op : BinOp) (x y : AV) : Option AV :=
  match x, y with
  | .int k a, .int k' b =>
    match op with
    | .shl => shBin .shl k a b
    | .shr => shBin .shr k a b
    | op => bif decide (k = k') then intBin op k a b else none
  | .str a, .str b => strBin op a b
  | _, _ => none
def avUn (op : UnOp) (x : AV) : Option AV :=
  match op, x with
  | .neg, .int k n => some (.int k (k.wrap (0 - n)))
  | .not, .bool b => some (.bool (!b))
  | .xor, .int k n => some (.int k (k.wrap (BitVec.ofInt k.bits (if k.signed then -1 else k.max) ^^^ BitVec.ofInt k.bits n).toNat))
  | _, _ => none
def eqLeaf (kind : Nat) (x y : AV) : Option Bool :=
  match kind, x, y with
  | 0, .int k a, .int k' b => bif decide (k = k') then some (a == b) else none
  | 1, .bool a, .bool b => some (a == b)
  | 2, .str a, .str b => some (a.toList == b.toList)
  | _, _, _ => none
def eqLeaves : List (Nat × Nat) → List AV → List AV → Option Bool
  | [], _, _ => some true
  | (off, kind) :: r, xs, ys =>
    match xs[off]?, ys[off]? with
    | some x, some y => match eqLeaf kind x y with
      | some b => bif b then eqLeaves r xs ys else some false
      | none => none
    | _, _ => none
def notIf (n b : Bool) : Bool := bif n then !b else b
def setMany {α : Type} (off : Nat) : List α → List α → List α
  | [], cs => cs
  | v :: vs, cs => setMany (off + 1) vs (cs.set off v)
def fillA : List (Nat × Nat × AV) → List AV → Option (List AV)
  | [], cs => some cs
  | (off, sz, v) :: r, cs => match cellsO v with
    | some vs => bif Nat.beq vs.length sz && Nat.ble (off + sz) cs.length then fillA r (setMany off vs cs) else none
    | none => none
def fillS (sz : Nat) : List (Nat × AV) → List (List AV) → Option (List (List AV))
  | [], es => some es
  | (i, v) :: r, es => match cellsO v with
    | some vs => bif Nat.beq vs.length sz && Nat.blt i es.length then fillS sz r (es.set i vs) else none
    | none => none
def loadAt (h : Hp) (agg : Bool) (sz : Nat) (p : AV) : Option AV :=
  match p with
  | .ptr l i off => match h.get l with
    | some B => match B.es[i]? with
      | some cs => bif agg then (bif Nat.ble (off + sz) cs.length then some (.agg ((cs.drop off).take sz)) else none) else cs[off]?
      | none => none
    | none => none
  | .rp cs off => bif agg then (bif Nat.ble (off + sz) cs.length then some (.agg ((cs.drop off).take sz)) else none) else cs[off]?
  | _ => none
def storeAt (h : Hp) (sz : Nat) (p v : AV) : Option Hp :=
  match p, cellsO v with
  | .ptr l i off, some vs => match h.get l with
    | some B => match B.es[i]? with
      | some cs => bif Nat.beq vs.length sz && Nat.ble (off + sz) cs.length then some (h.set l ⟨B.sz, B.es.set i (setMany off vs cs)⟩) else none
      | none => none
    | none => none
  | _, _ => none
def elemsOf (h : Hp) : AV → Option (List (List AV))
  | .rs es => some es
  | .nils => some []
  | .sl l off n _ _ => match h.get l with
    | some B => bif Nat.ble (off + n) B.es.length then some ((B.es.drop off).take n) else none
    | none => none
  | _ => none
def lenA : AV → Option Nat
  | .rs es => some es.length
  | .nils => some 0
  | .sl _ _ n _ _ => some n
  | _ => none
def idxAddr (sz : Nat) (x : AV) (i : Int) : Option AV :=
  match x with
  | .rs es => if 0 ≤ i then (match es[i.toNat]? with | some cs => if cs.length = sz then some (.rp cs 0) else none | none => none) else none
  | .sl l off n _ z => if 0 ≤ i ∧ i < n then (bif Nat.beq z sz then some (.ptr l (off + i.toNat) 0) else none) else none
  | _ => none
/-- append: a slice that may grow in place is used up. -/
def appendA (h : Hp) (fr sz bytes : Nat) (s x : AV) : Option (AV × Hp) :=
  match elemsOf h s, elemsOf h x with
  | some old, some new =>
    if (old.length + new.length) * bytes ≤ 140737488355328 ∧ (∀ e ∈ old ++ new, e.length = sz) ∧ 0 < bytes ∧ 0 < sz then
      match s with
      | .nils => if new = [] then some (.nils, h) else some (.sl fr 0 (old.length + new.length) none sz, h.new fr ⟨sz, old ++ new⟩)
      | .sl l off n c z =>
        match c with
        | none => match h.get l with
          | some B => bif Nat.beq (off + n) B.es.length && Nat.beq off 0 && Nat.beq z sz then
              some (.sl fr 0 (old.length + new.length) none sz, (h.del l).new fr ⟨sz, old ++ new⟩) else none
          | none => none
        | some c => if n + new.length ≤ c then none else some (.sl fr 0 (old.length + new.length) none sz, h.new fr ⟨sz, old ++ new⟩)
      | _ => none
    else none
  | _, _ => none
def optInt (e : Env) (o : Option Opd) (d : Int) : Option Int :=
  match o with
  | none => some d
  | some x => match x.ev e with | .int _ n => some n | _ => none
def sliceA (sz : Nat) (x : AV) (lo hi : Int) : Option AV :=
  if 0 ≤ lo ∧ lo ≤ hi then
    match x with
    | .rs es => if hi ≤ es.length ∧ ∀ e ∈ es, e.length = sz then some (.rs ((es.take hi.toNat).drop lo.toNat)) else none
    | .sl l off n c z => if hi ≤ n ∧ z = sz then (if lo = hi then some (.rs []) else some (.sl l (off + lo.toNat) (hi.toNat - lo.toNat) (c.map (· - lo.toNat)) z)) else none
    | .nils => if hi = 0 then some (.rs []) else none
    | _ => none
  else none

def opds (e : Env) : List Opd → List AV
  | [] => []
  | x :: xs => x.ev e :: opds e xs
def parts3 (e : Env) : List (Nat × Nat × Opd) → List (Nat × Nat × AV)
  | [] => []
  | (a, b, x) :: r => (a, b, x.ev e) :: parts3 e r
def parts2 (e : Env) : List (Nat × Opd) → List (Nat × AV)
  | [] => []
  | (a, x) :: r => (a, x.ev e) :: parts2 e r

def withH (h : Hp) (v : Option AV) : Option (AV × Hp) := match v with | some v => some (v, h) | none => none

/-- An operation that calls nothing: its value and the heap; 'fr': the place of a new block. -/
def RO.step (e : Env) (h : Hp) (fr : Nat) : RO → Option (AV × Hp)
  | .mov x => some (x.ev e, h)
  | .nck x => match x.ev e with | .ptr l i o => some (.ptr l i o, h) | .rp cs o => some (.rp cs o, h) | .fn f a c => some (.fn f a c, h) | _ => none
  | .pick c a b => match c.ev e with | .bool t => some (bif t then a.ev e else b.ev e, h) | _ => none
  | .alloc z => bif oneL z then some (.ptr fr 0 0, h.new fr ⟨z.length, [z]⟩) else none
  | .box sz x => match cellsO (x.ev e) with
    | some cs => bif Nat.beq cs.length sz then some (.ptr fr 0 0, h.new fr ⟨sz, [cs]⟩) else none
    | none => none
  | .build z ps => match fillA (parts3 e ps) z with | some cs => some (.agg cs, h) | none => none
  | .bslice z n ps => bif oneL z && Nat.blt 0 z.length then (match fillS z.length (parts2 e ps) (List.replicate n z) with | some es => some (.sl fr 0 n (some n) z.length, h.new fr ⟨z.length, es⟩) | none => none) else none
  | .blit z n ps => bif oneL z && Nat.blt 0 z.length then (match fillS z.length (parts2 e ps) (List.replicate n z) with | some es => bif refFreeLL es then some (.rs es, h) else none | none => none) else none
  | .load a sz x => withH h (loadAt h a sz (x.ev e))
  | .store sz a v => match storeAt h sz (a.ev e) (v.ev e) with | some h' => some (.tup [], h') | none => none
  | .bin op x y => withH h (avBin op (x.ev e) (y.ev e))
  | .eqs neg ls x y => match x.ev e, y.ev e with
    | .agg xs, .agg ys => match eqLeaves ls xs ys with | some b => some (.bool (notIf neg b), h) | none => none
    | _, _ => none
  | .eqb neg x y => match x.ev e, y.ev e with
    | .bool a, .bool b => some (.bool (notIf neg (a == b)), h)
    | _, _ => none
  | .un op x => withH h (avUn op (x.ev e))
  | .conv k x => match x.ev e with | .int _ n => some (.int k (k.wrap n), h) | _ => none
  | .mkfn f a c => some (.fn f (opds e a) (opds e c), h)
  | .fieldA off x => match x.ev e with
    | .ptr l i o => some (.ptr l i (o + off), h)
    | .rp cs o => some (.rp cs (o + off), h)
    | _ => none
  | .field agg off sz x => match x.ev e with
    | .agg cs => bif agg then (bif Nat.ble (off + sz) cs.length then some (.agg ((cs.drop off).take sz), h) else none) else withH h cs[off]?
    | _ => none
  | .idxA sz x i => match i.ev e with | .int _ i => withH h (idxAddr sz (x.ev e) i) | _ => none
  | .idxAarr len sz x i => match x.ev e, i.ev e with
    | .ptr l j o, .int _ i => if 0 ≤ i ∧ i < len then some (.ptr l j (o + i.toNat * sz), h) else none
    | .rp cs o, .int _ i => if 0 ≤ i ∧ i < len then some (.rp cs (o + i.toNat * sz), h) else none
    | _, _ => none
  | .idxS x i => match x.ev e, i.ev e with
    | .str s, .int _ i => if 0 ≤ i then (match s[i.toNat]? with | some b => some (.int .u8 b.toNat, h) | none => none) else none
    | _, _ => none
  | .idxV agg len sz x i => match x.ev e, i.ev e with
    | .agg cs, .int _ i => if 0 ≤ i ∧ i < len then (bif agg then (bif Nat.ble (i.toNat * sz + sz) cs.length then some (.agg ((cs.drop (i.toNat * sz)).take sz), h) else none) else withH h cs[i.toNat * sz]?) else none
    | _, _ => none
  | .slc sz x lo hi => match lenA (x.ev e) with
    | some n => match optInt e lo 0, optInt e hi n with | some lo, some hi => withH h (sliceA sz (x.ev e) lo hi) | _, _ => none
    | none => none
  | .slcS x lo hi => match x.ev e with
    | .str s => match optInt e lo 0, optInt e hi s.size with
      | some lo, some hi => if 0 ≤ lo ∧ lo ≤ hi ∧ hi ≤ s.size then some (.str (s.extract lo.toNat hi.toNat), h) else none
      | _, _ => none
    | _ => none
  | .ext x i => match x.ev e with | .tup vs => withH h vs[i]? | _ => none
  | .lenL x => match lenA (x.ev e) with | some n => some (.int .i64 n, h) | none => none
  | .lenS x => match x.ev e with | .str s => some (.int .i64 s.size, h) | _ => none
  | .app sz b s x => appendA h fr sz b (s.ev e) (x.ev e)
  | .mks z b n c => match n.ev e, c.ev e with
    | .int .i64 n, .int .i64 c => if 0 ≤ n ∧ n = c ∧ n * b ≤ 140737488355328 ∧ 0 < b ∧ 0 < z.length ∧ n ≤ 9223372036854775807 then (bif oneL z then some (.sl fr 0 n.toNat (some n.toNat) z.length, h.new fr ⟨z.length, List.replicate n.toNat z⟩) else none) else none
    | _, _ => none

abbrev Orc := FuncId → List AV → Option AV

def callA (orc : Orc) (h : Hp) (f : AV) (xs : List AV) : Option AV :=
  match f with
  | .fn f a c =>
    bif refFreeL (a ++ xs ++ c) then orc f (a ++ xs ++ c) else
    match frzL h (a ++ xs ++ c) with
    | some ys => match orc f ys with
      | some r => bif flat r then some r else none
      | none => none
    | none => none
  | _ => none

def RX.run (orc : Orc) (e : Env) (h : Hp) (fr : Nat) : RX → Option (AV × Hp)
  | .call f xs => withH h (callA orc h (f.ev e) (opds e xs))
  | .op o => o.step e h fr

/-- Is the operation carried out? -/
def guardA (e : Env) : Option (Nat × Bool) → Option Bool
  | none => some true
  | some (t, want) => match e t with
    | .bool b => some (b == want)
    | .top => none
    | _ => some false

/-- One operation of a region; 'fr': the place of its new block. -/
def ev1 (orc : Orc) (fr : Nat) (o : ROp) (s : St) : Option St :=
  match guardA s.env o.g with
  | some true => match o.op.run orc s.env s.h fr with
    | some (v, h) => some ⟨updO s.env o.dst v, h⟩
    | none => none
  | some false => some ⟨updO s.env o.dst (.tup []), s.h⟩
  | none => none
/-- A region's operations in the order of the text; the i-th one's new block lies at 'fr + i'. -/
def evOps (orc : Orc) : Nat → List ROp → St → Option St
  | fr, [], s => some ⟨s.env, ⟨s.h.blk, fr⟩⟩
  | fr, o :: os, s => match ev1 orc fr o s with
    | some s' => evOps orc (fr + 1) os s'
    | none => none

/-! ### Orders: which operations may change places -/
inductive Fp where
  | pure
  | fresh
  | rd (l : Nat)
  | rdAny
  | wr (l : Nat)
  | wrAny
def fpRO (n0 : Nat) (ins : List Nat) (e : Env) : RO → Fp
  | .load _ _ (.tmp t) => bif ins.any (Nat.beq t) then .rdAny else match e t with
    | .ptr l _ _ => bif Nat.blt l n0 then .rd l else .rdAny
    | .rp .. => .pure
    | _ => .rdAny
  | .load .. => .rdAny
  | .store _ (.tmp t) _ => bif ins.any (Nat.beq t) then .wrAny else match e t with
    | .ptr l _ _ => bif Nat.blt l n0 then .wr l else .wrAny
    | _ => .wrAny
  | .store .. => .wrAny
  | .alloc .. | .box .. | .bslice .. | .mks .. => .fresh
  | .app .. => .wrAny
  | _ => .pure
def fpOf (n0 : Nat) (ins : List Nat) (e : Env) : RX → Fp
  | .op r => fpRO n0 ins e r
  | .call .. => .rdAny
/-- The first stands ahead of the second in the text. -/
def compat : Fp → Fp → Bool
  | .pure, _ | _, .pure => true
  | .wrAny, _ | _, .wrAny => false
  | .rd _, .rd _ | .rd _, .rdAny | .rdAny, .rd _ | .rdAny, .rdAny => true
  | .fresh, .fresh | .rd _, .fresh | .rdAny, .fresh | .fresh, .rd _ | .wr _, .fresh | .fresh, .wr _ => true
  | .rd l, .wr k | .wr l, .rd k | .wr l, .wr k => !Nat.beq l k
  | .fresh, .rdAny | .rdAny, .wr _ | .wr _, .rdAny => false
def dstsOf : List ROp → List Nat
  | [] => []
  | o :: os => match o.dst with | some t => t :: dstsOf os | none => dstsOf os
def pairsOK (n0 : Nat) (e : Env) (os : List ROp) (ps : List (Nat × Nat)) : Bool :=
  ps.all fun p => match os[p.1]?, os[p.2]? with
    | some a, some b => compat (fpOf n0 (dstsOf os) e a.op) (fpOf n0 (dstsOf os) e b.op)
    | _, _ => false

def iter (body : St → Option (Ex × St)) (head : St → St) : Nat → St → Option (Ex × St)
  | 0, _ => none
  | k + 1, s => match body (head s) with
    | some (.nrm, s') => iter body head k s'
    | r => r

def evC (orc : Orc) (n : Nat) : RC → St → Option (Ex × St)
  | .skip, s => some (.nrm, s)
  | .ops os, s => match evOps orc s.h.next os s with | some s' => some (.nrm, s') | none => none
  | .dops os ps, s => bif pairsOK s.h.next s.env os ps then (match evOps orc s.h.next os s with | some s' => some (.nrm, s') | none => none) else none
  | .seq a b, s => match evC orc n a s with
    | some (.nrm, s') => evC orc n b s'
    | r => r
  | .cond c t e, s => match c.ev s.env with
    | .bool b => bif b then evC orc n t s else evC orc n e s
    | _ => none
  | .block id b, s => match evC orc n b s with
    | some (.exit i, s') => bif Nat.beq i id then some (.nrm, s') else some (.exit i, s')
    | r => r
  | .loop ws live b, s =>
    iter (evC orc n b) (fun s' => headSt ws live s.env s.h.next (canon live s.h.next s').1 (canon live s.h.next s').2) n s
  | .rawloop b, s => iter (evC orc n b) (fun s' => s') n s
  | .exit id, s => some (.exit id, s)
  | .ret, s => some (.ret, s)

def resA (s : St) : RRes → Option AV
  | .tmp t => some (s.env t)
  | .cell t agg sz => loadAt s.h agg sz (s.env t)
def resultA (s : St) : List RRes → Option AV
  | [r] => resA s r
  | rs => match mapO (resA s) rs with | some vs => some (.tup vs) | none => none

def initEnv (args : List AV) : Env := fun k => (args[k]?).getD (.tup [])

def finish (res : List RRes) (r : Option (Ex × St)) : Option AV :=
  match r with
  | some (.nrm, s) | some (.ret, s) => match resultA s res with
    | some v => frz s.h 6 v
    | none => none
  | _ => none

/-- The evaluator, over a table of functions. -/
def evF (R : FuncId → Option RFn) : Nat → Orc
  | 0, _, _ => none
  | n + 1, f, args => match R f with
    | some fn => bif Nat.beq args.length fn.np then finish fn.res (evC (evF R n) n fn.body ⟨initEnv args, ⟨[], 0⟩⟩) else none
    | none => none

end Go.Proofs.YtnibcojenlijgaaGreatDoor.Ev
