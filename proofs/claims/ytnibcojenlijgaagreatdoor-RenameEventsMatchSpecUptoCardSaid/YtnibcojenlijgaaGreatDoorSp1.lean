/- Plain data of images and what the checks of images answer, as plain functions. Definitions. No condition. -/
import Derived.Test.YtnibcojenlijgaaGreatDoorEv23
namespace Go.Proofs.YtnibcojenlijgaaGreatDoor.Ev
open Go

abbrev w64 (n : Int) : Int := IntKind.wrap .i64 n
abbrev wand (a b : Int) : Int := IntKind.wrap .i64 (BitVec.ofInt IntKind.i64.bits a &&& BitVec.ofInt IntKind.i64.bits b).toNat

structure Seg where
  addr : Int
  size : Int
  rights : Int
  data : List Int
structure Exp where
  name : ByteArray
  version : ByteArray
  dflt : Bool
  weak : Bool
  thread : Bool
  addr : Int
  size : Int
structure Imp where
  name : ByteArray
  version : ByteArray
  weak : Bool
  slot : Int
  copy : Int
  size : Int
structure Fix where
  addr : Int
  kind : Int
  imp : Int
  addend : Int
structure Lin where
  offset : Int
  file : Int
  line : Int
structure Unw where
  offset : Int
  reg : Int
  add : Int
  saved : Int
structure Vrb where
  name : ByteArray
  addr : Int
  type : Int
structure Plc where
  addr : Int
  size : Int
  module : Int
  sect : Int
  offset : Int
structure Fld where
  name : ByteArray
  type : Int
  offset : Int
structure Typ where
  kind : Int
  name : ByteArray
  size : Int
  elem : Int
  count : Int
  fields : List Fld
structure Img where
  name : ByteArray
  shared : Bool
  segs : List Seg
  entry : Int
  exps : List Exp
  imps : List Imp
  fixs : List Fix
  thread : List Int
  tsize : Int
  inits : List Int
  finis : List Int
  needs : List ByteArray
  id : Int
  lines : List Lin
  unw : List Unw
  files : List ByteArray
  types : List Typ
  vars : List Vrb
  places : List Plc
structure Ldd where
  img : Img
  bias : Int
  thread : Int
  uses : Int

def i64 (n : Int) : AV := .int .i64 n
def ints (l : List Int) : AV := .rs (l.map fun n => [.int .i64 n])
def byts (l : List Int) : AV := .rs (l.map fun n => [.int .u8 n])
def strs (l : List ByteArray) : AV := .rs (l.map fun s => [.str s])
abbrev Seg.enc (x : Seg) : List AV := [.int .i64 x.addr, .int .i64 x.size, .int .i64 x.rights, .rs (x.data.map fun n => [.int .u8 n])]
abbrev Exp.enc (x : Exp) : List AV := [.str x.name, .str x.version, .bool x.dflt, .bool x.weak, .bool x.thread, .int .i64 x.addr, .int .i64 x.size]
abbrev Imp.enc (x : Imp) : List AV := [.str x.name, .str x.version, .bool x.weak, .int .i64 x.slot, .int .i64 x.copy, .int .i64 x.size]
abbrev Fix.enc (x : Fix) : List AV := [.int .i64 x.addr, .int .i64 x.kind, .int .i64 x.imp, .int .i64 x.addend]
abbrev Lin.enc (x : Lin) : List AV := [.int .i64 x.offset, .int .i64 x.file, .int .i64 x.line]
abbrev Unw.enc (x : Unw) : List AV := [.int .i64 x.offset, .int .i64 x.reg, .int .i64 x.add, .int .i64 x.saved]
abbrev Vrb.enc (x : Vrb) : List AV := [.str x.name, .int .i64 x.addr, .int .i64 x.type]
abbrev Plc.enc (x : Plc) : List AV := [.int .i64 x.addr, .int .i64 x.size, .int .i64 x.module, .int .i64 x.sect, .int .i64 x.offset]
abbrev Fld.enc (x : Fld) : List AV := [.str x.name, .int .i64 x.type, .int .i64 x.offset]
abbrev Typ.enc (x : Typ) : List AV := [.int .i64 x.kind, .str x.name, .int .i64 x.size, .int .i64 x.elem, .int .i64 x.count, .rs (x.fields.map Fld.enc)]
abbrev Img.enc (x : Img) : List AV := [.str x.name, .bool x.shared, .rs (x.segs.map Seg.enc), .int .i64 x.entry, .rs (x.exps.map Exp.enc), .rs (x.imps.map Imp.enc), .rs (x.fixs.map Fix.enc), .rs (x.thread.map fun n => [.int .u8 n]), .int .i64 x.tsize,
  .rs (x.inits.map fun n => [.int .i64 n]), .rs (x.finis.map fun n => [.int .i64 n]), .rs (x.needs.map fun s => [.str s]), .int .i64 x.id, .rs (x.lines.map Lin.enc), .rs (x.unw.map Unw.enc), .rs (x.files.map fun s => [.str s]), .rs (x.types.map Typ.enc), .rs (x.vars.map Vrb.enc), .rs (x.places.map Plc.enc)]
abbrev Ldd.enc (x : Ldd) : List AV := [.str x.img.name, .bool x.img.shared, .rs (x.img.segs.map Seg.enc), .int .i64 x.img.entry, .rs (x.img.exps.map Exp.enc), .rs (x.img.imps.map Imp.enc), .rs (x.img.fixs.map Fix.enc), .rs (x.img.thread.map fun n => [.int .u8 n]), .int .i64 x.img.tsize,
  .rs (x.img.inits.map fun n => [.int .i64 n]), .rs (x.img.finis.map fun n => [.int .i64 n]), .rs (x.img.needs.map fun s => [.str s]), .int .i64 x.img.id, .rs (x.img.lines.map Lin.enc), .rs (x.img.unw.map Unw.enc), .rs (x.img.files.map fun s => [.str s]), .rs (x.img.types.map Typ.enc), .rs (x.img.vars.map Vrb.enc), .rs (x.img.places.map Plc.enc), .int .i64 x.bias, .int .i64 x.thread, .int .i64 x.uses]

/-- A fault: code and index. -/
structure Flt where
  code : Int
  index : Int
  deriving DecidableEq
abbrev Flt.enc (f : Flt) : AV := .agg [.int .i64 f.code, .int .i64 f.index]
def Flt.ok : Flt := ⟨0, 0⟩

/-- The position of the first element with a property, or -1. -/
def idxFrom {α : Type} (p : α → Bool) : List α → Int → Int
  | [], _ => -1
  | x :: l, k => bif p x then k else idxFrom p l (k + 1)

/-! ### Names -/
def emptyS (s : ByteArray) : Bool := s.toList == (⟨#[]⟩ : ByteArray).toList
def nameLetter (c : Int) : Bool := (((((decide (c ≥ 97) && decide (c ≤ 122)) || (decide (c ≥ 65) && decide (c ≤ 90))) || (c == 46)) || (c == 95)) || (c == 36))
def nameB (i : Int) (c : Int) : Bool := !(!nameLetter c && (((i == 0) || decide (c < 48)) || decide (c > 57)))
def isDigit (c : Int) : Bool := decide (c ≥ 48) && decide (c ≤ 57)
def nameByte (c : Int) : Bool := ((((((decide (c ≥ 97) && decide (c ≤ 122)) || (decide (c ≥ 65) && decide (c ≤ 90))) || isDigit c) || (c == 46)) || (c == 95)) || (c == 36))
def tokB (i : Int) (c : Int) : Bool := !(!nameByte c || ((i == 0) && isDigit c))
/-- All bytes of a string have a property that may depend on the place. -/
def allFrom (p : Int → Int → Bool) : Nat → List UInt8 → Bool
  | _, [] => true
  | i, c :: l => p i c.toNat && allFrom p (i + 1) l
def sizeOk (s : ByteArray) : Bool := decide ((s.size : Int) ≥ 1) && decide ((s.size : Int) ≤ 16)
def isName (s : ByteArray) : Bool := allFrom nameB 0 s.data.toList && sizeOk s
def isTok (s : ByteArray) : Bool := allFrom tokB 0 s.data.toList && sizeOk s
def isVersion (s : ByteArray) : Bool := emptyS s || isName s

/-! ### Comparing -/
def lessS (a b : ByteArray) : Bool := Op.bytesLess a.toList b.toList
def gtrS (a b : ByteArray) : Bool := !(Op.bytesLess a.toList b.toList || (a.toList == b.toList))
def cmpS (a b : ByteArray) : Int := bif lessS a b then -1 else bif gtrS a b then 1 else 0
def cmpI (a b : Int) : Int := bif decide (a < b) then -1 else bif decide (a > b) then 1 else 0
def orL : List Int → Int
  | [] => 0
  | x :: l => bif x != 0 then x else orL l
def upI (n align : Int) : Int := w64 (w64 ((w64 (w64 (n + align) - 1)).tdiv align) * align)

/-! ### Segments -/
def Seg.has (s : Seg) (addr size rights : Int) : Bool :=
  (wand s.rights rights == rights) && (decide (addr ≥ s.addr) && (decide (size ≤ s.size) && decide (addr ≤ w64 (w64 (s.addr + s.size) - size))))
def within (x : Img) (addr size rights : Int) : Bool := decide (idxFrom (fun s => s.has addr size rights) x.segs 0 ≥ 0)

/-! ### The codes of elements; 'p': the element before -/
def cmpExp (a b : Exp) : Int := orL [cmpS a.name b.name, cmpS a.version b.version]
def cmpVar (a b : Vrb) : Int := orL [cmpI a.addr b.addr, cmpS a.name b.name, cmpI a.type b.type]
def expC (x : Img) (k : Int) (e p : Exp) : Int :=
  bif !isName e.name || !isVersion e.version then 12
  else bif e.dflt && emptyS e.version then 5
  else bif decide (e.size < 0) || decide (e.size > 1000000) then 3
  else bif e.thread && (decide (e.addr < 0) || decide (e.addr > x.tsize)) then 3
  else bif !e.thread && !within x e.addr 0 0 then 3
  else bif decide (k > 0) && decide (cmpExp p e ≥ 0) then 5 else 0
def impC (x : Img) (m : Imp) : Int :=
  bif !isName m.name || !isVersion m.version then 12
  else bif decide (m.size < 0) || (decide (m.size > 1000000) || (decide (m.slot < -1) || decide (m.copy < -1))) then 3
  else bif decide (m.slot ≥ 0) && ((m.slot.tmod 4 != 0) || !within x m.slot 4 2) then 5
  else bif decide (m.copy < 0) && decide (m.size > 0) || (decide (m.copy ≥ 0) && !within x m.copy m.size 2) then 5 else 0
def fixC (x : Img) (k : Int) (f p : Fix) : Int :=
  bif decide (f.kind < 1) || decide (f.kind > 4) then 4
  else bif decide (f.addend < -1048576) || (decide (f.addend > 1048576) || (decide (f.imp < -1) || decide (f.imp ≥ (x.imps.length : Int)))) then 3
  else bif !(((f.kind == 2) || (f.kind == 3)) == decide (f.imp ≥ 0)) || (!((f.kind == 2) || (f.kind == 3)) && (f.addend != 0) || !within x f.addr 4 0) then 5
  else bif decide (k > 0) && decide (f.addr < w64 (p.addr + 4)) then 5 else 0
def linC (x : Img) (k : Int) (r p : Lin) : Int :=
  bif decide (r.line < 0) || (decide (r.line > 1000000) || (decide (r.offset < 0) || decide (r.offset > 1048576))) then 3
  else bif (r.line == 0) && (r.file != 0) || (decide (r.line > 0) && (decide (r.file < 0) || decide (r.file ≥ (x.files.length : Int)))) then 3
  else bif decide (k > 0) && decide (r.offset ≤ p.offset) then 5 else 0
def unwC (k : Int) (r p : Unw) : Int :=
  bif decide (r.reg < -1) || (decide (r.reg > 7) || (decide (r.offset < 0) || decide (r.offset > 1048576))) then 3
  else bif decide (r.add < -1048576) || (decide (r.add > 1048576) || (decide (r.saved < -1048576) || decide (r.saved > 0))) then 3
  else bif decide (k > 0) && decide (r.offset ≤ p.offset) then 5 else 0
def varC (x : Img) (k : Int) (v p : Vrb) : Int :=
  bif !isName v.name then 12
  else bif decide (v.type < 0) || (decide (v.type ≥ (x.types.length : Int)) || !within x v.addr 0 0) then 3
  else bif decide (k > 0) && decide (cmpVar p v ≥ 0) then 5 else 0
def plcC (x : Img) (k : Int) (q p : Plc) : Int :=
  bif decide (q.module < 0) || (decide (q.sect < 0) || (decide (q.offset < 0) || (decide (q.module > 1000000) || (decide (q.sect > 1000000) || decide (q.offset > 1000000))))) then 3
  else bif decide (q.size < 1) || !within x q.addr q.size 0 then 3
  else bif decide (k > 0) && decide (q.addr < w64 (p.addr + p.size)) then 5 else 0

/-! ### Heads -/
def Flt.isOk (f : Flt) : Bool := (f.code == 0) && (f.index == 0)
def segC (s : Seg) (e : Int) : Int :=
  bif decide (s.addr < 0) || (decide (s.size < 1) || (decide (s.size > 1048576) || (decide (s.addr > w64 (1048576 - s.size)) || (decide (s.rights < 1) || decide (s.rights > 7))))) then 3
  else bif s.addr.tmod 256 != 0 then 5
  else bif decide ((s.data.length : Int) > s.size) then 9
  else bif decide (s.addr < e) then 13 else 0
def segsF : List Seg → Int → Int → Flt
  | [], _, _ => .ok
  | s :: l, i, e => bif segC s e != 0 then ⟨segC s e, w64 (100 + i)⟩ else segsF l (i + 1) (upI (w64 (s.addr + s.size)) 256)
def segments (l : List Seg) : Flt := bif decide ((l.length : Int) > 40) then ⟨2, -10⟩ else segsF l 0 0
def headF (x : Img) : Flt :=
  bif !isName x.name then ⟨12, -1⟩
  else bif !(segments x.segs).isOk then segments x.segs
  else bif decide (x.entry < -1) || (decide (x.entry ≥ 0) && !within x x.entry 0 4) then ⟨3, -2⟩
  else bif decide (x.tsize < 0) || decide (x.tsize > 8000) then ⟨3, -3⟩
  else bif decide ((x.thread.length : Int) > x.tsize) then ⟨9, -3⟩
  else bif decide (x.id < 0) || decide (x.id > 4294967295) then ⟨3, -4⟩ else .ok

/-! ### Type records -/
/-- The first place from 'k' on, of 'm' places, whose code is not 0. -/
def firstE (c : Nat → Int) : Nat → Nat → Option (Nat × Int)
  | 0, _ => none
  | m + 1, k => bif c k != 0 then some (k, c k) else firstE c m (k + 1)
/-- The code of a place, out of its element and the one before. -/
def codeAt {α : Type} (l : List α) (f : Nat → α → α → Int) (k : Nat) : Int := match l[k]?, l[k - 1]? with
  | some e, some p => f k e p
  | _, _ => 0
def typAt (l : List Typ) (n : Int) : Typ := match l[n.toNat]? with | some t => t | none => ⟨0, ⟨#[]⟩, 0, 0, 0, []⟩
abbrev tsz (l : List Typ) (n : Int) : Int := (typAt l n).size
def fldEnd (l : List Typ) (k : Int) (p : Fld) : Int := bif decide (k > 0) then w64 (p.offset + tsz l p.type) else 0
def fldC (l : List Typ) (i : Int) (t : Typ) (k : Nat) (x p : Fld) : Int :=
  bif !isTok x.name then 12
  else bif decide (idxFrom (fun y : Fld => y.name.toList == x.name.toList) (t.fields.take k) 0 ≥ 0) then 7
  else bif decide (x.type < 0) || decide (x.type ≥ i) then 3
  else bif decide (x.offset < fldEnd l k p) || (decide (x.offset > t.size) || decide (w64 (x.offset + tsz l x.type) > t.size)) then 5 else 0
def optE : Option (Nat × Int) → Int
  | none => 0
  | some p => p.2
def typC (l : List Typ) (i : Nat) (t : Typ) : Int :=
  bif decide (t.kind < 1) || decide (t.kind > 4) then 4
  else bif !emptyS t.name && !isTok t.name then 12
  else bif decide (t.size < 0) || (decide (t.size > 1000000) || (decide (t.count < 0) || (decide (t.count > 1000000) || (decide (t.elem < 0) || decide (t.elem ≥ (l.length : Int)))))) then 3
  else bif (t.kind != 3) && (t.count != 0) || ((t.kind != 4) && decide ((t.fields.length : Int) > 0) || (((t.kind == 1) || (t.kind == 4)) && (t.elem != 0))) then 5
  else bif (t.kind == 1) && ((t.size != 1) && (t.size != 4)) || ((t.kind == 2) && (t.size != 4)) then 9
  else bif (t.kind == 3) && decide (t.elem ≥ (i : Int)) then 3
  else bif (t.kind == 3) && (t.size != w64 (t.count * tsz l t.elem)) then 9
  else bif decide ((t.fields.length : Int) > 8) then 2
  else optE (firstE (codeAt t.fields (fldC l i t)) t.fields.length 0)
def fltE (at_ : Nat → Int) : Option (Nat × Int) → Flt
  | none => .ok
  | some p => ⟨p.2, at_ p.1⟩
def recF (l : List Typ) : Flt := bif decide ((l.length : Int) > 30) then ⟨2, -1⟩ else fltE (fun k => k) (firstE (codeAt l fun k t _ => typC l k t) l.length 0)

/-! ### Images -/
def eachF (n : Nat) (most list : Int) (c : Nat → Int) : Flt := bif decide ((n : Int) > most) then ⟨2, w64 (0 - list)⟩ else fltE (fun k => w64 (w64 (1000 * list) + k)) (firstE c n 0)
def fnC (x : Img) (a : Int) : Int := bif !within x a 0 4 then 3 else 0
def nameC (s : ByteArray) : Int := bif !isName s then 12 else 0
def recsF (x : Img) : Flt := bif !(recF x.types).isOk then ⟨(recF x.types).code, -20⟩ else .ok
def checks (x : Img) : List Flt :=
  [eachF x.exps.length 200 11 (codeAt x.exps fun k e p => expC x k e p), eachF x.imps.length 80 12 (codeAt x.imps fun _ m _ => impC x m), eachF x.fixs.length 600 13 (codeAt x.fixs fun k e p => fixC x k e p),
   eachF x.inits.length 60 14 (codeAt x.inits fun _ a _ => fnC x a), eachF x.finis.length 60 15 (codeAt x.finis fun _ a _ => fnC x a), eachF x.needs.length 5 16 (codeAt x.needs fun _ s _ => nameC s),
   eachF x.files.length 64 17 (codeAt x.files fun _ s _ => nameC s), eachF x.lines.length 2000 18 (codeAt x.lines fun k e p => linC x k e p), eachF x.unw.length 2000 19 (codeAt x.unw fun k e p => unwC k e p),
   recsF x, eachF x.vars.length 500 21 (codeAt x.vars fun k e p => varC x k e p), eachF x.places.length 200 22 (codeAt x.places fun k e p => plcC x k e p)]
def firstBad : List Flt → Flt
  | [] => .ok
  | f :: l => bif !f.isOk then f else firstBad l
def validF (x : Img) : Flt := bif !(headF x).isOk then headF x else firstBad (checks x)

/-- What every argument has: lengths that a machine can hold. -/
structure Img.ok (x : Img) : Prop where
  name : x.name.size ≤ maxLen
  segs : x.segs.length ≤ maxLen
  exps : x.exps.length ≤ maxLen
  expN : ∀ e ∈ x.exps, e.name.size ≤ maxLen ∧ e.version.size ≤ maxLen
  imps : x.imps.length ≤ maxLen
  impN : ∀ e ∈ x.imps, e.name.size ≤ maxLen ∧ e.version.size ≤ maxLen
  fixs : x.fixs.length ≤ maxLen
  inits : x.inits.length ≤ maxLen
  finis : x.finis.length ≤ maxLen
  needs : x.needs.length ≤ maxLen
  needN : ∀ e ∈ x.needs, e.size ≤ maxLen
  lines : x.lines.length ≤ maxLen
  unw : x.unw.length ≤ maxLen
  files : x.files.length ≤ maxLen
  fileN : ∀ e ∈ x.files, e.size ≤ maxLen
  types : x.types.length ≤ maxLen
  typeN : ∀ e ∈ x.types, e.name.size ≤ maxLen ∧ e.fields.length ≤ maxLen ∧ ∀ f ∈ e.fields, f.name.size ≤ maxLen
  vars : x.vars.length ≤ maxLen
  varN : ∀ e ∈ x.vars, e.name.size ≤ maxLen
  places : x.places.length ≤ maxLen

end Go.Proofs.YtnibcojenlijgaaGreatDoor.Ev
