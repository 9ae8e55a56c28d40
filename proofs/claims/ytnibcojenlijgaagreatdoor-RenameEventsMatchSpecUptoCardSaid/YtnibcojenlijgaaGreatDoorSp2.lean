/- What the checks of lists of images answer, as plain functions. Definitions. No condition. -/
import Derived.Test.YtnibcojenlijgaaGreatDoorSp1
namespace Go.Proofs.YtnibcojenlijgaaGreatDoor.Ev
open Go

def namedI (l : List Img) (s : ByteArray) : Int := idxFrom (fun x : Img => x.name.toList == s.toList) l 0
def scFrom (l : List Img) : List Img → Nat → Flt
  | [], _ => .ok
  | x :: r, k => bif !(validF x).isOk then ⟨(validF x).code, k⟩ else bif decide (namedI (l.take k) x.name ≥ 0) then ⟨7, k⟩ else scFrom l r (k + 1)
def scopeF (l : List Img) : Flt := bif ((l.length : Int) == 0) || decide ((l.length : Int) > 5) then ⟨2, -1⟩ else scFrom l l 0
/-- The first image that needs one that is missing. -/
def missing (l : List Img) : List Img → Nat → Option Nat
  | [], _ => none
  | x :: r, i => bif x.needs.any (fun s => decide (namedI l s < 0)) then some i else missing l r (i + 1)
def lddBad (x : Ldd) : Bool :=
  (x.bias.tmod 256 != 0) || (decide (x.bias < 0) || (decide (x.bias ≥ 1048576) || ((x.thread.tmod 16 != 0) || (decide (x.thread < 0) || (decide (x.thread > 1024) || (decide (x.uses < 0) || decide (x.uses > 1000000)))))))
def lddFrom : List Ldd → Nat → Option Nat
  | [], _ => none
  | x :: r, k => bif lddBad x then some k else lddFrom r (k + 1)
def imgs (l : List Ldd) : List Img := l.map Ldd.img
def copiesF (l : List Ldd) : Flt :=
  bif !(scopeF (imgs l)).isOk then scopeF (imgs l) else
  match lddFrom l 0 with
  | some k => ⟨3, k⟩
  | none => match missing (imgs l) (imgs l) 0 with
    | some k => ⟨6, k⟩
    | none => .ok
/-- A list of images as a slice: nil if it is empty. -/
def imgsAV (l : List Img) : AV := match l with
  | [] => .nils
  | _ => .rs (l.map Img.enc)
end Go.Proofs.YtnibcojenlijgaaGreatDoor.Ev
