/- Arguments as plain data. No condition. -/
import Derived.Test.YtnibcojenlijgaaGreatDoorEv28
import Derived.Test.YtnibcojenlijgaaGreatDoorSp2
set_option linter.unusedVariables false
set_option linter.unusedSimpArgs false
namespace Go.Proofs.YtnibcojenlijgaaGreatDoor.Ev
open Go Go.RowKit
abbrev cI : CK := .int .i64
def isStr : Option TypeDesc → Bool
  | some (.struct _) => true
  | _ => false
def isSli : Option TypeDesc → Bool
  | some (.slice _) => true
  | _ => false
theorem is_struct {o : Option TypeDesc} (h : isStr o = true) : ∃ fs, o = some (.struct fs) := by
  unfold isStr at h
  split at h
  · exact ⟨_, rfl⟩
  · cases h
theorem is_slice {o : Option TypeDesc} (h : isSli o = true) : ∃ e, o = some (.slice e) := by
  unfold isSli at h
  split at h
  · exact ⟨_, rfl⟩
  · cases h
theorem fits_int {k : IntKind} {a : AV} (h : Fits (.int k) a) : ∃ n, a = .int k n ∧ (Lit.int k n).wf = true := by cases h; exact ⟨_, rfl, by assumption⟩
theorem fits_str {a : AV} (h : Fits .str a) : ∃ s : ByteArray, a = .str s ∧ s.size ≤ maxLen := by cases h; exact ⟨_, rfl, by assumption⟩
theorem fits_bool {a : AV} (h : Fits .bool a) : ∃ b, a = .bool b := by cases h; exact ⟨_, rfl⟩
theorem fits_sl {α : Type} {cs : List CK} {enc : α → List AV} {ok : α → Prop} (dec : ∀ q, FitsL cs q → ∃ x, q = enc x ∧ ok x) {a : AV} (h : Fits (.sl cs) a) : ∃ l : List α, a = .rs (l.map enc) ∧ l.length ≤ maxLen ∧ ∀ x ∈ l, ok x := by
  have main : ∀ (es : List (List AV)), (∀ q ∈ es, FitsL cs q) → ∃ l : List α, es = l.map enc ∧ ∀ x ∈ l, ok x := by
    intro es
    induction es with
    | nil => intro _; exact ⟨[], rfl, fun x hx => by cases hx⟩
    | cons q es ih =>
      intro hq
      obtain ⟨x, rfl, hx⟩ := dec q (hq q (List.mem_cons_self ..))
      obtain ⟨l, rfl, hl⟩ := ih fun p hp => hq p (List.mem_cons_of_mem _ hp)
      exact ⟨x :: l, rfl, fun y hy => by rcases List.mem_cons.1 hy with rfl | hy; exact hx; exact hl y hy⟩
  cases h with
  | sl hl hn hh =>
    rename_i es
    obtain ⟨l, rfl, ok⟩ := main es fun q hq => ⟨hn q hq, hh q hq⟩
    exact ⟨l, rfl, by simpa using hl, ok⟩
theorem i64_range {n : Int} (h : (Lit.int .i64 n).wf = true) : -9223372036854775808 ≤ n ∧ n ≤ 9223372036854775807 := by
  simp [Lit.wf, IntKind.min, IntKind.max, IntKind.signed, IntKind.bits] at h
  omega
theorem dec_int {q : List AV} (h : FitsL [cI] q) : ∃ n : Int, q = [.int .i64 n] ∧ True := by
  obtain ⟨a, r, rfl, f1, h⟩ := h.cons
  obtain rfl := h.isNil
  obtain ⟨n, rfl, _⟩ := fits_int f1
  exact ⟨n, rfl, trivial⟩
theorem dec_byte {q : List AV} (h : FitsL [.int .u8] q) : ∃ n : Int, q = [.int .u8 n] ∧ True := by
  obtain ⟨a, r, rfl, f1, h⟩ := h.cons
  obtain rfl := h.isNil
  obtain ⟨n, rfl, _⟩ := fits_int f1
  exact ⟨n, rfl, trivial⟩
theorem dec_str {q : List AV} (h : FitsL [.str] q) : ∃ s : ByteArray, q = [.str s] ∧ s.size ≤ maxLen := by
  obtain ⟨a, r, rfl, f1, h⟩ := h.cons
  obtain rfl := h.isNil
  obtain ⟨n, rfl, hn⟩ := fits_str f1
  exact ⟨n, rfl, hn⟩
abbrev kSeg : List CK := [cI, cI, cI, .sl [.int .u8]]
theorem dec_seg {q : List AV} (h : FitsL kSeg q) : ∃ x : Seg, q = x.enc ∧ (True) := by
  obtain ⟨a0, r0, rfl, f0, h⟩ := h.cons
  obtain ⟨a1, r1, rfl, f1, h⟩ := h.cons
  obtain ⟨a2, r2, rfl, f2, h⟩ := h.cons
  obtain ⟨a3, r3, rfl, f3, h⟩ := h.cons
  obtain rfl := h.isNil
  obtain ⟨x0, rfl, w0⟩ := fits_int f0
  obtain ⟨x1, rfl, w1⟩ := fits_int f1
  obtain ⟨x2, rfl, w2⟩ := fits_int f2
  obtain ⟨x3, rfl, w3, v3⟩ := fits_sl (enc := fun n : Int => [AV.int .u8 n]) (fun q hq => dec_byte hq) f3
  exact ⟨⟨x0, x1, x2, x3⟩, rfl, trivial⟩
abbrev kExp : List CK := [.str, .str, .bool, .bool, .bool, cI, cI]
theorem dec_exp {q : List AV} (h : FitsL kExp q) : ∃ x : Exp, q = x.enc ∧ (x.name.size ≤ maxLen ∧ x.version.size ≤ maxLen) := by
  obtain ⟨a0, r0, rfl, f0, h⟩ := h.cons
  obtain ⟨a1, r1, rfl, f1, h⟩ := h.cons
  obtain ⟨a2, r2, rfl, f2, h⟩ := h.cons
  obtain ⟨a3, r3, rfl, f3, h⟩ := h.cons
  obtain ⟨a4, r4, rfl, f4, h⟩ := h.cons
  obtain ⟨a5, r5, rfl, f5, h⟩ := h.cons
  obtain ⟨a6, r6, rfl, f6, h⟩ := h.cons
  obtain rfl := h.isNil
  obtain ⟨x0, rfl, w0⟩ := fits_str f0
  obtain ⟨x1, rfl, w1⟩ := fits_str f1
  obtain ⟨x2, rfl⟩ := fits_bool f2
  obtain ⟨x3, rfl⟩ := fits_bool f3
  obtain ⟨x4, rfl⟩ := fits_bool f4
  obtain ⟨x5, rfl, w5⟩ := fits_int f5
  obtain ⟨x6, rfl, w6⟩ := fits_int f6
  exact ⟨⟨x0, x1, x2, x3, x4, x5, x6⟩, rfl, ⟨w0, w1⟩⟩
abbrev kImp : List CK := [.str, .str, .bool, cI, cI, cI]
theorem dec_imp {q : List AV} (h : FitsL kImp q) : ∃ x : Imp, q = x.enc ∧ (x.name.size ≤ maxLen ∧ x.version.size ≤ maxLen) := by
  obtain ⟨a0, r0, rfl, f0, h⟩ := h.cons
  obtain ⟨a1, r1, rfl, f1, h⟩ := h.cons
  obtain ⟨a2, r2, rfl, f2, h⟩ := h.cons
  obtain ⟨a3, r3, rfl, f3, h⟩ := h.cons
  obtain ⟨a4, r4, rfl, f4, h⟩ := h.cons
  obtain ⟨a5, r5, rfl, f5, h⟩ := h.cons
  obtain rfl := h.isNil
  obtain ⟨x0, rfl, w0⟩ := fits_str f0
  obtain ⟨x1, rfl, w1⟩ := fits_str f1
  obtain ⟨x2, rfl⟩ := fits_bool f2
  obtain ⟨x3, rfl, w3⟩ := fits_int f3
  obtain ⟨x4, rfl, w4⟩ := fits_int f4
  obtain ⟨x5, rfl, w5⟩ := fits_int f5
  exact ⟨⟨x0, x1, x2, x3, x4, x5⟩, rfl, ⟨w0, w1⟩⟩
abbrev kFix : List CK := [cI, cI, cI, cI]
theorem dec_fix {q : List AV} (h : FitsL kFix q) : ∃ x : Fix, q = x.enc ∧ (True) := by
  obtain ⟨a0, r0, rfl, f0, h⟩ := h.cons
  obtain ⟨a1, r1, rfl, f1, h⟩ := h.cons
  obtain ⟨a2, r2, rfl, f2, h⟩ := h.cons
  obtain ⟨a3, r3, rfl, f3, h⟩ := h.cons
  obtain rfl := h.isNil
  obtain ⟨x0, rfl, w0⟩ := fits_int f0
  obtain ⟨x1, rfl, w1⟩ := fits_int f1
  obtain ⟨x2, rfl, w2⟩ := fits_int f2
  obtain ⟨x3, rfl, w3⟩ := fits_int f3
  exact ⟨⟨x0, x1, x2, x3⟩, rfl, trivial⟩
abbrev kLin : List CK := [cI, cI, cI]
theorem dec_lin {q : List AV} (h : FitsL kLin q) : ∃ x : Lin, q = x.enc ∧ (True) := by
  obtain ⟨a0, r0, rfl, f0, h⟩ := h.cons
  obtain ⟨a1, r1, rfl, f1, h⟩ := h.cons
  obtain ⟨a2, r2, rfl, f2, h⟩ := h.cons
  obtain rfl := h.isNil
  obtain ⟨x0, rfl, w0⟩ := fits_int f0
  obtain ⟨x1, rfl, w1⟩ := fits_int f1
  obtain ⟨x2, rfl, w2⟩ := fits_int f2
  exact ⟨⟨x0, x1, x2⟩, rfl, trivial⟩
abbrev kUnw : List CK := [cI, cI, cI, cI]
theorem dec_unw {q : List AV} (h : FitsL kUnw q) : ∃ x : Unw, q = x.enc ∧ (True) := by
  obtain ⟨a0, r0, rfl, f0, h⟩ := h.cons
  obtain ⟨a1, r1, rfl, f1, h⟩ := h.cons
  obtain ⟨a2, r2, rfl, f2, h⟩ := h.cons
  obtain ⟨a3, r3, rfl, f3, h⟩ := h.cons
  obtain rfl := h.isNil
  obtain ⟨x0, rfl, w0⟩ := fits_int f0
  obtain ⟨x1, rfl, w1⟩ := fits_int f1
  obtain ⟨x2, rfl, w2⟩ := fits_int f2
  obtain ⟨x3, rfl, w3⟩ := fits_int f3
  exact ⟨⟨x0, x1, x2, x3⟩, rfl, trivial⟩
abbrev kVrb : List CK := [.str, cI, cI]
theorem dec_vrb {q : List AV} (h : FitsL kVrb q) : ∃ x : Vrb, q = x.enc ∧ (x.name.size ≤ maxLen) := by
  obtain ⟨a0, r0, rfl, f0, h⟩ := h.cons
  obtain ⟨a1, r1, rfl, f1, h⟩ := h.cons
  obtain ⟨a2, r2, rfl, f2, h⟩ := h.cons
  obtain rfl := h.isNil
  obtain ⟨x0, rfl, w0⟩ := fits_str f0
  obtain ⟨x1, rfl, w1⟩ := fits_int f1
  obtain ⟨x2, rfl, w2⟩ := fits_int f2
  exact ⟨⟨x0, x1, x2⟩, rfl, w0⟩
abbrev kPlc : List CK := [cI, cI, cI, cI, cI]
theorem dec_plc {q : List AV} (h : FitsL kPlc q) : ∃ x : Plc, q = x.enc ∧ (True) := by
  obtain ⟨a0, r0, rfl, f0, h⟩ := h.cons
  obtain ⟨a1, r1, rfl, f1, h⟩ := h.cons
  obtain ⟨a2, r2, rfl, f2, h⟩ := h.cons
  obtain ⟨a3, r3, rfl, f3, h⟩ := h.cons
  obtain ⟨a4, r4, rfl, f4, h⟩ := h.cons
  obtain rfl := h.isNil
  obtain ⟨x0, rfl, w0⟩ := fits_int f0
  obtain ⟨x1, rfl, w1⟩ := fits_int f1
  obtain ⟨x2, rfl, w2⟩ := fits_int f2
  obtain ⟨x3, rfl, w3⟩ := fits_int f3
  obtain ⟨x4, rfl, w4⟩ := fits_int f4
  exact ⟨⟨x0, x1, x2, x3, x4⟩, rfl, trivial⟩
abbrev kFld : List CK := [.str, cI, cI]
theorem dec_fld {q : List AV} (h : FitsL kFld q) : ∃ x : Fld, q = x.enc ∧ (x.name.size ≤ maxLen) := by
  obtain ⟨a0, r0, rfl, f0, h⟩ := h.cons
  obtain ⟨a1, r1, rfl, f1, h⟩ := h.cons
  obtain ⟨a2, r2, rfl, f2, h⟩ := h.cons
  obtain rfl := h.isNil
  obtain ⟨x0, rfl, w0⟩ := fits_str f0
  obtain ⟨x1, rfl, w1⟩ := fits_int f1
  obtain ⟨x2, rfl, w2⟩ := fits_int f2
  exact ⟨⟨x0, x1, x2⟩, rfl, w0⟩
abbrev kTyp : List CK := [cI, .str, cI, cI, cI, .sl kFld]
theorem dec_typ {q : List AV} (h : FitsL kTyp q) : ∃ x : Typ, q = x.enc ∧ (x.name.size ≤ maxLen ∧ x.fields.length ≤ maxLen ∧ ∀ f ∈ x.fields, f.name.size ≤ maxLen) := by
  obtain ⟨a0, r0, rfl, f0, h⟩ := h.cons
  obtain ⟨a1, r1, rfl, f1, h⟩ := h.cons
  obtain ⟨a2, r2, rfl, f2, h⟩ := h.cons
  obtain ⟨a3, r3, rfl, f3, h⟩ := h.cons
  obtain ⟨a4, r4, rfl, f4, h⟩ := h.cons
  obtain ⟨a5, r5, rfl, f5, h⟩ := h.cons
  obtain rfl := h.isNil
  obtain ⟨x0, rfl, w0⟩ := fits_int f0
  obtain ⟨x1, rfl, w1⟩ := fits_str f1
  obtain ⟨x2, rfl, w2⟩ := fits_int f2
  obtain ⟨x3, rfl, w3⟩ := fits_int f3
  obtain ⟨x4, rfl, w4⟩ := fits_int f4
  obtain ⟨x5, rfl, w5, v5⟩ := fits_sl (enc := Fld.enc) (fun q hq => dec_fld hq) f5
  exact ⟨⟨x0, x1, x2, x3, x4, x5⟩, rfl, ⟨w1, w5, v5⟩⟩
abbrev kLdd : List CK := [.str, .bool, .sl kSeg, cI, .sl kExp, .sl kImp, .sl kFix, .sl [.int .u8], cI, .sl [cI], .sl [cI], .sl [.str], cI, .sl kLin, .sl kUnw, .sl [.str], .sl kTyp, .sl kVrb, .sl kPlc, cI, cI, cI]
theorem dec_ldd {q : List AV} (h : FitsL kLdd q) : ∃ x : Ldd, q = x.enc ∧ (x.img.ok ∧ x.bias ≤ 9223372036854775807) := by
  obtain ⟨a0, r0, rfl, f0, h⟩ := h.cons
  obtain ⟨a1, r1, rfl, f1, h⟩ := h.cons
  obtain ⟨a2, r2, rfl, f2, h⟩ := h.cons
  obtain ⟨a3, r3, rfl, f3, h⟩ := h.cons
  obtain ⟨a4, r4, rfl, f4, h⟩ := h.cons
  obtain ⟨a5, r5, rfl, f5, h⟩ := h.cons
  obtain ⟨a6, r6, rfl, f6, h⟩ := h.cons
  obtain ⟨a7, r7, rfl, f7, h⟩ := h.cons
  obtain ⟨a8, r8, rfl, f8, h⟩ := h.cons
  obtain ⟨a9, r9, rfl, f9, h⟩ := h.cons
  obtain ⟨a10, r10, rfl, f10, h⟩ := h.cons
  obtain ⟨a11, r11, rfl, f11, h⟩ := h.cons
  obtain ⟨a12, r12, rfl, f12, h⟩ := h.cons
  obtain ⟨a13, r13, rfl, f13, h⟩ := h.cons
  obtain ⟨a14, r14, rfl, f14, h⟩ := h.cons
  obtain ⟨a15, r15, rfl, f15, h⟩ := h.cons
  obtain ⟨a16, r16, rfl, f16, h⟩ := h.cons
  obtain ⟨a17, r17, rfl, f17, h⟩ := h.cons
  obtain ⟨a18, r18, rfl, f18, h⟩ := h.cons
  obtain ⟨a19, r19, rfl, f19, h⟩ := h.cons
  obtain ⟨a20, r20, rfl, f20, h⟩ := h.cons
  obtain ⟨a21, r21, rfl, f21, h⟩ := h.cons
  obtain rfl := h.isNil
  obtain ⟨x0, rfl, w0⟩ := fits_str f0
  obtain ⟨x1, rfl⟩ := fits_bool f1
  obtain ⟨x2, rfl, w2, v2⟩ := fits_sl (enc := Seg.enc) (fun q hq => dec_seg hq) f2
  obtain ⟨x3, rfl, w3⟩ := fits_int f3
  obtain ⟨x4, rfl, w4, v4⟩ := fits_sl (enc := Exp.enc) (fun q hq => dec_exp hq) f4
  obtain ⟨x5, rfl, w5, v5⟩ := fits_sl (enc := Imp.enc) (fun q hq => dec_imp hq) f5
  obtain ⟨x6, rfl, w6, v6⟩ := fits_sl (enc := Fix.enc) (fun q hq => dec_fix hq) f6
  obtain ⟨x7, rfl, w7, v7⟩ := fits_sl (enc := fun n : Int => [AV.int .u8 n]) (fun q hq => dec_byte hq) f7
  obtain ⟨x8, rfl, w8⟩ := fits_int f8
  obtain ⟨x9, rfl, w9, v9⟩ := fits_sl (enc := fun n : Int => [AV.int .i64 n]) (fun q hq => dec_int hq) f9
  obtain ⟨x10, rfl, w10, v10⟩ := fits_sl (enc := fun n : Int => [AV.int .i64 n]) (fun q hq => dec_int hq) f10
  obtain ⟨x11, rfl, w11, v11⟩ := fits_sl (enc := fun s : ByteArray => [AV.str s]) (fun q hq => dec_str hq) f11
  obtain ⟨x12, rfl, w12⟩ := fits_int f12
  obtain ⟨x13, rfl, w13, v13⟩ := fits_sl (enc := Lin.enc) (fun q hq => dec_lin hq) f13
  obtain ⟨x14, rfl, w14, v14⟩ := fits_sl (enc := Unw.enc) (fun q hq => dec_unw hq) f14
  obtain ⟨x15, rfl, w15, v15⟩ := fits_sl (enc := fun s : ByteArray => [AV.str s]) (fun q hq => dec_str hq) f15
  obtain ⟨x16, rfl, w16, v16⟩ := fits_sl (enc := Typ.enc) (fun q hq => dec_typ hq) f16
  obtain ⟨x17, rfl, w17, v17⟩ := fits_sl (enc := Vrb.enc) (fun q hq => dec_vrb hq) f17
  obtain ⟨x18, rfl, w18, v18⟩ := fits_sl (enc := Plc.enc) (fun q hq => dec_plc hq) f18
  obtain ⟨x19, rfl, w19⟩ := fits_int f19
  obtain ⟨x20, rfl, w20⟩ := fits_int f20
  obtain ⟨x21, rfl, w21⟩ := fits_int f21
  exact ⟨⟨⟨x0, x1, x2, x3, x4, x5, x6, x7, x8, x9, x10, x11, x12, x13, x14, x15, x16, x17, x18⟩, x19, x20, x21⟩, rfl, ⟨w0, w2, w4, v4, w5, v5, w6, w9, w10, w11, v11, w13, w14, w15, v15, w16, v16, w17, v17, w18⟩, (i64_range w19).2⟩
end Go.Proofs.YtnibcojenlijgaaGreatDoor.Ev
