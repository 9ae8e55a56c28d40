/- The reference's functions on names and segments at the evaluator. No condition. -/
import Derived.Test.YtnibcojenlijgaaGreatDoorPl1
set_option linter.unusedVariables false
set_option linter.unusedSimpArgs false
namespace Go.Proofs.YtnibcojenlijgaaGreatDoor.Ev
open Go Go.RowKit
set_option maxRecDepth 10000
/-- In a range. -/
def inR (n lo hi : Int) : Bool := decide (n ≥ lo) && decide (n ≤ hi)
theorem inR_iff {n lo hi : Int} : inR n lo hi = true ↔ lo ≤ n ∧ n ≤ hi := by simp [inR]
theorem inR_false {n lo hi : Int} : inR n lo hi = false ↔ n < lo ∨ hi < n := by
  cases h : inR n lo hi with
  | true => have := inR_iff.1 h; simp; omega
  | false => simp; exact Classical.byContradiction fun hc => by rw [inR_iff.2 ⟨by omega, by omega⟩] at h; cases h
theorem not_inR (n lo hi : Int) : (!inR n lo hi) = (decide (n < lo) || decide (n > hi)) := by
  cases h : inR n lo hi with
  | true => have := inR_iff.1 h; simp; omega
  | false => have := inR_false.1 h; simp; omega
theorem In1_rt (n lo hi : Int) : Rt T 96 [.int .i64 n, .int .i64 lo, .int .i64 hi] (.bool (inR n lo hi)) := by
  refine Rt.wp rfl rfl ?_
  repeat' ((conv => whnf); first | refine Br.T ?_ | refine Br.F ?_ | refine And.intro rfl ?_ | refine eq_bool ?_ | refine eq_int ?_ | refine Br.N ?_ | refine Br.kt (by assumption) ?_ | refine Br.kf (by assumption) ?_ | refine Br.mk (fun h => ?_) (fun h => ?_) | refine eq_some ?_)
  all_goals (try simp only [List.length_map, Bool.and_true] at *); first | (simp only [bne, inR, *, decide_true, decide_false, Bool.true_or, Bool.false_or, Bool.or_true, Bool.or_false, Bool.true_and, Bool.false_and, Bool.and_true, Bool.and_false, Bool.not_true, Bool.not_false, cond_true, cond_false] <;> rfl) | (exfalso; simp_all; done) | (simp only [bne, inR]; simp_all only [decide_true, decide_false, Bool.true_or, Bool.false_or, Bool.or_true, Bool.or_false, Bool.true_and, Bool.false_and, Bool.and_true, Bool.and_false, Bool.not_true, Bool.not_false, cond_true, cond_false]; done)
theorem In3_rt (n lo hi : Int) : Rt T 87 [.int .i64 n, .int .i64 lo, .int .i64 hi] (.bool (inR n lo hi)) := by
  refine Rt.wp rfl rfl ?_
  repeat' ((conv => whnf); first | refine Br.T ?_ | refine Br.F ?_ | refine And.intro rfl ?_ | refine eq_bool ?_ | refine eq_int ?_ | refine Br.N ?_ | refine Br.kt (by assumption) ?_ | refine Br.kf (by assumption) ?_ | refine Br.mk (fun h => ?_) (fun h => ?_) | refine eq_some ?_)
  all_goals (try simp only [List.length_map, Bool.and_true] at *); first | (simp only [bne, inR, *, decide_true, decide_false, Bool.true_or, Bool.false_or, Bool.or_true, Bool.or_false, Bool.true_and, Bool.false_and, Bool.and_true, Bool.and_false, Bool.not_true, Bool.not_false, cond_true, cond_false] <;> rfl) | (exfalso; simp_all; done) | (simp only [bne, inR]; simp_all only [decide_true, decide_false, Bool.true_or, Bool.false_or, Bool.or_true, Bool.or_false, Bool.true_and, Bool.false_and, Bool.and_true, Bool.and_false, Bool.not_true, Bool.not_false, cond_true, cond_false]; done)
theorem In4_rt (n lo hi : Int) : Rt T 43 [.int .i64 n, .int .i64 lo, .int .i64 hi] (.bool (inR n lo hi)) := by
  refine Rt.wp rfl rfl ?_
  repeat' ((conv => whnf); first | refine Br.T ?_ | refine Br.F ?_ | refine And.intro rfl ?_ | refine eq_bool ?_ | refine eq_int ?_ | refine Br.N ?_ | refine Br.kt (by assumption) ?_ | refine Br.kf (by assumption) ?_ | refine Br.mk (fun h => ?_) (fun h => ?_) | refine eq_some ?_)
  all_goals (try simp only [List.length_map, Bool.and_true] at *); first | (simp only [bne, inR, *, decide_true, decide_false, Bool.true_or, Bool.false_or, Bool.or_true, Bool.or_false, Bool.true_and, Bool.false_and, Bool.and_true, Bool.and_false, Bool.not_true, Bool.not_false, cond_true, cond_false] <;> rfl) | (exfalso; simp_all; done) | (simp only [bne, inR]; simp_all only [decide_true, decide_false, Bool.true_or, Bool.false_or, Bool.or_true, Bool.or_false, Bool.true_and, Bool.false_and, Bool.and_true, Bool.and_false, Bool.not_true, Bool.not_false, cond_true, cond_false]; done)
theorem In6_rt (n lo hi : Int) : Rt T 19 [.int .i64 n, .int .i64 lo, .int .i64 hi] (.bool (inR n lo hi)) := by
  refine Rt.wp rfl rfl ?_
  repeat' ((conv => whnf); first | refine Br.T ?_ | refine Br.F ?_ | refine And.intro rfl ?_ | refine eq_bool ?_ | refine eq_int ?_ | refine Br.N ?_ | refine Br.kt (by assumption) ?_ | refine Br.kf (by assumption) ?_ | refine Br.mk (fun h => ?_) (fun h => ?_) | refine eq_some ?_)
  all_goals (try simp only [List.length_map, Bool.and_true] at *); first | (simp only [bne, inR, *, decide_true, decide_false, Bool.true_or, Bool.false_or, Bool.or_true, Bool.or_false, Bool.true_and, Bool.false_and, Bool.and_true, Bool.and_false, Bool.not_true, Bool.not_false, cond_true, cond_false] <;> rfl) | (exfalso; simp_all; done) | (simp only [bne, inR]; simp_all only [decide_true, decide_false, Bool.true_or, Bool.false_or, Bool.or_true, Bool.or_false, Bool.true_and, Bool.false_and, Bool.and_true, Bool.and_false, Bool.not_true, Bool.not_false, cond_true, cond_false]; done)
theorem At1_rt (c i : Int) : Rt T 46 [.int .i64 c, .int .i64 i] (Flt.enc ⟨c, i⟩) := by
  refine Rt.wp rfl rfl ?_
  repeat' ((conv => whnf); first | refine Br.T ?_ | refine Br.F ?_ | refine And.intro rfl ?_ | refine eq_bool ?_ | refine eq_int ?_ | refine Br.N ?_ | refine Br.kt (by assumption) ?_ | refine Br.kf (by assumption) ?_ | refine Br.mk (fun h => ?_) (fun h => ?_) | refine eq_some ?_)
  all_goals rfl
theorem At4_rt (c i : Int) : Rt T 40 [.int .i64 c, .int .i64 i] (Flt.enc ⟨c, i⟩) := by
  refine Rt.wp rfl rfl ?_
  repeat' ((conv => whnf); first | refine Br.T ?_ | refine Br.F ?_ | refine And.intro rfl ?_ | refine eq_bool ?_ | refine eq_int ?_ | refine Br.N ?_ | refine Br.kt (by assumption) ?_ | refine Br.kf (by assumption) ?_ | refine Br.mk (fun h => ?_) (fun h => ?_) | refine eq_some ?_)
  all_goals rfl
theorem At5_rt (c i : Int) : Rt T 9 [.int .i64 c, .int .i64 i] (Flt.enc ⟨c, i⟩) := by
  refine Rt.wp rfl rfl ?_
  repeat' ((conv => whnf); first | refine Br.T ?_ | refine Br.F ?_ | refine And.intro rfl ?_ | refine eq_bool ?_ | refine eq_int ?_ | refine Br.N ?_ | refine Br.kt (by assumption) ?_ | refine Br.kf (by assumption) ?_ | refine Br.mk (fun h => ?_) (fun h => ?_) | refine eq_some ?_)
  all_goals rfl
theorem At6_rt (c i : Int) : Rt T 20 [.int .i64 c, .int .i64 i] (Flt.enc ⟨c, i⟩) := by
  refine Rt.wp rfl rfl ?_
  repeat' ((conv => whnf); first | refine Br.T ?_ | refine Br.F ?_ | refine And.intro rfl ?_ | refine eq_bool ?_ | refine eq_int ?_ | refine Br.N ?_ | refine Br.kt (by assumption) ?_ | refine Br.kf (by assumption) ?_ | refine Br.mk (fun h => ?_) (fun h => ?_) | refine eq_some ?_)
  all_goals rfl
/-! ### Names -/
def letterR (c : Int) : Bool := (((inR c 97 122 || inR c 65 90) || (c == 46)) || (c == 95)) || (c == 36)
def nameR (i : Int) (c : Int) : Bool := !(!letterR c && !(decide (i > 0) && inR c 48 57))
theorem nameR_eq (i : Nat) (c : UInt8) : nameR i (IntKind.wrap .i64 c.toNat) = nameB i c.toNat := by
  have hc : c.toNat < 256 := c.toNat_lt
  rw [wrap_in (by omega) (by omega)]
  have hl : letterR c.toNat = nameLetter c.toNat := rfl
  simp only [nameR, nameB, hl]
  cases hn : nameLetter c.toNat with
  | true => simp
  | false =>
    simp only [Bool.not_false, Bool.true_and]
    have h1 : (((i : Int) == 0) || decide ((c.toNat : Int) < 48) || decide ((c.toNat : Int) > 57)) = !(decide ((i : Int) > 0) && inR c.toNat 48 57) := by
      rw [Bool.not_and, not_inR]
      rw [Bool.or_assoc]
      congr 1
      rw [Bool.eq_iff_iff]
      simp
    rw [h1]
theorem allFrom_congr {p q : Int → Int → Bool} (h : ∀ (i : Nat) (c : UInt8), p i c.toNat = q i c.toNat) : ∀ (l : List UInt8) (i : Nat), allFrom p i l = allFrom q i l := by
  intro l
  induction l with
  | nil => intro i; rfl
  | cons c l ih => intro i; simp only [allFrom, h, ih]
theorem sizeOk_inR (s : ByteArray) : inR s.size 1 16 = sizeOk s := rfl
theorem NameOk_rt (s : ByteArray) (hs : s.size ≤ maxLen) : Rt T 39 [.str s] (.bool (isName s)) := by
  have hlen := len_data s
  refine Rt.wp rfl rfl ?_
  refine LoopP.by (α := Nat) (fun k => s.size - k) (fun k => k ≤ s.size ∧ allFrom nameB 0 s.data.toList = allFrom nameB k (s.data.toList.drop k)) (fun k => [.int .i64 k]) (fun k => []) 0 ⟨Nat.zero_le _, rfl⟩ rfl (fun k hk => ?_)
  obtain ⟨h1, h2⟩ := hk
  refine Br.mk (fun h => ?_) (fun h => ?_)
  · have hlt : k < s.data.toList.length := by simp at h; omega
    rw [allFrom_drop hlt] at h2
    have hn := nameR_eq k s.data.toList[k]
    have fin1 : nameR k (IntKind.wrap .i64 s.data.toList[k].toNat) = true → ∃ y, s.size - y < s.size - k ∧ (y ≤ s.size ∧ allFrom nameB 0 s.data.toList = allFrom nameB y (s.data.toList.drop y)) ∧ ([AV.int .i64 (IntKind.wrap .i64 (k + 1))], ([] : List (Nat × Blk))) = ([.int .i64 y], []) := fun hb => ⟨k + 1, by omega, ⟨by omega, by rw [h2, ← hn, hb]; rfl⟩, by rw [wrap_nat (show k < 9223372036854775807 by unfold maxLen at hs; omega)]⟩
    have fin0 : nameR k (IntKind.wrap .i64 s.data.toList[k].toNat) = false → false = isName s := fun hb => by simp only [isName]; rw [h2, ← hn, hb]; rfl
    clear h h2 h1 hs hlen hn
    repeat' ((conv => whnf); first | refine Br.T ?_ | refine Br.F ?_ | refine And.intro rfl ?_ | refine eq_bool ?_ | refine eq_int ?_ | refine SomeP.mk' (idx_str hlt) ?_ | refine CallP.mk' (In3_rt _ _ _) ?_ | refine Br.N ?_ | refine Br.kt (by assumption) ?_ | refine Br.kf (by assumption) ?_ | refine Br.mk (fun h => ?_) (fun h => ?_) | refine eq_some ?_)
    all_goals first
      | exact fin1 (by simp only [nameR, letterR, *]; rfl)
      | exact fin0 (by simp only [nameR, letterR, *]; rfl)
  · have hge : s.data.toList.length ≤ k := by simp at h; omega
    have fin : inR s.size 1 16 = isName s := by simp only [isName]; rw [h2, List.drop_of_length_le hge]; rfl
    clear h h2 h1 hs hlen
    repeat' ((conv => whnf); first | refine Br.T ?_ | refine Br.F ?_ | refine And.intro rfl ?_ | refine eq_bool ?_ | refine eq_int ?_ | refine CallP.mk' (In3_rt _ _ _) ?_ | refine Br.N ?_ | refine Br.kt (by assumption) ?_ | refine Br.kf (by assumption) ?_ | refine Br.mk (fun h => ?_) (fun h => ?_) | refine eq_some ?_)
    all_goals exact fin
def nameByteR (c : Int) : Bool := ((((inR (IntKind.wrap .i64 c) 97 122 || inR (IntKind.wrap .i64 c) 65 90) || inR (IntKind.wrap .i64 c) 48 57) || (c == 46)) || (c == 95)) || (c == 36)
theorem nameByteR_eq (c : UInt8) : nameByteR c.toNat = nameByte c.toNat := by
  have hc : c.toNat < 256 := c.toNat_lt
  simp only [nameByteR]
  rw [wrap_in (by omega) (by omega)]
  rfl
theorem NameByte_rt (c : Int) : Rt T 108 [.int .u8 c] (.bool (nameByteR c)) := by
  refine Rt.wp rfl rfl ?_
  repeat' ((conv => whnf); first | refine Br.T ?_ | refine Br.F ?_ | refine And.intro rfl ?_ | refine eq_bool ?_ | refine eq_int ?_ | refine CallP.mk' (In1_rt _ _ _) ?_ | refine Br.N ?_ | refine Br.kt (by assumption) ?_ | refine Br.kf (by assumption) ?_ | refine Br.mk (fun h => ?_) (fun h => ?_) | refine eq_some ?_)
  all_goals (try simp only [List.length_map, Bool.and_true] at *); first | (simp only [bne, nameByteR, *, decide_true, decide_false, Bool.true_or, Bool.false_or, Bool.or_true, Bool.or_false, Bool.true_and, Bool.false_and, Bool.and_true, Bool.and_false, Bool.not_true, Bool.not_false, cond_true, cond_false] <;> rfl) | (exfalso; simp_all; done) | (simp only [bne, nameByteR]; simp_all only [decide_true, decide_false, Bool.true_or, Bool.false_or, Bool.or_true, Bool.or_false, Bool.true_and, Bool.false_and, Bool.and_true, Bool.and_false, Bool.not_true, Bool.not_false, cond_true, cond_false]; done)
def allB (p : Int → Bool) : List UInt8 → Bool
  | [] => true
  | c :: l => p c.toNat && allB p l
theorem allB_drop {p : Int → Bool} {l : List UInt8} {k : Nat} (hk : k < l.length) : allB p (l.drop k) = (p l[k].toNat && allB p (l.drop (k + 1))) := by
  rw [List.drop_eq_getElem_cons hk]; rfl
theorem tok_tail : ∀ (l : List UInt8) (i : Nat), 0 < i → allFrom tokB i l = allB nameByteR l := by
  intro l
  induction l with
  | nil => intro i _; rfl
  | cons c l ih =>
    intro i hi
    simp only [allFrom, allB]
    rw [ih (i + 1) (by omega), nameByteR_eq]
    have : ((i : Int) == 0) = false := by simp; omega
    simp [tokB, this]
theorem isTok_eq (s : ByteArray) : isTok s = (allB nameByteR s.data.toList && (inR s.size 1 16 && match s.data.toList with | [] => true | c :: _ => !inR (IntKind.wrap .i64 c.toNat) 48 57)) := by
  simp only [isTok, ← sizeOk_inR]
  cases hl : s.data.toList with
  | nil =>
    have : s.size = 0 := by rw [← len_data, hl]; rfl
    simp [allFrom, allB]
  | cons c l =>
    have hc : c.toNat < 256 := c.toNat_lt
    simp only [allFrom, allB]
    rw [tok_tail l (0 + 1) (by omega), nameByteR_eq, wrap_in (by omega) (by omega)]
    simp only [tokB, isDigit, inR]
    simp
    cases nameByte c.toNat <;> cases allB nameByteR l <;> simp [Bool.and_comm]
theorem byte0 {s : ByteArray} (h : inR s.size 1 16 = true) : ∃ c l, s.data.toList = c :: l ∧ idxStr s 0 = some (.int .u8 c.toNat) := by
  have h1 := (inR_iff.1 h).1
  have h2 := len_data s
  cases hl : s.data.toList with
  | nil => rw [hl] at h2; simp at h2; omega
  | cons c l =>
    refine ⟨c, l, rfl, ?_⟩
    have h3 : 0 < s.data.toList.length := by rw [hl]; simp
    have := idx_str (s := s) (k := 0) h3
    rw [show ((0 : Nat) : Int) = 0 from rfl] at this
    rw [this]
    congr 3
    simp [hl]
theorem Name_rt (s : ByteArray) (hs : s.size ≤ maxLen) : Rt T 97 [.str s] (.bool (isTok s)) := by
  have hlen := len_data s
  rw [isTok_eq]
  refine Rt.wp rfl rfl ?_
  refine LoopP.by (α := Nat) (fun k => s.size - k) (fun k => k ≤ s.size ∧ allB nameByteR s.data.toList = allB nameByteR (s.data.toList.drop k)) (fun k => [.int .i64 k]) (fun k => []) 0 ⟨Nat.zero_le _, rfl⟩ rfl (fun k hk => ?_)
  obtain ⟨h1, h2⟩ := hk
  refine Br.mk (fun h => ?_) (fun h => ?_)
  · have hlt : k < s.data.toList.length := by simp at h; omega
    rw [allB_drop hlt] at h2
    refine SomeP.mk' (idx_str hlt) ?_
    refine CallP.mk' (NameByte_rt _) ?_
    refine Br.N ?_
    refine Br.mk (fun h' => ?_) (fun h' => ?_)
    · exact ⟨k + 1, by omega, ⟨by omega, by rw [h2, h']; rfl⟩, by rw [← wrap_nat (show k < 9223372036854775807 by unfold maxLen at hs; omega)]; rfl⟩
    · exact eq_bool (by rw [h2, h']; rfl)
  · have hge : s.data.toList.length ≤ k := by simp at h; omega
    rw [h2, List.drop_of_length_le hge]
    cases hin : inR s.size 1 16 with
    | false =>
      clear h h2 h1 hs hlen
      repeat' ((conv => whnf); first | refine Br.T ?_ | refine Br.F ?_ | refine And.intro rfl ?_ | refine eq_bool ?_ | refine eq_int ?_ | refine CallP.mk' (In1_rt _ _ _) ?_ | refine Br.N ?_ | refine Br.kt (by assumption) ?_ | refine Br.kf (by assumption) ?_ | refine Br.mk (fun h => ?_) (fun h => ?_) | refine eq_some ?_)
      all_goals first
        | rfl
        | (exfalso; simp_all; done)
    | true =>
      obtain ⟨c, r, hl, hx⟩ := byte0 hin
      clear h h2 h1 hs hlen
      simp only [hl]
      repeat' ((conv => whnf); first | refine Br.T ?_ | refine Br.F ?_ | refine And.intro rfl ?_ | refine eq_bool ?_ | refine eq_int ?_ | refine CallP.mk' (In1_rt _ _ _) ?_ | refine SomeP.mk' (hx) ?_ | refine Br.N ?_ | refine Br.kt (by assumption) ?_ | refine Br.kf (by assumption) ?_ | refine Br.mk (fun h => ?_) (fun h => ?_) | refine eq_some ?_)
      all_goals first
        | rfl
        | (exfalso; simp_all; done)
theorem versionOk_rt (s : ByteArray) (hs : s.size ≤ maxLen) : Rt T 105 [.str s] (.bool (isVersion s)) := by
  refine Rt.wp rfl rfl ?_
  repeat' ((conv => whnf); first | refine Br.T ?_ | refine Br.F ?_ | refine And.intro rfl ?_ | refine eq_bool ?_ | refine eq_int ?_ | refine CallP.mk' (NameOk_rt s hs) ?_ | refine Br.N ?_ | refine Br.kt (by assumption) ?_ | refine Br.kf (by assumption) ?_ | refine Br.mk (fun h => ?_) (fun h => ?_) | refine eq_some ?_)
  all_goals (simp only [isVersion, emptyS, *]; try rfl)
theorem Before_rt (a b : ByteArray) : Rt T 106 [.str a, .str b] (.bool (lessS a b)) := by
  refine Rt.wp rfl rfl ?_
  repeat' ((conv => whnf); first | refine Br.T ?_ | refine Br.F ?_ | refine And.intro rfl ?_ | refine eq_bool ?_ | refine eq_int ?_ | refine Br.N ?_ | refine Br.kt (by assumption) ?_ | refine Br.kf (by assumption) ?_ | refine Br.mk (fun h => ?_) (fun h => ?_) | refine eq_some ?_)
  all_goals rfl
def varBefore (a b : Vrb) : Bool := bif a.addr != b.addr then decide (a.addr < b.addr) else bif !(a.name.toList == b.name.toList) then lessS a.name b.name else decide (a.type < b.type)
theorem VarBefore_rt (a b : Vrb) : Rt T 107 [.agg a.enc, .agg b.enc] (.bool (varBefore a b)) := by
  refine Rt.wp rfl rfl ?_
  repeat' ((conv => whnf); first | refine Br.T ?_ | refine Br.F ?_ | refine And.intro rfl ?_ | refine eq_bool ?_ | refine eq_int ?_ | refine CallP.mk' (Before_rt _ _) ?_ | refine Br.N ?_ | refine Br.kt (by assumption) ?_ | refine Br.kf (by assumption) ?_ | refine Br.mk (fun h => ?_) (fun h => ?_) | refine eq_some ?_)
  all_goals (try simp only [List.length_map, Bool.and_true] at *); first | (simp only [bne, varBefore, *, decide_true, decide_false, Bool.true_or, Bool.false_or, Bool.or_true, Bool.or_false, Bool.true_and, Bool.false_and, Bool.and_true, Bool.and_false, Bool.not_true, Bool.not_false, cond_true, cond_false] <;> rfl) | (exfalso; simp_all; done) | (simp only [bne, varBefore]; simp_all only [decide_true, decide_false, Bool.true_or, Bool.false_or, Bool.or_true, Bool.or_false, Bool.true_and, Bool.false_and, Bool.and_true, Bool.and_false, Bool.not_true, Bool.not_false, cond_true, cond_false]; done)
/-! ### Segments -/
def withinR (x : Img) (a s r : Int) : Bool := x.segs.any fun g => (wand g.rights r == r) && (inR a g.addr (w64 (g.addr + g.size)) && decide (s ≤ w64 (w64 (g.addr + g.size) - a)))
theorem any_drop {α : Type} {p : α → Bool} {l : List α} {k : Nat} (hk : k < l.length) : (l.drop k).any p = (p l[k] || (l.drop (k + 1)).any p) := by
  rw [List.drop_eq_getElem_cons hk]; rfl
theorem Within_rt (x : Img) (hx : x.segs.length ≤ maxLen) (a s r : Int) : Rt T 42 [.agg x.enc, .int .i64 a, .int .i64 s, .int .i64 r] (.bool (withinR x a s r)) := by
  unfold withinR
  generalize hp : (fun g : Seg => (wand g.rights r == r) && (inR a g.addr (w64 (g.addr + g.size)) && decide (s ≤ w64 (w64 (g.addr + g.size) - a)))) = p
  have hpp : ∀ g, p g = ((wand g.rights r == r) && (inR a g.addr (w64 (g.addr + g.size)) && decide (s ≤ w64 (w64 (g.addr + g.size) - a)))) := fun g => by rw [← hp]
  refine Rt.wp rfl rfl ?_
  refine LoopP.by (α := Nat) (fun k => x.segs.length - k) (fun k => k ≤ x.segs.length ∧ x.segs.any p = (x.segs.drop k).any p) (fun k => [.int .i64 k]) (fun k => [(0, ⟨19, [x.enc]⟩)]) 0 ⟨Nat.zero_le _, rfl⟩ rfl (fun k hk => ?_)
  obtain ⟨h1, h2⟩ := hk
  refine Br.mk (fun h => ?_) (fun h => ?_)
  · have hlt : k < x.segs.length := by simp at h; omega
    rw [any_drop hlt] at h2
    have hw := wrap_nat (show k < 9223372036854775807 by unfold maxLen at hx; omega)
    have yes : p x.segs[k] = true → true = x.segs.any p := fun hb => by rw [h2, hb]; rfl
    have no : p x.segs[k] = false → ∃ y, x.segs.length - y < x.segs.length - k ∧ (y ≤ x.segs.length ∧ x.segs.any p = (x.segs.drop y).any p) ∧ (([AV.int .i64 (IntKind.wrap .i64 (k + 1))], [(0, ⟨19, [x.enc]⟩)]) : List AV × List (Nat × Blk)) = ([.int .i64 y], [(0, ⟨19, [x.enc]⟩)]) := fun hb =>
      ⟨k + 1, by omega, ⟨by omega, by rw [h2, hb]; rfl⟩, by rw [hw]⟩
    have hk := hpp x.segs[k]
    clear h h2 h1 hw hx hp hpp
    repeat' ((conv => whnf); first | refine Br.T ?_ | refine Br.F ?_ | refine And.intro rfl ?_ | refine eq_bool ?_ | refine eq_int ?_ | refine SomeP.mk' (idx_map hlt fun _ => rfl) ?_ | refine CallP.mk' (In4_rt _ _ _) ?_ | refine Br.N ?_ | refine Br.kt (by assumption) ?_ | refine Br.kf (by assumption) ?_ | refine Br.mk (fun h => ?_) (fun h => ?_) | refine eq_some ?_)
    all_goals first
      | exact yes (by rw [hk]; clear yes no hk; (try simp only [List.length_map, Bool.and_true] at *); first | (simp only [bne, *, decide_true, decide_false, Bool.true_or, Bool.false_or, Bool.or_true, Bool.or_false, Bool.true_and, Bool.false_and, Bool.and_true, Bool.and_false, Bool.not_true, Bool.not_false, cond_true, cond_false] <;> rfl) | (exfalso; simp_all; done) | (simp only [bne]; simp_all only [decide_true, decide_false, Bool.true_or, Bool.false_or, Bool.or_true, Bool.or_false, Bool.true_and, Bool.false_and, Bool.and_true, Bool.and_false, Bool.not_true, Bool.not_false, cond_true, cond_false]; done))
      | exact no (by rw [hk]; clear yes no hk; (try simp only [List.length_map, Bool.and_true] at *); first | (simp only [bne, *, decide_true, decide_false, Bool.true_or, Bool.false_or, Bool.or_true, Bool.or_false, Bool.true_and, Bool.false_and, Bool.and_true, Bool.and_false, Bool.not_true, Bool.not_false, cond_true, cond_false] <;> rfl) | (exfalso; simp_all; done) | (simp only [bne]; simp_all only [decide_true, decide_false, Bool.true_or, Bool.false_or, Bool.or_true, Bool.or_false, Bool.true_and, Bool.false_and, Bool.and_true, Bool.and_false, Bool.not_true, Bool.not_false, cond_true, cond_false]; done))
  · have hge : x.segs.length ≤ k := by simp at h; omega
    rw [h2, List.drop_of_length_le hge]
    repeat' ((conv => whnf); first | refine Br.T ?_ | refine Br.F ?_ | refine And.intro rfl ?_ | refine eq_bool ?_ | refine eq_int ?_ | refine Br.N ?_ | refine Br.kt (by assumption) ?_ | refine Br.kf (by assumption) ?_ | refine Br.mk (fun h => ?_) (fun h => ?_) | refine eq_some ?_)
    all_goals rfl
theorem withinR_eq {x : Img} (hx : ∀ s ∈ x.segs, SegOK s) {a s r : Int} (h0 : 0 ≤ s) : withinR x a s r = within x a s r := by
  rw [within_any]
  unfold withinR
  have : ∀ g ∈ x.segs, ((wand g.rights r == r) && (inR a g.addr (w64 (g.addr + g.size)) && decide (s ≤ w64 (w64 (g.addr + g.size) - a)))) = g.has a s r := fun g hg => by
    obtain ⟨g1, g2, g3⟩ := hx g hg
    simp only [Seg.has]
    congr 1
    rw [w64_in (n := g.addr + g.size) (by omega) (by omega)]
    rw [Bool.eq_iff_iff]
    simp only [Bool.and_eq_true, decide_eq_true_eq, inR_iff]
    by_cases hin : g.addr ≤ a ∧ a ≤ g.addr + g.size
    · rw [w64_in (n := g.addr + g.size - a) (by omega) (by omega)]
      by_cases hs : s ≤ g.size
      · rw [w64_in (n := g.addr + g.size - s) (by omega) (by omega)]
        omega
      · omega
    · constructor
      · intro h; exact absurd h.1 hin
      · intro h
        obtain ⟨e1, e2, e3⟩ := h
        rw [w64_in (n := g.addr + g.size - s) (by omega) (by omega)] at e3
        omega
  clear h0 hx
  revert this
  generalize x.segs = l
  induction l with
  | nil => intro _; rfl
  | cons g l ih => intro this; simp only [List.any_cons]; rw [this g (List.mem_cons_self ..), ih fun y hy => this y (List.mem_cons_of_mem _ hy)]
theorem upI_ge {n : Int} (h0 : 0 ≤ n) (h1 : n ≤ 2097152) : n ≤ upI n 256 ∧ upI n 256 < n + 256 ∧ (upI n 256) % 256 = 0 ∧ upI n 256 = (n + 255) / 256 * 256 := by
  have : upI n 256 = (n + 255) / 256 * 256 := by
    simp only [upI]
    rw [w64_in (n := n + 256) (by omega) (by omega), w64_in (n := n + 256 - 1) (by omega) (by omega), Int.tdiv_eq_ediv_of_nonneg (by omega), w64_in (n := (n + 256 - 1) / 256) (by omega) (by omega), w64_in (by omega) (by omega)]
    omega
  omega
theorem Round_rt (n : Int) (h0 : 0 ≤ n) (h1 : n ≤ 2097152) : Rt T 88 [.int .i64 n, .int .i64 256] (.int .i64 (upI n 256)) := by
  obtain ⟨u1, u2, u3, _⟩ := upI_ge h0 h1
  refine Rt.wp rfl rfl ?_
  refine LoopP.by (α := Int) (fun m => (upI n 256 - m).toNat) (fun m => n ≤ m ∧ m ≤ upI n 256) (fun m => [.int .i64 m]) (fun m => []) n ⟨by omega, u1⟩ rfl (fun m hm => ?_)
  obtain ⟨m1, m2⟩ := hm
  have ht : m.tmod 256 = m % 256 := Int.tmod_eq_emod_of_nonneg (by omega)
  refine Br.mk (fun h => ?_) (fun h => ?_)
  · have hne : m % 256 ≠ 0 := by rw [← ht]; simpa using h
    refine ⟨m + 1, by omega, ⟨by omega, by omega⟩, ?_⟩
    have hw : IntKind.wrap .i64 (m + 1) = m + 1 := wrap_in (by omega) (by omega)
    refine Eq.trans (show _ = (([AV.int .i64 (IntKind.wrap .i64 (m + 1))], []) : List AV × List (Nat × Blk)) from rfl) ?_
    rw [hw]
  · have he : m % 256 = 0 := by rw [← ht]; simpa using h
    exact eq_int (by omega)
end Go.Proofs.YtnibcojenlijgaaGreatDoor.Ev
