/- The reference's codes of the elements of images at the evaluator. No condition. -/
import Derived.Test.YtnibcojenlijgaaGreatDoorRa
set_option linter.unusedVariables false
set_option linter.unusedSimpArgs false
namespace Go.Proofs.YtnibcojenlijgaaGreatDoor.Ev
open Go Go.RowKit
set_option maxRecDepth 10000

/-! ### The reference's codes of elements; 'p': the element before -/
def segR (k : Int) (g p : Seg) : Int :=
  bif decide (g.addr < 0) || (!inR g.size 1 1048576 || (decide (g.addr > w64 (1048576 - g.size)) || !inR g.rights 1 7)) then 3
  else bif g.addr.tmod 256 != 0 then 5
  else bif decide ((g.data.length : Int) > g.size) then 9
  else bif decide (k > 0) && decide (g.addr < upI (w64 (p.addr + p.size)) 256) then 13 else 0
def expR (x : Img) (k : Int) (e p : Exp) : Int :=
  bif !isName e.name || !isVersion e.version then 12
  else bif e.dflt && emptyS e.version then 5
  else bif !inR e.size 0 1000000 || (e.thread && !inR e.addr 0 x.tsize || (!e.thread && !withinR x e.addr 0 0)) then 3
  else bif decide (k > 0) && !lessS p.name e.name && (!(p.name.toList == e.name.toList) || !lessS p.version e.version) then 5 else 0
def impR (x : Img) (m : Imp) : Int :=
  bif !isName m.name || !isVersion m.version then 12
  else bif !inR m.size 0 1000000 || (decide (m.slot < -1) || decide (m.copy < -1)) then 3
  else bif (m.slot != -1) && ((m.slot.tmod 4 != 0) || !withinR x m.slot 4 2) then 5
  else bif (m.copy == -1) && (m.size != 0) || ((m.copy != -1) && !withinR x m.copy m.size 2) then 5 else 0
def fixR (x : Img) (k : Int) (f p : Fix) : Int :=
  bif !inR f.kind 1 4 then 4
  else bif !inR f.addend (-1048576) 1048576 || !inR f.imp (-1) (w64 ((x.imps.length : Int) - 1)) then 3
  else bif ((f.kind == 2) || (f.kind == 3)) && decide (f.imp < 0) || (!((f.kind == 2) || (f.kind == 3)) && (decide (f.imp ≥ 0) || (f.addend != 0)) || !withinR x f.addr 4 0) then 5
  else bif decide (k > 0) && decide (w64 (f.addr - p.addr) < 4) then 5 else 0
def linR (x : Img) (k : Int) (r p : Lin) : Int :=
  bif !inR r.line 0 1000000 || (!inR r.offset 0 1048576 || ((r.line == 0) && (r.file != 0) || ((r.line != 0) && !inR r.file 0 (w64 ((x.files.length : Int) - 1))))) then 3
  else bif decide (k > 0) && decide (p.offset ≥ r.offset) then 5 else 0
def unwR (k : Int) (r p : Unw) : Int :=
  bif !inR r.reg (-1) 7 || (!inR r.offset 0 1048576 || (!inR r.add (-1048576) 1048576 || !inR r.saved (-1048576) 0)) then 3
  else bif decide (k > 0) && decide (p.offset ≥ r.offset) then 5 else 0
def varR (x : Img) (k : Int) (v p : Vrb) : Int :=
  bif !isName v.name then 12
  else bif !inR v.type 0 (w64 ((x.types.length : Int) - 1)) || !withinR x v.addr 0 0 then 3
  else bif decide (k > 0) && !varBefore p v then 5 else 0
def plcR (x : Img) (k : Int) (q p : Plc) : Int :=
  bif !inR q.module 0 1000000 || (!inR q.sect 0 1000000 || (!inR q.offset 0 1000000 || (decide (q.size < 1) || !withinR x q.addr q.size 0))) then 3
  else bif decide (k > 0) && decide (w64 (q.addr - p.size) < p.addr) then 5 else 0
theorem segR_rt (x : Img) (hl : x.segs.length ≤ maxLen) (k : Nat) (hk : k < x.segs.length) (hp : 0 < k → SegOK (x.segs[k - 1]'(by omega))) : Rt T 41 [.agg x.enc, .int .i64 k] (.int .i64 (segR k x.segs[k] (x.segs[k - 1]'(by omega)))) := by
  have hr : decide ((k : Int) > 0) = true → Rt T 88 [.int .i64 (IntKind.wrap .i64 ((x.segs[k - 1]'(by omega)).addr + (x.segs[k - 1]'(by omega)).size)), .int .i64 256] (.int .i64 (upI (w64 ((x.segs[k - 1]'(by omega)).addr + (x.segs[k - 1]'(by omega)).size)) 256)) := fun h => by
    obtain ⟨g1, g2, g3⟩ := hp (by simpa using h)
    exact Round_rt _ (by rw [wrap_in (by omega) (by omega)]; omega) (by rw [wrap_in (by omega) (by omega)]; omega)
  refine Rt.wp rfl rfl ?_
  repeat' ((conv => whnf); first | refine Br.T ?_ | refine Br.F ?_ | refine And.intro rfl ?_ | refine eq_bool ?_ | refine eq_int ?_ | refine SomeP.mk' (idx_map hk fun _ => rfl) ?_ | refine SomeP.mk' (idx_pred (by assumption) hk hl fun _ => rfl) ?_ | refine CallP.mk' (In4_rt _ _ _) ?_ | refine CallP.mk' (hr (by assumption)) ?_ | refine Br.N ?_ | refine Br.kt (by assumption) ?_ | refine Br.kf (by assumption) ?_ | refine Br.mk (fun h => ?_) (fun h => ?_) | refine eq_some ?_)
  all_goals (clear hr hp)
  all_goals ((try simp only [List.length_map, Bool.and_true] at *); first | (simp only [bne, segR, *, decide_true, decide_false, Bool.true_or, Bool.false_or, Bool.or_true, Bool.or_false, Bool.true_and, Bool.false_and, Bool.and_true, Bool.and_false, Bool.not_true, Bool.not_false, cond_true, cond_false] <;> rfl) | (exfalso; simp_all; done) | (simp only [bne, segR]; simp_all only [decide_true, decide_false, Bool.true_or, Bool.false_or, Bool.or_true, Bool.or_false, Bool.true_and, Bool.false_and, Bool.and_true, Bool.and_false, Bool.not_true, Bool.not_false, cond_true, cond_false]; done))
theorem expR_rt (x : Img) (ok : x.ok) (k : Nat) (hk : k < x.exps.length) : Rt T 89 [.agg x.enc, .int .i64 k] (.int .i64 (expR x k x.exps[k] x.exps[k - 1])) := by
  have hl := ok.exps
  refine Rt.wp rfl rfl ?_
  repeat' ((conv => whnf); first | refine Br.T ?_ | refine Br.F ?_ | refine And.intro rfl ?_ | refine eq_bool ?_ | refine eq_int ?_ | refine SomeP.mk' (idx_map hk fun _ => rfl) ?_ | refine SomeP.mk' (idx_pred (by assumption) hk hl fun _ => rfl) ?_ | refine CallP.mk' (NameOk_rt _ (ok.expN _ (List.getElem_mem hk)).1) ?_ | refine CallP.mk' (versionOk_rt _ (ok.expN _ (List.getElem_mem hk)).2) ?_ | refine CallP.mk' (Before_rt _ _) ?_ | refine CallP.mk' (Within_rt x ok.segs _ _ _) ?_ | refine CallP.mk' (In4_rt _ _ _) ?_ | refine Br.N ?_ | refine Br.kt (by assumption) ?_ | refine Br.kf (by assumption) ?_ | refine Br.mk (fun h => ?_) (fun h => ?_) | refine eq_some ?_)
  all_goals ((try simp only [List.length_map, Bool.and_true] at *); first | (simp only [bne, expR, emptyS, *, decide_true, decide_false, Bool.true_or, Bool.false_or, Bool.or_true, Bool.or_false, Bool.true_and, Bool.false_and, Bool.and_true, Bool.and_false, Bool.not_true, Bool.not_false, cond_true, cond_false] <;> rfl) | (exfalso; simp_all; done) | (simp only [bne, expR, emptyS]; simp_all only [decide_true, decide_false, Bool.true_or, Bool.false_or, Bool.or_true, Bool.or_false, Bool.true_and, Bool.false_and, Bool.and_true, Bool.and_false, Bool.not_true, Bool.not_false, cond_true, cond_false]; done))
theorem impR_rt (x : Img) (ok : x.ok) (k : Nat) (hk : k < x.imps.length) : Rt T 90 [.agg x.enc, .int .i64 k] (.int .i64 (impR x x.imps[k])) := by
  have hl := ok.imps
  refine Rt.wp rfl rfl ?_
  repeat' ((conv => whnf); first | refine Br.T ?_ | refine Br.F ?_ | refine And.intro rfl ?_ | refine eq_bool ?_ | refine eq_int ?_ | refine SomeP.mk' (idx_map hk fun _ => rfl) ?_ | refine SomeP.mk' (idx_pred (by assumption) hk hl fun _ => rfl) ?_ | refine CallP.mk' (NameOk_rt _ (ok.impN _ (List.getElem_mem hk)).1) ?_ | refine CallP.mk' (versionOk_rt _ (ok.impN _ (List.getElem_mem hk)).2) ?_ | refine CallP.mk' (Within_rt x ok.segs _ _ _) ?_ | refine CallP.mk' (In4_rt _ _ _) ?_ | refine Br.N ?_ | refine Br.kt (by assumption) ?_ | refine Br.kf (by assumption) ?_ | refine Br.mk (fun h => ?_) (fun h => ?_) | refine eq_some ?_)
  all_goals ((try simp only [List.length_map, Bool.and_true] at *); first | (simp only [bne, impR, emptyS, *, decide_true, decide_false, Bool.true_or, Bool.false_or, Bool.or_true, Bool.or_false, Bool.true_and, Bool.false_and, Bool.and_true, Bool.and_false, Bool.not_true, Bool.not_false, cond_true, cond_false] <;> rfl) | (exfalso; simp_all; done) | (simp only [bne, impR, emptyS]; simp_all only [decide_true, decide_false, Bool.true_or, Bool.false_or, Bool.or_true, Bool.or_false, Bool.true_and, Bool.false_and, Bool.and_true, Bool.and_false, Bool.not_true, Bool.not_false, cond_true, cond_false]; done))
theorem fixR_rt (x : Img) (ok : x.ok) (k : Nat) (hk : k < x.fixs.length) : Rt T 91 [.agg x.enc, .int .i64 k] (.int .i64 (fixR x k x.fixs[k] x.fixs[k - 1])) := by
  have hl := ok.fixs
  refine Rt.wp rfl rfl ?_
  repeat' ((conv => whnf); first | refine Br.T ?_ | refine Br.F ?_ | refine And.intro rfl ?_ | refine eq_bool ?_ | refine eq_int ?_ | refine SomeP.mk' (idx_map hk fun _ => rfl) ?_ | refine SomeP.mk' (idx_pred (by assumption) hk hl fun _ => rfl) ?_ | refine CallP.mk' (Within_rt x ok.segs _ _ _) ?_ | refine CallP.mk' (In4_rt _ _ _) ?_ | refine Br.N ?_ | refine Br.kt (by assumption) ?_ | refine Br.kf (by assumption) ?_ | refine Br.mk (fun h => ?_) (fun h => ?_) | refine eq_some ?_)
  all_goals ((try simp only [List.length_map, Bool.and_true] at *); first | (simp only [bne, fixR, emptyS, *, decide_true, decide_false, Bool.true_or, Bool.false_or, Bool.or_true, Bool.or_false, Bool.true_and, Bool.false_and, Bool.and_true, Bool.and_false, Bool.not_true, Bool.not_false, cond_true, cond_false] <;> rfl) | (exfalso; simp_all; done) | (simp only [bne, fixR, emptyS]; simp_all only [decide_true, decide_false, Bool.true_or, Bool.false_or, Bool.or_true, Bool.or_false, Bool.true_and, Bool.false_and, Bool.and_true, Bool.and_false, Bool.not_true, Bool.not_false, cond_true, cond_false]; done))
theorem linR_rt (x : Img) (ok : x.ok) (k : Nat) (hk : k < x.lines.length) : Rt T 92 [.agg x.enc, .int .i64 k] (.int .i64 (linR x k x.lines[k] x.lines[k - 1])) := by
  have hl := ok.lines
  refine Rt.wp rfl rfl ?_
  repeat' ((conv => whnf); first | refine Br.T ?_ | refine Br.F ?_ | refine And.intro rfl ?_ | refine eq_bool ?_ | refine eq_int ?_ | refine SomeP.mk' (idx_map hk fun _ => rfl) ?_ | refine SomeP.mk' (idx_pred (by assumption) hk hl fun _ => rfl) ?_ | refine CallP.mk' (Within_rt x ok.segs _ _ _) ?_ | refine CallP.mk' (In4_rt _ _ _) ?_ | refine Br.N ?_ | refine Br.kt (by assumption) ?_ | refine Br.kf (by assumption) ?_ | refine Br.mk (fun h => ?_) (fun h => ?_) | refine eq_some ?_)
  all_goals ((try simp only [List.length_map, Bool.and_true] at *); first | (simp only [bne, linR, emptyS, *, decide_true, decide_false, Bool.true_or, Bool.false_or, Bool.or_true, Bool.or_false, Bool.true_and, Bool.false_and, Bool.and_true, Bool.and_false, Bool.not_true, Bool.not_false, cond_true, cond_false] <;> rfl) | (exfalso; simp_all; done) | (simp only [bne, linR, emptyS]; simp_all only [decide_true, decide_false, Bool.true_or, Bool.false_or, Bool.or_true, Bool.or_false, Bool.true_and, Bool.false_and, Bool.and_true, Bool.and_false, Bool.not_true, Bool.not_false, cond_true, cond_false]; done))
theorem unwR_rt (x : Img) (ok : x.ok) (k : Nat) (hk : k < x.unw.length) : Rt T 93 [.agg x.enc, .int .i64 k] (.int .i64 (unwR k x.unw[k] x.unw[k - 1])) := by
  have hl := ok.unw
  refine Rt.wp rfl rfl ?_
  repeat' ((conv => whnf); first | refine Br.T ?_ | refine Br.F ?_ | refine And.intro rfl ?_ | refine eq_bool ?_ | refine eq_int ?_ | refine SomeP.mk' (idx_map hk fun _ => rfl) ?_ | refine SomeP.mk' (idx_pred (by assumption) hk hl fun _ => rfl) ?_ | refine CallP.mk' (Within_rt x ok.segs _ _ _) ?_ | refine CallP.mk' (In4_rt _ _ _) ?_ | refine Br.N ?_ | refine Br.kt (by assumption) ?_ | refine Br.kf (by assumption) ?_ | refine Br.mk (fun h => ?_) (fun h => ?_) | refine eq_some ?_)
  all_goals ((try simp only [List.length_map, Bool.and_true] at *); first | (simp only [bne, unwR, emptyS, *, decide_true, decide_false, Bool.true_or, Bool.false_or, Bool.or_true, Bool.or_false, Bool.true_and, Bool.false_and, Bool.and_true, Bool.and_false, Bool.not_true, Bool.not_false, cond_true, cond_false] <;> rfl) | (exfalso; simp_all; done) | (simp only [bne, unwR, emptyS]; simp_all only [decide_true, decide_false, Bool.true_or, Bool.false_or, Bool.or_true, Bool.or_false, Bool.true_and, Bool.false_and, Bool.and_true, Bool.and_false, Bool.not_true, Bool.not_false, cond_true, cond_false]; done))
theorem varR_rt (x : Img) (ok : x.ok) (k : Nat) (hk : k < x.vars.length) : Rt T 94 [.agg x.enc, .int .i64 k] (.int .i64 (varR x k x.vars[k] x.vars[k - 1])) := by
  have hl := ok.vars
  refine Rt.wp rfl rfl ?_
  repeat' ((conv => whnf); first | refine Br.T ?_ | refine Br.F ?_ | refine And.intro rfl ?_ | refine eq_bool ?_ | refine eq_int ?_ | refine SomeP.mk' (idx_map hk fun _ => rfl) ?_ | refine SomeP.mk' (idx_pred (by assumption) hk hl fun _ => rfl) ?_ | refine CallP.mk' (NameOk_rt _ (ok.varN _ (List.getElem_mem hk))) ?_ | refine CallP.mk' (VarBefore_rt _ _) ?_ | refine CallP.mk' (Within_rt x ok.segs _ _ _) ?_ | refine CallP.mk' (In4_rt _ _ _) ?_ | refine Br.N ?_ | refine Br.kt (by assumption) ?_ | refine Br.kf (by assumption) ?_ | refine Br.mk (fun h => ?_) (fun h => ?_) | refine eq_some ?_)
  all_goals ((try simp only [List.length_map, Bool.and_true] at *); first | (simp only [bne, varR, emptyS, *, decide_true, decide_false, Bool.true_or, Bool.false_or, Bool.or_true, Bool.or_false, Bool.true_and, Bool.false_and, Bool.and_true, Bool.and_false, Bool.not_true, Bool.not_false, cond_true, cond_false] <;> rfl) | (exfalso; simp_all; done) | (simp only [bne, varR, emptyS]; simp_all only [decide_true, decide_false, Bool.true_or, Bool.false_or, Bool.or_true, Bool.or_false, Bool.true_and, Bool.false_and, Bool.and_true, Bool.and_false, Bool.not_true, Bool.not_false, cond_true, cond_false]; done))
theorem plcR_rt (x : Img) (ok : x.ok) (k : Nat) (hk : k < x.places.length) : Rt T 95 [.agg x.enc, .int .i64 k] (.int .i64 (plcR x k x.places[k] x.places[k - 1])) := by
  have hl := ok.places
  refine Rt.wp rfl rfl ?_
  repeat' ((conv => whnf); first | refine Br.T ?_ | refine Br.F ?_ | refine And.intro rfl ?_ | refine eq_bool ?_ | refine eq_int ?_ | refine SomeP.mk' (idx_map hk fun _ => rfl) ?_ | refine SomeP.mk' (idx_pred (by assumption) hk hl fun _ => rfl) ?_ | refine CallP.mk' (Within_rt x ok.segs _ _ _) ?_ | refine CallP.mk' (In4_rt _ _ _) ?_ | refine Br.N ?_ | refine Br.kt (by assumption) ?_ | refine Br.kf (by assumption) ?_ | refine Br.mk (fun h => ?_) (fun h => ?_) | refine eq_some ?_)
  all_goals ((try simp only [List.length_map, Bool.and_true] at *); first | (simp only [bne, plcR, emptyS, *, decide_true, decide_false, Bool.true_or, Bool.false_or, Bool.or_true, Bool.or_false, Bool.true_and, Bool.false_and, Bool.and_true, Bool.and_false, Bool.not_true, Bool.not_false, cond_true, cond_false] <;> rfl) | (exfalso; simp_all; done) | (simp only [bne, plcR, emptyS]; simp_all only [decide_true, decide_false, Bool.true_or, Bool.false_or, Bool.or_true, Bool.or_false, Bool.true_and, Bool.false_and, Bool.and_true, Bool.and_false, Bool.not_true, Bool.not_false, cond_true, cond_false]; done))
/-! ### They are the program's codes -/
theorem cond_or {α : Type} (a b : Bool) (x y : α) : (bif a || b then x else y) = bif a then x else bif b then x else y := by cases a <;> rfl
theorem cmpS_cases (a b : ByteArray) : (lessS a b = true ∧ cmpS a b = -1) ∨ (lessS a b = false ∧ (a.toList == b.toList) = false ∧ cmpS a b = 1) ∨ (lessS a b = false ∧ (a.toList == b.toList) = true ∧ cmpS a b = 0) := by
  have hg : gtrS a b = !(lessS a b || (a.toList == b.toList)) := rfl
  simp only [cmpS, hg]
  cases hl : lessS a b with
  | true => exact .inl ⟨rfl, rfl⟩
  | false => cases he : (a.toList == b.toList) with
    | false => exact .inr (.inl ⟨rfl, rfl, rfl⟩)
    | true => exact .inr (.inr ⟨rfl, rfl, rfl⟩)
theorem cmpI_cases (a b : Int) : (a < b ∧ cmpI a b = -1) ∨ (b < a ∧ cmpI a b = 1) ∨ (a = b ∧ cmpI a b = 0) := by
  simp only [cmpI]
  by_cases h : a < b
  · exact .inl ⟨h, by simp [h]⟩
  · by_cases h' : b < a
    · exact .inr (.inl ⟨h', by simp [h, h']⟩)
    · exact .inr (.inr ⟨by omega, by simp [h, h']⟩)
theorem less_irrefl : ∀ (l : List UInt8), Op.bytesLess l l = false := by
  intro l
  induction l with
  | nil => rfl
  | cons c l ih => simp [Op.bytesLess, ih]
theorem expR_eq {x : Img} (hx : ∀ s ∈ x.segs, SegOK s) (k : Int) (e p : Exp) : expR x k e p = expC x k e p := by
  simp only [expR, expC, cond_or, withinR_eq hx (Int.le_refl 0), not_inR]
  have h1 : (decide (k > 0) && !lessS p.name e.name && (!(p.name.toList == e.name.toList) || !lessS p.version e.version)) = (decide (k > 0) && decide (cmpExp p e ≥ 0)) := by
    rw [Bool.and_assoc]
    congr 1
    rw [Bool.eq_iff_iff]
    simp only [decide_eq_true_eq, cmpExp, orL]
    rcases cmpS_cases p.name e.name with ⟨h, h'⟩ | ⟨h, h2, h'⟩ | ⟨h, h2, h'⟩ <;> rcases cmpS_cases p.version e.version with ⟨g, g'⟩ | ⟨g, g2, g'⟩ | ⟨g, g2, g'⟩ <;> simp only [*] <;> first | decide | simp
  rw [h1]
theorem varR_eq {x : Img} (hx : ∀ s ∈ x.segs, SegOK s) (hl : x.types.length ≤ 1000000) (k : Int) (v p : Vrb) : varR x k v p = varC x k v p := by
  simp only [varR, varC, withinR_eq hx (Int.le_refl 0), not_inR]
  rw [w64_in (by omega) (by omega)]
  have h0 : decide (v.type > (x.types.length : Int) - 1) = decide (v.type ≥ (x.types.length : Int)) := by
    rw [Bool.eq_iff_iff]; simp; omega
  have h1 : (!varBefore p v) = decide (cmpVar p v ≥ 0) := by
    rw [Bool.eq_iff_iff]
    simp only [decide_eq_true_eq, varBefore, cmpVar, orL]
    have e2 : (p.name.toList == v.name.toList) = true → lessS p.name v.name = false := fun he => by
      have : p.name.toList = v.name.toList := by simpa using he
      simp only [lessS, this, less_irrefl]
    rcases cmpI_cases p.addr v.addr with ⟨h, h'⟩ | ⟨h, h'⟩ | ⟨h, h'⟩
    · have a1 : (p.addr != v.addr) = true := by simp; omega
      have a2 : decide (p.addr < v.addr) = true := by simpa using h
      simp only [a1, a2, h']
      first | decide | simp
    · have a1 : (p.addr != v.addr) = true := by simp; omega
      have a2 : decide (p.addr < v.addr) = false := by simp; omega
      simp only [a1, a2, h']
      first | decide | simp
    · have a1 : (p.addr != v.addr) = false := by simpa using h
      simp only [a1, h']
      rcases cmpS_cases p.name v.name with ⟨g, g'⟩ | ⟨g, g2, g'⟩ | ⟨g, g2, g'⟩
      · have g3 : (p.name.toList == v.name.toList) = false := by
          cases hc : (p.name.toList == v.name.toList) with
          | false => rfl
          | true => rw [e2 hc] at g; cases g
        simp only [g, g', g3]
        first | decide | simp
      · simp only [g, g', g2]
        first | decide | simp
      · rcases cmpI_cases p.type v.type with ⟨i, i'⟩ | ⟨i, i'⟩ | ⟨i, i'⟩
        · have a2 : decide (p.type < v.type) = true := by simpa using i
          simp only [g', g2, i', a2]
          first | decide | simp
        · have a2 : decide (p.type < v.type) = false := by simp; omega
          simp only [g', g2, i', a2]
          first | decide | simp
        · have a2 : decide (p.type < v.type) = false := by simp; omega
          simp only [g', g2, i', a2]
          first | decide | simp
  rw [h0, h1, Bool.or_assoc]
theorem impR_eq {x : Img} (hx : ∀ s ∈ x.segs, SegOK s) (m : Imp) : impR x m = impC x m := by
  simp only [impR, impC, not_inR, Bool.or_assoc]
  cases h2 : (decide (m.size < 0) || (decide (m.size > 1000000) || (decide (m.slot < -1) || decide (m.copy < -1)))) with
  | true => rfl
  | false =>
    simp only [Bool.or_eq_false_iff, decide_eq_false_iff_not] at h2
    obtain ⟨a1, a2, a3, a4⟩ := h2
    have e1 : (m.slot != -1) = decide (m.slot ≥ 0) := by rw [Bool.eq_iff_iff]; simp; omega
    have e2 : (m.copy == -1) = decide (m.copy < 0) := by rw [Bool.eq_iff_iff]; simp; omega
    have e3 : (m.size != 0) = decide (m.size > 0) := by rw [Bool.eq_iff_iff]; simp; omega
    have e4 : (m.copy != -1) = decide (m.copy ≥ 0) := by rw [Bool.eq_iff_iff]; simp; omega
    simp only [e1, e2, e3, e4, withinR_eq hx (show (0 : Int) ≤ 4 by decide), withinR_eq hx (show 0 ≤ m.size by omega)]
theorem fixR_eq {x : Img} (hx : ∀ s ∈ x.segs, SegOK s) (hl : x.imps.length ≤ 1000000) (k : Nat) (f p : Fix) (hp : 0 < k → 0 ≤ p.addr ∧ p.addr ≤ 1048576) : fixR x k f p = fixC x k f p := by
  have e0 : (!inR f.addend (-1048576) 1048576 || !inR f.imp (-1) (w64 ((x.imps.length : Int) - 1))) = (decide (f.addend < -1048576) || (decide (f.addend > 1048576) || (decide (f.imp < -1) || decide (f.imp ≥ (x.imps.length : Int))))) := by
    rw [w64_in (by omega) (by omega), not_inR, not_inR, Bool.or_assoc]
    have : decide (f.imp > (x.imps.length : Int) - 1) = decide (f.imp ≥ (x.imps.length : Int)) := by rw [Bool.eq_iff_iff]; simp; omega
    rw [this]
  have e1 : (((f.kind == 2) || (f.kind == 3)) && decide (f.imp < 0) || (!((f.kind == 2) || (f.kind == 3)) && (decide (f.imp ≥ 0) || (f.addend != 0)) || !withinR x f.addr 4 0)) = (!(((f.kind == 2) || (f.kind == 3)) == decide (f.imp ≥ 0)) || (!((f.kind == 2) || (f.kind == 3)) && (f.addend != 0) || !within x f.addr 4 0)) := by
    rw [withinR_eq hx (show (0 : Int) ≤ 4 by decide)]
    have : decide (f.imp < 0) = !decide (f.imp ≥ 0) := by rw [Bool.eq_iff_iff]; simp
    rw [this]
    cases ((f.kind == 2) || (f.kind == 3)) <;> cases decide (f.imp ≥ 0) <;> simp
  simp only [fixR, fixC, not_inR (n := f.kind)] at *
  rw [e0, e1]
  cases hk : decide ((k : Int) > 0) with
  | false => rfl
  | true =>
    have hp := hp (by simpa using hk)
    cases hw : within x f.addr 4 0 with
    | false => simp
    | true =>
      obtain ⟨w1, w2⟩ := within_ok hx (by decide) hw
      rw [w64_in (n := f.addr - p.addr) (by omega) (by omega), w64_in (n := p.addr + 4) (by omega) (by omega)]
      have : decide (f.addr - p.addr < 4) = decide (f.addr < p.addr + 4) := by rw [Bool.eq_iff_iff]; simp; omega
      rw [this]
theorem linR_eq {x : Img} (hl : x.files.length ≤ 1000000) (k : Int) (r p : Lin) : linR x k r p = linC x k r p := by
  simp only [linR, linC, not_inR, ← cond_or]
  have e0 : (decide (r.line < 0) || decide (r.line > 1000000) || (decide (r.offset < 0) || decide (r.offset > 1048576) || ((r.line == 0) && (r.file != 0) || ((r.line != 0) && (decide (r.file < 0) || decide (r.file > w64 ((x.files.length : Int) - 1))))))) =
      (decide (r.line < 0) || (decide (r.line > 1000000) || (decide (r.offset < 0) || decide (r.offset > 1048576))) || ((r.line == 0) && (r.file != 0) || (decide (r.line > 0) && (decide (r.file < 0) || decide (r.file ≥ (x.files.length : Int)))))) := by
    rw [w64_in (by omega) (by omega)]
    have h1 : decide (r.file > (x.files.length : Int) - 1) = decide (r.file ≥ (x.files.length : Int)) := by rw [Bool.eq_iff_iff]; simp; omega
    rw [h1]
    by_cases hn : r.line < 0
    · simp [hn]
    · have h2 : (r.line != 0) = decide (r.line > 0) := by rw [Bool.eq_iff_iff]; simp; omega
      rw [h2]
      simp only [Bool.or_assoc]
  rw [e0]
theorem unwR_eq (k : Int) (r p : Unw) : unwR k r p = unwC k r p := by
  simp only [unwR, unwC, not_inR, ← cond_or, Bool.or_assoc]
theorem plcR_eq {x : Img} (hx : ∀ s ∈ x.segs, SegOK s) (k : Nat) (q p : Plc) (hp : 0 < k → 0 ≤ p.addr ∧ 1 ≤ p.size ∧ p.addr + p.size ≤ 1048576) : plcR x k q p = plcC x k q p := by
  have e0 : (!inR q.module 0 1000000 || (!inR q.sect 0 1000000 || (!inR q.offset 0 1000000 || (decide (q.size < 1) || !withinR x q.addr q.size 0)))) =
      (decide (q.module < 0) || (decide (q.sect < 0) || (decide (q.offset < 0) || (decide (q.module > 1000000) || (decide (q.sect > 1000000) || decide (q.offset > 1000000))))) || (decide (q.size < 1) || !within x q.addr q.size 0)) := by
    have h1 : (decide (q.size < 1) || !withinR x q.addr q.size 0) = (decide (q.size < 1) || !within x q.addr q.size 0) := by
      by_cases hs : q.size < 1
      · simp [hs]
      · rw [withinR_eq hx (show 0 ≤ q.size by omega)]
    rw [h1]
    simp only [not_inR]
    generalize (decide (q.size < 1) || !within x q.addr q.size 0) = w
    generalize decide (q.module < 0) = a
    generalize decide (q.sect < 0) = b
    generalize decide (q.offset < 0) = c
    generalize decide (q.module > 1000000) = d
    generalize decide (q.sect > 1000000) = e
    generalize decide (q.offset > 1000000) = f
    cases a <;> cases b <;> cases c <;> cases d <;> cases e <;> cases f <;> rfl
  simp only [plcR, plcC, ← cond_or]
  rw [e0]
  cases hk : decide ((k : Int) > 0) with
  | false => rfl
  | true =>
    obtain ⟨p1, p2, p3⟩ := hp (by simpa using hk)
    cases hs : decide (q.size < 1) with
    | true => simp
    | false =>
      cases hw : within x q.addr q.size 0 with
      | false => simp
      | true =>
        have hs' : ¬ q.size < 1 := by simpa using hs
        obtain ⟨w1, w2⟩ := within_ok hx (by omega) hw
        rw [w64_in (n := q.addr - p.size) (by omega) (by omega), w64_in (n := p.addr + p.size) (by omega) (by omega)]
        have : decide (q.addr - p.size < p.addr) = decide (q.addr < p.addr + p.size) := by rw [Bool.eq_iff_iff]; simp; omega
        rw [this]
theorem segR_zero {g p : Seg} : segR 0 g p = segC g 0 := by
  simp only [segR, segC, not_inR]
  have h1 : (decide (g.addr < 0) || (decide (g.size < 1) || decide (g.size > 1048576) || (decide (g.addr > w64 (1048576 - g.size)) || (decide (g.rights < 1) || decide (g.rights > 7))))) = (decide (g.addr < 0) || (decide (g.size < 1) || (decide (g.size > 1048576) || (decide (g.addr > w64 (1048576 - g.size)) || (decide (g.rights < 1) || decide (g.rights > 7)))))) := by
    simp only [Bool.or_assoc]
  rw [h1]
  by_cases ha : g.addr < 0
  · simp [ha]
  · simp [ha]
theorem segR_succ {k : Nat} (hk : 0 < k) {g p : Seg} : segR k g p = segC g (upI (w64 (p.addr + p.size)) 256) := by
  simp only [segR, segC, not_inR]
  have h1 : (decide (g.addr < 0) || (decide (g.size < 1) || decide (g.size > 1048576) || (decide (g.addr > w64 (1048576 - g.size)) || (decide (g.rights < 1) || decide (g.rights > 7))))) = (decide (g.addr < 0) || (decide (g.size < 1) || (decide (g.size > 1048576) || (decide (g.addr > w64 (1048576 - g.size)) || (decide (g.rights < 1) || decide (g.rights > 7)))))) := by
    simp only [Bool.or_assoc]
  have h2 : decide ((k : Int) > 0) = true := by simpa using hk
  rw [h1, h2, Bool.true_and]
end Go.Proofs.YtnibcojenlijgaaGreatDoor.Ev
