/- The reference's check of type records at the evaluator. No condition. -/
import Derived.Test.YtnibcojenlijgaaGreatDoorRb
import Derived.Test.YtnibcojenlijgaaGreatDoorFc
set_option linter.unusedVariables false
set_option linter.unusedSimpArgs false
namespace Go.Proofs.YtnibcojenlijgaaGreatDoor.Ev
open Go Go.RowKit
set_option maxRecDepth 10000
def findLoop : RC → Option (List Nat × List Nat × RC)
  | .seq a b => match findLoop a with
    | some x => some x
    | none => findLoop b
  | .cond _ a b => match findLoop a with
    | some x => some x
    | none => findLoop b
  | .block _ b | .rawloop b => findLoop b
  | .loop ws live b => some (ws, live, b)
  | _ => none
theorem LoopP.env {R : FuncId → Option RFn} {ws live : List Nat} {b : RC} {e e' : Env} {h : Hp} {Q : Ex → Env → Hp → Prop} (he : e' = e) (hp : LoopP R ws live b e' h Q) : LoopP R ws live b e h Q := he ▸ hp
def tLoop : List Nat × List Nat × RC := (findLoop b47).getD ([], [], .skip)
/-- The loop over the names of the fields before. -/
def tLoop2 : List Nat × List Nat × RC := (findLoop tLoop.2.2).getD ([], [], .skip)
abbrev tEnv (e : Env) (a0 a1 a5 a6 a7 : AV) : Env := upd (upd (upd (upd (upd e 0 a0) 1 a1) 5 a5) 6 a6) 7 a7
theorem tEnv_eq {e : Env} {a0 a1 a5 a6 a7 : AV} (h0 : e 0 = a0) (h1 : e 1 = a1) (h5 : e 5 = a5) (h6 : e 6 = a6) (h7 : e 7 = a7) : tEnv e a0 a1 a5 a6 a7 = e := by
  unfold tEnv
  rw [upd_self h0, upd_self h1, upd_self h5, upd_self h6, upd_self h7]
/-- Where the field before ends. -/
def endAt (l : List Typ) (t : Typ) (k : Nat) : Int := match k with
  | 0 => 0
  | k + 1 => match t.fields[k]? with
    | some p => w64 (p.offset + tsz l p.type)
    | none => 0
theorem endAt_eq {l : List Typ} {t : Typ} {k : Nat} (hk : k < t.fields.length) : endAt l t k = fldEnd l k (t.fields[k - 1]'(by omega)) := by
  cases k with
  | zero => rfl
  | succ k =>
    have : t.fields[k]? = some (t.fields[k]'(by omega)) := List.getElem?_eq_getElem (by omega)
    simp only [endAt, this, fldEnd, Nat.add_sub_cancel]
    rw [show decide (((k + 1 : Nat) : Int) > 0) = true by simp]
    rfl
/-- The reference's tests of a field. -/
def fldR (l : List Typ) (i : Nat) (t : Typ) (k : Nat) (x : Fld) (e : Int) : Int :=
  bif !isTok x.name then 12
  else bif (t.fields.take k).any (fun y => y.name.toList == x.name.toList) then 7
  else bif !inR x.type 0 (w64 ((i : Int) - 1)) then 3
  else bif decide (x.offset < e) || (decide (x.offset > 2000000) || decide (w64 (x.offset + tsz l x.type) > t.size)) then 5 else 0
theorem fldR_eq {l : List Typ} {i : Nat} {t : Typ} {k : Nat} {x p : Fld} (hi : i < l.length) (hl : l.length ≤ 30) (ht : 0 ≤ t.size ∧ t.size ≤ 1000000) (hsz : ∀ n : Int, 0 ≤ n → n < i → 0 ≤ tsz l n ∧ tsz l n ≤ 1000000)
    (he : 0 ≤ fldEnd l k p) : fldR l i t k x (fldEnd l k p) = fldC l i t k x p := by
  have e0 : decide (idxFrom (fun y : Fld => y.name.toList == x.name.toList) (t.fields.take k) 0 ≥ 0) = (t.fields.take k).any fun y => y.name.toList == x.name.toList := by
    have := idxFrom_any (p := fun y : Fld => y.name.toList == x.name.toList) (t.fields.take k) 0
    rw [← this]; rfl
  have e1 : (!inR x.type 0 (w64 ((i : Int) - 1))) = (decide (x.type < 0) || decide (x.type ≥ (i : Int))) := by
    rw [w64_in (by omega) (by omega), not_inR]
    congr 1
    rw [Bool.eq_iff_iff]; simp; omega
  simp only [fldR, fldC, e0, e1]
  cases h : (decide (x.type < 0) || decide (x.type ≥ (i : Int))) with
  | true => rfl
  | false =>
    simp only [Bool.or_eq_false_iff, decide_eq_false_iff_not] at h
    obtain ⟨s0, s1⟩ := hsz x.type (by omega) (by omega)
    have e2 : (decide (x.offset < fldEnd l k p) || (decide (x.offset > 2000000) || decide (w64 (x.offset + tsz l x.type) > t.size))) = (decide (x.offset < fldEnd l k p) || (decide (x.offset > t.size) || decide (w64 (x.offset + tsz l x.type) > t.size))) := by
      by_cases h1 : x.offset < fldEnd l k p
      · simp [h1]
      · by_cases h2 : x.offset > 2000000
        · have : x.offset > t.size := by omega
          simp [h2, this]
        · by_cases h3 : x.offset > t.size
          · have h4 : w64 (x.offset + tsz l x.type) > t.size := by rw [w64_in (by omega) (by omega)]; omega
            simp [h3, h4]
          · simp [h2, h3]
    rw [e2]
/-- How the loop over the fields ends. -/
structure TEnd (l : List Typ) (i : Nat) (t : Typ) (code : Int) (Q : Ex → Env → Hp → Prop) : Prop where
  ret : ∀ e h, e 4 = .int .i64 code → Q .ret e h
  ex : ∀ e h, code = 0 → Q (.exit 0) e h
theorem any_take_drop {ns : List Fld} {p : Fld → Bool} {j k : Nat} (hj : j < k) (hk : k ≤ ns.length) : ((ns.take k).drop j).any p = (p (ns[j]'(by omega)) || ((ns.take k).drop (j + 1)).any p) := by
  have h1 : j < (ns.take k).length := by rw [List.length_take]; omega
  rw [List.drop_eq_getElem_cons h1]
  simp
set_option maxHeartbeats 4000000 in
theorem fields_loop (l : List Typ) (i : Nat) (hi : i < l.length) (hl : l.length ≤ 30) (t : Typ) (hfl : t.fields.length ≤ 8) (hn : ∀ f ∈ t.fields, f.name.size ≤ maxLen) (ht : 0 ≤ t.size ∧ t.size ≤ 1000000) (hsz : ∀ n : Int, 0 ≤ n → n < i → 0 ≤ tsz l n ∧ tsz l n ≤ 1000000)
    (code : Int) (hcode : optE (firstE (codeAt t.fields (fldC l i t)) t.fields.length 0) = code) (e : Env) (Q : Ex → Env → Hp → Prop) (hq : TEnd l i t code Q) :
    LoopP T tLoop.1 tLoop.2.1 tLoop.2.2 (tEnv e (.rs (l.map Typ.enc)) (.int .i64 i) (.ptr 5 0 0) (.int .i64 0) (.int .i64 0)) ⟨[(5, ⟨6, [t.enc]⟩)], 128⟩ Q := by
  refine LoopP.by (α := Nat) (fun k => t.fields.length - k) (fun k => k ≤ t.fields.length ∧ code = optE (firstE (codeAt t.fields (fldC l i t)) (t.fields.length - k) k) ∧ 0 ≤ endAt l t k ∧ endAt l t k ≤ 3000000) (fun k => [.int .i64 (endAt l t k), .int .i64 k]) (fun k => [(5, ⟨6, [t.enc]⟩)]) 0 ⟨Nat.zero_le _, hcode.symm, by simp [endAt], by simp [endAt]⟩ rfl (fun k hk => ?_)
  obtain ⟨h1, h2, h3, h4⟩ := hk
  refine Br.mk (fun h => ?_) (fun h => ?_)
  · have hlt : k < t.fields.length := by simp at h; omega
    rw [firstE_step hlt, codeAt_eq hlt] at h2
    rw [endAt_eq hlt] at h3 h4
    have hE := fldR_eq (x := t.fields[k]) hi hl ht hsz h3
    rw [← endAt_eq hlt] at hE h3 h4
    rw [← hE] at h2
    have hx := hn _ (List.getElem_mem hlt)
    have hend : endAt l t (k + 1) = w64 (t.fields[k].offset + tsz l t.fields[k].type) := by simp only [endAt, List.getElem?_eq_getElem hlt]
    have hww := wrap_nat (show k < 9223372036854775807 by omega)
    have bad : ∀ c, fldR l i t k t.fields[k] (endAt l t k) = c → (c != 0) = true → c = code := fun c hc h0 => by rw [h2, hc, h0]; rfl
    refine SomeP.mk' (idx_map hlt fun _ => rfl) ?_
    refine CallP.mk' (Name_rt _ hx) ?_
    refine Br.N ?_
    refine Br.mk (fun hna => ?_) (fun hna => ?_)
    · -- the names before
      refine LoopP.by (α := Nat) (fun j => k - j) (fun j => j ≤ k ∧ (t.fields.take k).any (fun y => y.name.toList == t.fields[k].name.toList) = ((t.fields.take k).drop j).any (fun y => y.name.toList == t.fields[k].name.toList)) (fun j => [.int .i64 j])
        (fun j => [(140, ⟨3, [t.fields[k].enc]⟩), (5, ⟨6, [t.enc]⟩)]) 0 ⟨Nat.zero_le _, rfl⟩ rfl (fun j hj => ?_)
      obtain ⟨j1, j2⟩ := hj
      refine Br.mk (fun h' => ?_) (fun h' => ?_)
      · have hjk : j < k := by simpa using h'
        rw [any_take_drop hjk (by omega)] at j2
        refine And.intro rfl ?_
        refine SomeP.mk' (idx_map (l := t.fields) (show j < t.fields.length by omega) fun _ => rfl) ?_
        refine Br.mk (fun hq' => ?_) (fun hq' => ?_)
        · rw [hq', Bool.true_or] at j2
          refine hq.ret _ _ ?_
          show AV.int .i64 7 = _
          rw [bad 7 (by simp only [fldR, hna, j2]; rfl) rfl]
        · rw [hq', Bool.false_or] at j2
          exact ⟨j + 1, by omega, ⟨by omega, j2⟩, by rw [← wrap_nat (show j < 9223372036854775807 by omega)]; rfl⟩
      · have hjk : k ≤ j := by simpa using h'
        have hj0 : (t.fields.take k).any (fun y => y.name.toList == t.fields[k].name.toList) = false := by
          rw [j2, List.drop_of_length_le (by rw [List.length_take]; omega)]; rfl
        have h3c : inR t.fields[k].type 0 (w64 ((i : Int) - 1)) = false → AV.int .i64 3 = .int .i64 code := fun hr => by rw [bad 3 (by simp only [fldR, hna, hj0, hr]; rfl) rfl]
        have h5c : inR t.fields[k].type 0 (w64 ((i : Int) - 1)) = true → (decide (t.fields[k].offset < endAt l t k) || (decide (t.fields[k].offset > 2000000) || decide (w64 (t.fields[k].offset + tsz l t.fields[k].type) > t.size))) = true → AV.int .i64 5 = .int .i64 code := fun hr ho => by
          rw [bad 5 (by simp only [fldR, hna, hj0, hr, ho]; rfl) rfl]
        have hI : inR t.fields[k].type 0 (w64 ((i : Int) - 1)) = true → idxAddr 6 (.rs (l.map Typ.enc)) t.fields[k].type = some (.rp (typAt l t.fields[k].type).enc 0) := fun hr => by
          have := inR_iff.1 hr
          rw [w64_in (by omega) (by omega)] at this
          exact idx_typ (by omega) (by omega)
        have nxt : inR t.fields[k].type 0 (w64 ((i : Int) - 1)) = true → (decide (t.fields[k].offset < endAt l t k) || (decide (t.fields[k].offset > 2000000) || decide (w64 (t.fields[k].offset + tsz l t.fields[k].type) > t.size))) = false →
            ∃ y, t.fields.length - y < t.fields.length - k ∧ (y ≤ t.fields.length ∧ code = optE (firstE (codeAt t.fields (fldC l i t)) (t.fields.length - y) y) ∧ 0 ≤ endAt l t y ∧ endAt l t y ≤ 3000000) ∧
              (([AV.int .i64 (IntKind.wrap .i64 (t.fields[k].offset + (typAt l t.fields[k].type).size)), AV.int .i64 (IntKind.wrap .i64 (k + 1))], [(5, ⟨6, [t.enc]⟩)]) : List AV × List (Nat × Blk)) = ([.int .i64 (endAt l t y), .int .i64 y], [(5, ⟨6, [t.enc]⟩)]) := fun hr ho => by
          have hb : fldR l i t k t.fields[k] (endAt l t k) = 0 := by simp only [fldR, hna, hj0, hr, ho]; rfl
          have hr' := inR_iff.1 hr
          rw [w64_in (by omega) (by omega)] at hr'
          obtain ⟨s0, s1⟩ := hsz t.fields[k].type (by omega) (by omega)
          simp only [Bool.or_eq_false_iff, decide_eq_false_iff_not] at ho
          have hin : w64 (t.fields[k].offset + tsz l t.fields[k].type) = t.fields[k].offset + tsz l t.fields[k].type := w64_in (by omega) (by omega)
          refine ⟨k + 1, by omega, ⟨by omega, by rw [h2, hb]; rfl, by rw [hend, hin]; omega, by rw [hend, hin]; omega⟩, ?_⟩
          rw [hend, hww]
        clear h2 h3 h4 hE hend hww bad j2 h' hj0 j1 hsz
        repeat' ((conv => whnf); first | refine Br.T ?_ | refine Br.F ?_ | refine And.intro rfl ?_ | refine eq_bool ?_ | refine eq_int ?_ | refine CallP.mk' (In1_rt _ _ _) ?_ | refine SomeP.mk' (hI (by assumption)) ?_ | refine Br.N ?_ | refine Br.kt (by assumption) ?_ | refine Br.kf (by assumption) ?_ | refine Br.mk (fun h => ?_) (fun h => ?_) | refine eq_some ?_)
        all_goals first
          | exact hq.ret _ _ (h3c (by assumption))
          | exact hq.ret _ _ (h5c (by assumption) (by clear h3c h5c hI nxt; (try simp only [List.length_map, Bool.and_true] at *); first | (simp only [bne, *, decide_true, decide_false, Bool.true_or, Bool.false_or, Bool.or_true, Bool.or_false, Bool.true_and, Bool.false_and, Bool.and_true, Bool.and_false, Bool.not_true, Bool.not_false, cond_true, cond_false] <;> rfl) | (exfalso; simp_all; done) | (simp only [bne]; simp_all only [decide_true, decide_false, Bool.true_or, Bool.false_or, Bool.or_true, Bool.or_false, Bool.true_and, Bool.false_and, Bool.and_true, Bool.and_false, Bool.not_true, Bool.not_false, cond_true, cond_false]; done)))
          | exact nxt (by assumption) (by clear h3c h5c hI nxt; (try simp only [List.length_map, Bool.and_true] at *); first | (simp only [bne, *, decide_true, decide_false, Bool.true_or, Bool.false_or, Bool.or_true, Bool.or_false, Bool.true_and, Bool.false_and, Bool.and_true, Bool.and_false, Bool.not_true, Bool.not_false, cond_true, cond_false] <;> rfl) | (exfalso; simp_all; done) | (simp only [bne]; simp_all only [decide_true, decide_false, Bool.true_or, Bool.false_or, Bool.or_true, Bool.or_false, Bool.true_and, Bool.false_and, Bool.and_true, Bool.and_false, Bool.not_true, Bool.not_false, cond_true, cond_false]; done))
    · refine hq.ret _ _ ?_
      show AV.int .i64 12 = _
      rw [bad 12 (by simp only [fldR, hna]; rfl) rfl]
  · have hge : t.fields.length ≤ k := by simp at h; omega
    refine hq.ex _ _ ?_
    rw [h2, show t.fields.length - k = 0 by omega]; rfl
/-- The reference's code of a type: the tests in its order. -/
def typR (l : List Typ) (i : Nat) (t : Typ) : Int :=
  bif !inR t.kind 1 4 then 4
  else bif !emptyS t.name && !isTok t.name then 12
  else bif !inR t.size 0 1000000 || (!inR t.count 0 1000000 || !inR t.elem 0 (w64 ((l.length : Int) - 1))) then 3
  else bif (t.count != 0) && (t.kind != 3) || (decide ((t.fields.length : Int) > 0) && (t.kind != 4) || ((t.elem != 0) && ((t.kind == 1) || (t.kind == 4)))) then 5
  else bif (t.kind == 1) && ((t.size != 1) && (t.size != 4)) || ((t.kind == 2) && (t.size != 4)) then 9
  else bif (t.kind == 3) && decide (t.elem ≥ (i : Int)) then 3
  else bif (t.kind == 3) && (t.size != w64 (t.count * tsz l t.elem)) then 9
  else bif decide ((t.fields.length : Int) > 8) then 2
  else optE (firstE (codeAt t.fields (fldC l i t)) t.fields.length 0)
theorem typR_eq (l : List Typ) (i : Nat) (hl : l.length ≤ 30) (t : Typ) : typR l i t = typC l i t := by
  have e1 : (!inR t.kind 1 4) = (decide (t.kind < 1) || decide (t.kind > 4)) := not_inR _ _ _
  have e2 : (!inR t.size 0 1000000 || (!inR t.count 0 1000000 || !inR t.elem 0 (w64 ((l.length : Int) - 1)))) = (decide (t.size < 0) || (decide (t.size > 1000000) || (decide (t.count < 0) || (decide (t.count > 1000000) || (decide (t.elem < 0) || decide (t.elem ≥ (l.length : Int))))))) := by
    rw [w64_in (by omega) (by omega)]
    have : decide (t.elem > (l.length : Int) - 1) = decide (t.elem ≥ (l.length : Int)) := by rw [Bool.eq_iff_iff]; simp; omega
    simp only [not_inR, this, Bool.or_assoc]
  have e3 : ((t.count != 0) && (t.kind != 3) || (decide ((t.fields.length : Int) > 0) && (t.kind != 4) || ((t.elem != 0) && ((t.kind == 1) || (t.kind == 4))))) = ((t.kind != 3) && (t.count != 0) || ((t.kind != 4) && decide ((t.fields.length : Int) > 0) || (((t.kind == 1) || (t.kind == 4)) && (t.elem != 0)))) := by
    rw [Bool.and_comm (t.count != 0), Bool.and_comm (decide ((t.fields.length : Int) > 0)), Bool.and_comm (t.elem != 0)]
  simp only [typR, typC, e1, e2, e3]
theorem idx_typR {l : List Typ} {n : Int} (hl : l.length ≤ 30) (h : inR n 0 (IntKind.wrap .i64 (((l.map Typ.enc).length : Int) - 1)) = true) : idxAddr 6 (.rs (l.map Typ.enc)) n = some (.rp (typAt l n).enc 0) := by
  have h2 := inR_iff.1 h
  rw [List.length_map, wrap_in (by omega) (by omega)] at h2
  exact idx_typ (by omega) (by omega)
set_option maxHeartbeats 4000000 in
theorem typR_out (l : List Typ) (i : Nat) (hi : i < l.length) (hl : l.length ≤ 30) (kind : Int) (name : ByteArray) (size elem count : Int) (fields : List Fld) (hI : idxAddr 6 (.rs (l.map Typ.enc)) (i : Int) = some (.rp (Typ.enc ⟨kind, name, size, elem, count, fields⟩) 0))
    (hname : name.size ≤ maxLen) (hn : ∀ f ∈ fields, f.name.size ≤ maxLen) (hsz : ∀ n : Int, 0 ≤ n → n < i → 0 ≤ tsz l n ∧ tsz l n ≤ 1000000) (code : Int)
    (hfin : ∀ x, typR l i ⟨kind, name, size, elem, count, fields⟩ = x → x = code) (h1 : inR kind 1 4 = false) :
    Rt T 47 [.rs (l.map Typ.enc), .int .i64 i] (.int .i64 code) := by
  have h2 : ∀ b, Rt T 96 [.int .i64 kind, .int .i64 1, .int .i64 4] (.bool b) → b = false := fun b hb => by have := hb.det (In1_rt _ _ _); rw [h1] at this; exact AV.bool.inj this
  refine Rt.wp rfl rfl ?_
  repeat' ((conv => whnf); first | refine Br.T ?_ | refine Br.F ?_ | refine And.intro rfl ?_ | refine eq_bool ?_ | refine eq_int ?_ | refine SomeP.mk' (hI) ?_ | refine SomeP.mk' (idx_typR hl (by assumption)) ?_ | refine CallP.mk' (In1_rt _ _ _) ?_ | refine CallP.mk' (Name_rt _ hname) ?_ | refine Br.N ?_ | refine Br.kt (by assumption) ?_ | refine Br.kf (by assumption) ?_ | refine Br.mk (fun h => ?_) (fun h => ?_) | refine eq_some ?_)
  all_goals (exact hfin _ (by clear hfin hI hsz hn; (try simp only [List.length_map, Bool.and_true] at *); first | (simp only [bne, typR, emptyS, *, decide_true, decide_false, Bool.true_or, Bool.false_or, Bool.or_true, Bool.or_false, Bool.true_and, Bool.false_and, Bool.and_true, Bool.and_false, Bool.not_true, Bool.not_false, cond_true, cond_false] <;> rfl) | (exfalso; simp_all; done) | (simp only [bne, typR, emptyS]; simp_all only [decide_true, decide_false, Bool.true_or, Bool.false_or, Bool.or_true, Bool.or_false, Bool.true_and, Bool.false_and, Bool.and_true, Bool.and_false, Bool.not_true, Bool.not_false, cond_true, cond_false]; done)))
set_option maxHeartbeats 4000000 in
theorem typR_1 (l : List Typ) (i : Nat) (hi : i < l.length) (hl : l.length ≤ 30) (name : ByteArray) (size elem count : Int) (fields : List Fld) (hI : idxAddr 6 (.rs (l.map Typ.enc)) (i : Int) = some (.rp (Typ.enc ⟨1, name, size, elem, count, fields⟩) 0))
    (hname : name.size ≤ maxLen) (hn : ∀ f ∈ fields, f.name.size ≤ maxLen) (hsz : ∀ n : Int, 0 ≤ n → n < i → 0 ≤ tsz l n ∧ tsz l n ≤ 1000000) (code : Int)
    (hfin : ∀ x, typR l i ⟨1, name, size, elem, count, fields⟩ = x → x = code) :
    Rt T 47 [.rs (l.map Typ.enc), .int .i64 i] (.int .i64 code) := by
  refine Rt.wp rfl rfl ?_
  repeat' ((conv => whnf); first | refine Br.T ?_ | refine Br.F ?_ | refine And.intro rfl ?_ | refine eq_bool ?_ | refine eq_int ?_ | refine SomeP.mk' (hI) ?_ | refine SomeP.mk' (idx_typR hl (by assumption)) ?_ | refine CallP.mk' (In1_rt _ _ _) ?_ | refine CallP.mk' (Name_rt _ hname) ?_ | refine Br.N ?_ | refine Br.kt (by assumption) ?_ | refine Br.kf (by assumption) ?_ | refine Br.mk (fun h => ?_) (fun h => ?_) | refine eq_some ?_)
  all_goals first
    | exact hfin _ (by clear hfin hI hsz hn; (try simp only [List.length_map, Bool.and_true] at *); first | (simp only [bne, typR, emptyS, *, decide_true, decide_false, Bool.true_or, Bool.false_or, Bool.or_true, Bool.or_false, Bool.true_and, Bool.false_and, Bool.and_true, Bool.and_false, Bool.not_true, Bool.not_false, cond_true, cond_false] <;> rfl) | (exfalso; simp_all; done) | (simp only [bne, typR, emptyS]; simp_all only [decide_true, decide_false, Bool.true_or, Bool.false_or, Bool.or_true, Bool.or_false, Bool.true_and, Bool.false_and, Bool.and_true, Bool.and_false, Bool.not_true, Bool.not_false, cond_true, cond_false]; done))
    | skip
  all_goals
    have hs := inR_iff.1 (show inR size 0 1000000 = true by assumption)
    have h8 : fields.length ≤ 8 := by
      have h := (show decide (((fields.map Fld.enc).length : Int) > 8) = false by assumption)
      simp only [List.length_map] at h
      have := of_decide_eq_false h
      omega
    have hres := hfin (optE (firstE (codeAt fields (fldC l i ⟨1, name, size, elem, count, fields⟩)) fields.length 0)) (by clear hfin hI hsz hn h8 hs; (try simp only [List.length_map, Bool.and_true] at *); first | (simp only [bne, typR, emptyS, *, decide_true, decide_false, Bool.true_or, Bool.false_or, Bool.or_true, Bool.or_false, Bool.true_and, Bool.false_and, Bool.and_true, Bool.and_false, Bool.not_true, Bool.not_false, cond_true, cond_false] <;> rfl) | (exfalso; simp_all; done) | (simp only [bne, typR, emptyS]; simp_all only [decide_true, decide_false, Bool.true_or, Bool.false_or, Bool.or_true, Bool.or_false, Bool.true_and, Bool.false_and, Bool.and_true, Bool.and_false, Bool.not_true, Bool.not_false, cond_true, cond_false]; done))
    refine LoopP.env (tEnv_eq rfl rfl rfl rfl rfl) (fields_loop l i hi hl ⟨1, name, size, elem, count, fields⟩ h8 hn hs hsz code hres _ _ ⟨fun e h h4 => ?_, fun e h h0 => ?_⟩)
    · rw [← upd_self h4]
      exact eq_int rfl
    · subst h0
      exact eq_int rfl
set_option maxHeartbeats 4000000 in
theorem typR_2 (l : List Typ) (i : Nat) (hi : i < l.length) (hl : l.length ≤ 30) (name : ByteArray) (size elem count : Int) (fields : List Fld) (hI : idxAddr 6 (.rs (l.map Typ.enc)) (i : Int) = some (.rp (Typ.enc ⟨2, name, size, elem, count, fields⟩) 0))
    (hname : name.size ≤ maxLen) (hn : ∀ f ∈ fields, f.name.size ≤ maxLen) (hsz : ∀ n : Int, 0 ≤ n → n < i → 0 ≤ tsz l n ∧ tsz l n ≤ 1000000) (code : Int)
    (hfin : ∀ x, typR l i ⟨2, name, size, elem, count, fields⟩ = x → x = code) :
    Rt T 47 [.rs (l.map Typ.enc), .int .i64 i] (.int .i64 code) := by
  refine Rt.wp rfl rfl ?_
  repeat' ((conv => whnf); first | refine Br.T ?_ | refine Br.F ?_ | refine And.intro rfl ?_ | refine eq_bool ?_ | refine eq_int ?_ | refine SomeP.mk' (hI) ?_ | refine SomeP.mk' (idx_typR hl (by assumption)) ?_ | refine CallP.mk' (In1_rt _ _ _) ?_ | refine CallP.mk' (Name_rt _ hname) ?_ | refine Br.N ?_ | refine Br.kt (by assumption) ?_ | refine Br.kf (by assumption) ?_ | refine Br.mk (fun h => ?_) (fun h => ?_) | refine eq_some ?_)
  all_goals first
    | exact hfin _ (by clear hfin hI hsz hn; (try simp only [List.length_map, Bool.and_true] at *); first | (simp only [bne, typR, emptyS, *, decide_true, decide_false, Bool.true_or, Bool.false_or, Bool.or_true, Bool.or_false, Bool.true_and, Bool.false_and, Bool.and_true, Bool.and_false, Bool.not_true, Bool.not_false, cond_true, cond_false] <;> rfl) | (exfalso; simp_all; done) | (simp only [bne, typR, emptyS]; simp_all only [decide_true, decide_false, Bool.true_or, Bool.false_or, Bool.or_true, Bool.or_false, Bool.true_and, Bool.false_and, Bool.and_true, Bool.and_false, Bool.not_true, Bool.not_false, cond_true, cond_false]; done))
    | skip
  all_goals
    have hs := inR_iff.1 (show inR size 0 1000000 = true by assumption)
    have h8 : fields.length ≤ 8 := by
      have h := (show decide (((fields.map Fld.enc).length : Int) > 8) = false by assumption)
      simp only [List.length_map] at h
      have := of_decide_eq_false h
      omega
    have hres := hfin (optE (firstE (codeAt fields (fldC l i ⟨2, name, size, elem, count, fields⟩)) fields.length 0)) (by clear hfin hI hsz hn h8 hs; (try simp only [List.length_map, Bool.and_true] at *); first | (simp only [bne, typR, emptyS, *, decide_true, decide_false, Bool.true_or, Bool.false_or, Bool.or_true, Bool.or_false, Bool.true_and, Bool.false_and, Bool.and_true, Bool.and_false, Bool.not_true, Bool.not_false, cond_true, cond_false] <;> rfl) | (exfalso; simp_all; done) | (simp only [bne, typR, emptyS]; simp_all only [decide_true, decide_false, Bool.true_or, Bool.false_or, Bool.or_true, Bool.or_false, Bool.true_and, Bool.false_and, Bool.and_true, Bool.and_false, Bool.not_true, Bool.not_false, cond_true, cond_false]; done))
    refine LoopP.env (tEnv_eq rfl rfl rfl rfl rfl) (fields_loop l i hi hl ⟨2, name, size, elem, count, fields⟩ h8 hn hs hsz code hres _ _ ⟨fun e h h4 => ?_, fun e h h0 => ?_⟩)
    · rw [← upd_self h4]
      exact eq_int rfl
    · subst h0
      exact eq_int rfl
set_option maxHeartbeats 4000000 in
theorem typR_3 (l : List Typ) (i : Nat) (hi : i < l.length) (hl : l.length ≤ 30) (name : ByteArray) (size elem count : Int) (fields : List Fld) (hI : idxAddr 6 (.rs (l.map Typ.enc)) (i : Int) = some (.rp (Typ.enc ⟨3, name, size, elem, count, fields⟩) 0))
    (hname : name.size ≤ maxLen) (hn : ∀ f ∈ fields, f.name.size ≤ maxLen) (hsz : ∀ n : Int, 0 ≤ n → n < i → 0 ≤ tsz l n ∧ tsz l n ≤ 1000000) (code : Int)
    (hfin : ∀ x, typR l i ⟨3, name, size, elem, count, fields⟩ = x → x = code) :
    Rt T 47 [.rs (l.map Typ.enc), .int .i64 i] (.int .i64 code) := by
  refine Rt.wp rfl rfl ?_
  repeat' ((conv => whnf); first | refine Br.T ?_ | refine Br.F ?_ | refine And.intro rfl ?_ | refine eq_bool ?_ | refine eq_int ?_ | refine SomeP.mk' (hI) ?_ | refine SomeP.mk' (idx_typR hl (by assumption)) ?_ | refine CallP.mk' (In1_rt _ _ _) ?_ | refine CallP.mk' (Name_rt _ hname) ?_ | refine Br.N ?_ | refine Br.kt (by assumption) ?_ | refine Br.kf (by assumption) ?_ | refine Br.mk (fun h => ?_) (fun h => ?_) | refine eq_some ?_)
  all_goals first
    | exact hfin _ (by clear hfin hI hsz hn; (try simp only [List.length_map, Bool.and_true] at *); first | (simp only [bne, typR, emptyS, *, decide_true, decide_false, Bool.true_or, Bool.false_or, Bool.or_true, Bool.or_false, Bool.true_and, Bool.false_and, Bool.and_true, Bool.and_false, Bool.not_true, Bool.not_false, cond_true, cond_false] <;> rfl) | (exfalso; simp_all; done) | (simp only [bne, typR, emptyS]; simp_all only [decide_true, decide_false, Bool.true_or, Bool.false_or, Bool.or_true, Bool.or_false, Bool.true_and, Bool.false_and, Bool.and_true, Bool.and_false, Bool.not_true, Bool.not_false, cond_true, cond_false]; done))
    | skip
  all_goals
    have hs := inR_iff.1 (show inR size 0 1000000 = true by assumption)
    have h8 : fields.length ≤ 8 := by
      have h := (show decide (((fields.map Fld.enc).length : Int) > 8) = false by assumption)
      simp only [List.length_map] at h
      have := of_decide_eq_false h
      omega
    have hres := hfin (optE (firstE (codeAt fields (fldC l i ⟨3, name, size, elem, count, fields⟩)) fields.length 0)) (by clear hfin hI hsz hn h8 hs; (try simp only [List.length_map, Bool.and_true] at *); first | (simp only [bne, typR, emptyS, *, decide_true, decide_false, Bool.true_or, Bool.false_or, Bool.or_true, Bool.or_false, Bool.true_and, Bool.false_and, Bool.and_true, Bool.and_false, Bool.not_true, Bool.not_false, cond_true, cond_false] <;> rfl) | (exfalso; simp_all; done) | (simp only [bne, typR, emptyS]; simp_all only [decide_true, decide_false, Bool.true_or, Bool.false_or, Bool.or_true, Bool.or_false, Bool.true_and, Bool.false_and, Bool.and_true, Bool.and_false, Bool.not_true, Bool.not_false, cond_true, cond_false]; done))
    refine LoopP.env (tEnv_eq rfl rfl rfl rfl rfl) (fields_loop l i hi hl ⟨3, name, size, elem, count, fields⟩ h8 hn hs hsz code hres _ _ ⟨fun e h h4 => ?_, fun e h h0 => ?_⟩)
    · rw [← upd_self h4]
      exact eq_int rfl
    · subst h0
      exact eq_int rfl
set_option maxHeartbeats 4000000 in
theorem typR_4 (l : List Typ) (i : Nat) (hi : i < l.length) (hl : l.length ≤ 30) (name : ByteArray) (size elem count : Int) (fields : List Fld) (hI : idxAddr 6 (.rs (l.map Typ.enc)) (i : Int) = some (.rp (Typ.enc ⟨4, name, size, elem, count, fields⟩) 0))
    (hname : name.size ≤ maxLen) (hn : ∀ f ∈ fields, f.name.size ≤ maxLen) (hsz : ∀ n : Int, 0 ≤ n → n < i → 0 ≤ tsz l n ∧ tsz l n ≤ 1000000) (code : Int)
    (hfin : ∀ x, typR l i ⟨4, name, size, elem, count, fields⟩ = x → x = code) :
    Rt T 47 [.rs (l.map Typ.enc), .int .i64 i] (.int .i64 code) := by
  refine Rt.wp rfl rfl ?_
  repeat' ((conv => whnf); first | refine Br.T ?_ | refine Br.F ?_ | refine And.intro rfl ?_ | refine eq_bool ?_ | refine eq_int ?_ | refine SomeP.mk' (hI) ?_ | refine SomeP.mk' (idx_typR hl (by assumption)) ?_ | refine CallP.mk' (In1_rt _ _ _) ?_ | refine CallP.mk' (Name_rt _ hname) ?_ | refine Br.N ?_ | refine Br.kt (by assumption) ?_ | refine Br.kf (by assumption) ?_ | refine Br.mk (fun h => ?_) (fun h => ?_) | refine eq_some ?_)
  all_goals first
    | exact hfin _ (by clear hfin hI hsz hn; (try simp only [List.length_map, Bool.and_true] at *); first | (simp only [bne, typR, emptyS, *, decide_true, decide_false, Bool.true_or, Bool.false_or, Bool.or_true, Bool.or_false, Bool.true_and, Bool.false_and, Bool.and_true, Bool.and_false, Bool.not_true, Bool.not_false, cond_true, cond_false] <;> rfl) | (exfalso; simp_all; done) | (simp only [bne, typR, emptyS]; simp_all only [decide_true, decide_false, Bool.true_or, Bool.false_or, Bool.or_true, Bool.or_false, Bool.true_and, Bool.false_and, Bool.and_true, Bool.and_false, Bool.not_true, Bool.not_false, cond_true, cond_false]; done))
    | skip
  all_goals
    have hs := inR_iff.1 (show inR size 0 1000000 = true by assumption)
    have h8 : fields.length ≤ 8 := by
      have h := (show decide (((fields.map Fld.enc).length : Int) > 8) = false by assumption)
      simp only [List.length_map] at h
      have := of_decide_eq_false h
      omega
    have hres := hfin (optE (firstE (codeAt fields (fldC l i ⟨4, name, size, elem, count, fields⟩)) fields.length 0)) (by clear hfin hI hsz hn h8 hs; (try simp only [List.length_map, Bool.and_true] at *); first | (simp only [bne, typR, emptyS, *, decide_true, decide_false, Bool.true_or, Bool.false_or, Bool.or_true, Bool.or_false, Bool.true_and, Bool.false_and, Bool.and_true, Bool.and_false, Bool.not_true, Bool.not_false, cond_true, cond_false] <;> rfl) | (exfalso; simp_all; done) | (simp only [bne, typR, emptyS]; simp_all only [decide_true, decide_false, Bool.true_or, Bool.false_or, Bool.or_true, Bool.or_false, Bool.true_and, Bool.false_and, Bool.and_true, Bool.and_false, Bool.not_true, Bool.not_false, cond_true, cond_false]; done))
    refine LoopP.env (tEnv_eq rfl rfl rfl rfl rfl) (fields_loop l i hi hl ⟨4, name, size, elem, count, fields⟩ h8 hn hs hsz code hres _ _ ⟨fun e h h4 => ?_, fun e h h0 => ?_⟩)
    · rw [← upd_self h4]
      exact eq_int rfl
    · subst h0
      exact eq_int rfl
theorem typR_any (l : List Typ) (i : Nat) (hi : i < l.length) (hl : l.length ≤ 30) (kind : Int) (name : ByteArray) (size elem count : Int) (fields : List Fld) (hI : idxAddr 6 (.rs (l.map Typ.enc)) (i : Int) = some (.rp (Typ.enc ⟨kind, name, size, elem, count, fields⟩) 0))
    (hname : name.size ≤ maxLen) (hn : ∀ f ∈ fields, f.name.size ≤ maxLen) (hsz : ∀ n : Int, 0 ≤ n → n < i → 0 ≤ tsz l n ∧ tsz l n ≤ 1000000) (code : Int)
    (hfin : ∀ x, typR l i ⟨kind, name, size, elem, count, fields⟩ = x → x = code) :
    Rt T 47 [.rs (l.map Typ.enc), .int .i64 i] (.int .i64 code) := by
  cases hk : inR kind 1 4 with
  | false => exact typR_out l i hi hl kind name size elem count fields hI hname hn hsz code hfin hk
  | true =>
    have h1 := inR_iff.1 hk
    have hk : kind = 1 ∨ kind = 2 ∨ kind = 3 ∨ kind = 4 := by omega
    rcases hk with rfl | rfl | rfl | rfl
    · exact typR_1 l i hi hl name size elem count fields hI hname hn hsz code hfin
    · exact typR_2 l i hi hl name size elem count fields hI hname hn hsz code hfin
    · exact typR_3 l i hi hl name size elem count fields hI hname hn hsz code hfin
    · exact typR_4 l i hi hl name size elem count fields hI hname hn hsz code hfin
theorem TypeCode_rt (l : List Typ) (i : Nat) (hi : i < l.length) (hl : l.length ≤ 30) (t : Typ) (ht : l[i] = t) (hname : t.name.size ≤ maxLen) (hn : ∀ f ∈ t.fields, f.name.size ≤ maxLen) (hsz : ∀ n : Int, 0 ≤ n → n < i → 0 ≤ tsz l n ∧ tsz l n ≤ 1000000) :
    Rt T 47 [.rs (l.map Typ.enc), .int .i64 i] (.int .i64 (typC l i t)) := by
  have hI := idx_map (enc := Typ.enc) (sz := 6) hi fun _ => rfl
  rw [ht] at hI
  exact typR_any l i hi hl _ _ _ _ _ _ hI hname hn hsz _ fun x hx => by rw [← hx]; exact typR_eq l i hl t
end Go.Proofs.YtnibcojenlijgaaGreatDoor.Ev
