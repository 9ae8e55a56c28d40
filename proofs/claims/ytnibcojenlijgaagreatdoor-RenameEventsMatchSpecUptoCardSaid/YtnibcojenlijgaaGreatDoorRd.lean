/- The reference's check of images at the evaluator: it answers as the program's. No condition. -/
import Derived.Test.YtnibcojenlijgaaGreatDoorRc
import Derived.Test.YtnibcojenlijgaaGreatDoorSp2
set_option linter.unusedVariables false
set_option linter.unusedSimpArgs false
namespace Go.Proofs.YtnibcojenlijgaaGreatDoor.Ev
open Go Go.RowKit
set_option maxRecDepth 10000
theorem cond_zero {b : Bool} {c d : Int} (hc : c ≠ 0) (h : (bif b then c else d) = 0) : b = false ∧ d = 0 := by
  cases b with
  | true => exact absurd h hc
  | false => exact ⟨rfl, h⟩
theorem typC_size {l : List Typ} {i : Nat} {t : Typ} (h : typC l i t = 0) : 0 ≤ t.size ∧ t.size ≤ 1000000 := by
  simp only [typC] at h
  obtain ⟨_, h⟩ := cond_zero (by decide) h
  obtain ⟨_, h⟩ := cond_zero (by decide) h
  obtain ⟨h1, h⟩ := cond_zero (by decide) h
  simp only [Bool.or_eq_false_iff, decide_eq_false_iff_not] at h1
  omega
theorem TypesFault_rt (l : List Typ) (hl : l.length ≤ maxLen) (hn : ∀ e ∈ l, e.name.size ≤ maxLen ∧ e.fields.length ≤ maxLen ∧ ∀ f ∈ e.fields, f.name.size ≤ maxLen) : Rt T 31 [.rs (l.map Typ.enc)] (recF l).enc := by
  refine Rt.wp rfl rfl ?_
  refine Br.mk (fun h => ?_) (fun h => ?_)
  · simp only [List.length_map] at h
    have hr : recF l = ⟨2, -1⟩ := by simp only [recF, h]; rfl
    rw [hr]
    repeat' ((conv => whnf); first | refine Br.T ?_ | refine Br.F ?_ | refine And.intro rfl ?_ | refine eq_bool ?_ | refine eq_int ?_ | refine CallP.mk' (At1_rt _ _) ?_ | refine Br.N ?_ | refine Br.kt (by assumption) ?_ | refine Br.kf (by assumption) ?_ | refine Br.mk (fun h => ?_) (fun h => ?_) | refine eq_some ?_)
    all_goals rfl
  · simp only [List.length_map] at h
    have h30 : l.length ≤ 30 := by have := of_decide_eq_false h; omega
    have h0 : recF l = fltE (fun k => k) (firstE (codeAt l fun k t _ => typC l k t) (l.length - 0) 0) := by simp only [recF, h]; rfl
    refine LoopP.by (α := Nat) (fun k => l.length - k) (fun k => k ≤ l.length ∧ recF l = fltE (fun k => k) (firstE (codeAt l fun k t _ => typC l k t) (l.length - k) k) ∧ ∀ j (h : j < l.length), j < k → typC l j l[j] = 0) (fun k => [.int .i64 k]) (fun k => fblk) 0 ⟨Nat.zero_le _, h0, fun j _ h => absurd h (Nat.not_lt_zero _)⟩ rfl (fun k hk => ?_)
    obtain ⟨h1, h2, h3⟩ := hk
    refine Br.mk (fun h' => ?_) (fun h' => ?_)
    · have hlt : k < l.length := by simp at h'; omega
      rw [firstE_step hlt, codeAt_eq hlt] at h2
      obtain ⟨n1, n2, n3⟩ := hn _ (List.getElem_mem hlt)
      have hT := TypeCode_rt l k hlt h30 l[k] rfl n1 n3 fun n a b => by
        have hj : n.toNat < l.length := by omega
        have := h3 n.toNat hj (by omega)
        simp only [tsz, typAt, List.getElem?_eq_getElem hj]
        exact typC_size this
      refine CallP.mk' hT ?_
      refine Br.N ?_
      refine Br.mk (fun hc => ?_) (fun hc => ?_)
      · have hc0 : typC l k l[k] = 0 := by simpa using hc
        refine ⟨k + 1, by omega, ⟨by omega, by rw [h2, hc0]; rfl, fun j hj hjk => ?_⟩, ?_⟩
        · by_cases hjk' : j = k
          · subst hjk'; exact hc0
          · exact h3 j hj (by omega)
        · rw [← wrap_nat (show k < 9223372036854775807 by omega)]; rfl
      · have hne : (typC l k l[k] != 0) = true := by simpa using hc
        have hr : recF l = ⟨typC l k l[k], k⟩ := by rw [h2, hne]; rfl
        rw [hr]
        repeat' ((conv => whnf); first | refine Br.T ?_ | refine Br.F ?_ | refine And.intro rfl ?_ | refine eq_bool ?_ | refine eq_int ?_ | refine CallP.mk' (hT) ?_ | refine CallP.mk' (At1_rt _ _) ?_ | refine Br.N ?_ | refine Br.kt (by assumption) ?_ | refine Br.kf (by assumption) ?_ | refine Br.mk (fun h => ?_) (fun h => ?_) | refine eq_some ?_)
        all_goals rfl
    · have hge : l.length ≤ k := by simp at h'; omega
      have hr : recF l = .ok := by rw [h2, show l.length - k = 0 by omega]; rfl
      rw [hr]
      repeat' ((conv => whnf); first | refine Br.T ?_ | refine Br.F ?_ | refine And.intro rfl ?_ | refine eq_bool ?_ | refine eq_int ?_ | refine Br.N ?_ | refine Br.kt (by assumption) ?_ | refine Br.kf (by assumption) ?_ | refine Br.mk (fun h => ?_) (fun h => ?_) | refine eq_some ?_)
      all_goals rfl
/-! ### The lists of an image -/
/-- What the reference reads of list 'n': its length, its limit, its codes. -/
structure ListOK (x : Img) (n : Nat) (len : Nat) (most : Int) (c : Nat → Int) : Prop where
  hlen : len ≤ maxLen
  hsize : Rt T 44 [.agg x.enc, .int .i64 n] (.tup [.int .i64 len, .int .i64 most])
  hel : ∀ k, k < len → (∀ j, j < k → c j = 0) → Rt T 45 [.agg x.enc, .int .i64 n, .int .i64 k] (.int .i64 (c k))
  hat : (checks x)[n - 11]? = some (eachF len most n c)
theorem list11 (x : Img) (ok : x.ok) (hseg : ∀ s ∈ x.segs, SegOK s) : ListOK x 11 x.exps.length 200 (codeAt x.exps fun k e p => expC x k e p) := by
  refine ⟨ok.exps, ?_, fun k hk hprev => ?_, rfl⟩
  · have e : x.exps.length = (x.exps.map Exp.enc).length := by simp
    rw [e]
    refine Rt.wp rfl rfl ?_
    repeat' ((conv => whnf); first | refine Br.T ?_ | refine Br.F ?_ | refine And.intro rfl ?_ | refine eq_bool ?_ | refine eq_int ?_ | refine Br.N ?_ | refine Br.kt (by assumption) ?_ | refine Br.kf (by assumption) ?_ | refine Br.mk (fun h => ?_) (fun h => ?_) | refine eq_some ?_)
    all_goals rfl
  · rw [codeAt_eq hk]
    have h := expR_rt x ok k hk
    rw [expR_eq hseg] at h
    refine Rt.wp rfl rfl ?_
    repeat' ((conv => whnf); first | refine Br.T ?_ | refine Br.F ?_ | refine And.intro rfl ?_ | refine eq_bool ?_ | refine eq_int ?_ | refine CallP.mk' (h) ?_ | refine Br.N ?_ | refine Br.kt (by assumption) ?_ | refine Br.kf (by assumption) ?_ | refine Br.mk (fun h => ?_) (fun h => ?_) | refine eq_some ?_)
    all_goals rfl
theorem list12 (x : Img) (ok : x.ok) (hseg : ∀ s ∈ x.segs, SegOK s) : ListOK x 12 x.imps.length 80 (codeAt x.imps fun k e p => impC x e) := by
  refine ⟨ok.imps, ?_, fun k hk hprev => ?_, rfl⟩
  · have e : x.imps.length = (x.imps.map Imp.enc).length := by simp
    rw [e]
    refine Rt.wp rfl rfl ?_
    repeat' ((conv => whnf); first | refine Br.T ?_ | refine Br.F ?_ | refine And.intro rfl ?_ | refine eq_bool ?_ | refine eq_int ?_ | refine Br.N ?_ | refine Br.kt (by assumption) ?_ | refine Br.kf (by assumption) ?_ | refine Br.mk (fun h => ?_) (fun h => ?_) | refine eq_some ?_)
    all_goals rfl
  · rw [codeAt_eq hk]
    have h := impR_rt x ok k hk
    rw [impR_eq hseg] at h
    refine Rt.wp rfl rfl ?_
    repeat' ((conv => whnf); first | refine Br.T ?_ | refine Br.F ?_ | refine And.intro rfl ?_ | refine eq_bool ?_ | refine eq_int ?_ | refine CallP.mk' (h) ?_ | refine Br.N ?_ | refine Br.kt (by assumption) ?_ | refine Br.kf (by assumption) ?_ | refine Br.mk (fun h => ?_) (fun h => ?_) | refine eq_some ?_)
    all_goals rfl
theorem list13 (x : Img) (ok : x.ok) (hseg : ∀ s ∈ x.segs, SegOK s) (himps : x.imps.length ≤ 1000000) : ListOK x 13 x.fixs.length 600 (codeAt x.fixs fun k e p => fixC x k e p) := by
  refine ⟨ok.fixs, ?_, fun k hk hprev => ?_, rfl⟩
  · have e : x.fixs.length = (x.fixs.map Fix.enc).length := by simp
    rw [e]
    refine Rt.wp rfl rfl ?_
    repeat' ((conv => whnf); first | refine Br.T ?_ | refine Br.F ?_ | refine And.intro rfl ?_ | refine eq_bool ?_ | refine eq_int ?_ | refine Br.N ?_ | refine Br.kt (by assumption) ?_ | refine Br.kf (by assumption) ?_ | refine Br.mk (fun h => ?_) (fun h => ?_) | refine eq_some ?_)
    all_goals rfl
  · rw [codeAt_eq hk]
    have h := fixR_rt x ok k hk
    have hp : 0 < k → 0 ≤ (x.fixs[k - 1]'(by omega)).addr ∧ (x.fixs[k - 1]'(by omega)).addr ≤ 1048576 := fun h0 => by
      have h1 := hprev (k - 1) (by omega)
      rw [codeAt_eq (show k - 1 < x.fixs.length by omega)] at h1
      simp only [fixC] at h1
      obtain ⟨_, h1⟩ := cond_zero (by decide) h1
      obtain ⟨_, h1⟩ := cond_zero (by decide) h1
      obtain ⟨h2, _⟩ := cond_zero (by decide) h1
      simp only [Bool.or_eq_false_iff, Bool.not_eq_false'] at h2
      obtain ⟨w1, w2⟩ := within_ok hseg (by decide) h2.2.2
      omega
    rw [fixR_eq hseg himps k _ _ hp] at h
    refine Rt.wp rfl rfl ?_
    repeat' ((conv => whnf); first | refine Br.T ?_ | refine Br.F ?_ | refine And.intro rfl ?_ | refine eq_bool ?_ | refine eq_int ?_ | refine CallP.mk' (h) ?_ | refine Br.N ?_ | refine Br.kt (by assumption) ?_ | refine Br.kf (by assumption) ?_ | refine Br.mk (fun h => ?_) (fun h => ?_) | refine eq_some ?_)
    all_goals rfl
theorem list14 (x : Img) (ok : x.ok) (hseg : ∀ s ∈ x.segs, SegOK s) : ListOK x 14 x.inits.length 60 (codeAt x.inits fun k e p => fnC x e) := by
  refine ⟨ok.inits, ?_, fun k hk hprev => ?_, rfl⟩
  · have e : x.inits.length = (x.inits.map (fun n => [AV.int .i64 n])).length := by simp
    rw [e]
    refine Rt.wp rfl rfl ?_
    repeat' ((conv => whnf); first | refine Br.T ?_ | refine Br.F ?_ | refine And.intro rfl ?_ | refine eq_bool ?_ | refine eq_int ?_ | refine Br.N ?_ | refine Br.kt (by assumption) ?_ | refine Br.kf (by assumption) ?_ | refine Br.mk (fun h => ?_) (fun h => ?_) | refine eq_some ?_)
    all_goals rfl
  · rw [codeAt_eq hk]
    have hw := withinR_eq hseg (a := x.inits[k]) (s := 0) (r := 4) (by decide)
    have h := Within_rt x ok.segs x.inits[k] 0 4
    rw [hw] at h
    refine Rt.wp rfl rfl ?_
    repeat' ((conv => whnf); first | refine Br.T ?_ | refine Br.F ?_ | refine And.intro rfl ?_ | refine eq_bool ?_ | refine eq_int ?_ | refine SomeP.mk' (idx_map (enc := fun n => [AV.int .i64 n]) hk fun _ => rfl) ?_ | refine CallP.mk' (h) ?_ | refine Br.N ?_ | refine Br.kt (by assumption) ?_ | refine Br.kf (by assumption) ?_ | refine Br.mk (fun h => ?_) (fun h => ?_) | refine eq_some ?_)
    all_goals (try simp only [List.length_map, Bool.and_true] at *); first | (simp only [bne, fnC, *, decide_true, decide_false, Bool.true_or, Bool.false_or, Bool.or_true, Bool.or_false, Bool.true_and, Bool.false_and, Bool.and_true, Bool.and_false, Bool.not_true, Bool.not_false, cond_true, cond_false] <;> rfl) | (exfalso; simp_all; done) | (simp only [bne, fnC]; simp_all only [decide_true, decide_false, Bool.true_or, Bool.false_or, Bool.or_true, Bool.or_false, Bool.true_and, Bool.false_and, Bool.and_true, Bool.and_false, Bool.not_true, Bool.not_false, cond_true, cond_false]; done)
theorem list15 (x : Img) (ok : x.ok) (hseg : ∀ s ∈ x.segs, SegOK s) : ListOK x 15 x.finis.length 60 (codeAt x.finis fun k e p => fnC x e) := by
  refine ⟨ok.finis, ?_, fun k hk hprev => ?_, rfl⟩
  · have e : x.finis.length = (x.finis.map (fun n => [AV.int .i64 n])).length := by simp
    rw [e]
    refine Rt.wp rfl rfl ?_
    repeat' ((conv => whnf); first | refine Br.T ?_ | refine Br.F ?_ | refine And.intro rfl ?_ | refine eq_bool ?_ | refine eq_int ?_ | refine Br.N ?_ | refine Br.kt (by assumption) ?_ | refine Br.kf (by assumption) ?_ | refine Br.mk (fun h => ?_) (fun h => ?_) | refine eq_some ?_)
    all_goals rfl
  · rw [codeAt_eq hk]
    have hw := withinR_eq hseg (a := x.finis[k]) (s := 0) (r := 4) (by decide)
    have h := Within_rt x ok.segs x.finis[k] 0 4
    rw [hw] at h
    refine Rt.wp rfl rfl ?_
    repeat' ((conv => whnf); first | refine Br.T ?_ | refine Br.F ?_ | refine And.intro rfl ?_ | refine eq_bool ?_ | refine eq_int ?_ | refine SomeP.mk' (idx_map (enc := fun n => [AV.int .i64 n]) hk fun _ => rfl) ?_ | refine CallP.mk' (h) ?_ | refine Br.N ?_ | refine Br.kt (by assumption) ?_ | refine Br.kf (by assumption) ?_ | refine Br.mk (fun h => ?_) (fun h => ?_) | refine eq_some ?_)
    all_goals (try simp only [List.length_map, Bool.and_true] at *); first | (simp only [bne, fnC, *, decide_true, decide_false, Bool.true_or, Bool.false_or, Bool.or_true, Bool.or_false, Bool.true_and, Bool.false_and, Bool.and_true, Bool.and_false, Bool.not_true, Bool.not_false, cond_true, cond_false] <;> rfl) | (exfalso; simp_all; done) | (simp only [bne, fnC]; simp_all only [decide_true, decide_false, Bool.true_or, Bool.false_or, Bool.or_true, Bool.or_false, Bool.true_and, Bool.false_and, Bool.and_true, Bool.and_false, Bool.not_true, Bool.not_false, cond_true, cond_false]; done)
theorem list16 (x : Img) (ok : x.ok) (hseg : ∀ s ∈ x.segs, SegOK s) : ListOK x 16 x.needs.length 5 (codeAt x.needs fun k e p => nameC e) := by
  refine ⟨ok.needs, ?_, fun k hk hprev => ?_, rfl⟩
  · have e : x.needs.length = (x.needs.map (fun s => [AV.str s])).length := by simp
    rw [e]
    refine Rt.wp rfl rfl ?_
    repeat' ((conv => whnf); first | refine Br.T ?_ | refine Br.F ?_ | refine And.intro rfl ?_ | refine eq_bool ?_ | refine eq_int ?_ | refine Br.N ?_ | refine Br.kt (by assumption) ?_ | refine Br.kf (by assumption) ?_ | refine Br.mk (fun h => ?_) (fun h => ?_) | refine eq_some ?_)
    all_goals rfl
  · rw [codeAt_eq hk]
    have h := NameOk_rt x.needs[k] (ok.needN _ (List.getElem_mem hk))
    refine Rt.wp rfl rfl ?_
    repeat' ((conv => whnf); first | refine Br.T ?_ | refine Br.F ?_ | refine And.intro rfl ?_ | refine eq_bool ?_ | refine eq_int ?_ | refine SomeP.mk' (idx_map (enc := fun s => [AV.str s]) hk fun _ => rfl) ?_ | refine CallP.mk' (h) ?_ | refine Br.N ?_ | refine Br.kt (by assumption) ?_ | refine Br.kf (by assumption) ?_ | refine Br.mk (fun h => ?_) (fun h => ?_) | refine eq_some ?_)
    all_goals (try simp only [List.length_map, Bool.and_true] at *); first | (simp only [bne, nameC, *, decide_true, decide_false, Bool.true_or, Bool.false_or, Bool.or_true, Bool.or_false, Bool.true_and, Bool.false_and, Bool.and_true, Bool.and_false, Bool.not_true, Bool.not_false, cond_true, cond_false] <;> rfl) | (exfalso; simp_all; done) | (simp only [bne, nameC]; simp_all only [decide_true, decide_false, Bool.true_or, Bool.false_or, Bool.or_true, Bool.or_false, Bool.true_and, Bool.false_and, Bool.and_true, Bool.and_false, Bool.not_true, Bool.not_false, cond_true, cond_false]; done)
theorem list17 (x : Img) (ok : x.ok) (hseg : ∀ s ∈ x.segs, SegOK s) : ListOK x 17 x.files.length 64 (codeAt x.files fun k e p => nameC e) := by
  refine ⟨ok.files, ?_, fun k hk hprev => ?_, rfl⟩
  · have e : x.files.length = (x.files.map (fun s => [AV.str s])).length := by simp
    rw [e]
    refine Rt.wp rfl rfl ?_
    repeat' ((conv => whnf); first | refine Br.T ?_ | refine Br.F ?_ | refine And.intro rfl ?_ | refine eq_bool ?_ | refine eq_int ?_ | refine Br.N ?_ | refine Br.kt (by assumption) ?_ | refine Br.kf (by assumption) ?_ | refine Br.mk (fun h => ?_) (fun h => ?_) | refine eq_some ?_)
    all_goals rfl
  · rw [codeAt_eq hk]
    have h := NameOk_rt x.files[k] (ok.fileN _ (List.getElem_mem hk))
    refine Rt.wp rfl rfl ?_
    repeat' ((conv => whnf); first | refine Br.T ?_ | refine Br.F ?_ | refine And.intro rfl ?_ | refine eq_bool ?_ | refine eq_int ?_ | refine SomeP.mk' (idx_map (enc := fun s => [AV.str s]) hk fun _ => rfl) ?_ | refine CallP.mk' (h) ?_ | refine Br.N ?_ | refine Br.kt (by assumption) ?_ | refine Br.kf (by assumption) ?_ | refine Br.mk (fun h => ?_) (fun h => ?_) | refine eq_some ?_)
    all_goals (try simp only [List.length_map, Bool.and_true] at *); first | (simp only [bne, nameC, *, decide_true, decide_false, Bool.true_or, Bool.false_or, Bool.or_true, Bool.or_false, Bool.true_and, Bool.false_and, Bool.and_true, Bool.and_false, Bool.not_true, Bool.not_false, cond_true, cond_false] <;> rfl) | (exfalso; simp_all; done) | (simp only [bne, nameC]; simp_all only [decide_true, decide_false, Bool.true_or, Bool.false_or, Bool.or_true, Bool.or_false, Bool.true_and, Bool.false_and, Bool.and_true, Bool.and_false, Bool.not_true, Bool.not_false, cond_true, cond_false]; done)
theorem list18 (x : Img) (ok : x.ok) (hseg : ∀ s ∈ x.segs, SegOK s) (hfiles : x.files.length ≤ 1000000) : ListOK x 18 x.lines.length 2000 (codeAt x.lines fun k e p => linC x k e p) := by
  refine ⟨ok.lines, ?_, fun k hk hprev => ?_, rfl⟩
  · have e : x.lines.length = (x.lines.map Lin.enc).length := by simp
    rw [e]
    refine Rt.wp rfl rfl ?_
    repeat' ((conv => whnf); first | refine Br.T ?_ | refine Br.F ?_ | refine And.intro rfl ?_ | refine eq_bool ?_ | refine eq_int ?_ | refine Br.N ?_ | refine Br.kt (by assumption) ?_ | refine Br.kf (by assumption) ?_ | refine Br.mk (fun h => ?_) (fun h => ?_) | refine eq_some ?_)
    all_goals rfl
  · rw [codeAt_eq hk]
    have h := linR_rt x ok k hk
    rw [linR_eq hfiles] at h
    refine Rt.wp rfl rfl ?_
    repeat' ((conv => whnf); first | refine Br.T ?_ | refine Br.F ?_ | refine And.intro rfl ?_ | refine eq_bool ?_ | refine eq_int ?_ | refine CallP.mk' (h) ?_ | refine Br.N ?_ | refine Br.kt (by assumption) ?_ | refine Br.kf (by assumption) ?_ | refine Br.mk (fun h => ?_) (fun h => ?_) | refine eq_some ?_)
    all_goals rfl
theorem list19 (x : Img) (ok : x.ok) (hseg : ∀ s ∈ x.segs, SegOK s) : ListOK x 19 x.unw.length 2000 (codeAt x.unw fun k e p => unwC k e p) := by
  refine ⟨ok.unw, ?_, fun k hk hprev => ?_, rfl⟩
  · have e : x.unw.length = (x.unw.map Unw.enc).length := by simp
    rw [e]
    refine Rt.wp rfl rfl ?_
    repeat' ((conv => whnf); first | refine Br.T ?_ | refine Br.F ?_ | refine And.intro rfl ?_ | refine eq_bool ?_ | refine eq_int ?_ | refine Br.N ?_ | refine Br.kt (by assumption) ?_ | refine Br.kf (by assumption) ?_ | refine Br.mk (fun h => ?_) (fun h => ?_) | refine eq_some ?_)
    all_goals rfl
  · rw [codeAt_eq hk]
    have h := unwR_rt x ok k hk
    rw [unwR_eq] at h
    refine Rt.wp rfl rfl ?_
    repeat' ((conv => whnf); first | refine Br.T ?_ | refine Br.F ?_ | refine And.intro rfl ?_ | refine eq_bool ?_ | refine eq_int ?_ | refine CallP.mk' (h) ?_ | refine Br.N ?_ | refine Br.kt (by assumption) ?_ | refine Br.kf (by assumption) ?_ | refine Br.mk (fun h => ?_) (fun h => ?_) | refine eq_some ?_)
    all_goals rfl
theorem list21 (x : Img) (ok : x.ok) (hseg : ∀ s ∈ x.segs, SegOK s) (htypes : x.types.length ≤ 1000000) : ListOK x 21 x.vars.length 500 (codeAt x.vars fun k e p => varC x k e p) := by
  refine ⟨ok.vars, ?_, fun k hk hprev => ?_, rfl⟩
  · have e : x.vars.length = (x.vars.map Vrb.enc).length := by simp
    rw [e]
    refine Rt.wp rfl rfl ?_
    repeat' ((conv => whnf); first | refine Br.T ?_ | refine Br.F ?_ | refine And.intro rfl ?_ | refine eq_bool ?_ | refine eq_int ?_ | refine Br.N ?_ | refine Br.kt (by assumption) ?_ | refine Br.kf (by assumption) ?_ | refine Br.mk (fun h => ?_) (fun h => ?_) | refine eq_some ?_)
    all_goals rfl
  · rw [codeAt_eq hk]
    have h := varR_rt x ok k hk
    rw [varR_eq hseg htypes] at h
    refine Rt.wp rfl rfl ?_
    repeat' ((conv => whnf); first | refine Br.T ?_ | refine Br.F ?_ | refine And.intro rfl ?_ | refine eq_bool ?_ | refine eq_int ?_ | refine CallP.mk' (h) ?_ | refine Br.N ?_ | refine Br.kt (by assumption) ?_ | refine Br.kf (by assumption) ?_ | refine Br.mk (fun h => ?_) (fun h => ?_) | refine eq_some ?_)
    all_goals rfl
theorem list22 (x : Img) (ok : x.ok) (hseg : ∀ s ∈ x.segs, SegOK s) : ListOK x 22 x.places.length 200 (codeAt x.places fun k e p => plcC x k e p) := by
  refine ⟨ok.places, ?_, fun k hk hprev => ?_, rfl⟩
  · have e : x.places.length = (x.places.map Plc.enc).length := by simp
    rw [e]
    refine Rt.wp rfl rfl ?_
    repeat' ((conv => whnf); first | refine Br.T ?_ | refine Br.F ?_ | refine And.intro rfl ?_ | refine eq_bool ?_ | refine eq_int ?_ | refine Br.N ?_ | refine Br.kt (by assumption) ?_ | refine Br.kf (by assumption) ?_ | refine Br.mk (fun h => ?_) (fun h => ?_) | refine eq_some ?_)
    all_goals rfl
  · rw [codeAt_eq hk]
    have h := plcR_rt x ok k hk
    have hp : 0 < k → 0 ≤ (x.places[k - 1]'(by omega)).addr ∧ 1 ≤ (x.places[k - 1]'(by omega)).size ∧ (x.places[k - 1]'(by omega)).addr + (x.places[k - 1]'(by omega)).size ≤ 1048576 := fun h0 => by
      have h1 := hprev (k - 1) (by omega)
      rw [codeAt_eq (show k - 1 < x.places.length by omega)] at h1
      obtain ⟨a1, a2, a3, _⟩ := plcC_ok hseg h1
      exact ⟨a1, a2, a3⟩
    rw [plcR_eq hseg k _ _ hp] at h
    refine Rt.wp rfl rfl ?_
    repeat' ((conv => whnf); first | refine Br.T ?_ | refine Br.F ?_ | refine And.intro rfl ?_ | refine eq_bool ?_ | refine eq_int ?_ | refine CallP.mk' (h) ?_ | refine Br.N ?_ | refine Br.kt (by assumption) ?_ | refine Br.kf (by assumption) ?_ | refine Br.mk (fun h => ?_) (fun h => ?_) | refine eq_some ?_)
    all_goals rfl
end Go.Proofs.YtnibcojenlijgaaGreatDoor.Ev
