/- The check of a list of loaded images at the evaluator. No condition. -/
import Derived.Test.YtnibcojenlijgaaGreatDoorFf
import Derived.Test.YtnibcojenlijgaaGreatDoorPl1
set_option linter.unusedVariables false
set_option linter.unusedSimpArgs false
namespace Go.Proofs.YtnibcojenlijgaaGreatDoor.Ev
open Go Go.RowKit
set_option maxRecDepth 10000
/-- What every list of loaded images has; 'len': what is asked of its length. -/
structure LdsOK (l : List Ldd) : Prop where
  len : l.length ≤ 1048576
  ok : ∀ x ∈ l, x.img.ok
theorem imgsAV_rs {l : List Img} (h : l ≠ []) : imgsAV l = .rs (l.map Img.enc) := by cases l with
  | nil => exact absurd rfl h
  | cons x l => rfl
theorem scopeAV_rt (l : List Img) (hl : l.length ≤ maxLen) (ok : ∀ x ∈ l, x.ok) : Rt T 26 [imgsAV l] (scopeF l).enc := by
  cases l with
  | nil => exact scope_nil_rt
  | cons x l => exact scope_rt (x :: l) hl ok
theorem isOk_eta (f : Flt) : f.isOk = ((f.code == 0) && ((f.index == 0) && true)) := by simp [Flt.isOk]
theorem imgs_len (l : List Ldd) : (imgs l).length = l.length := List.length_map _
theorem scope_len {l : List Img} (h : (scopeF l).isOk = true) : 0 < l.length ∧ l.length ≤ 5 := by
  simp only [scopeF] at h
  cases hc : (((l.length : Int) == 0) || decide ((l.length : Int) > 5)) with
  | true => rw [hc] at h; exact absurd (isOk_mk (c := 2) (i := -1) h).1 (by decide)
  | false =>
    simp only [Bool.or_eq_false_iff, beq_eq_false_iff_ne, ne_eq, decide_eq_false_iff_not] at hc
    omega
theorem lddFrom_drop {l : List Ldd} {k : Nat} (hk : k < l.length) : lddFrom (l.drop k) k = bif lddBad l[k] then some k else lddFrom (l.drop (k + 1)) (k + 1) := by
  rw [List.drop_eq_getElem_cons hk]; rfl
theorem scope_valid {l : List Img} (h : (scopeF l).isOk = true) : ∀ x ∈ l, (validF x).isOk = true := by
  simp only [scopeF] at h
  cases hc : (((l.length : Int) == 0) || decide ((l.length : Int) > 5)) with
  | true => rw [hc] at h; exact absurd (isOk_mk (c := 2) (i := -1) h).1 (by decide)
  | false => rw [hc] at h; exact scFrom_ok h
theorem copies_rt (l : List Ldd) (ok : LdsOK l) : Rt T 15 [.rs (l.map Ldd.enc)] (copiesF l).enc := by
  have hlen := ok.len
  have hm : (imgs l).length ≤ maxLen := by rw [imgs_len]; unfold maxLen; omega
  have hio : ∀ x ∈ imgs l, x.ok := fun x hx => by obtain ⟨y, hy, rfl⟩ := List.mem_map.1 hx; exact ok.ok y hy
  have hh : ∀ f : Flt, f.isOk = ((f.code == 0) && (f.index == 0)) := fun _ => rfl
  by_cases hne : l = []
  · subst hne
    refine Rt.wp rfl rfl ?_
    repeat' ((conv => whnf); first | refine Br.T ?_ | refine Br.F ?_ | refine And.intro rfl ?_ | refine eq_bool ?_ | refine eq_int ?_ | refine CallP.mk' (images_rt [] (by decide)) ?_ | refine CallP.mk' (scope_nil_rt) ?_ | refine Br.N ?_ | refine Br.kt (by assumption) ?_ | refine Br.kf (by assumption) ?_ | refine Br.mk (fun h => ?_) (fun h => ?_) | refine eq_some ?_)
    all_goals rfl
  · have hin : imgs l ≠ [] := fun h => hne (List.map_eq_nil_iff.1 h)
    have hi := images_rt l hlen
    rw [imgsAV_rs hin] at hi
    have hs := scope_rt (imgs l) hm hio
    refine Rt.wp rfl rfl ?_
    refine CallP.mk' hi ?_
    refine CallP.mk' hs ?_
    refine Br.N ?_
    refine Br.mk (fun h => ?_) (fun h => ?_)
    · simp only [Bool.and_true] at h
      have hsc : (scopeF (imgs l)).isOk = true := h
      obtain ⟨_, h5⟩ := scope_len hsc
      obtain ⟨r, hr, v, hv, rfl⟩ := needs_rt (imgs l) h5 fun x hx => valid_needs (scope_valid hsc x hx)
      have hc : copiesF l = match lddFrom l 0 with
          | some k => ⟨3, k⟩
          | none => match missing (imgs l) (imgs l) 0 with
            | some k => ⟨6, k⟩
            | none => .ok := by simp only [copiesF, hsc]; rfl
      refine LoopP.by (α := Nat) (fun k => l.length - k) (fun k => k ≤ l.length ∧ lddFrom l 0 = lddFrom (l.drop k) k) (fun k => [.int .i64 k]) (fun k => [(4, ⟨2, [[.int .i64 (scopeF (imgs l)).code, .int .i64 (scopeF (imgs l)).index]]⟩), (0, ⟨2, [[.int .i64 0, .int .i64 0]]⟩)]) 0 ⟨Nat.zero_le _, rfl⟩ rfl (fun k hk => ?_)
      obtain ⟨h1, h2⟩ := hk
      refine Br.mk (fun h' => ?_) (fun h' => ?_)
      · have hlt : k < l.length := by simp at h'; omega
        rw [lddFrom_drop hlt] at h2
        have bad : lddBad l[k] = true → (Flt.mk 3 k).enc = (copiesF l).enc := fun hb => by rw [hc, h2, hb]; rfl
        have nxt : lddBad l[k] = false → ∃ y, l.length - y < l.length - k ∧ (y ≤ l.length ∧ lddFrom l 0 = lddFrom (l.drop y) y) ∧ (([AV.int .i64 (IntKind.wrap .i64 (k + 1))], [(4, ⟨2, [[.int .i64 (scopeF (imgs l)).code, .int .i64 (scopeF (imgs l)).index]]⟩), (0, ⟨2, [[.int .i64 0, .int .i64 0]]⟩)]) : List AV × List (Nat × Blk)) = ([.int .i64 y], [(4, ⟨2, [[.int .i64 (scopeF (imgs l)).code, .int .i64 (scopeF (imgs l)).index]]⟩), (0, ⟨2, [[.int .i64 0, .int .i64 0]]⟩)]) := fun hb =>
          ⟨k + 1, by omega, ⟨by omega, by rw [h2, hb]; rfl⟩, by rw [wrap_nat (show k < 9223372036854775807 by omega)]⟩
        clear h2 h1 h' hc hr hv hsc h hh hs hi hio hm ok
        repeat' ((conv => whnf); first | refine Br.T ?_ | refine Br.F ?_ | refine And.intro rfl ?_ | refine eq_bool ?_ | refine eq_int ?_ | refine SomeP.mk' (idx_map hlt fun _ => rfl) ?_ | refine Br.N ?_ | refine Br.kt (by assumption) ?_ | refine Br.kf (by assumption) ?_ | refine Br.mk (fun h => ?_) (fun h => ?_) | refine eq_some ?_)
        all_goals first
          | exact bad (by (try simp only [List.length_map, Bool.and_true] at *); first | (simp only [bne, lddBad, *, decide_true, decide_false, Bool.true_or, Bool.false_or, Bool.or_true, Bool.or_false, Bool.true_and, Bool.false_and, Bool.and_true, Bool.and_false, Bool.not_true, Bool.not_false, cond_true, cond_false] <;> rfl) | (exfalso; simp_all; done) | (simp only [bne, lddBad]; simp_all only [decide_true, decide_false, Bool.true_or, Bool.false_or, Bool.or_true, Bool.or_false, Bool.true_and, Bool.false_and, Bool.and_true, Bool.and_false, Bool.not_true, Bool.not_false, cond_true, cond_false]; done))
          | exact nxt (by (try simp only [List.length_map, Bool.and_true] at *); first | (simp only [bne, lddBad, *, decide_true, decide_false, Bool.true_or, Bool.false_or, Bool.or_true, Bool.or_false, Bool.true_and, Bool.false_and, Bool.and_true, Bool.and_false, Bool.not_true, Bool.not_false, cond_true, cond_false] <;> rfl) | (exfalso; simp_all; done) | (simp only [bne, lddBad]; simp_all only [decide_true, decide_false, Bool.true_or, Bool.false_or, Bool.or_true, Bool.or_false, Bool.true_and, Bool.false_and, Bool.and_true, Bool.and_false, Bool.not_true, Bool.not_false, cond_true, cond_false]; done))
      · have hge : l.length ≤ k := by simp at h'; omega
        rw [List.drop_of_length_le hge] at h2
        have hl0 : lddFrom l 0 = none := h2
        rw [hl0] at hc
        rw [hc]
        generalize missing (imgs l) (imgs l) 0 = m at *
        refine CallP.mk' hi ?_
        refine CallP.mk' hr ?_
        rcases hv with rfl | ⟨es, rfl⟩ <;> cases m <;>
        repeat' ((conv => whnf); first | refine Br.T ?_ | refine Br.F ?_ | refine And.intro rfl ?_ | refine eq_bool ?_ | refine eq_int ?_ | refine Br.N ?_ | refine Br.kt (by assumption) ?_ | refine Br.kf (by assumption) ?_ | refine Br.mk (fun h => ?_) (fun h => ?_) | refine eq_some ?_)
        all_goals rfl
    · simp only [Bool.and_true] at h
      have hsc : (scopeF (imgs l)).isOk = false := h
      exact eq_some (by simp only [copiesF, hsc]; rfl)
end Go.Proofs.YtnibcojenlijgaaGreatDoor.Ev
