/- The checks of lists of images at the evaluator. No condition. -/
import Derived.Test.YtnibcojenlijgaaGreatDoorFf1
import Derived.Test.YtnibcojenlijgaaGreatDoorFd
set_option linter.unusedVariables false
set_option linter.unusedSimpArgs false
namespace Go.Proofs.YtnibcojenlijgaaGreatDoor.Ev
open Go Go.RowKit
set_option maxRecDepth 10000
theorem scope_rt (l : List Img) (hl : l.length ≤ maxLen) (ok : ∀ x ∈ l, x.ok) : Rt T 26 [.rs (l.map Img.enc)] (scopeF l).enc := by
  refine Rt.wp rfl rfl ?_
  repeat' ((conv => whnf); first | refine Br.T ?_ | refine Br.F ?_ | refine And.intro rfl ?_ | refine eq_bool ?_ | refine eq_int ?_ | refine Br.N ?_ | refine Br.kt (by assumption) ?_ | refine Br.kf (by assumption) ?_ | refine Br.mk (fun h => ?_) (fun h => ?_) | refine eq_some ?_)
  · (try simp only [List.length_map, Bool.and_true] at *); first | (simp only [bne, scopeF, *, decide_true, decide_false, Bool.true_or, Bool.false_or, Bool.or_true, Bool.or_false, Bool.true_and, Bool.false_and, Bool.and_true, Bool.and_false, Bool.not_true, Bool.not_false, cond_true, cond_false] <;> rfl) | (exfalso; simp_all; done) | (simp only [bne, scopeF]; simp_all only [decide_true, decide_false, Bool.true_or, Bool.false_or, Bool.or_true, Bool.or_false, Bool.true_and, Bool.false_and, Bool.and_true, Bool.and_false, Bool.not_true, Bool.not_false, cond_true, cond_false]; done)
  · (try simp only [List.length_map, Bool.and_true] at *); first | (simp only [bne, scopeF, *, decide_true, decide_false, Bool.true_or, Bool.false_or, Bool.or_true, Bool.or_false, Bool.true_and, Bool.false_and, Bool.and_true, Bool.and_false, Bool.not_true, Bool.not_false, cond_true, cond_false] <;> rfl) | (exfalso; simp_all; done) | (simp only [bne, scopeF]; simp_all only [decide_true, decide_false, Bool.true_or, Bool.false_or, Bool.or_true, Bool.or_false, Bool.true_and, Bool.false_and, Bool.and_true, Bool.and_false, Bool.not_true, Bool.not_false, cond_true, cond_false]; done)
  · have h0 : scopeF l = scFrom l l 0 := by (try simp only [List.length_map, Bool.and_true] at *); first | (simp only [bne, scopeF, *, decide_true, decide_false, Bool.true_or, Bool.false_or, Bool.or_true, Bool.or_false, Bool.true_and, Bool.false_and, Bool.and_true, Bool.and_false, Bool.not_true, Bool.not_false, cond_true, cond_false] <;> rfl) | (exfalso; simp_all; done) | (simp only [bne, scopeF]; simp_all only [decide_true, decide_false, Bool.true_or, Bool.false_or, Bool.or_true, Bool.or_false, Bool.true_and, Bool.false_and, Bool.and_true, Bool.and_false, Bool.not_true, Bool.not_false, cond_true, cond_false]; done)
    · refine LoopP.by (α := Nat) (fun k => l.length - k) (fun k => k ≤ l.length ∧ scopeF l = scFrom l (l.drop k) k) (fun k => [.int .i64 k]) (fun k => fblk) 0 ⟨Nat.zero_le _, h0⟩ rfl (fun k hk => ?_)
      clear h0
      obtain ⟨h1, h2⟩ := hk
      refine Br.mk (fun h => ?_) (fun h => ?_)
      · have hlt : k < l.length := by simp at h; omega
        rw [List.drop_eq_getElem_cons hlt] at h2
        refine SomeP.mk' (idx_map hlt fun _ => rfl) ?_
        refine CallP.mk' (valid_rt l[k] (ok _ (List.getElem_mem hlt))) ?_
        refine Br.N ?_
        have hh : ∀ f : Flt, f.isOk = ((f.code == 0) && (f.index == 0)) := fun _ => rfl
        refine Br.mk (fun h => ?_) (fun h => ?_)
        · simp only [Bool.and_true] at h
          refine And.intro rfl ?_
          refine SomeP.mk' (slice_take (Nat.le_of_lt hlt) fun _ => rfl) ?_
          refine CallP.mk' (named_rt (l.take k) l[k].name (by rw [List.length_take]; omega)) ?_
          refine Br.mk (fun h' => ?_) (fun h' => ?_)
          · exact eq_some (by rw [h2]; simp only [scFrom, hh, h, h']; rfl)
          · refine ⟨k + 1, by omega, ⟨by omega, by rw [h2]; simp only [scFrom, hh, h, h']; rfl⟩, ?_⟩
            rw [← wrap_nat (show k < 9223372036854775807 by unfold maxLen at hl; omega)]; rfl
        · simp only [Bool.and_true] at h
          exact eq_some (by rw [h2]; simp only [scFrom, hh, h]; rfl)
      · have hge : l.length ≤ k := by simp at h; omega
        exact eq_some (by rw [h2, List.drop_of_length_le hge]; rfl)
theorem scope_nil_rt : Rt T 26 [.nils] (scopeF []).enc := by
  refine Rt.wp rfl rfl ?_
  repeat' ((conv => whnf); first | refine Br.T ?_ | refine Br.F ?_ | refine And.intro rfl ?_ | refine eq_bool ?_ | refine eq_int ?_ | refine Br.N ?_ | refine Br.kt (by assumption) ?_ | refine Br.kf (by assumption) ?_ | refine Br.mk (fun h => ?_) (fun h => ?_) | refine eq_some ?_)
  all_goals rfl
end Go.Proofs.YtnibcojenlijgaaGreatDoor.Ev
