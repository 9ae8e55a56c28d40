/- The checks of images at the evaluator. No condition. -/
import Derived.Test.YtnibcojenlijgaaGreatDoorFc
set_option linter.unusedVariables false
set_option linter.unusedSimpArgs false
namespace Go.Proofs.YtnibcojenlijgaaGreatDoor.Ev
open Go Go.RowKit
set_option maxRecDepth 10000
theorem each1_rt (x : Img) (f : FuncId) (c : Nat → Int) (n : Nat) (most list : Int) (hn : n ≤ maxLen) (hcall : ∀ k, k < n → Rt T f [.int .i64 k, .rp x.enc 0] (.int .i64 (c k))) :
    Rt T 54 [.int .i64 n, .int .i64 most, .int .i64 list, .fn f [] [.rp x.enc 0]] (eachF n most list c).enc := by
  refine Rt.wp rfl rfl ?_
  refine Br.mk (fun h => ?_) (fun h => ?_)
  · exact eq_some (by simp only [eachF, h]; rfl)
  · have h0 : eachF n most list c = fltE (fun k => w64 (w64 (1000 * list) + k)) (firstE c (n - 0) 0) := by simp only [eachF, h]; rfl
    refine LoopP.by (α := Nat) (fun k => n - k) (fun k => k ≤ n ∧ eachF n most list c = fltE (fun k => w64 (w64 (1000 * list) + k)) (firstE c (n - k) k)) (fun k => [.int .i64 k]) (fun k => fblk) 0 ⟨Nat.zero_le _, h0⟩ rfl (fun k hk => ?_)
    obtain ⟨h1, h2⟩ := hk
    refine Br.mk (fun h => ?_) (fun h => ?_)
    · have hlt : k < n := by simp at h; omega
      rw [firstE_step hlt] at h2
      refine CallP.mk' (hcall k hlt) ?_
      refine Br.mk (fun h => ?_) (fun h => ?_)
      · exact eq_some (by rw [h2, h]; rfl)
      · refine ⟨k + 1, by omega, ⟨by omega, by rw [h2, h]; rfl⟩, ?_⟩
        rw [← wrap_nat (show k < 9223372036854775807 by unfold maxLen at hn; omega)]; rfl
    · have hge : n ≤ k := by simp at h; omega
      exact eq_some (by rw [h2, show n - k = 0 by omega]; rfl)
theorem each2_rt (x : Img) (l : List Int) (f : FuncId) (c : Nat → Int) (n : Nat) (most list : Int) (hn : n ≤ maxLen) (hcall : ∀ k, k < n → Rt T f [.int .i64 k, .rp x.enc 0, .rp [.rs (l.map fun n => [.int .i64 n])] 0] (.int .i64 (c k))) :
    Rt T 54 [.int .i64 n, .int .i64 most, .int .i64 list, .fn f [] [.rp x.enc 0, .rp [.rs (l.map fun n => [.int .i64 n])] 0]] (eachF n most list c).enc := by
  refine Rt.wp rfl rfl ?_
  refine Br.mk (fun h => ?_) (fun h => ?_)
  · exact eq_some (by simp only [eachF, h]; rfl)
  · have h0 : eachF n most list c = fltE (fun k => w64 (w64 (1000 * list) + k)) (firstE c (n - 0) 0) := by simp only [eachF, h]; rfl
    refine LoopP.by (α := Nat) (fun k => n - k) (fun k => k ≤ n ∧ eachF n most list c = fltE (fun k => w64 (w64 (1000 * list) + k)) (firstE c (n - k) k)) (fun k => [.int .i64 k]) (fun k => fblk) 0 ⟨Nat.zero_le _, h0⟩ rfl (fun k hk => ?_)
    obtain ⟨h1, h2⟩ := hk
    refine Br.mk (fun h => ?_) (fun h => ?_)
    · have hlt : k < n := by simp at h; omega
      rw [firstE_step hlt] at h2
      refine CallP.mk' (hcall k hlt) ?_
      refine Br.mk (fun h => ?_) (fun h => ?_)
      · exact eq_some (by rw [h2, h]; rfl)
      · refine ⟨k + 1, by omega, ⟨by omega, by rw [h2, h]; rfl⟩, ?_⟩
        rw [← wrap_nat (show k < 9223372036854775807 by unfold maxLen at hn; omega)]; rfl
    · have hge : n ≤ k := by simp at h; omega
      exact eq_some (by rw [h2, show n - k = 0 by omega]; rfl)
theorem v2i_rt (x : Img) (ok : x.ok) (k : Nat) (hk : k < x.exps.length) : Rt T 55 [.int .i64 k, .rp x.enc 0] (.int .i64 (codeAt x.exps (fun k e p => expC x k e p) k)) := by
  rw [codeAt_eq hk]
  refine Rt.wp rfl rfl ?_
  repeat' ((conv => whnf); first | refine Br.T ?_ | refine Br.F ?_ | refine And.intro rfl ?_ | refine eq_bool ?_ | refine eq_int ?_ | refine CallP.mk' (expC_rt x ok k hk) ?_ | refine Br.N ?_ | refine Br.kt (by assumption) ?_ | refine Br.kf (by assumption) ?_ | refine Br.mk (fun h => ?_) (fun h => ?_) | refine eq_some ?_)
  all_goals rfl
theorem v2_rt (x : Img) (ok : x.ok) : Rt T 53 [.rp x.enc 0] (eachF x.exps.length 200 11 (codeAt x.exps fun k e p => expC x k e p)).enc := by
  have hl := ok.exps
  have e : x.exps.length = (x.exps.map Exp.enc).length := by simp
  rw [e] at hl ⊢
  refine Rt.wp rfl rfl ?_
  repeat' ((conv => whnf); first | refine Br.T ?_ | refine Br.F ?_ | refine And.intro rfl ?_ | refine eq_bool ?_ | refine eq_int ?_ | refine CallP.mk' (each1_rt x _ (codeAt x.exps fun k e p => expC x k e p) _ _ _ hl (fun k hk => v2i_rt x ok k (by simpa using hk))) ?_ | refine Br.N ?_ | refine Br.kt (by assumption) ?_ | refine Br.kf (by assumption) ?_ | refine Br.mk (fun h => ?_) (fun h => ?_) | refine eq_some ?_)
  all_goals rfl
theorem v3i_rt (x : Img) (ok : x.ok) (k : Nat) (hk : k < x.imps.length) : Rt T 58 [.int .i64 k, .rp x.enc 0] (.int .i64 (codeAt x.imps (fun k e p => impC x e) k)) := by
  rw [codeAt_eq hk]
  refine Rt.wp rfl rfl ?_
  repeat' ((conv => whnf); first | refine Br.T ?_ | refine Br.F ?_ | refine And.intro rfl ?_ | refine eq_bool ?_ | refine eq_int ?_ | refine SomeP.mk' (idx_map hk fun _ => rfl) ?_ | refine CallP.mk' (impC_rt x ok _ (List.getElem_mem hk)) ?_ | refine Br.N ?_ | refine Br.kt (by assumption) ?_ | refine Br.kf (by assumption) ?_ | refine Br.mk (fun h => ?_) (fun h => ?_) | refine eq_some ?_)
  all_goals rfl
theorem v3_rt (x : Img) (ok : x.ok) : Rt T 57 [.rp x.enc 0] (eachF x.imps.length 80 12 (codeAt x.imps fun k e p => impC x e)).enc := by
  have hl := ok.imps
  have e : x.imps.length = (x.imps.map Imp.enc).length := by simp
  rw [e] at hl ⊢
  refine Rt.wp rfl rfl ?_
  repeat' ((conv => whnf); first | refine Br.T ?_ | refine Br.F ?_ | refine And.intro rfl ?_ | refine eq_bool ?_ | refine eq_int ?_ | refine CallP.mk' (each1_rt x _ (codeAt x.imps fun k e p => impC x e) _ _ _ hl (fun k hk => v3i_rt x ok k (by simpa using hk))) ?_ | refine Br.N ?_ | refine Br.kt (by assumption) ?_ | refine Br.kf (by assumption) ?_ | refine Br.mk (fun h => ?_) (fun h => ?_) | refine eq_some ?_)
  all_goals rfl
theorem v4i_rt (x : Img) (ok : x.ok) (k : Nat) (hk : k < x.fixs.length) : Rt T 61 [.int .i64 k, .rp x.enc 0] (.int .i64 (codeAt x.fixs (fun k e p => fixC x k e p) k)) := by
  rw [codeAt_eq hk]
  refine Rt.wp rfl rfl ?_
  repeat' ((conv => whnf); first | refine Br.T ?_ | refine Br.F ?_ | refine And.intro rfl ?_ | refine eq_bool ?_ | refine eq_int ?_ | refine CallP.mk' (fixC_rt x ok k hk) ?_ | refine Br.N ?_ | refine Br.kt (by assumption) ?_ | refine Br.kf (by assumption) ?_ | refine Br.mk (fun h => ?_) (fun h => ?_) | refine eq_some ?_)
  all_goals rfl
theorem v4_rt (x : Img) (ok : x.ok) : Rt T 60 [.rp x.enc 0] (eachF x.fixs.length 600 13 (codeAt x.fixs fun k e p => fixC x k e p)).enc := by
  have hl := ok.fixs
  have e : x.fixs.length = (x.fixs.map Fix.enc).length := by simp
  rw [e] at hl ⊢
  refine Rt.wp rfl rfl ?_
  repeat' ((conv => whnf); first | refine Br.T ?_ | refine Br.F ?_ | refine And.intro rfl ?_ | refine eq_bool ?_ | refine eq_int ?_ | refine CallP.mk' (each1_rt x _ (codeAt x.fixs fun k e p => fixC x k e p) _ _ _ hl (fun k hk => v4i_rt x ok k (by simpa using hk))) ?_ | refine Br.N ?_ | refine Br.kt (by assumption) ?_ | refine Br.kf (by assumption) ?_ | refine Br.mk (fun h => ?_) (fun h => ?_) | refine eq_some ?_)
  all_goals rfl
theorem v7i_rt (x : Img) (ok : x.ok) (k : Nat) (hk : k < x.needs.length) : Rt T 66 [.int .i64 k, .rp x.enc 0] (.int .i64 (codeAt x.needs (fun k e p => nameC e) k)) := by
  rw [codeAt_eq hk]
  refine Rt.wp rfl rfl ?_
  repeat' ((conv => whnf); first | refine Br.T ?_ | refine Br.F ?_ | refine And.intro rfl ?_ | refine eq_bool ?_ | refine eq_int ?_ | refine SomeP.mk' (idx_map (enc := fun s => [AV.str s]) hk fun _ => rfl) ?_ | refine CallP.mk' (isName_rt _ (ok.needN _ (List.getElem_mem hk))) ?_ | refine CallP.mk' (when_rt _ _) ?_ | refine Br.N ?_ | refine Br.kt (by assumption) ?_ | refine Br.kf (by assumption) ?_ | refine Br.mk (fun h => ?_) (fun h => ?_) | refine eq_some ?_)
  all_goals rfl
theorem v7_rt (x : Img) (ok : x.ok) : Rt T 65 [.rp x.enc 0] (eachF x.needs.length 5 16 (codeAt x.needs fun k e p => nameC e)).enc := by
  have hl := ok.needs
  have e : x.needs.length = (x.needs.map (fun s => [AV.str s])).length := by simp
  rw [e] at hl ⊢
  refine Rt.wp rfl rfl ?_
  repeat' ((conv => whnf); first | refine Br.T ?_ | refine Br.F ?_ | refine And.intro rfl ?_ | refine eq_bool ?_ | refine eq_int ?_ | refine CallP.mk' (each1_rt x _ (codeAt x.needs fun k e p => nameC e) _ _ _ hl (fun k hk => v7i_rt x ok k (by simpa using hk))) ?_ | refine Br.N ?_ | refine Br.kt (by assumption) ?_ | refine Br.kf (by assumption) ?_ | refine Br.mk (fun h => ?_) (fun h => ?_) | refine eq_some ?_)
  all_goals rfl
theorem v8i_rt (x : Img) (ok : x.ok) (k : Nat) (hk : k < x.files.length) : Rt T 69 [.int .i64 k, .rp x.enc 0] (.int .i64 (codeAt x.files (fun k e p => nameC e) k)) := by
  rw [codeAt_eq hk]
  refine Rt.wp rfl rfl ?_
  repeat' ((conv => whnf); first | refine Br.T ?_ | refine Br.F ?_ | refine And.intro rfl ?_ | refine eq_bool ?_ | refine eq_int ?_ | refine SomeP.mk' (idx_map (enc := fun s => [AV.str s]) hk fun _ => rfl) ?_ | refine CallP.mk' (isName_rt _ (ok.fileN _ (List.getElem_mem hk))) ?_ | refine CallP.mk' (when_rt _ _) ?_ | refine Br.N ?_ | refine Br.kt (by assumption) ?_ | refine Br.kf (by assumption) ?_ | refine Br.mk (fun h => ?_) (fun h => ?_) | refine eq_some ?_)
  all_goals rfl
theorem v8_rt (x : Img) (ok : x.ok) : Rt T 68 [.rp x.enc 0] (eachF x.files.length 64 17 (codeAt x.files fun k e p => nameC e)).enc := by
  have hl := ok.files
  have e : x.files.length = (x.files.map (fun s => [AV.str s])).length := by simp
  rw [e] at hl ⊢
  refine Rt.wp rfl rfl ?_
  repeat' ((conv => whnf); first | refine Br.T ?_ | refine Br.F ?_ | refine And.intro rfl ?_ | refine eq_bool ?_ | refine eq_int ?_ | refine CallP.mk' (each1_rt x _ (codeAt x.files fun k e p => nameC e) _ _ _ hl (fun k hk => v8i_rt x ok k (by simpa using hk))) ?_ | refine Br.N ?_ | refine Br.kt (by assumption) ?_ | refine Br.kf (by assumption) ?_ | refine Br.mk (fun h => ?_) (fun h => ?_) | refine eq_some ?_)
  all_goals rfl
theorem v9i_rt (x : Img) (ok : x.ok) (k : Nat) (hk : k < x.lines.length) : Rt T 71 [.int .i64 k, .rp x.enc 0] (.int .i64 (codeAt x.lines (fun k e p => linC x k e p) k)) := by
  rw [codeAt_eq hk]
  refine Rt.wp rfl rfl ?_
  repeat' ((conv => whnf); first | refine Br.T ?_ | refine Br.F ?_ | refine And.intro rfl ?_ | refine eq_bool ?_ | refine eq_int ?_ | refine CallP.mk' (linC_rt x ok k hk) ?_ | refine Br.N ?_ | refine Br.kt (by assumption) ?_ | refine Br.kf (by assumption) ?_ | refine Br.mk (fun h => ?_) (fun h => ?_) | refine eq_some ?_)
  all_goals rfl
theorem v9_rt (x : Img) (ok : x.ok) : Rt T 70 [.rp x.enc 0] (eachF x.lines.length 2000 18 (codeAt x.lines fun k e p => linC x k e p)).enc := by
  have hl := ok.lines
  have e : x.lines.length = (x.lines.map Lin.enc).length := by simp
  rw [e] at hl ⊢
  refine Rt.wp rfl rfl ?_
  repeat' ((conv => whnf); first | refine Br.T ?_ | refine Br.F ?_ | refine And.intro rfl ?_ | refine eq_bool ?_ | refine eq_int ?_ | refine CallP.mk' (each1_rt x _ (codeAt x.lines fun k e p => linC x k e p) _ _ _ hl (fun k hk => v9i_rt x ok k (by simpa using hk))) ?_ | refine Br.N ?_ | refine Br.kt (by assumption) ?_ | refine Br.kf (by assumption) ?_ | refine Br.mk (fun h => ?_) (fun h => ?_) | refine eq_some ?_)
  all_goals rfl
theorem v10i_rt (x : Img) (ok : x.ok) (k : Nat) (hk : k < x.unw.length) : Rt T 74 [.int .i64 k, .rp x.enc 0] (.int .i64 (codeAt x.unw (fun k e p => unwC k e p) k)) := by
  rw [codeAt_eq hk]
  refine Rt.wp rfl rfl ?_
  repeat' ((conv => whnf); first | refine Br.T ?_ | refine Br.F ?_ | refine And.intro rfl ?_ | refine eq_bool ?_ | refine eq_int ?_ | refine CallP.mk' (unwC_rt x ok k hk) ?_ | refine Br.N ?_ | refine Br.kt (by assumption) ?_ | refine Br.kf (by assumption) ?_ | refine Br.mk (fun h => ?_) (fun h => ?_) | refine eq_some ?_)
  all_goals rfl
theorem v10_rt (x : Img) (ok : x.ok) : Rt T 73 [.rp x.enc 0] (eachF x.unw.length 2000 19 (codeAt x.unw fun k e p => unwC k e p)).enc := by
  have hl := ok.unw
  have e : x.unw.length = (x.unw.map Unw.enc).length := by simp
  rw [e] at hl ⊢
  refine Rt.wp rfl rfl ?_
  repeat' ((conv => whnf); first | refine Br.T ?_ | refine Br.F ?_ | refine And.intro rfl ?_ | refine eq_bool ?_ | refine eq_int ?_ | refine CallP.mk' (each1_rt x _ (codeAt x.unw fun k e p => unwC k e p) _ _ _ hl (fun k hk => v10i_rt x ok k (by simpa using hk))) ?_ | refine Br.N ?_ | refine Br.kt (by assumption) ?_ | refine Br.kf (by assumption) ?_ | refine Br.mk (fun h => ?_) (fun h => ?_) | refine eq_some ?_)
  all_goals rfl
theorem v12i_rt (x : Img) (ok : x.ok) (k : Nat) (hk : k < x.vars.length) : Rt T 79 [.int .i64 k, .rp x.enc 0] (.int .i64 (codeAt x.vars (fun k e p => varC x k e p) k)) := by
  rw [codeAt_eq hk]
  refine Rt.wp rfl rfl ?_
  repeat' ((conv => whnf); first | refine Br.T ?_ | refine Br.F ?_ | refine And.intro rfl ?_ | refine eq_bool ?_ | refine eq_int ?_ | refine CallP.mk' (varC_rt x ok k hk) ?_ | refine Br.N ?_ | refine Br.kt (by assumption) ?_ | refine Br.kf (by assumption) ?_ | refine Br.mk (fun h => ?_) (fun h => ?_) | refine eq_some ?_)
  all_goals rfl
theorem v12_rt (x : Img) (ok : x.ok) : Rt T 78 [.rp x.enc 0] (eachF x.vars.length 500 21 (codeAt x.vars fun k e p => varC x k e p)).enc := by
  have hl := ok.vars
  have e : x.vars.length = (x.vars.map Vrb.enc).length := by simp
  rw [e] at hl ⊢
  refine Rt.wp rfl rfl ?_
  repeat' ((conv => whnf); first | refine Br.T ?_ | refine Br.F ?_ | refine And.intro rfl ?_ | refine eq_bool ?_ | refine eq_int ?_ | refine CallP.mk' (each1_rt x _ (codeAt x.vars fun k e p => varC x k e p) _ _ _ hl (fun k hk => v12i_rt x ok k (by simpa using hk))) ?_ | refine Br.N ?_ | refine Br.kt (by assumption) ?_ | refine Br.kf (by assumption) ?_ | refine Br.mk (fun h => ?_) (fun h => ?_) | refine eq_some ?_)
  all_goals rfl
theorem v13i_rt (x : Img) (ok : x.ok) (k : Nat) (hk : k < x.places.length) : Rt T 82 [.int .i64 k, .rp x.enc 0] (.int .i64 (codeAt x.places (fun k e p => plcC x k e p) k)) := by
  rw [codeAt_eq hk]
  refine Rt.wp rfl rfl ?_
  repeat' ((conv => whnf); first | refine Br.T ?_ | refine Br.F ?_ | refine And.intro rfl ?_ | refine eq_bool ?_ | refine eq_int ?_ | refine CallP.mk' (plcC_rt x ok k hk) ?_ | refine Br.N ?_ | refine Br.kt (by assumption) ?_ | refine Br.kf (by assumption) ?_ | refine Br.mk (fun h => ?_) (fun h => ?_) | refine eq_some ?_)
  all_goals rfl
theorem v13_rt (x : Img) (ok : x.ok) : Rt T 81 [.rp x.enc 0] (eachF x.places.length 200 22 (codeAt x.places fun k e p => plcC x k e p)).enc := by
  have hl := ok.places
  have e : x.places.length = (x.places.map Plc.enc).length := by simp
  rw [e] at hl ⊢
  refine Rt.wp rfl rfl ?_
  repeat' ((conv => whnf); first | refine Br.T ?_ | refine Br.F ?_ | refine And.intro rfl ?_ | refine eq_bool ?_ | refine eq_int ?_ | refine CallP.mk' (each1_rt x _ (codeAt x.places fun k e p => plcC x k e p) _ _ _ hl (fun k hk => v13i_rt x ok k (by simpa using hk))) ?_ | refine Br.N ?_ | refine Br.kt (by assumption) ?_ | refine Br.kf (by assumption) ?_ | refine Br.mk (fun h => ?_) (fun h => ?_) | refine eq_some ?_)
  all_goals rfl
theorem v1_rt (x : Img) (l : List Int) : Rt T 49 [.rs (l.map fun n => [.int .i64 n]), .rp x.enc 0] (.fn 50 [] [.rp x.enc 0, .rp [.rs (l.map fun n => [.int .i64 n])] 0]) := by
  refine Rt.wp rfl rfl ?_
  repeat' ((conv => whnf); first | refine Br.T ?_ | refine Br.F ?_ | refine And.intro rfl ?_ | refine eq_bool ?_ | refine eq_int ?_ | refine Br.N ?_ | refine Br.kt (by assumption) ?_ | refine Br.kf (by assumption) ?_ | refine Br.mk (fun h => ?_) (fun h => ?_) | refine eq_some ?_)
  all_goals rfl
theorem v1i_rt (x : Img) (ok : x.ok) (l : List Int) (k : Nat) (hk : k < l.length) : Rt T 50 [.int .i64 k, .rp x.enc 0, .rp [.rs (l.map fun n => [.int .i64 n])] 0] (.int .i64 (codeAt l (fun _ a _ => fnC x a) k)) := by
  rw [codeAt_eq hk]
  refine Rt.wp rfl rfl ?_
  repeat' ((conv => whnf); first | refine Br.T ?_ | refine Br.F ?_ | refine And.intro rfl ?_ | refine eq_bool ?_ | refine eq_int ?_ | refine SomeP.mk' (idx_map (enc := fun n => [AV.int .i64 n]) hk fun _ => rfl) ?_ | refine CallP.mk' (within_rt x ok.segs _ _ _) ?_ | refine CallP.mk' (when_rt _ _) ?_ | refine Br.N ?_ | refine Br.kt (by assumption) ?_ | refine Br.kf (by assumption) ?_ | refine Br.mk (fun h => ?_) (fun h => ?_) | refine eq_some ?_)
  all_goals rfl
theorem v5_rt (x : Img) (ok : x.ok) : Rt T 63 [.rp x.enc 0, .rp [.fn 49 [] [.rp x.enc 0]] 0] (eachF x.inits.length 60 14 (codeAt x.inits fun _ a _ => fnC x a)).enc := by
  have hl := ok.inits
  have e : x.inits.length = (x.inits.map (fun n => [AV.int .i64 n])).length := by simp
  rw [e] at hl ⊢
  refine Rt.wp rfl rfl ?_
  repeat' ((conv => whnf); first | refine Br.T ?_ | refine Br.F ?_ | refine And.intro rfl ?_ | refine eq_bool ?_ | refine eq_int ?_ | refine CallP.mk' (v1_rt x x.inits) ?_ | refine CallP.mk' (each2_rt x x.inits _ (codeAt x.inits fun _ a _ => fnC x a) _ _ _ hl (fun k hk => v1i_rt x ok x.inits k (by simpa using hk))) ?_ | refine Br.N ?_ | refine Br.kt (by assumption) ?_ | refine Br.kf (by assumption) ?_ | refine Br.mk (fun h => ?_) (fun h => ?_) | refine eq_some ?_)
  all_goals rfl
theorem v6_rt (x : Img) (ok : x.ok) : Rt T 64 [.rp x.enc 0, .rp [.fn 49 [] [.rp x.enc 0]] 0] (eachF x.finis.length 60 15 (codeAt x.finis fun _ a _ => fnC x a)).enc := by
  have hl := ok.finis
  have e : x.finis.length = (x.finis.map (fun n => [AV.int .i64 n])).length := by simp
  rw [e] at hl ⊢
  refine Rt.wp rfl rfl ?_
  repeat' ((conv => whnf); first | refine Br.T ?_ | refine Br.F ?_ | refine And.intro rfl ?_ | refine eq_bool ?_ | refine eq_int ?_ | refine CallP.mk' (v1_rt x x.finis) ?_ | refine CallP.mk' (each2_rt x x.finis _ (codeAt x.finis fun _ a _ => fnC x a) _ _ _ hl (fun k hk => v1i_rt x ok x.finis k (by simpa using hk))) ?_ | refine Br.N ?_ | refine Br.kt (by assumption) ?_ | refine Br.kf (by assumption) ?_ | refine Br.mk (fun h => ?_) (fun h => ?_) | refine eq_some ?_)
  all_goals rfl
theorem v11_rt (x : Img) (ok : x.ok) : Rt T 76 [.rp x.enc 0] (recsF x).enc := by
  refine Rt.wp rfl rfl ?_
  repeat' ((conv => whnf); first | refine Br.T ?_ | refine Br.F ?_ | refine And.intro rfl ?_ | refine eq_bool ?_ | refine eq_int ?_ | refine CallP.mk' (recF_rt x.types ok.types ok.typeN) ?_ | refine Br.N ?_ | refine Br.kt (by assumption) ?_ | refine Br.kf (by assumption) ?_ | refine Br.mk (fun h => ?_) (fun h => ?_) | refine eq_some ?_)
  all_goals (have hh : ∀ f : Flt, f.isOk = ((f.code == 0) && (f.index == 0)) := fun _ => rfl)
  all_goals ((try simp only [List.length_map, Bool.and_true] at *); first | (simp only [bne, recsF, hh, Flt.ok, *, decide_true, decide_false, Bool.true_or, Bool.false_or, Bool.or_true, Bool.or_false, Bool.true_and, Bool.false_and, Bool.and_true, Bool.and_false, Bool.not_true, Bool.not_false, cond_true, cond_false] <;> rfl) | (exfalso; simp_all; done) | (simp only [bne, recsF, hh, Flt.ok]; simp_all only [decide_true, decide_false, Bool.true_or, Bool.false_or, Bool.or_true, Bool.or_false, Bool.true_and, Bool.false_and, Bool.and_true, Bool.and_false, Bool.not_true, Bool.not_false, cond_true, cond_false]; done))
abbrev vblk (x : Img) : List (Nat × Blk) :=
  [(24, ⟨1, [[.fn 53 [] [.ptr 0 0 0]], [.fn 57 [] [.ptr 0 0 0]], [.fn 60 [] [.ptr 0 0 0]], [.fn 63 [] [.ptr 0 0 0, .ptr 10 0 0]], [.fn 64 [] [.ptr 0 0 0, .ptr 10 0 0]],
      [.fn 65 [] [.ptr 0 0 0]], [.fn 68 [] [.ptr 0 0 0]], [.fn 70 [] [.ptr 0 0 0]], [.fn 73 [] [.ptr 0 0 0]], [.fn 76 [] [.ptr 0 0 0]], [.fn 78 [] [.ptr 0 0 0]], [.fn 81 [] [.ptr 0 0 0]]]⟩),
   (10, ⟨1, [[.fn 49 [] [.ptr 0 0 0]]]⟩), (4, ⟨2, [[.int .i64 (headF x).code, .int .i64 (headF x).index]]⟩), (1, ⟨2, [[.int .i64 0, .int .i64 0]]⟩), (0, ⟨19, [x.enc]⟩)]
set_option maxHeartbeats 4000000 in
theorem valid_rt (x : Img) (ok : x.ok) : Rt T 34 [.agg x.enc] (validF x).enc := by
  have hh : ∀ f : Flt, f.isOk = ((f.code == 0) && (f.index == 0)) := fun _ => rfl
  refine Rt.wp rfl rfl ?_
  refine CallP.mk' (head_rt x ok) ?_
  refine Br.N ?_
  refine Br.mk (fun h => ?_) (fun h => ?_)
  · have h0 : validF x = firstBad (checks x) := by simp only [Bool.and_true] at h; simp only [validF, hh, h]; rfl
    refine LoopP.by (α := Nat) (fun k => 12 - k) (fun k => k ≤ 12 ∧ validF x = firstBad ((checks x).drop k)) (fun k => [.int .i64 k]) (fun k => vblk x) 0 ⟨Nat.zero_le _, h0⟩ rfl (fun k hk => ?_)
    obtain ⟨h1, h2⟩ := hk
    have hk : k = 0 ∨ k = 1 ∨ k = 2 ∨ k = 3 ∨ k = 4 ∨ k = 5 ∨ k = 6 ∨ k = 7 ∨ k = 8 ∨ k = 9 ∨ k = 10 ∨ k = 11 ∨ k = 12 := by omega
    have nxt : ∀ f l, validF x = firstBad (f :: l) → f.isOk = true → validF x = firstBad l := fun f l h1 h2 => by rw [h1]; simp only [firstBad, h2]; rfl
    have bad : ∀ f l, validF x = firstBad (f :: l) → f.isOk = false → validF x = f := fun f l h1 h2 => by rw [h1]; simp only [firstBad, h2]; rfl
    rcases hk with rfl | rfl | rfl | rfl | rfl | rfl | rfl | rfl | rfl | rfl | rfl | rfl | rfl
    · refine Br.T ?_
      refine SomeP.mk' rfl ?_
      refine CallP.mk' (v2_rt x ok) ?_
      refine And.intro rfl ?_
      refine Br.N ?_
      refine Br.mk (fun h => ?_) (fun h => ?_)
      · simp only [Bool.and_true] at h
        exact ⟨1, by omega, ⟨by omega, nxt _ _ h2 h⟩, rfl⟩
      · simp only [Bool.and_true] at h
        exact eq_some (by rw [bad _ _ h2 h]; rfl)
    · refine Br.T ?_
      refine SomeP.mk' rfl ?_
      refine CallP.mk' (v3_rt x ok) ?_
      refine And.intro rfl ?_
      refine Br.N ?_
      refine Br.mk (fun h => ?_) (fun h => ?_)
      · simp only [Bool.and_true] at h
        exact ⟨2, by omega, ⟨by omega, nxt _ _ h2 h⟩, rfl⟩
      · simp only [Bool.and_true] at h
        exact eq_some (by rw [bad _ _ h2 h]; rfl)
    · refine Br.T ?_
      refine SomeP.mk' rfl ?_
      refine CallP.mk' (v4_rt x ok) ?_
      refine And.intro rfl ?_
      refine Br.N ?_
      refine Br.mk (fun h => ?_) (fun h => ?_)
      · simp only [Bool.and_true] at h
        exact ⟨3, by omega, ⟨by omega, nxt _ _ h2 h⟩, rfl⟩
      · simp only [Bool.and_true] at h
        exact eq_some (by rw [bad _ _ h2 h]; rfl)
    · refine Br.T ?_
      refine SomeP.mk' rfl ?_
      refine CallP.mk' (v5_rt x ok) ?_
      refine And.intro rfl ?_
      refine Br.N ?_
      refine Br.mk (fun h => ?_) (fun h => ?_)
      · simp only [Bool.and_true] at h
        exact ⟨4, by omega, ⟨by omega, nxt _ _ h2 h⟩, rfl⟩
      · simp only [Bool.and_true] at h
        exact eq_some (by rw [bad _ _ h2 h]; rfl)
    · refine Br.T ?_
      refine SomeP.mk' rfl ?_
      refine CallP.mk' (v6_rt x ok) ?_
      refine And.intro rfl ?_
      refine Br.N ?_
      refine Br.mk (fun h => ?_) (fun h => ?_)
      · simp only [Bool.and_true] at h
        exact ⟨5, by omega, ⟨by omega, nxt _ _ h2 h⟩, rfl⟩
      · simp only [Bool.and_true] at h
        exact eq_some (by rw [bad _ _ h2 h]; rfl)
    · refine Br.T ?_
      refine SomeP.mk' rfl ?_
      refine CallP.mk' (v7_rt x ok) ?_
      refine And.intro rfl ?_
      refine Br.N ?_
      refine Br.mk (fun h => ?_) (fun h => ?_)
      · simp only [Bool.and_true] at h
        exact ⟨6, by omega, ⟨by omega, nxt _ _ h2 h⟩, rfl⟩
      · simp only [Bool.and_true] at h
        exact eq_some (by rw [bad _ _ h2 h]; rfl)
    · refine Br.T ?_
      refine SomeP.mk' rfl ?_
      refine CallP.mk' (v8_rt x ok) ?_
      refine And.intro rfl ?_
      refine Br.N ?_
      refine Br.mk (fun h => ?_) (fun h => ?_)
      · simp only [Bool.and_true] at h
        exact ⟨7, by omega, ⟨by omega, nxt _ _ h2 h⟩, rfl⟩
      · simp only [Bool.and_true] at h
        exact eq_some (by rw [bad _ _ h2 h]; rfl)
    · refine Br.T ?_
      refine SomeP.mk' rfl ?_
      refine CallP.mk' (v9_rt x ok) ?_
      refine And.intro rfl ?_
      refine Br.N ?_
      refine Br.mk (fun h => ?_) (fun h => ?_)
      · simp only [Bool.and_true] at h
        exact ⟨8, by omega, ⟨by omega, nxt _ _ h2 h⟩, rfl⟩
      · simp only [Bool.and_true] at h
        exact eq_some (by rw [bad _ _ h2 h]; rfl)
    · refine Br.T ?_
      refine SomeP.mk' rfl ?_
      refine CallP.mk' (v10_rt x ok) ?_
      refine And.intro rfl ?_
      refine Br.N ?_
      refine Br.mk (fun h => ?_) (fun h => ?_)
      · simp only [Bool.and_true] at h
        exact ⟨9, by omega, ⟨by omega, nxt _ _ h2 h⟩, rfl⟩
      · simp only [Bool.and_true] at h
        exact eq_some (by rw [bad _ _ h2 h]; rfl)
    · refine Br.T ?_
      refine SomeP.mk' rfl ?_
      refine CallP.mk' (v11_rt x ok) ?_
      refine And.intro rfl ?_
      refine Br.N ?_
      refine Br.mk (fun h => ?_) (fun h => ?_)
      · simp only [Bool.and_true] at h
        exact ⟨10, by omega, ⟨by omega, nxt _ _ h2 h⟩, rfl⟩
      · simp only [Bool.and_true] at h
        exact eq_some (by rw [bad _ _ h2 h]; rfl)
    · refine Br.T ?_
      refine SomeP.mk' rfl ?_
      refine CallP.mk' (v12_rt x ok) ?_
      refine And.intro rfl ?_
      refine Br.N ?_
      refine Br.mk (fun h => ?_) (fun h => ?_)
      · simp only [Bool.and_true] at h
        exact ⟨11, by omega, ⟨by omega, nxt _ _ h2 h⟩, rfl⟩
      · simp only [Bool.and_true] at h
        exact eq_some (by rw [bad _ _ h2 h]; rfl)
    · refine Br.T ?_
      refine SomeP.mk' rfl ?_
      refine CallP.mk' (v13_rt x ok) ?_
      refine And.intro rfl ?_
      refine Br.N ?_
      refine Br.mk (fun h => ?_) (fun h => ?_)
      · simp only [Bool.and_true] at h
        exact ⟨12, by omega, ⟨by omega, nxt _ _ h2 h⟩, rfl⟩
      · simp only [Bool.and_true] at h
        exact eq_some (by rw [bad _ _ h2 h]; rfl)
    · refine Br.F ?_
      refine eq_some ?_
      rw [h2]; rfl
  · exact eq_some (by simp only [Bool.and_true] at h; simp only [validF, hh, h]; rfl)
end Go.Proofs.YtnibcojenlijgaaGreatDoor.Ev
