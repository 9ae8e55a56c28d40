/- The reference's check of loaded images answers as the program's. No condition. -/
import Derived.Test.YtnibcojenlijgaaGreatDoorRe
import Derived.Test.YtnibcojenlijgaaGreatDoorFf2
set_option linter.unusedVariables false
set_option linter.unusedSimpArgs false
namespace Go.Proofs.YtnibcojenlijgaaGreatDoor.Ev
open Go Go.RowKit
set_option maxRecDepth 10000
theorem NamedR_rt (l : List Img) (s : ByteArray) (hl : l.length ≤ maxLen) : Rt T 32 [.rs (l.map Img.enc), .str s] (.int .i64 (namedI l s)) := by
  refine Rt.wp rfl rfl ?_
  refine LoopP.by (α := Nat) (fun k => l.length - k) (fun k => k ≤ l.length ∧ namedI l s = idxFrom (fun x : Img => x.name.toList == s.toList) (l.drop k) k) (fun k => [.int .i64 k]) (fun k => []) 0 ⟨Nat.zero_le _, rfl⟩ rfl (fun k hk => ?_)
  obtain ⟨h1, h2⟩ := hk
  refine Br.mk (fun h => ?_) (fun h => ?_)
  · have hlt : k < l.length := by simp at h; omega
    rw [idxFrom_drop hlt] at h2
    refine SomeP.mk' (idx_map hlt fun _ => rfl) ?_
    refine Br.mk (fun h => ?_) (fun h => ?_)
    · exact eq_int (by rw [h2, h]; rfl)
    · refine ⟨k + 1, by omega, ⟨by omega, by rw [h2, h]; rfl⟩, ?_⟩
      rw [← wrap_nat (show k < 9223372036854775807 by unfold maxLen at hl; omega)]; rfl
  · exact eq_int (by
      have : l.length ≤ k := by simp at h; omega
      rw [h2, List.drop_of_length_le this]; rfl)
def imgV3 : List Img → AV
  | [] => .nils
  | x :: l => .sl 3 0 (x :: l).length none 19
def imgB3 : List Img → List (Nat × Blk)
  | [] => []
  | x :: l => [(3, ⟨19, (x :: l).map Img.enc⟩)]
theorem ImagesOf_rt (l : List Ldd) (hl : l.length ≤ 1048576) : Rt T 17 [.rs (l.map Ldd.enc)] (imgsAV (imgs l)) := by
  refine Rt.wp rfl rfl ?_
  refine LoopP.by (α := Nat) (fun k => l.length - k) (fun k => k ≤ l.length) (fun k => [imgV3 ((imgs l).take k), .int .i64 k]) (fun k => imgB3 ((imgs l).take k)) 0 (Nat.zero_le _) rfl (fun k hk => ?_)
  refine Br.mk (fun h => ?_) (fun h => ?_)
  · have hlt : k < l.length := by simp at h; omega
    have hlt' : k < (imgs l).length := by simp [imgs]; exact hlt
    have hx : (imgs l)[k] = l[k].img := by simp [imgs]
    have htk : (imgs l).take (k + 1) = (imgs l).take k ++ [l[k].img] := by rw [List.take_succ_eq_append_getElem hlt', hx]
    have hlen : ((imgs l).take k).length = k := by rw [List.length_take]; omega
    have hw := wrap_nat (show k < 9223372036854775807 by omega)
    have hgoal : ∀ v b, v = imgV3 ((imgs l).take k ++ [l[k].img]) → b = imgB3 ((imgs l).take k ++ [l[k].img]) → ∃ y, l.length - y < l.length - k ∧ y ≤ l.length ∧ ([v, AV.int .i64 (IntKind.wrap .i64 (k + 1))], b) = ([imgV3 ((imgs l).take y), .int .i64 y], imgB3 ((imgs l).take y)) := fun v b hv hb =>
      ⟨k + 1, by omega, by omega, by rw [htk, hv, hb, hw]⟩
    generalize (imgs l).take k = pre at *
    cases pre with
    | nil =>
      (conv => whnf)
      refine SomeP.mk' (idx_map hlt fun _ => rfl) ?_
      (conv => whnf)
      refine SomeP.mk' (append_nils (by decide) (by decide) (by decide) rfl) ?_
      exact hgoal _ _ rfl rfl
    | cons y ys =>
      have hes : ((y :: ys).map Img.enc).length = (y :: ys).length := List.length_map _
      have hfr : refFreeLL ((y :: ys).map Img.enc ++ [l[k].img.enc]) = true := by
        have := refFree_imgs ((y :: ys) ++ [l[k].img])
        simpa using this
      (conv => whnf)
      refine SomeP.mk' (idx_map hlt fun _ => rfl) ?_
      (conv => whnf)
      rw [← hes]
      refine SomeP.mk' (append_sl (es := (y :: ys).map Img.enc) rfl (by rw [hes, hlen]; omega) (by decide) (by decide) rfl (fun x hx => by obtain ⟨z, _, rfl⟩ := List.mem_map.1 hx; rfl)) ?_
      refine hgoal _ _ (by simp [imgV3]) ?_
      refine Eq.trans (show _ = [(3, purgeB 3 ⟨19, (y :: ys).map Img.enc ++ [l[k].img.enc]⟩)] from rfl) ?_
      rw [purgeB_free hfr]
      simp [imgB3]
  · have hge : l.length ≤ k := by simp at h; omega
    have htk : (imgs l).take k = imgs l := List.take_of_length_le (by simp [imgs]; exact hge)
    rw [htk]
    generalize imgs l = pre at *
    cases pre with
    | nil =>
      repeat' ((conv => whnf); first | refine Br.T ?_ | refine Br.F ?_ | refine And.intro rfl ?_ | refine eq_bool ?_ | refine eq_int ?_ | refine Br.N ?_ | refine Br.kt (by assumption) ?_ | refine Br.kf (by assumption) ?_ | refine Br.mk (fun h => ?_) (fun h => ?_) | refine eq_some ?_)
      all_goals rfl
    | cons y ys =>
      refine Eq.trans (show _ = frz ⟨[(3, ⟨19, (y :: ys).map Img.enc⟩)], 0⟩ 6 (.sl 3 0 (y :: ys).length none 19) from rfl) ?_
      rw [show (y :: ys).length = ((y :: ys).map Img.enc).length from (List.length_map _).symm]
      rw [frz_rs (B := ⟨19, (y :: ys).map Img.enc⟩) rfl rfl (refFree_imgs _)]
      rfl
theorem good_code {f : Flt} (hg : f.Good) : (f.code == 0) = f.isOk := by
  cases h : f.isOk with
  | true => have := isOk_eq h; rw [this]; rfl
  | false =>
    cases hc : (f.code == 0) with
    | false => rfl
    | true => have := hg (by simpa using hc); rw [h] at this; cases this
theorem ImagesFault_rt (l : List Img) (hl : l.length ≤ maxLen) (ok : ∀ x ∈ l, x.ok) : Rt T 18 [.rs (l.map Img.enc)] (scopeF l).enc := by
  have e0 : (!inR (l.length : Int) 1 5) = (((l.length : Int) == 0) || decide ((l.length : Int) > 5)) := by
    rw [not_inR]
    congr 1
    rw [Bool.eq_iff_iff]
    simp only [decide_eq_true_eq, beq_iff_eq]
    omega
  have e1 : (inR ((l.map Img.enc).length : Int) 1 5) = inR (l.length : Int) 1 5 := by rw [List.length_map]
  refine Rt.wp rfl rfl ?_
  refine CallP.mk' (In6_rt _ _ _) ?_
  refine Br.N ?_
  refine Br.mk (fun h => ?_) (fun h => ?_)
  · rw [e1] at h
    have h0 : scopeF l = scFrom l l 0 := by
      have : (((l.length : Int) == 0) || decide ((l.length : Int) > 5)) = false := by rw [← e0, h]; rfl
      simp only [scopeF, this]; rfl
    refine LoopP.by (α := Nat) (fun k => l.length - k) (fun k => k ≤ l.length ∧ scopeF l = scFrom l (l.drop k) k) (fun k => [.int .i64 k]) (fun k => fblk) 0 ⟨Nat.zero_le _, h0⟩ rfl (fun k hk => ?_)
    clear h0 e0 e1 h
    obtain ⟨h1, h2⟩ := hk
    refine Br.mk (fun h => ?_) (fun h => ?_)
    · have hlt : k < l.length := by simp at h; omega
      have hx := ok _ (List.getElem_mem hlt)
      rw [List.drop_eq_getElem_cons hlt] at h2
      have hI := idx_map (enc := Img.enc) (sz := 19) hlt fun _ => rfl
      have hT := TypesFault_rt l[k].types hx.types hx.typeN
      have hF := ImageFault_rt l[k] hx
      have hw := wrap_nat (show k < 9223372036854775807 by unfold maxLen at hl; omega)
      have gk := good_code (valid_good l[k])
      refine And.intro rfl ?_
      refine SomeP.mk' hI ?_
      refine SomeP.mk' hI ?_
      refine CallP.mk' hT ?_
      refine CallP.mk' hF ?_
      refine Br.N ?_
      refine Br.mk (fun h' => ?_) (fun h' => ?_)
      · rw [gk] at h'
        refine And.intro rfl ?_
        refine SomeP.mk' (slice_take (Nat.le_of_lt hlt) fun _ => rfl) ?_
        refine SomeP.mk' hI ?_
        refine CallP.mk' (NamedR_rt (l.take k) l[k].name (by rw [List.length_take]; omega)) ?_
        refine Br.mk (fun h'' => ?_) (fun h'' => ?_)
        · refine CallP.mk' (At6_rt _ _) ?_
          exact eq_some (by rw [h2]; simp only [scFrom, h', h'']; rfl)
        · refine ⟨k + 1, by omega, ⟨by omega, by rw [h2]; simp only [scFrom, h', h'']; rfl⟩, ?_⟩
          rw [← hw]; rfl
      · rw [gk] at h'
        refine CallP.mk' (At6_rt _ _) ?_
        exact eq_some (by rw [h2]; simp only [scFrom, h']; rfl)
    · have hge : l.length ≤ k := by simp at h; omega
      exact eq_some (by rw [h2, List.drop_of_length_le hge]; rfl)
  · rw [e1] at h
    have h0 : scopeF l = ⟨2, -1⟩ := by
      have : (((l.length : Int) == 0) || decide ((l.length : Int) > 5)) = true := by rw [← e0, h]; rfl
      simp only [scopeF, this]; rfl
    rw [h0]
    repeat' ((conv => whnf); first | refine Br.T ?_ | refine Br.F ?_ | refine And.intro rfl ?_ | refine eq_bool ?_ | refine eq_int ?_ | refine CallP.mk' (At6_rt _ _) ?_ | refine Br.N ?_ | refine Br.kt (by assumption) ?_ | refine Br.kf (by assumption) ?_ | refine Br.mk (fun h => ?_) (fun h => ?_) | refine eq_some ?_)
    all_goals rfl
theorem ImagesFault_nil_rt : Rt T 18 [.nils] (scopeF []).enc := by
  refine Rt.wp rfl rfl ?_
  repeat' ((conv => whnf); first | refine Br.T ?_ | refine Br.F ?_ | refine And.intro rfl ?_ | refine eq_bool ?_ | refine eq_int ?_ | refine CallP.mk' (In6_rt _ _ _) ?_ | refine CallP.mk' (At6_rt _ _) ?_ | refine Br.N ?_ | refine Br.kt (by assumption) ?_ | refine Br.kf (by assumption) ?_ | refine Br.mk (fun h => ?_) (fun h => ?_) | refine eq_some ?_)
  all_goals first
    | rfl
    | (exfalso; simp_all [inR]; done)
theorem missing_any {l : List Img} {ns : List ByteArray} {j : Nat} (hj : j < ns.length) : (ns.drop j).any (fun s => decide (namedI l s < 0)) = (decide (namedI l ns[j] < 0) || (ns.drop (j + 1)).any fun s => decide (namedI l s < 0)) := any_drop hj
def missF (o : Option Nat) : Flt := match o with
  | some k => ⟨6, k⟩
  | none => .ok
theorem NeedsFault_rt (l : List Img) (hl : l.length ≤ maxLen) (hn : ∀ x ∈ l, x.needs.length ≤ maxLen) : Rt T 21 [.rs (l.map Img.enc)] (missF (missing l l 0)).enc := by
  refine Rt.wp rfl rfl ?_
  refine LoopP.by (α := Nat) (fun k => l.length - k) (fun k => k ≤ l.length ∧ missing l l 0 = missing l (l.drop k) k) (fun k => [.int .i64 k]) (fun k => fblk) 0 ⟨Nat.zero_le _, rfl⟩ rfl (fun k hk => ?_)
  obtain ⟨h1, h2⟩ := hk
  refine Br.mk (fun h => ?_) (fun h => ?_)
  · have hlt : k < l.length := by simp at h; omega
    rw [missing_drop hlt] at h2
    have hI := idx_map (enc := Img.enc) (sz := 19) hlt fun _ => rfl
    have hx := hn _ (List.getElem_mem hlt)
    have hw := wrap_nat (show k < 9223372036854775807 by unfold maxLen at hl; omega)
    refine LoopP.by (α := Nat) (fun j => l[k].needs.length - j) (fun j => j ≤ l[k].needs.length ∧ l[k].needs.any (fun s => decide (namedI l s < 0)) = (l[k].needs.drop j).any fun s => decide (namedI l s < 0)) (fun j => [.int .i64 j]) (fun j => fblk) 0 ⟨Nat.zero_le _, rfl⟩ rfl (fun j hj => ?_)
    obtain ⟨j1, j2⟩ := hj
    (conv => whnf)
    refine SomeP.mk' hI ?_
    refine Br.mk (fun h' => ?_) (fun h' => ?_)
    · have hjl : j < l[k].needs.length := by simp at h'; omega
      rw [missing_any hjl] at j2
      (conv => whnf)
      refine SomeP.mk' hI ?_
      (conv => whnf)
      refine SomeP.mk' (idx_map (enc := fun s => [AV.str s]) hjl fun _ => rfl) ?_
      refine CallP.mk' (NamedR_rt l l[k].needs[j] hl) ?_
      refine Br.mk (fun hc => ?_) (fun hc => ?_)
      · rw [hc, Bool.true_or] at j2
        have hr : missing l l 0 = some k := by rw [h2, j2]; rfl
        rw [hr]
        refine CallP.mk' (At6_rt _ _) ?_
        exact eq_some rfl
      · rw [hc, Bool.false_or] at j2
        exact ⟨j + 1, by omega, ⟨by omega, j2⟩, by rw [← wrap_nat (show j < 9223372036854775807 by unfold maxLen at hx; omega)]; rfl⟩
    · have hjl : l[k].needs.length ≤ j := by simp at h'; omega
      have hj0 : l[k].needs.any (fun s => decide (namedI l s < 0)) = false := by rw [j2, List.drop_of_length_le hjl]; rfl
      exact ⟨k + 1, by omega, ⟨by omega, by rw [h2, hj0]; rfl⟩, by rw [← hw]; rfl⟩
  · have hge : l.length ≤ k := by simp at h; omega
    have hr : missing l l 0 = none := by rw [h2, List.drop_of_length_le hge]; rfl
    rw [hr]
    repeat' ((conv => whnf); first | refine Br.T ?_ | refine Br.F ?_ | refine And.intro rfl ?_ | refine eq_bool ?_ | refine eq_int ?_ | refine Br.N ?_ | refine Br.kt (by assumption) ?_ | refine Br.kf (by assumption) ?_ | refine Br.mk (fun h => ?_) (fun h => ?_) | refine eq_some ?_)
    all_goals rfl
def lddR (x : Ldd) : Bool := !inR x.bias 0 1048575 || ((x.bias.tmod 256 != 0) || (!inR x.thread 0 1024 || ((x.thread.tmod 16 != 0) || !inR x.uses 0 1000000)))
theorem lddR_eq (x : Ldd) : lddR x = lddBad x := by
  simp only [lddR, lddBad, not_inR]
  have e : decide (x.bias > 1048575) = decide (x.bias ≥ 1048576) := by
    rw [Bool.eq_iff_iff]
    simp only [decide_eq_true_eq]
    omega
  rw [e]
  cases decide (x.bias < 0) <;> cases decide (x.bias ≥ 1048576) <;> cases (x.bias.tmod 256 != 0) <;> cases decide (x.thread < 0) <;> cases decide (x.thread > 1024) <;> cases (x.thread.tmod 16 != 0) <;> rfl
end Go.Proofs.YtnibcojenlijgaaGreatDoor.Ev
