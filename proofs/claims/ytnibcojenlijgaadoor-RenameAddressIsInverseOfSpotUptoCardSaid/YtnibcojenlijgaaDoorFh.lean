/- The laws RenameBiasDoesNotMatter and RenameAddressIsInverseOfSpot at the evaluator. No condition. -/
import Derived.Test.YtnibcojenlijgaaDoorFg
set_option linter.unusedVariables false
set_option linter.unusedSimpArgs false
namespace Go.Proofs.YtnibcojenlijgaaDoor.Ev
open Go Go.RowKit
set_option maxRecDepth 10000
theorem copies_bias {x y : Ldd} (hi : x.img = y.img) (ht : x.thread = y.thread) (hu : x.uses = y.uses) (hb : lddBad x = lddBad y) : copiesF [x] = copiesF [y] := by
  have h1 : imgs [x] = imgs [y] := by simp [imgs, hi]
  simp only [copiesF, h1, lddFrom, hb]
theorem bias_same (x : Ldd) (address pages : Int) (hx : x.bias ≤ 9223372036854775807) (h1 : (decide (pages ≥ 0) && decide (pages ≤ 100)) = true) (h2 : decide (x.bias < 0) = false) (h3 : decide (w64 (x.bias + w64 (256 * pages)) ≥ 1048576) = false)
    (h4 : (decide (address ≥ 0) && decide (address ≤ w64 (1048575 - w64 (256 * pages)))) = true) :
    spotRes [{ x with bias := w64 (x.bias + w64 (256 * pages)) }] (w64 (address + w64 (256 * pages))) = spotRes [x] address := by
  simp only [Bool.and_eq_true, decide_eq_true_eq] at h1 h4
  simp only [decide_eq_false_iff_not] at h2 h3
  rw [w64_in (n := 256 * pages) (by omega) (by omega)] at h3 h4 ⊢
  rw [w64_in (n := 1048575 - 256 * pages) (by omega) (by omega)] at h4
  by_cases hb : x.bias < 1048576
  · rw [w64_in (n := x.bias + 256 * pages) (by omega) (by omega)] at h3 ⊢
    rw [w64_in (n := address + 256 * pages) (by omega) (by omega)]
    have hbad : lddBad { x with bias := x.bias + 256 * pages } = lddBad x := by
      have e1 : (x.bias + 256 * pages).tmod 256 = x.bias.tmod 256 := by
        rw [Int.tmod_eq_emod_of_nonneg (by omega), Int.tmod_eq_emod_of_nonneg (by omega)]
        omega
      have e2 : decide (x.bias + 256 * pages < 0) = decide (x.bias < 0) := by
        rw [decide_eq_false (by omega), decide_eq_false (by omega)]
      have e3 : decide (x.bias + 256 * pages ≥ 1048576) = decide (x.bias ≥ 1048576) := by
        rw [decide_eq_false (by omega), decide_eq_false (by omega)]
      simp only [lddBad, e1, e2, e3]
    have hc : copiesF [{ x with bias := x.bias + 256 * pages }] = copiesF [x] := copies_bias rfl rfl rfl hbad
    have r1 : (decide (address + 256 * pages < 0) || decide (address + 256 * pages ≥ 1048576)) = false := by simp; omega
    have r2 : (decide (address < 0) || decide (address ≥ 1048576)) = false := by simp; omega
    have hp : address + 256 * pages - (x.bias + 256 * pages) = address - x.bias := by omega
    simp only [spotRes, hc, r1, r2, spotFrom, hp]
  · have hw : w64 (x.bias + 256 * pages) < 0 := by
      by_cases ho : x.bias + 256 * pages ≤ 9223372036854775807
      · rw [w64_in (by omega) ho] at h3; omega
      · simp only [w64, IntKind.wrap, IntKind.signed, IntKind.bits]
        simp
        omega
    have b1 : lddBad x = true := by simp only [lddBad, show decide (x.bias ≥ 1048576) = true by simp; omega, Bool.true_or, Bool.or_true]
    have b2 : lddBad { x with bias := w64 (x.bias + 256 * pages) } = true := by simp only [lddBad, show decide (w64 (x.bias + 256 * pages) < 0) = true by simpa using hw, Bool.true_or, Bool.or_true]
    have hc : copiesF [{ x with bias := w64 (x.bias + 256 * pages) }] = copiesF [x] := copies_bias rfl rfl rfl (by rw [b1, b2])
    have hn : (copiesF [x]).isOk = false := by
      cases hs : (scopeF (imgs [x])).isOk with
      | false => simp only [copiesF, hs]; exact hs
      | true => simp only [copiesF, hs, lddFrom, b1]; rfl
    simp only [spotRes, hc, hn]
    rfl
theorem bias_rt (x : Ldd) (ok : x.img.ok) (hx : x.bias ≤ 9223372036854775807) (address pages : Int) : Rt T 3 [.agg x.enc, .int .i64 address, .int .i64 pages] (.bool true) := by
  have o1 : LdsOK [x] := ⟨by simp, fun y hy => by simp at hy; subst hy; exact ok⟩
  have o2 : LdsOK [{ x with bias := w64 (x.bias + w64 (256 * pages)) }] := ⟨by simp, fun y hy => by simp at hy; subst hy; exact ok⟩
  have s1 := Spot_rt [x] o1 address
  have s2 := Spot_rt [{ x with bias := w64 (x.bias + w64 (256 * pages)) }] o2 (w64 (address + w64 (256 * pages)))
  have hs := fun h1 h2 h3 h4 => by
    rw [bias_same x address pages hx h1 h2 h3 h4] at s2
    exact s2
  clear s2 o1 o2
  generalize spotRes [x] address = r at *
  obtain ⟨o, f⟩ := r
  refine Rt.wp rfl rfl ?_
  repeat' ((conv => whnf); first | refine Br.T ?_ | refine Br.F ?_ | refine And.intro rfl ?_ | refine eq_bool ?_ | refine eq_int ?_ | refine CallP.mk' (example_rt) ?_ | refine CallP.mk' (In5_rt _ _ _) ?_ | refine CallP.mk' (s1) ?_ | refine CallP.mk' (hs (by assumption) (by assumption) (by assumption) (by assumption)) ?_ | refine Br.N ?_ | refine Br.kt (by assumption) ?_ | refine Br.kf (by assumption) ?_ | refine Br.mk (fun h => ?_) (fun h => ?_) | refine eq_some ?_)
  all_goals first
    | rfl
    | (simp at *; done)
end Go.Proofs.YtnibcojenlijgaaDoor.Ev
