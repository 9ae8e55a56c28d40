/- The law RenameAddressIsInverseOfSpot at the evaluator. No condition. -/
import Derived.Test.YtnibcojenlijgaaDoorFh
set_option linter.unusedVariables false
set_option linter.unusedSimpArgs false
namespace Go.Proofs.YtnibcojenlijgaaDoor.Ev
open Go Go.RowKit
set_option maxRecDepth 10000
/-- What 'Find' returns for a valid image and an address in range. -/
def findAV (a : Int) : Option Plc → AV
  | none => .tup [.agg [.int .i64 0, .int .i64 0, .int .i64 0, .int .i64 0, .int .i64 0], .bool false, Flt.ok.enc]
  | some p => .tup [.agg [.int .i64 a, .int .i64 (p.size - (a - p.addr)), .int .i64 p.module, .int .i64 p.sect, .int .i64 (p.offset + (a - p.addr))], .bool true, Flt.ok.enc]
theorem Find_rt (x : Img) (ok : x.ok) (hv : (validF x).isOk = true) (a : Int) (h0 : 0 ≤ a) (h1 : a < 1048576) : Rt T 12 [.agg x.enc, .int .i64 a] (findAV a (placeAt x.places a)) := by
  have hat := at_rt x (valid_places hv) a (by omega) (by omega)
  have hva := valid_rt x ok
  have e1 : decide (a < 0) = false := by simp; omega
  have e2 : decide (a ≥ 1048576) = false := by simp; omega
  have e3 : ((validF x).code == 0 && ((validF x).index == 0 && true)) = true := by rw [← isOk_eta]; exact hv
  clear hv ok
  generalize placeAt x.places a = o at *
  cases o with
  | none =>
    refine Rt.wp rfl rfl ?_
    repeat' ((conv => whnf); first | refine Br.T ?_ | refine Br.F ?_ | refine And.intro rfl ?_ | refine eq_bool ?_ | refine eq_int ?_ | refine CallP.mk' (hva) ?_ | refine CallP.mk' (hat) ?_ | refine Br.N ?_ | refine Br.kt (by assumption) ?_ | refine Br.kf (by assumption) ?_ | refine Br.mk (fun h => ?_) (fun h => ?_) | refine eq_some ?_)
    all_goals rfl
  | some p =>
    refine Rt.wp rfl rfl ?_
    repeat' ((conv => whnf); first | refine Br.T ?_ | refine Br.F ?_ | refine And.intro rfl ?_ | refine eq_bool ?_ | refine eq_int ?_ | refine CallP.mk' (hva) ?_ | refine CallP.mk' (hat) ?_ | refine Br.N ?_ | refine Br.kt (by assumption) ?_ | refine Br.kf (by assumption) ?_ | refine Br.mk (fun h => ?_) (fun h => ?_) | refine eq_some ?_)
    all_goals rfl
theorem spotFrom_some {l : List Ldd} {a : Int} {s : Spt} : ∀ {r : List Ldd} {k : Nat}, spotFrom r k a = some s → ∃ i x p, r[i]? = some x ∧ s = ⟨((k + i : Nat) : Int), p.module, p.sect, p.offset + (a - x.bias - p.addr)⟩ ∧ placeAt x.img.places (a - x.bias) = some p := by
  intro r
  induction r with
  | nil => intro k h; cases h
  | cons y r ih =>
    intro k h
    simp only [spotFrom] at h
    cases hp : placeAt y.img.places (a - y.bias) with
    | some p =>
      rw [hp] at h
      cases h
      exact ⟨0, y, p, rfl, rfl, hp⟩
    | none =>
      rw [hp] at h
      obtain ⟨i, x, p, h1, h2, h3⟩ := ih h
      exact ⟨i + 1, x, p, h1, by rw [h2]; simp; omega, h3⟩
theorem spotRes_some {l : List Ldd} {a : Int} {s : Spt} (h : (spotRes l a).1 = some s) : (copiesF l).isOk = true ∧ 0 ≤ a ∧ a < 1048576 ∧ spotFrom l 0 a = some s ∧ (spotRes l a).2 = copiesF l := by
  simp only [spotRes] at h ⊢
  cases hc : (copiesF l).isOk with
  | false => rw [hc] at h; cases h
  | true =>
    rw [hc] at h
    simp only [Bool.not_true, cond_false] at h ⊢
    cases hr : (decide (a < 0) || decide (a ≥ 1048576)) with
    | true => rw [hr] at h; cases h
    | false =>
      rw [hr] at h
      simp only [Bool.or_eq_false_iff, decide_eq_false_iff_not] at hr
      exact ⟨by first | rfl | trivial, by omega, by omega, h, by first | rfl | trivial⟩
theorem placeAt_has {l : List Plc} {a : Int} {p : Plc} (h : placeAt l a = some p) : p ∈ l ∧ p.addr ≤ a ∧ a < p.addr + p.size := by
  have h1 := List.find?_some h
  have h2 := List.mem_of_find?_eq_some h
  simp only [Bool.and_eq_true, decide_eq_true_eq] at h1
  exact ⟨h2, h1.1, h1.2⟩
/-- The way back: what the law needs. -/
theorem back {l : List Ldd} {a : Int} {s : Spt} (h : (spotRes l a).1 = some s) : 0 ≤ s.unit ∧ s.unit < l.length ∧ lddAt l s.unit ∈ l ∧ (validF (lddAt l s.unit).img).isOk = true ∧ ∃ q : Plc, addrRes l s = (some (q.addr + (s.offset - q.offset) + (lddAt l s.unit).bias), .ok) ∧ q.module = s.module ∧ q.sect = s.sect ∧
    placeAt (lddAt l s.unit).img.places (q.addr + (s.offset - q.offset)) = some q ∧ 0 ≤ q.addr + (s.offset - q.offset) ∧ q.addr + (s.offset - q.offset) < 1048576 ∧ 0 ≤ (lddAt l s.unit).bias ∧ (lddAt l s.unit).bias < 1048576 := by
  obtain ⟨hc, h0, h1, hs, _⟩ := spotRes_some h
  have hv := copies_ok hc
  obtain ⟨i, x, p, hi, rfl, hp⟩ := spotFrom_some (l := l) hs
  have hil : i < l.length := (List.getElem?_eq_some_iff.1 hi).1
  have hat : lddAt l ((0 + i : Nat) : Int) = x := by simp only [lddAt]; rw [show (((0 + i : Nat) : Int)).toNat = i by simp, hi]
  have hx : x ∈ l := List.mem_of_getElem? hi
  have hsc : (scopeF (imgs l)).isOk = true := by
    simp only [copiesF] at hc
    cases hh : (scopeF (imgs l)).isOk with
    | false => rw [hh] at hc; simp [hh] at hc
    | true => rfl
  obtain ⟨pm, pa, pb⟩ := placeAt_has hp
  have pok := hv.places x hx
  obtain ⟨j, hj, rfl⟩ := List.getElem_of_mem pm
  obtain ⟨g1, g2, g3, g4, g5⟩ := pok.each j hj
  obtain ⟨b0, b1⟩ := hv.bias x hx
  simp only
  rw [hat]
  refine ⟨by omega, by omega, hx, scope_valid hsc x.img (List.mem_map_of_mem hx), ?_⟩
  -- the first place with this spot
  have hself : atSpot ⟨((0 + i : Nat) : Int), x.img.places[j].module, x.img.places[j].sect, x.img.places[j].offset + (a - x.bias - x.img.places[j].addr)⟩ x.img.places[j] = true := by
    simp only [atSpot, Bool.and_eq_true, beq_self_eq_true, true_and, decide_eq_true_eq]
    rw [w64_in (by omega) (by omega)]
    omega
  cases hf : x.img.places.find? (atSpot ⟨((0 + i : Nat) : Int), x.img.places[j].module, x.img.places[j].sect, x.img.places[j].offset + (a - x.bias - x.img.places[j].addr)⟩) with
  | none => rw [List.find?_eq_none] at hf; exact absurd hself (hf _ (List.getElem_mem hj))
  | some q =>
    have q1 := List.find?_some hf
    have q2 := List.mem_of_find?_eq_some hf
    obtain ⟨m, hm, rfl⟩ := List.getElem_of_mem q2
    obtain ⟨k1, k2, k3, k4, k5⟩ := pok.each m hm
    simp only [atSpot, Bool.and_eq_true, beq_iff_eq, decide_eq_true_eq] at q1
    obtain ⟨q3, q4, q5, q6⟩ := q1
    rw [w64_in (by omega) (by omega)] at q5 q6
    refine ⟨x.img.places[m], ?_, q3, q4, placeAt_some pok hm (by omega) (by omega), by omega, by omega, b0, b1⟩
    have u1 : (decide (((0 + i : Nat) : Int) < 0) || decide (((0 + i : Nat) : Int) ≥ (l.length : Int))) = false := by simp; omega
    simp only [addrRes, hc, u1, hat, hf, Option.map_some, Bool.not_true, cond_false, addrOf]
    rw [w64_in (n := x.img.places[j].offset + (a - x.bias - x.img.places[j].addr) - x.img.places[m].offset) (by omega) (by omega), w64_in (n := x.img.places[m].addr + (x.img.places[j].offset + (a - x.bias - x.img.places[j].addr) - x.img.places[m].offset)) (by omega) (by omega), w64_in (by omega) (by omega)]
theorem inverse_rt (l : List Ldd) (ok : LdsOK l) (a : Int) : Rt T 5 [.rs (l.map Ldd.enc), .int .i64 a] (.bool true) := by
  have hS := Spot_rt l ok a
  cases hs : (spotRes l a).1 with
  | none =>
    have hr : spotRes l a = (none, (spotRes l a).2) := by rw [← hs]
    rw [hr] at hS
    generalize (spotRes l a).2 = f at *
    clear hr hs ok
    refine Rt.wp rfl rfl ?_
    repeat' ((conv => whnf); first | refine Br.T ?_ | refine Br.F ?_ | refine And.intro rfl ?_ | refine eq_bool ?_ | refine eq_int ?_ | refine CallP.mk' (example_rt) ?_ | refine CallP.mk' (hS) ?_ | refine Br.N ?_ | refine Br.kt (by assumption) ?_ | refine Br.kf (by assumption) ?_ | refine Br.mk (fun h => ?_) (fun h => ?_) | refine eq_some ?_)
    all_goals rfl
  | some s =>
    obtain ⟨hc, _, _, _, h2⟩ := spotRes_some hs
    have hr : spotRes l a = (some s, .ok) := by
      refine Prod.ext hs ?_
      rw [h2]; exact isOk_eq hc
    obtain ⟨u0, u1, hmem, hval, q, ha, hm, hse, hpl, b0, b1, c0, c1⟩ := back hs
    have hA := Address_rt l ok s
    rw [hr] at hS
    rw [ha] at hA
    have hI := idx_ldd u0 u1
    have hF := Find_rt (lddAt l s.unit).img (ok.ok _ hmem) hval _ b0 b1
    rw [hpl] at hF
    clear hr h2 hc hs ha hmem hval ok hpl u0 u1
    generalize hx : lddAt l s.unit = x at *
    generalize hb : q.addr + (s.offset - q.offset) = b at *
    have hw : IntKind.wrap .i64 (b + x.bias - x.bias) = b := by rw [wrap_in (by omega) (by omega)]; omega
    rw [← hw] at hF
    have m1 : (q.module == s.module) = true := by simpa using hm
    have m2 : (q.sect == s.sect) = true := by simpa using hse
    have m3 : (q.offset + (IntKind.wrap .i64 (b + x.bias - x.bias) - q.addr) == s.offset) = true := by rw [hw]; simp; omega
    clear hw hb hm hse b0 b1 c0 c1
    refine Rt.wp rfl rfl ?_
    repeat' ((conv => whnf); first | refine Br.T ?_ | refine Br.F ?_ | refine And.intro rfl ?_ | refine eq_bool ?_ | refine eq_int ?_ | refine CallP.mk' (example_rt) ?_ | refine CallP.mk' (hS) ?_ | refine CallP.mk' (In5_rt _ _ _) ?_ | refine CallP.mk' (hA) ?_ | refine SomeP.mk' (hI) ?_ | refine CallP.mk' (hF) ?_ | refine Br.N ?_ | refine Br.kt (by assumption) ?_ | refine Br.kf (by assumption) ?_ | refine Br.mk (fun h => ?_) (fun h => ?_) | refine eq_some ?_)
    all_goals first
      | rfl
      | exact m3.symm
      | exact m3
end Go.Proofs.YtnibcojenlijgaaDoor.Ev
