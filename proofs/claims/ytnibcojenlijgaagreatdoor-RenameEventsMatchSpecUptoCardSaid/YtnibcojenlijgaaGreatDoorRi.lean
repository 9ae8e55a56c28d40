/- The law of spots and addresses. No condition. -/
import Derived.Test.YtnibcojenlijgaaGreatDoorRg
set_option linter.unusedVariables false
set_option linter.unusedSimpArgs false
namespace Go.Proofs.YtnibcojenlijgaaGreatDoor.Ev
open Go Go.RowKit
set_option maxRecDepth 10000
theorem copies_code (l : List Ldd) : ((copiesF l).code == 0) = (copiesF l).isOk := by
  cases h : (scopeF (imgs l)).isOk with
  | false =>
    have hc : copiesF l = scopeF (imgs l) := by simp only [copiesF, h]; rfl
    rw [hc]; exact scope_code _
  | true =>
    have hc : copiesF l = match lddFrom l 0 with
        | some k => ⟨3, k⟩
        | none => missF (missing (imgs l) (imgs l) 0) := by simp only [copiesF, h]; rfl
    rw [hc]
    cases lddFrom l 0 with
    | some k => rfl
    | none => cases missing (imgs l) (imgs l) 0 <;> rfl
theorem spotLaw_bad (l : List Ldd) (ok : LdsOK l) (a : Int) (s : Spt) (hok : (copiesF l).isOk = false) : Rt T 3 [.rs (l.map Ldd.enc), .int .i64 a, .agg s.enc] (.bool true) := by
  have hS := Spot_rt l ok a
  have hA := Address_rt l ok s
  have hL := LoadedFault_rt l ok
  have h1 : spotRes l a = (none, copiesF l) := by simp only [spotRes, hok]; rfl
  have h2 : addrRes l s = (none, copiesF l) := by simp only [addrRes, hok]; rfl
  have hc : ((copiesF l).code == 0) = false := by rw [copies_code]; exact hok
  rw [h1] at hS
  rw [h2] at hA
  clear h1 h2 hok ok
  generalize copiesF l = f at *
  refine Rt.wp rfl rfl ?_
  repeat' ((conv => whnf); first | refine Br.T ?_ | refine Br.F ?_ | refine And.intro rfl ?_ | refine eq_bool ?_ | refine eq_int ?_ | refine CallP.mk' (example_rt) ?_ | refine CallP.mk' (hS) ?_ | refine CallP.mk' (hA) ?_ | refine CallP.mk' (hL) ?_ | refine Br.N ?_ | refine Br.kt (by assumption) ?_ | refine Br.kf (by assumption) ?_ | refine Br.mk (fun h => ?_) (fun h => ?_) | refine eq_some ?_)
  all_goals first
    | rfl
    | (exfalso; simp_all; done)
theorem spotLaw_noUnit (l : List Ldd) (ok : LdsOK l) (a : Int) (s : Spt) (hok : (copiesF l).isOk = true) (hu : ¬ (0 ≤ s.unit ∧ s.unit < l.length)) : Rt T 3 [.rs (l.map Ldd.enc), .int .i64 a, .agg s.enc] (.bool true) := by
  have hS := Spot_rt l ok a
  have hA := Address_rt l ok s
  have hL := LoadedFault_rt l ok
  have hv := copies_ok hok
  have hlen := hv.len
  have u1 : (decide (s.unit < 0) || decide (s.unit ≥ (l.length : Int))) = true := by simp; omega
  have h2 : addrRes l s = (none, ⟨3, -9⟩) := by simp only [addrRes, hok, u1]; rfl
  have hw : IntKind.wrap .i64 (((l.map Ldd.enc).length : Int) - 1) = (l.length : Int) - 1 := by rw [List.length_map]; exact wrap_in (by omega) (by omega)
  have hF : Rt T 8 [.int .i64 s.unit, .int .i64 0, .int .i64 (IntKind.wrap .i64 (((l.map Ldd.enc).length : Int) - 1))] (.bool false) := by
    have e : (decide (s.unit ≥ 0) && decide (s.unit ≤ (l.length : Int) - 1)) = false := by simp; omega
    have := In5_rt s.unit 0 (IntKind.wrap .i64 (((l.map Ldd.enc).length : Int) - 1))
    rw [hw, e] at this
    rw [hw]; exact this
  have hk := isOk_eq hok
  rw [h2] at hA
  by_cases ha : 0 ≤ a ∧ a < 1048576
  · have h1 : spotRes l a = (spotFrom l 0 a, copiesF l) := by
      have x1 : decide (a < 0) = false := by simp; omega
      have x2 : decide (a ≥ 1048576) = false := by simp; omega
      simp only [spotRes, hok, x1, x2]; rfl
    have hI := In5_rt a 0 1048575
    have e : (decide (a ≥ 0) && decide (a ≤ 1048575)) = true := by simp; omega
    rw [e] at hI
    have hG := SpotOf_rt l hv a (by omega) (by omega)
    rw [h1, hk] at hS
    rw [hk] at hL
    clear h1 h2 hok ok hv e hw u1 hk hlen
    generalize spotFrom l 0 a = o at *
    cases o <;>
    (refine Rt.wp rfl rfl ?_
     repeat' ((conv => whnf); first | refine Br.T ?_ | refine Br.F ?_ | refine And.intro rfl ?_ | refine eq_bool ?_ | refine eq_int ?_ | refine CallP.mk' (example_rt) ?_ | refine CallP.mk' (hS) ?_ | refine CallP.mk' (hA) ?_ | refine CallP.mk' (hL) ?_ | refine CallP.mk' (hG) ?_ | refine CallP.mk' (hI) ?_ | refine CallP.mk' (hF) ?_ | refine CallP.mk' (At5_rt _ _) ?_ | refine Br.N ?_ | refine Br.kt (by assumption) ?_ | refine Br.kf (by assumption) ?_ | refine Br.mk (fun h => ?_) (fun h => ?_) | refine eq_some ?_))
    all_goals first
      | rfl
      | (exfalso; simp_all; done)
  · have h1 : spotRes l a = (none, ⟨3, -5⟩) := by
      have : (decide (a < 0) || decide (a ≥ 1048576)) = true := by simp; omega
      simp only [spotRes, hok, this]; rfl
    have hI := In5_rt a 0 1048575
    have e : (decide (a ≥ 0) && decide (a ≤ 1048575)) = false := by simp; omega
    rw [e] at hI
    rw [h1] at hS
    rw [hk] at hL
    clear h1 h2 hok ok hv e hw u1 hk hlen
    refine Rt.wp rfl rfl ?_
    repeat' ((conv => whnf); first | refine Br.T ?_ | refine Br.F ?_ | refine And.intro rfl ?_ | refine eq_bool ?_ | refine eq_int ?_ | refine CallP.mk' (example_rt) ?_ | refine CallP.mk' (hS) ?_ | refine CallP.mk' (hA) ?_ | refine CallP.mk' (hL) ?_ | refine CallP.mk' (hI) ?_ | refine CallP.mk' (hF) ?_ | refine CallP.mk' (At5_rt _ _) ?_ | refine Br.N ?_ | refine Br.kt (by assumption) ?_ | refine Br.kf (by assumption) ?_ | refine Br.mk (fun h => ?_) (fun h => ?_) | refine eq_some ?_)
    all_goals first
      | rfl
      | (exfalso; simp_all; done)
def atSpotR (s : Spt) (p : Plc) : Bool := (((p.module == s.module) && (p.sect == s.sect)) && decide (s.offset ≥ p.offset)) && decide (IntKind.wrap .i64 (s.offset - p.offset) < p.size)
theorem atSpotR_eq {s : Spt} {p : Plc} (h1 : 0 ≤ p.offset) (h2 : p.offset ≤ 1000000) (h3 : p.size ≤ 1048576) (r1 : -9223372036854775808 ≤ s.offset) (r2 : s.offset < 9223372036854775808) : atSpotR s p = atSpot s p := by
  have e : w64 (s.offset - p.offset) = IntKind.wrap .i64 (s.offset - p.offset) := rfl
  rw [Bool.eq_iff_iff]
  simp only [atSpotR, atSpot, e, Bool.and_eq_true, decide_eq_true_eq]
  have key : (s.offset ≥ p.offset ∧ IntKind.wrap .i64 (s.offset - p.offset) < p.size) ↔ (IntKind.wrap .i64 (s.offset - p.offset) ≥ 0 ∧ IntKind.wrap .i64 (s.offset - p.offset) < p.size) := by
    by_cases h' : -9223372036854775808 ≤ s.offset - p.offset
    · rw [wrap_in (by omega) (by omega)]
      omega
    · have : IntKind.wrap .i64 (s.offset - p.offset) = s.offset - p.offset + 18446744073709551616 := by
        simp only [IntKind.wrap, IntKind.signed, IntKind.bits]
        simp
        omega
      rw [this]
      omega
  constructor
  · rintro ⟨⟨⟨m1, m2⟩, m3⟩, m4⟩
    exact ⟨m1, m2, (key.1 ⟨m3, m4⟩).1, m4⟩
  · rintro ⟨m1, m2, m3, m4⟩
    exact ⟨⟨⟨m1, m2⟩, (key.2 ⟨m3, m4⟩).1⟩, m4⟩
theorem addrR_eq {s : Spt} {p : Plc} {b : Int} (hp : atSpot s p = true) (h1 : 0 ≤ p.offset) (h2 : p.offset ≤ 1000000) (h3 : p.size ≤ 1048576) (h4 : 0 ≤ p.addr) (h5 : p.addr ≤ 1048576) (r1 : -9223372036854775808 ≤ s.offset) (r2 : s.offset < 9223372036854775808) :
    IntKind.wrap .i64 (IntKind.wrap .i64 (IntKind.wrap .i64 (p.addr + s.offset) - p.offset) + b) = addrOf s b p := by
  rw [← atSpotR_eq h1 h2 h3 r1 r2] at hp
  simp only [atSpotR, Bool.and_eq_true, decide_eq_true_eq] at hp
  obtain ⟨⟨_, h6⟩, h7⟩ := hp
  rw [wrap_in (n := s.offset - p.offset) (by omega) (by omega)] at h7
  show _ = w64 (w64 (p.addr + w64 (s.offset - p.offset)) + b)
  rw [w64_in (n := s.offset - p.offset) (by omega) (by omega), w64_in (n := p.addr + (s.offset - p.offset)) (by omega) (by omega), wrap_in (n := p.addr + s.offset) (by omega) (by omega), wrap_in (n := p.addr + s.offset - p.offset) (by omega) (by omega)]
  rw [show p.addr + s.offset - p.offset = p.addr + (s.offset - p.offset) by omega]
theorem idx_k {ps : List Plc} {i : Nat} (hi : i < ps.length) (hl : ps.length ≤ 200) : idxAddr 5 (.rs (ps.map Plc.enc)) (IntKind.wrap .i64 (((i + 1 : Nat) : Int) - 1)) = some (.rp ps[i].enc 0) := by
  have := idx_map (enc := Plc.enc) (sz := 5) hi fun _ => rfl
  rw [← this, wrap_in (by omega) (by omega)]
  congr 1
  omega
def adrJ (s : Spt) (b : Int) (ps : List Plc) (j : Nat) : Int := (((ps.drop j).find? (atSpot s)).map (addrOf s b)).getD 0
def isJ (s : Spt) (ps : List Plc) (j : Nat) : Bool := ((ps.drop j).find? (atSpot s)).isSome
def valsJ (s : Spt) (b : Int) (ps : List Plc) (j : Nat) : List AV := [.int .i64 (adrJ s b ps j), .bool (isJ s ps j), .int .i64 (IntKind.wrap .i64 ((j : Int) - 1))]
theorem adrJ_end (s : Spt) (b : Int) (ps : List Plc) : adrJ s b ps (ps.map Plc.enc).length = 0 ∧ isJ s ps (ps.map Plc.enc).length = false := by
  simp [adrJ, isJ]
theorem valsJ_no {s : Spt} {b : Int} {ps : List Plc} {i : Nat} (hi : i < ps.length) (hl : ps.length ≤ 200) (h : atSpot s ps[i] = false) :
    [.int .i64 (adrJ s b ps (i + 1)), .bool (isJ s ps (i + 1)), .int .i64 (IntKind.wrap .i64 (IntKind.wrap .i64 (((i + 1 : Nat) : Int) - 1) - 1))] = valsJ s b ps i := by
  have h1 : IntKind.wrap .i64 (((i + 1 : Nat) : Int) - 1) = i := by rw [wrap_in (by omega) (by omega)]; omega
  have h2 := find_drop (p := atSpot s) hi
  rw [h, cond_false] at h2
  simp only [valsJ, adrJ, isJ, h1, h2]
theorem valsJ_yes {s : Spt} {b : Int} {ps : List Plc} {i : Nat} (hi : i < ps.length) (hl : ps.length ≤ 200) (h : atSpot s ps[i] = true) :
    [.int .i64 (addrOf s b ps[i]), .bool true, .int .i64 (IntKind.wrap .i64 (IntKind.wrap .i64 (((i + 1 : Nat) : Int) - 1) - 1))] = valsJ s b ps i := by
  have h1 : IntKind.wrap .i64 (((i + 1 : Nat) : Int) - 1) = i := by rw [wrap_in (by omega) (by omega)]; omega
  have h2 := find_drop (p := atSpot s) hi
  rw [h, cond_true] at h2
  simp only [valsJ, adrJ, isJ, h1, h2]
  rfl
end Go.Proofs.YtnibcojenlijgaaGreatDoor.Ev
