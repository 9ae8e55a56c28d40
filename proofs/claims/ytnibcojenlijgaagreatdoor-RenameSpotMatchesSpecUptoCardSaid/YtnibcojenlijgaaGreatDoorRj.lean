/- The law of spots and addresses: the walk where the unit is in range. No condition. -/
import Derived.Test.YtnibcojenlijgaaGreatDoorRi
import Derived.Test.YtnibcojenlijgaaGreatDoorFs
set_option linter.unusedVariables false
set_option linter.unusedSimpArgs false
namespace Go.Proofs.YtnibcojenlijgaaGreatDoor.Ev
open Go Go.RowKit
set_option maxRecDepth 10000
set_option maxHeartbeats 4000000
abbrev blkJ (n : Nat) (t : List AV) (c i : Int) (s : Spt) : List (Nat × Blk) := [(n, ⟨4, [t]⟩), (30, ⟨2, [[.int .i64 0, .int .i64 0]]⟩), (27, ⟨2, [[.int .i64 c, .int .i64 i]]⟩), (21, ⟨2, [[.int .i64 0, .int .i64 0]]⟩), (10, ⟨2, [[.int .i64 c, .int .i64 i]]⟩), (9, ⟨4, [t]⟩), (0, ⟨4, [s.enc]⟩)]
theorem spotLaw_out (l : List Ldd) (ok : LdsOK l) (a : Int) (s : Spt) (hok : (copiesF l).isOk = true) (hu : 0 ≤ s.unit ∧ s.unit < l.length) (r1 : -9223372036854775808 ≤ s.offset) (r2 : s.offset < 9223372036854775808) (ha : ¬ (0 ≤ a ∧ a < 1048576)) : Rt T 3 [.rs (l.map Ldd.enc), .int .i64 a, .agg s.enc] (.bool true) := by
  have hS := Spot_rt l ok a
  have hA := Address_rt l ok s
  have hL := LoadedFault_rt l ok
  have hv := copies_ok hok
  have hlen := hv.len
  have u1 : (decide (s.unit < 0) || decide (s.unit ≥ (l.length : Int))) = false := by simp; omega
  have h2 : addrRes l s = (((lddAt l s.unit).img.places.find? (atSpot s)).map (addrOf s (lddAt l s.unit).bias), .ok) := by simp only [addrRes, hok, u1]; rfl
  have hw : IntKind.wrap .i64 (((l.map Ldd.enc).length : Int) - 1) = (l.length : Int) - 1 := by rw [List.length_map]; exact wrap_in (by omega) (by omega)
  have hF : Rt T 8 [.int .i64 s.unit, .int .i64 0, .int .i64 (IntKind.wrap .i64 (((l.map Ldd.enc).length : Int) - 1))] (.bool true) := by
    have e : (decide (s.unit ≥ 0) && decide (s.unit ≤ (l.length : Int) - 1)) = true := by simp; omega
    have := In5_rt s.unit 0 (IntKind.wrap .i64 (((l.map Ldd.enc).length : Int) - 1))
    rw [hw, e] at this
    rw [hw]; exact this
  have hk := isOk_eq hok
  have hX := idx_ldd hu.1 hu.2
  have hmem : lddAt l s.unit ∈ l := by
    have h3 : s.unit.toNat < l.length := by omega
    simp only [lddAt, List.getElem?_eq_getElem h3]
    exact List.getElem_mem h3
  have hp := hv.places _ hmem
  have hAV : addrResAV (addrRes l s) = .tup [.int .i64 (adrJ s (lddAt l s.unit).bias (lddAt l s.unit).img.places 0), .bool (isJ s (lddAt l s.unit).img.places 0), Flt.enc .ok] := by
    rw [h2]; simp [addrResAV, adrJ, isJ]
  rw [hAV] at hA
  rw [hk] at hL
  have h1 : spotRes l a = (none, ⟨3, -5⟩) := by
    have : (decide (a < 0) || decide (a ≥ 1048576)) = true := by simp; omega
    simp only [spotRes, hok, this]; rfl
  have hI := In5_rt a 0 1048575
  have e : (decide (a ≥ 0) && decide (a ≤ 1048575)) = false := by simp; omega
  rw [e] at hI
  rw [h1] at hS
  clear h1 h2 hok ok hv e hw u1 hk hlen hmem hAV
  generalize lddAt l s.unit = x at *
  refine Rt.wp rfl rfl ?_
  repeat' ((conv => whnf); first | refine Br.T ?_ | refine Br.F ?_ | refine And.intro rfl ?_ | refine eq_bool ?_ | refine eq_int ?_ | refine CallP.mk' (example_rt) ?_ | refine CallP.mk' (hS) ?_ | refine CallP.mk' (hA) ?_ | refine CallP.mk' (hL) ?_ | refine CallP.mk' (hI) ?_ | refine CallP.mk' (hF) ?_ | refine CallP.mk' (At5_rt _ _) ?_ | refine SomeP.mk' (hX) ?_ | refine Br.N ?_ | refine Br.kt (by assumption) ?_ | refine Br.kf (by assumption) ?_ | refine Br.mk (fun h => ?_) (fun h => ?_) | refine eq_some ?_)
  all_goals try (exfalso; simp_all; done)
  refine LoopP.by (α := Nat) (fun j => j) (fun j => j ≤ x.img.places.length) (fun j => [.int .i64 (adrJ s x.bias x.img.places j), .bool (isJ s x.img.places j), .int .i64 (IntKind.wrap .i64 ((j : Int) - 1))]) (fun j => (blkJ 67 [.int .i64 0, .int .i64 0, .int .i64 0, .int .i64 0] 3 (-5) s)) (x.img.places.map Plc.enc).length (by simp) (by rw [(adrJ_end s x.bias x.img.places).1, (adrJ_end s x.bias x.img.places).2]; rfl) (fun j hj => ?_)
  refine Br.mk (fun h' => ?_) (fun h' => ?_)
  · rcases j with _ | i
    · exact absurd h' (by decide)
    · have hi : i < x.img.places.length := hj
      have hJ := idx_k hi hp.len
      obtain ⟨e1, e2, e3, e4, e5⟩ := hp.each i hi
      have q := atSpotR_eq (p := x.img.places[i]) e4 e5 (by omega) r1 r2
      have yes : atSpotR s x.img.places[i] = true → ∃ y, y < i + 1 ∧ (y ≤ x.img.places.length) ∧ (([.int .i64 (IntKind.wrap .i64 (IntKind.wrap .i64 (IntKind.wrap .i64 (x.img.places[i].addr + s.offset) - x.img.places[i].offset) + x.bias)), .bool true, .int .i64 (IntKind.wrap .i64 (IntKind.wrap .i64 (((i + 1 : Nat) : Int) - 1) - 1))], (blkJ 67 [.int .i64 0, .int .i64 0, .int .i64 0, .int .i64 0] 3 (-5) s)) : List AV × List (Nat × Blk)) = (valsJ s x.bias x.img.places y, (blkJ 67 [.int .i64 0, .int .i64 0, .int .i64 0, .int .i64 0] 3 (-5) s)) := fun hb => by
        rw [q] at hb
        exact ⟨i, by omega, by omega, by rw [addrR_eq hb e4 e5 (by omega) e1 (by omega) r1 r2, valsJ_yes hi hp.len hb]⟩
      have no : atSpotR s x.img.places[i] = false → ∃ y, y < i + 1 ∧ (y ≤ x.img.places.length) ∧ (([.int .i64 (adrJ s x.bias x.img.places (i + 1)), .bool (isJ s x.img.places (i + 1)), .int .i64 (IntKind.wrap .i64 (IntKind.wrap .i64 (((i + 1 : Nat) : Int) - 1) - 1))], (blkJ 67 [.int .i64 0, .int .i64 0, .int .i64 0, .int .i64 0] 3 (-5) s)) : List AV × List (Nat × Blk)) = (valsJ s x.bias x.img.places y, (blkJ 67 [.int .i64 0, .int .i64 0, .int .i64 0, .int .i64 0] 3 (-5) s)) := fun hb => by
        rw [q] at hb
        exact ⟨i, by omega, by omega, by rw [valsJ_no hi hp.len hb]⟩
      clear q e1 e2 e3 e4 e5 h' hj hp r1 r2
      repeat' ((conv => whnf); first | refine Br.T ?_ | refine Br.F ?_ | refine And.intro rfl ?_ | refine eq_bool ?_ | refine eq_int ?_ | refine SomeP.mk' (hJ) ?_ | refine SomeP.mk' (hX) ?_ | refine Br.N ?_ | refine Br.kt (by assumption) ?_ | refine Br.kf (by assumption) ?_ | refine Br.mk (fun h => ?_) (fun h => ?_) | refine eq_some ?_)
      all_goals first
        | exact yes (by (try simp only [List.length_map, Bool.and_true] at *); first | (simp only [bne, atSpotR, *, decide_true, decide_false, Bool.true_or, Bool.false_or, Bool.or_true, Bool.or_false, Bool.true_and, Bool.false_and, Bool.and_true, Bool.and_false, Bool.not_true, Bool.not_false, cond_true, cond_false] <;> rfl) | (exfalso; simp_all; done) | (simp only [bne, atSpotR]; simp_all only [decide_true, decide_false, Bool.true_or, Bool.false_or, Bool.or_true, Bool.or_false, Bool.true_and, Bool.false_and, Bool.and_true, Bool.and_false, Bool.not_true, Bool.not_false, cond_true, cond_false]; done))
        | exact no (by (try simp only [List.length_map, Bool.and_true] at *); first | (simp only [bne, atSpotR, *, decide_true, decide_false, Bool.true_or, Bool.false_or, Bool.or_true, Bool.or_false, Bool.true_and, Bool.false_and, Bool.and_true, Bool.and_false, Bool.not_true, Bool.not_false, cond_true, cond_false] <;> rfl) | (exfalso; simp_all; done) | (simp only [bne, atSpotR]; simp_all only [decide_true, decide_false, Bool.true_or, Bool.false_or, Bool.or_true, Bool.or_false, Bool.true_and, Bool.false_and, Bool.and_true, Bool.and_false, Bool.not_true, Bool.not_false, cond_true, cond_false]; done))
  · rcases j with _ | i
    · have z1 : (adrJ s x.bias x.img.places 0 == adrJ s x.bias x.img.places 0) = true := beq_self_eq_true _
      have z2 : (isJ s x.img.places 0 == isJ s x.img.places 0) = true := beq_self_eq_true _
      repeat' ((conv => whnf); first | refine Br.T ?_ | refine Br.F ?_ | refine And.intro rfl ?_ | refine eq_bool ?_ | refine eq_int ?_ | refine Br.N ?_ | refine Br.kt (by assumption) ?_ | refine Br.kf (by assumption) ?_ | refine Br.mk (fun h => ?_) (fun h => ?_) | refine eq_some ?_)
      all_goals first
        | rfl
        | exact z2
        | exact z2.symm
        | exact z1
        | exact z1.symm
        | (simp; done)
        | exact congrArg AV.bool z2
        | (exfalso; simp_all; done)
    · exfalso
      have := hp.len
      rw [wrap_in (by omega) (by omega)] at h'
      simp at h'
      all_goals omega
theorem spotLaw_in (l : List Ldd) (ok : LdsOK l) (a : Int) (s : Spt) (hok : (copiesF l).isOk = true) (hu : 0 ≤ s.unit ∧ s.unit < l.length) (r1 : -9223372036854775808 ≤ s.offset) (r2 : s.offset < 9223372036854775808) (ha : 0 ≤ a ∧ a < 1048576) (o : Option Spt) (ho : spotFrom l 0 a = o) : Rt T 3 [.rs (l.map Ldd.enc), .int .i64 a, .agg s.enc] (.bool true) := by
  have hS := Spot_rt l ok a
  have hA := Address_rt l ok s
  have hL := LoadedFault_rt l ok
  have hv := copies_ok hok
  have hlen := hv.len
  have u1 : (decide (s.unit < 0) || decide (s.unit ≥ (l.length : Int))) = false := by simp; omega
  have h2 : addrRes l s = (((lddAt l s.unit).img.places.find? (atSpot s)).map (addrOf s (lddAt l s.unit).bias), .ok) := by simp only [addrRes, hok, u1]; rfl
  have hw : IntKind.wrap .i64 (((l.map Ldd.enc).length : Int) - 1) = (l.length : Int) - 1 := by rw [List.length_map]; exact wrap_in (by omega) (by omega)
  have hF : Rt T 8 [.int .i64 s.unit, .int .i64 0, .int .i64 (IntKind.wrap .i64 (((l.map Ldd.enc).length : Int) - 1))] (.bool true) := by
    have e : (decide (s.unit ≥ 0) && decide (s.unit ≤ (l.length : Int) - 1)) = true := by simp; omega
    have := In5_rt s.unit 0 (IntKind.wrap .i64 (((l.map Ldd.enc).length : Int) - 1))
    rw [hw, e] at this
    rw [hw]; exact this
  have hk := isOk_eq hok
  have hX := idx_ldd hu.1 hu.2
  have hmem : lddAt l s.unit ∈ l := by
    have h3 : s.unit.toNat < l.length := by omega
    simp only [lddAt, List.getElem?_eq_getElem h3]
    exact List.getElem_mem h3
  have hp := hv.places _ hmem
  have hAV : addrResAV (addrRes l s) = .tup [.int .i64 (adrJ s (lddAt l s.unit).bias (lddAt l s.unit).img.places 0), .bool (isJ s (lddAt l s.unit).img.places 0), Flt.enc .ok] := by
    rw [h2]; simp [addrResAV, adrJ, isJ]
  rw [hAV] at hA
  rw [hk] at hL
  have h1 : spotRes l a = (spotFrom l 0 a, copiesF l) := by
    have x1 : decide (a < 0) = false := by simp; omega
    have x2 : decide (a ≥ 1048576) = false := by simp; omega
    simp only [spotRes, hok, x1, x2]; rfl
  have hI := In5_rt a 0 1048575
  have e : (decide (a ≥ 0) && decide (a ≤ 1048575)) = true := by simp; omega
  rw [e] at hI
  have hG := SpotOf_rt l hv a (by omega) (by omega)
  rw [h1, hk, ho] at hS
  rw [ho] at hG
  clear h1 h2 hok ok hv e hw u1 hk hlen hmem hAV ho
  generalize lddAt l s.unit = x at *
  cases o with
  | none =>
    refine Rt.wp rfl rfl ?_
    repeat' ((conv => whnf); first | refine Br.T ?_ | refine Br.F ?_ | refine And.intro rfl ?_ | refine eq_bool ?_ | refine eq_int ?_ | refine CallP.mk' (example_rt) ?_ | refine CallP.mk' (hS) ?_ | refine CallP.mk' (hA) ?_ | refine CallP.mk' (hL) ?_ | refine CallP.mk' (hG) ?_ | refine CallP.mk' (hI) ?_ | refine CallP.mk' (hF) ?_ | refine SomeP.mk' (hX) ?_ | refine Br.N ?_ | refine Br.kt (by assumption) ?_ | refine Br.kf (by assumption) ?_ | refine Br.mk (fun h => ?_) (fun h => ?_) | refine eq_some ?_)
    all_goals try (exfalso; simp_all; done)
    refine LoopP.by (α := Nat) (fun j => j) (fun j => j ≤ x.img.places.length) (fun j => [.int .i64 (adrJ s x.bias x.img.places j), .bool (isJ s x.img.places j), .int .i64 (IntKind.wrap .i64 ((j : Int) - 1))]) (fun j => (blkJ 65 [.int .i64 0, .int .i64 0, .int .i64 0, .int .i64 0] 0 0 s)) (x.img.places.map Plc.enc).length (by simp) (by rw [(adrJ_end s x.bias x.img.places).1, (adrJ_end s x.bias x.img.places).2]; rfl) (fun j hj => ?_)
    refine Br.mk (fun h' => ?_) (fun h' => ?_)
    · rcases j with _ | i
      · exact absurd h' (by decide)
      · have hi : i < x.img.places.length := hj
        have hJ := idx_k hi hp.len
        obtain ⟨e1, e2, e3, e4, e5⟩ := hp.each i hi
        have q := atSpotR_eq (p := x.img.places[i]) e4 e5 (by omega) r1 r2
        have yes : atSpotR s x.img.places[i] = true → ∃ y, y < i + 1 ∧ (y ≤ x.img.places.length) ∧ (([.int .i64 (IntKind.wrap .i64 (IntKind.wrap .i64 (IntKind.wrap .i64 (x.img.places[i].addr + s.offset) - x.img.places[i].offset) + x.bias)), .bool true, .int .i64 (IntKind.wrap .i64 (IntKind.wrap .i64 (((i + 1 : Nat) : Int) - 1) - 1))], (blkJ 65 [.int .i64 0, .int .i64 0, .int .i64 0, .int .i64 0] 0 0 s)) : List AV × List (Nat × Blk)) = (valsJ s x.bias x.img.places y, (blkJ 65 [.int .i64 0, .int .i64 0, .int .i64 0, .int .i64 0] 0 0 s)) := fun hb => by
          rw [q] at hb
          exact ⟨i, by omega, by omega, by rw [addrR_eq hb e4 e5 (by omega) e1 (by omega) r1 r2, valsJ_yes hi hp.len hb]⟩
        have no : atSpotR s x.img.places[i] = false → ∃ y, y < i + 1 ∧ (y ≤ x.img.places.length) ∧ (([.int .i64 (adrJ s x.bias x.img.places (i + 1)), .bool (isJ s x.img.places (i + 1)), .int .i64 (IntKind.wrap .i64 (IntKind.wrap .i64 (((i + 1 : Nat) : Int) - 1) - 1))], (blkJ 65 [.int .i64 0, .int .i64 0, .int .i64 0, .int .i64 0] 0 0 s)) : List AV × List (Nat × Blk)) = (valsJ s x.bias x.img.places y, (blkJ 65 [.int .i64 0, .int .i64 0, .int .i64 0, .int .i64 0] 0 0 s)) := fun hb => by
          rw [q] at hb
          exact ⟨i, by omega, by omega, by rw [valsJ_no hi hp.len hb]⟩
        clear q e1 e2 e3 e4 e5 h' hj hp r1 r2
        repeat' ((conv => whnf); first | refine Br.T ?_ | refine Br.F ?_ | refine And.intro rfl ?_ | refine eq_bool ?_ | refine eq_int ?_ | refine SomeP.mk' (hJ) ?_ | refine SomeP.mk' (hX) ?_ | refine Br.N ?_ | refine Br.kt (by assumption) ?_ | refine Br.kf (by assumption) ?_ | refine Br.mk (fun h => ?_) (fun h => ?_) | refine eq_some ?_)
        all_goals first
          | exact yes (by (try simp only [List.length_map, Bool.and_true] at *); first | (simp only [bne, atSpotR, *, decide_true, decide_false, Bool.true_or, Bool.false_or, Bool.or_true, Bool.or_false, Bool.true_and, Bool.false_and, Bool.and_true, Bool.and_false, Bool.not_true, Bool.not_false, cond_true, cond_false] <;> rfl) | (exfalso; simp_all; done) | (simp only [bne, atSpotR]; simp_all only [decide_true, decide_false, Bool.true_or, Bool.false_or, Bool.or_true, Bool.or_false, Bool.true_and, Bool.false_and, Bool.and_true, Bool.and_false, Bool.not_true, Bool.not_false, cond_true, cond_false]; done))
          | exact no (by (try simp only [List.length_map, Bool.and_true] at *); first | (simp only [bne, atSpotR, *, decide_true, decide_false, Bool.true_or, Bool.false_or, Bool.or_true, Bool.or_false, Bool.true_and, Bool.false_and, Bool.and_true, Bool.and_false, Bool.not_true, Bool.not_false, cond_true, cond_false] <;> rfl) | (exfalso; simp_all; done) | (simp only [bne, atSpotR]; simp_all only [decide_true, decide_false, Bool.true_or, Bool.false_or, Bool.or_true, Bool.or_false, Bool.true_and, Bool.false_and, Bool.and_true, Bool.and_false, Bool.not_true, Bool.not_false, cond_true, cond_false]; done))
    · rcases j with _ | i
      · have z1 : (adrJ s x.bias x.img.places 0 == adrJ s x.bias x.img.places 0) = true := beq_self_eq_true _
        have z2 : (isJ s x.img.places 0 == isJ s x.img.places 0) = true := beq_self_eq_true _
        repeat' ((conv => whnf); first | refine Br.T ?_ | refine Br.F ?_ | refine And.intro rfl ?_ | refine eq_bool ?_ | refine eq_int ?_ | refine Br.N ?_ | refine Br.kt (by assumption) ?_ | refine Br.kf (by assumption) ?_ | refine Br.mk (fun h => ?_) (fun h => ?_) | refine eq_some ?_)
        all_goals first
          | rfl
          | exact z2
          | exact z2.symm
          | exact z1
          | exact z1.symm
          | (simp; done)
          | exact congrArg AV.bool z2
          | (exfalso; simp_all; done)
      · exfalso
        have := hp.len
        rw [wrap_in (by omega) (by omega)] at h'
        simp at h'
        all_goals omega
  | some t =>
    refine Rt.wp rfl rfl ?_
    repeat' ((conv => whnf); first | refine Br.T ?_ | refine Br.F ?_ | refine And.intro rfl ?_ | refine eq_bool ?_ | refine eq_int ?_ | refine CallP.mk' (example_rt) ?_ | refine CallP.mk' (hS) ?_ | refine CallP.mk' (hA) ?_ | refine CallP.mk' (hL) ?_ | refine CallP.mk' (hG) ?_ | refine CallP.mk' (hI) ?_ | refine CallP.mk' (hF) ?_ | refine SomeP.mk' (hX) ?_ | refine Br.N ?_ | refine Br.kt (by assumption) ?_ | refine Br.kf (by assumption) ?_ | refine Br.mk (fun h => ?_) (fun h => ?_) | refine eq_some ?_)
    all_goals try (exfalso; simp_all; done)
    refine LoopP.by (α := Nat) (fun j => j) (fun j => j ≤ x.img.places.length) (fun j => [.int .i64 (adrJ s x.bias x.img.places j), .bool (isJ s x.img.places j), .int .i64 (IntKind.wrap .i64 ((j : Int) - 1))]) (fun j => (blkJ 65 t.enc 0 0 s)) (x.img.places.map Plc.enc).length (by simp) (by rw [(adrJ_end s x.bias x.img.places).1, (adrJ_end s x.bias x.img.places).2]; rfl) (fun j hj => ?_)
    refine Br.mk (fun h' => ?_) (fun h' => ?_)
    · rcases j with _ | i
      · exact absurd h' (by decide)
      · have hi : i < x.img.places.length := hj
        have hJ := idx_k hi hp.len
        obtain ⟨e1, e2, e3, e4, e5⟩ := hp.each i hi
        have q := atSpotR_eq (p := x.img.places[i]) e4 e5 (by omega) r1 r2
        have yes : atSpotR s x.img.places[i] = true → ∃ y, y < i + 1 ∧ (y ≤ x.img.places.length) ∧ (([.int .i64 (IntKind.wrap .i64 (IntKind.wrap .i64 (IntKind.wrap .i64 (x.img.places[i].addr + s.offset) - x.img.places[i].offset) + x.bias)), .bool true, .int .i64 (IntKind.wrap .i64 (IntKind.wrap .i64 (((i + 1 : Nat) : Int) - 1) - 1))], (blkJ 65 t.enc 0 0 s)) : List AV × List (Nat × Blk)) = (valsJ s x.bias x.img.places y, (blkJ 65 t.enc 0 0 s)) := fun hb => by
          rw [q] at hb
          exact ⟨i, by omega, by omega, by rw [addrR_eq hb e4 e5 (by omega) e1 (by omega) r1 r2, valsJ_yes hi hp.len hb]⟩
        have no : atSpotR s x.img.places[i] = false → ∃ y, y < i + 1 ∧ (y ≤ x.img.places.length) ∧ (([.int .i64 (adrJ s x.bias x.img.places (i + 1)), .bool (isJ s x.img.places (i + 1)), .int .i64 (IntKind.wrap .i64 (IntKind.wrap .i64 (((i + 1 : Nat) : Int) - 1) - 1))], (blkJ 65 t.enc 0 0 s)) : List AV × List (Nat × Blk)) = (valsJ s x.bias x.img.places y, (blkJ 65 t.enc 0 0 s)) := fun hb => by
          rw [q] at hb
          exact ⟨i, by omega, by omega, by rw [valsJ_no hi hp.len hb]⟩
        clear q e1 e2 e3 e4 e5 h' hj hp r1 r2
        repeat' ((conv => whnf); first | refine Br.T ?_ | refine Br.F ?_ | refine And.intro rfl ?_ | refine eq_bool ?_ | refine eq_int ?_ | refine SomeP.mk' (hJ) ?_ | refine SomeP.mk' (hX) ?_ | refine Br.N ?_ | refine Br.kt (by assumption) ?_ | refine Br.kf (by assumption) ?_ | refine Br.mk (fun h => ?_) (fun h => ?_) | refine eq_some ?_)
        all_goals first
          | exact yes (by (try simp only [List.length_map, Bool.and_true] at *); first | (simp only [bne, atSpotR, *, decide_true, decide_false, Bool.true_or, Bool.false_or, Bool.or_true, Bool.or_false, Bool.true_and, Bool.false_and, Bool.and_true, Bool.and_false, Bool.not_true, Bool.not_false, cond_true, cond_false] <;> rfl) | (exfalso; simp_all; done) | (simp only [bne, atSpotR]; simp_all only [decide_true, decide_false, Bool.true_or, Bool.false_or, Bool.or_true, Bool.or_false, Bool.true_and, Bool.false_and, Bool.and_true, Bool.and_false, Bool.not_true, Bool.not_false, cond_true, cond_false]; done))
          | exact no (by (try simp only [List.length_map, Bool.and_true] at *); first | (simp only [bne, atSpotR, *, decide_true, decide_false, Bool.true_or, Bool.false_or, Bool.or_true, Bool.or_false, Bool.true_and, Bool.false_and, Bool.and_true, Bool.and_false, Bool.not_true, Bool.not_false, cond_true, cond_false] <;> rfl) | (exfalso; simp_all; done) | (simp only [bne, atSpotR]; simp_all only [decide_true, decide_false, Bool.true_or, Bool.false_or, Bool.or_true, Bool.or_false, Bool.true_and, Bool.false_and, Bool.and_true, Bool.and_false, Bool.not_true, Bool.not_false, cond_true, cond_false]; done))
    · rcases j with _ | i
      · have z1 : (adrJ s x.bias x.img.places 0 == adrJ s x.bias x.img.places 0) = true := beq_self_eq_true _
        have z2 : (isJ s x.img.places 0 == isJ s x.img.places 0) = true := beq_self_eq_true _
        repeat' ((conv => whnf); first | refine Br.T ?_ | refine Br.F ?_ | refine And.intro rfl ?_ | refine eq_bool ?_ | refine eq_int ?_ | refine Br.N ?_ | refine Br.kt (by assumption) ?_ | refine Br.kf (by assumption) ?_ | refine Br.mk (fun h => ?_) (fun h => ?_) | refine eq_some ?_)
        all_goals first
          | rfl
          | exact z2
          | exact z2.symm
          | exact z1
          | exact z1.symm
          | (simp; done)
          | exact congrArg AV.bool z2
          | (exfalso; simp_all; done)
      · exfalso
        have := hp.len
        rw [wrap_in (by omega) (by omega)] at h'
        simp at h'
        all_goals omega
theorem spotLaw_rt (l : List Ldd) (ok : LdsOK l) (a : Int) (s : Spt) (r1 : -9223372036854775808 ≤ s.offset) (r2 : s.offset < 9223372036854775808) : Rt T 3 [.rs (l.map Ldd.enc), .int .i64 a, .agg s.enc] (.bool true) := by
  cases hok : (copiesF l).isOk with
  | false => exact spotLaw_bad l ok a s hok
  | true =>
    by_cases hu : 0 ≤ s.unit ∧ s.unit < l.length
    · by_cases ha : 0 ≤ a ∧ a < 1048576
      · exact spotLaw_in l ok a s hok hu r1 r2 ha _ rfl
      · exact spotLaw_out l ok a s hok hu r1 r2 ha
    · exact spotLaw_noUnit l ok a s hok hu
end Go.Proofs.YtnibcojenlijgaaGreatDoor.Ev
