/- The reference's check of loaded copies and its spot of an address are the program's. No condition. -/
import Derived.Test.YtnibcojenlijgaaGreatDoorRf
import Derived.Test.YtnibcojenlijgaaGreatDoorFg
set_option linter.unusedVariables false
set_option linter.unusedSimpArgs false
namespace Go.Proofs.YtnibcojenlijgaaGreatDoor.Ev
open Go Go.RowKit
set_option maxRecDepth 10000
theorem scFrom_code (l : List Img) : ∀ (r : List Img) (k : Nat), ((scFrom l r k).code == 0) = (scFrom l r k).isOk
  | [], _ => rfl
  | x :: r, k => by
    rw [scFrom]
    cases h : (validF x).isOk with
    | false =>
      have := good_code (valid_good x)
      rw [h] at this
      show ((validF x).code == 0) = (((validF x).code == 0) && _)
      rw [this]; rfl
    | true =>
      cases hd : decide (namedI (l.take k) x.name ≥ 0) with
      | true => rfl
      | false => exact scFrom_code l r (k + 1)
theorem scope_code (l : List Img) : ((scopeF l).code == 0) = (scopeF l).isOk := by
  unfold scopeF
  cases h : (((l.length : Int) == 0) || decide ((l.length : Int) > 5)) with
  | true => rfl
  | false => exact scFrom_code l l 0
theorem LoadedFault_rt (l : List Ldd) (ok : LdsOK l) : Rt T 7 [.rs (l.map Ldd.enc)] (copiesF l).enc := by
  have hlen := ok.len
  have hm : (imgs l).length ≤ maxLen := by rw [imgs_len]; unfold maxLen; omega
  have hio : ∀ x ∈ imgs l, x.ok := fun x hx => by obtain ⟨y, hy, rfl⟩ := List.mem_map.1 hx; exact ok.ok y hy
  by_cases hne : l = []
  · subst hne
    refine Rt.wp rfl rfl ?_
    repeat' ((conv => whnf); first | refine Br.T ?_ | refine Br.F ?_ | refine And.intro rfl ?_ | refine eq_bool ?_ | refine eq_int ?_ | refine CallP.mk' (ImagesOf_rt [] (by decide)) ?_ | refine CallP.mk' (ImagesFault_nil_rt) ?_ | refine Br.N ?_ | refine Br.kt (by assumption) ?_ | refine Br.kf (by assumption) ?_ | refine Br.mk (fun h => ?_) (fun h => ?_) | refine eq_some ?_)
    all_goals rfl
  · have hin : imgs l ≠ [] := fun h => hne (List.map_eq_nil_iff.1 h)
    have hi := ImagesOf_rt l hlen
    rw [imgsAV_rs hin] at hi
    have hs := ImagesFault_rt (imgs l) hm hio
    have gk := scope_code (imgs l)
    refine Rt.wp rfl rfl ?_
    refine CallP.mk' hi ?_
    refine CallP.mk' hs ?_
    refine Br.N ?_
    refine Br.mk (fun h => ?_) (fun h => ?_)
    · rw [gk] at h
      have hsc : (scopeF (imgs l)).isOk = true := h
      obtain ⟨_, h5⟩ := scope_len hsc
      have hN := NeedsFault_rt (imgs l) hm fun x hx => by have := valid_needs (scope_valid hsc x hx); unfold maxLen; omega
      have hc : copiesF l = match lddFrom l 0 with
          | some k => ⟨3, k⟩
          | none => missF (missing (imgs l) (imgs l) 0) := by simp only [copiesF, hsc]; rfl
      refine LoopP.by (α := Nat) (fun k => l.length - k) (fun k => k ≤ l.length ∧ lddFrom l 0 = lddFrom (l.drop k) k) (fun k => [.int .i64 k]) (fun k => [(6, ⟨2, [[.int .i64 (scopeF (imgs l)).code, .int .i64 (scopeF (imgs l)).index]]⟩), (0, ⟨2, [[.int .i64 0, .int .i64 0]]⟩)]) 0 ⟨Nat.zero_le _, rfl⟩ rfl (fun k hk => ?_)
      obtain ⟨h1, h2⟩ := hk
      refine Br.mk (fun h' => ?_) (fun h' => ?_)
      · have hlt : k < l.length := by simp at h'; omega
        rw [lddFrom_drop hlt, ← lddR_eq] at h2
        have bad : lddR l[k] = true → (Flt.mk 3 k).enc = (copiesF l).enc := fun hb => by rw [hc, h2, hb]; rfl
        have nxt : lddR l[k] = false → ∃ y, l.length - y < l.length - k ∧ (y ≤ l.length ∧ lddFrom l 0 = lddFrom (l.drop y) y) ∧ (([AV.int .i64 (IntKind.wrap .i64 (k + 1))], [(6, ⟨2, [[.int .i64 (scopeF (imgs l)).code, .int .i64 (scopeF (imgs l)).index]]⟩), (0, ⟨2, [[.int .i64 0, .int .i64 0]]⟩)]) : List AV × List (Nat × Blk)) = ([.int .i64 y], [(6, ⟨2, [[.int .i64 (scopeF (imgs l)).code, .int .i64 (scopeF (imgs l)).index]]⟩), (0, ⟨2, [[.int .i64 0, .int .i64 0]]⟩)]) := fun hb =>
          ⟨k + 1, by omega, ⟨by omega, by rw [h2, hb]; rfl⟩, by rw [wrap_nat (show k < 9223372036854775807 by omega)]⟩
        clear h2 h1 h' hc hN hsc h gk hs hi hio hm ok
        repeat' ((conv => whnf); first | refine Br.T ?_ | refine Br.F ?_ | refine And.intro rfl ?_ | refine eq_bool ?_ | refine eq_int ?_ | refine CallP.mk' (In6_rt _ _ _) ?_ | refine CallP.mk' (At6_rt _ _) ?_ | refine SomeP.mk' (idx_map hlt fun _ => rfl) ?_ | refine Br.N ?_ | refine Br.kt (by assumption) ?_ | refine Br.kf (by assumption) ?_ | refine Br.mk (fun h => ?_) (fun h => ?_) | refine eq_some ?_)
        all_goals first
          | exact bad (by (try simp only [List.length_map, Bool.and_true] at *); first | (simp only [bne, lddR, *, decide_true, decide_false, Bool.true_or, Bool.false_or, Bool.or_true, Bool.or_false, Bool.true_and, Bool.false_and, Bool.and_true, Bool.and_false, Bool.not_true, Bool.not_false, cond_true, cond_false] <;> rfl) | (exfalso; simp_all; done) | (simp only [bne, lddR]; simp_all only [decide_true, decide_false, Bool.true_or, Bool.false_or, Bool.or_true, Bool.or_false, Bool.true_and, Bool.false_and, Bool.and_true, Bool.and_false, Bool.not_true, Bool.not_false, cond_true, cond_false]; done))
          | exact nxt (by (try simp only [List.length_map, Bool.and_true] at *); first | (simp only [bne, lddR, *, decide_true, decide_false, Bool.true_or, Bool.false_or, Bool.or_true, Bool.or_false, Bool.true_and, Bool.false_and, Bool.and_true, Bool.and_false, Bool.not_true, Bool.not_false, cond_true, cond_false] <;> rfl) | (exfalso; simp_all; done) | (simp only [bne, lddR]; simp_all only [decide_true, decide_false, Bool.true_or, Bool.false_or, Bool.or_true, Bool.or_false, Bool.true_and, Bool.false_and, Bool.and_true, Bool.and_false, Bool.not_true, Bool.not_false, cond_true, cond_false]; done))
      · have hge : l.length ≤ k := by simp at h'; omega
        rw [List.drop_of_length_le hge] at h2
        have hl0 : lddFrom l 0 = none := h2
        rw [hl0] at hc
        rw [hc]
        refine CallP.mk' hN ?_
        exact eq_some rfl
    · rw [gk] at h
      have hsc : (scopeF (imgs l)).isOk = false := h
      exact eq_some (by simp only [copiesF, hsc]; rfl)
def atP (a : Int) (p : Plc) : Bool := decide (p.addr ≤ a) && decide (a < p.addr + p.size)
theorem placeAt_eq (l : List Plc) (a : Int) : placeAt l a = l.find? (atP a) := rfl
abbrev sblk : List (Nat × Blk) := [(0, ⟨4, [[.int .i64 0, .int .i64 0, .int .i64 0, .int .i64 0]]⟩)]
theorem SpotOf_rt (l : List Ldd) (hv : LdsV l) (a : Int) (h0 : -1 ≤ a) (h1 : a ≤ 4294967295) : Rt T 11 [.rs (l.map Ldd.enc), .int .i64 a] (spotAV (spotFrom l 0 a)) := by
  have hlen := hv.len
  refine Rt.wp rfl rfl ?_
  refine LoopP.by (α := Nat) (fun k => l.length - k) (fun k => k ≤ l.length ∧ spotFrom l 0 a = spotFrom (l.drop k) k a) (fun k => [.int .i64 k]) (fun k => sblk) 0 ⟨Nat.zero_le _, rfl⟩ rfl (fun k hk => ?_)
  obtain ⟨h2, h3⟩ := hk
  refine Br.mk (fun h => ?_) (fun h => ?_)
  · have hlt : k < l.length := by simp at h; omega
    rw [spotFrom_drop hlt, placeAt_eq] at h3
    obtain ⟨b0, b1⟩ := hv.bias _ (List.getElem_mem hlt)
    have hp := hv.places _ (List.getElem_mem hlt)
    have hpl := hp.len
    have hw : IntKind.wrap .i64 (a - l[k].bias) = a - l[k].bias := wrap_in (by omega) (by omega)
    have hwk := wrap_nat (show k < 9223372036854775807 by omega)
    have hI := idx_map (enc := Ldd.enc) (sz := 22) hlt fun _ => rfl
    (conv => whnf)
    refine SomeP.mk' hI ?_
    refine LoopP.by (α := Nat) (fun j => l[k].img.places.length - j) (fun j => j ≤ l[k].img.places.length ∧ l[k].img.places.find? (atP (a - l[k].bias)) = (l[k].img.places.drop j).find? (atP (a - l[k].bias))) (fun j => [.int .i64 j]) (fun j => sblk) 0 ⟨Nat.zero_le _, rfl⟩ rfl (fun j hj => ?_)
    obtain ⟨j1, j2⟩ := hj
    refine Br.mk (fun h' => ?_) (fun h' => ?_)
    · have hjl : j < l[k].img.places.length := by simp at h'; omega
      rw [find_drop hjl] at j2
      obtain ⟨e1, e2, e3, e4, e5⟩ := hp.each j hjl
      have hw1 : IntKind.wrap .i64 (IntKind.wrap .i64 (a - l[k].bias) - l[k].img.places[j].addr) = a - l[k].bias - l[k].img.places[j].addr := by rw [hw]; exact wrap_in (by omega) (by omega)
      have hw2 : IntKind.wrap .i64 (l[k].img.places[j].size - 1) = l[k].img.places[j].size - 1 := wrap_in (by omega) (by omega)
      have hwj := wrap_nat (show j < 9223372036854775807 by omega)
      have hin : inR (IntKind.wrap .i64 (IntKind.wrap .i64 (a - l[k].bias) - l[k].img.places[j].addr)) 0 (IntKind.wrap .i64 (l[k].img.places[j].size - 1)) = atP (a - l[k].bias) l[k].img.places[j] := by
        rw [hw1, hw2, Bool.eq_iff_iff, inR_iff]
        simp only [atP, Bool.and_eq_true, decide_eq_true_eq]
        omega
      have yes : inR (IntKind.wrap .i64 (IntKind.wrap .i64 (a - l[k].bias) - l[k].img.places[j].addr)) 0 (IntKind.wrap .i64 (l[k].img.places[j].size - 1)) = true → spotAV (some ⟨k, l[k].img.places[j].module, l[k].img.places[j].sect, IntKind.wrap .i64 (l[k].img.places[j].offset + IntKind.wrap .i64 (IntKind.wrap .i64 (a - l[k].bias) - l[k].img.places[j].addr))⟩) = spotAV (spotFrom l 0 a) := fun hc => by
        rw [hin] at hc
        rw [hc, cond_true] at j2
        rw [hw1, wrap_in (by simp only [atP, Bool.and_eq_true, decide_eq_true_eq] at hc; omega) (by simp only [atP, Bool.and_eq_true, decide_eq_true_eq] at hc; omega), h3, j2]
      have no : inR (IntKind.wrap .i64 (IntKind.wrap .i64 (a - l[k].bias) - l[k].img.places[j].addr)) 0 (IntKind.wrap .i64 (l[k].img.places[j].size - 1)) = false → ∃ y, l[k].img.places.length - y < l[k].img.places.length - j ∧ (y ≤ l[k].img.places.length ∧ l[k].img.places.find? (atP (a - l[k].bias)) = (l[k].img.places.drop y).find? (atP (a - l[k].bias))) ∧ (([AV.int .i64 (IntKind.wrap .i64 (j + 1))], sblk) : List AV × List (Nat × Blk)) = ([.int .i64 y], sblk) := fun hc => by
        rw [hin] at hc
        rw [hc, cond_false] at j2
        exact ⟨j + 1, by omega, ⟨by omega, j2⟩, by rw [hwj]⟩
      have hJ := idx_map (enc := Plc.enc) (sz := 5) hjl fun _ => rfl
      clear j2 j1 h' hin hw1 hw2 hwj hw hwk hp h3 h2 h hv hlen b0 b1 e1 e2 e3 e4 e5 hpl
      repeat' ((conv => whnf); first | refine Br.T ?_ | refine Br.F ?_ | refine And.intro rfl ?_ | refine eq_bool ?_ | refine eq_int ?_ | refine CallP.mk' (In6_rt _ _ _) ?_ | refine SomeP.mk' (hI) ?_ | refine SomeP.mk' (hJ) ?_ | refine Br.N ?_ | refine Br.kt (by assumption) ?_ | refine Br.kf (by assumption) ?_ | refine Br.mk (fun h => ?_) (fun h => ?_) | refine eq_some ?_)
      all_goals first
        | exact yes (by assumption)
        | exact no (by assumption)
    · have hjl : l[k].img.places.length ≤ j := by simp at h'; omega
      rw [List.drop_of_length_le hjl] at j2
      rw [j2] at h3
      exact ⟨k + 1, by omega, ⟨by omega, h3⟩, by rw [← hwk]; rfl⟩
  · have hge : l.length ≤ k := by simp at h; omega
    rw [List.drop_of_length_le hge] at h3
    repeat' ((conv => whnf); first | refine Br.T ?_ | refine Br.F ?_ | refine And.intro rfl ?_ | refine eq_bool ?_ | refine eq_int ?_ | refine Br.N ?_ | refine Br.kt (by assumption) ?_ | refine Br.kf (by assumption) ?_ | refine Br.mk (fun h => ?_) (fun h => ?_) | refine eq_some ?_)
    all_goals (rw [h3]; rfl)
end Go.Proofs.YtnibcojenlijgaaGreatDoor.Ev
