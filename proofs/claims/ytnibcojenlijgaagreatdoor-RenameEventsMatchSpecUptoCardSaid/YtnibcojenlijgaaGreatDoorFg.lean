/- The functions of package rename at the evaluator. No condition. -/
import Derived.Test.YtnibcojenlijgaaGreatDoorFf2
set_option linter.unusedVariables false
set_option linter.unusedSimpArgs false
namespace Go.Proofs.YtnibcojenlijgaaGreatDoor.Ev
open Go Go.RowKit
set_option maxRecDepth 10000
/-- A spot: unit, module, section, offset. -/
structure Spt where
  unit : Int
  module : Int
  sect : Int
  offset : Int
  deriving DecidableEq
abbrev Spt.enc (s : Spt) : List AV := [.int .i64 s.unit, .int .i64 s.module, .int .i64 s.sect, .int .i64 s.offset]
def Spt.zero : Spt := ⟨0, 0, 0, 0⟩
/-- The spot of an address, from image 'k' on. -/
def spotFrom : List Ldd → Nat → Int → Option Spt
  | [], _, _ => none
  | x :: r, k, a => match placeAt x.img.places (a - x.bias) with
    | some p => some ⟨k, p.module, p.sect, p.offset + (a - x.bias - p.addr)⟩
    | none => spotFrom r (k + 1) a
def sptD (o : Option Spt) : Spt := match o with | some s => s | none => .zero
def spotAV (o : Option Spt) : AV := .tup [.agg (sptD o).enc, .bool o.isSome]
/-- What is known of a list of loaded images whose check finds nothing. -/
structure LdsV (l : List Ldd) : Prop where
  len : l.length ≤ 5
  places : ∀ x ∈ l, PlOK x.img.places
  bias : ∀ x ∈ l, 0 ≤ x.bias ∧ x.bias < 1048576
theorem spotFrom_drop {l : List Ldd} {k : Nat} {a : Int} (hk : k < l.length) : spotFrom (l.drop k) k a = match placeAt l[k].img.places (a - l[k].bias) with
    | some p => some ⟨k, p.module, p.sect, p.offset + (a - l[k].bias - p.addr)⟩
    | none => spotFrom (l.drop (k + 1)) (k + 1) a := by
  rw [List.drop_eq_getElem_cons hk]; rfl
theorem spot_rt (l : List Ldd) (hv : LdsV l) (a : Int) (h0 : 0 ≤ a) (h1 : a ≤ 4294967295) : Rt T 16 [.rs (l.map Ldd.enc), .int .i64 a] (spotAV (spotFrom l 0 a)) := by
  have hlen := hv.len
  refine Rt.wp rfl rfl ?_
  refine LoopP.by (α := Nat) (fun k => l.length - k) (fun k => k ≤ l.length ∧ spotFrom l 0 a = spotFrom (l.drop k) k a) (fun k => [.int .i64 k]) (fun k => [(0, ⟨4, [[.int .i64 0, .int .i64 0, .int .i64 0, .int .i64 0]]⟩)]) 0 ⟨Nat.zero_le _, rfl⟩ rfl (fun k hk => ?_)
  obtain ⟨h2, h3⟩ := hk
  refine Br.mk (fun h => ?_) (fun h => ?_)
  · have hlt : k < l.length := by simp at h; omega
    rw [spotFrom_drop hlt] at h3
    obtain ⟨b0, b1⟩ := hv.bias _ (List.getElem_mem hlt)
    have hw : IntKind.wrap .i64 (a - l[k].bias) = a - l[k].bias := wrap_in (by omega) (by omega)
    have hat := at_rt l[k].img (hv.places _ (List.getElem_mem hlt)) (IntKind.wrap .i64 (a - l[k].bias)) (by rw [hw]; omega) (by rw [hw]; omega)
    have hwk := wrap_nat (show k < 9223372036854775807 by omega)
    rw [hw] at hat
    refine SomeP.mk' (idx_map hlt fun _ => rfl) ?_
    (conv => whnf)
    rw [hw]
    refine CallP.mk' hat ?_
    cases hp : placeAt l[k].img.places (a - l[k].bias) with
    | none =>
      rw [hp] at h3
      repeat' ((conv => whnf); first | refine Br.T ?_ | refine Br.F ?_ | refine And.intro rfl ?_ | refine eq_bool ?_ | refine eq_int ?_ | refine Br.N ?_ | refine Br.kt (by assumption) ?_ | refine Br.kf (by assumption) ?_ | refine Br.mk (fun h => ?_) (fun h => ?_) | refine eq_some ?_)
      all_goals exact ⟨k + 1, by omega, ⟨by omega, h3⟩, by rw [← hwk]; rfl⟩
    | some p =>
      rw [hp] at h3
      repeat' ((conv => whnf); first | refine Br.T ?_ | refine Br.F ?_ | refine And.intro rfl ?_ | refine eq_bool ?_ | refine eq_int ?_ | refine Br.N ?_ | refine Br.kt (by assumption) ?_ | refine Br.kf (by assumption) ?_ | refine Br.mk (fun h => ?_) (fun h => ?_) | refine eq_some ?_)
      all_goals (rw [h3]; rfl)
  · have hge : l.length ≤ k := by simp at h; omega
    rw [List.drop_of_length_le hge] at h3
    repeat' ((conv => whnf); first | refine Br.T ?_ | refine Br.F ?_ | refine And.intro rfl ?_ | refine eq_bool ?_ | refine eq_int ?_ | refine Br.N ?_ | refine Br.kt (by assumption) ?_ | refine Br.kf (by assumption) ?_ | refine Br.mk (fun h => ?_) (fun h => ?_) | refine eq_some ?_)
    all_goals (rw [h3]; rfl)
theorem lddFrom_none : ∀ {l : List Ldd} {k : Nat}, lddFrom l k = none → ∀ x ∈ l, lddBad x = false := by
  intro l
  induction l with
  | nil => intro k _ x hx; cases hx
  | cons y l ih =>
    intro k h x hx
    simp only [lddFrom] at h
    cases hy : lddBad y with
    | true => rw [hy] at h; cases h
    | false =>
      rw [hy] at h
      rcases List.mem_cons.1 hx with rfl | hx
      · exact hy
      · exact ih h x hx
theorem copies_ok {l : List Ldd} (h : (copiesF l).isOk = true) : LdsV l := by
  simp only [copiesF] at h
  cases hs : (scopeF (imgs l)).isOk with
  | false => rw [hs] at h; simp [hs] at h
  | true =>
    rw [hs] at h
    simp only [Bool.not_true, cond_false] at h
    cases hl : lddFrom l 0 with
    | some k => rw [hl] at h; exact absurd (isOk_mk h).1 (by decide)
    | none =>
      obtain ⟨_, h5⟩ := scope_len hs
      refine ⟨by rw [imgs_len] at h5; exact h5, fun x hx => valid_places (scope_valid hs x.img (List.mem_map_of_mem hx)), fun x hx => ?_⟩
      have := lddFrom_none hl x hx
      simp only [lddBad, Bool.or_eq_false_iff, decide_eq_false_iff_not] at this
      omega
/-- What 'Spot' returns: the spot, and the fault. -/
def spotRes (l : List Ldd) (a : Int) : Option Spt × Flt :=
  bif !(copiesF l).isOk then (none, copiesF l) else bif decide (a < 0) || decide (a ≥ 1048576) then (none, ⟨3, -5⟩) else (spotFrom l 0 a, copiesF l)
def spotResAV (r : Option Spt × Flt) : AV := .tup [.agg (sptD r.1).enc, .bool r.1.isSome, r.2.enc]
theorem Spot_rt (l : List Ldd) (ok : LdsOK l) (a : Int) : Rt T 5 [.rs (l.map Ldd.enc), .int .i64 a] (spotResAV (spotRes l a)) := by
  have hc := copies_rt l ok
  refine Rt.wp rfl rfl ?_
  refine CallP.mk' hc ?_
  refine Br.mk (fun h => ?_) (fun h => ?_)
  · have hok : (copiesF l).isOk = true := by rw [isOk_eta]; exact h
    have hv := copies_ok hok
    by_cases ha : 0 ≤ a ∧ a < 1048576
    · have h1 : decide (a < 0) = false := by simp; omega
      have h2 : decide (a ≥ 1048576) = false := by simp; omega
      have hr : spotRes l a = (spotFrom l 0 a, copiesF l) := by simp only [spotRes, hok, h1, h2]; rfl
      rw [hr]
      have hs := spot_rt l hv a ha.1 (by omega)
      clear hr hc hv hok ok
      repeat' ((conv => whnf); first | refine Br.T ?_ | refine Br.F ?_ | refine And.intro rfl ?_ | refine eq_bool ?_ | refine eq_int ?_ | refine CallP.mk' (hs) ?_ | refine Br.N ?_ | refine Br.kt (by assumption) ?_ | refine Br.kf (by assumption) ?_ | refine Br.mk (fun h => ?_) (fun h => ?_) | refine eq_some ?_)
      all_goals rfl
    · have hr : spotRes l a = (none, ⟨3, -5⟩) := by
        have : (decide (a < 0) || decide (a ≥ 1048576)) = true := by simp; omega
        simp only [spotRes, hok, this]; rfl
      rw [hr]
      have h3 : decide (a < 0) = false → decide (a ≥ 1048576) = true := fun h => by simp at h ⊢; omega
      clear hr hc hv hok ok
      repeat' ((conv => whnf); first | refine Br.T ?_ | refine Br.F ?_ | refine And.intro rfl ?_ | refine eq_bool ?_ | refine eq_int ?_ | refine Br.N ?_ | refine Br.kt (by assumption) ?_ | refine Br.kf (by assumption) ?_ | refine Br.mk (fun h => ?_) (fun h => ?_) | refine eq_some ?_)
      all_goals first
        | rfl
        | (have h4 := h3 (by assumption); simp_all; done)
  · have hok : (copiesF l).isOk = false := by rw [isOk_eta]; exact h
    have hr : spotRes l a = (none, copiesF l) := by simp only [spotRes, hok]; rfl
    rw [hr]
    clear hr hc hok ok
    repeat' ((conv => whnf); first | refine Br.T ?_ | refine Br.F ?_ | refine And.intro rfl ?_ | refine eq_bool ?_ | refine eq_int ?_ | refine Br.N ?_ | refine Br.kt (by assumption) ?_ | refine Br.kf (by assumption) ?_ | refine Br.mk (fun h => ?_) (fun h => ?_) | refine eq_some ?_)
    all_goals rfl
def ldd0 : Ldd := ⟨⟨⟨#[]⟩, false, [], 0, [], [], [], [], 0, [], [], [], 0, [], [], [], [], [], []⟩, 0, 0, 0⟩
def lddAt (l : List Ldd) (n : Int) : Ldd := match l[n.toNat]? with
  | some x => x
  | none => ldd0
theorem idx_ldd {l : List Ldd} {n : Int} (h0 : 0 ≤ n) (h1 : n < l.length) : idxAddr 22 (.rs (l.map Ldd.enc)) n = some (.rp (lddAt l n).enc 0) := by
  have h2 : n.toNat < l.length := by omega
  have := idx_map (enc := Ldd.enc) (sz := 22) h2 fun _ => rfl
  rw [Int.toNat_of_nonneg h0] at this
  rw [this]
  simp [lddAt, h2]
def atSpot (s : Spt) (p : Plc) : Bool := (p.module == s.module) && ((p.sect == s.sect) && (decide (w64 (s.offset - p.offset) ≥ 0) && decide (w64 (s.offset - p.offset) < p.size)))
def addrOf (s : Spt) (bias : Int) (p : Plc) : Int := w64 (w64 (p.addr + w64 (s.offset - p.offset)) + bias)
/-- What 'Address' returns: the address, and the fault. -/
def addrRes (l : List Ldd) (s : Spt) : Option Int × Flt :=
  bif !(copiesF l).isOk then (none, copiesF l) else bif decide (s.unit < 0) || decide (s.unit ≥ (l.length : Int)) then (none, ⟨3, -9⟩)
  else (((lddAt l s.unit).img.places.find? (atSpot s)).map (addrOf s (lddAt l s.unit).bias), .ok)
def addrResAV (r : Option Int × Flt) : AV := .tup [.int .i64 (r.1.getD 0), .bool r.1.isSome, r.2.enc]
theorem find_drop {α : Type} {p : α → Bool} {l : List α} {k : Nat} (hk : k < l.length) : (l.drop k).find? p = bif p l[k] then some l[k] else (l.drop (k + 1)).find? p := by
  rw [List.drop_eq_getElem_cons hk, List.find?_cons]
  cases p l[k] <;> rfl
theorem Address_rt (l : List Ldd) (ok : LdsOK l) (s : Spt) : Rt T 6 [.rs (l.map Ldd.enc), .agg s.enc] (addrResAV (addrRes l s)) := by
  have hc := copies_rt l ok
  refine Rt.wp rfl rfl ?_
  refine CallP.mk' hc ?_
  refine Br.N ?_
  refine Br.mk (fun h => ?_) (fun h => ?_)
  · have hok : (copiesF l).isOk = true := by rw [isOk_eta]; exact h
    have hv := copies_ok hok
    by_cases hu : 0 ≤ s.unit ∧ s.unit < l.length
    · have h1 : decide (s.unit < 0) = false := by simp; omega
      have h2 : decide (s.unit ≥ ((l.map Ldd.enc).length : Int)) = false := by simp; omega
      have h2' : decide (s.unit ≥ (l.length : Int)) = false := by simp; omega
      have hr : addrRes l s = (((lddAt l s.unit).img.places.find? (atSpot s)).map (addrOf s (lddAt l s.unit).bias), .ok) := by simp only [addrRes, hok, h1, h2']; rfl
      rw [hr]
      have hI := idx_ldd hu.1 hu.2
      have hmem : lddAt l s.unit ∈ l := by
        have h3 : s.unit.toNat < l.length := by omega
        simp only [lddAt, List.getElem?_eq_getElem h3]
        exact List.getElem_mem h3
      have hlen := (hv.places _ hmem).len
      clear hr hc hv hok ok h2' hmem
      generalize lddAt l s.unit = x at *
      repeat' ((conv => whnf); first | refine Br.T ?_ | refine Br.F ?_ | refine And.intro rfl ?_ | refine eq_bool ?_ | refine eq_int ?_ | refine SomeP.mk' (hI) ?_ | refine Br.N ?_ | refine Br.kt (by assumption) ?_ | refine Br.kf (by assumption) ?_ | refine Br.mk (fun h => ?_) (fun h => ?_) | refine eq_some ?_)
      refine LoopP.by (α := Nat) (fun k => x.img.places.length - k) (fun k => k ≤ x.img.places.length ∧ x.img.places.find? (atSpot s) = (x.img.places.drop k).find? (atSpot s)) (fun k => [.int .i64 k]) (fun k => [(6, ⟨2, [[.int .i64 (copiesF l).code, .int .i64 (copiesF l).index]]⟩), (3, ⟨2, [[.int .i64 0, .int .i64 0]]⟩), (0, ⟨4, [s.enc]⟩)]) 0 ⟨Nat.zero_le _, rfl⟩ rfl (fun k hk => ?_)
      obtain ⟨h3, h4⟩ := hk
      refine Br.mk (fun h' => ?_) (fun h' => ?_)
      · have hlt : k < x.img.places.length := by simp at h'; omega
        rw [find_drop hlt] at h4
        have hw := wrap_nat (show k < 9223372036854775807 by omega)
        have yes : atSpot s x.img.places[k] = true → addrResAV (some (addrOf s x.bias x.img.places[k]), .ok) = addrResAV ((x.img.places.find? (atSpot s)).map (addrOf s x.bias), .ok) := fun hb => by rw [h4, hb]; rfl
        have no : atSpot s x.img.places[k] = false → ∃ y, x.img.places.length - y < x.img.places.length - k ∧ (y ≤ x.img.places.length ∧ x.img.places.find? (atSpot s) = (x.img.places.drop y).find? (atSpot s)) ∧
            (([AV.int .i64 (IntKind.wrap .i64 (k + 1))], [(6, ⟨2, [[.int .i64 (copiesF l).code, .int .i64 (copiesF l).index]]⟩), (3, ⟨2, [[.int .i64 0, .int .i64 0]]⟩), (0, ⟨4, [s.enc]⟩)]) : List AV × List (Nat × Blk)) = ([.int .i64 y], [(6, ⟨2, [[.int .i64 (copiesF l).code, .int .i64 (copiesF l).index]]⟩), (3, ⟨2, [[.int .i64 0, .int .i64 0]]⟩), (0, ⟨4, [s.enc]⟩)]) := fun hb =>
          ⟨k + 1, by omega, ⟨by omega, by rw [h4, hb]; rfl⟩, by rw [hw]⟩
        clear h4 h3 h' hw
        repeat' ((conv => whnf); first | refine Br.T ?_ | refine Br.F ?_ | refine And.intro rfl ?_ | refine eq_bool ?_ | refine eq_int ?_ | refine SomeP.mk' (idx_map hlt fun _ => rfl) ?_ | refine SomeP.mk' (hI) ?_ | refine Br.N ?_ | refine Br.kt (by assumption) ?_ | refine Br.kf (by assumption) ?_ | refine Br.mk (fun h => ?_) (fun h => ?_) | refine eq_some ?_)
        all_goals first
          | exact yes (by (try simp only [List.length_map, Bool.and_true] at *); first | (simp only [bne, atSpot, *, decide_true, decide_false, Bool.true_or, Bool.false_or, Bool.or_true, Bool.or_false, Bool.true_and, Bool.false_and, Bool.and_true, Bool.and_false, Bool.not_true, Bool.not_false, cond_true, cond_false] <;> rfl) | (exfalso; simp_all; done) | (simp only [bne, atSpot]; simp_all only [decide_true, decide_false, Bool.true_or, Bool.false_or, Bool.or_true, Bool.or_false, Bool.true_and, Bool.false_and, Bool.and_true, Bool.and_false, Bool.not_true, Bool.not_false, cond_true, cond_false]; done))
          | exact no (by (try simp only [List.length_map, Bool.and_true] at *); first | (simp only [bne, atSpot, *, decide_true, decide_false, Bool.true_or, Bool.false_or, Bool.or_true, Bool.or_false, Bool.true_and, Bool.false_and, Bool.and_true, Bool.and_false, Bool.not_true, Bool.not_false, cond_true, cond_false] <;> rfl) | (exfalso; simp_all; done) | (simp only [bne, atSpot]; simp_all only [decide_true, decide_false, Bool.true_or, Bool.false_or, Bool.or_true, Bool.or_false, Bool.true_and, Bool.false_and, Bool.and_true, Bool.and_false, Bool.not_true, Bool.not_false, cond_true, cond_false]; done))
      · have hge : x.img.places.length ≤ k := by simp at h'; omega
        rw [List.drop_of_length_le hge] at h4
        rw [h4]
        repeat' ((conv => whnf); first | refine Br.T ?_ | refine Br.F ?_ | refine And.intro rfl ?_ | refine eq_bool ?_ | refine eq_int ?_ | refine Br.N ?_ | refine Br.kt (by assumption) ?_ | refine Br.kf (by assumption) ?_ | refine Br.mk (fun h => ?_) (fun h => ?_) | refine eq_some ?_)
        all_goals rfl
    · have h1 : (decide (s.unit < 0) || decide (s.unit ≥ (l.length : Int))) = true := by simp; omega
      have hr : addrRes l s = (none, ⟨3, -9⟩) := by simp only [addrRes, hok, h1]; rfl
      rw [hr]
      have h3 : decide (s.unit < 0) = false → decide (s.unit ≥ ((l.map Ldd.enc).length : Int)) = true := fun h => by simp at h ⊢; omega
      clear hr hc hv hok ok
      repeat' ((conv => whnf); first | refine Br.T ?_ | refine Br.F ?_ | refine And.intro rfl ?_ | refine eq_bool ?_ | refine eq_int ?_ | refine Br.N ?_ | refine Br.kt (by assumption) ?_ | refine Br.kf (by assumption) ?_ | refine Br.mk (fun h => ?_) (fun h => ?_) | refine eq_some ?_)
      all_goals first
        | rfl
        | (have h4 := h3 (by assumption); simp_all; done)
  · have hok : (copiesF l).isOk = false := by rw [isOk_eta]; exact h
    have hr : addrRes l s = (none, copiesF l) := by simp only [addrRes, hok]; rfl
    rw [hr]
    clear hr hc hok ok
    repeat' ((conv => whnf); first | refine Br.T ?_ | refine Br.F ?_ | refine And.intro rfl ?_ | refine eq_bool ?_ | refine eq_int ?_ | refine Br.N ?_ | refine Br.kt (by assumption) ?_ | refine Br.kf (by assumption) ?_ | refine Br.mk (fun h => ?_) (fun h => ?_) | refine eq_some ?_)
    all_goals rfl
theorem example_rt : Rt T 10 [] (.bool true) := ⟨40, by kernel_rfl⟩
theorem In5_rt (n lo hi : Int) : Rt T 8 [.int .i64 n, .int .i64 lo, .int .i64 hi] (.bool (decide (n ≥ lo) && decide (n ≤ hi))) := by
  refine Rt.wp rfl rfl ?_
  repeat' ((conv => whnf); first | refine Br.T ?_ | refine Br.F ?_ | refine And.intro rfl ?_ | refine eq_bool ?_ | refine eq_int ?_ | refine Br.N ?_ | refine Br.kt (by assumption) ?_ | refine Br.kf (by assumption) ?_ | refine Br.mk (fun h => ?_) (fun h => ?_) | refine eq_some ?_)
  all_goals (try simp only [List.length_map, Bool.and_true] at *); first | (simp only [bne, *, decide_true, decide_false, Bool.true_or, Bool.false_or, Bool.or_true, Bool.or_false, Bool.true_and, Bool.false_and, Bool.and_true, Bool.and_false, Bool.not_true, Bool.not_false, cond_true, cond_false] <;> rfl) | (exfalso; simp_all; done) | (simp only [bne]; simp_all only [decide_true, decide_false, Bool.true_or, Bool.false_or, Bool.or_true, Bool.or_false, Bool.true_and, Bool.false_and, Bool.and_true, Bool.and_false, Bool.not_true, Bool.not_false, cond_true, cond_false]; done)
end Go.Proofs.YtnibcojenlijgaaGreatDoor.Ev
