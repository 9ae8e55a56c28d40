/- Where an address lies in the places of an image, at the evaluator. No condition. -/
import Derived.Test.YtnibcojenlijgaaGreatDoorFa
set_option linter.unusedVariables false
set_option linter.unusedSimpArgs false
namespace Go.Proofs.YtnibcojenlijgaaGreatDoor.Ev
open Go Go.RowKit
set_option maxRecDepth 10000
theorem at1_rt (p : Plc) (a : Int) : Rt T 37 [.agg p.enc, .int .i64 a] (.int .i64 (cmpI p.addr a)) := by
  refine Rt.wp rfl rfl ?_
  repeat' ((conv => whnf); first | refine Br.T ?_ | refine Br.F ?_ | refine And.intro rfl ?_ | refine eq_bool ?_ | refine eq_int ?_ | refine CallP.mk' (cmpI_rt _ _) ?_ | refine Br.N ?_ | refine Br.kt (by assumption) ?_ | refine Br.kf (by assumption) ?_ | refine Br.mk (fun h => ?_) (fun h => ?_) | refine eq_some ?_)
  all_goals rfl
theorem idx_at {α : Type} {enc : α → List AV} {l : List α} {k : Nat} {n : Int} {sz : Nat} (e : n = (k : Int)) (hk : k < l.length) (hl : ∀ x, (enc x).length = sz) : idxAddr sz (.rs (l.map enc)) n = some (.rp (enc l[k]) 0) := by
  rw [e]; exact idx_map hk hl
theorem cmpI_lt {a b : Int} : decide (cmpI a b < 0) = decide (a < b) := by
  simp only [cmpI]
  by_cases h : a < b
  · simp [h]
  · by_cases h' : a > b <;> simp [h, h']
theorem cmpI_eq {a b : Int} : (cmpI a b == 0) = (a == b) := by
  simp only [cmpI]
  by_cases h : a < b
  · have : a ≠ b := by omega
    simp [h, this]
  · by_cases h' : a > b
    · have : a ≠ b := by omega
      simp [h, h', this]
    · have : a = b := by omega
      simp [this]
theorem mid_eq {i j : Nat} (hi : i ≤ 4611686018427387903) (hj : j ≤ 4611686018427387903) : IntKind.wrap .i64 (Int.fdiv (IntKind.wrap .u64 (IntKind.wrap .i64 ((i : Int) + j))) 2) = ((i + j) / 2 : Nat) := by
  rw [wrap_in (n := (i : Int) + j) (by omega) (by omega)]
  have h1 : IntKind.wrap .u64 ((i : Int) + j) = (i : Int) + j := by
    simp [IntKind.wrap, IntKind.signed, IntKind.bits]
    omega
  rw [h1, Int.fdiv_eq_ediv_of_nonneg _ (by omega), wrap_in (by omega) (by omega)]
  omega
theorem bs_rt (l : List Plc) (hl : l.length ≤ 4611686018427387903) (a : Int) (i0 : Nat) (h0 : i0 ≤ l.length) (hlo : ∀ j (h : j < l.length), j < i0 → l[j].addr < a) (hhi : ∀ j (h : j < l.length), i0 ≤ j → a ≤ l[j].addr) :
    Rt T 36 [.rs (l.map Plc.enc), .int .i64 a, .fn 37 [] []] (.tup [.int .i64 i0, .bool (match l[i0]? with | some p => p.addr == a | none => false)]) := by
  refine Rt.wp rfl rfl ?_
  refine LoopP.by (α := Nat × Nat) (fun x => x.2 - x.1) (fun x => x.1 ≤ i0 ∧ i0 ≤ x.2 ∧ x.2 ≤ l.length) (fun x => [.int .i64 x.1, .int .i64 x.2]) (fun x => []) (0, (l.map Plc.enc).length) ⟨Nat.zero_le _, by simpa using h0, by simp⟩ rfl (fun x hk => ?_)
  obtain ⟨i, j⟩ := x
  obtain ⟨h1, h2, h3⟩ := hk
  simp only at h1 h2 h3 ⊢
  refine Br.mk (fun h => ?_) (fun h => ?_)
  · have hij : i < j := by simpa using h
    have hm : (i + j) / 2 < l.length := by omega
    have hlt : ∀ k (h : k < l.length), decide (l[k].addr < a) = decide (k < i0) := fun k hk => by
      by_cases hc : k < i0
      · simp [hc, hlo k hk hc]
      · have := hhi k hk (by omega); simp [hc]; omega
    refine SomeP.mk' (idx_at (mid_eq (by omega) (by omega)) hm fun _ => rfl) ?_
    refine CallP.mk' (at1_rt l[(i + j) / 2] a) ?_
    refine Br.mk (fun h => ?_) (fun h => ?_)
    · rw [cmpI_lt, hlt] at h
      have hc : (i + j) / 2 < i0 := by simpa using h
      refine ⟨((i + j) / 2 + 1, j), by simp only; omega, ⟨by simp only; omega, h2, h3⟩, ?_⟩
      rw [← wrap_nat (show (i + j) / 2 < 9223372036854775807 by omega), ← mid_eq (i := i) (j := j) (by omega) (by omega)]; rfl
    · rw [cmpI_lt, hlt] at h
      have hc : ¬ (i + j) / 2 < i0 := by simpa using h
      refine ⟨(i, (i + j) / 2), by simp only; omega, ⟨h1, by simp only; omega, by simp only; omega⟩, ?_⟩
      rw [← mid_eq (i := i) (j := j) (by omega) (by omega)]; rfl
  · have hij : ¬ i < j := by simpa using h
    have hi : i = i0 := by omega
    subst hi
    refine Br.mk (fun h => ?_) (fun h => ?_)
    · have hn : i < l.length := by simpa using h
      repeat' ((conv => whnf); first | refine Br.T ?_ | refine Br.F ?_ | refine And.intro rfl ?_ | refine eq_bool ?_ | refine eq_int ?_ | refine SomeP.mk' (idx_map hn fun _ => rfl) ?_ | refine CallP.mk' (at1_rt l[i] a) ?_ | refine Br.N ?_ | refine Br.kt (by assumption) ?_ | refine Br.kf (by assumption) ?_ | refine Br.mk (fun h => ?_) (fun h => ?_) | refine eq_some ?_)
      rw [List.getElem?_eq_getElem hn]
      refine Eq.trans (show _ = AV.tup [.int .i64 i, .bool (cmpI l[i].addr a == 0)] from rfl) ?_
      rw [cmpI_eq]
    · have hn : l.length ≤ i := by simpa using h
      repeat' ((conv => whnf); first | refine Br.T ?_ | refine Br.F ?_ | refine And.intro rfl ?_ | refine eq_bool ?_ | refine eq_int ?_ | refine Br.N ?_ | refine Br.kt (by assumption) ?_ | refine Br.kf (by assumption) ?_ | refine Br.mk (fun h => ?_) (fun h => ?_) | refine eq_some ?_)
      rw [List.getElem?_eq_none hn]
      rfl
/-- The places of a valid image, by what is said of them. -/
structure PlOK (l : List Plc) : Prop where
  len : l.length ≤ 200
  each : ∀ j (h : j < l.length), 0 ≤ l[j].addr ∧ 1 ≤ l[j].size ∧ l[j].addr + l[j].size ≤ 1048576 ∧ 0 ≤ l[j].offset ∧ l[j].offset ≤ 1000000
  sorted : ∀ i j (hi : i < l.length) (hj : j < l.length), i < j → l[i].addr + l[i].size ≤ l[j].addr
/-- The first place that holds an address. -/
def placeAt (l : List Plc) (a : Int) : Option Plc := l.find? fun p => decide (p.addr ≤ a) && decide (a < p.addr + p.size)
def atEnc (a : Int) : Option Plc → AV
  | none => .tup [.agg [.int .i64 0, .int .i64 0, .int .i64 0, .int .i64 0, .int .i64 0], .bool false]
  | some p => .tup [.agg [.int .i64 a, .int .i64 (p.size - (a - p.addr)), .int .i64 p.module, .int .i64 p.sect, .int .i64 (p.offset + (a - p.addr))], .bool true]
theorem placeAt_some {l : List Plc} {a : Int} (ok : PlOK l) {k : Nat} (hk : k < l.length) (h1 : l[k].addr ≤ a) (h2 : a < l[k].addr + l[k].size) : placeAt l a = some l[k] := by
  rw [placeAt, List.find?_eq_some_iff_getElem]
  refine ⟨by simp [h1, h2], k, hk, rfl, fun j hj => ?_⟩
  have := ok.sorted j k (by omega) hk hj
  simp
  omega
theorem placeAt_none {l : List Plc} {a : Int} (h : ∀ j (h : j < l.length), l[j].addr ≤ a → l[j].addr + l[j].size ≤ a) : placeAt l a = none := by
  rw [placeAt, List.find?_eq_none]
  intro p hp
  obtain ⟨j, hj, rfl⟩ := List.getElem_of_mem hp
  simp
  exact h j hj
/-- Where the addresses of places begin to be as great as an address. -/
theorem cut_at {l : List Plc} (ok : PlOK l) (a : Int) : ∃ i0, i0 ≤ l.length ∧ (∀ j (h : j < l.length), j < i0 → l[j].addr < a) ∧ ∀ j (h : j < l.length), i0 ≤ j → a ≤ l[j].addr := by
  have main : ∀ n, n ≤ l.length → ∃ i0, i0 ≤ n ∧ (∀ j (h : j < l.length), j < i0 → l[j].addr < a) ∧ ∀ j (h : j < l.length), i0 ≤ j → j < n → a ≤ l[j].addr := by
    intro n
    induction n with
    | zero => intro _; exact ⟨0, Nat.le_refl _, fun j _ h => absurd h (Nat.not_lt_zero _), fun j _ _ h => absurd h (Nat.not_lt_zero _)⟩
    | succ n ih =>
      intro hn
      obtain ⟨i0, h1, h2, h3⟩ := ih (by omega)
      by_cases hc : l[n].addr < a
      · refine ⟨n + 1, Nat.le_refl _, fun j hj hlt => ?_, fun j _ h4 h5 => by omega⟩
        by_cases hjn : j = n
        · subst hjn; exact hc
        · have := ok.sorted j n hj (by omega) (by omega)
          have := (ok.each j hj).2.1
          omega
      · refine ⟨i0, by omega, h2, fun j hj h4 h5 => ?_⟩
        by_cases hjn : j = n
        · subst hjn; omega
        · exact h3 j hj h4 (by omega)
  obtain ⟨i0, h1, h2, h3⟩ := main l.length (Nat.le_refl _)
  exact ⟨i0, h1, h2, fun j hj h => h3 j hj h hj⟩
theorem atEnc_some {p : Plc} {a : Int} (p1 : 0 ≤ p.addr) (p2 : 1 ≤ p.size) (p3 : p.addr + p.size ≤ 1048576) (p4 : 0 ≤ p.offset) (p5 : p.offset ≤ 1000000) (h1 : p.addr ≤ a) (h2 : a < p.addr + p.size) :
    AV.tup [.agg [.int .i64 a, .int .i64 (IntKind.wrap .i64 (p.size - IntKind.wrap .i64 (a - p.addr))), .int .i64 p.module, .int .i64 p.sect, .int .i64 (IntKind.wrap .i64 (p.offset + IntKind.wrap .i64 (a - p.addr)))], .bool true] = atEnc a (some p) := by
  rw [wrap_in (n := a - p.addr) (by omega) (by omega), wrap_in (n := p.size - (a - p.addr)) (by omega) (by omega), wrap_in (n := p.offset + (a - p.addr)) (by omega) (by omega)]
  rfl
theorem at_rt (x : Img) (ok : PlOK x.places) (a : Int) (b1 : -9000000000000000000 ≤ a) (b2 : a ≤ 9000000000000000000) : Rt T 29 [.agg x.enc, .int .i64 a] (atEnc a (placeAt x.places a)) := by
  obtain ⟨i0, hi, hlo, hhi⟩ := cut_at ok a
  have hlen := ok.len
  have hb := bs_rt x.places (by omega) a i0 hi hlo hhi
  have found : ∀ k (hk : k < x.places.length) (n : Int), n = (k : Int) → x.places[k].addr ≤ a → decide (n < 0) = false ∧ idxAddr 5 (.rs (x.places.map Plc.enc)) n = some (.rp (Plc.enc x.places[k]) 0) ∧
      (x.places[k].addr + x.places[k].size ≤ a → decide (a ≥ IntKind.wrap .i64 (x.places[k].addr + x.places[k].size)) = true) ∧
      (a < x.places[k].addr + x.places[k].size → decide (a ≥ IntKind.wrap .i64 (x.places[k].addr + x.places[k].size)) = false ∧ placeAt x.places a = some x.places[k]) := fun k hk n hn h1 => by
    obtain ⟨p1, p2, p3, p4, p5⟩ := ok.each k hk
    subst hn
    refine ⟨by simp, idx_map hk fun _ => rfl, fun h => ?_, fun h => ⟨?_, placeAt_some ok hk h1 h⟩⟩
    · rw [wrap_in (by omega) (by omega)]; simpa using h
    · rw [wrap_in (by omega) (by omega)]; simpa using h
  by_cases hf : ∃ h : i0 < x.places.length, x.places[i0].addr = a
  · obtain ⟨hn, hc⟩ := hf
    obtain ⟨p1, p2, p3, p4, p5⟩ := ok.each i0 hn
    obtain ⟨f1, f2, f3, f4⟩ := found i0 hn _ rfl (by omega)
    obtain ⟨f5, f6⟩ := f4 (by omega)
    rw [f6]
    rw [List.getElem?_eq_getElem hn] at hb
    simp only [show (x.places[i0].addr == a) = true by simpa using hc] at hb
    clear found f3 f4 f6 hlo hhi
    refine Rt.wp rfl rfl ?_
    repeat' ((conv => whnf); first | refine Br.T ?_ | refine Br.F ?_ | refine And.intro rfl ?_ | refine eq_bool ?_ | refine eq_int ?_ | refine CallP.mk' (hb) ?_ | refine SomeP.mk' (f2) ?_ | refine Br.N ?_ | refine Br.kt (by assumption) ?_ | refine Br.kf (by assumption) ?_ | refine Br.mk (fun h => ?_) (fun h => ?_) | refine eq_some ?_)
    all_goals exact atEnc_some p1 p2 p3 p4 p5 (by omega) (by omega)
  · have hb' : Rt T 36 [.rs (x.places.map Plc.enc), .int .i64 a, .fn 37 [] []] (.tup [.int .i64 i0, .bool false]) := by
      by_cases hn : i0 < x.places.length
      · rw [List.getElem?_eq_getElem hn] at hb
        have : (x.places[i0].addr == a) = false := by
          simp only [beq_eq_false_iff_ne, ne_eq]
          exact fun h => hf ⟨hn, h⟩
        simpa only [this] using hb
      · rw [List.getElem?_eq_none (by omega)] at hb; exact hb
    clear hb
    cases i0 with
    | zero =>
      have hp : placeAt x.places a = none := placeAt_none fun j hj h => by
        have := hhi j hj (Nat.zero_le _)
        have he : ∀ h : 0 < x.places.length, x.places[0].addr ≠ a := fun h h' => hf ⟨h, h'⟩
        by_cases hj0 : j = 0
        · subst hj0; have := he hj; omega
        · have h0 := hhi 0 (by omega) (Nat.le_refl _)
          have := ok.sorted 0 j (by omega) hj (by omega)
          have := (ok.each 0 (by omega)).2.1
          omega
      rw [hp]
      clear hhi hlo found hf
      refine Rt.wp rfl rfl ?_
      repeat' ((conv => whnf); first | refine Br.T ?_ | refine Br.F ?_ | refine And.intro rfl ?_ | refine eq_bool ?_ | refine eq_int ?_ | refine CallP.mk' (hb') ?_ | refine Br.N ?_ | refine Br.kt (by assumption) ?_ | refine Br.kf (by assumption) ?_ | refine Br.mk (fun h => ?_) (fun h => ?_) | refine eq_some ?_)
      all_goals rfl
    | succ k =>
      have hk : k < x.places.length := by omega
      obtain ⟨p1, p2, p3, p4, p5⟩ := ok.each k hk
      have hle := hlo k hk (Nat.lt_succ_self k)
      obtain ⟨f1, f2, f3, f4⟩ := found k hk (IntKind.wrap .i64 (((k + 1 : Nat) : Int) - 1)) (by rw [wrap_in (by omega) (by omega)]; omega) (by omega)
      by_cases hc : x.places[k].addr + x.places[k].size ≤ a
      · have f5 := f3 hc
        have hp : placeAt x.places a = none := placeAt_none fun j hj h => by
          by_cases hjk : j ≤ k
          · by_cases he : j = k
            · subst he; exact hc
            · have := ok.sorted j k hj hk (by omega)
              omega
          · have h3 := hhi j hj (by omega)
            by_cases he : j = k + 1
            · subst he
              have : x.places[k + 1].addr ≠ a := fun h' => hf ⟨hj, h'⟩
              omega
            · have h4 := hhi (k + 1) (by omega) (Nat.le_refl _)
              have := ok.sorted (k + 1) j (by omega) hj (by omega)
              have := (ok.each (k + 1) (by omega)).2.1
              omega
        rw [hp]
        clear hhi hlo found hf f3 f4
        refine Rt.wp rfl rfl ?_
        repeat' ((conv => whnf); first | refine Br.T ?_ | refine Br.F ?_ | refine And.intro rfl ?_ | refine eq_bool ?_ | refine eq_int ?_ | refine CallP.mk' (hb') ?_ | refine SomeP.mk' (f2) ?_ | refine Br.N ?_ | refine Br.kt (by assumption) ?_ | refine Br.kf (by assumption) ?_ | refine Br.mk (fun h => ?_) (fun h => ?_) | refine eq_some ?_)
        all_goals rfl
      · obtain ⟨f5, f6⟩ := f4 (by omega)
        rw [f6]
        clear hhi hlo found hf f3 f4 f6
        refine Rt.wp rfl rfl ?_
        repeat' ((conv => whnf); first | refine Br.T ?_ | refine Br.F ?_ | refine And.intro rfl ?_ | refine eq_bool ?_ | refine eq_int ?_ | refine CallP.mk' (hb') ?_ | refine SomeP.mk' (f2) ?_ | refine Br.N ?_ | refine Br.kt (by assumption) ?_ | refine Br.kf (by assumption) ?_ | refine Br.mk (fun h => ?_) (fun h => ?_) | refine eq_some ?_)
        all_goals exact atEnc_some p1 p2 p3 p4 p5 (by omega) (by omega)
end Go.Proofs.YtnibcojenlijgaaGreatDoor.Ev
