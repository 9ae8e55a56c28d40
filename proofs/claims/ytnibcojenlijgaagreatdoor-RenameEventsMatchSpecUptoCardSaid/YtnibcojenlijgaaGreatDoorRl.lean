/- Picks of package rename, and the reference's fault of events, at the evaluator. No condition. -/
import Derived.Test.YtnibcojenlijgaaGreatDoorRk
set_option linter.unusedVariables false
set_option linter.unusedSimpArgs false
namespace Go.Proofs.YtnibcojenlijgaaGreatDoor.Ev
open Go Go.RowKit
set_option maxRecDepth 10000
def noneB (s : Spt) : Bool := (s.unit == -1) && ((s.module == -1) && ((s.sect == -1) && ((s.offset == -1) && true)))
structure Pk where
  core : Int
  commit : Bool
abbrev Pk.enc (p : Pk) : List AV := [.int .i64 p.core, .bool p.commit]
def pkOf (x : REv) : Pk := ⟨x.core, noneB x.spot⟩
def pkAV (l : List Pk) : AV := match l with
  | [] => .nils
  | _ => .rs (l.map Pk.enc)
def pkV : List Pk → AV
  | [] => .nils
  | x :: l => .sl 15 0 (x :: l).length none 2
def pkB : List Pk → List (Nat × Blk)
  | [] => []
  | x :: l => [(15, ⟨2, (x :: l).map Pk.enc⟩)]
theorem refFree_pks (l : List Pk) : refFreeLL (l.map Pk.enc) = true := by
  induction l with
  | nil => rfl
  | cons x l ih => simp only [List.map_cons, refFreeLL, ih]; rfl
theorem eventsRes_len (l : List Ldd) (es : List Evt) : (eventsRes l es).1.length ≤ es.length := by
  unfold eventsRes
  cases (eventsF l es).isOk with
  | true => exact evs_len l es
  | false => exact Nat.zero_le _
theorem revAV_rs {l : List REv} (h : l ≠ []) : revAV l = .rs (l.map REv.enc) := by cases l with
  | nil => exact absurd rfl h
  | cons x l => rfl
theorem pkAV_rs {l : List Pk} (h : l ≠ []) : pkAV l = .rs (l.map Pk.enc) := by cases l with
  | nil => exact absurd rfl h
  | cons x l => rfl
set_option maxHeartbeats 4000000 in
theorem Picks_rt (l : List Ldd) (ok : LdsOK l) (es : List Evt) (hl : es.length ≤ 1048576) : Rt T 13 [.rs (l.map Ldd.enc), .rs (es.map Evt.enc)] (.tup [pkAV ((eventsRes l es).1.map pkOf), (eventsRes l es).2.enc]) := by
  have he := Events_rt l ok es hl
  have hn := eventsRes_len l es
  generalize (eventsRes l es).1 = xs at *
  generalize (eventsRes l es).2 = f at *
  by_cases hx : xs = []
  · subst hx
    clear hn hl ok
    have he' : Rt T 12 [.rs (l.map Ldd.enc), .rs (es.map Evt.enc)] (.tup [.nils, f.enc]) := he
    clear he
    refine Rt.wp rfl rfl ?_
    repeat' ((conv => whnf); first | refine Br.T ?_ | refine Br.F ?_ | refine And.intro rfl ?_ | refine eq_bool ?_ | refine eq_int ?_ | refine CallP.mk' (he') ?_ | refine Br.N ?_ | refine Br.kt (by assumption) ?_ | refine Br.kf (by assumption) ?_ | refine Br.mk (fun h => ?_) (fun h => ?_) | refine eq_some ?_)
    refine LoopP.by (α := Unit) (fun _ => 0) (fun _ => True) (fun _ => [.nils, .int .i64 0]) (fun _ => [(8, ⟨2, [[.int .i64 f.code, .int .i64 f.index]]⟩), (1, ⟨2, [[.int .i64 0, .int .i64 0]]⟩)]) () trivial rfl (fun _ _ => ?_)
    repeat' ((conv => whnf); first | refine Br.T ?_ | refine Br.F ?_ | refine And.intro rfl ?_ | refine eq_bool ?_ | refine eq_int ?_ | refine Br.N ?_ | refine Br.kt (by assumption) ?_ | refine Br.kf (by assumption) ?_ | refine Br.mk (fun h => ?_) (fun h => ?_) | refine eq_some ?_)
    all_goals rfl
  · rw [revAV_rs hx] at he
    have hxm : xs.map pkOf ≠ [] := fun h => hx (List.map_eq_nil_iff.1 h)
    rw [pkAV_rs hxm]
    refine Rt.wp rfl rfl ?_
    repeat' ((conv => whnf); first | refine Br.T ?_ | refine Br.F ?_ | refine And.intro rfl ?_ | refine eq_bool ?_ | refine eq_int ?_ | refine CallP.mk' (he) ?_ | refine Br.N ?_ | refine Br.kt (by assumption) ?_ | refine Br.kf (by assumption) ?_ | refine Br.mk (fun h => ?_) (fun h => ?_) | refine eq_some ?_)
    refine LoopP.by (α := Nat) (fun k => xs.length - k) (fun k => k ≤ xs.length) (fun k => [pkV ((xs.map pkOf).take k), .int .i64 k]) (fun k => pkB ((xs.map pkOf).take k) ++ [(8, ⟨2, [[.int .i64 f.code, .int .i64 f.index]]⟩), (1, ⟨2, [[.int .i64 0, .int .i64 0]]⟩)]) 0 (Nat.zero_le _) rfl (fun k hk => ?_)
    refine Br.mk (fun h => ?_) (fun h => ?_)
    · have hlt : k < xs.length := by simp at h; omega
      have hlt' : k < (xs.map pkOf).length := by simp; exact hlt
      have htk : (xs.map pkOf).take (k + 1) = (xs.map pkOf).take k ++ [pkOf xs[k]] := by rw [List.take_succ_eq_append_getElem hlt']; simp
      have hpl : ((xs.map pkOf).take k).length ≤ k := by rw [List.length_take]; omega
      refine SomeP.mk' (idx_map hlt fun _ => rfl) ?_
      have hw := wrap_nat (show k < 9223372036854775807 by omega)
      have hgoal : ∀ v b, v = pkV ((xs.map pkOf).take (k + 1)) → b = pkB ((xs.map pkOf).take (k + 1)) ++ [(8, ⟨2, [[.int .i64 f.code, .int .i64 f.index]]⟩), (1, ⟨2, [[.int .i64 0, .int .i64 0]]⟩)] → ∃ y, xs.length - y < xs.length - k ∧ y ≤ xs.length ∧ ([v, AV.int .i64 (IntKind.wrap .i64 (k + 1))], b) = ([pkV ((xs.map pkOf).take y), .int .i64 y], pkB ((xs.map pkOf).take y) ++ [(8, ⟨2, [[.int .i64 f.code, .int .i64 f.index]]⟩), (1, ⟨2, [[.int .i64 0, .int .i64 0]]⟩)]) := fun v b hv hb =>
        ⟨k + 1, by omega, by omega, by rw [hv, hb, hw]⟩
      rw [htk] at hgoal
      unfold pkOf noneB at hgoal
      clear htk h hlt' hxm he hx
      generalize hpre : (xs.map pkOf).take k = pre at *
      have hq : List.take k (List.map (fun x : REv => (⟨x.core, (x.spot.unit == -1) && ((x.spot.module == -1) && ((x.spot.sect == -1) && ((x.spot.offset == -1) && true)))⟩ : Pk)) xs) = pre := hpre
      rw [hq] at hgoal
      clear hq hpre
      cases pre with
      | nil =>
        repeat' ((conv => whnf); first | refine Br.T ?_ | refine Br.F ?_ | refine And.intro rfl ?_ | refine eq_bool ?_ | refine eq_int ?_ | refine SomeP.mk' (append_nils (by decide) (by decide) (by decide) rfl) ?_ | refine Br.N ?_ | refine Br.kt (by assumption) ?_ | refine Br.kf (by assumption) ?_ | refine Br.mk (fun h => ?_) (fun h => ?_) | refine eq_some ?_)
        all_goals exact hgoal _ _ rfl rfl
      | cons y ys =>
        have hes : ((y :: ys).map Pk.enc).length = (y :: ys).length := List.length_map _
        have happ : ∀ h fr c b, h.get 15 = some ⟨2, (y :: ys).map Pk.enc⟩ → appendA h fr 2 16 (.sl 15 0 (y :: ys).length none 2) (.rs [[.int .i64 c, .bool b]]) = some (.sl fr 0 ((y :: ys).length + 1) none 2, (h.del 15).new fr ⟨2, (y :: ys).map Pk.enc ++ [[.int .i64 c, .bool b]]⟩) := fun h fr c b hg => by
          have := append_sl (h := h) (fr := fr) (bytes := 16) (es := (y :: ys).map Pk.enc) (e := [.int .i64 c, .bool b]) (sz := 2) (l := 15) hg (by rw [hes]; simp only [List.length_cons] at hpl ⊢; omega) (by decide) (by decide) rfl (fun x hx => by obtain ⟨z, _, rfl⟩ := List.mem_map.1 hx; rfl)
          rw [hes] at this
          exact this
        have hfr : ∀ c b, refFreeLL ((y :: ys).map Pk.enc ++ [(Pk.mk c b).enc]) = true := fun c b => by
          have := refFree_pks ((y :: ys) ++ [Pk.mk c b])
          simpa using this
        repeat' ((conv => whnf); first | refine Br.T ?_ | refine Br.F ?_ | refine And.intro rfl ?_ | refine eq_bool ?_ | refine eq_int ?_ | refine SomeP.mk' (happ _ _ _ _ rfl) ?_ | refine Br.N ?_ | refine Br.kt (by assumption) ?_ | refine Br.kf (by assumption) ?_ | refine Br.mk (fun h => ?_) (fun h => ?_) | refine eq_some ?_)
        all_goals (
          refine hgoal _ _ (by simp [pkV]) ?_
          refine Eq.trans (show _ = [(15, purgeB 15 ⟨2, (y :: ys).map Pk.enc ++ [(Pk.mk _ _).enc]⟩), (8, ⟨2, [[.int .i64 f.code, .int .i64 f.index]]⟩), (1, ⟨2, [[.int .i64 0, .int .i64 0]]⟩)] from rfl) ?_
          rw [purgeB_free (hfr _ _)]
          simp [pkB]
          rfl)
    · have hge : xs.length ≤ k := by simp at h; omega
      have htk : (xs.map pkOf).take k = xs.map pkOf := List.take_of_length_le (by simp; exact hge)
      rw [htk]
      clear htk he h hx
      generalize xs.map pkOf = pre at *
      cases pre with
      | nil => exact absurd rfl hxm
      | cons y ys =>
        repeat' ((conv => whnf); first | refine Br.T ?_ | refine Br.F ?_ | refine And.intro rfl ?_ | refine eq_bool ?_ | refine eq_int ?_ | refine Br.N ?_ | refine Br.kt (by assumption) ?_ | refine Br.kf (by assumption) ?_ | refine Br.mk (fun h => ?_) (fun h => ?_) | refine eq_some ?_)
        all_goals (
          refine Eq.trans (show _ = (match mapO (frz ⟨[(15, ⟨2, (y :: ys).map Pk.enc⟩), (8, ⟨2, [[.int .i64 f.code, .int .i64 f.index]]⟩), (1, ⟨2, [[.int .i64 f.code, .int .i64 f.index]]⟩)], 0⟩ 5) [.sl 15 0 (y :: ys).length none 2, .agg [.int .i64 f.code, .int .i64 f.index]] with | some cs => some (AV.tup cs) | none => none) from rfl) ?_
          rw [show (y :: ys).length = ((y :: ys).map Pk.enc).length from (List.length_map _).symm]
          simp only [mapO]
          rw [frz_rs (B := ⟨2, (y :: ys).map Pk.enc⟩) rfl rfl (refFree_pks _)]
          rfl)
/-! ### The reference's fault of events -/
def refBad (e : Evt) : Bool := ((!(decide (e.core ≥ 0) && decide (e.core ≤ 3))) || (!(decide (e.addr ≥ -1) && decide (e.addr ≤ 4294967295)))) || (!(decide (e.trap ≥ 0) && decide (e.trap ≤ 6)))
theorem refBad_eq (e : Evt) : refBad e = evtBad e := by
  rw [Bool.eq_iff_iff]
  simp only [refBad, evtBad, Bool.or_eq_true, Bool.not_eq_true', Bool.and_eq_false_iff, decide_eq_true_eq, decide_eq_false_iff_not]
  omega
abbrev evB (o : Option Nat) : List (Nat × Blk) := [(3, ⟨2, [[.int .i64 (evtFlt o).code, .int .i64 (evtFlt o).index]]⟩), (0, ⟨2, [[.int .i64 0, .int .i64 0]]⟩)]
def evI (es : List Evt) (k : Nat) : Option Nat → Prop
  | none => evtFrom es 0 = evtFrom (es.drop k) k
  | some j => evtFrom es 0 = some j
theorem eventsFault_rt (l : List Ldd) (ok : LdsOK l) (es : List Evt) (hl : es.length ≤ 1048576) : Rt T 14 [.rs (l.map Ldd.enc), .rs (es.map Evt.enc)] (eventsF l es).enc := by
  have hc := LoadedFault_rt l ok
  cases hok : (copiesF l).isOk with
  | false =>
    have hr : eventsF l es = copiesF l := by simp only [eventsF, hok]; rfl
    rw [hr]
    have hk : ((copiesF l).code == 0) = false := by rw [copies_code]; exact hok
    clear hr hok ok
    generalize copiesF l = f at *
    refine Rt.wp rfl rfl ?_
    repeat' ((conv => whnf); first | refine Br.T ?_ | refine Br.F ?_ | refine And.intro rfl ?_ | refine eq_bool ?_ | refine eq_int ?_ | refine CallP.mk' (hc) ?_ | refine Br.N ?_ | refine Br.kt (by assumption) ?_ | refine Br.kf (by assumption) ?_ | refine Br.mk (fun h => ?_) (fun h => ?_) | refine eq_some ?_)
    refine LoopP.by (α := Unit) (fun _ => 0) (fun _ => True) (fun _ => [.int .i64 0]) (fun _ => [(3, ⟨2, [[.int .i64 f.code, .int .i64 f.index]]⟩), (0, ⟨2, [[.int .i64 0, .int .i64 0]]⟩)]) () trivial rfl (fun _ _ => ?_)
    repeat' ((conv => whnf); first | refine Br.T ?_ | refine Br.F ?_ | refine And.intro rfl ?_ | refine eq_bool ?_ | refine eq_int ?_ | refine Br.N ?_ | refine Br.kt (by assumption) ?_ | refine Br.kf (by assumption) ?_ | refine Br.mk (fun h => ?_) (fun h => ?_) | refine eq_some ?_)
    all_goals first
      | rfl
      | (exfalso; simp_all; done)
  | true =>
    rw [isOk_eq hok] at hc
    by_cases hm : (es.length : Int) > 5000
    · have h1 : decide (((es.map Evt.enc).length : Int) > 5000) = true := by simp; omega
      have h2 : decide ((es.length : Int) > 5000) = true := by simp; omega
      have hr : eventsF l es = ⟨2, -5⟩ := by simp only [eventsF, hok, h2]; rfl
      rw [hr]
      clear hr hok ok
      refine Rt.wp rfl rfl ?_
      repeat' ((conv => whnf); first | refine Br.T ?_ | refine Br.F ?_ | refine And.intro rfl ?_ | refine eq_bool ?_ | refine eq_int ?_ | refine CallP.mk' (hc) ?_ | refine CallP.mk' (At5_rt _ _) ?_ | refine Br.N ?_ | refine Br.kt (by assumption) ?_ | refine Br.kf (by assumption) ?_ | refine Br.mk (fun h => ?_) (fun h => ?_) | refine eq_some ?_)
      refine LoopP.by (α := Unit) (fun _ => 0) (fun _ => True) (fun _ => [.int .i64 0]) (fun _ => [(3, ⟨2, [[.int .i64 2, .int .i64 (-5)]]⟩), (0, ⟨2, [[.int .i64 0, .int .i64 0]]⟩)]) () trivial rfl (fun _ _ => ?_)
      repeat' ((conv => whnf); first | refine Br.T ?_ | refine Br.F ?_ | refine And.intro rfl ?_ | refine eq_bool ?_ | refine eq_int ?_ | refine Br.N ?_ | refine Br.kt (by assumption) ?_ | refine Br.kf (by assumption) ?_ | refine Br.mk (fun h => ?_) (fun h => ?_) | refine eq_some ?_)
      all_goals rfl
    · have h1 : decide (((es.map Evt.enc).length : Int) > 5000) = false := by simp; omega
      have h2 : decide ((es.length : Int) > 5000) = false := by simp; omega
      have hr : eventsF l es = evtFlt (evtFrom es 0) := by simp only [eventsF, hok, h2]; rfl
      rw [hr]
      clear hr hok ok
      refine Rt.wp rfl rfl ?_
      repeat' ((conv => whnf); first | refine Br.T ?_ | refine Br.F ?_ | refine And.intro rfl ?_ | refine eq_bool ?_ | refine eq_int ?_ | refine CallP.mk' (hc) ?_ | refine CallP.mk' (At5_rt _ _) ?_ | refine Br.N ?_ | refine Br.kt (by assumption) ?_ | refine Br.kf (by assumption) ?_ | refine Br.mk (fun h => ?_) (fun h => ?_) | refine eq_some ?_)
      refine LoopP.by (α := Nat × Option Nat) (fun x => es.length - x.1) (fun x => x.1 ≤ es.length ∧ evI es x.1 x.2) (fun x => [.int .i64 x.1]) (fun x => evB x.2) (0, none) ⟨Nat.zero_le _, rfl⟩ rfl (fun x hk => ?_)
      obtain ⟨k, o⟩ := x
      obtain ⟨h3, h4⟩ := hk
      dsimp only at h3 h4
      cases o with
      | some j =>
        have h4 : evtFrom es 0 = some j := h4
        rw [h4]
        clear h4 h3 h1 h2 hm hc hl
        repeat' ((conv => whnf); first | refine Br.T ?_ | refine Br.F ?_ | refine And.intro rfl ?_ | refine eq_bool ?_ | refine eq_int ?_ | refine Br.N ?_ | refine Br.kt (by assumption) ?_ | refine Br.kf (by assumption) ?_ | refine Br.mk (fun h => ?_) (fun h => ?_) | refine eq_some ?_)
        all_goals rfl
      | none =>
        have h4 : evtFrom es 0 = evtFrom (es.drop k) k := h4
        refine Br.mk (fun h' => ?_) (fun h' => ?_)
        · have hlt : k < es.length := by simp at h'; omega
          rw [evtFrom_drop hlt] at h4
          have hw := wrap_nat (show k < 9223372036854775807 by omega)
          have hw2 : IntKind.wrap .i64 (100 + (k : Int)) = 100 + k := wrap_in (by omega) (by omega)
          have yes : refBad es[k] = true → ∃ y : Nat × Option Nat, es.length - y.1 < es.length - k ∧ (y.1 ≤ es.length ∧ evI es y.1 y.2) ∧
              (([AV.int .i64 (IntKind.wrap .i64 (k + 1))], [(3, ⟨2, [[.int .i64 3, .int .i64 (IntKind.wrap .i64 (100 + (k : Int)))]]⟩), (0, ⟨2, [[.int .i64 0, .int .i64 0]]⟩)]) : List AV × List (Nat × Blk)) = ([.int .i64 y.1], evB y.2) := fun hb =>
            ⟨(k + 1, some k), by show _ - (k + 1) < _; omega, ⟨by show k + 1 ≤ _; omega, by show evtFrom es 0 = some k; rw [h4, ← refBad_eq, hb]; rfl⟩, by rw [hw, hw2]; rfl⟩
          have no : refBad es[k] = false → ∃ y : Nat × Option Nat, es.length - y.1 < es.length - k ∧ (y.1 ≤ es.length ∧ evI es y.1 y.2) ∧
              (([AV.int .i64 (IntKind.wrap .i64 (k + 1))], [(3, ⟨2, [[.int .i64 0, .int .i64 0]]⟩), (0, ⟨2, [[.int .i64 0, .int .i64 0]]⟩)]) : List AV × List (Nat × Blk)) = ([.int .i64 y.1], evB y.2) := fun hb =>
            ⟨(k + 1, none), by show _ - (k + 1) < _; omega, ⟨by show k + 1 ≤ _; omega, by show evtFrom es 0 = _; rw [h4, ← refBad_eq, hb]; rfl⟩, by rw [hw]; rfl⟩
          clear h4 h3 h' hw hw2 h1 h2 hm hc hl
          repeat' ((conv => whnf); first | refine Br.T ?_ | refine Br.F ?_ | refine And.intro rfl ?_ | refine eq_bool ?_ | refine eq_int ?_ | refine SomeP.mk' (idx_map hlt fun _ => rfl) ?_ | refine CallP.mk' (In5_rt _ _ _) ?_ | refine CallP.mk' (At5_rt _ _) ?_ | refine Br.N ?_ | refine Br.kt (by assumption) ?_ | refine Br.kf (by assumption) ?_ | refine Br.mk (fun h => ?_) (fun h => ?_) | refine eq_some ?_)
          all_goals first
            | exact yes (by (try simp only [List.length_map, Bool.and_true] at *); first | (simp only [bne, refBad, *, decide_true, decide_false, Bool.true_or, Bool.false_or, Bool.or_true, Bool.or_false, Bool.true_and, Bool.false_and, Bool.and_true, Bool.and_false, Bool.not_true, Bool.not_false, cond_true, cond_false] <;> rfl) | (exfalso; simp_all; done) | (simp only [bne, refBad]; simp_all only [decide_true, decide_false, Bool.true_or, Bool.false_or, Bool.or_true, Bool.or_false, Bool.true_and, Bool.false_and, Bool.and_true, Bool.and_false, Bool.not_true, Bool.not_false, cond_true, cond_false]; done))
            | exact no (by (try simp only [List.length_map, Bool.and_true] at *); first | (simp only [bne, refBad, *, decide_true, decide_false, Bool.true_or, Bool.false_or, Bool.or_true, Bool.or_false, Bool.true_and, Bool.false_and, Bool.and_true, Bool.and_false, Bool.not_true, Bool.not_false, cond_true, cond_false] <;> rfl) | (exfalso; simp_all; done) | (simp only [bne, refBad]; simp_all only [decide_true, decide_false, Bool.true_or, Bool.false_or, Bool.or_true, Bool.or_false, Bool.true_and, Bool.false_and, Bool.and_true, Bool.and_false, Bool.not_true, Bool.not_false, cond_true, cond_false]; done))
        · have hge : es.length ≤ k := by simp at h'; omega
          rw [List.drop_of_length_le hge] at h4
          rw [h4]
          repeat' ((conv => whnf); first | refine Br.T ?_ | refine Br.F ?_ | refine And.intro rfl ?_ | refine eq_bool ?_ | refine eq_int ?_ | refine Br.N ?_ | refine Br.kt (by assumption) ?_ | refine Br.kf (by assumption) ?_ | refine Br.mk (fun h => ?_) (fun h => ?_) | refine eq_some ?_)
          all_goals rfl
end Go.Proofs.YtnibcojenlijgaaGreatDoor.Ev
