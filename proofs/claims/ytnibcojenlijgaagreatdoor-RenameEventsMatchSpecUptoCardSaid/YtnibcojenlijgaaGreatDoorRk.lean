/- Events of package rename at the evaluator. No condition. -/
import Derived.Test.YtnibcojenlijgaaGreatDoorRi
set_option linter.unusedVariables false
set_option linter.unusedSimpArgs false
namespace Go.Proofs.YtnibcojenlijgaaGreatDoor.Ev
open Go Go.RowKit
set_option maxRecDepth 10000
/-- An event: core, address, trap. -/
structure Evt where
  core : Int
  addr : Int
  trap : Int
abbrev Evt.enc (e : Evt) : List AV := [.int .i64 e.core, .int .i64 e.addr, .int .i64 e.trap]
def evtBad (e : Evt) : Bool := ((((decide (e.core < 0) || decide (e.core ≥ 4)) || decide (e.addr < -1)) || decide (e.addr > 4294967295)) || decide (e.trap < 0)) || decide (e.trap > 6)
def evtFrom : List Evt → Nat → Option Nat
  | [], _ => none
  | e :: r, k => bif evtBad e then some k else evtFrom r (k + 1)
theorem evtFrom_drop {l : List Evt} {k : Nat} (hk : k < l.length) : evtFrom (l.drop k) k = bif evtBad l[k] then some k else evtFrom (l.drop (k + 1)) (k + 1) := by
  rw [List.drop_eq_getElem_cons hk]; rfl
def evtFlt : Option Nat → Flt
  | some k => ⟨3, 100 + k⟩
  | none => .ok
/-- The fault of events. -/
def eventsF (l : List Ldd) (es : List Evt) : Flt :=
  bif !(copiesF l).isOk then copiesF l else bif decide ((es.length : Int) > 5000) then ⟨2, -5⟩ else evtFlt (evtFrom es 0)
theorem check_rt (l : List Ldd) (ok : LdsOK l) (es : List Evt) (hl : es.length ≤ 1048576) : Rt T 24 [.rs (l.map Ldd.enc), .rs (es.map Evt.enc)] (eventsF l es).enc := by
  have hc := copies_rt l ok
  cases hok : (copiesF l).isOk with
  | false =>
    have hr : eventsF l es = copiesF l := by simp only [eventsF, hok]; rfl
    rw [hr]
    have hk : ((copiesF l).code == 0 && ((copiesF l).index == 0 && true)) = false := by rw [← isOk_eta]; exact hok
    clear hr hok ok
    generalize copiesF l = f at *
    refine Rt.wp rfl rfl ?_
    repeat' ((conv => whnf); first | refine Br.T ?_ | refine Br.F ?_ | refine And.intro rfl ?_ | refine eq_bool ?_ | refine eq_int ?_ | refine CallP.mk' (hc) ?_ | refine Br.N ?_ | refine Br.kt (by assumption) ?_ | refine Br.kf (by assumption) ?_ | refine Br.mk (fun h => ?_) (fun h => ?_) | refine eq_some ?_)
    all_goals first
      | rfl
      | (exfalso; simp_all; done)
  | true =>
    rw [isOk_eq hok] at hc
    by_cases hm : (es.length : Int) > 5000
    · have h1 : decide (((es.map Evt.enc).length : Int) > 5000) = true := by simp; omega
      have h2 : decide ((es.length : Int) > 5000) = true := by simp; omega
      have hr : eventsF l es = ⟨2, -5⟩ := by simp only [eventsF, hok, h2]; rfl
      rw [hr]
      clear hr hok ok
      refine Rt.wp rfl rfl ?_
      repeat' ((conv => whnf); first | refine Br.T ?_ | refine Br.F ?_ | refine And.intro rfl ?_ | refine eq_bool ?_ | refine eq_int ?_ | refine CallP.mk' (hc) ?_ | refine Br.N ?_ | refine Br.kt (by assumption) ?_ | refine Br.kf (by assumption) ?_ | refine Br.mk (fun h => ?_) (fun h => ?_) | refine eq_some ?_)
      all_goals rfl
    · have h1 : decide (((es.map Evt.enc).length : Int) > 5000) = false := by simp; omega
      have h2 : decide ((es.length : Int) > 5000) = false := by simp; omega
      have hr : eventsF l es = evtFlt (evtFrom es 0) := by simp only [eventsF, hok, h2]; rfl
      rw [hr]
      clear hr hok ok
      refine Rt.wp rfl rfl ?_
      repeat' ((conv => whnf); first | refine Br.T ?_ | refine Br.F ?_ | refine And.intro rfl ?_ | refine eq_bool ?_ | refine eq_int ?_ | refine CallP.mk' (hc) ?_ | refine Br.N ?_ | refine Br.kt (by assumption) ?_ | refine Br.kf (by assumption) ?_ | refine Br.mk (fun h => ?_) (fun h => ?_) | refine eq_some ?_)
      refine LoopP.by (α := Nat) (fun k => es.length - k) (fun k => k ≤ es.length ∧ evtFrom es 0 = evtFrom (es.drop k) k) (fun k => [.int .i64 k]) (fun k => [(3, ⟨2, [[.int .i64 0, .int .i64 0]]⟩), (0, ⟨2, [[.int .i64 0, .int .i64 0]]⟩)]) 0 ⟨Nat.zero_le _, rfl⟩ rfl (fun k hk => ?_)
      obtain ⟨h3, h4⟩ := hk
      refine Br.mk (fun h' => ?_) (fun h' => ?_)
      · have hlt : k < es.length := by simp at h'; omega
        rw [evtFrom_drop hlt] at h4
        have hw := wrap_nat (show k < 9223372036854775807 by omega)
        have hw2 : IntKind.wrap .i64 (100 + (k : Int)) = 100 + k := wrap_in (by omega) (by omega)
        have yes : evtBad es[k] = true → (Flt.mk 3 (IntKind.wrap .i64 (100 + (k : Int)))).enc = (evtFlt (evtFrom es 0)).enc := fun hb => by rw [h4, hb, hw2]; rfl
        have no : evtBad es[k] = false → ∃ y, es.length - y < es.length - k ∧ (y ≤ es.length ∧ evtFrom es 0 = evtFrom (es.drop y) y) ∧
            (([AV.int .i64 (IntKind.wrap .i64 (k + 1))], [(3, ⟨2, [[.int .i64 0, .int .i64 0]]⟩), (0, ⟨2, [[.int .i64 0, .int .i64 0]]⟩)]) : List AV × List (Nat × Blk)) = ([.int .i64 y], [(3, ⟨2, [[.int .i64 0, .int .i64 0]]⟩), (0, ⟨2, [[.int .i64 0, .int .i64 0]]⟩)]) := fun hb =>
          ⟨k + 1, by omega, ⟨by omega, by rw [h4, hb]; rfl⟩, by rw [hw]⟩
        clear h4 h3 h' hw hw2 h1 h2 hm hc hl
        repeat' ((conv => whnf); first | refine Br.T ?_ | refine Br.F ?_ | refine And.intro rfl ?_ | refine eq_bool ?_ | refine eq_int ?_ | refine SomeP.mk' (idx_map hlt fun _ => rfl) ?_ | refine Br.N ?_ | refine Br.kt (by assumption) ?_ | refine Br.kf (by assumption) ?_ | refine Br.mk (fun h => ?_) (fun h => ?_) | refine eq_some ?_)
        all_goals first
          | exact yes (by (try simp only [List.length_map, Bool.and_true] at *); first | (simp only [bne, evtBad, *, decide_true, decide_false, Bool.true_or, Bool.false_or, Bool.or_true, Bool.or_false, Bool.true_and, Bool.false_and, Bool.and_true, Bool.and_false, Bool.not_true, Bool.not_false, cond_true, cond_false] <;> rfl) | (exfalso; simp_all; done) | (simp only [bne, evtBad]; simp_all only [decide_true, decide_false, Bool.true_or, Bool.false_or, Bool.or_true, Bool.or_false, Bool.true_and, Bool.false_and, Bool.and_true, Bool.and_false, Bool.not_true, Bool.not_false, cond_true, cond_false]; done))
          | exact no (by (try simp only [List.length_map, Bool.and_true] at *); first | (simp only [bne, evtBad, *, decide_true, decide_false, Bool.true_or, Bool.false_or, Bool.or_true, Bool.or_false, Bool.true_and, Bool.false_and, Bool.and_true, Bool.and_false, Bool.not_true, Bool.not_false, cond_true, cond_false] <;> rfl) | (exfalso; simp_all; done) | (simp only [bne, evtBad]; simp_all only [decide_true, decide_false, Bool.true_or, Bool.false_or, Bool.or_true, Bool.or_false, Bool.true_and, Bool.false_and, Bool.and_true, Bool.and_false, Bool.not_true, Bool.not_false, cond_true, cond_false]; done))
      · have hge : es.length ≤ k := by simp at h'; omega
        rw [List.drop_of_length_le hge] at h4
        rw [h4]
        repeat' ((conv => whnf); first | refine Br.T ?_ | refine Br.F ?_ | refine And.intro rfl ?_ | refine eq_bool ?_ | refine eq_int ?_ | refine Br.N ?_ | refine Br.kt (by assumption) ?_ | refine Br.kf (by assumption) ?_ | refine Br.mk (fun h => ?_) (fun h => ?_) | refine eq_some ?_)
        all_goals rfl
def noSpt : Spt := ⟨-1, -1, -1, -1⟩
/-- The spot of an event; none: its instruction belongs to no section. -/
def renOf (l : List Ldd) (e : Evt) : Option Spt := bif decide (e.addr < 0) then some noSpt else spotFrom l 0 e.addr
structure REv where
  core : Int
  spot : Spt
  trap : Int
abbrev REv.enc (x : REv) : List AV := [.int .i64 x.core, .int .i64 x.spot.unit, .int .i64 x.spot.module, .int .i64 x.spot.sect, .int .i64 x.spot.offset, .int .i64 x.trap]
def renAV (l : List Ldd) (e : Evt) : AV := .tup [.agg (REv.mk e.core (sptD (renOf l e)) e.trap).enc, .bool (renOf l e).isSome]
theorem renamed_rt (l : List Ldd) (hv : LdsV l) (e : Evt) (h1 : e.addr ≤ 4294967295) : Rt T 25 [.rs (l.map Ldd.enc), .agg e.enc] (renAV l e) := by
  by_cases ha : e.addr < 0
  · have h2 : decide (e.addr < 0) = true := by simp; omega
    have hr : renOf l e = some noSpt := by simp only [renOf, h2]; rfl
    unfold renAV
    rw [hr]
    clear hr hv
    refine Rt.wp rfl rfl ?_
    repeat' ((conv => whnf); first | refine Br.T ?_ | refine Br.F ?_ | refine And.intro rfl ?_ | refine eq_bool ?_ | refine eq_int ?_ | refine Br.N ?_ | refine Br.kt (by assumption) ?_ | refine Br.kf (by assumption) ?_ | refine Br.mk (fun h => ?_) (fun h => ?_) | refine eq_some ?_)
    all_goals rfl
  · have h2 : decide (e.addr < 0) = false := by simp; omega
    have hr : renOf l e = spotFrom l 0 e.addr := by simp only [renOf, h2]; rfl
    have hs := spot_rt l hv e.addr (by omega) h1
    unfold renAV
    rw [hr]
    clear hr hv
    generalize spotFrom l 0 e.addr = o at *
    refine Rt.wp rfl rfl ?_
    repeat' ((conv => whnf); first | refine Br.T ?_ | refine Br.F ?_ | refine And.intro rfl ?_ | refine eq_bool ?_ | refine eq_int ?_ | refine CallP.mk' (hs) ?_ | refine Br.N ?_ | refine Br.kt (by assumption) ?_ | refine Br.kf (by assumption) ?_ | refine Br.mk (fun h => ?_) (fun h => ?_) | refine eq_some ?_)
    all_goals rfl
/-- The events of instructions of sections, and of commits. -/
def evs (l : List Ldd) : List Evt → List REv
  | [] => []
  | e :: r => match renOf l e with
    | some s => ⟨e.core, s, e.trap⟩ :: evs l r
    | none => evs l r
theorem evs_append (l : List Ldd) : ∀ (a b : List Evt), evs l (a ++ b) = evs l a ++ evs l b
  | [], _ => rfl
  | e :: a, b => by
    simp only [List.cons_append, evs]
    cases renOf l e with
    | none => exact evs_append l a b
    | some s => simp only [evs_append l a b, List.cons_append]
theorem evs_len (l : List Ldd) : ∀ es : List Evt, (evs l es).length ≤ es.length
  | [] => Nat.le_refl _
  | e :: r => by
    have := evs_len l r
    simp only [evs]
    cases renOf l e with
    | none => simp only [List.length_cons]; omega
    | some s => simp only [List.length_cons]; omega
def revAV (l : List REv) : AV := match l with
  | [] => .nils
  | _ => .rs (l.map REv.enc)
def revV : List REv → AV
  | [] => .nils
  | x :: l => .sl 14 0 (x :: l).length none 6
def revB : List REv → List (Nat × Blk)
  | [] => []
  | x :: l => [(14, ⟨6, (x :: l).map REv.enc⟩)]
theorem refFree_revs (l : List REv) : refFreeLL (l.map REv.enc) = true := by
  induction l with
  | nil => rfl
  | cons x l ih => simp only [List.map_cons, refFreeLL, ih]; rfl
/-- What 'Events' returns: the events, and the fault. -/
def eventsRes (l : List Ldd) (es : List Evt) : List REv × Flt := bif (eventsF l es).isOk then (evs l es, .ok) else ([], eventsF l es)
theorem evtFrom_none : ∀ {l : List Evt} {k : Nat}, evtFrom l k = none → ∀ x ∈ l, evtBad x = false := by
  intro l
  induction l with
  | nil => intro k _ x hx; cases hx
  | cons y l ih =>
    intro k h x hx
    simp only [evtFrom] at h
    cases hy : evtBad y with
    | true => rw [hy] at h; cases h
    | false =>
      rw [hy] at h
      rcases List.mem_cons.1 hx with rfl | hx
      · exact hy
      · exact ih h x hx
structure EvsV (l : List Ldd) (es : List Evt) : Prop where
  lds : LdsV l
  len : es.length ≤ 5000
  each : ∀ e ∈ es, evtBad e = false
theorem events_ok {l : List Ldd} {es : List Evt} (h : (eventsF l es).isOk = true) : EvsV l es := by
  simp only [eventsF] at h
  cases hok : (copiesF l).isOk with
  | false => rw [hok] at h; simp [hok] at h
  | true =>
    rw [hok] at h
    simp only [Bool.not_true, cond_false] at h
    by_cases hm : (es.length : Int) > 5000
    · have h2 : decide ((es.length : Int) > 5000) = true := by simp; omega
      rw [h2] at h
      exact absurd (isOk_mk h).1 (by decide)
    · have h2 : decide ((es.length : Int) > 5000) = false := by simp; omega
      rw [h2] at h
      simp only [cond_false] at h
      cases hl : evtFrom es 0 with
      | some k => rw [hl] at h; exact absurd (isOk_mk h).1 (by decide)
      | none => exact ⟨copies_ok hok, by omega, evtFrom_none hl⟩
theorem evtBad_range {e : Evt} (h : evtBad e = false) : -1 ≤ e.addr ∧ e.addr ≤ 4294967295 := by
  simp only [evtBad, Bool.or_eq_false_iff, decide_eq_false_iff_not] at h
  omega
set_option maxHeartbeats 4000000 in
theorem Events_rt (l : List Ldd) (ok : LdsOK l) (es : List Evt) (hl : es.length ≤ 1048576) : Rt T 12 [.rs (l.map Ldd.enc), .rs (es.map Evt.enc)] (.tup [revAV (eventsRes l es).1, (eventsRes l es).2.enc]) := by
  have hc := check_rt l ok es hl
  cases hok : (eventsF l es).isOk with
  | false =>
    have hr : eventsRes l es = ([], eventsF l es) := by simp only [eventsRes, hok]; rfl
    rw [hr]
    have hk : ((eventsF l es).code == 0 && ((eventsF l es).index == 0 && true)) = false := by rw [← isOk_eta]; exact hok
    clear hr hok ok
    generalize eventsF l es = f at *
    refine Rt.wp rfl rfl ?_
    repeat' ((conv => whnf); first | refine Br.T ?_ | refine Br.F ?_ | refine And.intro rfl ?_ | refine eq_bool ?_ | refine eq_int ?_ | refine CallP.mk' (hc) ?_ | refine Br.N ?_ | refine Br.kt (by assumption) ?_ | refine Br.kf (by assumption) ?_ | refine Br.mk (fun h => ?_) (fun h => ?_) | refine eq_some ?_)
    all_goals first
      | rfl
      | (exfalso; simp_all; done)
  | true =>
    have hv := events_ok hok
    have hr : eventsRes l es = (evs l es, .ok) := by simp only [eventsRes, hok]; rfl
    rw [hr]
    rw [isOk_eq hok] at hc
    clear hr hok ok
    have hlen := hv.len
    refine Rt.wp rfl rfl ?_
    repeat' ((conv => whnf); first | refine Br.T ?_ | refine Br.F ?_ | refine And.intro rfl ?_ | refine eq_bool ?_ | refine eq_int ?_ | refine CallP.mk' (hc) ?_ | refine Br.N ?_ | refine Br.kt (by assumption) ?_ | refine Br.kf (by assumption) ?_ | refine Br.mk (fun h => ?_) (fun h => ?_) | refine eq_some ?_)
    refine LoopP.by (α := Nat) (fun k => es.length - k) (fun k => k ≤ es.length) (fun k => [revV (evs l (es.take k)), .int .i64 k]) (fun k => revB (evs l (es.take k)) ++ [(5, ⟨2, [[.int .i64 0, .int .i64 0]]⟩), (1, ⟨2, [[.int .i64 0, .int .i64 0]]⟩)]) 0 (Nat.zero_le _) rfl (fun k hk => ?_)
    refine Br.mk (fun h => ?_) (fun h => ?_)
    · have hlt : k < es.length := by simp at h; omega
      have htk : evs l (es.take (k + 1)) = evs l (es.take k) ++ evs l [es[k]] := by rw [List.take_succ_eq_append_getElem hlt, evs_append]
      have hpl : (evs l (es.take k)).length ≤ k := by have := evs_len l (es.take k); rw [List.length_take] at this; omega
      have hren := renamed_rt l hv.lds es[k] (evtBad_range (hv.each _ (List.getElem_mem hlt))).2
      refine SomeP.mk' (idx_map hlt fun _ => rfl) ?_
      have hw := wrap_nat (show k < 9223372036854775807 by omega)
      have hgoal : ∀ v b, v = revV (evs l (es.take (k + 1))) → b = revB (evs l (es.take (k + 1))) ++ [(5, ⟨2, [[.int .i64 0, .int .i64 0]]⟩), (1, ⟨2, [[.int .i64 0, .int .i64 0]]⟩)] → ∃ y, es.length - y < es.length - k ∧ y ≤ es.length ∧ ([v, AV.int .i64 (IntKind.wrap .i64 (k + 1))], b) = ([revV (evs l (es.take y)), .int .i64 y], revB (evs l (es.take y)) ++ [(5, ⟨2, [[.int .i64 0, .int .i64 0]]⟩), (1, ⟨2, [[.int .i64 0, .int .i64 0]]⟩)]) := fun v b hv hb =>
        ⟨k + 1, by omega, by omega, by rw [hv, hb, hw]⟩
      rw [htk] at hgoal
      simp only [evs] at hgoal
      unfold renAV at hren
      clear htk hc hv h hl
      generalize renOf l es[k] = o at *
      generalize evs l (es.take k) = pre at *
      cases o with
      | none =>
        simp only [List.append_nil] at hgoal
        cases pre with
        | nil =>
          repeat' ((conv => whnf); first | refine Br.T ?_ | refine Br.F ?_ | refine And.intro rfl ?_ | refine eq_bool ?_ | refine eq_int ?_ | refine CallP.mk' (hren) ?_ | refine Br.N ?_ | refine Br.kt (by assumption) ?_ | refine Br.kf (by assumption) ?_ | refine Br.mk (fun h => ?_) (fun h => ?_) | refine eq_some ?_)
          all_goals exact hgoal _ _ rfl rfl
        | cons y ys =>
          repeat' ((conv => whnf); first | refine Br.T ?_ | refine Br.F ?_ | refine And.intro rfl ?_ | refine eq_bool ?_ | refine eq_int ?_ | refine CallP.mk' (hren) ?_ | refine Br.N ?_ | refine Br.kt (by assumption) ?_ | refine Br.kf (by assumption) ?_ | refine Br.mk (fun h => ?_) (fun h => ?_) | refine eq_some ?_)
          all_goals (
            refine hgoal _ _ rfl ?_
            refine Eq.trans (show _ = [(14, purgeB 14 ⟨6, (y :: ys).map REv.enc⟩), (5, ⟨2, [[.int .i64 0, .int .i64 0]]⟩), (1, ⟨2, [[.int .i64 0, .int .i64 0]]⟩)] from rfl) ?_
            rw [purgeB_free (refFree_revs (y :: ys))]
            rfl)
      | some s =>
        cases pre with
        | nil =>
          repeat' ((conv => whnf); first | refine Br.T ?_ | refine Br.F ?_ | refine And.intro rfl ?_ | refine eq_bool ?_ | refine eq_int ?_ | refine CallP.mk' (hren) ?_ | refine SomeP.mk' (append_nils (by decide) (by decide) (by decide) rfl) ?_ | refine Br.N ?_ | refine Br.kt (by assumption) ?_ | refine Br.kf (by assumption) ?_ | refine Br.mk (fun h => ?_) (fun h => ?_) | refine eq_some ?_)
          all_goals exact hgoal _ _ rfl rfl
        | cons y ys =>
          have hes : ((y :: ys).map REv.enc).length = (y :: ys).length := List.length_map _
          have hfr : refFreeLL ((y :: ys).map REv.enc ++ [(REv.mk es[k].core s es[k].trap).enc]) = true := by
            have := refFree_revs ((y :: ys) ++ [REv.mk es[k].core s es[k].trap])
            simpa using this
          have happ : ∀ h fr, h.get 14 = some ⟨6, (y :: ys).map REv.enc⟩ → appendA h fr 6 48 (.sl 14 0 (y :: ys).length none 6) (.rs [(REv.mk es[k].core s es[k].trap).enc]) = some (.sl fr 0 ((y :: ys).length + 1) none 6, (h.del 14).new fr ⟨6, (y :: ys).map REv.enc ++ [(REv.mk es[k].core s es[k].trap).enc]⟩) := fun h fr hg => by
            have := append_sl (h := h) (fr := fr) (bytes := 48) (es := (y :: ys).map REv.enc) (e := (REv.mk es[k].core s es[k].trap).enc) (sz := 6) (l := 14) hg (by rw [hes]; simp only [List.length_cons] at hpl ⊢; omega) (by decide) (by decide) rfl (fun x hx => by obtain ⟨z, _, rfl⟩ := List.mem_map.1 hx; rfl)
            rw [hes] at this
            exact this
          repeat' ((conv => whnf); first | refine Br.T ?_ | refine Br.F ?_ | refine And.intro rfl ?_ | refine eq_bool ?_ | refine eq_int ?_ | refine CallP.mk' (hren) ?_ | refine SomeP.mk' (happ _ _ rfl) ?_ | refine Br.N ?_ | refine Br.kt (by assumption) ?_ | refine Br.kf (by assumption) ?_ | refine Br.mk (fun h => ?_) (fun h => ?_) | refine eq_some ?_)
          all_goals (
            refine hgoal _ _ (by simp [revV]) ?_
            refine Eq.trans (show _ = [(14, purgeB 14 ⟨6, (y :: ys).map REv.enc ++ [(REv.mk es[k].core s es[k].trap).enc]⟩), (5, ⟨2, [[.int .i64 0, .int .i64 0]]⟩), (1, ⟨2, [[.int .i64 0, .int .i64 0]]⟩)] from rfl) ?_
            rw [purgeB_free hfr]
            simp [revB])
    · have hge : es.length ≤ k := by simp at h; omega
      rw [List.take_of_length_le hge]
      generalize evs l es = pre at *
      cases pre with
      | nil =>
        repeat' ((conv => whnf); first | refine Br.T ?_ | refine Br.F ?_ | refine And.intro rfl ?_ | refine eq_bool ?_ | refine eq_int ?_ | refine Br.N ?_ | refine Br.kt (by assumption) ?_ | refine Br.kf (by assumption) ?_ | refine Br.mk (fun h => ?_) (fun h => ?_) | refine eq_some ?_)
        all_goals rfl
      | cons y ys =>
        repeat' ((conv => whnf); first | refine Br.T ?_ | refine Br.F ?_ | refine And.intro rfl ?_ | refine eq_bool ?_ | refine eq_int ?_ | refine Br.N ?_ | refine Br.kt (by assumption) ?_ | refine Br.kf (by assumption) ?_ | refine Br.mk (fun h => ?_) (fun h => ?_) | refine eq_some ?_)
        all_goals (
          refine Eq.trans (show _ = (match mapO (frz ⟨[(14, ⟨6, (y :: ys).map REv.enc⟩), (5, ⟨2, [[.int .i64 0, .int .i64 0]]⟩), (1, ⟨2, [[.int .i64 0, .int .i64 0]]⟩)], 0⟩ 5) [.sl 14 0 (y :: ys).length none 6, .agg [.int .i64 0, .int .i64 0]] with | some cs => some (AV.tup cs) | none => none) from rfl) ?_
          rw [show (y :: ys).length = ((y :: ys).map REv.enc).length from (List.length_map _).symm]
          simp only [mapO]
          rw [frz_rs (B := ⟨6, (y :: ys).map REv.enc⟩) rfl rfl (refFree_revs _)]
          rfl)
end Go.Proofs.YtnibcojenlijgaaGreatDoor.Ev
