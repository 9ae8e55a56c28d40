/- The law of events and picks. No condition. -/
import Derived.Test.YtnibcojenlijgaaGreatDoorRl
import Derived.Test.YtnibcojenlijgaaGreatDoorFi
set_option linter.unusedVariables false
set_option linter.unusedSimpArgs false
namespace Go.Proofs.YtnibcojenlijgaaGreatDoor.Ev
open Go Go.RowKit
set_option maxRecDepth 10000
set_option maxHeartbeats 4000000
theorem events_code (l : List Ldd) (es : List Evt) : ((eventsF l es).code == 0) = (eventsF l es).isOk := by
  cases hok : (copiesF l).isOk with
  | false =>
    have hr : eventsF l es = copiesF l := by simp only [eventsF, hok]; rfl
    rw [hr]; exact copies_code l
  | true =>
    by_cases hm : (es.length : Int) > 5000
    · have h2 : decide ((es.length : Int) > 5000) = true := by simp; omega
      have hr : eventsF l es = ⟨2, -5⟩ := by simp only [eventsF, hok, h2]; rfl
      rw [hr]; rfl
    · have h2 : decide ((es.length : Int) > 5000) = false := by simp; omega
      have hr : eventsF l es = evtFlt (evtFrom es 0) := by simp only [eventsF, hok, h2]; rfl
      rw [hr]
      cases evtFrom es 0 <;> rfl
theorem spotFrom_unit (l : List Ldd) (a : Int) : ∀ (k : Nat) (s : Spt), spotFrom l k a = some s → 0 ≤ s.unit := by
  induction l with
  | nil => intro k s h; cases h
  | cons x l ih =>
    intro k s h
    rw [spotFrom] at h
    split at h
    · cases h; exact Int.natCast_nonneg k
    · exact ih _ _ h
theorem renOf_none {l : List Ldd} {e : Evt} {s : Spt} (h : renOf l e = some s) : noneB s = decide (e.addr < 0) := by
  unfold renOf at h
  cases hd : decide (e.addr < 0) with
  | true => rw [hd] at h; cases h; rfl
  | false =>
    rw [hd] at h
    have := spotFrom_unit l _ _ _ h
    have hu : (s.unit == -1) = false := by simp; omega
    simp only [noneB, hu, Bool.false_and]
theorem eventsLaw_bad (l : List Ldd) (ok : LdsOK l) (es : List Evt) (hl : es.length ≤ 1048576) (hok : (eventsF l es).isOk = false) : Rt T 4 [.rs (l.map Ldd.enc), .rs (es.map Evt.enc)] (.bool true) := by
  have hE := Events_rt l ok es hl
  have hP := Picks_rt l ok es hl
  have hF := eventsFault_rt l ok es hl
  have hc : ((eventsF l es).code == 0) = false := by rw [events_code]; exact hok
  have hr : eventsRes l es = ([], eventsF l es) := by simp only [eventsRes, hok]; rfl
  rw [hr] at hE hP
  clear hr hok ok
  generalize eventsF l es = f at *
  refine Rt.wp rfl rfl ?_
  repeat' ((conv => whnf); first | refine Br.T ?_ | refine Br.F ?_ | refine And.intro rfl ?_ | refine eq_bool ?_ | refine eq_int ?_ | refine CallP.mk' (hE) ?_ | refine CallP.mk' (hP) ?_ | refine CallP.mk' (hF) ?_ | refine CallP.mk' (example_rt) ?_ | refine Br.N ?_ | refine Br.kt (by assumption) ?_ | refine Br.kf (by assumption) ?_ | refine Br.mk (fun h => ?_) (fun h => ?_) | refine eq_some ?_)
  all_goals first
    | rfl
    | (exfalso; simp_all; done)
abbrev blkE : List (Nat × Blk) := [(22, ⟨2, [[.int .i64 0, .int .i64 0]]⟩), (16, ⟨2, [[.int .i64 0, .int .i64 0]]⟩), (7, ⟨2, [[.int .i64 0, .int .i64 0]]⟩)]
theorem evs_none {l : List Ldd} : ∀ {es : List Evt}, evs l es = [] → ∀ e ∈ es, renOf l e = none
  | [], _, e, he => by cases he
  | x :: r, h, e, he => by
    simp only [evs] at h
    split at h
    · cases h
    · rename_i hx
      rcases List.mem_cons.1 he with rfl | he
      · exact hx
      · exact evs_none h e he
theorem renOf_pos {l : List Ldd} {e : Evt} (h : decide (e.addr < 0) = false) : renOf l e = spotFrom l 0 e.addr := by unfold renOf; rw [h]; rfl
theorem renOf_neg {l : List Ldd} {e : Evt} (h : decide (e.addr < 0) = true) : renOf l e = some noSpt := by unfold renOf; rw [h]; rfl
theorem eventsLaw_none (l : List Ldd) (ok : LdsOK l) (es : List Evt) (hl : es.length ≤ 1048576) (hok : (eventsF l es).isOk = true) (hn : evs l es = []) : Rt T 4 [.rs (l.map Ldd.enc), .rs (es.map Evt.enc)] (.bool true) := by
  have hE := Events_rt l ok es hl
  have hP := Picks_rt l ok es hl
  have hF := eventsFault_rt l ok es hl
  have hv := events_ok hok
  have hr : eventsRes l es = ([], .ok) := by simp only [eventsRes, hok, hn]; rfl
  rw [hr] at hE hP
  rw [isOk_eq hok] at hF
  have hnone := evs_none hn
  have hlen := hv.len
  clear hr hok ok hn
  refine Rt.wp rfl rfl ?_
  repeat' ((conv => whnf); first | refine Br.T ?_ | refine Br.F ?_ | refine And.intro rfl ?_ | refine eq_bool ?_ | refine eq_int ?_ | refine CallP.mk' (hE) ?_ | refine CallP.mk' (hP) ?_ | refine CallP.mk' (hF) ?_ | refine CallP.mk' (example_rt) ?_ | refine Br.N ?_ | refine Br.kt (by assumption) ?_ | refine Br.kf (by assumption) ?_ | refine Br.mk (fun h => ?_) (fun h => ?_) | refine eq_some ?_)
  refine LoopP.by (α := Nat) (fun k => es.length - k) (fun k => k ≤ es.length) (fun k => [.int .i64 0, .int .i64 k]) (fun k => blkE) 0 (Nat.zero_le _) rfl (fun k hk => ?_)
  refine Br.mk (fun h => ?_) (fun h => ?_)
  · have hlt : k < es.length := by simp at h; omega
    have hr := evtBad_range (hv.each _ (List.getElem_mem hlt))
    have hG := SpotOf_rt l hv.lds es[k].addr hr.1 hr.2
    have hno := hnone _ (List.getElem_mem hlt)
    have hd : decide (es[k].addr < 0) = false := by
      cases hd : decide (es[k].addr < 0) with
      | false => rfl
      | true => rw [renOf_neg hd] at hno; cases hno
    rw [renOf_pos hd] at hno
    rw [hno] at hG
    have hw := wrap_nat (show k < 9223372036854775807 by omega)
    have hgoal : ∃ y, es.length - y < es.length - k ∧ y ≤ es.length ∧ ([AV.int .i64 0, AV.int .i64 (IntKind.wrap .i64 (k + 1))], blkE) = ([AV.int .i64 0, .int .i64 y], blkE) := ⟨k + 1, by omega, by omega, by rw [hw]⟩
    have hI := idx_map (enc := Evt.enc) (sz := 3) hlt fun _ => rfl
    clear hno hr hw hnone hv h hl hlen hE hP hF
    repeat' ((conv => whnf); first | refine Br.T ?_ | refine Br.F ?_ | refine And.intro rfl ?_ | refine eq_bool ?_ | refine eq_int ?_ | refine SomeP.mk' (hI) ?_ | refine CallP.mk' (hG) ?_ | refine Br.N ?_ | refine Br.kt (by assumption) ?_ | refine Br.kf (by assumption) ?_ | refine Br.mk (fun h => ?_) (fun h => ?_) | refine eq_some ?_)
    all_goals exact hgoal
  · repeat' ((conv => whnf); first | refine Br.T ?_ | refine Br.F ?_ | refine And.intro rfl ?_ | refine eq_bool ?_ | refine eq_int ?_ | refine Br.N ?_ | refine Br.kt (by assumption) ?_ | refine Br.kf (by assumption) ?_ | refine Br.mk (fun h => ?_) (fun h => ?_) | refine eq_some ?_)
    all_goals rfl
theorem eventsLaw_some (l : List Ldd) (ok : LdsOK l) (es : List Evt) (hl : es.length ≤ 1048576) (hok : (eventsF l es).isOk = true) (hn : evs l es ≠ []) : Rt T 4 [.rs (l.map Ldd.enc), .rs (es.map Evt.enc)] (.bool true) := by
  have hE := Events_rt l ok es hl
  have hP := Picks_rt l ok es hl
  have hF := eventsFault_rt l ok es hl
  have hv := events_ok hok
  have hr : eventsRes l es = (evs l es, .ok) := by simp only [eventsRes, hok]; rfl
  rw [hr] at hE hP
  rw [isOk_eq hok] at hF
  have hpn : (evs l es).map pkOf ≠ [] := fun h => hn (List.map_eq_nil_iff.1 h)
  rw [revAV_rs hn] at hE
  rw [pkAV_rs hpn] at hP
  have hlen := hv.len
  have hml := evs_len l es
  clear hr hok ok hn hpn
  refine Rt.wp rfl rfl ?_
  repeat' ((conv => whnf); first | refine Br.T ?_ | refine Br.F ?_ | refine And.intro rfl ?_ | refine eq_bool ?_ | refine eq_int ?_ | refine CallP.mk' (hE) ?_ | refine CallP.mk' (hP) ?_ | refine CallP.mk' (hF) ?_ | refine CallP.mk' (example_rt) ?_ | refine Br.N ?_ | refine Br.kt (by assumption) ?_ | refine Br.kf (by assumption) ?_ | refine Br.mk (fun h => ?_) (fun h => ?_) | refine eq_some ?_)
  refine LoopP.by (α := Nat) (fun k => es.length - k) (fun k => k ≤ es.length) (fun k => [.int .i64 (evs l (es.take k)).length, .int .i64 k]) (fun k => blkE) 0 (Nat.zero_le _) rfl (fun k hk => ?_)
  refine Br.mk (fun h => ?_) (fun h => ?_)
  · have hlt : k < es.length := by simp at h; omega
    have hr := evtBad_range (hv.each _ (List.getElem_mem hlt))
    have hG := SpotOf_rt l hv.lds es[k].addr hr.1 hr.2
    have hw := wrap_nat (show k < 9223372036854775807 by omega)
    have hI := idx_map (enc := Evt.enc) (sz := 3) hlt fun _ => rfl
    have htk : evs l (es.take (k + 1)) = evs l (es.take k) ++ evs l [es[k]] := by rw [List.take_succ_eq_append_getElem hlt, evs_append]
    have hsplit : evs l es = evs l (es.take k) ++ (evs l [es[k]] ++ evs l (es.drop (k + 1))) := by
      rw [← evs_append, ← evs_append]
      congr 1
      rw [List.singleton_append, ← List.drop_eq_getElem_cons hlt, List.take_append_drop]
    cases hren : renOf l es[k] with
    | none =>
      have hd : decide (es[k].addr < 0) = false := by
        cases hd : decide (es[k].addr < 0) with
        | false => rfl
        | true => rw [renOf_neg hd] at hren; cases hren
      have hs := hren
      rw [renOf_pos hd] at hs
      rw [hs] at hG
      simp only [evs, hren, List.append_nil] at htk
      have hgoal : ∃ y, es.length - y < es.length - k ∧ y ≤ es.length ∧ ([AV.int .i64 (evs l (es.take k)).length, AV.int .i64 (IntKind.wrap .i64 (k + 1))], blkE) = ([AV.int .i64 (evs l (es.take y)).length, .int .i64 y], blkE) := ⟨k + 1, by omega, by omega, by rw [hw, htk]⟩
      clear hs hren htk hsplit hr hw hv h hl hlen hE hP hF
      generalize (evs l (es.take k)).length = n at *
      repeat' ((conv => whnf); first | refine Br.T ?_ | refine Br.F ?_ | refine And.intro rfl ?_ | refine eq_bool ?_ | refine eq_int ?_ | refine SomeP.mk' (hI) ?_ | refine CallP.mk' (hG) ?_ | refine Br.N ?_ | refine Br.kt (by assumption) ?_ | refine Br.kf (by assumption) ?_ | refine Br.mk (fun h => ?_) (fun h => ?_) | refine eq_some ?_)
      all_goals exact hgoal
    | some s =>
      have hcm := renOf_none hren
      simp only [evs, hren, List.singleton_append] at htk hsplit
      have hnl : (evs l (es.take k)).length < (evs l es).length := by rw [hsplit]; simp
      have hat : (evs l es)[(evs l (es.take k)).length]'hnl = ⟨es[k].core, s, es[k].trap⟩ := by simp [hsplit]
      have hnl' : (evs l (es.take k)).length < ((evs l es).map pkOf).length := by rw [List.length_map]; exact hnl
      have hatP : ((evs l es).map pkOf)[(evs l (es.take k)).length]'hnl' = ⟨es[k].core, decide (es[k].addr < 0)⟩ := by rw [List.getElem_map, hat, ← hcm]; rfl
      have hM := idx_map (enc := REv.enc) (sz := 6) hnl fun _ => rfl
      have hQ := idx_map (enc := Pk.enc) (sz := 2) hnl' fun _ => rfl
      rw [hat] at hM
      rw [hatP] at hQ
      have hl1 : decide (((evs l (es.take k)).length : Int) ≥ (((evs l es).map REv.enc).length : Int)) = false := by simp; omega
      have hl2 : decide (((evs l (es.take k)).length : Int) ≥ ((((evs l es).map pkOf).map Pk.enc).length : Int)) = false := by simp; omega
      have hwn := wrap_nat (show (evs l (es.take k)).length < 9223372036854775807 by omega)
      have hlk : ((evs l (es.take (k + 1))).length) = (evs l (es.take k)).length + 1 := by rw [htk]; simp
      have hgoal : ∃ y, es.length - y < es.length - k ∧ y ≤ es.length ∧ ([AV.int .i64 (IntKind.wrap .i64 (((evs l (es.take k)).length : Int) + 1)), AV.int .i64 (IntKind.wrap .i64 (k + 1))], blkE) = ([AV.int .i64 (evs l (es.take y)).length, .int .i64 y], blkE) := ⟨k + 1, by omega, by omega, by rw [hw, hlk, hwn]⟩
      have hsp : decide (es[k].addr < 0) = true ∧ s = noSpt ∨ decide (es[k].addr < 0) = false ∧ spotFrom l 0 es[k].addr = some s := by
        cases hd : decide (es[k].addr < 0) with
        | true => rw [renOf_neg hd] at hren; cases hren; exact .inl ⟨rfl, rfl⟩
        | false => rw [renOf_pos hd] at hren; exact .inr ⟨rfl, hren⟩
      clear hcm hat hatP hnl hnl' hwn hlk hren htk hsplit hr hw hv h hl hlen hE hP hF hml
      generalize (evs l (es.take k)).length = n at *
      generalize es[k] = e at *
      have y1 : (decide (e.addr < 0) == decide (e.addr < 0)) = true := beq_self_eq_true _
      have y2 : ∀ x : Int, (x == x) = true := fun x => beq_self_eq_true _
      rcases hsp with ⟨hd, rfl⟩ | ⟨hd, hs⟩
      · generalize spotFrom l 0 e.addr = o at *
        repeat' ((conv => whnf); first | refine Br.T ?_ | refine Br.F ?_ | refine And.intro rfl ?_ | refine eq_bool ?_ | refine eq_int ?_ | refine SomeP.mk' (hI) ?_ | refine CallP.mk' (hG) ?_ | refine SomeP.mk' (hM) ?_ | refine SomeP.mk' (hQ) ?_ | refine Br.N ?_ | refine Br.kt (by assumption) ?_ | refine Br.kf (by assumption) ?_ | refine Br.mk (fun h => ?_) (fun h => ?_) | refine eq_some ?_)
        all_goals first
          | exact hgoal
          | (exfalso; simp_all [noSpt]; done)
      · rw [hs] at hG
        repeat' ((conv => whnf); first | refine Br.T ?_ | refine Br.F ?_ | refine And.intro rfl ?_ | refine eq_bool ?_ | refine eq_int ?_ | refine SomeP.mk' (hI) ?_ | refine CallP.mk' (hG) ?_ | refine SomeP.mk' (hM) ?_ | refine SomeP.mk' (hQ) ?_ | refine Br.N ?_ | refine Br.kt (by assumption) ?_ | refine Br.kf (by assumption) ?_ | refine Br.mk (fun h => ?_) (fun h => ?_) | refine eq_some ?_)
        all_goals first
          | exact hgoal
          | (exfalso; simp_all [sptD]; done)
  · have hge : es.length ≤ k := by simp at h; omega
    rw [List.take_of_length_le hge]
    have z1 : (((evs l es).length : Int) == (((evs l es).map REv.enc).length : Int)) = true := by simp
    have z2 : (((evs l es).length : Int) == ((((evs l es).map pkOf).map Pk.enc).length : Int)) = true := by simp
    clear hge h hk hv hE hP hF
    repeat' ((conv => whnf); first | refine Br.T ?_ | refine Br.F ?_ | refine And.intro rfl ?_ | refine eq_bool ?_ | refine eq_int ?_ | refine Br.N ?_ | refine Br.kt (by assumption) ?_ | refine Br.kf (by assumption) ?_ | refine Br.mk (fun h => ?_) (fun h => ?_) | refine eq_some ?_)
    all_goals first
      | rfl
      | exact z2
      | exact z2.symm
      | exact congrArg AV.bool z2
      | (exfalso; simp_all; done)
theorem eventsLaw_rt (l : List Ldd) (ok : LdsOK l) (es : List Evt) (hl : es.length ≤ 1048576) : Rt T 4 [.rs (l.map Ldd.enc), .rs (es.map Evt.enc)] (.bool true) := by
  cases hok : (eventsF l es).isOk with
  | false => exact eventsLaw_bad l ok es hl hok
  | true =>
    by_cases hn : evs l es = []
    · exact eventsLaw_none l ok es hl hok hn
    · exact eventsLaw_some l ok es hl hok hn
/-! ### Events as arguments -/
abbrev kEvt : List CK := [cI, cI, cI]
theorem dec_evt {q : List AV} (h : FitsL kEvt q) : ∃ x : Evt, q = x.enc ∧ True := by
  obtain ⟨a0, r0, rfl, f0, h⟩ := h.cons
  obtain ⟨a1, r1, rfl, f1, h⟩ := h.cons
  obtain ⟨a2, r2, rfl, f2, h⟩ := h.cons
  obtain rfl := h.isNil
  obtain ⟨x0, rfl, w0⟩ := fits_int f0
  obtain ⟨x1, rfl, w1⟩ := fits_int f1
  obtain ⟨x2, rfl, w2⟩ := fits_int f2
  exact ⟨⟨x0, x1, x2⟩, rfl, trivial⟩
end Go.Proofs.YtnibcojenlijgaaGreatDoor.Ev
