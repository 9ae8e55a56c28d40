/- RenameEventsMatchSpec: Events and Picks answer as the specification says; the law returns true for every input of the row's bulk. Conditions: none beyond the row's own (the package-level variable rename.none as the text lays it; the arguments of bulk at most 1048576). -/
import Derived.Test.YtnibcojenlijgaaGreatDoorRm
import Derived.Test.YtnibcojenlijgaaGreatDoorFi
import Derived.Test.YtnibcojenlijgaaGreatDoorCards
import Derived.Test.YtnibcojenlijgaaGreatDoorTie
import Derived.WalkKit
import Derived.ProofKit
import Derived.OpenShut
import Derived.Deep.DeepHandedRow
set_option linter.unusedVariables false
set_option linter.unusedSimpArgs false
namespace Go.Proofs.YtnibcojenlijgaaGreatDoor.renameEventsMatchSpecUpto
open Go Go.ChangeShapes Go.WideShapes Go.ChangeAt Go.RowKit Go.Proofs.YtnibcojenlijgaaGreatDoor.Ev
set_option maxRecDepth 100000
theorem own : ownKnob Tryz.prog.godebug = none := by kernel_rfl
theorem gNone : Tryz.prog.globalNamed "linkhouse/rename.none" = some 0 := by kernel_rfl
theorem laidOut : laidOutB Tryz.prog = true := by kernel_rfl
theorem glob {W : World} (h : laidMetH Tryz.prog Rows.renameEventsMatchSpecUptoRow.laid W) : GlobOK cfg (snap W) := by
  intro g cs hg
  cases g with
  | succ g => cases hg
  | zero =>
    have e : cs = avT Tryz.prog 3 (((Tryz.prog.globals[0]?).map (·.type)).getD 0) (Rows.laid_linkhouse_rename_none (H := Unit)) := by
      cases hg
      kernel_rfl
    rw [e]
    exact glob_laid gNone (show (Tryz.prog.globals[0]?).map (·.type) = some (((Tryz.prog.globals[0]?).map (·.type)).getD 0) by kernel_rfl) (by kernel_rfl) h
theorem underB : Tryz.prog.underlying 4 = some .bool := by kernel_rfl
theorem resultsF : Tryz.f4.resultTypes = #[4] := by kernel_rfl
theorem one_le {H : Type} (d : DataW H) : 1 ≤ Rows.uptoBulk d := by
  cases d with
  | lit l => cases l <;> simp [Rows.uptoBulk]
  | nil => simp [Rows.uptoBulk]
  | ptr d => simp [Rows.uptoBulk]
  | slice elems spare => simp [Rows.uptoBulk]
  | agg parts => simp [Rows.uptoBulk]
  | iface t d => simp [Rows.uptoBulk]
  | map entries => simp [Rows.uptoBulk]
  | held h => simp [Rows.uptoBulk]
theorem part_le {H : Type} {d : DataW H} {l : List (DataW H)} (h : d ∈ l) : Rows.uptoBulk d ≤ Rows.uptoBulkAll l := by
  induction l with
  | nil => cases h
  | cons x r ih =>
    simp only [Rows.uptoBulkAll]
    cases List.mem_cons.1 h with
    | inl e => subst e; omega
    | inr e => have := ih e; omega
theorem length_le {H : Type} (l : List (DataW H)) : l.length ≤ Rows.uptoBulkAll l := by
  induction l with
  | nil => simp [Rows.uptoBulkAll]
  | cons x r ih => have := one_le x; simp only [Rows.uptoBulkAll, List.length_cons]; omega
theorem bound {H : Type} {l : List (DataW H)} (hk : Rows.uptoSmall H l = true) : Rows.uptoBulkAll l ≤ 1048576 := of_decide_eq_true hk
theorem arg_bulk {P : Program} {H : Type} {n : Nat} {t e : TypeId} {d : DataW H} {es : List (List AV)} (hu : P.underlying t = some (.slice e)) (h : argAV P (n + 1) t d = .rs es) : es.length ≤ Rows.uptoBulk d := by
  unfold argAV at h
  rw [hu] at h
  simp only [avT, hu] at h
  cases d with
  | nil => simp at h; subst h; simp
  | slice elems spare =>
    simp at h
    subst h
    have := length_le elems
    simp only [Rows.uptoBulk, List.length_map]
    omega
  | lit l => simp at h
  | ptr d => simp at h
  | agg parts => simp at h
  | iface t d => simp at h
  | map entries => simp at h
  | held h => simp at h
theorem ok22 : okT Tryz.prog 9 22 = true := by kernel_rfl
theorem kinds22 : kindsT Tryz.prog 9 22 = [.sl kLdd] := by kernel_rfl
theorem under22 : ∃ e, Tryz.prog.underlying 22 = some (.slice e) := is_slice (by kernel_rfl)
theorem arg22 {H : Type} {enc : TypeId × Value → H} {W : World} {v : Value} {d : DataW H} {ps : List MemPlace} {base : Nat} (hval : Value.okWide Tryz.prog W .any base 22 v) (h : DataW.Trod enc Tryz.prog W 0 (fun _ => true) true 22 v d ps) :
    ∃ l : List Ldd, l.length ≤ maxLen ∧ (∀ x ∈ l, (x.img.ok ∧ x.bias ≤ 9223372036854775807)) ∧ Rel (snap W) noSg (.rs (l.map Ldd.enc)) v ∧ l.length ≤ Rows.uptoBulk d := by
  have h1 := arg_rel ok22 hval h
  have h2 := arg_fits ok22 h
  rw [kinds22] at h2
  obtain ⟨a, r, hx, f1, h3⟩ := h2.cons
  obtain rfl := h3.isNil
  obtain ⟨l, rfl, hl, hok⟩ := fits_sl (fun q hq => dec_ldd hq) f1
  obtain ⟨e, he⟩ := under22
  have ha : argAV Tryz.prog 9 22 d = .rs (l.map Ldd.enc) := by
    unfold argAV
    rw [he, hx]
  rw [ha] at h1
  exact ⟨l, hl, hok, h1, by have := arg_bulk he ha; simpa using this⟩
theorem ok56 : okT Tryz.prog 9 56 = true := by kernel_rfl
theorem kinds56 : kindsT Tryz.prog 9 56 = [.sl kEvt] := by kernel_rfl
theorem under56 : ∃ e, Tryz.prog.underlying 56 = some (.slice e) := is_slice (by kernel_rfl)
theorem arg56 {H : Type} {enc : TypeId × Value → H} {W : World} {v : Value} {d : DataW H} {ps : List MemPlace} {base : Nat} (hval : Value.okWide Tryz.prog W .any base 56 v) (h : DataW.Trod enc Tryz.prog W 0 (fun _ => true) true 56 v d ps) :
    ∃ l : List Evt, l.length ≤ maxLen ∧ (∀ x ∈ l, True) ∧ Rel (snap W) noSg (.rs (l.map Evt.enc)) v ∧ l.length ≤ Rows.uptoBulk d := by
  have h1 := arg_rel ok56 hval h
  have h2 := arg_fits ok56 h
  rw [kinds56] at h2
  obtain ⟨a, r, hx, f1, h3⟩ := h2.cons
  obtain rfl := h3.isNil
  obtain ⟨l, rfl, hl, hok⟩ := fits_sl (fun q hq => dec_evt hq) f1
  obtain ⟨e, he⟩ := under56
  have ha : argAV Tryz.prog 9 56 d = .rs (l.map Evt.enc) := by
    unfold argAV
    rw [he, hx]
  rw [ha] at h1
  exact ⟨l, hl, hok, h1, by have := arg_bulk he ha; simpa using this⟩
theorem contract (H : Type) (enc : TypeId × Value → H) (W : World) (base : Nat) (args : Array Value) (ds gs : List (DataW H)) (before : List MemPlace)
    (hval : ∀ (j : Nat) t v, Tryz.f4.params[j]? = some t → args[j]? = some v → Value.okWide Tryz.prog W .any base t v)
    (hW : DataW.Whole enc Tryz.prog Tryz.f4.params.toList Rows.renameEventsMatchSpecSpec.vars false W args.toList ds gs before) (hL : laidMetH Tryz.prog Rows.renameEventsMatchSpecUptoRow.laid W) (hk : Rows.uptoSmall H (ds ++ gs) = true) :
    Calls Tryz.prog 4 args W fun e W' => ∃ v, e = .returned v ∧ Rows.renameEventsMatchSpecSpec.post enc Tryz.prog Tryz.f4 false true false false W args v W' := by
  have hW' := hW
  obtain ⟨p, q, hA0, hV, rfl, hfz, hnd⟩ := hW
  have hA : DataW.TrodAll enc Tryz.prog W 0 (fun _ => true) true Tryz.f4.params.toList args.toList ds p := hA0
  rw [Tryz.params4] at hA hval
  obtain ⟨v0, vs0, d0, ds0, p0, q0, hargs0, rfl, rfl, h0, t0⟩ := trodAll_cons hA
  obtain ⟨v1, vs1, d1, ds1, p1, q1, hargs1, rfl, rfl, h1, t1⟩ := trodAll_cons t0
  obtain ⟨rfl, rfl, rfl⟩ := trodAll_nil t1
  subst hargs1
  obtain rfl : args = #[v0, v1] := by cases args; simp_all
  obtain ⟨rfl, rfl⟩ := trodVars_none hV
  rw [List.append_nil] at hk
  obtain ⟨x0, l0, o0, r0, b0⟩ := arg22 (hval 0 22 v0 rfl rfl) h0
  have m0 : x0.length ≤ 1048576 := by have h1 := bound hk; have h2 : Rows.uptoBulk d0 ≤ Rows.uptoBulkAll [d0, d1] := part_le (by simp); omega
  obtain ⟨x1, l1, o1, r1, b1⟩ := arg56 (hval 1 56 v1 rfl rfl) h1
  have m1 : x1.length ≤ 1048576 := by have h1 := bound hk; have h2 : Rows.uptoBulk d1 ≤ Rows.uptoBulkAll [d0, d1] := part_le (by simp); omega
  have walk := law_calls (C := cfg) (eventsLaw_rt x0 ⟨m0, fun x hx => (o0 x hx).1⟩ x1 m1).sound (W := W) (vargs := #[v0, v1]) (glob hL) (.cons r0 (.cons r1 .nil))
  refine Calls.mono (P := Tryz.prog) walk fun e W' ⟨he, hb, hz⟩ => ?_
  subst he
  have hlt0 : ∀ x ∈ p0, x.block < W.heap.size := fun x hx => hW'.lt x (by simp [hx])
  have hlt1 : ∀ x ∈ p1, x.block < W.heap.size := fun x hx => hW'.lt x (by simp [hx])
  have stay22 : ∀ (sp : Nat → Bool) (v : Value) (d : DataW H) (ps : List MemPlace), DataW.Trod enc Tryz.prog W 0 (fun _ => true) true 22 v d ps → (∀ x ∈ ps, x.block < W.heap.size) → (∀ x ∈ ps, sp x.block = true) → DataW.Trod enc Tryz.prog W' 0 sp true 22 v d ps :=
    fun sp v d ps h hlt hsp => WideElems.Trod_stays laidOut (by kernel_rfl) (of_decide_eq_true (by kernel_rfl)) h (fun x hx => hb.same (hlt x hx)) hsp
  have stay56 : ∀ (sp : Nat → Bool) (v : Value) (d : DataW H) (ps : List MemPlace), DataW.Trod enc Tryz.prog W 0 (fun _ => true) true 56 v d ps → (∀ x ∈ ps, x.block < W.heap.size) → (∀ x ∈ ps, sp x.block = true) → DataW.Trod enc Tryz.prog W' 0 sp true 56 v d ps :=
    fun sp v d ps h hlt hsp => WideElems.Trod_stays laidOut (by kernel_rfl) (of_decide_eq_true (by kernel_rfl)) h (fun x hx => hb.same (hlt x hx)) hsp
  refine ⟨_, rfl, post_of_same (pa := (p0 ++ (p1 ++ []))) (pv := []) hW' (fun _ _ _ => ?_) (fun sp hsp => ?_) (fun _ _ => rfl) rfl (hb.frame _) hz (ok_one resultsF rfl (okWide_bool_mk underB _))⟩
  · rw [resultsF]
    exact trodAll_cons_mk (shut_bool underB _) trodAll_mk0
  · rw [Tryz.params4]
    exact (trodAll_cons_mk (stay22 sp _ _ _ h0 hlt0 fun x hx => hsp x (by simp [hx])) (trodAll_cons_mk (stay56 sp _ _ _ h1 hlt1 fun x hx => hsp x (by simp [hx])) trodAll_mk0))
noncomputable def laidWorld (os : Os) : World :=
  { World.holding Tryz.prog os ⟨#[], #[], []⟩ with heap := (World.holding Tryz.prog os ⟨#[], #[], []⟩).heap.modify 0 fun
      | .cells _ t frozen => .cells #[.int .i64 (-1), .int .i64 (-1), .int .i64 (-1), .int .i64 (-1)] t frozen
      | o => o }
theorem laid_met (os : Os) : laidMet Tryz.prog Rows.renameEventsMatchSpecUptoRow.laid ((laidWorld os).forCall (fun _ _ => 0) ⟨#[], #[.slice none 0 0, .slice none 0 0], []⟩).memory :=
  laidMet_of_run' 8 (by kernel_rfl) (by kernel_rfl)
theorem reads (os : Os) {H : Type} (enc : TypeId × Value → H) : ∃ places, DataW.whole enc Tryz.prog ((laidWorld os).forCall (fun _ _ => 0) ⟨#[], #[.slice none 0 0, .slice none 0 0], []⟩).memory Tryz.f4.params.toList Rows.renameEventsMatchSpecSpec.vars false #[Value.slice none 0 0, .slice none 0 0].toList 8 = some ([.nil, .nil], [], places) :=
  ⟨[], by kernel_rfl⟩
theorem lifted (os : Os) (started : os.Started) (H : Type) (enc : TypeId × Value → H) (F : Stop.Interp) :
    ReturnsInHanded {} Tryz.checked os 4 .any ((Rows.OpenSpec.upto Rows.renameEventsMatchSpecSpec).preRow enc Tryz.prog Tryz.f4 Rows.renameEventsMatchSpecUptoRow.domain false Rows.renameEventsMatchSpecUptoRow.laid) (((Rows.OpenSpec.upto Rows.renameEventsMatchSpecSpec).at F).post enc Tryz.prog Tryz.f4 false true false false) := by
  obtain ⟨places, hx⟩ := reads os enc
  refine returnsInHanded_of_row (C := Tryz.checked) (s := (Rows.OpenSpec.upto Rows.renameEventsMatchSpecSpec)) own started (by kernel_rfl) Tryz.func4
    (witness_row_at (enc := enc) (C := Tryz.checked) false (laidWorld os) #[.slice none 0 0, .slice none 0 0] rfl (by kernel_rfl) (by kernel_rfl) (by kernel_rfl)
      (OpenSpec.preRow_of_cond 8 hx (by kernel_rfl) (fun k hk => by cases hk; kernel_rfl) (by kernel_rfl) (laid_met os))) ?_
  intro W base args ds gs before hval hW _ hcond _ hL _ _
  exact contract H enc W base args ds gs before hval hW hL (hcond _ rfl)
theorem said : Rows.RenameEventsMatchSpecUptoSaid :=
  OpenClaim.holds_of_cond 4 Tryz.f4 rfl rfl rfl rfl rfl rfl rfl ⟨rfl, rfl, rfl, rfl, rfl⟩ rfl rfl rfl rfl rfl (by kernel_rfl) Tryz.func4 (by kernel_rfl)
    (of_decide_eq_true (by kernel_rfl)) (by unfold Func.isWrapper; first | (rw [if_pos (by decide +kernel)]; kernel_rfl) | (rw [if_neg (by decide +kernel)]; exact ⟨rfl, rfl⟩))
    (fun os started H enc _ F => by rw [OpenClaim.pre_eq_preRow]; exact lifted os started H enc F)
theorem plain (f : FuncId) (fn : Func) (hf : Tryz.pinned.checked.prog.funcNamed "linkhouse/linkhouselaw6.RenameEventsMatchSpec" = some f) (hfn : Tryz.pinned.checked.prog.funcs[f]? = some fn) :
    false = Tryz.pinned.checked.prog.looks [] ∧ ∀ (j : Nat) t, fn.params[j]? = some t → Tryz.pinned.checked.prog.wantsStandIn t = false := by
  obtain rfl : f = 4 := Option.some.inj ((show Tryz.prog.funcNamed "linkhouse/linkhouselaw6.RenameEventsMatchSpec" = some 4 by kernel_rfl).symm.trans hf) |>.symm
  obtain rfl : fn = Tryz.f4 := (Option.some.inj (Tryz.func4.symm.trans hfn)).symm
  refine ⟨by kernel_rfl, fun j t ht => ?_⟩
  rw [Tryz.params4] at ht
  have hm : t ∈ [22, 56] := by simpa using Array.mem_of_getElem? ht
  have all : ∀ t ∈ [22, 56], Tryz.prog.wantsStandIn t = false := by
    intro t ht
    simp only [List.mem_cons, List.not_mem_nil, or_false] at ht
    rcases ht with rfl | rfl
    all_goals kernel_rfl
  exact all t hm
/-- The card. -/
theorem card : Rows.RenameEventsMatchSpecUptoCardSaid :=
  Claim7.holds_tied_plain_at .later [] _ _ _ _ said (fun _ h => by cases h) (by kernel_rfl) (fun _ h => by cases h) renameEventsMatchSpecUpto_row_tie rfl ⟨rfl, rfl⟩ (by kernel_rfl) rfl plain (by kernel_rfl)
#print axioms card
end Go.Proofs.YtnibcojenlijgaaGreatDoor.renameEventsMatchSpecUpto
