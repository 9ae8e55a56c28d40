/- RenameSameIsEquality: 'Same' reports whether two lists of events have the same elements in the same order; the law returns true for every input. Conditions: none beyond the row's own (the package-level variable rename.none as the text lays it). -/
import Derived.Test.YtnibcojenlijgaaDoorEv25
import Derived.Test.YtnibcojenlijgaaDoorEv28
import Derived.Test.YtnibcojenlijgaaDoorCards
import Derived.Test.YtnibcojenlijgaaDoorTie
import Derived.WalkKit
import Derived.ProofKit
import Derived.OpenShut
import Derived.Deep.DeepHandedRow
set_option linter.unusedVariables false
set_option linter.unusedSimpArgs false
namespace Go.Proofs.YtnibcojenlijgaaDoor.renameSame
open Go Go.ChangeShapes Go.WideShapes Go.ChangeAt Go.RowKit Go.Proofs.YtnibcojenlijgaaDoor.Ev
set_option maxRecDepth 100000

theorem own : ownKnob Tryd.prog.godebug = none := by kernel_rfl
theorem gNone : Tryd.prog.globalNamed "linkhouse/rename.none" = some 0 := by kernel_rfl
theorem laidOut : laidOutB Tryd.prog = true := by kernel_rfl

theorem glob {W : World} (h : laidMetH Tryd.prog Rows.renameSameIsEqualityRow.laid W) : GlobOK cfg (snap W) := by
  intro g cs hg
  cases g with
  | succ g => cases hg
  | zero =>
    have e : cs = avT Tryd.prog 3 (((Tryd.prog.globals[0]?).map (·.type)).getD 0) (Rows.laid_linkhouse_rename_none (H := Unit)) := by
      cases hg
      kernel_rfl
    rw [e]
    exact glob_laid gNone (show (Tryd.prog.globals[0]?).map (·.type) = some (((Tryd.prog.globals[0]?).map (·.type)).getD 0) by kernel_rfl) (by kernel_rfl) h

theorem under48 : ∃ e, Tryd.prog.underlying 48 = some (.slice e) := ⟨67, by kernel_rfl⟩
theorem under4 : Tryd.prog.underlying 4 = some .bool := by kernel_rfl
theorem results4 : Tryd.f4.resultTypes = #[4] := by kernel_rfl
theorem kinds48 : kindsT Tryd.prog 5 48 = [.sl [.int .i64, .int .i64, .int .i64, .int .i64, .int .i64, .int .i64]] := by kernel_rfl
theorem ok48 : okT Tryd.prog 5 48 = true := by kernel_rfl

theorem ev_of {q : List AV} (h : FitsL [.int .i64, .int .i64, .int .i64, .int .i64, .int .i64, .int .i64] q) : ∃ x : SEv, q = x.enc := by
  obtain ⟨a1, r1, rfl, f1, h⟩ := h.cons
  obtain ⟨a2, r2, rfl, f2, h⟩ := h.cons
  obtain ⟨a3, r3, rfl, f3, h⟩ := h.cons
  obtain ⟨a4, r4, rfl, f4, h⟩ := h.cons
  obtain ⟨a5, r5, rfl, f5, h⟩ := h.cons
  obtain ⟨a6, r6, rfl, f6, h⟩ := h.cons
  have := h.isNil
  subst this
  cases f1; cases f2; cases f3; cases f4; cases f5; cases f6
  exact ⟨⟨_, _, _, _, _, _⟩, rfl⟩
theorem evs_of : ∀ {es : List (List AV)}, (∀ q ∈ es, FitsL [.int .i64, .int .i64, .int .i64, .int .i64, .int .i64, .int .i64] q) → ∃ l : List SEv, es = l.map SEv.enc := by
  intro es
  induction es with
  | nil => intro _; exact ⟨[], rfl⟩
  | cons q es ih =>
    intro h
    obtain ⟨x, hx⟩ := ev_of (h q (List.mem_cons_self ..))
    obtain ⟨l, hl⟩ := ih fun p hp => h p (List.mem_cons_of_mem _ hp)
    exact ⟨x :: l, by rw [hx, hl]; rfl⟩
theorem arg48 {H : Type} {enc : TypeId × Value → H} {W : World} {v : Value} {d : DataW H} {ps : List MemPlace} {base : Nat} (hval : Value.okWide Tryd.prog W .any base 48 v) (h : DataW.Trod enc Tryd.prog W 0 (fun _ => true) true 48 v d ps) :
    ∃ l : List SEv, l.length ≤ maxLen ∧ Rel (snap W) noSg (.rs (l.map SEv.enc)) v := by
  have h1 := arg_rel ok48 hval h
  obtain ⟨e, he⟩ := under48
  obtain ⟨es, h2, h3, h4⟩ := arg_sl he kinds48 (arg_fits ok48 h)
  obtain ⟨l, rfl⟩ := evs_of h4
  rw [h2] at h1
  exact ⟨l, by simpa using h3, h1⟩

/-- What the law does, for every argument and every world that holds the variable. -/
theorem contract (H : Type) (enc : TypeId × Value → H) (W : World) (base : Nat) (args : Array Value) (ds gs : List (DataW H)) (before : List MemPlace)
    (hval : ∀ (j : Nat) t v, Tryd.f4.params[j]? = some t → args[j]? = some v → Value.okWide Tryd.prog W .any base t v)
    (hW : DataW.Whole enc Tryd.prog Tryd.f4.params.toList Rows.renameSameIsEqualitySpec.vars false W args.toList ds gs before) (hL : laidMetH Tryd.prog Rows.renameSameIsEqualityRow.laid W) :
    Calls Tryd.prog 4 args W fun e W' => ∃ v, e = .returned v ∧ Rows.renameSameIsEqualitySpec.post enc Tryd.prog Tryd.f4 false true false false W args v W' := by
  have hW' := hW
  obtain ⟨p, q, hA0, hV, rfl, hfz, hnd⟩ := hW
  have hA : DataW.TrodAll enc Tryd.prog W 0 (fun _ => true) true Tryd.f4.params.toList args.toList ds p := hA0
  rw [Tryd.params4] at hA hval
  obtain ⟨v0, vs0, d0, ds0, p0, q0, hargs, rfl, rfl, h0, r0⟩ := trodAll_cons hA
  obtain ⟨v1, vs1, d1, ds1, p1, q1, hargs1, rfl, rfl, h1, r1⟩ := trodAll_cons r0
  obtain ⟨rfl, rfl, rfl⟩ := trodAll_nil r1
  subst hargs1
  obtain rfl : args = #[v0, v1] := by cases args; simp_all
  obtain ⟨rfl, rfl⟩ := trodVars_none hV
  obtain ⟨a, la, ra⟩ := arg48 (hval 0 48 v0 rfl rfl) h0
  obtain ⟨b, lb, rb⟩ := arg48 (hval 1 48 v1 rfl rfl) h1
  have walk := law_calls (C := cfg) (F4 a b la).sound (W := W) (vargs := #[v0, v1]) (glob hL) (.cons ra (.cons rb .nil))
  refine Calls.mono (P := Tryd.prog) walk fun e W' ⟨he, hb, hz⟩ => ?_
  subst he
  have hlt0 : ∀ x ∈ p0, x.block < W.heap.size := fun x hx => hW'.lt x (by simp [hx])
  have hlt1 : ∀ x ∈ p1, x.block < W.heap.size := fun x hx => hW'.lt x (by simp [hx])
  have stay : ∀ (sp : Nat → Bool) (v : Value) (d : DataW H) (ps : List MemPlace), DataW.Trod enc Tryd.prog W 0 (fun _ => true) true 48 v d ps → (∀ x ∈ ps, x.block < W.heap.size) → (∀ x ∈ ps, sp x.block = true) → DataW.Trod enc Tryd.prog W' 0 sp true 48 v d ps :=
    fun sp v d ps h hlt hsp => WideElems.Trod_stays laidOut (by kernel_rfl) (of_decide_eq_true (by kernel_rfl)) h (fun x hx => hb.same (hlt x hx)) hsp
  refine ⟨_, rfl, post_of_same (pa := p0 ++ (p1 ++ [])) (pv := []) hW' (fun _ _ _ => ?_) (fun sp hsp => ?_) (fun _ _ => rfl) rfl (hb.frame _) hz (ok_one results4 rfl (okWide_bool_mk under4 _))⟩
  · rw [results4]
    exact trodAll_cons_mk (shut_bool under4 _) trodAll_mk0
  · rw [Tryd.params4]
    exact trodAll_cons_mk (stay sp _ _ _ h0 hlt0 fun x hx => hsp x (by simp [hx])) (trodAll_cons_mk (stay sp _ _ _ h1 hlt1 fun x hx => hsp x (by simp [hx])) trodAll_mk0)

/-- A world for the witness: the settled one, the variable holding what its statement lays. -/
noncomputable def laidWorld (os : Os) : World :=
  { World.holding Tryd.prog os ⟨#[], #[], []⟩ with heap := (World.holding Tryd.prog os ⟨#[], #[], []⟩).heap.modify 0 fun
      | .cells _ t frozen => .cells #[.int .i64 (-1), .int .i64 (-1), .int .i64 (-1), .int .i64 (-1)] t frozen
      | o => o }
theorem laid_met (os : Os) : laidMet Tryd.prog Rows.renameSameIsEqualityRow.laid ((laidWorld os).forCall (fun _ _ => 0) ⟨#[], #[.slice none 0 0, .slice none 0 0], []⟩).memory :=
  laidMet_of_run' 8 (by kernel_rfl) (by kernel_rfl)
theorem reads (os : Os) {H : Type} (enc : TypeId × Value → H) : ∃ places, DataW.whole enc Tryd.prog ((laidWorld os).forCall (fun _ _ => 0) ⟨#[], #[.slice none 0 0, .slice none 0 0], []⟩).memory Tryd.f4.params.toList Rows.renameSameIsEqualitySpec.vars false #[Value.slice none 0 0, Value.slice none 0 0].toList 8 = some ([.nil, .nil], [], places) :=
  ⟨[], by kernel_rfl⟩
theorem lifted (os : Os) (started : os.Started) (H : Type) (enc : TypeId × Value → H) (F : Stop.Interp) :
    ReturnsInHanded {} Tryd.checked os 4 .any ((OpenSpec.ofChange Rows.renameSameIsEqualitySpec).preRow enc Tryd.prog Tryd.f4 Rows.renameSameIsEqualityRow.domain false Rows.renameSameIsEqualityRow.laid) (((OpenSpec.ofChange Rows.renameSameIsEqualitySpec).at F).post enc Tryd.prog Tryd.f4 false true false false) := by
  obtain ⟨places, hx⟩ := reads os enc
  refine returnsInHanded_of_row (C := Tryd.checked) (s := OpenSpec.ofChange Rows.renameSameIsEqualitySpec) own started (by kernel_rfl) Tryd.func4
    (witness_row_at (enc := enc) (C := Tryd.checked) false (laidWorld os) #[.slice none 0 0, .slice none 0 0] rfl (by kernel_rfl) (by kernel_rfl) (by kernel_rfl)
      (OpenSpec.preRow_of_cond 8 hx (by kernel_rfl) (fun k hk => by cases hk) (by kernel_rfl) (laid_met os))) ?_
  intro W base args ds gs before hval hW _ _ _ hL _ _
  exact contract H enc W base args ds gs before hval hW hL
theorem said : Rows.RenameSameIsEqualitySaid :=
  OpenClaim.holds_of_cond 4 Tryd.f4 rfl rfl rfl rfl rfl rfl rfl ⟨rfl, rfl, rfl, rfl, rfl⟩ rfl rfl rfl rfl rfl (by kernel_rfl) Tryd.func4 (by kernel_rfl)
    (of_decide_eq_true (by kernel_rfl)) (by unfold Func.isWrapper; first | (rw [if_pos (by decide +kernel)]; kernel_rfl) | (rw [if_neg (by decide +kernel)]; exact ⟨rfl, rfl⟩))
    (fun os started H enc _ F => by rw [OpenClaim.pre_eq_preRow]; exact lifted os started H enc F)
theorem plain (f : FuncId) (fn : Func) (hf : Tryd.pinned.checked.prog.funcNamed "linkhouse/linkhouselaw6.RenameSameIsEquality" = some f) (hfn : Tryd.pinned.checked.prog.funcs[f]? = some fn) :
    false = Tryd.pinned.checked.prog.looks [] ∧ ∀ (j : Nat) t, fn.params[j]? = some t → Tryd.pinned.checked.prog.wantsStandIn t = false := by
  obtain rfl : f = 4 := Option.some.inj ((show Tryd.prog.funcNamed "linkhouse/linkhouselaw6.RenameSameIsEquality" = some 4 by kernel_rfl).symm.trans hf) |>.symm
  obtain rfl : fn = Tryd.f4 := (Option.some.inj (Tryd.func4.symm.trans hfn)).symm
  refine ⟨by kernel_rfl, fun j t ht => ?_⟩
  rw [Tryd.params4] at ht
  obtain rfl : t = 48 := by simpa using Array.mem_of_getElem? ht
  exact (show Tryd.prog.wantsStandIn 48 = false by kernel_rfl)
/-- The card. -/
theorem card : Rows.RenameSameIsEqualityCardSaid :=
  Claim7.holds_tied_plain_at .later [] _ _ _ _ said (fun _ h => by cases h) (by kernel_rfl) (fun _ h => by cases h) renameSameIsEquality_row_tie rfl ⟨rfl, rfl⟩ (by kernel_rfl) rfl plain (by kernel_rfl)
#print axioms card
end Go.Proofs.YtnibcojenlijgaaDoor.renameSame
