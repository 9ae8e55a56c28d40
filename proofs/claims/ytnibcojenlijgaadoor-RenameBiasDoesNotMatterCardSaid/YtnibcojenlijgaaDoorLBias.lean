/- RenameBiasDoesNotMatter: if the bias of the only image and all addresses increase alike, the spots stay the same; the law returns true for every input. Conditions: none beyond the row's own (the package-level variable rename.none as the text lays it). -/
import Derived.Test.YtnibcojenlijgaaDoorFh
import Derived.Test.YtnibcojenlijgaaDoorFi
import Derived.Test.YtnibcojenlijgaaDoorCards
import Derived.Test.YtnibcojenlijgaaDoorTie
import Derived.WalkKit
import Derived.ProofKit
import Derived.OpenShut
import Derived.Deep.DeepHandedRow
set_option linter.unusedVariables false
set_option linter.unusedSimpArgs false
namespace Go.Proofs.YtnibcojenlijgaaDoor.renameBiasDoesNotMatter
open Go Go.ChangeShapes Go.WideShapes Go.ChangeAt Go.RowKit Go.Proofs.YtnibcojenlijgaaDoor.Ev
set_option maxRecDepth 100000
theorem own : ownKnob Tryd.prog.godebug = none := by kernel_rfl
theorem gNone : Tryd.prog.globalNamed "linkhouse/rename.none" = some 0 := by kernel_rfl
theorem laidOut : laidOutB Tryd.prog = true := by kernel_rfl
theorem glob {W : World} (h : laidMetH Tryd.prog Rows.renameBiasDoesNotMatterRow.laid W) : GlobOK cfg (snap W) := by
  intro g cs hg
  cases g with
  | succ g => cases hg
  | zero =>
    have e : cs = avT Tryd.prog 3 (((Tryd.prog.globals[0]?).map (·.type)).getD 0) (Rows.laid_linkhouse_rename_none (H := Unit)) := by
      cases hg
      kernel_rfl
    rw [e]
    exact glob_laid gNone (show (Tryd.prog.globals[0]?).map (·.type) = some (((Tryd.prog.globals[0]?).map (·.type)).getD 0) by kernel_rfl) (by kernel_rfl) h
theorem underB : Tryd.prog.underlying 4 = some .bool := by kernel_rfl
theorem resultsF : Tryd.f3.resultTypes = #[4] := by kernel_rfl
theorem ok37 : okT Tryd.prog 7 37 = true := by kernel_rfl
theorem kinds37 : kindsT Tryd.prog 7 37 = kLdd := by kernel_rfl
theorem under37 : ∃ fs, Tryd.prog.underlying 37 = some (.struct fs) := is_struct (by kernel_rfl)
theorem arg37 {H : Type} {enc : TypeId × Value → H} {W : World} {v : Value} {d : DataW H} {ps : List MemPlace} {base : Nat} (hval : Value.okWide Tryd.prog W .any base 37 v) (h : DataW.Trod enc Tryd.prog W 0 (fun _ => true) true 37 v d ps) :
    ∃ x : Ldd, (x.img.ok ∧ x.bias ≤ 9223372036854775807) ∧ Rel (snap W) noSg (.agg x.enc) v := by
  have h1 := arg_rel ok37 hval h
  have h2 := arg_fits ok37 h
  rw [kinds37] at h2
  obtain ⟨x, hx, hok⟩ := dec_ldd h2
  obtain ⟨fs, hfs⟩ := under37
  unfold argAV at h1
  rw [hfs] at h1
  simp only at h1
  rw [hx] at h1
  exact ⟨x, hok, h1⟩
theorem ok3 : okT Tryd.prog 7 3 = true := by kernel_rfl
theorem kinds3 : kindsT Tryd.prog 7 3 = [cI] := by kernel_rfl
theorem under3 : Tryd.prog.underlying 3 = some (.int .i64) := by kernel_rfl
theorem arg3 {H : Type} {enc : TypeId × Value → H} {W : World} {v : Value} {d : DataW H} {ps : List MemPlace} {base : Nat} (hval : Value.okWide Tryd.prog W .any base 3 v) (h : DataW.Trod enc Tryd.prog W 0 (fun _ => true) true 3 v d ps) :
    ∃ n : Int, (-9223372036854775808 ≤ n ∧ n ≤ 9223372036854775807) ∧ Rel (snap W) noSg (.int .i64 n) v := by
  have h1 := arg_rel ok3 hval h
  have h2 := arg_fits ok3 h
  rw [kinds3] at h2
  obtain ⟨a, r, hx, f1, h3⟩ := h2.cons
  obtain rfl := h3.isNil
  obtain ⟨n, rfl, hw⟩ := fits_int f1
  unfold argAV at h1
  rw [under3] at h1
  simp only at h1
  rw [hx] at h1
  exact ⟨n, i64_range hw, h1⟩
theorem contract (H : Type) (enc : TypeId × Value → H) (W : World) (base : Nat) (args : Array Value) (ds gs : List (DataW H)) (before : List MemPlace)
    (hval : ∀ (j : Nat) t v, Tryd.f3.params[j]? = some t → args[j]? = some v → Value.okWide Tryd.prog W .any base t v)
    (hW : DataW.Whole enc Tryd.prog Tryd.f3.params.toList Rows.renameBiasDoesNotMatterSpec.vars false W args.toList ds gs before) (hL : laidMetH Tryd.prog Rows.renameBiasDoesNotMatterRow.laid W) :
    Calls Tryd.prog 3 args W fun e W' => ∃ v, e = .returned v ∧ Rows.renameBiasDoesNotMatterSpec.post enc Tryd.prog Tryd.f3 false true false false W args v W' := by
  have hW' := hW
  obtain ⟨p, q, hA0, hV, rfl, hfz, hnd⟩ := hW
  have hA : DataW.TrodAll enc Tryd.prog W 0 (fun _ => true) true Tryd.f3.params.toList args.toList ds p := hA0
  rw [Tryd.params3] at hA hval
  obtain ⟨v0, vs0, d0, ds0, p0, q0, hargs0, rfl, rfl, h0, t0⟩ := trodAll_cons hA
  obtain ⟨v1, vs1, d1, ds1, p1, q1, hargs1, rfl, rfl, h1, t1⟩ := trodAll_cons t0
  obtain ⟨v2, vs2, d2, ds2, p2, q2, hargs2, rfl, rfl, h2, t2⟩ := trodAll_cons t1
  obtain ⟨rfl, rfl, rfl⟩ := trodAll_nil t2
  subst hargs1
  subst hargs2
  obtain rfl : args = #[v0, v1, v2] := by cases args; simp_all
  obtain ⟨rfl, rfl⟩ := trodVars_none hV
  obtain ⟨x0, o0, r0⟩ := arg37 (hval 0 37 v0 rfl rfl) h0
  obtain ⟨x1, o1, r1⟩ := arg3 (hval 1 3 v1 rfl rfl) h1
  obtain ⟨x2, o2, r2⟩ := arg3 (hval 2 3 v2 rfl rfl) h2
  have walk := law_calls (C := cfg) (bias_rt x0 o0.1 o0.2 x1 x2).sound (W := W) (vargs := #[v0, v1, v2]) (glob hL) (.cons r0 (.cons r1 (.cons r2 .nil)))
  refine Calls.mono (P := Tryd.prog) walk fun e W' ⟨he, hb, hz⟩ => ?_
  subst he
  have hlt0 : ∀ x ∈ p0, x.block < W.heap.size := fun x hx => hW'.lt x (by simp [hx])
  have hlt1 : ∀ x ∈ p1, x.block < W.heap.size := fun x hx => hW'.lt x (by simp [hx])
  have hlt2 : ∀ x ∈ p2, x.block < W.heap.size := fun x hx => hW'.lt x (by simp [hx])
  have stay3 : ∀ (sp : Nat → Bool) (v : Value) (d : DataW H) (ps : List MemPlace), DataW.Trod enc Tryd.prog W 0 (fun _ => true) true 3 v d ps → (∀ x ∈ ps, x.block < W.heap.size) → (∀ x ∈ ps, sp x.block = true) → DataW.Trod enc Tryd.prog W' 0 sp true 3 v d ps :=
    fun sp v d ps h hlt hsp => WideElems.Trod_stays laidOut (by kernel_rfl) (of_decide_eq_true (by kernel_rfl)) h (fun x hx => hb.same (hlt x hx)) hsp
  have stay37 : ∀ (sp : Nat → Bool) (v : Value) (d : DataW H) (ps : List MemPlace), DataW.Trod enc Tryd.prog W 0 (fun _ => true) true 37 v d ps → (∀ x ∈ ps, x.block < W.heap.size) → (∀ x ∈ ps, sp x.block = true) → DataW.Trod enc Tryd.prog W' 0 sp true 37 v d ps :=
    fun sp v d ps h hlt hsp => WideElems.Trod_stays laidOut (by kernel_rfl) (of_decide_eq_true (by kernel_rfl)) h (fun x hx => hb.same (hlt x hx)) hsp
  refine ⟨_, rfl, post_of_same (pa := (p0 ++ (p1 ++ (p2 ++ [])))) (pv := []) hW' (fun _ _ _ => ?_) (fun sp hsp => ?_) (fun _ _ => rfl) rfl (hb.frame _) hz (ok_one resultsF rfl (okWide_bool_mk underB _))⟩
  · rw [resultsF]
    exact trodAll_cons_mk (shut_bool underB _) trodAll_mk0
  · rw [Tryd.params3]
    exact (trodAll_cons_mk (stay37 sp _ _ _ h0 hlt0 fun x hx => hsp x (by simp [hx])) (trodAll_cons_mk (stay3 sp _ _ _ h1 hlt1 fun x hx => hsp x (by simp [hx])) (trodAll_cons_mk (stay3 sp _ _ _ h2 hlt2 fun x hx => hsp x (by simp [hx])) trodAll_mk0)))
noncomputable def laidWorld (os : Os) : World :=
  { World.holding Tryd.prog os ⟨#[], #[], []⟩ with heap := (World.holding Tryd.prog os ⟨#[], #[], []⟩).heap.modify 0 fun
      | .cells _ t frozen => .cells #[.int .i64 (-1), .int .i64 (-1), .int .i64 (-1), .int .i64 (-1)] t frozen
      | o => o }
theorem laid_met (os : Os) : laidMet Tryd.prog Rows.renameBiasDoesNotMatterRow.laid ((laidWorld os).forCall (fun _ _ => 0) ⟨#[], #[.agg #[.string ⟨#[]⟩, .bool false, .slice none 0 0, .int .i64 0, .slice none 0 0, .slice none 0 0, .slice none 0 0, .slice none 0 0, .int .i64 0, .slice none 0 0, .slice none 0 0, .slice none 0 0, .int .i64 0, .slice none 0 0, .slice none 0 0, .slice none 0 0, .slice none 0 0, .slice none 0 0, .slice none 0 0, .int .i64 0, .int .i64 0, .int .i64 0], .int .i64 0, .int .i64 0], []⟩).memory :=
  laidMet_of_run' 8 (by kernel_rfl) (by kernel_rfl)
theorem reads (os : Os) {H : Type} (enc : TypeId × Value → H) : ∃ places, DataW.whole enc Tryd.prog ((laidWorld os).forCall (fun _ _ => 0) ⟨#[], #[.agg #[.string ⟨#[]⟩, .bool false, .slice none 0 0, .int .i64 0, .slice none 0 0, .slice none 0 0, .slice none 0 0, .slice none 0 0, .int .i64 0, .slice none 0 0, .slice none 0 0, .slice none 0 0, .int .i64 0, .slice none 0 0, .slice none 0 0, .slice none 0 0, .slice none 0 0, .slice none 0 0, .slice none 0 0, .int .i64 0, .int .i64 0, .int .i64 0], .int .i64 0, .int .i64 0], []⟩).memory Tryd.f3.params.toList Rows.renameBiasDoesNotMatterSpec.vars false #[Value.agg #[.string ⟨#[]⟩, .bool false, .slice none 0 0, .int .i64 0, .slice none 0 0, .slice none 0 0, .slice none 0 0, .slice none 0 0, .int .i64 0, .slice none 0 0, .slice none 0 0, .slice none 0 0, .int .i64 0, .slice none 0 0, .slice none 0 0, .slice none 0 0, .slice none 0 0, .slice none 0 0, .slice none 0 0, .int .i64 0, .int .i64 0, .int .i64 0], .int .i64 0, .int .i64 0].toList 8 = some ([.agg [.agg [.lit (.string []), .lit (.bool false), .nil, .lit (.int .i64 0), .nil, .nil, .nil, .nil, .lit (.int .i64 0), .nil, .nil, .nil, .lit (.int .i64 0), .nil, .nil, .nil, .nil, .nil, .nil], .lit (.int .i64 0), .lit (.int .i64 0), .lit (.int .i64 0)], .lit (.int .i64 0), .lit (.int .i64 0)], [], places) :=
  ⟨[], by kernel_rfl⟩
theorem lifted (os : Os) (started : os.Started) (H : Type) (enc : TypeId × Value → H) (F : Stop.Interp) :
    ReturnsInHanded {} Tryd.checked os 3 .any ((OpenSpec.ofChange Rows.renameBiasDoesNotMatterSpec).preRow enc Tryd.prog Tryd.f3 Rows.renameBiasDoesNotMatterRow.domain false Rows.renameBiasDoesNotMatterRow.laid) (((OpenSpec.ofChange Rows.renameBiasDoesNotMatterSpec).at F).post enc Tryd.prog Tryd.f3 false true false false) := by
  obtain ⟨places, hx⟩ := reads os enc
  refine returnsInHanded_of_row (C := Tryd.checked) (s := (OpenSpec.ofChange Rows.renameBiasDoesNotMatterSpec)) own started (by kernel_rfl) Tryd.func3
    (witness_row_at (enc := enc) (C := Tryd.checked) false (laidWorld os) #[.agg #[.string ⟨#[]⟩, .bool false, .slice none 0 0, .int .i64 0, .slice none 0 0, .slice none 0 0, .slice none 0 0, .slice none 0 0, .int .i64 0, .slice none 0 0, .slice none 0 0, .slice none 0 0, .int .i64 0, .slice none 0 0, .slice none 0 0, .slice none 0 0, .slice none 0 0, .slice none 0 0, .slice none 0 0, .int .i64 0, .int .i64 0, .int .i64 0], .int .i64 0, .int .i64 0] rfl (by kernel_rfl) (by kernel_rfl) (by kernel_rfl)
      (OpenSpec.preRow_of_cond 8 hx (by kernel_rfl) (fun k hk => by cases hk) (by kernel_rfl) (laid_met os))) ?_
  intro W base args ds gs before hval hW _ _ _ hL _ _
  exact contract H enc W base args ds gs before hval hW hL
theorem said : Rows.RenameBiasDoesNotMatterSaid :=
  OpenClaim.holds_of_cond 3 Tryd.f3 rfl rfl rfl rfl rfl rfl rfl ⟨rfl, rfl, rfl, rfl, rfl⟩ rfl rfl rfl rfl rfl (by kernel_rfl) Tryd.func3 (by kernel_rfl)
    (of_decide_eq_true (by kernel_rfl)) (by unfold Func.isWrapper; first | (rw [if_pos (by decide +kernel)]; kernel_rfl) | (rw [if_neg (by decide +kernel)]; exact ⟨rfl, rfl⟩))
    (fun os started H enc _ F => by rw [OpenClaim.pre_eq_preRow]; exact lifted os started H enc F)
theorem plain (f : FuncId) (fn : Func) (hf : Tryd.pinned.checked.prog.funcNamed "linkhouse/linkhouselaw6.RenameBiasDoesNotMatter" = some f) (hfn : Tryd.pinned.checked.prog.funcs[f]? = some fn) :
    false = Tryd.pinned.checked.prog.looks [] ∧ ∀ (j : Nat) t, fn.params[j]? = some t → Tryd.pinned.checked.prog.wantsStandIn t = false := by
  obtain rfl : f = 3 := Option.some.inj ((show Tryd.prog.funcNamed "linkhouse/linkhouselaw6.RenameBiasDoesNotMatter" = some 3 by kernel_rfl).symm.trans hf) |>.symm
  obtain rfl : fn = Tryd.f3 := (Option.some.inj (Tryd.func3.symm.trans hfn)).symm
  refine ⟨by kernel_rfl, fun j t ht => ?_⟩
  rw [Tryd.params3] at ht
  have hm : t ∈ [37, 3, 3] := by simpa using Array.mem_of_getElem? ht
  have all : ∀ t ∈ [37, 3, 3], Tryd.prog.wantsStandIn t = false := by
    intro t ht
    simp only [List.mem_cons, List.not_mem_nil, or_false] at ht
    rcases ht with rfl | rfl | rfl
    all_goals kernel_rfl
  exact all t hm
/-- The card. -/
theorem card : Rows.RenameBiasDoesNotMatterCardSaid :=
  Claim7.holds_tied_plain_at .later [] _ _ _ _ said (fun _ h => by cases h) (by kernel_rfl) (fun _ h => by cases h) renameBiasDoesNotMatter_row_tie rfl ⟨rfl, rfl⟩ (by kernel_rfl) rfl plain (by kernel_rfl)
#print axioms card
end Go.Proofs.YtnibcojenlijgaaDoor.renameBiasDoesNotMatter
