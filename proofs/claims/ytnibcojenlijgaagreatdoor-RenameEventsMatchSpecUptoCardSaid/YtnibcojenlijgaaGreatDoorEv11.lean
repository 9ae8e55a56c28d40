/- Each operation's law, joined. No condition. -/
import Derived.Test.YtnibcojenlijgaaGreatDoorEv10
set_option linter.unusedVariables false
set_option linter.unusedSimpArgs false
namespace Go.Proofs.YtnibcojenlijgaaGreatDoor.Ev
open Go Go.RowKit
section
variable {C : Cfg} {K : Kn} {σ : Sg} {e : Env} {h : Hp} {w : World} {a : Act}

theorem st_app (hS : Sim K σ h w) {o : Oper} {c : Call} {t tx et : TypeId} {x z : Operand} (ho : o.op = .call c) (hc : c.callee = .builtin .append) (htys : c.argTypes.toList = [t, tx]) (hargs : c.args.toList = [x, z]) (ht : C.P.underlying t = some (.slice et)) {ex : TypeId} (htx : C.P.underlying tx = some (.slice ex))
    {sz by_ : Nat} {zz : List AV} (hsz : sizeT C.P et = some sz) (hby : bytesT C.P et = some by_) (hz : zeroT C.P et = some zz) (hzs : zz.length = sz) {y u : Opd} (hx : Rel K σ (y.ev e) (a.eval x)) (hu : Rel K σ (u.ev e) (a.eval z)) {fr : Nat} (hf : σ fr = none) {v : AV} {h' : Hp}
    (hs : (RO.app sz by_ y u).step e h fr = some (v, h')) : DoneAt C K σ h w a fr v h' o := by
  obtain ⟨callee, args, tys⟩ := c
  simp only at hc htys hargs
  subst hc
  obtain rfl : args = #[x, z] := by cases args; simp_all
  obtain rfl : tys = #[t, tx] := by cases tys; simp_all
  obtain ⟨i, zv, hi, hiz, hzr, -⟩ := zeroT_some (K := K) (σ := σ) hz
  have hisz : i.size = sz := by unfold sizeT at hsz; simpa [hi] using hsz
  have hiby : i.bytes = by_ := by unfold bytesT at hby; simpa [hi] using hby
  have hzvs : zv.cells.size = sz := by have := hzr.1; simp at this; omega
  have hrun : (execOp a.eval o).run C.P w = ((Builtin.append_ #[t, tx] o.type #[a.eval x, a.eval z]).run C.P w).andThen fun v w' => .ok (.value v) w' := by
    simp [execOp, ho, resolve, invoke, builtin]
  simp only [RO.step] at hs
  show Done K σ h w fr v h' ((execOp a.eval o).run C.P w)
  rw [hrun]
  generalize y.ev e = p at *
  generalize u.ev e = q at *
  generalize a.eval x = X at *
  generalize a.eval z = Z at *
  generalize o.type = ty at *
  unfold appendA at hs
  cases ho : elemsOf h p with
  | none => simp [ho] at hs
  | some old =>
    cases hn : elemsOf h q with
    | none => simp [ho, hn] at hs
    | some new =>
      simp only [ho, hn] at hs
      split at hs
      · rename_i hc
        obtain ⟨c1, c2, c3, c4⟩ := hc
        have hlo : ∀ e ∈ old, e.length = sz := fun e he => c2 e (List.mem_append_left _ he)
        have hln : ∀ e ∈ new, e.length = sz := fun e he => c2 e (List.mem_append_right _ he)
        obtain ⟨ao, n, cap, olds, hX, hno, hncap, ro, so, -⟩ := elems_src hS hx ho hlo (tx := t) ht
        obtain ⟨ao', n', cap', news, hZ, hno', hncap', rn, sn, -⟩ := elems_src hS hu hn hln (tx := tx) htx
        subst hX
        subst hno'
        subst hiby
        cases hx <;> simp only [reduceCtorEq] at hs
        case nils =>
          simp only [elemsOf, Option.some.injEq] at ho
          subst ho
          simp only [List.length_nil, Nat.zero_add] at hs c1 hno
          split at hs
          · rename_i hne
            subst hne
            simp only [Option.some.injEq, Prod.mk.injEq] at hs
            obtain ⟨rfl, rfl⟩ := hs
            have hrn : news = [] := List.eq_nil_of_length_eq_zero (by rw [rn.1]; rfl)
            subst hrn
            have := run_append_nothing (P := C.P) w t tx ty et i ht hi none 0 0 (Nat.le_refl _) Z (by rw [hisz]; exact sn)
            exact Done.pure hS (by rw [this]; rfl) .nils
          · rename_i hne
            simp only [Option.some.injEq, Prod.mk.injEq] at hs
            obtain ⟨rfl, rfl⟩ := hs
            have hpos : 0 < new.length := List.length_pos_iff.2 hne
            have := append_grow hS hf ht hi hiz hisz hzvs hlo hln rfl ro rn so sn (by omega) c3 (by simpa using c1) rfl (ty := ty)
            simpa using this
        case sl _ l off cc zz' xx _ _ _ _ _ =>
          have hσ : σ l = some xx := by assumption
          have hz' : xx.sz = zz' := by assumption
          have hcap : ∀ k, cc = some k → k = cap := by assumption
          have htt : xx.base + (off + cap) * zz' ≤ xx.tot := by assumption
          cases cc with
          | none =>
            simp only at hs
            cases hl : h.get l with
            | none => simp [hl] at hs
            | some B =>
              simp only [hl] at hs
              cases hb1 : Nat.beq (off + n) B.es.length with
              | false => simp [hb1] at hs
              | true =>
                cases hb2 : Nat.beq off 0 with
                | false => simp [hb1, hb2] at hs
                | true =>
                  cases hb3 : Nat.beq zz' sz with
                  | false => simp [hb1, hb2, hb3] at hs
                  | true =>
                    simp only [hb1, hb2, hb3, Bool.and_true, cond_true, Option.some.injEq, Prod.mk.injEq] at hs
                    obtain ⟨rfl, rfl⟩ := hs
                    obtain rfl := Nat.eq_of_beq_eq_true hb2
                    obtain rfl := Nat.eq_of_beq_eq_true hb3
                    have hbl : n = B.es.length := by have := Nat.eq_of_beq_eq_true hb1; omega
                    have hold : old = B.es := by
                      have hble : Nat.ble (0 + n) B.es.length = true := Nat.ble_eq_true_of_le (by omega)
                      simp only [elemsOf, hl, hble, cond_true, Option.some.injEq] at ho
                      rw [← ho, hbl]
                      simp
                    subst hold
                    rw [← hno]
                    simp only [Nat.zero_mul, Nat.add_zero, Nat.zero_add] at *
                    by_cases hroom : n + new.length ≤ cap
                    · have := append_room hS hf ht hi hisz hl hσ hz' hln hbl rn sn hroom htt rfl (ty := ty)
                      exact this
                    · have hS' := hS.del l
                      have := append_grow hS' hf ht hi hiz hisz hzvs hlo hln hno ro rn so sn (by omega) c3 (by rw [hno]; exact c1) rfl (ty := ty)
                      obtain ⟨V, w', K', σ', g1, g2, g3, g4, g5⟩ := this
                      exact ⟨V, w', K', σ', g1, g2, g3, Ext.del.trans g4, g5⟩
          | some k =>
            simp only at hs
            split at hs
            · cases hs
            · rename_i hgt
              simp only [Option.some.injEq, Prod.mk.injEq] at hs
              obtain ⟨rfl, rfl⟩ := hs
              have hk := hcap k rfl
              rw [← hno]
              exact append_grow hS hf ht hi hiz hisz hzvs hlo hln hno ro rn so sn (by omega) c3 (by rw [hno]; exact c1) rfl (ty := ty)
      · cases hs

theorem st_mks (hS : Sim K σ h w) {o : Oper} {t et : TypeId} {x z : Operand} (ho : o.op = .makeSlice t x z) (ht : C.P.underlying t = some (.slice et)) {zz : List AV} {by_ : Nat} (hsz : sizeT C.P et = some zz.length) (hby : bytesT C.P et = some by_) (hz : zeroT C.P et = some zz)
    {y u : Opd} (hx : Rel K σ (y.ev e) (a.eval x)) (hu : Rel K σ (u.ev e) (a.eval z)) {fr : Nat} (hf : σ fr = none) {v : AV} {h' : Hp} (hs : (RO.mks zz by_ y u).step e h fr = some (v, h')) : DoneAt C K σ h w a fr v h' o := by
  obtain ⟨i, zv, hi, hiz, hzr, hzo⟩ := zeroT_some (K := K) (σ := σ) hz
  have hiby : i.bytes = by_ := by unfold bytesT at hby; simpa [hi] using hby
  subst hiby
  simp only [RO.step] at hs
  generalize y.ev e = p at *
  generalize u.ev e = q at *
  generalize hX : a.eval x = X at *
  generalize hZ : a.eval z = Z at *
  cases hx <;> cases hu <;> try (simp only [reduceCtorEq] at hs; done)
  case int.int k n k' m =>
    cases k <;> cases k' <;> try (simp only [reduceCtorEq] at hs; done)
    simp only at hs
    split at hs
    · rename_i hc
      obtain ⟨c1, rfl, c3, c4, c5, c6⟩ := hc
      cases hone : oneL zz with
      | false => simp [hone] at hs
      | true =>
        simp only [hone, cond_true, Option.some.injEq, Prod.mk.injEq] at hs
        obtain ⟨rfl, rfl⟩ := hs
        obtain ⟨m, rfl⟩ := Int.eq_ofNat_of_zero_le c1
        simp only [Int.toNat_natCast]
        have hlz : ∀ x ∈ List.replicate m zz, x.length = zz.length := by intro x hx; simp at hx; rw [hx.2]
        have hrow := row_flat (K := K) (σ := σ) hlz (rep_flat hzr c5 m) (oneL_replicate hzo m)
        obtain ⟨g1, g2⟩ := hS.new hf et hrow
        have hw : IntKind.i64.wrap (m : Int) = m := by simp only [IntKind.wrap, IntKind.bits, IntKind.signed]; simp; omega
        have hmb : ¬ ((i.bytes : Int) * m > 281474976710656) := by rw [Int.mul_comm]; omega
        have hms : (Instr.makeSlice t (.int .i64 m) (.int .i64 m)).run C.P w = .ok (.slice (some ⟨w.heap.size, 0, none⟩) m m) (w.alloc (.cells ((Array.range (m * zz.length)).map fun q => zv.cells[q % zv.cells.size]!) et)) := by
          rcases Nat.eq_zero_or_pos m with h0 | h0
          · have h0' : m * zz.length = 0 := by rw [h0]; simp
            have hm0 : ¬ ((m : Int) < 0) := by omega
            simp [Instr.makeSlice, run_underlying ht, asInt, asIntOf, typeInfo, hi, hw, hmb, run_sizeOf' hsz, newRow, hiz, zeroValue, h0', hm0]
            rw [show Array.range 0 = (#[] : Array Nat) from by simp [Array.range]]
            simp
          · have hne : ¬ (m * zz.length = 0) := by
              intro he
              rcases Nat.mul_eq_zero.1 he with he | he <;> omega
            have hm0 : ¬ ((m : Int) < 0) := by omega
            simp [Instr.makeSlice, run_underlying ht, asInt, asIntOf, typeInfo, hi, hw, hmb, run_sizeOf' hsz, hne, newRow, hiz, zeroValue, hm0]
        refine ⟨_, _, K, _, .inl (by simp only [execOp, ho, hX, hZ, Sem.run_bind, hms]; rfl), ?_, g1, g2, fun l hl => sput_other hl⟩
        have := Rel.sl (K := K) (σ := sput σ fr ⟨w.heap.size, 0, zz.length, ((Array.range (m * zz.length)).map fun q => zv.cells[q % zv.cells.size]!).size⟩) (l := fr) (off := 0) (n := m) (c := some m) (z := zz.length) (rc := m) sput_self rfl (Nat.le_refl _) (fun k hk => by cases hk; rfl) (by simp)
        simpa using this
    · cases hs

/-- Every operation that calls nothing. -/
theorem op_sound (hS : Sim K σ h w) (hE : EnvR K σ e a.tmps) (hG : GlobOK C K) {o : Oper} {f : FuncId} {r : RO} (hr : rOp C f o.dst o.op = some r) {fr : Nat} (hf : σ fr = none) {v : AV} {h' : Hp} (hs : r.step e h fr = some (v, h')) : DoneAt C K σ h w a fr v h' o := by
  cases ho : o.op <;> rw [ho] at hr <;> simp only [rOp, reduceCtorEq] at hr
  case move x =>
    obtain ⟨y, hy, rfl⟩ := r1_some hr
    simp only [RO.step, Option.some.injEq, Prod.mk.injEq] at hs
    obtain ⟨rfl, rfl⟩ := hs
    exact Done.pure hS (V := a.eval x) (by simp [execOp, ho]) (rOpd_rel hE hG hy)
  case assign x =>
    obtain ⟨y, hy, rfl⟩ := r1_some hr
    simp only [RO.step, Option.some.injEq, Prod.mk.injEq] at hs
    obtain ⟨rfl, rfl⟩ := hs
    exact Done.pure hS (V := a.eval x) (by simp [execOp, ho]) (rOpd_rel hE hG hy)
  case nilCheck x =>
    obtain ⟨y, hy, rfl⟩ := r1_some hr
    have hx := rOpd_rel hE hG hy
    simp only [RO.step] at hs
    generalize y.ev e = p at *
    generalize hX : a.eval x = X at *
    cases hx <;> simp only [Option.some.injEq, Prod.mk.injEq, reduceCtorEq] at hs
    all_goals obtain ⟨rfl, rfl⟩ := hs
    case rp f hK hr => exact Done.pure hS (by simp [execOp, ho, hX]) (.rp f hK hr)
    case ptr hσ => exact Done.pure hS (by simp [execOp, ho, hX]) (.ptr hσ)
    case fn ha hc h1 h2 => exact Done.pure hS (by simp [execOp, ho, hX]) (.fn ha hc h1 h2)
  case pick c x z =>
    cases hc : rOpd C c with
    | none => simp [hc] at hr
    | some c' => cases hx : rOpd C x with
      | none => simp [hc, hx] at hr
      | some x' => cases hz : rOpd C z with
        | none => simp [hc, hx, hz] at hr
        | some z' =>
          simp only [hc, hx, hz, Option.some.injEq] at hr
          subst hr
          have rc := rOpd_rel hE hG hc
          have rx := rOpd_rel hE hG hx
          have rz := rOpd_rel hE hG hz
          simp only [RO.step] at hs
          generalize c'.ev e = p at *
          generalize hX : a.eval c = X at *
          cases rc <;> simp only [Option.some.injEq, Prod.mk.injEq, reduceCtorEq] at hs
          obtain ⟨rfl, rfl⟩ := hs
          rename_i b
          cases b
          · exact Done.pure hS (V := a.eval z) (by simp [execOp, ho, hX, asBool]) rz
          · exact Done.pure hS (V := a.eval x) (by simp [execOp, ho, hX, asBool]) rx
  case alloc t =>
    cases hz : zeroT C.P t with
    | none => simp [hz] at hr
    | some z => simp only [hz, Option.some.injEq] at hr; subst hr; exact st_alloc hS ho hz hf hs
  case box t x =>
    cases hz : sizeT C.P t with
    | none => simp [hz] at hr
    | some s => simp only [hz] at hr; obtain ⟨y, hy, rfl⟩ := r1_some hr; exact st_box hS ho (rOpd_rel hE hG hy) hf hs
  case build t ps =>
    cases hz : zeroT C.P t with
    | none => simp [hz] at hr
    | some z => cases hp : placesT C.P t with
      | none => simp [hz, hp] at hr
      | some pl => cases hq : rParts3 C C.P pl ps.toList with
        | none => simp [hz, hp, hq] at hr
        | some rps => simp only [hz, hp, hq, Option.some.injEq] at hr; subst hr; exact st_build hS hE hG ho hz hp hq hs
  case buildSlice t n ps =>
    cases hu : C.P.underlying t with
    | none => simp [hu] at hr
    | some d =>
      cases d <;> simp only [hu, reduceCtorEq] at hr
      rename_i et
      cases hz : zeroT C.P et with
      | none => simp [hz] at hr
      | some z => cases hsz : sizeT C.P et with
        | none => simp [hz, hsz] at hr
        | some s => cases hq : rParts2 C ps.toList with
          | none => simp [hz, hsz, hq] at hr
          | some rps =>
            simp only [hz, hsz, hq] at hr
            split at hr
            · rename_i hc
              obtain ⟨rfl, c2, c3⟩ := hc
              by_cases hq2 : ((C.P.underlying et).any isFunc || litHere C f o.dst) = true
              · rw [if_pos hq2] at hr
                cases hr
                exact st_bslice hS hE hG ho hu hz hsz c3 c2 hq hf hs
              · rw [if_neg hq2] at hr
                cases hr
                exact st_blit hS hE hG ho hu hz hsz c3 c2 hq hs
            · cases hr
  case load t x =>
    cases hA : isAggT C.P t with
    | none => simp [hA] at hr
    | some g => cases hsz : sizeT C.P t with
      | none => simp [hA, hsz] at hr
      | some s => simp only [hA, hsz] at hr; obtain ⟨y, hy, rfl⟩ := r1_some hr; exact st_load hS ho hA hsz (rOpd_rel hE hG hy) hs
  case store t x z =>
    cases hsz : sizeT C.P t with
    | none => simp [hsz] at hr
    | some s => simp only [hsz] at hr; obtain ⟨y, u, hy, hu, rfl⟩ := r2_some hr; exact st_store hS ho hsz (rOpd_rel hE hG hy) (rOpd_rel hE hG hu) hs
  case binOp op t x z t' =>
    cases hu : C.P.underlying t with
    | none => simp [hu] at hr
    | some d =>
      cases d <;> simp only [hu, reduceCtorEq] at hr
      case int k => obtain ⟨y, u, hy, hz, rfl⟩ := r2_some hr; exact st_bin hS ho (rOpd_rel hE hG hy) (rOpd_rel hE hG hz) hs
      case string => obtain ⟨y, u, hy, hz, rfl⟩ := r2_some hr; exact st_bin hS ho (rOpd_rel hE hG hy) (rOpd_rel hE hG hz) hs
      case bool =>
        split at hr
        · rename_i hm; obtain ⟨y, u, hy, hz, rfl⟩ := r2_some hr; exact st_eqb hS ho hm hu (rOpd_rel hE hG hy) (rOpd_rel hE hG hz) hs
        · cases hr
      case struct fs =>
        split at hr
        · rename_i hm
          cases hl : leavesT C.P 4 0 t with
          | none => simp [hl] at hr
          | some ls => simp only [hl] at hr; obtain ⟨y, u, hy, hz, rfl⟩ := r2_some hr; exact st_eqs hS ho hm.1 hu hm.2 hl (rOpd_rel hE hG hy) (rOpd_rel hE hG hz) hs
        · cases hr
  case unOp op t x => obtain ⟨y, hy, rfl⟩ := r1_some hr; exact st_un hS ho (rOpd_rel hE hG hy) hs
  case convert s d x =>
    cases h1 : C.P.underlying s with
    | none => simp [h1] at hr
    | some d1 => cases h2 : C.P.underlying d with
      | none => cases d1 <;> simp [h1, h2] at hr
      | some d2 =>
        cases d1 <;> cases d2 <;> simp only [h1, h2, reduceCtorEq] at hr
        obtain ⟨y, hy, rfl⟩ := r1_some hr
        exact st_conv hS ho h1 h2 (rOpd_rel hE hG hy) hs
  case makeFunc fn xs zs =>
    cases fn <;> simp only [reduceCtorEq] at hr
    cases h1 : rOpds C xs.toList with
    | none => simp [h1] at hr
    | some ys => cases h2 : rOpds C zs.toList with
      | none => simp [h1, h2] at hr
      | some us => simp only [h1, h2, Option.some.injEq] at hr; subst hr; exact st_mkfn hS hE hG ho h1 h2 hs
  case fieldAddr t x f =>
    cases hu : C.P.underlying t with
    | none => simp [hu] at hr
    | some d =>
      cases d <;> simp only [hu, reduceCtorEq] at hr
      rename_i fs
      cases hg : fs[f]? with
      | none => simp [hg] at hr
      | some g => cases hsz : sizeT C.P g.type with
        | none => simp [hg, hsz] at hr
        | some s =>
          simp only [hg, hsz] at hr
          split at hr
          · cases hr
          · rename_i h0; obtain ⟨y, hy, rfl⟩ := r1_some hr; exact st_fieldA hS ho hu hg hsz h0 (rOpd_rel hE hG hy) hs
  case field t x f =>
    cases hu : C.P.underlying t with
    | none => simp [hu] at hr
    | some d =>
      cases d <;> simp only [hu, reduceCtorEq] at hr
      rename_i fs
      cases hg : fs[f]? with
      | none => simp [hg] at hr
      | some g => cases hA : isAggT C.P g.type with
        | none => simp [hg, hA] at hr
        | some b => cases hsz : sizeT C.P g.type with
          | none => simp [hg, hA, hsz] at hr
          | some s => simp only [hg, hA, hsz] at hr; obtain ⟨y, hy, rfl⟩ := r1_some hr; exact st_field hS ho hu hg hA hsz (rOpd_rel hE hG hy) hs
  case indexAddr t x z =>
    cases hu : C.P.underlying t with
    | none => simp [hu] at hr
    | some d =>
      cases d <;> simp only [hu, reduceCtorEq] at hr
      case slice et => cases hsz : sizeT C.P et with
        | none => simp [hsz] at hr
        | some s => simp only [hsz] at hr; obtain ⟨y, u, hy, hz, rfl⟩ := r2_some hr; exact st_idxA hS ho hu hsz (rOpd_rel hE hG hy) (rOpd_rel hE hG hz) hs
      case array n et => cases hsz : sizeT C.P et with
        | none => simp [hsz] at hr
        | some s => simp only [hsz] at hr; obtain ⟨y, u, hy, hz, rfl⟩ := r2_some hr; exact st_idxAarr hS ho hu hsz (rOpd_rel hE hG hy) (rOpd_rel hE hG hz) hs
  case index t x z =>
    cases hu : C.P.underlying t with
    | none => simp [hu] at hr
    | some d =>
      cases d <;> simp only [hu, reduceCtorEq] at hr
      case string => obtain ⟨y, u, hy, hz, rfl⟩ := r2_some hr; exact st_idxS hS ho hu (rOpd_rel hE hG hy) (rOpd_rel hE hG hz) hs
      case array n et => cases hA : isAggT C.P et with
        | none => simp [hA] at hr
        | some b => cases hsz : sizeT C.P et with
          | none => simp [hA, hsz] at hr
          | some s => simp only [hA, hsz] at hr; obtain ⟨y, u, hy, hz, rfl⟩ := r2_some hr; exact st_idxV hS ho hu hA hsz (rOpd_rel hE hG hy) (rOpd_rel hE hG hz) hs
  case slice t x lo hi mx =>
    cases mx with
    | some _ => simp at hr
    | none =>
      simp only at hr
      cases hu : C.P.underlying t with
      | none => simp [hu] at hr
      | some d =>
        cases d <;> simp only [hu, reduceCtorEq] at hr
        case slice et => cases hsz : sizeT C.P et with
          | none => simp [hsz] at hr
          | some s => cases hx : rOpd C x with
            | none => simp [hsz, hx] at hr
            | some x' => cases hl : rOpt C lo with
              | none => simp [hsz, hx, hl] at hr
              | some l' => cases hh : rOpt C hi with
                | none => simp [hsz, hx, hl, hh] at hr
                | some h2 => simp only [hsz, hx, hl, hh, Option.some.injEq] at hr; subst hr; exact st_slc hS hE hG ho hu hsz (rOpd_rel hE hG hx) hl hh hs
        case string => cases hx : rOpd C x with
            | none => simp [hx] at hr
            | some x' => cases hl : rOpt C lo with
              | none => simp [hx, hl] at hr
              | some l' => cases hh : rOpt C hi with
                | none => simp [hx, hl, hh] at hr
                | some h2 => simp only [hx, hl, hh, Option.some.injEq] at hr; subst hr; exact st_slcS hS hE hG ho hu (rOpd_rel hE hG hx) hl hh hs
  case extract x i => obtain ⟨y, hy, rfl⟩ := r1_some hr; exact st_ext hS ho (rOpd_rel hE hG hy) hs
  case makeSlice t x z =>
    cases hu : C.P.underlying t with
    | none => simp [hu] at hr
    | some d =>
      cases d <;> simp only [hu, reduceCtorEq] at hr
      rename_i et
      cases hz : zeroT C.P et with
      | none => simp [hz] at hr
      | some zz => cases hsz : sizeT C.P et with
        | none => simp [hz, hsz] at hr
        | some s => cases hb : bytesT C.P et with
          | none => simp [hz, hsz, hb] at hr
          | some b =>
            simp only [hz, hsz, hb] at hr
            split at hr
            · rename_i hc; subst hc; obtain ⟨y, u, hy, hu', rfl⟩ := r2_some hr; exact st_mks hS ho hu hsz hb hz (rOpd_rel hE hG hy) (rOpd_rel hE hG hu') hf hs
            · cases hr
  case call c =>
    cases hcal : c.callee with
    | invoke r m => simp [hcal] at hr
    | value f => simp [hcal] at hr
    | builtin b =>
      cases b <;> simp only [hcal, reduceCtorEq] at hr
      case len =>
        cases ht : c.argTypes[0]? with
        | none => simp [ht] at hr
        | some t =>
          simp only [ht, Option.bind_some] at hr
          cases hu : C.P.underlying t with
          | none => simp [hu] at hr
          | some d =>
            cases hargs : c.args.toList with
            | nil => cases d <;> simp [hu, hargs] at hr
            | cons x rest => cases rest with
              | cons _ _ => cases d <;> simp [hu, hargs] at hr
              | nil =>
                cases d <;> simp only [hu, hargs, reduceCtorEq] at hr
                case slice et => obtain ⟨y, hy, rfl⟩ := r1_some hr; exact st_lenL hS ho hcal ht hu hargs (rOpd_rel hE hG hy) hs
                case string => obtain ⟨y, hy, rfl⟩ := r1_some hr; exact st_lenS hS ho hcal ht hu hargs (rOpd_rel hE hG hy) hs
                case array n et => simp only [Option.some.injEq] at hr; subst hr; exact st_lenA hS ho hcal ht hu hargs hs
      case append =>
        cases htys : c.argTypes.toList with
        | nil => simp [htys] at hr
        | cons t r1 => cases r1 with
          | nil => simp [htys] at hr
          | cons u r2 => cases r2 with
            | cons _ _ => simp [htys] at hr
            | nil =>
              cases hargs : c.args.toList with
              | nil => simp [htys, hargs] at hr
              | cons x s1 => cases s1 with
                | nil => simp [htys, hargs] at hr
                | cons z s2 => cases s2 with
                  | cons _ _ => simp [htys, hargs] at hr
                  | nil =>
                    simp only [htys, hargs] at hr
                    cases hu1 : C.P.underlying t with
                    | none => simp [hu1] at hr
                    | some d1 => cases hu2 : C.P.underlying u with
                      | none => cases d1 <;> simp [hu1, hu2] at hr
                      | some d2 =>
                        cases d1 <;> cases d2 <;> simp only [hu1, hu2, reduceCtorEq] at hr
                        rename_i et ex
                        cases hsz : sizeT C.P et with
                        | none => simp [hsz] at hr
                        | some sz => cases hb : bytesT C.P et with
                          | none => simp [hsz, hb] at hr
                          | some b => cases hz : zeroT C.P et with
                            | none => simp [hsz, hb, hz] at hr
                            | some zz =>
                              simp only [hsz, hb, hz] at hr
                              split at hr
                              · rename_i hc
                                obtain ⟨y, v', hy, hv', rfl⟩ := r2_some hr
                                exact st_app hS ho hcal htys hargs hu1 hu2 hsz hb hz hc (rOpd_rel hE hG hy) (rOpd_rel hE hG hv') hf hs
                              · cases hr
end
end Go.Proofs.YtnibcojenlijgaaGreatDoor.Ev
