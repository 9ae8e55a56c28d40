/- Each operation's law, fourth part: slices, append, make. No condition. -/
import Derived.Test.YtnibcojenlijgaaGreatDoorEv8
set_option linter.unusedVariables false
set_option linter.unusedSimpArgs false
namespace Go.Proofs.YtnibcojenlijgaaGreatDoor.Ev
open Go Go.RowKit
section
variable {C : Cfg} {K : Kn} {σ : Sg} {e : Env} {h : Hp} {w : World} {a : Act}

theorem optInt_some (hE : EnvR K σ e a.tmps) (hG : GlobOK C K) {lo : Option Operand} {lo' : Option Opd} (hr : rOpt C lo = some lo') {d n : Int} (h : optInt e lo' d = some n) :
    (lo = none ∧ n = d) ∨ ∃ x k, lo = some x ∧ a.eval x = .int k n := by
  cases lo with
  | none => simp [rOpt] at hr; subst hr; simp [optInt] at h; exact .inl ⟨rfl, h.symm⟩
  | some x =>
    simp only [rOpt] at hr
    cases hx : rOpd C x with
    | none => simp [hx] at hr
    | some y =>
      simp only [hx, Option.some.injEq] at hr
      subst hr
      have := rOpd_rel hE hG hx
      simp only [optInt] at h
      generalize y.ev e = p at *
      generalize hX : a.eval x = X at *
      cases this <;> simp at h
      subst h
      exact .inr ⟨x, _, rfl, hX⟩

theorem bounds_run {P : Program} (b : Bool) (len cap : Nat) (lo hi : Option Value) (l k : Int) (hlo : (lo = none ∧ l = 0) ∨ ∃ q, lo = some (.int q l)) (hhi : (hi = none ∧ k = len) ∨ ∃ q, hi = some (.int q k)) (h0 : 0 ≤ l) (h1 : l ≤ k) (h2 : k ≤ cap) (w : World) :
    (Instr.sliceBounds b len cap lo hi none).run P w = .ok (l.toNat, k.toNat, cap) w := by
  have e1 : l ≤ ((k.toNat : Nat) : Int) := by omega
  have e2 : 0 ≤ k := by omega
  rcases hlo with ⟨rfl, rfl⟩ | ⟨q, rfl⟩ <;> rcases hhi with ⟨rfl, rfl⟩ | ⟨q', rfl⟩ <;>
    simp [Instr.sliceBounds, Instr.sliceBound, asIntOf, h0, h1, h2, e1, e2]
  omega

theorem opt_val {lo : Option Operand} {l d : Int} (h : (lo = none ∧ l = d) ∨ ∃ x k, lo = some x ∧ a.eval x = .int k l) : (lo.map a.eval = none ∧ l = d) ∨ ∃ q, lo.map a.eval = some (.int q l) := by
  rcases h with ⟨rfl, h⟩ | ⟨x, k, rfl, hx⟩
  · exact .inl ⟨rfl, h⟩
  · exact .inr ⟨k, by simp [hx]⟩

theorem st_slc (hS : Sim K σ h w) (hE : EnvR K σ e a.tmps) (hG : GlobOK C K) {o : Oper} {t et : TypeId} {x : Operand} {lo hi : Option Operand} (ho : o.op = .slice t x lo hi none) (hu : C.P.underlying t = some (.slice et)) {s : Nat} (hsz : sizeT C.P et = some s)
    {y : Opd} {lo' hi' : Option Opd} (hx : Rel K σ (y.ev e) (a.eval x)) (hlo : rOpt C lo = some lo') (hhi : rOpt C hi = some hi') {fr : Nat} {v : AV} {h' : Hp} (hs : (RO.slc s y lo' hi').step e h fr = some (v, h')) : DoneAt C K σ h w a fr v h' o := by
  simp only [RO.step] at hs
  generalize y.ev e = p at *
  generalize hX : a.eval x = X at *
  cases hn : lenA p with
  | none => simp [hn] at hs
  | some n =>
    simp only [hn] at hs
    cases hl : optInt e lo' 0 with
    | none => simp [hl] at hs
    | some l =>
      cases hk : optInt e hi' n with
      | none => simp [hl, hk] at hs
      | some k =>
        simp only [hl, hk] at hs
        obtain ⟨h1, rfl⟩ := withH_some hs
        have el := opt_val (optInt_some hE hG hlo hl)
        have ek := opt_val (optInt_some hE hG hhi hk)
        have fin : ∀ (ao : Option Addr) (cap : Nat), X = .slice ao n cap → 0 ≤ l → l ≤ k → k ≤ (cap : Int) →
            (execOp a.eval o).run C.P w = .ok (.value (.slice (if cap = l.toNat then ao else ao.map (·.add (l.toNat * s))) (k.toNat - l.toNat) (cap - l.toNat))) w := by
          rintro ao cap rfl g0 g1 g2
          have := bounds_run (P := C.P) true n cap (lo.map a.eval) (hi.map a.eval) l k el ek g0 g1 g2 w
          simp [execOp, ho, hX, Instr.sliceAt, Instr.slice, run_underlying hu, this, run_sizeOf' hsz]
        unfold sliceA at h1
        split at h1
        · rename_i hc
          obtain ⟨c0, c1⟩ := hc
          cases hx <;> simp only [lenA, Option.some.injEq, reduceCtorEq] at hn <;> subst hn
          case rs0 ao cap =>
            simp only at h1
            split at h1
            · rename_i hc2
              cases h1
              have ez : k = 0 := by have := hc2.1; simp at this; omega
              have el0 : l = 0 := by omega
              subst ez; subst el0
              exact Done.pure hS (fin ao cap rfl (by omega) (by omega) (by omega)) (by simpa using Rel.rs0)
            · cases h1
          case rs es b off sz cap f hne hcap hsz' hK hr =>
            simp only at h1
            split at h1
            · rename_i hc2
              obtain ⟨c2, c3⟩ := hc2
              cases h1
              have hszs : sz = s := by
                obtain ⟨x0, hx0⟩ := List.exists_mem_of_ne_nil es hne
                rw [← hsz' x0 hx0]; exact c3 x0 hx0
              subst hszs
              refine Done.pure hS (fin _ cap rfl c0 c1 (by omega)) ?_
              have hlen : ((es.take k.toNat).drop l.toNat).length = k.toNat - l.toNat := by simp; omega
              by_cases hlk : l = k
              · have : (es.take k.toNat).drop l.toNat = [] := List.eq_nil_of_length_eq_zero (by rw [hlen]; omega)
                rw [this, show k.toNat - l.toNat = 0 by omega]
                exact .rs0
              · rw [if_neg (by omega), ← hlen]
                simp only [Option.map_some, add_at]
                refine Rel.rs (fun i j => f (l.toNat + i) j) (by intro e0; rw [e0] at hlen; simp at hlen; omega) (by rw [hlen]; omega) (fun x hx => hsz' x (List.mem_of_mem_take (List.mem_of_mem_drop hx))) (fun i j g1 g2 => ?_) fun i j x p g1 g2 => ?_
                · rw [hlen] at g1
                  have := hK (l.toNat + i) j (by omega) g2
                  rw [Nat.add_mul] at this
                  rw [← this]
                  congr 1
                  omega
                · rw [List.getElem?_drop, List.getElem?_take] at g1
                  split at g1
                  · exact hr _ j x p g1 g2
                  · cases g1
            · cases h1
          case sl ll off nn c zz xx rc _ _ _ _ _ =>
            have hσ : σ ll = some xx := by assumption
            have hz : xx.sz = zz := by assumption
            have hcn : nn ≤ rc := by assumption
            have hcap : ∀ k, c = some k → k = rc := by assumption
            have ht : xx.base + (off + rc) * zz ≤ xx.tot := by assumption
            simp only at h1
            split at h1
            · rename_i hc2
              obtain ⟨c2, c3⟩ := hc2
              subst c3
              split at h1
              · rename_i hlk
                cases h1
                refine Done.pure hS (fin _ rc rfl c0 c1 (by omega)) ?_
                rw [show k.toNat - l.toNat = 0 by omega]
                exact .rs0
              · rename_i hlk
                cases h1
                refine Done.pure hS (fin _ rc rfl c0 c1 (by omega)) ?_
                rw [if_neg (by omega)]
                simp only [Option.map_some, add_at]
                have := Rel.sl (K := K) (σ := σ) (l := ll) (off := off + l.toNat) (n := k.toNat - l.toNat) (c := c.map (· - l.toNat)) (z := zz) (rc := rc - l.toNat) hσ hz (by omega) (fun q hq => by
                  cases c with
                  | none => cases hq
                  | some c' => simp at hq; rw [← hq, hcap c' rfl]) (by rw [show off + l.toNat + (rc - l.toNat) = off + rc by omega]; exact ht)
                simpa [Nat.add_mul, Nat.add_assoc] using this
            · cases h1
          case nils =>
            simp only at h1
            split at h1
            · rename_i hc2
              cases h1
              subst hc2
              have el0 : l = 0 := by omega
              subst el0
              exact Done.pure hS (fin none 0 rfl (by omega) (by omega) (by omega)) (by simpa using Rel.rs0)
            · cases h1
        · cases h1

theorem st_slcS (hS : Sim K σ h w) (hE : EnvR K σ e a.tmps) (hG : GlobOK C K) {o : Oper} {t : TypeId} {x : Operand} {lo hi : Option Operand} (ho : o.op = .slice t x lo hi none) (hu : C.P.underlying t = some .string)
    {y : Opd} {lo' hi' : Option Opd} (hx : Rel K σ (y.ev e) (a.eval x)) (hlo : rOpt C lo = some lo') (hhi : rOpt C hi = some hi') {fr : Nat} {v : AV} {h' : Hp} (hs : (RO.slcS y lo' hi').step e h fr = some (v, h')) : DoneAt C K σ h w a fr v h' o := by
  simp only [RO.step] at hs
  generalize y.ev e = p at *
  generalize hX : a.eval x = X at *
  cases hx <;> simp only [reduceCtorEq] at hs
  case str s =>
    cases hl : optInt e lo' 0 with
    | none => simp [hl] at hs
    | some l =>
      cases hk : optInt e hi' s.size with
      | none => simp [hl, hk] at hs
      | some k =>
        simp only [hl, hk] at hs
        split at hs
        · rename_i hc
          simp only [Option.some.injEq, Prod.mk.injEq] at hs
          obtain ⟨rfl, rfl⟩ := hs
          have el := opt_val (optInt_some hE hG hlo hl)
          have ek := opt_val (optInt_some hE hG hhi hk)
          have := bounds_run (P := C.P) false s.size s.size (lo.map a.eval) (hi.map a.eval) l k el ek hc.1 hc.2.1 hc.2.2 w
          exact Done.pure hS (by simp [execOp, ho, hX, Instr.sliceAt, Instr.slice, run_underlying hu, this]) .str
        · cases hs

/-- A slice's elements, and the cells that hold them. -/
theorem elems_src (hS : Sim K σ h w) {x : AV} {X : Value} (hx : Rel K σ x X) {es : List (List AV)} (he : elemsOf h x = some es) {sz : Nat} (hl : ∀ e ∈ es, e.length = sz) {tx et : TypeId} (hu : C.P.underlying tx = some (.slice et)) :
    ∃ ao n c news, X = .slice ao n c ∧ n = es.length ∧ n ≤ c ∧ RelL K σ es.flatten news ∧ Src C.P sz tx X n news w ∧ (ao = none → n = 0 ∧ c = 0 ∨ es = []) := by
  have nl : ∀ news : List Value, RelL K σ es.flatten news → news.length = es.length * sz := fun news hr => by rw [hr.1, flatten_length es hl]
  have mk : ∀ (b o : Nat) (c : Nat) (news : List Value), RelL K σ es.flatten news → (∀ (j : Nat) u, news[j]? = some u → w.cell? ⟨b, o + j, none⟩ = some u) → (∀ u ∈ news, u.oneCell' = true) → Src C.P sz tx (.slice (some ⟨b, o, none⟩) es.length c) es.length news w :=
    fun b o c news hr hc h1 => Src.ofSlice w hu ⟨b, o, none⟩ es.length c news (nl news hr) (fun j u hj => by rw [add_at]; exact hc j u hj) h1
  have fl : ∀ (q : Nat) p, es.flatten[q]? = some p → 0 < sz ∧ ∃ i j x, i < es.length ∧ j < sz ∧ q = i * sz + j ∧ es[i]? = some x ∧ x[j]? = some p := by
    intro q p hq
    have hlt := (List.getElem?_eq_some_iff.1 hq).1
    rw [flatten_length es hl] at hlt
    have h0 : 0 < sz := by
      rcases Nat.eq_zero_or_pos sz with h | h
      · subst h; simp at hlt
      · exact h
    have hd : q / sz < es.length := (Nat.div_lt_iff_lt_mul h0).2 hlt
    have hm := Nat.mod_lt q h0
    have hg := flatten_get es (q / sz) (q % sz) hl hm
    rw [Nat.div_add_mod', hq] at hg
    refine ⟨h0, q / sz, q % sz, es[q / sz], hd, hm, (Nat.div_add_mod' q sz).symm, by simp [hd], ?_⟩
    simp [hd] at hg
    exact hg.symm
  cases hx <;> simp only [elemsOf, Option.some.injEq, reduceCtorEq] at he
  case rs0 ao cap =>
    subst he
    refine ⟨ao, 0, cap, [], rfl, rfl, Nat.zero_le _, RelL.nil, ?_, fun _ => .inr rfl⟩
    cases ao with
    | none => exact Src.ofNil w hu cap
    | some ad => exact Src.ofSlice w hu ad 0 cap [] (by simp) (fun j u hj => by simp at hj) (fun u hu => by cases hu)
  case rs es' b off sz' cap f hne hc hsz hK hr =>
    subst he
    obtain ⟨x0, hx0⟩ := List.exists_mem_of_ne_nil es' hne
    have hss : sz' = sz := by rw [← hsz x0 hx0]; exact hl x0 hx0
    subst hss
    have hcell : ∀ i j, i < es'.length → j < sz' → w.cell? ⟨b, off + i * sz' + j, none⟩ = some (f i j) ∧ (f i j).oneCell' = true := fun i j h1 h2 => hS.kn _ _ _ (hK i j h1 h2)
    let g : Nat → Value := fun q => f (q / sz') (q % sz')
    have hval : ∀ q, q < es'.length * sz' → w.cell? ⟨b, off + q, none⟩ = some (g q) ∧ (g q).oneCell' = true := fun q hq => by
      have h0 : 0 < sz' := by
        rcases Nat.eq_zero_or_pos sz' with h | h
        · subst h; simp at hq
        · exact h
      have := hcell (q / sz') (q % sz') ((Nat.div_lt_iff_lt_mul h0).2 hq) (Nat.mod_lt q h0)
      rw [Nat.add_assoc, Nat.div_add_mod'] at this
      exact this
    have hnews : RelL K σ es'.flatten ((List.range (es'.length * sz')).map g) := ⟨by rw [flatten_length es' hl]; simp, fun q p v h1 h2 => by
      obtain ⟨h0, i, j, x, hi, hj, rfl, hx, hp⟩ := fl q p h1
      have hq : i * sz' + j < es'.length * sz' := by rw [← flatten_length es' hl]; exact (List.getElem?_eq_some_iff.1 h1).1
      simp [hq] at h2
      subst h2
      have e1 : (i * sz' + j) / sz' = i := by rw [Nat.mul_comm, Nat.mul_add_div h0, Nat.div_eq_of_lt hj]; rfl
      have e2 : (i * sz' + j) % sz' = j := by rw [Nat.mul_comm, Nat.mul_add_mod, Nat.mod_eq_of_lt hj]
      simp only [g, e1, e2]
      exact (hr i j x p hx hp).mono (KLe.refl _) (fun _ _ h => by cases h)⟩
    refine ⟨some ⟨b, off, none⟩, _, cap, _, rfl, rfl, hc, hnews, mk b off cap _ hnews (fun j u hj => ?_) (fun u hu => ?_), fun h => by cases h⟩
    · have hj' : j < es'.length * sz' := by have := (List.getElem?_eq_some_iff.1 hj).1; simpa using this
      simp [hj'] at hj
      rw [← hj]; exact (hval j hj').1
    · obtain ⟨q, hq, rfl⟩ := List.mem_map.1 hu
      exact (hval q (List.mem_range.1 hq)).2
  case sl l off n c z xx rc _ _ _ _ _ =>
    have hσ : σ l = some xx := by assumption
    have hz : xx.sz = z := by assumption
    have hcn : n ≤ rc := by assumption
    cases hg : h.get l with
    | none => simp [hg] at he
    | some B =>
      simp only [hg] at he
      cases hb : Nat.ble (off + n) B.es.length with
      | false => simp [hb] at he
      | true =>
        simp only [hb, cond_true, Option.some.injEq] at he
        have hle := Nat.le_of_ble_eq_true hb
        obtain ⟨y, cc, t', h1, h2, h3, h4, h5, h6, h7, h8⟩ := hS.bk l B hg
        rw [hσ] at h1; cases h1
        have hn : es.length = n := by rw [← he]; simp; omega
        have hget : ∀ i, i < n → es[i]? = B.es[off + i]? := fun i hi => by rw [← he, List.getElem?_take, if_pos hi, List.getElem?_drop]
        rcases Nat.eq_zero_or_pos n with h0 | h0
        · subst h0
          have : es = [] := List.eq_nil_of_length_eq_zero hn
          subst this
          exact ⟨some ⟨xx.b, xx.base + off * z, none⟩, 0, rc, [], rfl, rfl, Nat.zero_le _, RelL.nil, Src.ofSlice w hu _ 0 rc [] (by simp) (fun j u hj => by simp at hj) (fun u hu => by cases hu), fun h => by cases h⟩
        · have hBs : B.sz = sz := by
            have hx0 : es[0]? = some (es[0]'(by omega)) := by simp
            rw [← hl _ (List.mem_of_getElem? hx0)]
            rw [hget 0 h0] at hx0
            exact (h6 _ (List.mem_of_getElem? hx0)).symm
          have hzs : z = sz := by rw [← hz, h2, hBs]
          let g : Nat → Value := fun q => (cc[xx.base + off * sz + q]?).getD undef
          have hval : ∀ q p, es.flatten[q]? = some p → cc[xx.base + off * sz + q]? = some (g q) ∧ (g q).oneCell' = true ∧ Rel K σ p (g q) := fun q p hq => by
            obtain ⟨hs0, i, j, x, hi, hj, rfl, hx, hp⟩ := fl q p hq
            rw [hget i (by omega)] at hx
            obtain ⟨v, g1, g2, g3⟩ := h7 (off + i) j x p hx hp
            rw [hBs, show xx.base + (off + i) * sz + j = xx.base + off * sz + (i * sz + j) by rw [Nat.add_mul]; omega] at g1
            simp only [g, g1, Option.getD_some]
            exact ⟨trivial, g2, g3⟩
          have hex : ∀ q, q < es.length * sz → ∃ p, es.flatten[q]? = some p := fun q hq => by
            rw [← flatten_length es hl] at hq
            exact ⟨_, List.getElem?_eq_getElem hq⟩
          have hnews : RelL K σ es.flatten ((List.range (es.length * sz)).map g) := ⟨by rw [flatten_length es hl]; simp, fun q p v h1 h2 => by
            have hq : q < es.length * sz := by rw [← flatten_length es hl]; exact (List.getElem?_eq_some_iff.1 h1).1
            simp [hq] at h2
            subst h2
            exact (hval q p h1).2.2⟩
          subst hn
          refine ⟨some ⟨xx.b, xx.base + off * z, none⟩, _, rc, _, rfl, rfl, hcn, hnews, mk _ _ rc _ hnews (fun j u hj => ?_) (fun u hu => ?_), fun h => by cases h⟩
          · have hj' : j < es.length * sz := by have := (List.getElem?_eq_some_iff.1 hj).1; simpa using this
            simp [hj'] at hj
            obtain ⟨p, hp⟩ := hex j hj'
            rw [← hj, hzs]
            simp [World.cell?, h3, (hval j p hp).1]
          · obtain ⟨q, hq, rfl⟩ := List.mem_map.1 hu
            obtain ⟨p, hp⟩ := hex q (List.mem_range.1 hq)
            exact (hval q p hp).2.1
  case nils =>
    subst he
    exact ⟨none, 0, 0, [], rfl, rfl, Nat.le_refl _, RelL.nil, Src.ofNil w hu 0, fun _ => .inl ⟨rfl, rfl⟩⟩
end
end Go.Proofs.YtnibcojenlijgaaGreatDoor.Ev
