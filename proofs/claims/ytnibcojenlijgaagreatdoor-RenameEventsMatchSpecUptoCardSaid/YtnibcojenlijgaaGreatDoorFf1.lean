/- Lists of images and what they need, at the evaluator. No condition. -/
import Derived.Test.YtnibcojenlijgaaGreatDoorSp2
import Derived.Test.YtnibcojenlijgaaGreatDoorFa
set_option linter.unusedVariables false
set_option linter.unusedSimpArgs false
namespace Go.Proofs.YtnibcojenlijgaaGreatDoor.Ev
open Go Go.RowKit
set_option maxRecDepth 10000
theorem named1_rt (x : Img) (s : ByteArray) : Rt T 85 [.agg x.enc, .rp [.str s] 0] (.bool (x.name.toList == s.toList)) := by
  refine Rt.wp rfl rfl ?_
  repeat' ((conv => whnf); first | refine Br.T ?_ | refine Br.F ?_ | refine And.intro rfl ?_ | refine eq_bool ?_ | refine eq_int ?_ | refine Br.N ?_ | refine Br.kt (by assumption) ?_ | refine Br.kf (by assumption) ?_ | refine Br.mk (fun h => ?_) (fun h => ?_) | refine eq_some ?_)
  all_goals rfl
theorem idxImg_rt (l : List Img) (s : ByteArray) (hl : l.length ≤ maxLen) : Rt T 84 [.rs (l.map Img.enc), .fn 85 [] [.rp [.str s] 0]] (.int .i64 (namedI l s)) := by
  refine Rt.wp rfl rfl ?_
  refine LoopP.by (α := Nat) (fun k => l.length - k) (fun k => k ≤ l.length ∧ namedI l s = idxFrom (fun x : Img => x.name.toList == s.toList) (l.drop k) k) (fun k => [.int .i64 k]) (fun k => []) 0 ⟨Nat.zero_le _, rfl⟩ rfl (fun k hk => ?_)
  obtain ⟨h1, h2⟩ := hk
  refine Br.mk (fun h => ?_) (fun h => ?_)
  · have hlt : k < l.length := by simp at h; omega
    rw [idxFrom_drop hlt] at h2
    refine SomeP.mk' (idx_map hlt fun _ => rfl) ?_
    refine CallP.mk' (named1_rt l[k] s) ?_
    refine Br.mk (fun h => ?_) (fun h => ?_)
    · exact eq_int (by rw [h2, h]; rfl)
    · refine ⟨k + 1, by omega, ⟨by omega, by rw [h2, h]; rfl⟩, ?_⟩
      rw [← wrap_nat (show k < 9223372036854775807 by unfold maxLen at hl; omega)]; rfl
  · exact eq_int (by
      have : l.length ≤ k := by simp at h; omega
      rw [h2, List.drop_of_length_le this]; rfl)
theorem named_rt (l : List Img) (s : ByteArray) (hl : l.length ≤ maxLen) : Rt T 35 [.rs (l.map Img.enc), .str s] (.int .i64 (namedI l s)) := by
  refine Rt.wp rfl rfl ?_
  repeat' ((conv => whnf); first | refine Br.T ?_ | refine Br.F ?_ | refine And.intro rfl ?_ | refine eq_bool ?_ | refine eq_int ?_ | refine CallP.mk' (idxImg_rt l s hl) ?_ | refine Br.N ?_ | refine Br.kt (by assumption) ?_ | refine Br.kf (by assumption) ?_ | refine Br.mk (fun h => ?_) (fun h => ?_) | refine eq_some ?_)
  all_goals rfl
/-! ### The images of a list -/
theorem refFree_imgs (l : List Img) : refFreeLL (l.map Img.enc) = true := by
  induction l with
  | nil => rfl
  | cons x l ih => simp only [List.map_cons, refFreeLL, ih]; rfl
theorem purgeB_free {n : Nat} {b : Blk} (h : refFreeLL b.es = true) : purgeB n b = b := by
  unfold purgeB; rw [h]; rfl
theorem frz_rs {h : Hp} {n l : Nat} {es : List (List AV)} {B : Blk} {z : Nat} (hg : h.get l = some B) (hB : B.es = es) (hf : refFreeLL es = true) : frz h (n + 1) (.sl l 0 es.length none z) = some (.rs es) := by
  subst hB
  simp [frz, refFree, hg, hf, Nat.ble_eq_true_of_le (Nat.le_refl _)]
theorem append_nils {h : Hp} {fr sz bytes : Nat} {e : List AV} (hb : bytes ≤ 140737488355328) (h0 : 0 < bytes) (hs : 0 < sz) (he : e.length = sz) : appendA h fr sz bytes .nils (.rs [e]) = some (.sl fr 0 1 none sz, h.new fr ⟨sz, [e]⟩) := by
  simp [appendA, elemsOf, he, hb, h0, hs]
theorem append_sl {h : Hp} {fr sz bytes l : Nat} {es : List (List AV)} {e : List AV} (hg : h.get l = some ⟨sz, es⟩) (hb : (es.length + 1) * bytes ≤ 140737488355328) (h0 : 0 < bytes) (hs : 0 < sz) (he : e.length = sz) (hes : ∀ x ∈ es, x.length = sz) :
    appendA h fr sz bytes (.sl l 0 es.length none sz) (.rs [e]) = some (.sl fr 0 (es.length + 1) none sz, (h.del l).new fr ⟨sz, es ++ [e]⟩) := by
  have h1 : ∀ x ∈ es ++ [e], x.length = sz := fun x hx => by
    rcases List.mem_append.1 hx with h | h
    · exact hes x h
    · simp at h; exact h ▸ he
  simp only [appendA, elemsOf, hg, Nat.zero_add, Nat.ble_eq_true_of_le (Nat.le_refl _), cond_true, List.drop_zero, List.take_length, List.length_singleton]
  rw [if_pos ⟨hb, h1, h0, hs⟩]
  simp [Nat.beq_refl]
def imgV : List Img → AV
  | [] => .nils
  | x :: l => .sl 5 0 (x :: l).length none 19
def imgB : List Img → List (Nat × Blk)
  | [] => []
  | x :: l => [(5, ⟨19, (x :: l).map Img.enc⟩)]
set_option maxHeartbeats 4000000 in
theorem images_rt (l : List Ldd) (hl : l.length ≤ 1048576) : Rt T 27 [.rs (l.map Ldd.enc)] (imgsAV (imgs l)) := by
  refine Rt.wp rfl rfl ?_
  refine LoopP.by (α := Nat) (fun k => l.length - k) (fun k => k ≤ l.length) (fun k => [imgV ((imgs l).take k), .int .i64 k]) (fun k => imgB ((imgs l).take k)) 0 (Nat.zero_le _) rfl (fun k hk => ?_)
  refine Br.mk (fun h => ?_) (fun h => ?_)
  · have hlt : k < l.length := by simp at h; omega
    have hlt' : k < (imgs l).length := by simp [imgs]; exact hlt
    have hx : (imgs l)[k] = l[k].img := by simp [imgs]
    have htk : (imgs l).take (k + 1) = (imgs l).take k ++ [l[k].img] := by rw [List.take_succ_eq_append_getElem hlt', hx]
    have hlen : ((imgs l).take k).length = k := by rw [List.length_take]; omega
    refine SomeP.mk' (idx_map hlt fun _ => rfl) ?_
    have hw := wrap_nat (show k < 9223372036854775807 by omega)
    have hgoal : ∀ v b, v = imgV ((imgs l).take k ++ [l[k].img]) → b = imgB ((imgs l).take k ++ [l[k].img]) → ∃ y, l.length - y < l.length - k ∧ y ≤ l.length ∧ ([v, AV.int .i64 (IntKind.wrap .i64 (k + 1))], b) = ([imgV ((imgs l).take y), .int .i64 y], imgB ((imgs l).take y)) := fun v b hv hb =>
      ⟨k + 1, by omega, by omega, by rw [htk, hv, hb, hw]⟩
    generalize (imgs l).take k = pre at *
    cases pre with
    | nil =>
      (conv => whnf)
      refine SomeP.mk' (append_nils (by decide) (by decide) (by decide) rfl) ?_
      exact hgoal _ _ rfl rfl
    | cons y ys =>
      have hes : ((y :: ys).map Img.enc).length = (y :: ys).length := List.length_map _
      have hfr : refFreeLL ((y :: ys).map Img.enc ++ [l[k].img.enc]) = true := by
        have := refFree_imgs ((y :: ys) ++ [l[k].img])
        simpa using this
      (conv => whnf)
      rw [← hes]
      refine SomeP.mk' (append_sl (es := (y :: ys).map Img.enc) rfl (by rw [hes, hlen]; omega) (by decide) (by decide) rfl (fun x hx => by obtain ⟨z, _, rfl⟩ := List.mem_map.1 hx; rfl)) ?_
      refine hgoal _ _ (by simp [imgV]) ?_
      refine Eq.trans (show _ = [(5, purgeB 5 ⟨19, (y :: ys).map Img.enc ++ [l[k].img.enc]⟩)] from rfl) ?_
      rw [purgeB_free hfr]
      simp [imgB]
  · have hge : l.length ≤ k := by simp at h; omega
    have htk : (imgs l).take k = imgs l := List.take_of_length_le (by simp [imgs]; exact hge)
    rw [htk]
    generalize imgs l = pre at *
    cases pre with
    | nil =>
      repeat' ((conv => whnf); first | refine Br.T ?_ | refine Br.F ?_ | refine And.intro rfl ?_ | refine eq_bool ?_ | refine eq_int ?_ | refine Br.N ?_ | refine Br.kt (by assumption) ?_ | refine Br.kf (by assumption) ?_ | refine Br.mk (fun h => ?_) (fun h => ?_) | refine eq_some ?_)
      all_goals rfl
    | cons y ys =>
      refine Eq.trans (show _ = frz ⟨[(5, ⟨19, (y :: ys).map Img.enc⟩)], 0⟩ 6 (.sl 5 0 (y :: ys).length none 19) from rfl) ?_
      rw [show (y :: ys).length = ((y :: ys).map Img.enc).length from (List.length_map _).symm]
      rw [frz_rs (B := ⟨19, (y :: ys).map Img.enc⟩) rfl rfl (refFree_imgs _)]
      rfl
/-! ### What the images need -/
structure SomeE (o : Option AV) (P : AV → Prop) : Prop where
  ex : ∃ r, o = some r ∧ P r
def EndE (res : List RRes) (P : AV → Prop) (x : Ex) (e : Env) (h : Hp) : Prop := match x with
  | .nrm => SomeE (match resultA ⟨e, h⟩ res with | some v => frz h 6 v | none => none) P
  | .ret => SomeE (match resultA ⟨e, h⟩ res with | some v => frz h 6 v | none => none) P
  | .exit _ => False
theorem Rt.wpE {R : FuncId → Option RFn} {f : FuncId} {rf : RFn} {args : List AV} {P : AV → Prop} (hf : R f = some rf) (hl : args.length = rf.np) (h : wpC R rf.body (initEnv args) ⟨[], 0⟩ (EndE rf.res P)) : ∃ r, Rt R f args r ∧ P r := by
  obtain ⟨n, x, s', h1, he⟩ := wpC_sound _ _ _ _ h
  have fin : ∀ (hx : x = .nrm ∨ x = .ret) (hs : SomeE (match resultA ⟨s'.env, s'.h⟩ rf.res with | some v => frz s'.h 6 v | none => none) P), ∃ r, Rt R f args r ∧ P r := fun hx hs => by
    obtain ⟨r, h2, h3⟩ := hs.ex
    refine ⟨r, Rt.mk hf hl ⟨n, x, s', h1, hx, ?_⟩, h3⟩
    split at h2
    · rename_i v hv; exact ⟨v, hv, h2⟩
    · cases h2
  cases x with
  | nrm => exact fin (.inl rfl) he
  | ret => exact fin (.inr rfl) he
  | exit _ => exact he.elim
theorem SomeE.mk' {o : Option AV} {P : AV → Prop} {r : AV} (h : o = some r) (hp : P r) : SomeE o P := ⟨r, h, hp⟩
def missE : Option Nat → Int × Bool
  | none => (0, true)
  | some i => (i, false)
/-- A cell of the lists of needs at the head of the loop. -/
def NCell (e : List AV) : Prop := e = [.nils] ∨ e = [.top]
theorem refFree_cells : ∀ {es : List (List AV)}, (∀ e ∈ es, NCell e) → refFreeLL es = true := by
  intro es
  induction es with
  | nil => intro _; rfl
  | cons e es ih =>
    intro h
    simp only [refFreeLL, ih fun x hx => h x (List.mem_cons_of_mem _ hx)]
    rcases h e (List.mem_cons_self ..) with rfl | rfl <;> rfl
theorem purge_cells (n0 : Nat) : ∀ {es : List (List AV)}, (∀ e ∈ es, NCell e) → purgeLL n0 es = es := by
  intro es
  induction es with
  | nil => intro _; rfl
  | cons e es ih =>
    intro h
    simp only [purgeLL, ih fun x hx => h x (List.mem_cons_of_mem _ hx)]
    rcases h e (List.mem_cons_self ..) with rfl | rfl <;> rfl
theorem purge_set (n0 : Nat) (v : AV) : ∀ (es : List (List AV)) (k : Nat), purgeLL n0 (es.set k [v]) = (purgeLL n0 es).set k [purge n0 v] := by
  intro es
  induction es with
  | nil => intro k; rfl
  | cons e es ih =>
    intro k
    cases k with
    | zero => rfl
    | succ k => simp only [List.set_cons_succ, purgeLL, ih]
theorem refFree_set {v : AV} (hv : refFree v = false) : ∀ {es : List (List AV)} {k : Nat}, k < es.length → refFreeLL (es.set k [v]) = false := by
  intro es
  induction es with
  | nil => intro k h; simp at h
  | cons e es ih =>
    intro k h
    cases k with
    | zero => simp [refFreeLL, refFreeL, hv]
    | succ k => simp only [List.set_cons_succ, refFreeLL, ih (show k < es.length by simpa using h), Bool.and_false]
theorem purgeB_cell {n0 lab m z : Nat} {es : List (List AV)} {k : Nat} (h : ∀ e ∈ es, NCell e) (hk : k < es.length) (hl : Nat.blt lab n0 = false) : purgeB n0 ⟨1, es.set k [.sl lab 0 m none z]⟩ = ⟨1, es.set k [.top]⟩ := by
  simp only [purgeB, refFree_set (v := .sl lab 0 m none z) rfl hk, cond_false, purge_set, purge_cells n0 h]
  simp [purge, hl]
theorem idx_sl {l n k sz : Nat} {c : Option Nat} (hk : k < n) : idxAddr sz (.sl l 0 n c sz) (k : Int) = some (.ptr l k 0) := by
  simp only [idxAddr]
  rw [if_pos ⟨by omega, by omega⟩]
  simp [Nat.beq_refl]
theorem missing_drop {l : List Img} {k : Nat} (hk : k < l.length) : missing l (l.drop k) k = bif l[k].needs.any (fun s => decide (namedI l s < 0)) then some k else missing l (l.drop (k + 1)) (k + 1) := by
  rw [List.drop_eq_getElem_cons hk]; rfl
theorem any_of {ns : List ByteArray} {p : ByteArray → Bool} {s : ByteArray} (hs : s ∈ ns) (h : p s = true) : ns.any p = true := List.any_eq_true.2 ⟨s, hs, h⟩
theorem loadAt_cell {h : Hp} {l k off : Nat} {es : List (List AV)} {cs : List AV} {v : AV} {z : Nat} (hg : h.get l = some ⟨z, es⟩) (he : es[k]? = some cs) (ho : cs[off]? = some v) : loadAt h false 1 (.ptr l k off) = some v := by
  simp [loadAt, hg, he, ho]
theorem stepD_load {a : Bool} {sz : Nat} {x : Opd} {e : Env} {h : Hp} {fr : Nat} {K : AV → Hp → Prop} {v : AV} (h1 : loadAt h a sz (x.ev e) = some v) (hk : force2 v fun v => K v h) : stepD (.load a sz x) e h fr K := by
  have hs : RO.step e h fr (.load a sz x) = some (v, h) := by simp only [RO.step, h1, withH]
  unfold stepD
  split
  · rename_i v' h' hr
    rw [hs] at hr
    cases hr
    exact hk
  · rename_i hr
    rw [hs] at hr
    cases hr
/-- What the lists of needs come back as: what they hold is left open. -/
def NeedsR (r : AV) (m : Option Nat) : Prop := ∃ v, (v = .nils ∨ ∃ es, v = .rs es) ∧ r = .tup [v, .int .i64 (missE m).1, .bool (missE m).2]
theorem frz_need {h : Hp} {n : Nat} {es : List (List AV)} (hg : h.get 5 = some ⟨1, es⟩) (hn : es.length = n) (hf : refFreeLL es = true) : frz h 6 (.tup [.sl 5 0 n (some n) 1, .int .i64 0, .bool true]) = some (.tup [.rs es, .int .i64 0, .bool true]) := by
  subst hn
  simp [frz, mapO, refFree, refFreeL, hg, hf, Nat.ble_eq_true_of_le (Nat.le_refl _)]
def findRaw : RC → Option RC
  | .seq a b => match findRaw a with
    | some x => some x
    | none => findRaw b
  | .cond _ a b => match findRaw a with
    | some x => some x
    | none => findRaw b
  | .block _ b | .loop _ _ b => findRaw b
  | .rawloop b => some b
  | _ => none
/-- The loop over what one image needs. -/
def needsB : RC := (findRaw b28).getD .skip
theorem RawP.env {R : FuncId → Option RFn} {b : RC} {e e' : Env} {h : Hp} {Q : Ex → Env → Hp → Prop} (he : e' = e) (hp : RawP R b e' h Q) : RawP R b e h Q := he ▸ hp
abbrev nEnv (e : Env) (a0 a5 a6 a16 a22 a23 a24 : AV) : Env := upd (upd (upd (upd (upd (upd (upd e 0 a0) 5 a5) 6 a6) 16 a16) 22 a22) 23 a23) 24 a24
theorem nEnv_eq {e : Env} {a0 a5 a6 a16 a22 a23 a24 : AV} (h0 : e 0 = a0) (h5 : e 5 = a5) (h6 : e 6 = a6) (h16 : e 16 = a16) (h22 : e 22 = a22) (h23 : e 23 = a23) (h24 : e 24 = a24) : nEnv e a0 a5 a6 a16 a22 a23 a24 = e := by
  unfold nEnv
  rw [upd_self h0, upd_self h5, upd_self h6, upd_self h16, upd_self h22, upd_self h23, upd_self h24]
/-- How the loop over what an image needs ends. -/
structure NEnd (l : List Img) (ns : List ByteArray) (k : Nat) (es : List (List AV)) (im : Blk) (Q : Ex → Env → Hp → Prop) : Prop where
  ret : ∀ e h s, s ∈ ns → decide (namedI l s < 0) = true → e 2 = .nils → e 3 = .int .i64 k → e 4 = .bool false → Q .ret e h
  ex0 : ∀ e nx, ns.any (fun s => decide (namedI l s < 0)) = false → e 16 = .int .i64 k → Q (.exit 2) e ⟨[(15, im), (5, ⟨1, es⟩)], nx⟩
  ex1 : ∀ e nx lab m ks, ns.any (fun s => decide (namedI l s < 0)) = false → Nat.blt lab 10 = false → e 16 = .int .i64 k → Q (.exit 2) e ⟨[(lab, ⟨1, ks⟩), (15, im), (5, ⟨1, es.set k [.sl lab 0 m none 1]⟩)], nx⟩
theorem any_take {ns : List ByteArray} {p : ByteArray → Bool} {j : Nat} (h : (ns.take j).any p = false) (hj : ns.length ≤ j) : ns.any p = false := by rwa [List.take_of_length_le hj] at h
theorem any_take_succ {ns : List ByteArray} {p : ByteArray → Bool} {j : Nat} (h : (ns.take j).any p = false) (hj : j < ns.length) (hp : p ns[j] = false) : (ns.take (j + 1)).any p = false := by
  rw [List.take_succ_eq_append_getElem hj, List.any_append, h]
  simp [hp]
set_option maxHeartbeats 2000000 in
theorem nin5 (l : List Img) (hlm : l.length ≤ maxLen) (k n : Nat) (hkn : k < n) (es : List (List AV)) (hke : k < es.length) (ns : List ByteArray) (h5 : ns.length ≤ 5) (hany : (ns.take 5).any (fun s => decide (namedI l s < 0)) = false) (im : Blk) (ks : List (List AV)) (m : Nat) (hm : ks.length = m) (hm5 : m ≤ 5) (hk1 : ∀ x ∈ ks, x.length = 1) (Q : Ex → Env → Hp → Prop) (hq : NEnd l ns k es im Q) (e : Env) :
    RawP T needsB (nEnv e (.rs (l.map Img.enc)) (.sl 5 0 n (some n) 1) (.int .i64 k) (.int .i64 k) (.rs (ns.map fun s => [AV.str s])) (.int .i64 (ns.map fun s => [AV.str s]).length) (.int .i64 ((5 : Nat) : Int))) ⟨[(132, ⟨1, ks⟩), (15, im), (5, ⟨1, es.set k [.sl 132 0 m none 1]⟩)], 137⟩ Q := by
  subst hm
  have hset : ∀ v : List AV, (es.set k v)[k]? = some v := fun v => List.getElem?_set_self hke
  refine RawP.by ?_
  refine Br.mk (fun h => ?_) (fun h => ?_)
  · have hlt : 5 < ns.length := by simp only [List.length_map] at h; have := of_decide_eq_true h; omega
    refine SomeP.mk' (idx_map (enc := fun s => [AV.str s]) hlt fun _ => rfl) ?_
    refine CallP.mk' (named_rt l ns[5] hlm) ?_
    refine Br.mk (fun h' => ?_) (fun h' => ?_)
    · exact hq.ret _ _ ns[5] (List.getElem_mem hlt) h' rfl rfl rfl
    · (conv => whnf)
      refine SomeP.mk' (idx_sl hkn) ?_
      exact absurd h5 (by omega)
  · have hge : ns.length ≤ 5 := by simp only [List.length_map] at h; have := of_decide_eq_false h; omega
    exact hq.ex1 _ _ _ _ _ (any_take hany hge) rfl rfl
set_option maxHeartbeats 2000000 in
theorem nin4 (l : List Img) (hlm : l.length ≤ maxLen) (k n : Nat) (hkn : k < n) (es : List (List AV)) (hke : k < es.length) (ns : List ByteArray) (h5 : ns.length ≤ 5) (hany : (ns.take 4).any (fun s => decide (namedI l s < 0)) = false) (im : Blk) (ks : List (List AV)) (m : Nat) (hm : ks.length = m) (hm5 : m ≤ 4) (hk1 : ∀ x ∈ ks, x.length = 1) (Q : Ex → Env → Hp → Prop) (hq : NEnd l ns k es im Q) (e : Env) :
    RawP T needsB (nEnv e (.rs (l.map Img.enc)) (.sl 5 0 n (some n) 1) (.int .i64 k) (.int .i64 k) (.rs (ns.map fun s => [AV.str s])) (.int .i64 (ns.map fun s => [AV.str s]).length) (.int .i64 ((4 : Nat) : Int))) ⟨[(109, ⟨1, ks⟩), (15, im), (5, ⟨1, es.set k [.sl 109 0 m none 1]⟩)], 114⟩ Q := by
  subst hm
  have hset : ∀ v : List AV, (es.set k v)[k]? = some v := fun v => List.getElem?_set_self hke
  refine RawP.by ?_
  refine Br.mk (fun h => ?_) (fun h => ?_)
  · have hlt : 4 < ns.length := by simp only [List.length_map] at h; have := of_decide_eq_true h; omega
    refine SomeP.mk' (idx_map (enc := fun s => [AV.str s]) hlt fun _ => rfl) ?_
    refine CallP.mk' (named_rt l ns[4] hlm) ?_
    refine Br.mk (fun h' => ?_) (fun h' => ?_)
    · exact hq.ret _ _ ns[4] (List.getElem_mem hlt) h' rfl rfl rfl
    · (conv => whnf)
      refine SomeP.mk' (idx_sl hkn) ?_
      refine stepD_load (loadAt_cell rfl (hset _) rfl) ?_
      (conv => whnf)
      refine SomeP.mk' (append_sl (es := ks) rfl (by omega) (by decide) (by decide) rfl hk1) ?_
      (conv => whnf)
      refine SomeP.mk' (idx_sl hkn) ?_
      (conv => whnf)
      rw [show ∀ v, (Blk.mk 1 (es.set k v)).es[k]? = some v from hset]
      (conv => whnf)
      rw [List.set_set]
      refine RawP.env (nEnv_eq rfl rfl rfl rfl rfl rfl rfl) (nin5 l hlm k n hkn es hke ns h5 (any_take_succ hany hlt h') im (ks ++ [[.int .i64 (namedI l ns[4])]]) (ks.length + 1) (by simp) (by omega) (fun x hx => ?_) Q hq _)
      rcases List.mem_append.1 hx with h | h
      · exact hk1 x h
      · simp at h; subst h; rfl
  · have hge : ns.length ≤ 4 := by simp only [List.length_map] at h; have := of_decide_eq_false h; omega
    exact hq.ex1 _ _ _ _ _ (any_take hany hge) rfl rfl
set_option maxHeartbeats 2000000 in
theorem nin3 (l : List Img) (hlm : l.length ≤ maxLen) (k n : Nat) (hkn : k < n) (es : List (List AV)) (hke : k < es.length) (ns : List ByteArray) (h5 : ns.length ≤ 5) (hany : (ns.take 3).any (fun s => decide (namedI l s < 0)) = false) (im : Blk) (ks : List (List AV)) (m : Nat) (hm : ks.length = m) (hm5 : m ≤ 3) (hk1 : ∀ x ∈ ks, x.length = 1) (Q : Ex → Env → Hp → Prop) (hq : NEnd l ns k es im Q) (e : Env) :
    RawP T needsB (nEnv e (.rs (l.map Img.enc)) (.sl 5 0 n (some n) 1) (.int .i64 k) (.int .i64 k) (.rs (ns.map fun s => [AV.str s])) (.int .i64 (ns.map fun s => [AV.str s]).length) (.int .i64 ((3 : Nat) : Int))) ⟨[(86, ⟨1, ks⟩), (15, im), (5, ⟨1, es.set k [.sl 86 0 m none 1]⟩)], 91⟩ Q := by
  subst hm
  have hset : ∀ v : List AV, (es.set k v)[k]? = some v := fun v => List.getElem?_set_self hke
  refine RawP.by ?_
  refine Br.mk (fun h => ?_) (fun h => ?_)
  · have hlt : 3 < ns.length := by simp only [List.length_map] at h; have := of_decide_eq_true h; omega
    refine SomeP.mk' (idx_map (enc := fun s => [AV.str s]) hlt fun _ => rfl) ?_
    refine CallP.mk' (named_rt l ns[3] hlm) ?_
    refine Br.mk (fun h' => ?_) (fun h' => ?_)
    · exact hq.ret _ _ ns[3] (List.getElem_mem hlt) h' rfl rfl rfl
    · (conv => whnf)
      refine SomeP.mk' (idx_sl hkn) ?_
      refine stepD_load (loadAt_cell rfl (hset _) rfl) ?_
      (conv => whnf)
      refine SomeP.mk' (append_sl (es := ks) rfl (by omega) (by decide) (by decide) rfl hk1) ?_
      (conv => whnf)
      refine SomeP.mk' (idx_sl hkn) ?_
      (conv => whnf)
      rw [show ∀ v, (Blk.mk 1 (es.set k v)).es[k]? = some v from hset]
      (conv => whnf)
      rw [List.set_set]
      refine RawP.env (nEnv_eq rfl rfl rfl rfl rfl rfl rfl) (nin4 l hlm k n hkn es hke ns h5 (any_take_succ hany hlt h') im (ks ++ [[.int .i64 (namedI l ns[3])]]) (ks.length + 1) (by simp) (by omega) (fun x hx => ?_) Q hq _)
      rcases List.mem_append.1 hx with h | h
      · exact hk1 x h
      · simp at h; subst h; rfl
  · have hge : ns.length ≤ 3 := by simp only [List.length_map] at h; have := of_decide_eq_false h; omega
    exact hq.ex1 _ _ _ _ _ (any_take hany hge) rfl rfl
set_option maxHeartbeats 2000000 in
theorem nin2 (l : List Img) (hlm : l.length ≤ maxLen) (k n : Nat) (hkn : k < n) (es : List (List AV)) (hke : k < es.length) (ns : List ByteArray) (h5 : ns.length ≤ 5) (hany : (ns.take 2).any (fun s => decide (namedI l s < 0)) = false) (im : Blk) (ks : List (List AV)) (m : Nat) (hm : ks.length = m) (hm5 : m ≤ 2) (hk1 : ∀ x ∈ ks, x.length = 1) (Q : Ex → Env → Hp → Prop) (hq : NEnd l ns k es im Q) (e : Env) :
    RawP T needsB (nEnv e (.rs (l.map Img.enc)) (.sl 5 0 n (some n) 1) (.int .i64 k) (.int .i64 k) (.rs (ns.map fun s => [AV.str s])) (.int .i64 (ns.map fun s => [AV.str s]).length) (.int .i64 ((2 : Nat) : Int))) ⟨[(63, ⟨1, ks⟩), (15, im), (5, ⟨1, es.set k [.sl 63 0 m none 1]⟩)], 68⟩ Q := by
  subst hm
  have hset : ∀ v : List AV, (es.set k v)[k]? = some v := fun v => List.getElem?_set_self hke
  refine RawP.by ?_
  refine Br.mk (fun h => ?_) (fun h => ?_)
  · have hlt : 2 < ns.length := by simp only [List.length_map] at h; have := of_decide_eq_true h; omega
    refine SomeP.mk' (idx_map (enc := fun s => [AV.str s]) hlt fun _ => rfl) ?_
    refine CallP.mk' (named_rt l ns[2] hlm) ?_
    refine Br.mk (fun h' => ?_) (fun h' => ?_)
    · exact hq.ret _ _ ns[2] (List.getElem_mem hlt) h' rfl rfl rfl
    · (conv => whnf)
      refine SomeP.mk' (idx_sl hkn) ?_
      refine stepD_load (loadAt_cell rfl (hset _) rfl) ?_
      (conv => whnf)
      refine SomeP.mk' (append_sl (es := ks) rfl (by omega) (by decide) (by decide) rfl hk1) ?_
      (conv => whnf)
      refine SomeP.mk' (idx_sl hkn) ?_
      (conv => whnf)
      rw [show ∀ v, (Blk.mk 1 (es.set k v)).es[k]? = some v from hset]
      (conv => whnf)
      rw [List.set_set]
      refine RawP.env (nEnv_eq rfl rfl rfl rfl rfl rfl rfl) (nin3 l hlm k n hkn es hke ns h5 (any_take_succ hany hlt h') im (ks ++ [[.int .i64 (namedI l ns[2])]]) (ks.length + 1) (by simp) (by omega) (fun x hx => ?_) Q hq _)
      rcases List.mem_append.1 hx with h | h
      · exact hk1 x h
      · simp at h; subst h; rfl
  · have hge : ns.length ≤ 2 := by simp only [List.length_map] at h; have := of_decide_eq_false h; omega
    exact hq.ex1 _ _ _ _ _ (any_take hany hge) rfl rfl
set_option maxHeartbeats 2000000 in
theorem nin1 (l : List Img) (hlm : l.length ≤ maxLen) (k n : Nat) (hkn : k < n) (es : List (List AV)) (hke : k < es.length) (ns : List ByteArray) (h5 : ns.length ≤ 5) (hany : (ns.take 1).any (fun s => decide (namedI l s < 0)) = false) (im : Blk) (ks : List (List AV)) (m : Nat) (hm : ks.length = m) (hm5 : m ≤ 1) (hk1 : ∀ x ∈ ks, x.length = 1) (Q : Ex → Env → Hp → Prop) (hq : NEnd l ns k es im Q) (e : Env) :
    RawP T needsB (nEnv e (.rs (l.map Img.enc)) (.sl 5 0 n (some n) 1) (.int .i64 k) (.int .i64 k) (.rs (ns.map fun s => [AV.str s])) (.int .i64 (ns.map fun s => [AV.str s]).length) (.int .i64 ((1 : Nat) : Int))) ⟨[(40, ⟨1, ks⟩), (15, im), (5, ⟨1, es.set k [.sl 40 0 m none 1]⟩)], 45⟩ Q := by
  subst hm
  have hset : ∀ v : List AV, (es.set k v)[k]? = some v := fun v => List.getElem?_set_self hke
  refine RawP.by ?_
  refine Br.mk (fun h => ?_) (fun h => ?_)
  · have hlt : 1 < ns.length := by simp only [List.length_map] at h; have := of_decide_eq_true h; omega
    refine SomeP.mk' (idx_map (enc := fun s => [AV.str s]) hlt fun _ => rfl) ?_
    refine CallP.mk' (named_rt l ns[1] hlm) ?_
    refine Br.mk (fun h' => ?_) (fun h' => ?_)
    · exact hq.ret _ _ ns[1] (List.getElem_mem hlt) h' rfl rfl rfl
    · (conv => whnf)
      refine SomeP.mk' (idx_sl hkn) ?_
      refine stepD_load (loadAt_cell rfl (hset _) rfl) ?_
      (conv => whnf)
      refine SomeP.mk' (append_sl (es := ks) rfl (by omega) (by decide) (by decide) rfl hk1) ?_
      (conv => whnf)
      refine SomeP.mk' (idx_sl hkn) ?_
      (conv => whnf)
      rw [show ∀ v, (Blk.mk 1 (es.set k v)).es[k]? = some v from hset]
      (conv => whnf)
      rw [List.set_set]
      refine RawP.env (nEnv_eq rfl rfl rfl rfl rfl rfl rfl) (nin2 l hlm k n hkn es hke ns h5 (any_take_succ hany hlt h') im (ks ++ [[.int .i64 (namedI l ns[1])]]) (ks.length + 1) (by simp) (by omega) (fun x hx => ?_) Q hq _)
      rcases List.mem_append.1 hx with h | h
      · exact hk1 x h
      · simp at h; subst h; rfl
  · have hge : ns.length ≤ 1 := by simp only [List.length_map] at h; have := of_decide_eq_false h; omega
    exact hq.ex1 _ _ _ _ _ (any_take hany hge) rfl rfl
set_option maxHeartbeats 2000000 in
theorem nin0 (l : List Img) (hlm : l.length ≤ maxLen) (k n : Nat) (hkn : k < n) (es : List (List AV)) (hke : k < es.length) (hes : es[k]? = some [.nils]) (ns : List ByteArray) (h5 : ns.length ≤ 5) (hany : (ns.take 0).any (fun s => decide (namedI l s < 0)) = false) (im : Blk) (Q : Ex → Env → Hp → Prop) (hq : NEnd l ns k es im Q) (e : Env) :
    RawP T needsB (nEnv e (.rs (l.map Img.enc)) (.sl 5 0 n (some n) 1) (.int .i64 k) (.int .i64 k) (.rs (ns.map fun s => [AV.str s])) (.int .i64 (ns.map fun s => [AV.str s]).length) (.int .i64 ((0 : Nat) : Int))) ⟨[(15, im), (5, ⟨1, es⟩)], 22⟩ Q := by
  refine RawP.by ?_
  refine Br.mk (fun h => ?_) (fun h => ?_)
  · have hlt : 0 < ns.length := by simp only [List.length_map] at h; have := of_decide_eq_true h; omega
    refine SomeP.mk' (idx_map (enc := fun s => [AV.str s]) hlt fun _ => rfl) ?_
    refine CallP.mk' (named_rt l ns[0] hlm) ?_
    refine Br.mk (fun h' => ?_) (fun h' => ?_)
    · exact hq.ret _ _ ns[0] (List.getElem_mem hlt) h' rfl rfl rfl
    · (conv => whnf)
      refine SomeP.mk' (idx_sl hkn) ?_
      refine stepD_load (loadAt_cell rfl hes rfl) ?_
      (conv => whnf)
      refine SomeP.mk' (append_nils (by decide) (by decide) (by decide) rfl) ?_
      (conv => whnf)
      refine SomeP.mk' (idx_sl hkn) ?_
      (conv => whnf)
      rw [show (Blk.mk 1 es).es[k]? = _ from hes]
      (conv => whnf)
      refine RawP.env (nEnv_eq rfl rfl rfl rfl rfl rfl rfl) (nin1 l hlm k n hkn es hke ns h5 (any_take_succ hany hlt h') im [[.int .i64 (namedI l ns[0])]] 1 rfl (by decide) (fun x hx => by simp at hx; subst hx; rfl) Q hq _)
  · have hge : ns.length ≤ 0 := by simp only [List.length_map] at h; have := of_decide_eq_false h; omega
    exact hq.ex0 _ _ (any_take hany hge) rfl
set_option maxHeartbeats 4000000 in
theorem needs_rt (l : List Img) (hl : l.length ≤ 5) (hn : ∀ x ∈ l, x.needs.length ≤ 5) : ∃ r, Rt T 28 [.rs (l.map Img.enc)] r ∧ NeedsR r (missing l l 0) := by
  have hlm : l.length ≤ maxLen := by unfold maxLen; omega
  refine Rt.wpE rfl rfl ?_
  (conv => whnf)
  refine ⟨rfl, rfl, rfl, rfl, ?_⟩
  refine SomeP.mk' (v := l.length) (by simp [mksA]; omega) ?_
  (conv => whnf)
  have hrep : ∀ e ∈ List.replicate l.length [AV.nils], NCell e := fun e he => .inl (List.eq_of_mem_replicate he)
  refine LoopP.by (α := Nat × List (List AV)) (fun x => l.length - x.1) (fun x => x.1 ≤ l.length ∧ x.2.length = l.length ∧ (∀ j, x.1 ≤ j → j < l.length → x.2[j]? = some [.nils]) ∧ (∀ e ∈ x.2, NCell e) ∧ missing l l 0 = missing l (l.drop x.1) x.1)
    (fun x => [.int .i64 x.1]) (fun x => [(5, ⟨1, x.2⟩)]) (0, List.replicate l.length [.nils]) ⟨Nat.zero_le _, by simp, fun j _ hj => by simp [hj], hrep, rfl⟩ ?_ (fun x hx => ?_)
  · refine Eq.trans (show _ = ([AV.int .i64 0], [(5, purgeB 10 ⟨1, List.replicate l.length [AV.nils]⟩)]) from rfl) ?_
    rw [purgeB_free (refFree_cells hrep)]
    rfl
  · obtain ⟨k, es⟩ := x
    obtain ⟨h1, h2, h3, h4, h5⟩ := hx
    simp only at h1 h2 h3 h4 h5 ⊢
    refine Br.mk (fun h => ?_) (fun h => ?_)
    · have hlt : k < l.length := by simp at h; omega
      have hke : k < es.length := by omega
      have hes := h3 k (Nat.le_refl _) hlt
      have hnk := hn _ (List.getElem_mem hlt)
      rw [missing_drop hlt] at h5
      have fin : ∀ s ∈ l[k].needs, decide (namedI l s < 0) = true → NeedsR (.tup [.nils, .int .i64 k, .bool false]) (missing l l 0) := fun s hs h => ⟨.nils, .inl rfl, by rw [h5, any_of hs h]; rfl⟩
      have nxt : ∀ b : List (Nat × Blk), l[k].needs.any (fun s => decide (namedI l s < 0)) = false → (b = [(5, ⟨1, es⟩)] ∨ b = [(5, ⟨1, es.set k [.top]⟩)]) → ∃ y : Nat × List (List AV), l.length - y.1 < l.length - k ∧
          (y.1 ≤ l.length ∧ y.2.length = l.length ∧ (∀ j, y.1 ≤ j → j < l.length → y.2[j]? = some [.nils]) ∧ (∀ e ∈ y.2, NCell e) ∧ missing l l 0 = missing l (l.drop y.1) y.1) ∧ ([AV.int .i64 (IntKind.wrap .i64 (k + 1))], b) = ([.int .i64 y.1], [(5, ⟨1, y.2⟩)]) := fun b ha hb => by
        have hw := wrap_nat (show k < 9223372036854775807 by omega)
        rcases hb with rfl | rfl
        · exact ⟨(k + 1, es), by simp only; omega, ⟨by simp only; omega, h2, fun j hj hj' => h3 j (by simp only at hj; omega) hj', h4, by rw [h5, ha]; rfl⟩, by rw [hw]⟩
        · refine ⟨(k + 1, es.set k [.top]), by simp only; omega, ⟨by simp only; omega, by simpa using h2, fun j hj hj' => ?_, fun e he => ?_, by rw [h5, ha]; rfl⟩, by rw [hw]⟩
          · simp only at hj ⊢
            rw [List.getElem?_set_ne (by omega)]
            exact h3 j (by omega) hj'
          · rcases List.mem_or_eq_of_mem_set he with h | h
            · exact h4 e h
            · exact .inr h
      have hcell : ∀ lab m, Nat.blt lab 10 = false → purgeB 10 ⟨1, es.set k [.sl lab 0 m none 1]⟩ = ⟨1, es.set k [.top]⟩ := fun lab m hl => purgeB_cell h4 hke hl
      have hfree : purgeB 10 ⟨1, es⟩ = ⟨1, es⟩ := purgeB_free (refFree_cells h4)
      clear h5 h4 h3 h1 hrep
      refine SomeP.mk' (idx_map hlt fun _ => rfl) ?_
      (conv => whnf)
      refine RawP.env (nEnv_eq rfl rfl rfl rfl rfl rfl rfl) (nin0 l hlm k l.length hlt es hke hes l[k].needs hnk rfl ⟨19, [l[k].enc]⟩ _ ⟨fun e h s hs hd h2 h3 h4 => ?_, fun e nx ha h16 => ?_, fun e nx lab m ks ha hlab h16 => ?_⟩ _)
      · refine SomeE.mk' (r := .tup [.nils, .int .i64 k, .bool false]) ?_ (fin s hs hd)
        have hr : resultA ⟨e, h⟩ rf28.res = some (.tup [.nils, .int .i64 k, .bool false]) := by
          show some (AV.tup [e 2, e 3, e 4]) = _
          rw [h2, h3, h4]
        rw [hr]
        rfl
      · rw [← upd_self h16]
        (conv => whnf)
        refine nxt _ ha (.inl ?_)
        refine Eq.trans (show _ = [(5, purgeB 10 ⟨1, es⟩)] from rfl) ?_
        rw [hfree]
      · rw [← upd_self h16]
        (conv => whnf)
        refine nxt _ ha (.inr ?_)
        refine Eq.trans (show _ = (bif Nat.blt lab 10 then (lab, purgeB 10 ⟨1, ks⟩) :: [(5, purgeB 10 ⟨1, es.set k [.sl lab 0 m none 1]⟩)] else [(5, purgeB 10 ⟨1, es.set k [.sl lab 0 m none 1]⟩)]) from rfl) ?_
        rw [hlab, cond_false, hcell lab m hlab]
    · have hge : l.length ≤ k := by simp at h; omega
      refine SomeE.mk' (r := .tup [.rs es, .int .i64 0, .bool true]) ?_ ⟨.rs es, .inr ⟨es, rfl⟩, by rw [h5, List.drop_of_length_le hge]; rfl⟩
      exact frz_need (h := ⟨[(5, ⟨1, es⟩)], 0⟩) rfl h2 (refFree_cells h4)
end Go.Proofs.YtnibcojenlijgaaGreatDoor.Ev
