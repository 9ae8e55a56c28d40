/- Each operation's law, fifth part: append, make. No condition. -/
import Derived.Test.YtnibcojenlijgaaGreatDoorEv9
import Derived.Deep.Upon
import Derived.Laws.AppendOwn
set_option linter.unusedVariables false
set_option linter.unusedSimpArgs false
namespace Go.Proofs.YtnibcojenlijgaaGreatDoor.Ev
open Go Go.RowKit
section
variable {C : Cfg} {K : Kn} {σ : Sg} {e : Env} {h : Hp} {w : World} {a : Act}

theorem Sim.del (hS : Sim K σ h w) (l : Nat) : Sim K σ (h.del l) w where
  kn := hS.kn
  bk k B hk := by
    by_cases hkl : k = l
    · subst hkl; rw [Hp.get_del_self] at hk; cases hk
    · rw [Hp.get_del_other hkl] at hk; exact hS.bk k B hk
  dj k k' B B' x x' h1 h2 h3 h4 h5 := by
    have back : ∀ {k B}, (h.del l).get k = some B → h.get k = some B := fun {k B} hk => by
      by_cases hkl : k = l
      · subst hkl; rw [Hp.get_del_self] at hk; cases hk
      · rw [Hp.get_del_other hkl] at hk; exact hk
    exact hS.dj k k' B B' x x' (back h1) (back h2) h3 h4 h5
theorem Ext.del {l : Nat} : Ext K σ h w K σ (h.del l) w :=
  ⟨KLe.refl _, SLe.refl _, Nat.le_refl _, fun _ _ _ => rfl, fun _ _ _ _ => rfl, fun b hb => by
    obtain ⟨k, B, x, h1, h2, h3⟩ := hb
    right
    by_cases hkl : k = l
    · subst hkl; rw [Hp.get_del_self] at h1; cases h1
    · rw [Hp.get_del_other hkl] at h1; exact ⟨k, B, x, h1, h2, h3⟩, rfl, rfl, rfl, fun _ => rfl⟩

theorem oneL_flat : ∀ (es : List (List AV)), (∀ e ∈ es, oneL e = true) → oneL es.flatten = true := by
  have app : ∀ (x y : List AV), oneL x = true → oneL y = true → oneL (x ++ y) = true := by
    intro x y h1 h2
    induction x with
    | nil => exact h2
    | cons c x ih => simp only [oneL, Bool.and_eq_true] at h1; simp [oneL, h1.1, ih h1.2]
  intro es
  induction es with
  | nil => intro _; rfl
  | cons e es ih => intro hl; rw [List.flatten_cons]; exact app _ _ (hl e (by simp)) (ih fun x hx => hl x (by simp [hx]))

/-- A row of which the first cells are known. -/
theorem row_prefix {sz : Nat} {es : List (List AV)} {pre rest : List Value} {c : Array Value} (hc : c.toList = pre ++ rest) (hl : ∀ e ∈ es, e.length = sz) (hr : RelL K σ es.flatten pre) (ho : ∀ v ∈ pre, v.oneCell' = true) : Row K σ sz es 0 c where
  fit := by
    have h1 := hr.1
    rw [flatten_length es hl] at h1
    have h2 : c.size = pre.length + rest.length := by rw [← Array.length_toList, hc, List.length_append]
    omega
  len := hl
  at_ i j x p h1 h2 := by
    have hj : j < sz := by rw [← hl x (List.mem_of_getElem? h1)]; exact (List.getElem?_eq_some_iff.1 h2).1
    have hg := flatten_get es i j hl hj
    rw [h1] at hg
    simp only [Option.bind_some, h2] at hg
    have hlt : i * sz + j < pre.length := by rw [hr.1]; exact (List.getElem?_eq_some_iff.1 hg).1
    have hv : pre[i * sz + j]? = some pre[i * sz + j] := by simp [hlt]
    have hcv : c[i * sz + j]? = some pre[i * sz + j] := by rw [← Array.getElem?_toList, hc, List.getElem?_append_left hlt, hv]
    exact ⟨_, by rw [Nat.zero_add]; exact hcv, ho _ (List.mem_of_getElem? hv), hr.2 _ p _ hg hv⟩

theorem zeroCells_size (z : Array Value) (n : Nat) : (Builtin.zeroCells z n).size = n * z.size := by simp [Builtin.zeroCells]

/-- append makes a new row. -/
theorem append_grow (hS : Sim K σ h w) {fr : Nat} (hf : σ fr = none) {t tx ty et : TypeId} {i : TypeInfo} {z : Value} (ht : C.P.underlying t = some (.slice et)) (hi : C.P.info? et = some i) (hz : i.zero = some z) {sz : Nat} (hsz : i.size = sz) (hzs : z.cells.size = sz)
    {old new : List (List AV)} (hlo : ∀ e ∈ old, e.length = sz) (hln : ∀ e ∈ new, e.length = sz) {ao : Option Addr} {n cap : Nat} (hno : n = old.length) {olds news : List Value} (ro : RelL K σ old.flatten olds) (rn : RelL K σ new.flatten news)
    (so : Src C.P sz t (.slice ao n cap) n olds w) {X : Value} (sn : Src C.P sz tx X new.length news w) (hg : cap < n + new.length) (hb0 : 0 < i.bytes) (hb : (n + new.length) * i.bytes ≤ 140737488355328) {r : Result Next}
    (hr : r = ((Builtin.append_ #[t, tx] ty #[.slice ao n cap, X]).run C.P w).andThen fun v w' => .ok (.value v) w') :
    Done K σ h w fr (.sl fr 0 (n + new.length) none sz) (h.new fr ⟨sz, old ++ new⟩) r := by
  have hle : n + new.length ≤ 140737488355328 := Nat.le_trans (Nat.le_mul_of_pos_right _ hb0) hb
  have hrun := run_append_grow_src (P := C.P) w t tx ty et i z ht hi hz ao n cap olds (by rw [hsz]; exact so.cellsD) X new.length news (by rw [hsz]; exact sn) hg (by omega) (growslice_fits hg hb)
  have hge := grownCap_ge w (n + new.length) cap et
  have hgd := hS.grow (w' := w.drew) (fun b _ => rfl)
  have hlen : ((olds ++ news).toArray ++ Builtin.zeroCells z.cells (grownCap w (n + new.length) cap et - (n + new.length))).size = grownCap w (n + new.length) cap et * sz := by
    simp only [Array.size_append, List.size_toArray, List.length_append, zeroCells_size, hzs, ro.1, rn.1, flatten_length old hlo, flatten_length new hln, ← hno]
    rw [← Nat.add_mul, ← Nat.add_mul]
    congr 1
    omega
  have hrow : Row K σ sz (old ++ new) 0 ((olds ++ news).toArray ++ Builtin.zeroCells z.cells (grownCap w (n + new.length) cap et - (n + new.length))) :=
    row_prefix (pre := olds ++ news) (rest := (Builtin.zeroCells z.cells (grownCap w (n + new.length) cap et - (n + new.length))).toList) (by simp) (fun e he => by
      rcases List.mem_append.1 he with he | he
      · exact hlo e he
      · exact hln e he) (by rw [List.flatten_append]; exact ro.append rn) (fun v hv => by
      rcases List.mem_append.1 hv with hv | hv
      · exact so.one v hv
      · exact sn.one v hv)
  obtain ⟨g1, g2⟩ := hgd.new hf et hrow
  refine ⟨_, _, K, _, .inl (by rw [hr, hrun]; rfl), ?_, g1, Ext.drew.trans g2, fun l hl => sput_other hl⟩
  have := Rel.sl (K := K) (σ := sput σ fr ⟨w.drew.heap.size, 0, sz, ((olds ++ news).toArray ++ Builtin.zeroCells z.cells (grownCap w (n + new.length) cap et - (n + new.length))).size⟩) (l := fr) (off := 0) (n := n + new.length) (c := none) (z := sz)
    (rc := grownCap w (n + new.length) cap et) sput_self rfl hge (fun k hk => by cases hk) (by rw [hlen]; simp)
  simpa using this

/-- append in place: the block is the new slice's. -/
theorem append_room (hS : Sim K σ h w) {fr : Nat} (hf : σ fr = none) {t tx ty et : TypeId} {i : TypeInfo} (ht : C.P.underlying t = some (.slice et)) (hi : C.P.info? et = some i) {sz : Nat} (hsz : i.size = sz)
    {l : Nat} {B : Blk} (hl : h.get l = some B) {x : Sl} (hx : σ l = some x) (hxs : x.sz = sz) {new : List (List AV)} (hln : ∀ e ∈ new, e.length = sz) {n cap : Nat} (hn : n = B.es.length) {news : List Value} (rn : RelL K σ new.flatten news) {X : Value} (sn : Src C.P sz tx X new.length news w)
    (hroom : n + new.length ≤ cap) (hfit : x.base + cap * sz ≤ x.tot) {r : Result Next}
    (hr : r = ((Builtin.append_ #[t, tx] ty #[.slice (some ⟨x.b, x.base, none⟩) n cap, X]).run C.P w).andThen fun v w' => .ok (.value v) w') :
    Done K σ h w fr (.sl fr 0 (n + new.length) none sz) ((h.del l).new fr ⟨sz, B.es ++ new⟩) r := by
  obtain ⟨y, c, ty', h1, h2, h3, h4, h5, h6, h7, h8⟩ := hS.bk l B hl
  rw [hx] at h1; cases h1
  have hBs : B.sz = sz := by rw [← h2, hxs]
  have hnl : news.length = new.length * sz := by rw [rn.1, flatten_length new hln]
  have hmul : (n + new.length) * sz ≤ cap * sz := Nat.mul_le_mul_right _ hroom
  rw [Nat.add_mul] at hmul
  have hfit2 : x.base + n * sz + 0 + news.length ≤ c.size := by rw [hnl, h4]; omega
  have hst := run_storeCells_at (P := C.P) x.b (x.base + n * sz) ty' news 0 c w h3 hfit2 sn.one
  have hcell : ∀ j, j < news.length → (w.cell? ⟨x.b, x.base + n * sz + j, none⟩).isSome = true := fun j hj => by
    have : x.base + n * sz + j < c.size := by omega
    simp [World.cell?, h3, this]
  have hfro : ∀ j, j < news.length → w.frozen? ⟨x.b, x.base + n * sz + j, none⟩ = false := fun j hj => by simp [World.frozen?, h3]
  have hst2 := run_storeCells_cells (P := C.P) x.b (x.base + n * sz) news 0 w (by simpa using hcell) (by simpa using hfro) sn.one
  rw [hst] at hst2
  have hw : w.setCells x.b (x.base + n * sz + 0) news = w.setRow x.b (c.toList.take (x.base + n * sz + 0) ++ news ++ c.toList.drop (x.base + n * sz + 0 + news.length)).toArray := by injection hst2 with _ h; exact h.symm
  have hrun := run_append_room_src (P := C.P) w t tx ty et i ht hi x.b x.base n cap X new.length news (by rw [hsz]; exact sn) hroom (by rw [hsz]; exact hcell) (by rw [hsz]; exact hfro)
  rw [hsz, ← Nat.add_zero (x.base + n * sz), hw] at hrun
  have hget := fun q => splice_get c.toList news (x.base + n * sz + 0) q (by simpa using hfit2)
  generalize hc' : (c.toList.take (x.base + n * sz + 0) ++ news ++ c.toList.drop (x.base + n * sz + 0 + news.length)) = cl at *
  have hcl : cl.length = c.size := by
    rw [← hc']
    simp only [List.length_append, List.length_take, List.length_drop, Array.length_toList]
    omega
  have hle := sput_le (x := ⟨x.b, x.base, sz, x.tot⟩) hf
  have hlfr : l ≠ fr := fun e0 => by subst e0; rw [hf] at hx; cases hx
  have hnl' : ∀ k D y, h.get k = some D → σ k = some y → k ≠ l → y.b ≠ x.b := fun k D y g1 g2 g3 g4 => g3 (hS.dj k l D B y x g1 hl g2 hx g4)
  have hfn : (h.del l).get fr = none := by rw [Hp.get_del_other (Ne.symm hlfr)]; exact hS.get_none hf
  have key : ∀ {k D}, ((h.del l).new fr ⟨sz, B.es ++ new⟩).get k = some D → (k = fr ∧ D = ⟨sz, B.es ++ new⟩) ∨ (k ≠ fr ∧ k ≠ l ∧ h.get k = some D) := fun {k D} hk => by
    by_cases hkf : k = fr
    · subst hkf; rw [Hp.get_new_self _ hfn] at hk; cases hk; exact .inl ⟨rfl, rfl⟩
    · rw [Hp.get_new_other _ hkf] at hk
      by_cases hkl : k = l
      · subst hkl; rw [Hp.get_del_self] at hk; cases hk
      · rw [Hp.get_del_other hkl] at hk; exact .inr ⟨hkf, hkl, hk⟩
  refine ⟨_, _, K, sput σ fr ⟨x.b, x.base, sz, x.tot⟩, .inl (by rw [hr, hrun]; rfl), ?_, ⟨fun b o u hu => ?_, fun k D hk => ?_, fun k k' D D' y y' g1 g2 g3 g4 g5 => ?_⟩, ?_, fun k hk => sput_other hk⟩
  · have := Rel.sl (K := K) (σ := sput σ fr ⟨x.b, x.base, sz, x.tot⟩) (l := fr) (off := 0) (n := n + new.length) (c := none) (z := sz) (rc := cap) sput_self rfl hroom (fun k hk => by cases hk) (by simpa using hfit)
    simpa using this
  · obtain ⟨g1, g2⟩ := hS.kn b o u hu
    have hbne : b ≠ x.b := fun e => by subst e; rw [h8] at hu; cases hu
    exact ⟨(cell?_heap (setRow_other w x.b b _ hbne)).trans g1, g2⟩
  · rcases key hk with ⟨rfl, rfl⟩ | ⟨hkf, hkl, hk⟩
    · refine ⟨_, _, ty', sput_self, rfl, setRow_heap w x.b c _ ty' (0, 0) h3, by simpa [hcl] using h4, ?_, ?_, fun q j y p g1 g2 => ?_, h8⟩
      · simp only [List.length_append, ← hn, Nat.add_mul]; omega
      · intro y hy
        rcases List.mem_append.1 hy with hy | hy
        · rw [h6 y hy, hBs]
        · exact hln y hy
      · have hj : j < sz := by
          have hjl := (List.getElem?_eq_some_iff.1 g2).1
          rcases List.mem_append.1 (List.mem_of_getElem? g1) with hy | hy
          · rw [h6 y hy, hBs] at hjl; exact hjl
          · rw [hln y hy] at hjl; exact hjl
        simp only [List.getElem?_toArray, hget]
        by_cases hq : q < n
        · rw [List.getElem?_append_left (by omega)] at g1
          obtain ⟨v, e1, e2, e3⟩ := h7 q j y p g1 g2
          rw [hBs] at e1
          have := Nat.mul_le_mul_right sz (show q + 1 ≤ n from hq)
          rw [Nat.add_mul, Nat.one_mul] at this
          exact ⟨v, by rw [if_neg (by omega)]; simpa using e1, e2, e3.mono (KLe.refl _) hle⟩
        · rw [List.getElem?_append_right (by omega), ← hn] at g1
          have hqn : q - n < new.length := (List.getElem?_eq_some_iff.1 g1).1
          have hfg := flatten_get new (q - n) j hln hj
          rw [g1] at hfg
          simp only [Option.bind_some, g2] at hfg
          have hlt : (q - n) * sz + j < news.length := by rw [rn.1]; exact (List.getElem?_eq_some_iff.1 hfg).1
          have hv : news[(q - n) * sz + j]? = some news[(q - n) * sz + j] := by simp [hlt]
          have hqq : q * sz = n * sz + (q - n) * sz := by rw [← Nat.add_mul]; congr 1; omega
          refine ⟨_, ?_, sn.one _ (List.mem_of_getElem? hv), (rn.2 _ p _ hfg hv).mono (KLe.refl _) hle⟩
          rw [if_pos (by omega), ← hv]
          congr 1
          omega
    · obtain ⟨y, c1, t1, g1, g2, g3, g4, g5, g6, g7, g8⟩ := hS.bk k D hk
      exact ⟨y, c1, t1, hle _ _ g1, g2, (setRow_other w x.b y.b _ (hnl' k D y hk g1 hkl)).trans g3, g4, g5, g6, fun q j u p e1 e2 => by
        obtain ⟨v, f1, f2, f3⟩ := g7 q j u p e1 e2
        exact ⟨v, f1, f2, f3.mono (KLe.refl _) hle⟩, g8⟩
  · rcases key g1 with ⟨rfl, rfl⟩ | ⟨ka, kb, kc⟩ <;> rcases key g2 with ⟨rfl, rfl⟩ | ⟨ka', kb', kc'⟩
    · rfl
    · rw [sput_self] at g3; cases g3
      rw [sput_other ka'] at g4
      exact absurd g5.symm (hnl' k' D' y' kc' g4 kb')
    · rw [sput_self] at g4; cases g4
      rw [sput_other ka] at g3
      exact absurd g5 (hnl' k D y kc g3 kb)
    · rw [sput_other ka] at g3
      rw [sput_other ka'] at g4
      exact hS.dj k k' D D' y y' kc kc' g3 g4 g5
  · refine ⟨KLe.refl _, hle, by rw [setRow_size]; exact Nat.le_refl _, fun b hb hno => setRow_other w x.b b _ (fun e0 => hno ⟨l, B, x, hl, hx, e0.symm⟩), fun _ _ _ _ => rfl, fun b hb => ?_, rfl, rfl, rfl, fun a => setRow_frozen w x.b _ c ty' a h3⟩
    obtain ⟨k, D, y, g1, g2, rfl⟩ := hb
    right
    rcases key g1 with ⟨rfl, rfl⟩ | ⟨ka, kb, kc⟩
    · rw [sput_self] at g2; cases g2; exact ⟨l, B, x, hl, hx, rfl⟩
    · rw [sput_other ka] at g2; exact ⟨k, D, y, kc, g2, rfl⟩
end
end Go.Proofs.YtnibcojenlijgaaGreatDoor.Ev
