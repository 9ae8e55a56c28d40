/- The reference's check of images answers as the program's. No condition. -/
import Derived.Test.YtnibcojenlijgaaGreatDoorRd
set_option linter.unusedVariables false
set_option linter.unusedSimpArgs false
namespace Go.Proofs.YtnibcojenlijgaaGreatDoor.Ev
open Go Go.RowKit
set_option maxRecDepth 10000
def eAt (x : Img) (k : Nat) : Int := match k with
  | 0 => 0
  | k + 1 => match x.segs[k]? with
    | some p => upI (w64 (p.addr + p.size)) 256
    | none => 0
theorem segR_eq {x : Img} {k : Nat} (hk : k < x.segs.length) : segR k x.segs[k] (x.segs[k - 1]'(by omega)) = segC x.segs[k] (eAt x k) := by
  cases k with
  | zero => exact segR_zero
  | succ k =>
    have : x.segs[k]? = some (x.segs[k]'(by omega)) := List.getElem?_eq_getElem (by omega)
    rw [segR_succ (by omega)]
    simp only [eAt, this]
    rfl
def tailR (x : Img) : Flt :=
  bif (x.entry != -1) && (decide (x.entry < 0) || !withinR x x.entry 0 4) then ⟨3, -2⟩
  else bif !inR x.tsize 0 8000 then ⟨3, -3⟩
  else bif decide ((x.thread.length : Int) > x.tsize) then ⟨9, -3⟩
  else bif !inR x.id 0 4294967295 then ⟨3, -4⟩ else .ok
theorem tail_eq {x : Img} (hn : isName x.name = true) (hs : segments x.segs = .ok) (hseg : ∀ s ∈ x.segs, SegOK s) : headF x = tailR x := by
  have e1 : ((x.entry != -1) && (decide (x.entry < 0) || !withinR x x.entry 0 4)) = (decide (x.entry < -1) || (decide (x.entry ≥ 0) && !within x x.entry 0 4)) := by
    rw [withinR_eq hseg (Int.le_refl 0)]
    rw [Bool.eq_iff_iff]
    cases within x x.entry 0 4 <;> simp <;> omega
  simp only [headF, tailR, hn, hs, e1, not_inR]
  rfl
theorem firstBad_skip {l : List Flt} {k : Nat} (hk : k < l.length) (h : l[k].isOk = true) : firstBad (l.drop k) = firstBad (l.drop (k + 1)) := by
  rw [List.drop_eq_getElem_cons hk]; simp only [firstBad, h]; rfl
theorem firstBad_stop {l : List Flt} {k : Nat} (hk : k < l.length) (h : l[k].isOk = false) : firstBad (l.drop k) = l[k] := by
  rw [List.drop_eq_getElem_cons hk]; simp only [firstBad, h]; rfl
theorem checks_len (x : Img) : (checks x).length = 12 := rfl
theorem lists_of (x : Img) (ok : x.ok) (hseg : ∀ s ∈ x.segs, SegOK s) (n : Nat) (h11 : 11 ≤ n) (h22 : n ≤ 22) (h20 : n ≠ 20) (hok : ∀ j, j < n - 11 → ∀ f, (checks x)[j]? = some f → f.isOk = true) : ∃ len most c, ListOK x n len most c := by
  have lim : ∀ (j len : Nat) (most list : Int) (c : Nat → Int), j < n - 11 → (checks x)[j]? = some (eachF len most list c) → (len : Int) ≤ most := fun j len most list c hj hc => (eachF_ok (hok j hj _ hc)).1
  have hn : n = 11 ∨ n = 12 ∨ n = 13 ∨ n = 14 ∨ n = 15 ∨ n = 16 ∨ n = 17 ∨ n = 18 ∨ n = 19 ∨ n = 21 ∨ n = 22 := by omega
  rcases hn with rfl | rfl | rfl | rfl | rfl | rfl | rfl | rfl | rfl | rfl | rfl
  · exact ⟨_, _, _, list11 x ok hseg⟩
  · exact ⟨_, _, _, list12 x ok hseg⟩
  · have := lim 1 _ _ _ _ (by decide) rfl; exact ⟨_, _, _, list13 x ok hseg (by omega)⟩
  · exact ⟨_, _, _, list14 x ok hseg⟩
  · exact ⟨_, _, _, list15 x ok hseg⟩
  · exact ⟨_, _, _, list16 x ok hseg⟩
  · exact ⟨_, _, _, list17 x ok hseg⟩
  · have := lim 6 _ _ _ _ (by decide) rfl; exact ⟨_, _, _, list18 x ok hseg (by omega)⟩
  · exact ⟨_, _, _, list19 x ok hseg⟩
  · have h9 := hok 9 (by decide) (recsF x) rfl
    have : x.types.length ≤ 1000000 := by
      simp only [recsF] at h9
      cases hr : (recF x.types).isOk with
      | false => rw [hr] at h9; exact absurd (isOk_mk h9).2 (by decide)
      | true =>
        simp only [recF] at hr
        cases hc : decide ((x.types.length : Int) > 30) with
        | true => rw [hc] at hr; exact absurd (isOk_mk hr).1 (by decide)
        | false => have := of_decide_eq_false hc; omega
    exact ⟨_, _, _, list21 x ok hseg this⟩
  · exact ⟨_, _, _, list22 x ok hseg⟩
abbrev iblk (x : Img) : List (Nat × Blk) := [(1, ⟨2, [[.int .i64 0, .int .i64 0]]⟩), (0, ⟨19, [x.enc]⟩)]
def loopsOf : RC → List (List Nat × List Nat × RC)
  | .seq a b => loopsOf a ++ loopsOf b
  | .cond _ a b => loopsOf a ++ loopsOf b
  | .block _ b | .rawloop b => loopsOf b
  | .loop ws live b => [(ws, live, b)]
  | _ => []
def iLoop : List Nat × List Nat × RC := ((loopsOf b30)[1]?).getD ([], [], .skip)
abbrev iEnv (e : Env) (a1 a2 a4 a7 : AV) : Env := upd (upd (upd (upd e 1 a1) 2 a2) 4 a4) 7 a7
theorem iEnv_eq {e : Env} {a1 a2 a4 a7 : AV} (h1 : e 1 = a1) (h2 : e 2 = a2) (h4 : e 4 = a4) (h7 : e 7 = a7) : iEnv e a1 a2 a4 a7 = e := by
  unfold iEnv
  rw [upd_self h1, upd_self h2, upd_self h4, upd_self h7]
/-- How the loop over the lists ends. -/
structure LEnd (x : Img) (Q : Ex → Env → Hp → Prop) : Prop where
  ret : ∀ e nx f, validF x = f → e 4 = .ptr 1 0 0 → Q .ret e ⟨[(1, ⟨2, [[.int .i64 f.code, .int .i64 f.index]]⟩), (0, ⟨19, [x.enc]⟩)], nx⟩
  ex : ∀ e nx, validF x = .ok → e 4 = .ptr 1 0 0 → Q (.exit 2) e ⟨iblk x, nx⟩
set_option maxHeartbeats 4000000 in
theorem lists_loop (x : Img) (ok : x.ok) (hseg : ∀ s ∈ x.segs, SegOK s) (hv : validF x = firstBad (checks x)) (e : Env) (Q : Ex → Env → Hp → Prop) (hq : LEnd x Q) :
    LoopP T iLoop.1 iLoop.2.1 iLoop.2.2 (iEnv e (.int .i64 (recF x.types).code) (.ptr 0 0 0) (.ptr 1 0 0) (.int .i64 ((11 : Nat) : Int))) ⟨iblk x, 47⟩ Q := by
  refine LoopP.by (α := Nat) (fun n => 23 - n) (fun n => 11 ≤ n ∧ n ≤ 23 ∧ validF x = firstBad ((checks x).drop (n - 11)) ∧ ∀ j, j < n - 11 → ∀ f, (checks x)[j]? = some f → f.isOk = true) (fun n => [.int .i64 n]) (fun n => iblk x) 11 ⟨by decide, by decide, hv, fun j h => absurd h (by simp)⟩ rfl (fun n hn => ?_)
  obtain ⟨n1, n2, n3, n4⟩ := hn
  have hww := wrap_nat (show n < 9223372036854775807 by omega)
  have next : ∀ f, (checks x)[n - 11]? = some f → n ≤ 22 → f.isOk = true → ∃ y, 23 - y < 23 - n ∧ (11 ≤ y ∧ y ≤ 23 ∧ validF x = firstBad ((checks x).drop (y - 11)) ∧ ∀ j, j < y - 11 → ∀ f, (checks x)[j]? = some f → f.isOk = true) ∧
      (([AV.int .i64 (IntKind.wrap .i64 (n + 1))], iblk x) : List AV × List (Nat × Blk)) = ([.int .i64 y], iblk x) := fun f hf hn hok => by
    obtain ⟨hl, he⟩ := List.getElem?_eq_some_iff.1 hf
    refine ⟨n + 1, by omega, ⟨by omega, by omega, ?_, fun j hj g hg => ?_⟩, by rw [hww]⟩
    · rw [n3, firstBad_skip hl (by rw [he]; exact hok), show n + 1 - 11 = n - 11 + 1 by omega]
    · by_cases hj' : j = n - 11
      · subst hj'; rw [hf] at hg; cases hg; exact hok
      · exact n4 j (by omega) g hg
  have stop : ∀ f, (checks x)[n - 11]? = some f → f.isOk = false → validF x = f := fun f hf hb => by
    obtain ⟨hl, he⟩ := List.getElem?_eq_some_iff.1 hf
    rw [n3, firstBad_stop hl (by rw [he]; exact hb), he]
  refine Br.mk (fun h => ?_) (fun h => ?_)
  · have hn : n ≤ 22 := by have := of_decide_eq_true h; omega
    refine Br.mk (fun h20 => ?_) (fun h20 => ?_)
    · have h20' : n = 20 := by have : (n : Int) = 20 := by simpa using h20
                               omega
      have hf : (checks x)[n - 11]? = some (recsF x) := by rw [h20']; rfl
      refine Br.N ?_
      refine Br.mk (fun hc => ?_) (fun hc => ?_)
      · have hc0 : (recF x.types).code = 0 := by simpa using hc
        have hr : (recsF x).isOk = true := by simp only [recsF, good_recF _ hc0]; rfl
        exact next _ hf hn hr
      · have hr : recsF x = ⟨(recF x.types).code, -20⟩ := by
          have : (recF x.types).isOk = false := by
            cases hi : (recF x.types).isOk with
            | false => rfl
            | true => have := isOk_eq hi; rw [this] at hc; cases hc
          simp only [recsF, this]; rfl
        refine CallP.mk' (At4_rt _ _) ?_
        exact hq.ret _ _ ⟨(recF x.types).code, -20⟩ (by rw [← hr]; exact stop _ hf (by rw [hr]; simp [Flt.isOk])) rfl
    · have hne : n ≠ 20 := fun hc => by rw [hc] at h20; cases h20
      obtain ⟨len, most, c, hL⟩ := lists_of x ok hseg n n1 hn hne n4
      refine CallP.mk' hL.hsize ?_
      refine Br.mk (fun hm => ?_) (fun hm => ?_)
      · refine CallP.mk' (At4_rt _ _) ?_
        have he : eachF len most n c = ⟨2, w64 (0 - n)⟩ := by simp only [eachF, hm]; rfl
        have := stop _ hL.hat (by rw [he]; simp [Flt.isOk])
        rw [he] at this
        exact hq.ret _ _ _ this rfl
      · have he : eachF len most n c = fltE (fun k => w64 (w64 (1000 * (n : Int)) + k)) (firstE c (len - 0) 0) := by simp only [eachF, hm]; rfl
        refine LoopP.by (α := Nat) (fun k => len - k) (fun k => k ≤ len ∧ eachF len most n c = fltE (fun k => w64 (w64 (1000 * (n : Int)) + k)) (firstE c (len - k) k) ∧ ∀ j, j < k → c j = 0) (fun k => [.int .i64 k]) (fun k => iblk x) 0 ⟨Nat.zero_le _, he, fun j h => absurd h (Nat.not_lt_zero _)⟩ rfl (fun k hk => ?_)
        obtain ⟨k1, k2, k3⟩ := hk
        refine Br.mk (fun h' => ?_) (fun h' => ?_)
        · have hlt : k < len := by simpa using h'
          rw [firstE_step hlt] at k2
          refine CallP.mk' (hL.hel k hlt k3) ?_
          refine Br.N ?_
          refine Br.mk (fun hc => ?_) (fun hc => ?_)
          · have hc0 : c k = 0 := by simpa using hc
            have hl := hL.hlen
            refine ⟨k + 1, by omega, ⟨by omega, by rw [k2, hc0]; rfl, fun j hj => ?_⟩, ?_⟩
            · by_cases hjk : j = k
              · subst hjk; exact hc0
              · exact k3 j (by omega)
            · rw [← wrap_nat (show k < 9223372036854775807 by unfold maxLen at hl; omega)]; rfl
          · have hcne : (c k != 0) = true := by simpa using hc
            have hr : eachF len most n c = ⟨c k, w64 (w64 (1000 * (n : Int)) + k)⟩ := by rw [k2, hcne]; rfl
            refine CallP.mk' (At4_rt _ _) ?_
            have := stop _ hL.hat (by rw [hr]; simp only [Flt.isOk, hc]; rfl)
            rw [hr] at this
            exact hq.ret _ _ _ this rfl
        · have hge : len ≤ k := by simpa using h'
          have hr : eachF len most n c = .ok := by rw [k2, show len - k = 0 by omega]; rfl
          exact next _ hL.hat hn (by rw [hr]; rfl)
  · have hn : n = 23 := by have := of_decide_eq_false h; omega
    refine hq.ex _ _ ?_ rfl
    rw [n3, hn]; rfl
theorem ImageFault_rt (x : Img) (ok : x.ok) : Rt T 30 [.agg x.enc, .int .i64 (recF x.types).code] (validF x).enc := by
  have bad : ∀ f, headF x = f → f.isOk = false → (validF x).enc = f.enc := fun f h h' => by simp only [validF, h, h']; rfl
  refine Rt.wp rfl rfl ?_
  refine CallP.mk' (NameOk_rt _ ok.name) ?_
  refine Br.N ?_
  refine Br.mk (fun hna => ?_) (fun hna => ?_)
  · refine Br.mk (fun h => ?_) (fun h => ?_)
    · simp only [List.length_map] at h
      rw [bad ⟨2, -10⟩ (by
        have hs : segments x.segs = ⟨2, -10⟩ := by simp only [segments, h]; rfl
        simp only [headF, hna, hs]; rfl) rfl]
      repeat' ((conv => whnf); first | refine Br.T ?_ | refine Br.F ?_ | refine And.intro rfl ?_ | refine eq_bool ?_ | refine eq_int ?_ | refine CallP.mk' (At4_rt _ _) ?_ | refine Br.N ?_ | refine Br.kt (by assumption) ?_ | refine Br.kf (by assumption) ?_ | refine Br.mk (fun h => ?_) (fun h => ?_) | refine eq_some ?_)
      all_goals rfl
    · simp only [List.length_map] at h
      have h40 : x.segs.length ≤ 40 := by have := of_decide_eq_false h; omega
      have h0 : segments x.segs = segsF x.segs 0 0 := by simp only [segments, h]; rfl
      refine LoopP.by (α := Nat) (fun k => x.segs.length - k) (fun k => k ≤ x.segs.length ∧ segments x.segs = segsF (x.segs.drop k) k (eAt x k) ∧ ∀ j (h : j < x.segs.length), j < k → SegOK x.segs[j]) (fun k => [.int .i64 k]) (fun k => iblk x) 0 ⟨Nat.zero_le _, h0, fun j _ h => absurd h (Nat.not_lt_zero _)⟩ rfl (fun k hk => ?_)
      obtain ⟨h1, h2, h3⟩ := hk
      refine Br.mk (fun h' => ?_) (fun h' => ?_)
      · have hlt : k < x.segs.length := by simp at h'; omega
        rw [List.drop_eq_getElem_cons hlt] at h2
        have hR := segR_rt x ok.segs k hlt fun h0 => h3 (k - 1) (by omega) (by omega)
        rw [segR_eq hlt] at hR
        have hww := wrap_nat (show k < 9223372036854775807 by omega)
        have hstep : segsF (x.segs[k] :: x.segs.drop (k + 1)) k (eAt x k) = bif segC x.segs[k] (eAt x k) != 0 then ⟨segC x.segs[k] (eAt x k), w64 (100 + k)⟩ else segsF (x.segs.drop (k + 1)) (k + 1) (upI (w64 (x.segs[k].addr + x.segs[k].size)) 256) := rfl
        rw [hstep] at h2
        refine CallP.mk' hR ?_
        refine Br.N ?_
        refine Br.mk (fun hc => ?_) (fun hc => ?_)
        · have hc0 : segC x.segs[k] (eAt x k) = 0 := by simpa using hc
          refine ⟨k + 1, by omega, ⟨by omega, ?_, fun j hj hjk => ?_⟩, ?_⟩
          · rw [h2, hc0]
            simp only [eAt, List.getElem?_eq_getElem hlt]
            rfl
          · by_cases hjk' : j = k
            · subst hjk'; exact segC_ok hc0
            · exact h3 j hj (by omega)
          · rw [← hww]; rfl
        · have hne : (segC x.segs[k] (eAt x k) != 0) = true := by simpa using hc
          rw [bad ⟨segC x.segs[k] (eAt x k), w64 (100 + k)⟩ (by
            have hs : segments x.segs = ⟨segC x.segs[k] (eAt x k), w64 (100 + k)⟩ := by rw [h2, hne]; rfl
            have hb : (Flt.mk (segC x.segs[k] (eAt x k)) (w64 (100 + k))).isOk = false := by simp only [Flt.isOk, hc]; rfl
            simp only [headF, hna, hs, hb]; rfl) (by simp only [Flt.isOk, hc]; rfl)]
          repeat' ((conv => whnf); first | refine Br.T ?_ | refine Br.F ?_ | refine And.intro rfl ?_ | refine eq_bool ?_ | refine eq_int ?_ | refine CallP.mk' (At4_rt _ _) ?_ | refine Br.N ?_ | refine Br.kt (by assumption) ?_ | refine Br.kf (by assumption) ?_ | refine Br.mk (fun h => ?_) (fun h => ?_) | refine eq_some ?_)
          all_goals rfl
      · have hge : x.segs.length ≤ k := by simp at h'; omega
        rw [List.drop_of_length_le hge] at h2
        have hseg : ∀ s ∈ x.segs, SegOK s := fun s hs => by
          obtain ⟨j, hj, rfl⟩ := List.getElem_of_mem hs
          exact h3 j hj (by omega)
        have hT := tail_eq hna h2 hseg
        rw [hT] at bad
        clear h2 h3 h1 h' hge h0 h h40
        have hgo : tailR x = .ok → validF x = firstBad (checks x) := fun h => by
          rw [← hT] at h
          simp only [validF, h]; rfl
        clear hT
        repeat' ((conv => whnf); first | refine Br.T ?_ | refine Br.F ?_ | refine And.intro rfl ?_ | refine eq_bool ?_ | refine eq_int ?_ | refine CallP.mk' (Within_rt x ok.segs _ _ _) ?_ | refine CallP.mk' (In4_rt _ _ _) ?_ | refine CallP.mk' (At4_rt _ _) ?_ | refine Br.N ?_ | refine Br.kt (by assumption) ?_ | refine Br.kf (by assumption) ?_ | refine Br.mk (fun h => ?_) (fun h => ?_) | refine eq_some ?_)
        all_goals first
          | exact (bad ⟨3, -2⟩ (by clear bad hgo hseg ok; (try simp only [List.length_map, Bool.and_true] at *); first | (simp only [bne, tailR, *, decide_true, decide_false, Bool.true_or, Bool.false_or, Bool.or_true, Bool.or_false, Bool.true_and, Bool.false_and, Bool.and_true, Bool.and_false, Bool.not_true, Bool.not_false, cond_true, cond_false] <;> rfl) | (exfalso; simp_all; done) | (simp only [bne, tailR]; simp_all only [decide_true, decide_false, Bool.true_or, Bool.false_or, Bool.or_true, Bool.or_false, Bool.true_and, Bool.false_and, Bool.and_true, Bool.and_false, Bool.not_true, Bool.not_false, cond_true, cond_false]; done)) rfl).symm
          | exact (bad ⟨3, -3⟩ (by clear bad hgo hseg ok; (try simp only [List.length_map, Bool.and_true] at *); first | (simp only [bne, tailR, *, decide_true, decide_false, Bool.true_or, Bool.false_or, Bool.or_true, Bool.or_false, Bool.true_and, Bool.false_and, Bool.and_true, Bool.and_false, Bool.not_true, Bool.not_false, cond_true, cond_false] <;> rfl) | (exfalso; simp_all; done) | (simp only [bne, tailR]; simp_all only [decide_true, decide_false, Bool.true_or, Bool.false_or, Bool.or_true, Bool.or_false, Bool.true_and, Bool.false_and, Bool.and_true, Bool.and_false, Bool.not_true, Bool.not_false, cond_true, cond_false]; done)) rfl).symm
          | exact (bad ⟨9, -3⟩ (by clear bad hgo hseg ok; (try simp only [List.length_map, Bool.and_true] at *); first | (simp only [bne, tailR, *, decide_true, decide_false, Bool.true_or, Bool.false_or, Bool.or_true, Bool.or_false, Bool.true_and, Bool.false_and, Bool.and_true, Bool.and_false, Bool.not_true, Bool.not_false, cond_true, cond_false] <;> rfl) | (exfalso; simp_all; done) | (simp only [bne, tailR]; simp_all only [decide_true, decide_false, Bool.true_or, Bool.false_or, Bool.or_true, Bool.or_false, Bool.true_and, Bool.false_and, Bool.and_true, Bool.and_false, Bool.not_true, Bool.not_false, cond_true, cond_false]; done)) rfl).symm
          | exact (bad ⟨3, -4⟩ (by clear bad hgo hseg ok; (try simp only [List.length_map, Bool.and_true] at *); first | (simp only [bne, tailR, *, decide_true, decide_false, Bool.true_or, Bool.false_or, Bool.or_true, Bool.or_false, Bool.true_and, Bool.false_and, Bool.and_true, Bool.and_false, Bool.not_true, Bool.not_false, cond_true, cond_false] <;> rfl) | (exfalso; simp_all; done) | (simp only [bne, tailR]; simp_all only [decide_true, decide_false, Bool.true_or, Bool.false_or, Bool.or_true, Bool.or_false, Bool.true_and, Bool.false_and, Bool.and_true, Bool.and_false, Bool.not_true, Bool.not_false, cond_true, cond_false]; done)) rfl).symm
          | (refine LoopP.env (iEnv_eq rfl rfl rfl rfl) (lists_loop x ok hseg (hgo (by clear bad hgo hseg ok; (try simp only [List.length_map, Bool.and_true] at *); first | (simp only [bne, tailR, *, decide_true, decide_false, Bool.true_or, Bool.false_or, Bool.or_true, Bool.or_false, Bool.true_and, Bool.false_and, Bool.and_true, Bool.and_false, Bool.not_true, Bool.not_false, cond_true, cond_false] <;> rfl) | (exfalso; simp_all; done) | (simp only [bne, tailR]; simp_all only [decide_true, decide_false, Bool.true_or, Bool.false_or, Bool.or_true, Bool.or_false, Bool.true_and, Bool.false_and, Bool.and_true, Bool.and_false, Bool.not_true, Bool.not_false, cond_true, cond_false]; done))) _ _ ⟨fun e nx f hf h4 => ?_, fun e nx hf h4 => ?_⟩)
             · rw [← upd_self h4, hf]
               exact eq_some rfl
             · rw [← upd_self h4, hf]
               exact eq_some rfl)
  · rw [bad ⟨12, -1⟩ (by simp only [headF, hna]; rfl) rfl]
    repeat' ((conv => whnf); first | refine Br.T ?_ | refine Br.F ?_ | refine And.intro rfl ?_ | refine eq_bool ?_ | refine eq_int ?_ | refine CallP.mk' (At4_rt _ _) ?_ | refine Br.N ?_ | refine Br.kt (by assumption) ?_ | refine Br.kf (by assumption) ?_ | refine Br.mk (fun h => ?_) (fun h => ?_) | refine eq_some ?_)
    all_goals rfl
end Go.Proofs.YtnibcojenlijgaaGreatDoor.Ev
