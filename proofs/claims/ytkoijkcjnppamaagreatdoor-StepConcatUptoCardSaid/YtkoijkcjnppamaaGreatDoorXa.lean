/- Contracts of step.counts, slices.IndexFunc, step.May. Conditions: lengths below two million. -/
import Derived.Test.YtkoijkcjnppamaaGreatDoorWc
import Derived.Test.YtkoijkcjnppamaaGreatDoorFa1
/- step: which commands may be. -/
namespace Go.Ev
open Go.Proofs
set_option autoImplicit false
set_option linter.unusedVariables false
set_option linter.unusedSimpArgs false
set_option maxRecDepth 10000

/-- how many Args, from and to, and how many Lits -/
def countsI (op : Int) : Int × Int × Int := if op = 5 then (0, 6, 0) else if op = 6 then (0, 0, 1) else if op = 7 then (1, 1, 1) else if op = 8 then (1, 1, 2) else (1, 1, 0)

theorem counts_ok (op : Int) : Pc Tryz.prog 80 [.int .i64 op] (.tup [.int .i64 (countsI op).1, .int .i64 (countsI op).2.1, .int .i64 (countsI op).2.2]) := by
  intro B w0
  refine CallOK.fn E0_ok fn80 rfl 14 rfl ?_
  simp only [go_sem, reduceIte, Nat.reduceEqDiff, Nat.reduceLT, Nat.reduceAdd, Nat.reduceSub, Nat.reduceMul, reduceCtorEq, Nat.reduceBEq, Int.reduceEq, Int.reduceLT, Int.reduceLE, Int.reduceAdd, Int.reduceSub, Int.reduceToNat, UInt8.reduceToNat, Nat.reduceLeDiff]
  repeat' first | simp only [go_sem, reduceIte, Nat.reduceEqDiff, Nat.reduceLT, Nat.reduceAdd, Nat.reduceSub, Nat.reduceMul, reduceCtorEq, Nat.reduceBEq, Int.reduceEq, Int.reduceLT, Int.reduceLE, Int.reduceAdd, Int.reduceSub, Int.reduceToNat, UInt8.reduceToNat, Nat.reduceLeDiff, *] | refine Br.dec (fun _ => ?_) (fun _ => ?_) | refine Br.split (fun _ => ?_) (fun _ => ?_)
  all_goals (refine resQ.three E0_ok rfl rfl rfl rfl (CV.refl _ _) ?_; simp only [go_sem, reduceIte, Nat.reduceEqDiff, Nat.reduceLT, Nat.reduceAdd, Nat.reduceSub, Nat.reduceMul, reduceCtorEq, Nat.reduceBEq, Int.reduceEq, Int.reduceLT, Int.reduceLE, Int.reduceAdd, Int.reduceSub, Int.reduceToNat, UInt8.reduceToNat, Nat.reduceLeDiff, Is])
  all_goals simp [countsI, *]

theorem long_ok (x : Str) : Pc Tryz.prog 81 [.str x] (.bool (decide (100 < x.length))) := by
  intro B w0
  refine CallOK.fn E0_ok fn81 rfl 6 rfl ?_
  simp only [go_sem, reduceIte, Nat.reduceEqDiff, Nat.reduceLT, Nat.reduceAdd, Nat.reduceSub, Nat.reduceMul, reduceCtorEq, Nat.reduceBEq, Int.reduceEq, Int.reduceLT, Int.reduceLE, Int.reduceAdd, Int.reduceSub, Int.reduceToNat, UInt8.reduceToNat, Nat.reduceLeDiff]
  (refine resQ.one E0_ok rfl rfl (CV.refl _ _) ?_; simp only [go_sem, reduceIte, Nat.reduceEqDiff, Nat.reduceLT, Nat.reduceAdd, Nat.reduceSub, Nat.reduceMul, reduceCtorEq, Nat.reduceBEq, Int.reduceEq, Int.reduceLT, Int.reduceLE, Int.reduceAdd, Int.reduceSub, Int.reduceToNat, UInt8.reduceToNat, Nat.reduceLeDiff, Is])
  simp; omega

theorem indexFunc_ok (l : List Str) (g : Nat) (a b : List AV) (p : Str → Bool) (ha : roVs a = true) (hb : roVs b = true) (hl : l.length < 2000000) (hcv : ∀ args h, callV E0 g args h = some (.enter g args))
    (hp : ∀ x ∈ l, Pc Tryz.prog g (a ++ [.str x] ++ b) (.bool (p x))) : Pc Tryz.prog 97 [xs l, .fn g a b] (.int .i64 (match l.findIdx? p with | some i => (i : Int) | none => -1)) := by
  intro B w0
  refine CallOK.fn E0_ok fn97 rfl 19 rfl ?_
  simp only [go_sem, reduceIte, Nat.reduceEqDiff, Nat.reduceLT, Nat.reduceAdd, Nat.reduceSub, Nat.reduceMul, reduceCtorEq, Nat.reduceBEq, Int.reduceEq, Int.reduceLT, Int.reduceLE, Int.reduceAdd, Int.reduceSub, Int.reduceToNat, UInt8.reduceToNat, Nat.reduceLeDiff, xs]
  refine SW.loop1 E0_ok (fun m tm h => ∃ i, m = l.length - i ∧ i ≤ l.length ∧ h = h0 ∧ tm.n = 19 ∧ tm.get 0 = .xsl l.length (l.map .str) ∧ tm.get 1 = .fn g a b ∧ tm.get 7 = .int .i64 l.length ∧ tm.get 8 = .int .i64 i ∧ ∀ j, j < i → ∀ x, l[j]? = some x → p x = false) l.length ?_ ?_
  · exact ⟨0, rfl, Nat.zero_le _, rfl, rfl, by simp only [go_sem, reduceIte, Nat.reduceEqDiff, Nat.reduceLT, Nat.reduceAdd, Nat.reduceSub, Nat.reduceMul, reduceCtorEq, Nat.reduceBEq, Int.reduceEq, Int.reduceLT, Int.reduceLE, Int.reduceAdd, Int.reduceSub, Int.reduceToNat, UInt8.reduceToNat, Nat.reduceLeDiff], by simp only [go_sem, reduceIte, Nat.reduceEqDiff, Nat.reduceLT, Nat.reduceAdd, Nat.reduceSub, Nat.reduceMul, reduceCtorEq, Nat.reduceBEq, Int.reduceEq, Int.reduceLT, Int.reduceLE, Int.reduceAdd, Int.reduceSub, Int.reduceToNat, UInt8.reduceToNat, Nat.reduceLeDiff], by simp only [go_sem, reduceIte, Nat.reduceEqDiff, Nat.reduceLT, Nat.reduceAdd, Nat.reduceSub, Nat.reduceMul, reduceCtorEq, Nat.reduceBEq, Int.reduceEq, Int.reduceLT, Int.reduceLE, Int.reduceAdd, Int.reduceSub, Int.reduceToNat, UInt8.reduceToNat, Nat.reduceLeDiff], by first | (simp only [go_sem, reduceIte, Nat.reduceEqDiff, Nat.reduceLT, Nat.reduceAdd, Nat.reduceSub, Nat.reduceMul, reduceCtorEq, Nat.reduceBEq, Int.reduceEq, Int.reduceLT, Int.reduceLE, Int.reduceAdd, Int.reduceSub, Int.reduceToNat, UInt8.reduceToNat, Nat.reduceLeDiff]; done) | (simp only [go_sem, reduceIte, Nat.reduceEqDiff, Nat.reduceLT, Nat.reduceAdd, Nat.reduceSub, Nat.reduceMul, reduceCtorEq, Nat.reduceBEq, Int.reduceEq, Int.reduceLT, Int.reduceLE, Int.reduceAdd, Int.reduceSub, Int.reduceToNat, UInt8.reduceToNat, Nat.reduceLeDiff]; rfl), fun j hj => by omega⟩
  rintro _ tm h ⟨i, rfl, hi, rfl, hn, h0, h1, h7, h8, hno⟩
  by_cases hlt : i < l.length
  · obtain ⟨x, hx⟩ : ∃ x, l[i]? = some x := ⟨_, List.getElem?_eq_getElem hlt⟩
    simp only [go_sem, reduceIte, Nat.reduceEqDiff, Nat.reduceLT, Nat.reduceAdd, Nat.reduceSub, Nat.reduceMul, reduceCtorEq, Nat.reduceBEq, Int.reduceEq, Int.reduceLT, Int.reduceLE, Int.reduceAdd, Int.reduceSub, Int.reduceToNat, UInt8.reduceToNat, Nat.reduceLeDiff, hn, h0, h1, h7, h8, hlt, hx, hcv]
    (refine Pc.use (hp x (List.mem_of_getElem? hx)) (by simp [roVs, roV, roV_xs, roVs_append, roV_steps, roV_vals, roV_rules, roV_stepV, roV_ruleV, roV_valV, roVs_stepC, roVs_valC, roVs_ruleC, roVs_strs, *]) (by simp [roVs, roV, roV_xs, roVs_append, roV_steps, roV_vals, roV_rules, roV_stepV, roV_ruleV, roV_valV, roVs_stepC, roVs_valC, roVs_ruleC, roVs_strs, *]) ?_)
    simp only [go_sem, reduceIte, Nat.reduceEqDiff, Nat.reduceLT, Nat.reduceAdd, Nat.reduceSub, Nat.reduceMul, reduceCtorEq, Nat.reduceBEq, Int.reduceEq, Int.reduceLT, Int.reduceLE, Int.reduceAdd, Int.reduceSub, Int.reduceToNat, UInt8.reduceToNat, Nat.reduceLeDiff, hn]
    refine Br.split (fun hc => ?_) (fun hc => ?_)
    · simp only [go_sem, reduceIte, Nat.reduceEqDiff, Nat.reduceLT, Nat.reduceAdd, Nat.reduceSub, Nat.reduceMul, reduceCtorEq, Nat.reduceBEq, Int.reduceEq, Int.reduceLT, Int.reduceLE, Int.reduceAdd, Int.reduceSub, Int.reduceToNat, UInt8.reduceToNat, Nat.reduceLeDiff, hc, hn]
      (refine resQ.one E0_ok rfl rfl (CV.refl _ _) ?_; simp only [go_sem, reduceIte, Nat.reduceEqDiff, Nat.reduceLT, Nat.reduceAdd, Nat.reduceSub, Nat.reduceMul, reduceCtorEq, Nat.reduceBEq, Int.reduceEq, Int.reduceLT, Int.reduceLE, Int.reduceAdd, Int.reduceSub, Int.reduceToNat, UInt8.reduceToNat, Nat.reduceLeDiff, Is])
      have : l.findIdx? p = some i := by
        rw [List.findIdx?_eq_some_iff_getElem]
        exact ⟨hlt, by rw [← hc]; congr 1; rw [List.getElem?_eq_getElem hlt] at hx; exact Option.some.inj hx, fun j hj => by simp [hno j hj _ (List.getElem?_eq_getElem (by omega))]⟩
      simp [this]
    · simp only [go_sem, reduceIte, Nat.reduceEqDiff, Nat.reduceLT, Nat.reduceAdd, Nat.reduceSub, Nat.reduceMul, reduceCtorEq, Nat.reduceBEq, Int.reduceEq, Int.reduceLT, Int.reduceLE, Int.reduceAdd, Int.reduceSub, Int.reduceToNat, UInt8.reduceToNat, Nat.reduceLeDiff, hc, hn, h8]
      rw [wrapI_in (by omega) (by omega)]
      refine Again.mk (l.length - (i + 1)) (by omega) ⟨i + 1, rfl, hlt, rfl, by simp only [go_sem, reduceIte, Nat.reduceEqDiff, Nat.reduceLT, Nat.reduceAdd, Nat.reduceSub, Nat.reduceMul, reduceCtorEq, Nat.reduceBEq, Int.reduceEq, Int.reduceLT, Int.reduceLE, Int.reduceAdd, Int.reduceSub, Int.reduceToNat, UInt8.reduceToNat, Nat.reduceLeDiff, hn], by simp only [go_sem, reduceIte, Nat.reduceEqDiff, Nat.reduceLT, Nat.reduceAdd, Nat.reduceSub, Nat.reduceMul, reduceCtorEq, Nat.reduceBEq, Int.reduceEq, Int.reduceLT, Int.reduceLE, Int.reduceAdd, Int.reduceSub, Int.reduceToNat, UInt8.reduceToNat, Nat.reduceLeDiff, h0], by simp only [go_sem, reduceIte, Nat.reduceEqDiff, Nat.reduceLT, Nat.reduceAdd, Nat.reduceSub, Nat.reduceMul, reduceCtorEq, Nat.reduceBEq, Int.reduceEq, Int.reduceLT, Int.reduceLE, Int.reduceAdd, Int.reduceSub, Int.reduceToNat, UInt8.reduceToNat, Nat.reduceLeDiff, h1], by simp only [go_sem, reduceIte, Nat.reduceEqDiff, Nat.reduceLT, Nat.reduceAdd, Nat.reduceSub, Nat.reduceMul, reduceCtorEq, Nat.reduceBEq, Int.reduceEq, Int.reduceLT, Int.reduceLE, Int.reduceAdd, Int.reduceSub, Int.reduceToNat, UInt8.reduceToNat, Nat.reduceLeDiff, h7], by first | (simp only [go_sem, reduceIte, Nat.reduceEqDiff, Nat.reduceLT, Nat.reduceAdd, Nat.reduceSub, Nat.reduceMul, reduceCtorEq, Nat.reduceBEq, Int.reduceEq, Int.reduceLT, Int.reduceLE, Int.reduceAdd, Int.reduceSub, Int.reduceToNat, UInt8.reduceToNat, Nat.reduceLeDiff]; done) | (simp only [go_sem, reduceIte, Nat.reduceEqDiff, Nat.reduceLT, Nat.reduceAdd, Nat.reduceSub, Nat.reduceMul, reduceCtorEq, Nat.reduceBEq, Int.reduceEq, Int.reduceLT, Int.reduceLE, Int.reduceAdd, Int.reduceSub, Int.reduceToNat, UInt8.reduceToNat, Nat.reduceLeDiff]; rfl), fun j hj y hy => ?_⟩
      by_cases e : j = i
      · subst e; rw [hx] at hy; cases hy; exact hc
      · exact hno j (by omega) y hy
  · obtain rfl : i = l.length := by omega
    simp only [go_sem, reduceIte, Nat.reduceEqDiff, Nat.reduceLT, Nat.reduceAdd, Nat.reduceSub, Nat.reduceMul, reduceCtorEq, Nat.reduceBEq, Int.reduceEq, Int.reduceLT, Int.reduceLE, Int.reduceAdd, Int.reduceSub, Int.reduceToNat, UInt8.reduceToNat, Nat.reduceLeDiff, hn, h0, h1, h7, h8, hlt]
    (refine resQ.one E0_ok rfl rfl (CV.refl _ _) ?_; simp only [go_sem, reduceIte, Nat.reduceEqDiff, Nat.reduceLT, Nat.reduceAdd, Nat.reduceSub, Nat.reduceMul, reduceCtorEq, Nat.reduceBEq, Int.reduceEq, Int.reduceLT, Int.reduceLE, Int.reduceAdd, Int.reduceSub, Int.reduceToNat, UInt8.reduceToNat, Nat.reduceLeDiff, Is])
    have : l.findIdx? p = none := by
      rw [List.findIdx?_eq_none_iff]
      intro x hx
      obtain ⟨j, hj, rfl⟩ := List.mem_iff_getElem.1 hx
      exact hno j hj _ (List.getElem?_eq_getElem hj)
    simp [this]

theorem containsFunc_ok (l : List Str) (g : Nat) (a b : List AV) (p : Str → Bool) (ha : roVs a = true) (hb : roVs b = true) (hl : l.length < 2000000) (hcv : ∀ args h, callV E0 g args h = some (.enter g args))
    (hp : ∀ x ∈ l, Pc Tryz.prog g (a ++ [.str x] ++ b) (.bool (p x))) : Pc Tryz.prog 82 [xs l, .fn g a b] (.bool (l.any p)) := by
  intro B w0
  refine CallOK.fn E0_ok fn82 rfl 9 rfl ?_
  simp only [go_sem, reduceIte, Nat.reduceEqDiff, Nat.reduceLT, Nat.reduceAdd, Nat.reduceSub, Nat.reduceMul, reduceCtorEq, Nat.reduceBEq, Int.reduceEq, Int.reduceLT, Int.reduceLE, Int.reduceAdd, Int.reduceSub, Int.reduceToNat, UInt8.reduceToNat, Nat.reduceLeDiff]
  (refine Pc.use (indexFunc_ok l g a b p ha hb hl hcv hp) (by simp [roVs, roV, roV_xs, roVs_append, roV_steps, roV_vals, roV_rules, roV_stepV, roV_ruleV, roV_valV, roVs_stepC, roVs_valC, roVs_ruleC, roVs_strs, *]) (by simp [roVs, roV, roV_xs, roVs_append, roV_steps, roV_vals, roV_rules, roV_stepV, roV_ruleV, roV_valV, roVs_stepC, roVs_valC, roVs_ruleC, roVs_strs, *]) ?_)
  simp only [go_sem, reduceIte, Nat.reduceEqDiff, Nat.reduceLT, Nat.reduceAdd, Nat.reduceSub, Nat.reduceMul, reduceCtorEq, Nat.reduceBEq, Int.reduceEq, Int.reduceLT, Int.reduceLE, Int.reduceAdd, Int.reduceSub, Int.reduceToNat, UInt8.reduceToNat, Nat.reduceLeDiff]
  (refine resQ.one E0_ok rfl rfl (CV.refl _ _) ?_; simp only [go_sem, reduceIte, Nat.reduceEqDiff, Nat.reduceLT, Nat.reduceAdd, Nat.reduceSub, Nat.reduceMul, reduceCtorEq, Nat.reduceBEq, Int.reduceEq, Int.reduceLT, Int.reduceLE, Int.reduceAdd, Int.reduceSub, Int.reduceToNat, UInt8.reduceToNat, Nat.reduceLeDiff, Is])
  have h1 := List.findIdx?_isSome (xs := l) (p := p)
  cases h : l.findIdx? p with
  | none => rw [h] at h1; simp at h1; simp; intro x hx; exact h1 x hx
  | some i => rw [h] at h1; simp at h1; simp; exact h1
end Go.Ev
/- step: May. -/
namespace Go.Ev
open Go.Proofs
set_option autoImplicit false
set_option linter.unusedVariables false
set_option linter.unusedSimpArgs false
set_option maxRecDepth 10000

def mayB (s : RStep) : Bool :=
  decide (1 ≤ s.op) && decide (s.op ≤ 9) && decide ((countsI s.op).1 ≤ s.args.length) && decide ((s.args.length : Int) ≤ (countsI s.op).2.1) && decide ((s.lits.length : Int) = (countsI s.op).2.2) && !(s.lits.any fun x => decide (100 < x.length)) &&
  !(decide (s.op = 8) && decide (s.lits.head? = some [])) && decide (0 ≤ s.n) && decide (s.n ≤ 2000) && (decide (s.op = 9) || decide (s.n = 0))

theorem may_ok (s : RStep) (h1 : s.args.length < 2000000) (h2 : s.lits.length < 2000000) : Pc Tryz.prog 54 [stepV s] (.bool (mayB s)) := by
  intro B w0
  obtain ⟨out, op, args, lits, n⟩ := s
  simp only at h1 h2
  have hlong := containsFunc_ok lits 81 [] [] (fun x => decide (100 < x.length)) rfl rfl h2 (fun _ _ => cv81 _ _) (fun x _ => long_ok x)
  refine CallOK.fn E0_ok fn54 rfl 73 rfl ?_
  simp only [go_sem, reduceIte, Nat.reduceEqDiff, Nat.reduceLT, Nat.reduceAdd, Nat.reduceSub, Nat.reduceMul, reduceCtorEq, Nat.reduceBEq, Int.reduceEq, Int.reduceLT, Int.reduceLE, Int.reduceAdd, Int.reduceSub, Int.reduceToNat, UInt8.reduceToNat, Nat.reduceLeDiff, stepV, stepC]
  (refine Pc.use (counts_ok op) (by simp [roVs, roV, roV_xs, roVs_append, roV_steps, roV_vals, roV_rules, roV_stepV, roV_ruleV, roV_valV, roVs_stepC, roVs_valC, roVs_ruleC, roVs_strs, *]) (by simp [roVs, roV, roV_xs, roVs_append, roV_steps, roV_vals, roV_rules, roV_stepV, roV_ruleV, roV_valV, roVs_stepC, roVs_valC, roVs_ruleC, roVs_strs, *]) ?_)
  by_cases h8 : op = 8
  · subst h8
    have hc : countsI 8 = (1, 1, 2) := rfl
    cases lits with
    | nil =>
      simp only [go_sem, reduceIte, Nat.reduceEqDiff, Nat.reduceLT, Nat.reduceAdd, Nat.reduceSub, Nat.reduceMul, reduceCtorEq, Nat.reduceBEq, Int.reduceEq, Int.reduceLT, Int.reduceLE, Int.reduceAdd, Int.reduceSub, Int.reduceToNat, UInt8.reduceToNat, Nat.reduceLeDiff, hc, xs]
      repeat' first | simp only [go_sem, reduceIte, Nat.reduceEqDiff, Nat.reduceLT, Nat.reduceAdd, Nat.reduceSub, Nat.reduceMul, reduceCtorEq, Nat.reduceBEq, Int.reduceEq, Int.reduceLT, Int.reduceLE, Int.reduceAdd, Int.reduceSub, Int.reduceToNat, UInt8.reduceToNat, Nat.reduceLeDiff, *] | refine Br.dec (fun _ => ?_) (fun _ => ?_) | refine Br.split (fun _ => ?_) (fun _ => ?_)
      all_goals (refine resQ.one E0_ok rfl rfl (CV.refl _ _) ?_; simp only [go_sem, reduceIte, Nat.reduceEqDiff, Nat.reduceLT, Nat.reduceAdd, Nat.reduceSub, Nat.reduceMul, reduceCtorEq, Nat.reduceBEq, Int.reduceEq, Int.reduceLT, Int.reduceLE, Int.reduceAdd, Int.reduceSub, Int.reduceToNat, UInt8.reduceToNat, Nat.reduceLeDiff, Is])
      all_goals simp [mayB, hc, *]
    | cons x ls =>
      have hi : (0 : Nat) < ls.length + 1 := by omega
      simp only [go_sem, reduceIte, Nat.reduceEqDiff, Nat.reduceLT, Nat.reduceAdd, Nat.reduceSub, Nat.reduceMul, reduceCtorEq, Nat.reduceBEq, Int.reduceEq, Int.reduceLT, Int.reduceLE, Int.reduceAdd, Int.reduceSub, Int.reduceToNat, UInt8.reduceToNat, Nat.reduceLeDiff, hc]
      repeat' first | simp only [go_sem, reduceIte, Nat.reduceEqDiff, Nat.reduceLT, Nat.reduceAdd, Nat.reduceSub, Nat.reduceMul, reduceCtorEq, Nat.reduceBEq, Int.reduceEq, Int.reduceLT, Int.reduceLE, Int.reduceAdd, Int.reduceSub, Int.reduceToNat, UInt8.reduceToNat, Nat.reduceLeDiff, *] | refine Br.dec (fun _ => ?_) (fun _ => ?_) | refine Br.split (fun _ => ?_) (fun _ => ?_)
      all_goals first | (refine Pc.use (hlong) (by simp [roVs, roV, roV_xs, roVs_append, roV_steps, roV_vals, roV_rules, roV_stepV, roV_ruleV, roV_valV, roVs_stepC, roVs_valC, roVs_ruleC, roVs_strs, *]) (by simp [roVs, roV, roV_xs, roVs_append, roV_steps, roV_vals, roV_rules, roV_stepV, roV_ruleV, roV_valV, roVs_stepC, roVs_valC, roVs_ruleC, roVs_strs, *]) ?_) | skip
      repeat' first | simp only [go_sem, reduceIte, Nat.reduceEqDiff, Nat.reduceLT, Nat.reduceAdd, Nat.reduceSub, Nat.reduceMul, reduceCtorEq, Nat.reduceBEq, Int.reduceEq, Int.reduceLT, Int.reduceLE, Int.reduceAdd, Int.reduceSub, Int.reduceToNat, UInt8.reduceToNat, Nat.reduceLeDiff, *] | refine Br.dec (fun _ => ?_) (fun _ => ?_) | refine Br.split (fun _ => ?_) (fun _ => ?_)
      all_goals (refine resQ.one E0_ok rfl rfl (CV.refl _ _) ?_; simp only [go_sem, reduceIte, Nat.reduceEqDiff, Nat.reduceLT, Nat.reduceAdd, Nat.reduceSub, Nat.reduceMul, reduceCtorEq, Nat.reduceBEq, Int.reduceEq, Int.reduceLT, Int.reduceLE, Int.reduceAdd, Int.reduceSub, Int.reduceToNat, UInt8.reduceToNat, Nat.reduceLeDiff, Is])
      all_goals first | (simp [mayB, hc, *]; done) | (simp [mayB, hc]; omega) | skip
      all_goals (subst_vars; simp_all [mayB])
      all_goals omega
  · simp only [go_sem, reduceIte, Nat.reduceEqDiff, Nat.reduceLT, Nat.reduceAdd, Nat.reduceSub, Nat.reduceMul, reduceCtorEq, Nat.reduceBEq, Int.reduceEq, Int.reduceLT, Int.reduceLE, Int.reduceAdd, Int.reduceSub, Int.reduceToNat, UInt8.reduceToNat, Nat.reduceLeDiff]
    repeat' first | simp only [go_sem, reduceIte, Nat.reduceEqDiff, Nat.reduceLT, Nat.reduceAdd, Nat.reduceSub, Nat.reduceMul, reduceCtorEq, Nat.reduceBEq, Int.reduceEq, Int.reduceLT, Int.reduceLE, Int.reduceAdd, Int.reduceSub, Int.reduceToNat, UInt8.reduceToNat, Nat.reduceLeDiff, *] | refine Br.dec (fun _ => ?_) (fun _ => ?_) | refine Br.split (fun _ => ?_) (fun _ => ?_)
    all_goals first | (refine Pc.use (hlong) (by simp [roVs, roV, roV_xs, roVs_append, roV_steps, roV_vals, roV_rules, roV_stepV, roV_ruleV, roV_valV, roVs_stepC, roVs_valC, roVs_ruleC, roVs_strs, *]) (by simp [roVs, roV, roV_xs, roVs_append, roV_steps, roV_vals, roV_rules, roV_stepV, roV_ruleV, roV_valV, roVs_stepC, roVs_valC, roVs_ruleC, roVs_strs, *]) ?_) | skip
    repeat' first | simp only [go_sem, reduceIte, Nat.reduceEqDiff, Nat.reduceLT, Nat.reduceAdd, Nat.reduceSub, Nat.reduceMul, reduceCtorEq, Nat.reduceBEq, Int.reduceEq, Int.reduceLT, Int.reduceLE, Int.reduceAdd, Int.reduceSub, Int.reduceToNat, UInt8.reduceToNat, Nat.reduceLeDiff, *] | refine Br.dec (fun _ => ?_) (fun _ => ?_) | refine Br.split (fun _ => ?_) (fun _ => ?_)
    all_goals (refine resQ.one E0_ok rfl rfl (CV.refl _ _) ?_; simp only [go_sem, reduceIte, Nat.reduceEqDiff, Nat.reduceLT, Nat.reduceAdd, Nat.reduceSub, Nat.reduceMul, reduceCtorEq, Nat.reduceBEq, Int.reduceEq, Int.reduceLT, Int.reduceLE, Int.reduceAdd, Int.reduceSub, Int.reduceToNat, UInt8.reduceToNat, Nat.reduceLeDiff, Is])
    all_goals first | (simp [mayB, *]; done) | (simp [mayB]; omega) | skip
    all_goals (subst_vars; simp_all [mayB, countsI])
    all_goals omega
end Go.Ev
