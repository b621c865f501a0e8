/- Contracts of step.Do, the law's Step, and StepFail. Conditions: lengths below two million. -/
import Derived.Test.YtkoijkcjnppamaaGreatDoorXb
import Derived.Test.YtkoijkcjnppamaaGreatDoorTa3
/- step.Do -/
namespace Go.Ev
open Go.Proofs
set_option autoImplicit false
set_option linter.unusedVariables false
set_option linter.unusedSimpArgs false
set_option maxRecDepth 20000

theorem VW.nsl {B : Nat} {w0 : World} {h : AH} : VW B w0 h .nsl (.xsl 0 []) := fun ρ w u s hv => by
  obtain ⟨ρ', g1, g2, g3⟩ := CV.nsl (B := B) (w0 := w0) h ρ w u s hv
  exact VW.ro (B := B) (w0 := w0) (by rfl) ρ' w u g2 g3
theorem OwnL.view {B : Nat} {w0 : World} {h : AH} {v : AV} {e sz n : Nat} {l : List AV} (ho : OwnL h v e sz n l) (hl : roVs l = true) : VW B w0 h v (.xsl n l) := by
  rcases ho with ⟨rfl, rfl, rfl⟩ | ⟨b, rfl, h1, h2, h3⟩
  · exact VW.nsl
  · exact VW.sl h1 l.length (by simp only [List.drop_zero, List.take_length]; exact VWs.ro hl)

/-- what a step makes, by what its command makes of texts -/
def doV (of : RStep → List Str → Str × Bool) (s : RStep) (l : List RVal) : RVal :=
  if mayB s && decide (l.length = s.args.length) && l.all (·.ok) then
    if (of s (l.map (·.b))).2 && decide ((of s (l.map (·.b))).1.length ≤ 2000) then ⟨true, (of s (l.map (·.b))).1⟩ else ⟨false, []⟩
  else ⟨false, []⟩

theorem do_ok (of : RStep → List Str → Str × Bool) (s : RStep) (hs : SmallS s) (l : List RVal)
    (hof : mayB s = true → l.length = s.args.length → l.all (·.ok) = true → Pc Tryz.prog 72 [stepV s, xs (l.map (·.b))] (.tup [.str (of s (l.map (·.b))).1, .bool (of s (l.map (·.b))).2])) :
    Pc Tryz.prog 47 [stepV s, vals l] (valV (doV of s l)) := by
  intro B w0
  refine CallOK.fn E0_ok fn47 rfl 54 rfl ?_
  simp only [go_sem, reduceIte, Nat.reduceEqDiff, Nat.reduceLT, Nat.reduceAdd, Nat.reduceSub, Nat.reduceMul, reduceCtorEq, Nat.reduceBEq, Int.reduceEq, Int.reduceLT, Int.reduceLE, Int.reduceAdd, Int.reduceSub, Int.reduceToNat, UInt8.reduceToNat, Nat.reduceLeDiff]
  (refine Pc.use (may_ok s hs.args hs.lits) (by simp [roVs, roV, roV_xs, roVs_append, roV_steps, roV_vals, roV_rules, roV_stepV, roV_ruleV, roV_valV, roVs_stepC, roVs_valC, roVs_ruleC, roVs_strs, *]) (by simp [roVs, roV, roV_xs, roVs_append, roV_steps, roV_vals, roV_rules, roV_stepV, roV_ruleV, roV_valV, roVs_stepC, roVs_valC, roVs_ruleC, roVs_strs, *]) ?_)
  simp only [go_sem, reduceIte, Nat.reduceEqDiff, Nat.reduceLT, Nat.reduceAdd, Nat.reduceSub, Nat.reduceMul, reduceCtorEq, Nat.reduceBEq, Int.reduceEq, Int.reduceLT, Int.reduceLE, Int.reduceAdd, Int.reduceSub, Int.reduceToNat, UInt8.reduceToNat, Nat.reduceLeDiff]
  cases hm : mayB s with
  | false =>
    simp only [go_sem, reduceIte, Nat.reduceEqDiff, Nat.reduceLT, Nat.reduceAdd, Nat.reduceSub, Nat.reduceMul, reduceCtorEq, Nat.reduceBEq, Int.reduceEq, Int.reduceLT, Int.reduceLE, Int.reduceAdd, Int.reduceSub, Int.reduceToNat, UInt8.reduceToNat, Nat.reduceLeDiff, hm]
    exact resQ.cell E0_ok rfl (by first | (simp only [go_sem, reduceIte, Nat.reduceEqDiff, Nat.reduceLT, Nat.reduceAdd, Nat.reduceSub, Nat.reduceMul, reduceCtorEq, Nat.reduceBEq, Int.reduceEq, Int.reduceLT, Int.reduceLE, Int.reduceAdd, Int.reduceSub, Int.reduceToNat, UInt8.reduceToNat, Nat.reduceLeDiff]; done) | (simp only [go_sem, reduceIte, Nat.reduceEqDiff, Nat.reduceLT, Nat.reduceAdd, Nat.reduceSub, Nat.reduceMul, reduceCtorEq, Nat.reduceBEq, Int.reduceEq, Int.reduceLT, Int.reduceLE, Int.reduceAdd, Int.reduceSub, Int.reduceToNat, UInt8.reduceToNat, Nat.reduceLeDiff]; rfl)) (CV.refl _ _) (by simp [Is, doV, hm])
  | true =>
    by_cases hlen : l.length = s.args.length
    case neg =>
      simp only [go_sem, reduceIte, Nat.reduceEqDiff, Nat.reduceLT, Nat.reduceAdd, Nat.reduceSub, Nat.reduceMul, reduceCtorEq, Nat.reduceBEq, Int.reduceEq, Int.reduceLT, Int.reduceLE, Int.reduceAdd, Int.reduceSub, Int.reduceToNat, UInt8.reduceToNat, Nat.reduceLeDiff, hm, hlen]
      exact resQ.cell E0_ok rfl (by first | (simp only [go_sem, reduceIte, Nat.reduceEqDiff, Nat.reduceLT, Nat.reduceAdd, Nat.reduceSub, Nat.reduceMul, reduceCtorEq, Nat.reduceBEq, Int.reduceEq, Int.reduceLT, Int.reduceLE, Int.reduceAdd, Int.reduceSub, Int.reduceToNat, UInt8.reduceToNat, Nat.reduceLeDiff]; done) | (simp only [go_sem, reduceIte, Nat.reduceEqDiff, Nat.reduceLT, Nat.reduceAdd, Nat.reduceSub, Nat.reduceMul, reduceCtorEq, Nat.reduceBEq, Int.reduceEq, Int.reduceLT, Int.reduceLE, Int.reduceAdd, Int.reduceSub, Int.reduceToNat, UInt8.reduceToNat, Nat.reduceLeDiff]; rfl)) (CV.refl _ _) (by simp [Is, doV, hm, hlen])
    have hof := hof hm hlen
    have hsa := hs.args
    simp only [go_sem, reduceIte, Nat.reduceEqDiff, Nat.reduceLT, Nat.reduceAdd, Nat.reduceSub, Nat.reduceMul, reduceCtorEq, Nat.reduceBEq, Int.reduceEq, Int.reduceLT, Int.reduceLE, Int.reduceAdd, Int.reduceSub, Int.reduceToNat, UInt8.reduceToNat, Nat.reduceLeDiff, hm, hlen]
    refine SW.loop1 E0_ok (fun m tm h => ∃ i, m = s.args.length - i ∧ i ≤ s.args.length ∧ tm.n = 54 ∧ tm.get 2 = .ptr 0 0 ∧ tm.get 4 = .ptr 1 0 ∧ tm.get 22 = .xsl s.args.length (l.flatMap valC) ∧ tm.get 23 = .int .i64 s.args.length ∧ tm.get 24 = .int .i64 i ∧
      h.m.get 0 = some (.cells (stepC s) 57 0 0 none) ∧ h.m.get 1 = some (.cells [.bool false, .str []] 34 0 0 none) ∧ OwnL h (tm.get 5) 9 1 i (((l.take i).map (·.b)).map .str) ∧ (l.take i).all (·.ok) = true ∧ 2 ≤ h.next ∧
      ∀ b o e n c, tm.get 5 = .sl b o e n c → 2 ≤ b) s.args.length ?_ ?_
    · exact ⟨0, rfl, Nat.zero_le _, by first | (simp only [go_sem, reduceIte, Nat.reduceEqDiff, Nat.reduceLT, Nat.reduceAdd, Nat.reduceSub, Nat.reduceMul, reduceCtorEq, Nat.reduceBEq, Int.reduceEq, Int.reduceLT, Int.reduceLE, Int.reduceAdd, Int.reduceSub, Int.reduceToNat, UInt8.reduceToNat, Nat.reduceLeDiff]; done) | (simp only [go_sem, reduceIte, Nat.reduceEqDiff, Nat.reduceLT, Nat.reduceAdd, Nat.reduceSub, Nat.reduceMul, reduceCtorEq, Nat.reduceBEq, Int.reduceEq, Int.reduceLT, Int.reduceLE, Int.reduceAdd, Int.reduceSub, Int.reduceToNat, UInt8.reduceToNat, Nat.reduceLeDiff]; rfl), by first | (simp only [go_sem, reduceIte, Nat.reduceEqDiff, Nat.reduceLT, Nat.reduceAdd, Nat.reduceSub, Nat.reduceMul, reduceCtorEq, Nat.reduceBEq, Int.reduceEq, Int.reduceLT, Int.reduceLE, Int.reduceAdd, Int.reduceSub, Int.reduceToNat, UInt8.reduceToNat, Nat.reduceLeDiff]; done) | (simp only [go_sem, reduceIte, Nat.reduceEqDiff, Nat.reduceLT, Nat.reduceAdd, Nat.reduceSub, Nat.reduceMul, reduceCtorEq, Nat.reduceBEq, Int.reduceEq, Int.reduceLT, Int.reduceLE, Int.reduceAdd, Int.reduceSub, Int.reduceToNat, UInt8.reduceToNat, Nat.reduceLeDiff]; rfl), by first | (simp only [go_sem, reduceIte, Nat.reduceEqDiff, Nat.reduceLT, Nat.reduceAdd, Nat.reduceSub, Nat.reduceMul, reduceCtorEq, Nat.reduceBEq, Int.reduceEq, Int.reduceLT, Int.reduceLE, Int.reduceAdd, Int.reduceSub, Int.reduceToNat, UInt8.reduceToNat, Nat.reduceLeDiff]; done) | (simp only [go_sem, reduceIte, Nat.reduceEqDiff, Nat.reduceLT, Nat.reduceAdd, Nat.reduceSub, Nat.reduceMul, reduceCtorEq, Nat.reduceBEq, Int.reduceEq, Int.reduceLT, Int.reduceLE, Int.reduceAdd, Int.reduceSub, Int.reduceToNat, UInt8.reduceToNat, Nat.reduceLeDiff]; rfl), by first | (simp only [go_sem, reduceIte, Nat.reduceEqDiff, Nat.reduceLT, Nat.reduceAdd, Nat.reduceSub, Nat.reduceMul, reduceCtorEq, Nat.reduceBEq, Int.reduceEq, Int.reduceLT, Int.reduceLE, Int.reduceAdd, Int.reduceSub, Int.reduceToNat, UInt8.reduceToNat, Nat.reduceLeDiff]; done) | (simp only [go_sem, reduceIte, Nat.reduceEqDiff, Nat.reduceLT, Nat.reduceAdd, Nat.reduceSub, Nat.reduceMul, reduceCtorEq, Nat.reduceBEq, Int.reduceEq, Int.reduceLT, Int.reduceLE, Int.reduceAdd, Int.reduceSub, Int.reduceToNat, UInt8.reduceToNat, Nat.reduceLeDiff]; rfl), by first | (simp only [go_sem, reduceIte, Nat.reduceEqDiff, Nat.reduceLT, Nat.reduceAdd, Nat.reduceSub, Nat.reduceMul, reduceCtorEq, Nat.reduceBEq, Int.reduceEq, Int.reduceLT, Int.reduceLE, Int.reduceAdd, Int.reduceSub, Int.reduceToNat, UInt8.reduceToNat, Nat.reduceLeDiff]; done) | (simp only [go_sem, reduceIte, Nat.reduceEqDiff, Nat.reduceLT, Nat.reduceAdd, Nat.reduceSub, Nat.reduceMul, reduceCtorEq, Nat.reduceBEq, Int.reduceEq, Int.reduceLT, Int.reduceLE, Int.reduceAdd, Int.reduceSub, Int.reduceToNat, UInt8.reduceToNat, Nat.reduceLeDiff]; rfl), by first | (simp only [go_sem, reduceIte, Nat.reduceEqDiff, Nat.reduceLT, Nat.reduceAdd, Nat.reduceSub, Nat.reduceMul, reduceCtorEq, Nat.reduceBEq, Int.reduceEq, Int.reduceLT, Int.reduceLE, Int.reduceAdd, Int.reduceSub, Int.reduceToNat, UInt8.reduceToNat, Nat.reduceLeDiff]; done) | (simp only [go_sem, reduceIte, Nat.reduceEqDiff, Nat.reduceLT, Nat.reduceAdd, Nat.reduceSub, Nat.reduceMul, reduceCtorEq, Nat.reduceBEq, Int.reduceEq, Int.reduceLT, Int.reduceLE, Int.reduceAdd, Int.reduceSub, Int.reduceToNat, UInt8.reduceToNat, Nat.reduceLeDiff]; rfl), by first | (simp only [go_sem, reduceIte, Nat.reduceEqDiff, Nat.reduceLT, Nat.reduceAdd, Nat.reduceSub, Nat.reduceMul, reduceCtorEq, Nat.reduceBEq, Int.reduceEq, Int.reduceLT, Int.reduceLE, Int.reduceAdd, Int.reduceSub, Int.reduceToNat, UInt8.reduceToNat, Nat.reduceLeDiff]; done) | (simp only [go_sem, reduceIte, Nat.reduceEqDiff, Nat.reduceLT, Nat.reduceAdd, Nat.reduceSub, Nat.reduceMul, reduceCtorEq, Nat.reduceBEq, Int.reduceEq, Int.reduceLT, Int.reduceLE, Int.reduceAdd, Int.reduceSub, Int.reduceToNat, UInt8.reduceToNat, Nat.reduceLeDiff]; rfl), by first | (simp only [go_sem, reduceIte, Nat.reduceEqDiff, Nat.reduceLT, Nat.reduceAdd, Nat.reduceSub, Nat.reduceMul, reduceCtorEq, Nat.reduceBEq, Int.reduceEq, Int.reduceLT, Int.reduceLE, Int.reduceAdd, Int.reduceSub, Int.reduceToNat, UInt8.reduceToNat, Nat.reduceLeDiff]; done) | (simp only [go_sem, reduceIte, Nat.reduceEqDiff, Nat.reduceLT, Nat.reduceAdd, Nat.reduceSub, Nat.reduceMul, reduceCtorEq, Nat.reduceBEq, Int.reduceEq, Int.reduceLT, Int.reduceLE, Int.reduceAdd, Int.reduceSub, Int.reduceToNat, UInt8.reduceToNat, Nat.reduceLeDiff]; rfl), by simp only [go_sem, reduceIte, Nat.reduceEqDiff, Nat.reduceLT, Nat.reduceAdd, Nat.reduceSub, Nat.reduceMul, reduceCtorEq, Nat.reduceBEq, Int.reduceEq, Int.reduceLT, Int.reduceLE, Int.reduceAdd, Int.reduceSub, Int.reduceToNat, UInt8.reduceToNat, Nat.reduceLeDiff]; exact OwnL.nsl _ _ _, rfl, by first | (simp only [go_sem, reduceIte, Nat.reduceEqDiff, Nat.reduceLT, Nat.reduceAdd, Nat.reduceSub, Nat.reduceMul, reduceCtorEq, Nat.reduceBEq, Int.reduceEq, Int.reduceLT, Int.reduceLE, Int.reduceAdd, Int.reduceSub, Int.reduceToNat, UInt8.reduceToNat, Nat.reduceLeDiff]; done) | (simp only [go_sem, reduceIte, Nat.reduceEqDiff, Nat.reduceLT, Nat.reduceAdd, Nat.reduceSub, Nat.reduceMul, reduceCtorEq, Nat.reduceBEq, Int.reduceEq, Int.reduceLT, Int.reduceLE, Int.reduceAdd, Int.reduceSub, Int.reduceToNat, UInt8.reduceToNat, Nat.reduceLeDiff]; rfl), fun b o e n c => by first | (simp only [go_sem, reduceIte, Nat.reduceEqDiff, Nat.reduceLT, Nat.reduceAdd, Nat.reduceSub, Nat.reduceMul, reduceCtorEq, Nat.reduceBEq, Int.reduceEq, Int.reduceLT, Int.reduceLE, Int.reduceAdd, Int.reduceSub, Int.reduceToNat, UInt8.reduceToNat, Nat.reduceLeDiff]; done) | (simp only [go_sem, reduceIte, Nat.reduceEqDiff, Nat.reduceLT, Nat.reduceAdd, Nat.reduceSub, Nat.reduceMul, reduceCtorEq, Nat.reduceBEq, Int.reduceEq, Int.reduceLT, Int.reduceLE, Int.reduceAdd, Int.reduceSub, Int.reduceToNat, UInt8.reduceToNat, Nat.reduceLeDiff]; rfl)⟩
    rintro _ tm h ⟨i, rfl, hi, hn, t2, t4, t22, t23, t24, b0, b1, hown, hall, hnx, hS⟩
    have n0 : ¬ 0 = h.next := by omega
    have n1 : ¬ 1 = h.next := by omega
    by_cases hlt : i < s.args.length
    · obtain ⟨⟨ok, b⟩, hx⟩ : ∃ x, l[i]? = some x := ⟨_, List.getElem?_eq_getElem (by omega)⟩
      have hil : i < l.length := by omega
      cases ok with
      | true =>
        have htk : l.take (i + 1) = l.take i ++ [⟨true, b⟩] := by rw [List.take_add_one, hx]; rfl
        simp only [go_sem, reduceIte, Nat.reduceEqDiff, Nat.reduceLT, Nat.reduceAdd, Nat.reduceSub, Nat.reduceMul, reduceCtorEq, Nat.reduceBEq, Int.reduceEq, Int.reduceLT, Int.reduceLE, Int.reduceAdd, Int.reduceSub, Int.reduceToNat, UInt8.reduceToNat, Nat.reduceLeDiff, hn, t2, t4, t22, t23, t24, b0, b1, hlt, hil, hx, n0, n1]
        refine W.append1 (hown.ext (by repeat' (first | exact Ext.refl _ | refine Ext.new ?_ _ | refine Ext.set ?_ (by first | omega | (simp only [new_next, set_next]; omega)) _))) ty22 rfl ty9 rfl rfl rfl rfl (Nat.le_of_ble_eq_true rfl) (by omega) fun h' ho hk hx' => ?_
        have e0 := hk.2 0 (by simp only [set_next, new_next]; omega) (fun o e n c hc => by have := hS _ _ _ _ _ hc; omega)
        have e1 := hk.2 1 (by simp only [set_next, new_next]; omega) (fun o e n c hc => by have := hS _ _ _ _ _ hc; omega)
        simp only [set_get, new_get, n0, n1, if_false, b0, b1, set_next, new_next] at e0 e1 hx' ho
        simp only [go_sem, reduceIte, Nat.reduceEqDiff, Nat.reduceLT, Nat.reduceAdd, Nat.reduceSub, Nat.reduceMul, reduceCtorEq, Nat.reduceBEq, Int.reduceEq, Int.reduceLT, Int.reduceLE, Int.reduceAdd, Int.reduceSub, Int.reduceToNat, UInt8.reduceToNat, Nat.reduceLeDiff, hn, t2, t4, t22, t23, t24, e0, e1]
        rw [wrapI_in (by omega) (by omega)]
        refine Again.mk (s.args.length - (i + 1)) (by omega) ⟨i + 1, rfl, hlt, by first | (simp only [go_sem, reduceIte, Nat.reduceEqDiff, Nat.reduceLT, Nat.reduceAdd, Nat.reduceSub, Nat.reduceMul, reduceCtorEq, Nat.reduceBEq, Int.reduceEq, Int.reduceLT, Int.reduceLE, Int.reduceAdd, Int.reduceSub, Int.reduceToNat, UInt8.reduceToNat, Nat.reduceLeDiff, hn]; done) | (simp only [go_sem, reduceIte, Nat.reduceEqDiff, Nat.reduceLT, Nat.reduceAdd, Nat.reduceSub, Nat.reduceMul, reduceCtorEq, Nat.reduceBEq, Int.reduceEq, Int.reduceLT, Int.reduceLE, Int.reduceAdd, Int.reduceSub, Int.reduceToNat, UInt8.reduceToNat, Nat.reduceLeDiff, hn]; rfl), by first | (simp only [go_sem, reduceIte, Nat.reduceEqDiff, Nat.reduceLT, Nat.reduceAdd, Nat.reduceSub, Nat.reduceMul, reduceCtorEq, Nat.reduceBEq, Int.reduceEq, Int.reduceLT, Int.reduceLE, Int.reduceAdd, Int.reduceSub, Int.reduceToNat, UInt8.reduceToNat, Nat.reduceLeDiff, t2]; done) | (simp only [go_sem, reduceIte, Nat.reduceEqDiff, Nat.reduceLT, Nat.reduceAdd, Nat.reduceSub, Nat.reduceMul, reduceCtorEq, Nat.reduceBEq, Int.reduceEq, Int.reduceLT, Int.reduceLE, Int.reduceAdd, Int.reduceSub, Int.reduceToNat, UInt8.reduceToNat, Nat.reduceLeDiff, t2]; rfl), by first | (simp only [go_sem, reduceIte, Nat.reduceEqDiff, Nat.reduceLT, Nat.reduceAdd, Nat.reduceSub, Nat.reduceMul, reduceCtorEq, Nat.reduceBEq, Int.reduceEq, Int.reduceLT, Int.reduceLE, Int.reduceAdd, Int.reduceSub, Int.reduceToNat, UInt8.reduceToNat, Nat.reduceLeDiff, t4]; done) | (simp only [go_sem, reduceIte, Nat.reduceEqDiff, Nat.reduceLT, Nat.reduceAdd, Nat.reduceSub, Nat.reduceMul, reduceCtorEq, Nat.reduceBEq, Int.reduceEq, Int.reduceLT, Int.reduceLE, Int.reduceAdd, Int.reduceSub, Int.reduceToNat, UInt8.reduceToNat, Nat.reduceLeDiff, t4]; rfl), by first | (simp only [go_sem, reduceIte, Nat.reduceEqDiff, Nat.reduceLT, Nat.reduceAdd, Nat.reduceSub, Nat.reduceMul, reduceCtorEq, Nat.reduceBEq, Int.reduceEq, Int.reduceLT, Int.reduceLE, Int.reduceAdd, Int.reduceSub, Int.reduceToNat, UInt8.reduceToNat, Nat.reduceLeDiff, t22]; done) | (simp only [go_sem, reduceIte, Nat.reduceEqDiff, Nat.reduceLT, Nat.reduceAdd, Nat.reduceSub, Nat.reduceMul, reduceCtorEq, Nat.reduceBEq, Int.reduceEq, Int.reduceLT, Int.reduceLE, Int.reduceAdd, Int.reduceSub, Int.reduceToNat, UInt8.reduceToNat, Nat.reduceLeDiff, t22]; rfl), by first | (simp only [go_sem, reduceIte, Nat.reduceEqDiff, Nat.reduceLT, Nat.reduceAdd, Nat.reduceSub, Nat.reduceMul, reduceCtorEq, Nat.reduceBEq, Int.reduceEq, Int.reduceLT, Int.reduceLE, Int.reduceAdd, Int.reduceSub, Int.reduceToNat, UInt8.reduceToNat, Nat.reduceLeDiff, t23]; done) | (simp only [go_sem, reduceIte, Nat.reduceEqDiff, Nat.reduceLT, Nat.reduceAdd, Nat.reduceSub, Nat.reduceMul, reduceCtorEq, Nat.reduceBEq, Int.reduceEq, Int.reduceLT, Int.reduceLE, Int.reduceAdd, Int.reduceSub, Int.reduceToNat, UInt8.reduceToNat, Nat.reduceLeDiff, t23]; rfl), by first | (simp only [go_sem, reduceIte, Nat.reduceEqDiff, Nat.reduceLT, Nat.reduceAdd, Nat.reduceSub, Nat.reduceMul, reduceCtorEq, Nat.reduceBEq, Int.reduceEq, Int.reduceLT, Int.reduceLE, Int.reduceAdd, Int.reduceSub, Int.reduceToNat, UInt8.reduceToNat, Nat.reduceLeDiff]; done) | (simp only [go_sem, reduceIte, Nat.reduceEqDiff, Nat.reduceLT, Nat.reduceAdd, Nat.reduceSub, Nat.reduceMul, reduceCtorEq, Nat.reduceBEq, Int.reduceEq, Int.reduceLT, Int.reduceLE, Int.reduceAdd, Int.reduceSub, Int.reduceToNat, UInt8.reduceToNat, Nat.reduceLeDiff]; rfl), by first | (simp only [go_sem, reduceIte, Nat.reduceEqDiff, Nat.reduceLT, Nat.reduceAdd, Nat.reduceSub, Nat.reduceMul, reduceCtorEq, Nat.reduceBEq, Int.reduceEq, Int.reduceLT, Int.reduceLE, Int.reduceAdd, Int.reduceSub, Int.reduceToNat, UInt8.reduceToNat, Nat.reduceLeDiff, e0]; done) | (simp only [go_sem, reduceIte, Nat.reduceEqDiff, Nat.reduceLT, Nat.reduceAdd, Nat.reduceSub, Nat.reduceMul, reduceCtorEq, Nat.reduceBEq, Int.reduceEq, Int.reduceLT, Int.reduceLE, Int.reduceAdd, Int.reduceSub, Int.reduceToNat, UInt8.reduceToNat, Nat.reduceLeDiff, e0]; rfl), by first | (simp only [go_sem, reduceIte, Nat.reduceEqDiff, Nat.reduceLT, Nat.reduceAdd, Nat.reduceSub, Nat.reduceMul, reduceCtorEq, Nat.reduceBEq, Int.reduceEq, Int.reduceLT, Int.reduceLE, Int.reduceAdd, Int.reduceSub, Int.reduceToNat, UInt8.reduceToNat, Nat.reduceLeDiff, e1]; done) | (simp only [go_sem, reduceIte, Nat.reduceEqDiff, Nat.reduceLT, Nat.reduceAdd, Nat.reduceSub, Nat.reduceMul, reduceCtorEq, Nat.reduceBEq, Int.reduceEq, Int.reduceLT, Int.reduceLE, Int.reduceAdd, Int.reduceSub, Int.reduceToNat, UInt8.reduceToNat, Nat.reduceLeDiff, e1]; rfl), ?_, ?_, ?_, ?_⟩
        · rw [htk]; simp only [go_sem, reduceIte, Nat.reduceEqDiff, Nat.reduceLT, Nat.reduceAdd, Nat.reduceSub, Nat.reduceMul, reduceCtorEq, Nat.reduceBEq, Int.reduceEq, Int.reduceLT, Int.reduceLE, Int.reduceAdd, Int.reduceSub, Int.reduceToNat, UInt8.reduceToNat, Nat.reduceLeDiff]; simpa using ho
        · rw [htk, List.all_append, hall]; rfl
        · omega
        · intro b o e n c
          simp only [go_sem, reduceIte, Nat.reduceEqDiff, Nat.reduceLT, Nat.reduceAdd, Nat.reduceSub, Nat.reduceMul, reduceCtorEq, Nat.reduceBEq, Int.reduceEq, Int.reduceLT, Int.reduceLE, Int.reduceAdd, Int.reduceSub, Int.reduceToNat, UInt8.reduceToNat, Nat.reduceLeDiff]
          intro hc
          injection hc with hb; omega
      | false =>
        simp only [go_sem, reduceIte, Nat.reduceEqDiff, Nat.reduceLT, Nat.reduceAdd, Nat.reduceSub, Nat.reduceMul, reduceCtorEq, Nat.reduceBEq, Int.reduceEq, Int.reduceLT, Int.reduceLE, Int.reduceAdd, Int.reduceSub, Int.reduceToNat, UInt8.reduceToNat, Nat.reduceLeDiff, hn, t2, t4, t22, t23, t24, b0, b1, hlt, hil, hx, n0, n1]
        refine resQ.cell E0_ok rfl (by first | (simp only [go_sem, reduceIte, Nat.reduceEqDiff, Nat.reduceLT, Nat.reduceAdd, Nat.reduceSub, Nat.reduceMul, reduceCtorEq, Nat.reduceBEq, Int.reduceEq, Int.reduceLT, Int.reduceLE, Int.reduceAdd, Int.reduceSub, Int.reduceToNat, UInt8.reduceToNat, Nat.reduceLeDiff, t4]; done) | (simp only [go_sem, reduceIte, Nat.reduceEqDiff, Nat.reduceLT, Nat.reduceAdd, Nat.reduceSub, Nat.reduceMul, reduceCtorEq, Nat.reduceBEq, Int.reduceEq, Int.reduceLT, Int.reduceLE, Int.reduceAdd, Int.reduceSub, Int.reduceToNat, UInt8.reduceToNat, Nat.reduceLeDiff, t4]; rfl)) (CV.refl _ _) ?_
        have : l.all (·.ok) = false := by
          rw [← Bool.not_eq_true, List.all_eq_true]
          intro h
          exact absurd (h _ (List.mem_of_getElem? hx)) (by simp)
        simp [Is, doV, this]
    · obtain rfl : i = s.args.length := by omega
      rw [← hlen, List.take_length] at hown hall
      have hof := hof hall
      simp only [go_sem, reduceIte, Nat.reduceEqDiff, Nat.reduceLT, Nat.reduceAdd, Nat.reduceSub, Nat.reduceMul, reduceCtorEq, Nat.reduceBEq, Int.reduceEq, Int.reduceLT, Int.reduceLE, Int.reduceAdd, Int.reduceSub, Int.reduceToNat, UInt8.reduceToNat, Nat.reduceLeDiff, hn, t2, t4, t22, t23, t24, b0, b1, hlt]
      have hv : VW B w0 h (tm.get 5) (xs (l.map (·.b))) := by
        have := hown.view (B := B) (w0 := w0) (roVs_strs _)
        simpa [xs] using this
      refine (CallOK.view (args' := [stepV s, xs (l.map (·.b))]) (VWs.cons (VW.ro (by simp [roVs, roV, roV_xs, roVs_append, roV_steps, roV_vals, roV_rules, roV_stepV, roV_ruleV, roV_valV, roVs_stepC, roVs_valC, roVs_ruleC, roVs_strs, *])) (VWs.cons hv VWs.nil)) (fun B w0 => (hof B w0).mono fun v h' (hv : v = _) => ⟨by rw [hv]; rfl, hv⟩)).mono fun v h' hv => ?_
      obtain ⟨hv', rfl⟩ := hv
      subst hv'
      rw [retW_eq]
      simp only [go_sem, reduceIte, Nat.reduceEqDiff, Nat.reduceLT, Nat.reduceAdd, Nat.reduceSub, Nat.reduceMul, reduceCtorEq, Nat.reduceBEq, Int.reduceEq, Int.reduceLT, Int.reduceLE, Int.reduceAdd, Int.reduceSub, Int.reduceToNat, UInt8.reduceToNat, Nat.reduceLeDiff, hn, t2, t4]
      generalize hu : of s (l.map (·.b)) = u at *
      obtain ⟨b, ok⟩ := u
      cases ok with
      | false =>
        simp only [go_sem, reduceIte, Nat.reduceEqDiff, Nat.reduceLT, Nat.reduceAdd, Nat.reduceSub, Nat.reduceMul, reduceCtorEq, Nat.reduceBEq, Int.reduceEq, Int.reduceLT, Int.reduceLE, Int.reduceAdd, Int.reduceSub, Int.reduceToNat, UInt8.reduceToNat, Nat.reduceLeDiff, hn, t2, t4, b1]
        exact resQ.cell E0_ok rfl (by first | (simp only [go_sem, reduceIte, Nat.reduceEqDiff, Nat.reduceLT, Nat.reduceAdd, Nat.reduceSub, Nat.reduceMul, reduceCtorEq, Nat.reduceBEq, Int.reduceEq, Int.reduceLT, Int.reduceLE, Int.reduceAdd, Int.reduceSub, Int.reduceToNat, UInt8.reduceToNat, Nat.reduceLeDiff, t4]; done) | (simp only [go_sem, reduceIte, Nat.reduceEqDiff, Nat.reduceLT, Nat.reduceAdd, Nat.reduceSub, Nat.reduceMul, reduceCtorEq, Nat.reduceBEq, Int.reduceEq, Int.reduceLT, Int.reduceLE, Int.reduceAdd, Int.reduceSub, Int.reduceToNat, UInt8.reduceToNat, Nat.reduceLeDiff, t4]; rfl)) (CV.refl _ _) (by simp [Is, doV, hm, hlen, hall, hu])
      | true =>
        by_cases hb : 2000 < b.length
        · have hb' : (2000 : Int) < (b.length : Int) := by omega
          simp only [go_sem, reduceIte, Nat.reduceEqDiff, Nat.reduceLT, Nat.reduceAdd, Nat.reduceSub, Nat.reduceMul, reduceCtorEq, Nat.reduceBEq, Int.reduceEq, Int.reduceLT, Int.reduceLE, Int.reduceAdd, Int.reduceSub, Int.reduceToNat, UInt8.reduceToNat, Nat.reduceLeDiff, hn, t2, t4, b1, hb']
          exact resQ.cell E0_ok rfl (by first | (simp only [go_sem, reduceIte, Nat.reduceEqDiff, Nat.reduceLT, Nat.reduceAdd, Nat.reduceSub, Nat.reduceMul, reduceCtorEq, Nat.reduceBEq, Int.reduceEq, Int.reduceLT, Int.reduceLE, Int.reduceAdd, Int.reduceSub, Int.reduceToNat, UInt8.reduceToNat, Nat.reduceLeDiff, t4]; done) | (simp only [go_sem, reduceIte, Nat.reduceEqDiff, Nat.reduceLT, Nat.reduceAdd, Nat.reduceSub, Nat.reduceMul, reduceCtorEq, Nat.reduceBEq, Int.reduceEq, Int.reduceLT, Int.reduceLE, Int.reduceAdd, Int.reduceSub, Int.reduceToNat, UInt8.reduceToNat, Nat.reduceLeDiff, t4]; rfl)) (CV.refl _ _) (by simp [Is, doV, hm, hlen, hall, hu]; rw [if_neg (by omega)]; exact ⟨rfl, rfl⟩)
        · have hb' : ¬ (2000 : Int) < (b.length : Int) := by omega
          have hb2 : b.length ≤ 2000 := by omega
          simp only [go_sem, reduceIte, Nat.reduceEqDiff, Nat.reduceLT, Nat.reduceAdd, Nat.reduceSub, Nat.reduceMul, reduceCtorEq, Nat.reduceBEq, Int.reduceEq, Int.reduceLT, Int.reduceLE, Int.reduceAdd, Int.reduceSub, Int.reduceToNat, UInt8.reduceToNat, Nat.reduceLeDiff, hn, t2, t4, b1, hb']
          exact resQ.cell E0_ok rfl (by first | (simp only [go_sem, reduceIte, Nat.reduceEqDiff, Nat.reduceLT, Nat.reduceAdd, Nat.reduceSub, Nat.reduceMul, reduceCtorEq, Nat.reduceBEq, Int.reduceEq, Int.reduceLT, Int.reduceLE, Int.reduceAdd, Int.reduceSub, Int.reduceToNat, UInt8.reduceToNat, Nat.reduceLeDiff, t4]; done) | (simp only [go_sem, reduceIte, Nat.reduceEqDiff, Nat.reduceLT, Nat.reduceAdd, Nat.reduceSub, Nat.reduceMul, reduceCtorEq, Nat.reduceBEq, Int.reduceEq, Int.reduceLT, Int.reduceLE, Int.reduceAdd, Int.reduceSub, Int.reduceToNat, UInt8.reduceToNat, Nat.reduceLeDiff, t4]; rfl)) (CV.refl _ _) (by simp [Is, doV, hm, hlen, hall, hu, hb2])
end Go.Ev
/- law7.Step -/
namespace Go.Ev
open Go.Proofs
set_option autoImplicit false
set_option linter.unusedVariables false
set_option linter.unusedSimpArgs false
set_option maxRecDepth 20000

def CVs (B : Nat) (w0 : World) (l : List AV) (h : AH) (l' : List AV) (h' : AH) : Prop := ∀ ρ w us, St B w0 ρ h w → RVs ρ l us → ∃ ρ', Sub ρ ρ' ∧ St B w0 ρ' h' w ∧ RVs ρ' l' us
theorem CVs.nil {B : Nat} {w0 : World} (h : AH) : CVs B w0 [] h [] h := fun ρ w us s hv => ⟨ρ, Sub.refl _, s, hv⟩
theorem CVs.cons {B : Nat} {w0 : World} {x x' : AV} {l l' : List AV} {h h1 h2 : AH} (hx : CV B w0 x h x' h1) (hl : CVs B w0 l h1 l' h2) : CVs B w0 (x :: l) h (x' :: l') h2 := by
  intro ρ w us s hv
  simp only [RVs] at hv
  obtain ⟨u, r, rfl, a1, a2⟩ := hv
  obtain ⟨ρ1, g1, g2, g3⟩ := hx ρ w u s a1
  obtain ⟨ρ2, k1, k2, k3⟩ := hl ρ1 w r g2 (a2.mono g1)
  refine ⟨ρ2, g1.trans k1, k2, ?_⟩
  simp only [RVs]
  exact ⟨u, r, rfl, g3.mono k1, k3⟩
theorem CVs.agg {B : Nat} {w0 : World} {l l' : List AV} {h h' : AH} (hl : CVs B w0 l h l' h') : CV B w0 (.agg l) h (.agg l') h' := by
  intro ρ w u s hu
  simp only [RV] at hu
  obtain ⟨A, rfl, hA⟩ := hu
  obtain ⟨ρ1, g1, g2, g3⟩ := hl ρ w A s hA
  refine ⟨ρ1, g1, g2, ?_⟩
  simp only [RV]
  exact ⟨A, rfl, g3⟩
theorem CallOK.conv {P : Program} {B : Nat} {w0 : World} {f : FuncId} {args args' : List AV} {h h' : AH} {R : AV → AH → Prop} (hc : CVs B w0 args h args' h') (H : CallOK P B w0 f args' h' R) : CallOK P B w0 f args h R := by
  intro ρ vs w s hv
  obtain ⟨ρ1, g1, g2, g3⟩ := hc ρ w vs s hv
  refine Calls.mono (H ρ1 vs w g2 g3) ?_
  rintro e w' ⟨u, v, h2, ρ2, rfl, k1, k2, k3, k4⟩
  exact ⟨u, v, h2, ρ2, rfl, g1.trans k1, k2, k3, k4⟩

theorem trimR_one (s : RStep) : (trimR { name := [], ins := [], outs := [], after := [], steps := [s] }) = { name := [], ins := [], outs := [], after := [], steps := [trimS s] } := rfl

theorem step7_ok (s : RStep) (hs : SmallS s) : Pc Tryz.prog 38 [stepV s] (stepV (trimS s)) := by
  intro B w0
  refine CallOK.fn E0_ok fn38 rfl 10 rfl ?_
  simp only [go_sem, reduceIte, Nat.reduceEqDiff, Nat.reduceLT, Nat.reduceAdd, Nat.reduceSub, Nat.reduceMul, reduceCtorEq, Nat.reduceBEq, Int.reduceEq, Int.reduceLT, Int.reduceLE, Int.reduceAdd, Int.reduceSub, Int.reduceToNat, UInt8.reduceToNat, Nat.reduceLeDiff]
  have hr : SmallR { name := [], ins := [], outs := [], after := [], steps := [s] } := ⟨by simp, by simp, by simp, by simp, fun x hx => by rw [List.mem_singleton] at hx; subst hx; exact hs⟩
  have hrule := rule4_ok _ hr
  rw [trimR_one] at hrule
  refine CallOK.conv (args' := [ruleV { name := [], ins := [], outs := [], after := [], steps := [s] }])
    (CVs.cons (CVs.agg (CVs.cons (CV.refl _ _) (CVs.cons (CV.nsl _) (CVs.cons (CV.nsl _) (CVs.cons (CV.nsl _) (CVs.cons (CV.freeze (l := stepC s) (t := 57) (lo := 0) (hi := 0) (op := none) (o := 0) (n := 1) (k := 5) ?hb) (CVs.nil _))))))) (CVs.nil _)) ?_
  case hb => exact by first | (simp only [go_sem, reduceIte, Nat.reduceEqDiff, Nat.reduceLT, Nat.reduceAdd, Nat.reduceSub, Nat.reduceMul, reduceCtorEq, Nat.reduceBEq, Int.reduceEq, Int.reduceLT, Int.reduceLE, Int.reduceAdd, Int.reduceSub, Int.reduceToNat, UInt8.reduceToNat, Nat.reduceLeDiff]; done) | (simp only [go_sem, reduceIte, Nat.reduceEqDiff, Nat.reduceLT, Nat.reduceAdd, Nat.reduceSub, Nat.reduceMul, reduceCtorEq, Nat.reduceBEq, Int.reduceEq, Int.reduceLT, Int.reduceLE, Int.reduceAdd, Int.reduceSub, Int.reduceToNat, UInt8.reduceToNat, Nat.reduceLeDiff]; rfl)
  (refine Pc.use (hrule) (by simp [roVs, roV, roV_xs, roVs_append, roV_steps, roV_vals, roV_rules, roV_stepV, roV_ruleV, roV_valV, roVs_stepC, roVs_valC, roVs_ruleC, roVs_strs, *]) (by simp [roVs, roV, roV_xs, roVs_append, roV_steps, roV_vals, roV_rules, roV_stepV, roV_ruleV, roV_valV, roVs_stepC, roVs_valC, roVs_ruleC, roVs_strs, *]) ?_)
  simp only [go_sem, reduceIte, Nat.reduceEqDiff, Nat.reduceLT, Nat.reduceAdd, Nat.reduceSub, Nat.reduceMul, reduceCtorEq, Nat.reduceBEq, Int.reduceEq, Int.reduceLT, Int.reduceLE, Int.reduceAdd, Int.reduceSub, Int.reduceToNat, UInt8.reduceToNat, Nat.reduceLeDiff, List.flatMap_cons, List.flatMap_nil, stepC]
  exact resQ.cell E0_ok rfl (by first | (simp only [go_sem, reduceIte, Nat.reduceEqDiff, Nat.reduceLT, Nat.reduceAdd, Nat.reduceSub, Nat.reduceMul, reduceCtorEq, Nat.reduceBEq, Int.reduceEq, Int.reduceLT, Int.reduceLE, Int.reduceAdd, Int.reduceSub, Int.reduceToNat, UInt8.reduceToNat, Nat.reduceLeDiff]; done) | (simp only [go_sem, reduceIte, Nat.reduceEqDiff, Nat.reduceLT, Nat.reduceAdd, Nat.reduceSub, Nat.reduceMul, reduceCtorEq, Nat.reduceBEq, Int.reduceEq, Int.reduceLT, Int.reduceLE, Int.reduceAdd, Int.reduceSub, Int.reduceToNat, UInt8.reduceToNat, Nat.reduceLeDiff]; rfl)) (CV.refl _ _) rfl
end Go.Ev
/- law7.StepFail -/
namespace Go.Ev
open Go.Proofs
set_option autoImplicit false
set_option linter.unusedVariables false
set_option linter.unusedSimpArgs false
set_option maxRecDepth 20000

theorem begun_pc : Pc Tryz.prog 15 [] (.bool true) := Pc.ofPure begun7 rfl rfl

theorem at_place (a : Int) (m : Nat) (h0 : 0 < m) (hm : m ≤ 1000000) : ∃ k : Nat, k < m ∧ (wrapI .i64 (a.tmod m + m)).tmod m = k := by
  have hne : (m : Int) ≠ 0 := by omega
  have h1 : a.tmod m < m := Int.tmod_lt_of_pos _ (by omega)
  have h2 : -(m : Int) < a.tmod m := by have := Int.tmod_lt_of_pos (-a) (b := m) (by omega); rw [Int.neg_tmod] at this; omega
  rw [wrapI_in (by omega) (by omega)]
  have h3 : 0 ≤ (a.tmod m + m).tmod m := Int.tmod_nonneg _ (by omega)
  have h4 : (a.tmod m + m).tmod m < m := Int.tmod_lt_of_pos _ (by omega)
  exact ⟨((a.tmod m + m).tmod m).toNat, by omega, by omega⟩

theorem stepFail_ok (s : RStep) (hs : SmallS s) (l : List RVal) (hl : l.length < 2000000) (a : Int) : Pc Tryz.prog 10 [stepV s, vals l, .int .i64 a] (.bool true) := by
  intro B w0
  refine CallOK.fn E0_ok fn10 rfl 50 rfl ?_
  simp only [go_sem, reduceIte, Nat.reduceEqDiff, Nat.reduceLT, Nat.reduceAdd, Nat.reduceSub, Nat.reduceMul, reduceCtorEq, Nat.reduceBEq, Int.reduceEq, Int.reduceLT, Int.reduceLE, Int.reduceAdd, Int.reduceSub, Int.reduceToNat, UInt8.reduceToNat, Nat.reduceLeDiff]
  (refine Pc.use (begun_pc) (by simp [roVs, roV, roV_xs, roVs_append, roV_steps, roV_vals, roV_rules, roV_stepV, roV_ruleV, roV_valV, roVs_stepC, roVs_valC, roVs_ruleC, roVs_strs, *]) (by simp [roVs, roV, roV_xs, roVs_append, roV_steps, roV_vals, roV_rules, roV_stepV, roV_ruleV, roV_valV, roVs_stepC, roVs_valC, roVs_ruleC, roVs_strs, *]) ?_)
  simp only [go_sem, reduceIte, Nat.reduceEqDiff, Nat.reduceLT, Nat.reduceAdd, Nat.reduceSub, Nat.reduceMul, reduceCtorEq, Nat.reduceBEq, Int.reduceEq, Int.reduceLT, Int.reduceLE, Int.reduceAdd, Int.reduceSub, Int.reduceToNat, UInt8.reduceToNat, Nat.reduceLeDiff]
  (refine Pc.use (step7_ok s hs) (by simp [roVs, roV, roV_xs, roVs_append, roV_steps, roV_vals, roV_rules, roV_stepV, roV_ruleV, roV_valV, roVs_stepC, roVs_valC, roVs_ruleC, roVs_strs, *]) (by simp [roVs, roV, roV_xs, roVs_append, roV_steps, roV_vals, roV_rules, roV_stepV, roV_ruleV, roV_valV, roVs_stepC, roVs_valC, roVs_ruleC, roVs_strs, *]) ?_)
  simp only [go_sem, reduceIte, Nat.reduceEqDiff, Nat.reduceLT, Nat.reduceAdd, Nat.reduceSub, Nat.reduceMul, reduceCtorEq, Nat.reduceBEq, Int.reduceEq, Int.reduceLT, Int.reduceLE, Int.reduceAdd, Int.reduceSub, Int.reduceToNat, UInt8.reduceToNat, Nat.reduceLeDiff]
  have hm8 : (trimS s).args.length ≤ 8 := by simp only [trimS, List.length_take]; omega
  have hn10 : (valsL l).length ≤ 10 := by simp only [valsL, List.length_map, List.length_take]; omega
  refine (vals_fresh l hl B w0 _).mono fun v h' hf => ?_
  rw [retW_eq]
  generalize hvl : valsL l = L at *
  generalize htr : trimS s = s' at *
  have hs' : SmallS s' := by
    rw [← htr]; exact ⟨by have := hs.args; simp only [trimS, List.length_take]; omega, by have := hs.lits; simp only [trimS, List.length_take]; omega⟩
  rcases hf with ⟨rfl, h1, h2, rfl⟩ | ⟨rfl, h1, rfl⟩
  · by_cases hm : s'.args.length = 0
    · simp only [go_sem, reduceIte, Nat.reduceEqDiff, Nat.reduceLT, Nat.reduceAdd, Nat.reduceSub, Nat.reduceMul, reduceCtorEq, Nat.reduceBEq, Int.reduceEq, Int.reduceLT, Int.reduceLE, Int.reduceAdd, Int.reduceSub, Int.reduceToNat, UInt8.reduceToNat, Nat.reduceLeDiff, hm]
      (refine resQ.one E0_ok rfl rfl (CV.refl _ _) ?_; simp only [go_sem, reduceIte, Nat.reduceEqDiff, Nat.reduceLT, Nat.reduceAdd, Nat.reduceSub, Nat.reduceMul, reduceCtorEq, Nat.reduceBEq, Int.reduceEq, Int.reduceLT, Int.reduceLE, Int.reduceAdd, Int.reduceSub, Int.reduceToNat, UInt8.reduceToNat, Nat.reduceLeDiff, Is])
    · have hm' : 0 < s'.args.length := by omega
      have hmi : ¬ (s'.args.length : Int) = 0 := by omega
      have hmi' : 0 < (s'.args.length : Int) := by omega
      simp only [go_sem, reduceIte, Nat.reduceEqDiff, Nat.reduceLT, Nat.reduceAdd, Nat.reduceSub, Nat.reduceMul, reduceCtorEq, Nat.reduceBEq, Int.reduceEq, Int.reduceLT, Int.reduceLE, Int.reduceAdd, Int.reduceSub, Int.reduceToNat, UInt8.reduceToNat, Nat.reduceLeDiff, hm', hmi, hmi']
      (refine resQ.one E0_ok rfl rfl (CV.refl _ _) ?_; simp only [go_sem, reduceIte, Nat.reduceEqDiff, Nat.reduceLT, Nat.reduceAdd, Nat.reduceSub, Nat.reduceMul, reduceCtorEq, Nat.reduceBEq, Int.reduceEq, Int.reduceLT, Int.reduceLE, Int.reduceAdd, Int.reduceSub, Int.reduceToNat, UInt8.reduceToNat, Nat.reduceLeDiff, Is])
  · by_cases hlt : L.length < s'.args.length
    · simp only [go_sem, reduceIte, Nat.reduceEqDiff, Nat.reduceLT, Nat.reduceAdd, Nat.reduceSub, Nat.reduceMul, reduceCtorEq, Nat.reduceBEq, Int.reduceEq, Int.reduceLT, Int.reduceLE, Int.reduceAdd, Int.reduceSub, Int.reduceToNat, UInt8.reduceToNat, Nat.reduceLeDiff, hlt]
      (refine resQ.one E0_ok rfl rfl (CV.refl _ _) ?_; simp only [go_sem, reduceIte, Nat.reduceEqDiff, Nat.reduceLT, Nat.reduceAdd, Nat.reduceSub, Nat.reduceMul, reduceCtorEq, Nat.reduceBEq, Int.reduceEq, Int.reduceLT, Int.reduceLE, Int.reduceAdd, Int.reduceSub, Int.reduceToNat, UInt8.reduceToNat, Nat.reduceLeDiff, Is])
    by_cases hm : s'.args.length = 0
    · have hmi : (s'.args.length : Int) = 0 := by omega
      have hl0 : ¬ (L.length : Int) < 0 := by omega
      simp only [go_sem, reduceIte, Nat.reduceEqDiff, Nat.reduceLT, Nat.reduceAdd, Nat.reduceSub, Nat.reduceMul, reduceCtorEq, Nat.reduceBEq, Int.reduceEq, Int.reduceLT, Int.reduceLE, Int.reduceAdd, Int.reduceSub, Int.reduceToNat, UInt8.reduceToNat, Nat.reduceLeDiff, hlt, hmi, hl0]
      (refine resQ.one E0_ok rfl rfl (CV.refl _ _) ?_; simp only [go_sem, reduceIte, Nat.reduceEqDiff, Nat.reduceLT, Nat.reduceAdd, Nat.reduceSub, Nat.reduceMul, reduceCtorEq, Nat.reduceBEq, Int.reduceEq, Int.reduceLT, Int.reduceLE, Int.reduceAdd, Int.reduceSub, Int.reduceToNat, UInt8.reduceToNat, Nat.reduceLeDiff, Is])
    have hmi : ¬ (s'.args.length : Int) = 0 := by omega
    have hm0 : 0 < s'.args.length := by omega
    have hL0 : 0 < L.length := by omega
    have hmL : s'.args.length ≤ L.length := by omega
    obtain ⟨k, hk, hke⟩ := at_place a s'.args.length hm0 (by omega)
    have hkl : k < L.length := by omega
    obtain ⟨⟨ok, b⟩, hx⟩ : ∃ x, L[k]? = some x := ⟨_, List.getElem?_eq_getElem hkl⟩
    have hk2 : k * 2 + 2 ≤ L.length * 2 := by omega
    have e1 : (L.flatMap valC).set (k * 2) (.bool false) = (L.set k ⟨false, b⟩).flatMap valC := setC_flat length_valC _ _ 0 (by omega) ⟨ok, b⟩ ⟨false, b⟩ _ hx rfl
    have e2 : ((L.set k ⟨false, b⟩).flatMap valC).set (k * 2 + 1) (.str []) = ((L.set k ⟨false, b⟩).set k ⟨false, []⟩).flatMap valC := setC_flat length_valC _ _ 1 (by omega) ⟨false, b⟩ ⟨false, []⟩ _ (by rw [List.getElem?_set_self hkl]) rfl
    simp only [go_sem, reduceIte, Nat.reduceEqDiff, Nat.reduceLT, Nat.reduceAdd, Nat.reduceSub, Nat.reduceMul, reduceCtorEq, Nat.reduceBEq, Int.reduceEq, Int.reduceLT, Int.reduceLE, Int.reduceAdd, Int.reduceSub, Int.reduceToNat, UInt8.reduceToNat, Nat.reduceLeDiff, hlt, hm, hmi, hL0, hmL, hke, hk, h1, hk2, e1, e2, List.set_set]
    have hd := do_ok (fun _ _ => ([], false)) s' hs' ((L.set k ⟨false, []⟩).take s'.args.length) (fun _ _ hall => by
      rw [List.all_eq_true] at hall
      have := hall ⟨false, []⟩ (List.mem_of_getElem? (i := k) (by rw [List.getElem?_take_of_lt hk, List.getElem?_set_self hkl]))
      simp at this)
    have e3 : doV (fun _ _ => ([], false)) s' ((L.set k ⟨false, []⟩).take s'.args.length) = ⟨false, []⟩ := by unfold doV; split <;> rfl
    rw [e3] at hd
    refine hd.viewL (VWs.cons (VW.ro (by simp [roVs, roV, roV_xs, roVs_append, roV_steps, roV_vals, roV_rules, roV_stepV, roV_ruleV, roV_valV, roVs_stepC, roVs_valC, roVs_ruleC, roVs_strs, *])) (VWs.cons ?_ VWs.nil)) rfl ?_
    · have hlen : ((L.set k ⟨false, []⟩).take s'.args.length).length = s'.args.length := by simp; omega
      have e4 : ((L.set k ⟨false, []⟩).flatMap valC).take (s'.args.length * 2) = ((L.set k ⟨false, []⟩).take s'.args.length).flatMap valC := by
        have h2 := length_flat length_valC ((L.set k ⟨false, []⟩).take s'.args.length)
        have h3 : (L.set k ⟨false, []⟩).flatMap valC = ((L.set k ⟨false, []⟩).take s'.args.length).flatMap valC ++ ((L.set k ⟨false, []⟩).drop s'.args.length).flatMap valC := by rw [← List.flatMap_append, List.take_append_drop]
        rw [hlen] at h2
        rw [h3, ← h2, List.take_left]
      unfold vals
      rw [hlen, ← e4]
      refine VW.sl (l := (L.set k ⟨false, []⟩).flatMap valC) (t := 34) (lo := 0) (hi := 0) (op := some 2) ?_ (s'.args.length * 2) ?_
      · simp only [go_sem, reduceIte, Nat.reduceEqDiff, Nat.reduceLT, Nat.reduceAdd, Nat.reduceSub, Nat.reduceMul, reduceCtorEq, Nat.reduceBEq, Int.reduceEq, Int.reduceLT, Int.reduceLE, Int.reduceAdd, Int.reduceSub, Int.reduceToNat, UInt8.reduceToNat, Nat.reduceLeDiff]
      · rw [List.drop_zero, e4]; exact VWs.ro (roVs_flat roVs_valC _)
    rw [retW_eq]
    simp only [go_sem, reduceIte, Nat.reduceEqDiff, Nat.reduceLT, Nat.reduceAdd, Nat.reduceSub, Nat.reduceMul, reduceCtorEq, Nat.reduceBEq, Int.reduceEq, Int.reduceLT, Int.reduceLE, Int.reduceAdd, Int.reduceSub, Int.reduceToNat, UInt8.reduceToNat, Nat.reduceLeDiff]
    (refine resQ.one E0_ok rfl rfl (CV.refl _ _) ?_; simp only [go_sem, reduceIte, Nat.reduceEqDiff, Nat.reduceLT, Nat.reduceAdd, Nat.reduceSub, Nat.reduceMul, reduceCtorEq, Nat.reduceBEq, Int.reduceEq, Int.reduceLT, Int.reduceLE, Int.reduceAdd, Int.reduceSub, Int.reduceToNat, UInt8.reduceToNat, Nat.reduceLeDiff, Is])
end Go.Ev
