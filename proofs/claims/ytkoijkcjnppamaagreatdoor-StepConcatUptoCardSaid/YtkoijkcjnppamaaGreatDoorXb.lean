/- Contracts of the laws' Vals, Copy, Rule. Conditions: lengths below two million. -/
import Derived.Test.YtkoijkcjnppamaaGreatDoorXa
import Derived.Test.YtkoijkcjnppamaaGreatDoorWc
/- What the laws make of their arguments: values, copies. -/
namespace Go.Ev
open Go.Proofs
set_option autoImplicit false
set_option linter.unusedVariables false
set_option linter.unusedSimpArgs false
set_option maxRecDepth 10000

/-- without bytes where they failed -/
def clean (v : RVal) : RVal := if v.ok then v else ⟨false, []⟩
def valsL (l : List RVal) : List RVal := (l.take 10).map clean

theorem vals_own (l : List RVal) (hl : l.length < 2000000) (B : Nat) (w0 : World) : CallOK Tryz.prog B w0 18 [vals l] h0 (fun v h' => ∃ S, v = S ∧ OwnL h' S 34 2 (valsL l).length ((valsL l).flatMap valC)) := by
  refine CallOK.fn E0_ok fn18 rfl 29 rfl ?_
  simp only [go_sem, reduceIte, Nat.reduceEqDiff, Nat.reduceLT, Nat.reduceAdd, Nat.reduceSub, Nat.reduceMul, reduceCtorEq, Nat.reduceBEq, Int.reduceEq, Int.reduceLT, Int.reduceLE, Int.reduceAdd, Int.reduceSub, Int.reduceToNat, UInt8.reduceToNat, Nat.reduceLeDiff]
  refine SW.loop1 E0_ok (fun m tm h => ∃ i, m = l.length - i ∧ i ≤ l.length ∧ i ≤ 10 ∧ tm.n = 29 ∧ tm.get 0 = .xsl l.length (l.flatMap valC) ∧ tm.get 4 = .int .i64 i ∧ OwnL h (tm.get 3) 34 2 i (((l.take i).map clean).flatMap valC)) l.length ?_ ?_
  · exact ⟨0, rfl, Nat.zero_le _, by omega, rfl, by first | (simp only [go_sem, reduceIte, Nat.reduceEqDiff, Nat.reduceLT, Nat.reduceAdd, Nat.reduceSub, Nat.reduceMul, reduceCtorEq, Nat.reduceBEq, Int.reduceEq, Int.reduceLT, Int.reduceLE, Int.reduceAdd, Int.reduceSub, Int.reduceToNat, UInt8.reduceToNat, Nat.reduceLeDiff]; done) | (simp only [go_sem, reduceIte, Nat.reduceEqDiff, Nat.reduceLT, Nat.reduceAdd, Nat.reduceSub, Nat.reduceMul, reduceCtorEq, Nat.reduceBEq, Int.reduceEq, Int.reduceLT, Int.reduceLE, Int.reduceAdd, Int.reduceSub, Int.reduceToNat, UInt8.reduceToNat, Nat.reduceLeDiff]; rfl), by first | (simp only [go_sem, reduceIte, Nat.reduceEqDiff, Nat.reduceLT, Nat.reduceAdd, Nat.reduceSub, Nat.reduceMul, reduceCtorEq, Nat.reduceBEq, Int.reduceEq, Int.reduceLT, Int.reduceLE, Int.reduceAdd, Int.reduceSub, Int.reduceToNat, UInt8.reduceToNat, Nat.reduceLeDiff]; done) | (simp only [go_sem, reduceIte, Nat.reduceEqDiff, Nat.reduceLT, Nat.reduceAdd, Nat.reduceSub, Nat.reduceMul, reduceCtorEq, Nat.reduceBEq, Int.reduceEq, Int.reduceLT, Int.reduceLE, Int.reduceAdd, Int.reduceSub, Int.reduceToNat, UInt8.reduceToNat, Nat.reduceLeDiff]; rfl), by simp only [go_sem, reduceIte, Nat.reduceEqDiff, Nat.reduceLT, Nat.reduceAdd, Nat.reduceSub, Nat.reduceMul, reduceCtorEq, Nat.reduceBEq, Int.reduceEq, Int.reduceLT, Int.reduceLE, Int.reduceAdd, Int.reduceSub, Int.reduceToNat, UInt8.reduceToNat, Nat.reduceLeDiff]; exact OwnL.nsl _ _ _⟩
  rintro _ tm h ⟨i, rfl, hi, hi10, hn, h0, h4, hown⟩
  by_cases hlt : i < l.length
  · by_cases h10 : i < 10
    · obtain ⟨⟨ok, b⟩, hx⟩ : ∃ x, l[i]? = some x := ⟨_, List.getElem?_eq_getElem hlt⟩
      have hlt10 : (i : Int) < 10 := by omega
      have hs : (l.take (i + 1)).map clean = (l.take i).map clean ++ [clean ⟨ok, b⟩] := by
        rw [List.take_add_one, hx]; simp
      simp only [go_sem, reduceIte, Nat.reduceEqDiff, Nat.reduceLT, Nat.reduceAdd, Nat.reduceSub, Nat.reduceMul, reduceCtorEq, Nat.reduceBEq, Int.reduceEq, Int.reduceLT, Int.reduceLE, Int.reduceAdd, Int.reduceSub, Int.reduceToNat, UInt8.reduceToNat, Nat.reduceLeDiff, hn, h0, h4, hlt, hx, hlt10]
      cases ok with
      | true =>
        simp only [go_sem, reduceIte, Nat.reduceEqDiff, Nat.reduceLT, Nat.reduceAdd, Nat.reduceSub, Nat.reduceMul, reduceCtorEq, Nat.reduceBEq, Int.reduceEq, Int.reduceLT, Int.reduceLE, Int.reduceAdd, Int.reduceSub, Int.reduceToNat, UInt8.reduceToNat, Nat.reduceLeDiff, hn, h4]
        refine W.append1 (hown.ext (by repeat' (first | exact Ext.refl _ | refine Ext.new ?_ _ | refine Ext.set ?_ (by first | omega | (simp only [new_next, set_next]; omega)) _))) ty26 rfl ty34 rfl rfl rfl rfl (Nat.le_of_ble_eq_true rfl) (by omega) fun h' ho hk hx => ?_
        simp only [go_sem, reduceIte, Nat.reduceEqDiff, Nat.reduceLT, Nat.reduceAdd, Nat.reduceSub, Nat.reduceMul, reduceCtorEq, Nat.reduceBEq, Int.reduceEq, Int.reduceLT, Int.reduceLE, Int.reduceAdd, Int.reduceSub, Int.reduceToNat, UInt8.reduceToNat, Nat.reduceLeDiff, hn, h4]
        rw [wrapI_in (by omega) (by omega)]
        refine Again.mk (l.length - (i + 1)) (by omega) ⟨i + 1, rfl, hlt, h10, by simp only [go_sem, reduceIte, Nat.reduceEqDiff, Nat.reduceLT, Nat.reduceAdd, Nat.reduceSub, Nat.reduceMul, reduceCtorEq, Nat.reduceBEq, Int.reduceEq, Int.reduceLT, Int.reduceLE, Int.reduceAdd, Int.reduceSub, Int.reduceToNat, UInt8.reduceToNat, Nat.reduceLeDiff, hn], by simp only [go_sem, reduceIte, Nat.reduceEqDiff, Nat.reduceLT, Nat.reduceAdd, Nat.reduceSub, Nat.reduceMul, reduceCtorEq, Nat.reduceBEq, Int.reduceEq, Int.reduceLT, Int.reduceLE, Int.reduceAdd, Int.reduceSub, Int.reduceToNat, UInt8.reduceToNat, Nat.reduceLeDiff, h0], by first | (simp only [go_sem, reduceIte, Nat.reduceEqDiff, Nat.reduceLT, Nat.reduceAdd, Nat.reduceSub, Nat.reduceMul, reduceCtorEq, Nat.reduceBEq, Int.reduceEq, Int.reduceLT, Int.reduceLE, Int.reduceAdd, Int.reduceSub, Int.reduceToNat, UInt8.reduceToNat, Nat.reduceLeDiff]; done) | (simp only [go_sem, reduceIte, Nat.reduceEqDiff, Nat.reduceLT, Nat.reduceAdd, Nat.reduceSub, Nat.reduceMul, reduceCtorEq, Nat.reduceBEq, Int.reduceEq, Int.reduceLT, Int.reduceLE, Int.reduceAdd, Int.reduceSub, Int.reduceToNat, UInt8.reduceToNat, Nat.reduceLeDiff]; rfl), ?_⟩
        rw [hs]; simp only [go_sem, reduceIte, Nat.reduceEqDiff, Nat.reduceLT, Nat.reduceAdd, Nat.reduceSub, Nat.reduceMul, reduceCtorEq, Nat.reduceBEq, Int.reduceEq, Int.reduceLT, Int.reduceLE, Int.reduceAdd, Int.reduceSub, Int.reduceToNat, UInt8.reduceToNat, Nat.reduceLeDiff]; simpa [clean, valC, ti34_size, new_next, set_next] using ho
      | false =>
        simp only [go_sem, reduceIte, Nat.reduceEqDiff, Nat.reduceLT, Nat.reduceAdd, Nat.reduceSub, Nat.reduceMul, reduceCtorEq, Nat.reduceBEq, Int.reduceEq, Int.reduceLT, Int.reduceLE, Int.reduceAdd, Int.reduceSub, Int.reduceToNat, UInt8.reduceToNat, Nat.reduceLeDiff, hn, h4]
        refine W.append1 (hown.ext (by repeat' (first | exact Ext.refl _ | refine Ext.new ?_ _ | refine Ext.set ?_ (by first | omega | (simp only [new_next, set_next]; omega)) _))) ty26 rfl ty34 rfl rfl rfl rfl (Nat.le_of_ble_eq_true rfl) (by omega) fun h' ho hk hx => ?_
        simp only [go_sem, reduceIte, Nat.reduceEqDiff, Nat.reduceLT, Nat.reduceAdd, Nat.reduceSub, Nat.reduceMul, reduceCtorEq, Nat.reduceBEq, Int.reduceEq, Int.reduceLT, Int.reduceLE, Int.reduceAdd, Int.reduceSub, Int.reduceToNat, UInt8.reduceToNat, Nat.reduceLeDiff, hn, h4]
        rw [wrapI_in (by omega) (by omega)]
        refine Again.mk (l.length - (i + 1)) (by omega) ⟨i + 1, rfl, hlt, h10, by simp only [go_sem, reduceIte, Nat.reduceEqDiff, Nat.reduceLT, Nat.reduceAdd, Nat.reduceSub, Nat.reduceMul, reduceCtorEq, Nat.reduceBEq, Int.reduceEq, Int.reduceLT, Int.reduceLE, Int.reduceAdd, Int.reduceSub, Int.reduceToNat, UInt8.reduceToNat, Nat.reduceLeDiff, hn], by simp only [go_sem, reduceIte, Nat.reduceEqDiff, Nat.reduceLT, Nat.reduceAdd, Nat.reduceSub, Nat.reduceMul, reduceCtorEq, Nat.reduceBEq, Int.reduceEq, Int.reduceLT, Int.reduceLE, Int.reduceAdd, Int.reduceSub, Int.reduceToNat, UInt8.reduceToNat, Nat.reduceLeDiff, h0], by first | (simp only [go_sem, reduceIte, Nat.reduceEqDiff, Nat.reduceLT, Nat.reduceAdd, Nat.reduceSub, Nat.reduceMul, reduceCtorEq, Nat.reduceBEq, Int.reduceEq, Int.reduceLT, Int.reduceLE, Int.reduceAdd, Int.reduceSub, Int.reduceToNat, UInt8.reduceToNat, Nat.reduceLeDiff]; done) | (simp only [go_sem, reduceIte, Nat.reduceEqDiff, Nat.reduceLT, Nat.reduceAdd, Nat.reduceSub, Nat.reduceMul, reduceCtorEq, Nat.reduceBEq, Int.reduceEq, Int.reduceLT, Int.reduceLE, Int.reduceAdd, Int.reduceSub, Int.reduceToNat, UInt8.reduceToNat, Nat.reduceLeDiff]; rfl), ?_⟩
        rw [hs]; simp only [go_sem, reduceIte, Nat.reduceEqDiff, Nat.reduceLT, Nat.reduceAdd, Nat.reduceSub, Nat.reduceMul, reduceCtorEq, Nat.reduceBEq, Int.reduceEq, Int.reduceLT, Int.reduceLE, Int.reduceAdd, Int.reduceSub, Int.reduceToNat, UInt8.reduceToNat, Nat.reduceLeDiff]; simpa [clean, valC, ti34_size, new_next, set_next] using ho
    · obtain rfl : i = 10 := by omega
      have hlt' : (10 : Int) < (l.length : Int) := by omega
      simp only [go_sem, reduceIte, Nat.reduceEqDiff, Nat.reduceLT, Nat.reduceAdd, Nat.reduceSub, Nat.reduceMul, reduceCtorEq, Nat.reduceBEq, Int.reduceEq, Int.reduceLT, Int.reduceLE, Int.reduceAdd, Int.reduceSub, Int.reduceToNat, UInt8.reduceToNat, Nat.reduceLeDiff, hn, h0, h4, hlt, hlt']
      refine resQ.one E0_ok rfl rfl (CV.refl _ _) ⟨_, rfl, ?_⟩
      simp only [go_sem, reduceIte, Nat.reduceEqDiff, Nat.reduceLT, Nat.reduceAdd, Nat.reduceSub, Nat.reduceMul, reduceCtorEq, Nat.reduceBEq, Int.reduceEq, Int.reduceLT, Int.reduceLE, Int.reduceAdd, Int.reduceSub, Int.reduceToNat, UInt8.reduceToNat, Nat.reduceLeDiff]
      simp only [valsL, List.length_map, List.length_take]
      rw [Nat.min_eq_left hi]
      exact hown
  · obtain rfl : i = l.length := by omega
    simp only [go_sem, reduceIte, Nat.reduceEqDiff, Nat.reduceLT, Nat.reduceAdd, Nat.reduceSub, Nat.reduceMul, reduceCtorEq, Nat.reduceBEq, Int.reduceEq, Int.reduceLT, Int.reduceLE, Int.reduceAdd, Int.reduceSub, Int.reduceToNat, UInt8.reduceToNat, Nat.reduceLeDiff, hn, h0, h4, hlt]
    refine resQ.one E0_ok rfl rfl (CV.refl _ _) ⟨_, rfl, ?_⟩
    simp only [go_sem, reduceIte, Nat.reduceEqDiff, Nat.reduceLT, Nat.reduceAdd, Nat.reduceSub, Nat.reduceMul, reduceCtorEq, Nat.reduceBEq, Int.reduceEq, Int.reduceLT, Int.reduceLE, Int.reduceAdd, Int.reduceSub, Int.reduceToNat, UInt8.reduceToNat, Nat.reduceLeDiff]
    simp only [valsL]
    rw [List.take_of_length_le (Nat.le_refl _)] at hown
    rw [List.take_of_length_le hi10, List.length_map]
    exact hown
theorem vals_ok (l : List RVal) (hl : l.length < 2000000) : Pc Tryz.prog 18 [vals l] (vals (valsL l)) := fun B w0 =>
  (vals_own l hl B w0).out fun v h' ⟨S, hv, ho⟩ => by subst hv; exact ⟨_, _, ho.freeze, rfl⟩
theorem vals_fresh (l : List RVal) (hl : l.length < 2000000) (B : Nat) (w0 : World) (h : AH) : CallOK Tryz.prog B w0 18 [vals l] h (Fresh (fun x => x) 34 2 (valsL l).length ((valsL l).flatMap valC) h) :=
  CallOK.fresh Around.id (by simp [roVs, roV, roV_xs, roVs_append, roV_steps, roV_vals, roV_rules, roV_stepV, roV_ruleV, roV_valV, roVs_stepC, roVs_valC, roVs_ruleC, roVs_strs, *]) (roVs_flat roVs_valC _) (vals_own l hl) h
end Go.Ev
/- What the laws make of their arguments: copies of rules. -/
namespace Go.Ev
open Go.Proofs
set_option autoImplicit false
set_option linter.unusedVariables false
set_option linter.unusedSimpArgs false
set_option maxRecDepth 20000

theorem appF_str (l : List Str) (h : AH) (hl : l.length < 2000000) : appF E0 22 22 (.xsl l.length (l.map .str)) h = some (.xsl l.length (l.map .str)) :=
  appF_xsl ty22 rfl ty9 rfl rfl (by simp) (Nat.le_of_ble_eq_true rfl) (by omega)
theorem appF_frz (E : Env) (t t2 : Nat) (x : AV) (h : AH) : appF (frzOn E) t t2 x h = appF E t t2 x h := rfl
attribute [go_sem] appF_frz

/-- as long as a machine may hold -/
structure SmallS (s : RStep) : Prop where
  args : s.args.length < 2000000
  lits : s.lits.length < 2000000
structure SmallR (r : RRule) : Prop where
  ins : r.ins.length < 2000000
  outs : r.outs.length < 2000000
  after : r.after.length < 2000000
  steps : r.steps.length < 2000000
  each : ∀ s ∈ r.steps, SmallS s

def ruleK (r : RRule) (S : AV) : AV := .agg ([.str r.name, xs r.ins, xs r.outs, xs r.after] ++ [S])

theorem copy_own (r : RRule) (hr : SmallR r) (B : Nat) (w0 : World) : CallOK Tryz.prog B w0 36 [ruleV r] h0 (fun v h' => ∃ S, v = ruleK r S ∧ OwnL h' S 57 5 r.steps.length (r.steps.flatMap stepC)) := by
  have hsz := hr.steps
  have a1 := fun h => appF_str r.ins h hr.ins
  have a2 := fun h => appF_str r.outs h hr.outs
  have a3 := fun h => appF_str r.after h hr.after
  refine CallOK.fn E1_ok fn36 rfl 45 rfl ?_
  simp only [go_sem, reduceIte, Nat.reduceEqDiff, Nat.reduceLT, Nat.reduceAdd, Nat.reduceSub, Nat.reduceMul, reduceCtorEq, Nat.reduceBEq, Int.reduceEq, Int.reduceLT, Int.reduceLE, Int.reduceAdd, Int.reduceSub, Int.reduceToNat, UInt8.reduceToNat, Nat.reduceLeDiff]
  (refine Wdraw_mk [4, 7, 10] (ps := [(1, 12), (3, 12), (4, 12), (6, 12), (7, 12), (9, 12), (10, 12)]) (by kernel_rfl) (by kernel_rfl) ?_)
  simp only [go_sem, reduceIte, Nat.reduceEqDiff, Nat.reduceLT, Nat.reduceAdd, Nat.reduceSub, Nat.reduceMul, reduceCtorEq, Nat.reduceBEq, Int.reduceEq, Int.reduceLT, Int.reduceLE, Int.reduceAdd, Int.reduceSub, Int.reduceToNat, UInt8.reduceToNat, Nat.reduceLeDiff, a1, a2, a3]
  refine SW.loop1 E1_ok (fun m tm h => ∃ i S, m = r.steps.length - i ∧ i ≤ r.steps.length ∧ tm.n = 45 ∧ tm.get 1 = .ptr 0 0 ∧ tm.get 2 = .ptr 1 0 ∧ tm.get 3 = .ptr 2 0 ∧ tm.get 4 = .int .i64 i ∧ h.m.get 0 = some (.cells (ruleC r) 25 0 0 none) ∧
    h.m.get 1 = some (.cells [.str [], .nsl, .nsl, .nsl, .nsl] 25 0 0 none) ∧ h.m.get 2 = some (.cells [.str r.name, xs r.ins, xs r.outs, xs r.after, S] 25 0 0 none) ∧ OwnL h S 57 5 i ((r.steps.take i).flatMap stepC) ∧ 3 ≤ h.next ∧
    ∀ b o e n c, S = .sl b o e n c → 3 ≤ b) r.steps.length ?_ ?_
  · exact ⟨0, .nsl, rfl, Nat.zero_le _, by first | (simp only [go_sem, reduceIte, Nat.reduceEqDiff, Nat.reduceLT, Nat.reduceAdd, Nat.reduceSub, Nat.reduceMul, reduceCtorEq, Nat.reduceBEq, Int.reduceEq, Int.reduceLT, Int.reduceLE, Int.reduceAdd, Int.reduceSub, Int.reduceToNat, UInt8.reduceToNat, Nat.reduceLeDiff]; done) | (simp only [go_sem, reduceIte, Nat.reduceEqDiff, Nat.reduceLT, Nat.reduceAdd, Nat.reduceSub, Nat.reduceMul, reduceCtorEq, Nat.reduceBEq, Int.reduceEq, Int.reduceLT, Int.reduceLE, Int.reduceAdd, Int.reduceSub, Int.reduceToNat, UInt8.reduceToNat, Nat.reduceLeDiff]; rfl), by first | (simp only [go_sem, reduceIte, Nat.reduceEqDiff, Nat.reduceLT, Nat.reduceAdd, Nat.reduceSub, Nat.reduceMul, reduceCtorEq, Nat.reduceBEq, Int.reduceEq, Int.reduceLT, Int.reduceLE, Int.reduceAdd, Int.reduceSub, Int.reduceToNat, UInt8.reduceToNat, Nat.reduceLeDiff]; done) | (simp only [go_sem, reduceIte, Nat.reduceEqDiff, Nat.reduceLT, Nat.reduceAdd, Nat.reduceSub, Nat.reduceMul, reduceCtorEq, Nat.reduceBEq, Int.reduceEq, Int.reduceLT, Int.reduceLE, Int.reduceAdd, Int.reduceSub, Int.reduceToNat, UInt8.reduceToNat, Nat.reduceLeDiff]; rfl), by first | (simp only [go_sem, reduceIte, Nat.reduceEqDiff, Nat.reduceLT, Nat.reduceAdd, Nat.reduceSub, Nat.reduceMul, reduceCtorEq, Nat.reduceBEq, Int.reduceEq, Int.reduceLT, Int.reduceLE, Int.reduceAdd, Int.reduceSub, Int.reduceToNat, UInt8.reduceToNat, Nat.reduceLeDiff]; done) | (simp only [go_sem, reduceIte, Nat.reduceEqDiff, Nat.reduceLT, Nat.reduceAdd, Nat.reduceSub, Nat.reduceMul, reduceCtorEq, Nat.reduceBEq, Int.reduceEq, Int.reduceLT, Int.reduceLE, Int.reduceAdd, Int.reduceSub, Int.reduceToNat, UInt8.reduceToNat, Nat.reduceLeDiff]; rfl), by first | (simp only [go_sem, reduceIte, Nat.reduceEqDiff, Nat.reduceLT, Nat.reduceAdd, Nat.reduceSub, Nat.reduceMul, reduceCtorEq, Nat.reduceBEq, Int.reduceEq, Int.reduceLT, Int.reduceLE, Int.reduceAdd, Int.reduceSub, Int.reduceToNat, UInt8.reduceToNat, Nat.reduceLeDiff]; done) | (simp only [go_sem, reduceIte, Nat.reduceEqDiff, Nat.reduceLT, Nat.reduceAdd, Nat.reduceSub, Nat.reduceMul, reduceCtorEq, Nat.reduceBEq, Int.reduceEq, Int.reduceLT, Int.reduceLE, Int.reduceAdd, Int.reduceSub, Int.reduceToNat, UInt8.reduceToNat, Nat.reduceLeDiff]; rfl), by first | (simp only [go_sem, reduceIte, Nat.reduceEqDiff, Nat.reduceLT, Nat.reduceAdd, Nat.reduceSub, Nat.reduceMul, reduceCtorEq, Nat.reduceBEq, Int.reduceEq, Int.reduceLT, Int.reduceLE, Int.reduceAdd, Int.reduceSub, Int.reduceToNat, UInt8.reduceToNat, Nat.reduceLeDiff]; done) | (simp only [go_sem, reduceIte, Nat.reduceEqDiff, Nat.reduceLT, Nat.reduceAdd, Nat.reduceSub, Nat.reduceMul, reduceCtorEq, Nat.reduceBEq, Int.reduceEq, Int.reduceLT, Int.reduceLE, Int.reduceAdd, Int.reduceSub, Int.reduceToNat, UInt8.reduceToNat, Nat.reduceLeDiff]; rfl), by first | (simp only [go_sem, reduceIte, Nat.reduceEqDiff, Nat.reduceLT, Nat.reduceAdd, Nat.reduceSub, Nat.reduceMul, reduceCtorEq, Nat.reduceBEq, Int.reduceEq, Int.reduceLT, Int.reduceLE, Int.reduceAdd, Int.reduceSub, Int.reduceToNat, UInt8.reduceToNat, Nat.reduceLeDiff]; done) | (simp only [go_sem, reduceIte, Nat.reduceEqDiff, Nat.reduceLT, Nat.reduceAdd, Nat.reduceSub, Nat.reduceMul, reduceCtorEq, Nat.reduceBEq, Int.reduceEq, Int.reduceLT, Int.reduceLE, Int.reduceAdd, Int.reduceSub, Int.reduceToNat, UInt8.reduceToNat, Nat.reduceLeDiff]; rfl), by first | (simp only [go_sem, reduceIte, Nat.reduceEqDiff, Nat.reduceLT, Nat.reduceAdd, Nat.reduceSub, Nat.reduceMul, reduceCtorEq, Nat.reduceBEq, Int.reduceEq, Int.reduceLT, Int.reduceLE, Int.reduceAdd, Int.reduceSub, Int.reduceToNat, UInt8.reduceToNat, Nat.reduceLeDiff]; done) | (simp only [go_sem, reduceIte, Nat.reduceEqDiff, Nat.reduceLT, Nat.reduceAdd, Nat.reduceSub, Nat.reduceMul, reduceCtorEq, Nat.reduceBEq, Int.reduceEq, Int.reduceLT, Int.reduceLE, Int.reduceAdd, Int.reduceSub, Int.reduceToNat, UInt8.reduceToNat, Nat.reduceLeDiff]; rfl), by first | (simp only [go_sem, reduceIte, Nat.reduceEqDiff, Nat.reduceLT, Nat.reduceAdd, Nat.reduceSub, Nat.reduceMul, reduceCtorEq, Nat.reduceBEq, Int.reduceEq, Int.reduceLT, Int.reduceLE, Int.reduceAdd, Int.reduceSub, Int.reduceToNat, UInt8.reduceToNat, Nat.reduceLeDiff]; done) | (simp only [go_sem, reduceIte, Nat.reduceEqDiff, Nat.reduceLT, Nat.reduceAdd, Nat.reduceSub, Nat.reduceMul, reduceCtorEq, Nat.reduceBEq, Int.reduceEq, Int.reduceLT, Int.reduceLE, Int.reduceAdd, Int.reduceSub, Int.reduceToNat, UInt8.reduceToNat, Nat.reduceLeDiff]; rfl), OwnL.nsl _ _ _, by first | (simp only [go_sem, reduceIte, Nat.reduceEqDiff, Nat.reduceLT, Nat.reduceAdd, Nat.reduceSub, Nat.reduceMul, reduceCtorEq, Nat.reduceBEq, Int.reduceEq, Int.reduceLT, Int.reduceLE, Int.reduceAdd, Int.reduceSub, Int.reduceToNat, UInt8.reduceToNat, Nat.reduceLeDiff]; done) | (simp only [go_sem, reduceIte, Nat.reduceEqDiff, Nat.reduceLT, Nat.reduceAdd, Nat.reduceSub, Nat.reduceMul, reduceCtorEq, Nat.reduceBEq, Int.reduceEq, Int.reduceLT, Int.reduceLE, Int.reduceAdd, Int.reduceSub, Int.reduceToNat, UInt8.reduceToNat, Nat.reduceLeDiff]; rfl), fun b o e n c h => by cases h⟩
  rintro _ tm h ⟨i, S, rfl, hi, hn, t1, t2, t3, t4, b0, b1, b2, hown, hnx, hS⟩
  have n0 : ¬ 0 = h.next := by omega
  have n1 : ¬ 1 = h.next := by omega
  have n2 : ¬ 2 = h.next := by omega
  by_cases hlt : i < r.steps.length
  · obtain ⟨s, hs⟩ : ∃ s, r.steps[i]? = some s := ⟨_, List.getElem?_eq_getElem hlt⟩
    have hss := hr.each s (List.mem_of_getElem? hs)
    have c1 := fun h => appF_str s.args h hss.args
    have c2 := fun h => appF_str s.lits h hss.lits
    have htk : r.steps.take (i + 1) = r.steps.take i ++ [s] := by rw [List.take_add_one, hs]; rfl
    simp only [go_sem, reduceIte, Nat.reduceEqDiff, Nat.reduceLT, Nat.reduceAdd, Nat.reduceSub, Nat.reduceMul, reduceCtorEq, Nat.reduceBEq, Int.reduceEq, Int.reduceLT, Int.reduceLE, Int.reduceAdd, Int.reduceSub, Int.reduceToNat, UInt8.reduceToNat, Nat.reduceLeDiff, hn, t1, t2, t3, t4, b0, b1, b2, n0, n1, n2, hlt, hs]
    (refine Wdraw_mk [2, 5] (ps := []) (by kernel_rfl) (by kernel_rfl) ?_)
    simp only [go_sem, reduceIte, Nat.reduceEqDiff, Nat.reduceLT, Nat.reduceAdd, Nat.reduceSub, Nat.reduceMul, reduceCtorEq, Nat.reduceBEq, Int.reduceEq, Int.reduceLT, Int.reduceLE, Int.reduceAdd, Int.reduceSub, Int.reduceToNat, UInt8.reduceToNat, Nat.reduceLeDiff, hn, t1, t2, t3, t4, b0, b1, b2, n0, n1, n2, hlt, hs, c1, c2]
    refine W.append1 (hown.ext (by repeat' (first | exact Ext.refl _ | refine Ext.new ?_ _ | refine Ext.set ?_ (by first | omega | (simp only [new_next, set_next]; omega)) _))) ty23 rfl ty57 rfl rfl rfl rfl (Nat.le_of_ble_eq_true rfl) (by omega) fun h' ho hk hx => ?_
    have e0 := hk.2 0 (by simp only [set_next, new_next]; omega) (fun o e n c hc => by have := hS _ _ _ _ _ hc; omega)
    have e1 := hk.2 1 (by simp only [set_next, new_next]; omega) (fun o e n c hc => by have := hS _ _ _ _ _ hc; omega)
    have e2 := hk.2 2 (by simp only [set_next, new_next]; omega) (fun o e n c hc => by have := hS _ _ _ _ _ hc; omega)
    simp only [set_get, new_get, n0, n1, n2, if_false, b0, b1, b2, set_next, new_next] at e0 e1 e2 hx ho
    simp only [go_sem, reduceIte, Nat.reduceEqDiff, Nat.reduceLT, Nat.reduceAdd, Nat.reduceSub, Nat.reduceMul, reduceCtorEq, Nat.reduceBEq, Int.reduceEq, Int.reduceLT, Int.reduceLE, Int.reduceAdd, Int.reduceSub, Int.reduceToNat, UInt8.reduceToNat, Nat.reduceLeDiff, hn, t1, t2, t3, t4, e0, e1, e2]
    rw [wrapI_in (by omega) (by omega)]
    refine Again.mk (r.steps.length - (i + 1)) (by omega) ⟨i + 1, _, rfl, hlt, by first | (simp only [go_sem, reduceIte, Nat.reduceEqDiff, Nat.reduceLT, Nat.reduceAdd, Nat.reduceSub, Nat.reduceMul, reduceCtorEq, Nat.reduceBEq, Int.reduceEq, Int.reduceLT, Int.reduceLE, Int.reduceAdd, Int.reduceSub, Int.reduceToNat, UInt8.reduceToNat, Nat.reduceLeDiff, hn]; done) | (simp only [go_sem, reduceIte, Nat.reduceEqDiff, Nat.reduceLT, Nat.reduceAdd, Nat.reduceSub, Nat.reduceMul, reduceCtorEq, Nat.reduceBEq, Int.reduceEq, Int.reduceLT, Int.reduceLE, Int.reduceAdd, Int.reduceSub, Int.reduceToNat, UInt8.reduceToNat, Nat.reduceLeDiff, hn]; rfl), by first | (simp only [go_sem, reduceIte, Nat.reduceEqDiff, Nat.reduceLT, Nat.reduceAdd, Nat.reduceSub, Nat.reduceMul, reduceCtorEq, Nat.reduceBEq, Int.reduceEq, Int.reduceLT, Int.reduceLE, Int.reduceAdd, Int.reduceSub, Int.reduceToNat, UInt8.reduceToNat, Nat.reduceLeDiff, t1]; done) | (simp only [go_sem, reduceIte, Nat.reduceEqDiff, Nat.reduceLT, Nat.reduceAdd, Nat.reduceSub, Nat.reduceMul, reduceCtorEq, Nat.reduceBEq, Int.reduceEq, Int.reduceLT, Int.reduceLE, Int.reduceAdd, Int.reduceSub, Int.reduceToNat, UInt8.reduceToNat, Nat.reduceLeDiff, t1]; rfl), by first | (simp only [go_sem, reduceIte, Nat.reduceEqDiff, Nat.reduceLT, Nat.reduceAdd, Nat.reduceSub, Nat.reduceMul, reduceCtorEq, Nat.reduceBEq, Int.reduceEq, Int.reduceLT, Int.reduceLE, Int.reduceAdd, Int.reduceSub, Int.reduceToNat, UInt8.reduceToNat, Nat.reduceLeDiff, t2]; done) | (simp only [go_sem, reduceIte, Nat.reduceEqDiff, Nat.reduceLT, Nat.reduceAdd, Nat.reduceSub, Nat.reduceMul, reduceCtorEq, Nat.reduceBEq, Int.reduceEq, Int.reduceLT, Int.reduceLE, Int.reduceAdd, Int.reduceSub, Int.reduceToNat, UInt8.reduceToNat, Nat.reduceLeDiff, t2]; rfl), by first | (simp only [go_sem, reduceIte, Nat.reduceEqDiff, Nat.reduceLT, Nat.reduceAdd, Nat.reduceSub, Nat.reduceMul, reduceCtorEq, Nat.reduceBEq, Int.reduceEq, Int.reduceLT, Int.reduceLE, Int.reduceAdd, Int.reduceSub, Int.reduceToNat, UInt8.reduceToNat, Nat.reduceLeDiff, t3]; done) | (simp only [go_sem, reduceIte, Nat.reduceEqDiff, Nat.reduceLT, Nat.reduceAdd, Nat.reduceSub, Nat.reduceMul, reduceCtorEq, Nat.reduceBEq, Int.reduceEq, Int.reduceLT, Int.reduceLE, Int.reduceAdd, Int.reduceSub, Int.reduceToNat, UInt8.reduceToNat, Nat.reduceLeDiff, t3]; rfl), by first | (simp only [go_sem, reduceIte, Nat.reduceEqDiff, Nat.reduceLT, Nat.reduceAdd, Nat.reduceSub, Nat.reduceMul, reduceCtorEq, Nat.reduceBEq, Int.reduceEq, Int.reduceLT, Int.reduceLE, Int.reduceAdd, Int.reduceSub, Int.reduceToNat, UInt8.reduceToNat, Nat.reduceLeDiff]; done) | (simp only [go_sem, reduceIte, Nat.reduceEqDiff, Nat.reduceLT, Nat.reduceAdd, Nat.reduceSub, Nat.reduceMul, reduceCtorEq, Nat.reduceBEq, Int.reduceEq, Int.reduceLT, Int.reduceLE, Int.reduceAdd, Int.reduceSub, Int.reduceToNat, UInt8.reduceToNat, Nat.reduceLeDiff]; rfl), by first | (simp only [go_sem, reduceIte, Nat.reduceEqDiff, Nat.reduceLT, Nat.reduceAdd, Nat.reduceSub, Nat.reduceMul, reduceCtorEq, Nat.reduceBEq, Int.reduceEq, Int.reduceLT, Int.reduceLE, Int.reduceAdd, Int.reduceSub, Int.reduceToNat, UInt8.reduceToNat, Nat.reduceLeDiff, e0]; done) | (simp only [go_sem, reduceIte, Nat.reduceEqDiff, Nat.reduceLT, Nat.reduceAdd, Nat.reduceSub, Nat.reduceMul, reduceCtorEq, Nat.reduceBEq, Int.reduceEq, Int.reduceLT, Int.reduceLE, Int.reduceAdd, Int.reduceSub, Int.reduceToNat, UInt8.reduceToNat, Nat.reduceLeDiff, e0]; rfl), by first | (simp only [go_sem, reduceIte, Nat.reduceEqDiff, Nat.reduceLT, Nat.reduceAdd, Nat.reduceSub, Nat.reduceMul, reduceCtorEq, Nat.reduceBEq, Int.reduceEq, Int.reduceLT, Int.reduceLE, Int.reduceAdd, Int.reduceSub, Int.reduceToNat, UInt8.reduceToNat, Nat.reduceLeDiff, e1]; done) | (simp only [go_sem, reduceIte, Nat.reduceEqDiff, Nat.reduceLT, Nat.reduceAdd, Nat.reduceSub, Nat.reduceMul, reduceCtorEq, Nat.reduceBEq, Int.reduceEq, Int.reduceLT, Int.reduceLE, Int.reduceAdd, Int.reduceSub, Int.reduceToNat, UInt8.reduceToNat, Nat.reduceLeDiff, e1]; rfl), by first | (simp only [go_sem, reduceIte, Nat.reduceEqDiff, Nat.reduceLT, Nat.reduceAdd, Nat.reduceSub, Nat.reduceMul, reduceCtorEq, Nat.reduceBEq, Int.reduceEq, Int.reduceLT, Int.reduceLE, Int.reduceAdd, Int.reduceSub, Int.reduceToNat, UInt8.reduceToNat, Nat.reduceLeDiff]; done) | (simp only [go_sem, reduceIte, Nat.reduceEqDiff, Nat.reduceLT, Nat.reduceAdd, Nat.reduceSub, Nat.reduceMul, reduceCtorEq, Nat.reduceBEq, Int.reduceEq, Int.reduceLT, Int.reduceLE, Int.reduceAdd, Int.reduceSub, Int.reduceToNat, UInt8.reduceToNat, Nat.reduceLeDiff]; rfl), ?_, ?_, ?_⟩
    · rw [htk]
      refine OwnL.set ?_ 2 _ (fun o e n c hc => by injection hc with hb; omega)
      simpa [stepC, xs, ti57_size] using ho
    · simp only [go_sem, reduceIte, Nat.reduceEqDiff, Nat.reduceLT, Nat.reduceAdd, Nat.reduceSub, Nat.reduceMul, reduceCtorEq, Nat.reduceBEq, Int.reduceEq, Int.reduceLT, Int.reduceLE, Int.reduceAdd, Int.reduceSub, Int.reduceToNat, UInt8.reduceToNat, Nat.reduceLeDiff]; omega
    · intro b o e n c hc
      cases hc; omega
  · obtain rfl : i = r.steps.length := by omega
    rw [List.take_of_length_le (Nat.le_refl _)] at hown
    have hone := hown.one
    simp only [AV.one] at hone
    have hi1 : inI 4 5 = true := rfl
    simp only [go_sem, reduceIte, Nat.reduceEqDiff, Nat.reduceLT, Nat.reduceAdd, Nat.reduceSub, Nat.reduceMul, reduceCtorEq, Nat.reduceBEq, Int.reduceEq, Int.reduceLT, Int.reduceLE, Int.reduceAdd, Int.reduceSub, Int.reduceToNat, UInt8.reduceToNat, Nat.reduceLeDiff, hn, t1, t2, t3, t4, b0, b1, b2, hlt, hone]
    refine resQ.cell E1_ok rfl (by simp only [go_sem, reduceIte, Nat.reduceEqDiff, Nat.reduceLT, Nat.reduceAdd, Nat.reduceSub, Nat.reduceMul, reduceCtorEq, Nat.reduceBEq, Int.reduceEq, Int.reduceLT, Int.reduceLE, Int.reduceAdd, Int.reduceSub, Int.reduceToNat, UInt8.reduceToNat, Nat.reduceLeDiff, t2]; rfl) (CV.refl _ _) ⟨S, rfl, ?_⟩
    exact hown.set 1 _ (fun o e n c hc => by have := hS _ _ _ _ _ hc; omega)
end Go.Ev
/- What the laws make of their arguments: rules cut to what may be looked at. -/
namespace Go.Ev
open Go.Proofs
set_option autoImplicit false
set_option linter.unusedVariables false
set_option linter.unusedSimpArgs false
set_option maxRecDepth 20000

def trimS (s : RStep) : RStep := { s with args := s.args.take 8, lits := s.lits.take 3 }
def trim1 (r : RRule) : RRule := { name := r.name, ins := r.ins.take 10, outs := r.outs.take 6, after := r.after.take 10, steps := r.steps.take 14 }
def trimR (r : RRule) : RRule := { trim1 r with steps := (r.steps.take 14).map trimS }

theorem min_nat3 (n : Nat) : (if (3 : Int) < (n : Int) then (3 : Int) else n) = ((min n 3 : Nat) : Int) := by split <;> omega
theorem min_nat6 (n : Nat) : (if (6 : Int) < (n : Int) then (6 : Int) else n) = ((min n 6 : Nat) : Int) := by split <;> omega
theorem min_nat8 (n : Nat) : (if (8 : Int) < (n : Int) then (8 : Int) else n) = ((min n 8 : Nat) : Int) := by split <;> omega
theorem min_nat10 (n : Nat) : (if (10 : Int) < (n : Int) then (10 : Int) else n) = ((min n 10 : Nat) : Int) := by split <;> omega
theorem min_nat14 (n : Nat) : (if (14 : Int) < (n : Int) then (14 : Int) else n) = ((min n 14 : Nat) : Int) := by split <;> omega
theorem take_min_str (l : List Str) (k : Nat) : AV.xsl (min l.length k) (List.take (min l.length k) (l.map AV.str)) = AV.xsl (l.take k).length ((l.take k).map .str) := by
  have e : l.length = (l.map AV.str).length := by simp
  rw [List.map_take, List.length_take, Nat.min_comm l.length k]
  congr 1
  rw [e, ← List.take_eq_take_min]
theorem take_min_step (l : List RStep) (k : Nat) : AV.xsl (min l.length k) (List.take (min l.length k * 5) (l.flatMap stepC)) = AV.xsl (l.take k).length ((l.take k).flatMap stepC) := by
  have e : min l.length k = (l.take k).length := by rw [List.length_take]; omega
  rw [e]
  congr 1
  have h2 := length_flat length_stepC (l.take k)
  have h3 : l.flatMap stepC = (l.take k).flatMap stepC ++ (l.drop k).flatMap stepC := by rw [← List.flatMap_append, List.take_append_drop]
  rw [h3, ← h2, List.take_left]
attribute [go_sem] min_nat3 min_nat6 min_nat8 min_nat10 min_nat14 take_min_str take_min_step Int.natCast_nonneg Nat.min_le_left Nat.sub_zero

theorem getC_flat {α : Type} {f : α → List AV} {k : Nat} (hf : ∀ x, (f x).length = k) (l : List α) (i j : Nat) (hj : j < k) : (l.flatMap f)[i * k + j]? = match l[i]? with | some x => (f x)[j]? | none => none := by
  rw [← List.getElem?_drop, drop_flat hf]
  cases h : l[i]? with
  | none => rw [List.drop_eq_nil_of_le (List.getElem?_eq_none_iff.1 h)]; simp
  | some x =>
    obtain ⟨hi, rfl⟩ := List.getElem?_eq_some_iff.1 h
    rw [List.drop_eq_getElem_cons hi, List.flatMap_cons, List.getElem?_append_left (by rw [hf]; exact hj)]
theorem setC_flat {α : Type} {f : α → List AV} {k : Nat} (hf : ∀ x, (f x).length = k) (l : List α) (i j : Nat) (hj : j < k) (x y : α) (v : AV) (hx : l[i]? = some x) (hy : (f x).set j v = f y) : (l.flatMap f).set (i * k + j) v = (l.set i y).flatMap f := by
  induction l generalizing i with
  | nil => simp at hx
  | cons a l ih =>
    cases i with
    | zero =>
      simp only [List.getElem?_cons_zero, Option.some.injEq] at hx; subst hx
      rw [Nat.zero_mul, Nat.zero_add, List.flatMap_cons, List.set_cons_zero, List.flatMap_cons, List.set_append_left _ _ (by rw [hf]; exact hj), hy]
    | succ i =>
      simp only [List.getElem?_cons_succ] at hx
      rw [List.flatMap_cons, List.set_cons_succ, List.flatMap_cons, ← ih i hx, List.set_append_right _ _ (by rw [hf, Nat.add_mul]; omega), hf]
      congr 2
      rw [Nat.add_mul]; omega
theorem CV.last {B : Nat} {w0 : World} {pre : List AV} {v v' : AV} {h h' : AH} (hp : roVs pre = true) (hc : CV B w0 v h v' h') : CV B w0 (.agg (pre ++ [v])) h (.agg (pre ++ [v'])) h' := by
  intro ρ w u s hu
  simp only [RV] at hu
  obtain ⟨A, rfl, hA⟩ := hu
  have h1 := hA.take pre.length
  have h2 := hA.drop pre.length
  rw [List.take_left] at h1
  rw [List.drop_left] at h2
  simp only [RVs] at h2
  obtain ⟨y, r, he, a1, rfl⟩ := h2
  obtain ⟨ρ', g1, g2, g3⟩ := hc ρ w y s a1
  refine ⟨ρ', g1, g2, ?_⟩
  simp only [RV]
  refine ⟨A, rfl, ?_⟩
  have e : A = A.take pre.length ++ A.drop pre.length := (List.take_append_drop _ _).symm
  rw [e]
  refine RVs.append (ros_mono g1.R _ _ hp h1) ?_
  simp only [RVs]
  exact ⟨y, [], he, g3, rfl⟩
theorem copy_fresh (r : RRule) (hr : SmallR r) (B : Nat) (w0 : World) (h : AH) : CallOK Tryz.prog B w0 36 [ruleV r] h (Fresh (ruleK r) 57 5 r.steps.length (r.steps.flatMap stepC) h) :=
  CallOK.fresh (Around.last (pre := [.str r.name, xs r.ins, xs r.outs, xs r.after]) (by simp [roVs, roV, roV_xs, roVs_append, roV_steps, roV_vals, roV_rules, roV_stepV, roV_ruleV, roV_valV, roVs_stepC, roVs_valC, roVs_ruleC, roVs_strs, *])) (by simp [roVs, roV, roV_xs, roVs_append, roV_steps, roV_vals, roV_rules, roV_stepV, roV_ruleV, roV_valV, roVs_stepC, roVs_valC, roVs_ruleC, roVs_strs, *]) (roVs_flat roVs_stepC _) (fun B w0 => copy_own r hr B w0) h
theorem SmallR.trim1 {r : RRule} (hr : SmallR r) : SmallR (trim1 r) := by
  have t : ∀ {α : Type} (k : Nat) (l : List α), l.length < 2000000 → (l.take k).length < 2000000 := fun k l h => by rw [List.length_take]; omega
  exact ⟨t _ _ hr.ins, t _ _ hr.outs, t _ _ hr.after, t _ _ hr.steps, fun s hs => hr.each s (List.mem_of_mem_take hs)⟩

/-- the steps, cut as far as here -/
def mixS (l : List RStep) (i : Nat) : List RStep := (l.take i).map trimS ++ l.drop i
theorem mixS_get {l : List RStep} {i : Nat} {s : RStep} (hs : l[i]? = some s) : (mixS l i)[i]? = some s := by
  have hi := (List.getElem?_eq_some_iff.1 hs).1
  unfold mixS
  rw [List.getElem?_append_right (by simp; omega)]
  simp only [List.length_map, List.length_take]
  rw [List.getElem?_drop, ← hs]; congr 1; omega
theorem mixS_set {l : List RStep} {i : Nat} {s : RStep} (hs : l[i]? = some s) : (mixS l i).set i (trimS s) = mixS l (i + 1) := by
  obtain ⟨hi, rfl⟩ := List.getElem?_eq_some_iff.1 hs
  unfold mixS
  rw [List.set_append_right _ _ (by simp; omega)]
  simp only [List.length_map, List.length_take]
  rw [show i - min i l.length = 0 by omega, List.drop_eq_getElem_cons hi, List.set_cons_zero, List.take_add_one, hs, List.map_append, List.append_assoc]
  rfl

theorem sliceL_one (l : List AV) (o : Nat) : sliceL l o 1 = match l[o]? with | some v => some [v] | none => none := by
  refine Eq.trans ?_ (sliceL_drop1 l o)
  unfold sliceL; simp only [List.drop_zero]

theorem rule4_ok (r : RRule) (hr : SmallR r) : Pc Tryz.prog 33 [ruleV r] (ruleV (trimR r)) := by
  intro B w0
  refine CallOK.fn E0_ok fn33 rfl 86 rfl ?_
  simp only [go_sem, reduceIte, Nat.reduceEqDiff, Nat.reduceLT, Nat.reduceAdd, Nat.reduceSub, Nat.reduceMul, reduceCtorEq, Nat.reduceBEq, Int.reduceEq, Int.reduceLT, Int.reduceLE, Int.reduceAdd, Int.reduceSub, Int.reduceToNat, UInt8.reduceToNat, Nat.reduceLeDiff]
  (refine Wdraw_mk [] (ps := [(1, 31), (3, 31), (5, 31), (6, 31), (7, 31), (10, 31), (12, 31), (13, 31), (14, 31), (17, 31), (19, 31), (20, 31), (21, 31), (24, 31), (26, 31), (27, 31), (28, 31)]) (by kernel_rfl) (by kernel_rfl) ?_)
  simp only [go_sem, reduceIte, Nat.reduceEqDiff, Nat.reduceLT, Nat.reduceAdd, Nat.reduceSub, Nat.reduceMul, reduceCtorEq, Nat.reduceBEq, Int.reduceEq, Int.reduceLT, Int.reduceLE, Int.reduceAdd, Int.reduceSub, Int.reduceToNat, UInt8.reduceToNat, Nat.reduceLeDiff]
  refine (copy_fresh (trim1 r) hr.trim1 B w0 _).mono fun v h' hf => ?_
  rw [retW_eq]
  have hl : (r.steps.take 14).length ≤ 14 := by rw [List.length_take]; omega
  rcases hf with ⟨rfl, h1, h2, rfl⟩ | ⟨rfl, h1, rfl⟩
  · simp only [trim1] at h1 h2
    have h3 : r.steps.take 14 = [] := List.length_eq_zero_iff.1 h1
    simp only [go_sem, reduceIte, Nat.reduceEqDiff, Nat.reduceLT, Nat.reduceAdd, Nat.reduceSub, Nat.reduceMul, reduceCtorEq, Nat.reduceBEq, Int.reduceEq, Int.reduceLT, Int.reduceLE, Int.reduceAdd, Int.reduceSub, Int.reduceToNat, UInt8.reduceToNat, Nat.reduceLeDiff, ruleK, trim1]
    refine SW.loop1 E0_ok (fun m tm h => tm.n = 86 ∧ tm.get 2 = .ptr 1 0 ∧ tm.get 3 = .ptr 2 0 ∧ tm.get 40 = .int .i64 0 ∧ tm.get 41 = .int .i64 0 ∧ h.m.get 1 = some (.cells [.str [], .nsl, .nsl, .nsl, .nsl] 25 0 0 none) ∧
      h.m.get 2 = some (.cells [.str r.name, xs (r.ins.take 10), xs (r.outs.take 6), xs (r.after.take 10), .nsl] 25 0 0 none)) 0 ?_ ?_
    · exact ⟨by first | (simp only [go_sem, reduceIte, Nat.reduceEqDiff, Nat.reduceLT, Nat.reduceAdd, Nat.reduceSub, Nat.reduceMul, reduceCtorEq, Nat.reduceBEq, Int.reduceEq, Int.reduceLT, Int.reduceLE, Int.reduceAdd, Int.reduceSub, Int.reduceToNat, UInt8.reduceToNat, Nat.reduceLeDiff]; done) | (simp only [go_sem, reduceIte, Nat.reduceEqDiff, Nat.reduceLT, Nat.reduceAdd, Nat.reduceSub, Nat.reduceMul, reduceCtorEq, Nat.reduceBEq, Int.reduceEq, Int.reduceLT, Int.reduceLE, Int.reduceAdd, Int.reduceSub, Int.reduceToNat, UInt8.reduceToNat, Nat.reduceLeDiff]; rfl), by first | (simp only [go_sem, reduceIte, Nat.reduceEqDiff, Nat.reduceLT, Nat.reduceAdd, Nat.reduceSub, Nat.reduceMul, reduceCtorEq, Nat.reduceBEq, Int.reduceEq, Int.reduceLT, Int.reduceLE, Int.reduceAdd, Int.reduceSub, Int.reduceToNat, UInt8.reduceToNat, Nat.reduceLeDiff]; done) | (simp only [go_sem, reduceIte, Nat.reduceEqDiff, Nat.reduceLT, Nat.reduceAdd, Nat.reduceSub, Nat.reduceMul, reduceCtorEq, Nat.reduceBEq, Int.reduceEq, Int.reduceLT, Int.reduceLE, Int.reduceAdd, Int.reduceSub, Int.reduceToNat, UInt8.reduceToNat, Nat.reduceLeDiff]; rfl), by first | (simp only [go_sem, reduceIte, Nat.reduceEqDiff, Nat.reduceLT, Nat.reduceAdd, Nat.reduceSub, Nat.reduceMul, reduceCtorEq, Nat.reduceBEq, Int.reduceEq, Int.reduceLT, Int.reduceLE, Int.reduceAdd, Int.reduceSub, Int.reduceToNat, UInt8.reduceToNat, Nat.reduceLeDiff]; done) | (simp only [go_sem, reduceIte, Nat.reduceEqDiff, Nat.reduceLT, Nat.reduceAdd, Nat.reduceSub, Nat.reduceMul, reduceCtorEq, Nat.reduceBEq, Int.reduceEq, Int.reduceLT, Int.reduceLE, Int.reduceAdd, Int.reduceSub, Int.reduceToNat, UInt8.reduceToNat, Nat.reduceLeDiff]; rfl), by first | (simp only [go_sem, reduceIte, Nat.reduceEqDiff, Nat.reduceLT, Nat.reduceAdd, Nat.reduceSub, Nat.reduceMul, reduceCtorEq, Nat.reduceBEq, Int.reduceEq, Int.reduceLT, Int.reduceLE, Int.reduceAdd, Int.reduceSub, Int.reduceToNat, UInt8.reduceToNat, Nat.reduceLeDiff]; done) | (simp only [go_sem, reduceIte, Nat.reduceEqDiff, Nat.reduceLT, Nat.reduceAdd, Nat.reduceSub, Nat.reduceMul, reduceCtorEq, Nat.reduceBEq, Int.reduceEq, Int.reduceLT, Int.reduceLE, Int.reduceAdd, Int.reduceSub, Int.reduceToNat, UInt8.reduceToNat, Nat.reduceLeDiff]; rfl), by first | (simp only [go_sem, reduceIte, Nat.reduceEqDiff, Nat.reduceLT, Nat.reduceAdd, Nat.reduceSub, Nat.reduceMul, reduceCtorEq, Nat.reduceBEq, Int.reduceEq, Int.reduceLT, Int.reduceLE, Int.reduceAdd, Int.reduceSub, Int.reduceToNat, UInt8.reduceToNat, Nat.reduceLeDiff]; done) | (simp only [go_sem, reduceIte, Nat.reduceEqDiff, Nat.reduceLT, Nat.reduceAdd, Nat.reduceSub, Nat.reduceMul, reduceCtorEq, Nat.reduceBEq, Int.reduceEq, Int.reduceLT, Int.reduceLE, Int.reduceAdd, Int.reduceSub, Int.reduceToNat, UInt8.reduceToNat, Nat.reduceLeDiff]; rfl), by first | (simp only [go_sem, reduceIte, Nat.reduceEqDiff, Nat.reduceLT, Nat.reduceAdd, Nat.reduceSub, Nat.reduceMul, reduceCtorEq, Nat.reduceBEq, Int.reduceEq, Int.reduceLT, Int.reduceLE, Int.reduceAdd, Int.reduceSub, Int.reduceToNat, UInt8.reduceToNat, Nat.reduceLeDiff]; done) | (simp only [go_sem, reduceIte, Nat.reduceEqDiff, Nat.reduceLT, Nat.reduceAdd, Nat.reduceSub, Nat.reduceMul, reduceCtorEq, Nat.reduceBEq, Int.reduceEq, Int.reduceLT, Int.reduceLE, Int.reduceAdd, Int.reduceSub, Int.reduceToNat, UInt8.reduceToNat, Nat.reduceLeDiff]; rfl), by first | (simp only [go_sem, reduceIte, Nat.reduceEqDiff, Nat.reduceLT, Nat.reduceAdd, Nat.reduceSub, Nat.reduceMul, reduceCtorEq, Nat.reduceBEq, Int.reduceEq, Int.reduceLT, Int.reduceLE, Int.reduceAdd, Int.reduceSub, Int.reduceToNat, UInt8.reduceToNat, Nat.reduceLeDiff]; done) | (simp only [go_sem, reduceIte, Nat.reduceEqDiff, Nat.reduceLT, Nat.reduceAdd, Nat.reduceSub, Nat.reduceMul, reduceCtorEq, Nat.reduceBEq, Int.reduceEq, Int.reduceLT, Int.reduceLE, Int.reduceAdd, Int.reduceSub, Int.reduceToNat, UInt8.reduceToNat, Nat.reduceLeDiff]; rfl)⟩
    rintro _ tm h ⟨hn, t2, t3, t40, t41, b1, b2⟩
    simp only [go_sem, reduceIte, Nat.reduceEqDiff, Nat.reduceLT, Nat.reduceAdd, Nat.reduceSub, Nat.reduceMul, reduceCtorEq, Nat.reduceBEq, Int.reduceEq, Int.reduceLT, Int.reduceLE, Int.reduceAdd, Int.reduceSub, Int.reduceToNat, UInt8.reduceToNat, Nat.reduceLeDiff, hn, t2, t3, t40, t41, b1, b2]
    refine resQ.cell E0_ok rfl (by first | (simp only [go_sem, reduceIte, Nat.reduceEqDiff, Nat.reduceLT, Nat.reduceAdd, Nat.reduceSub, Nat.reduceMul, reduceCtorEq, Nat.reduceBEq, Int.reduceEq, Int.reduceLT, Int.reduceLE, Int.reduceAdd, Int.reduceSub, Int.reduceToNat, UInt8.reduceToNat, Nat.reduceLeDiff, t2]; done) | (simp only [go_sem, reduceIte, Nat.reduceEqDiff, Nat.reduceLT, Nat.reduceAdd, Nat.reduceSub, Nat.reduceMul, reduceCtorEq, Nat.reduceBEq, Int.reduceEq, Int.reduceLT, Int.reduceLE, Int.reduceAdd, Int.reduceSub, Int.reduceToNat, UInt8.reduceToNat, Nat.reduceLeDiff, t2]; rfl)) (CV.last (pre := [.str r.name, xs (r.ins.take 10), xs (r.outs.take 6), xs (r.after.take 10)]) (by simp [roVs, roV, roV_xs, roVs_append, roV_steps, roV_vals, roV_rules, roV_stepV, roV_ruleV, roV_valV, roVs_stepC, roVs_valC, roVs_ruleC, roVs_strs, *]) (CV.nsl _)) ?_
    simp only [Is, ruleV, ruleC, trimR, trim1, h3, xs]; rfl
  · simp only [trim1] at h1
    simp only [go_sem, reduceIte, Nat.reduceEqDiff, Nat.reduceLT, Nat.reduceAdd, Nat.reduceSub, Nat.reduceMul, reduceCtorEq, Nat.reduceBEq, Int.reduceEq, Int.reduceLT, Int.reduceLE, Int.reduceAdd, Int.reduceSub, Int.reduceToNat, UInt8.reduceToNat, Nat.reduceLeDiff, ruleK, trim1]
    refine SW.loop1 E0_ok (fun m tm h => ∃ i, m = (r.steps.take 14).length - i ∧ i ≤ (r.steps.take 14).length ∧ tm.n = 86 ∧ tm.get 2 = .ptr 1 0 ∧ tm.get 3 = .ptr 2 0 ∧ tm.get 40 = .int .i64 (r.steps.take 14).length ∧ tm.get 41 = .int .i64 i ∧ h.m.get 1 = some (.cells [.str [], .nsl, .nsl, .nsl, .nsl] 25 0 0 none) ∧
      h.m.get 2 = some (.cells [.str r.name, xs (r.ins.take 10), xs (r.outs.take 6), xs (r.after.take 10), .sl 3 0 0 (r.steps.take 14).length none] 25 0 0 none) ∧ h.m.get 3 = some (.cells ((mixS (r.steps.take 14) i).flatMap stepC) 57 0 0 (some 5))) (r.steps.take 14).length ?_ ?_
    · exact ⟨0, rfl, Nat.zero_le _, by first | (simp only [go_sem, reduceIte, Nat.reduceEqDiff, Nat.reduceLT, Nat.reduceAdd, Nat.reduceSub, Nat.reduceMul, reduceCtorEq, Nat.reduceBEq, Int.reduceEq, Int.reduceLT, Int.reduceLE, Int.reduceAdd, Int.reduceSub, Int.reduceToNat, UInt8.reduceToNat, Nat.reduceLeDiff]; done) | (simp only [go_sem, reduceIte, Nat.reduceEqDiff, Nat.reduceLT, Nat.reduceAdd, Nat.reduceSub, Nat.reduceMul, reduceCtorEq, Nat.reduceBEq, Int.reduceEq, Int.reduceLT, Int.reduceLE, Int.reduceAdd, Int.reduceSub, Int.reduceToNat, UInt8.reduceToNat, Nat.reduceLeDiff]; rfl), by first | (simp only [go_sem, reduceIte, Nat.reduceEqDiff, Nat.reduceLT, Nat.reduceAdd, Nat.reduceSub, Nat.reduceMul, reduceCtorEq, Nat.reduceBEq, Int.reduceEq, Int.reduceLT, Int.reduceLE, Int.reduceAdd, Int.reduceSub, Int.reduceToNat, UInt8.reduceToNat, Nat.reduceLeDiff]; done) | (simp only [go_sem, reduceIte, Nat.reduceEqDiff, Nat.reduceLT, Nat.reduceAdd, Nat.reduceSub, Nat.reduceMul, reduceCtorEq, Nat.reduceBEq, Int.reduceEq, Int.reduceLT, Int.reduceLE, Int.reduceAdd, Int.reduceSub, Int.reduceToNat, UInt8.reduceToNat, Nat.reduceLeDiff]; rfl), by first | (simp only [go_sem, reduceIte, Nat.reduceEqDiff, Nat.reduceLT, Nat.reduceAdd, Nat.reduceSub, Nat.reduceMul, reduceCtorEq, Nat.reduceBEq, Int.reduceEq, Int.reduceLT, Int.reduceLE, Int.reduceAdd, Int.reduceSub, Int.reduceToNat, UInt8.reduceToNat, Nat.reduceLeDiff]; done) | (simp only [go_sem, reduceIte, Nat.reduceEqDiff, Nat.reduceLT, Nat.reduceAdd, Nat.reduceSub, Nat.reduceMul, reduceCtorEq, Nat.reduceBEq, Int.reduceEq, Int.reduceLT, Int.reduceLE, Int.reduceAdd, Int.reduceSub, Int.reduceToNat, UInt8.reduceToNat, Nat.reduceLeDiff]; rfl), by first | (simp only [go_sem, reduceIte, Nat.reduceEqDiff, Nat.reduceLT, Nat.reduceAdd, Nat.reduceSub, Nat.reduceMul, reduceCtorEq, Nat.reduceBEq, Int.reduceEq, Int.reduceLT, Int.reduceLE, Int.reduceAdd, Int.reduceSub, Int.reduceToNat, UInt8.reduceToNat, Nat.reduceLeDiff]; done) | (simp only [go_sem, reduceIte, Nat.reduceEqDiff, Nat.reduceLT, Nat.reduceAdd, Nat.reduceSub, Nat.reduceMul, reduceCtorEq, Nat.reduceBEq, Int.reduceEq, Int.reduceLT, Int.reduceLE, Int.reduceAdd, Int.reduceSub, Int.reduceToNat, UInt8.reduceToNat, Nat.reduceLeDiff]; rfl), by first | (simp only [go_sem, reduceIte, Nat.reduceEqDiff, Nat.reduceLT, Nat.reduceAdd, Nat.reduceSub, Nat.reduceMul, reduceCtorEq, Nat.reduceBEq, Int.reduceEq, Int.reduceLT, Int.reduceLE, Int.reduceAdd, Int.reduceSub, Int.reduceToNat, UInt8.reduceToNat, Nat.reduceLeDiff]; done) | (simp only [go_sem, reduceIte, Nat.reduceEqDiff, Nat.reduceLT, Nat.reduceAdd, Nat.reduceSub, Nat.reduceMul, reduceCtorEq, Nat.reduceBEq, Int.reduceEq, Int.reduceLT, Int.reduceLE, Int.reduceAdd, Int.reduceSub, Int.reduceToNat, UInt8.reduceToNat, Nat.reduceLeDiff]; rfl), by first | (simp only [go_sem, reduceIte, Nat.reduceEqDiff, Nat.reduceLT, Nat.reduceAdd, Nat.reduceSub, Nat.reduceMul, reduceCtorEq, Nat.reduceBEq, Int.reduceEq, Int.reduceLT, Int.reduceLE, Int.reduceAdd, Int.reduceSub, Int.reduceToNat, UInt8.reduceToNat, Nat.reduceLeDiff]; done) | (simp only [go_sem, reduceIte, Nat.reduceEqDiff, Nat.reduceLT, Nat.reduceAdd, Nat.reduceSub, Nat.reduceMul, reduceCtorEq, Nat.reduceBEq, Int.reduceEq, Int.reduceLT, Int.reduceLE, Int.reduceAdd, Int.reduceSub, Int.reduceToNat, UInt8.reduceToNat, Nat.reduceLeDiff]; rfl), by first | (simp only [go_sem, reduceIte, Nat.reduceEqDiff, Nat.reduceLT, Nat.reduceAdd, Nat.reduceSub, Nat.reduceMul, reduceCtorEq, Nat.reduceBEq, Int.reduceEq, Int.reduceLT, Int.reduceLE, Int.reduceAdd, Int.reduceSub, Int.reduceToNat, UInt8.reduceToNat, Nat.reduceLeDiff]; done) | (simp only [go_sem, reduceIte, Nat.reduceEqDiff, Nat.reduceLT, Nat.reduceAdd, Nat.reduceSub, Nat.reduceMul, reduceCtorEq, Nat.reduceBEq, Int.reduceEq, Int.reduceLT, Int.reduceLE, Int.reduceAdd, Int.reduceSub, Int.reduceToNat, UInt8.reduceToNat, Nat.reduceLeDiff]; rfl), by first | (simp only [go_sem, reduceIte, Nat.reduceEqDiff, Nat.reduceLT, Nat.reduceAdd, Nat.reduceSub, Nat.reduceMul, reduceCtorEq, Nat.reduceBEq, Int.reduceEq, Int.reduceLT, Int.reduceLE, Int.reduceAdd, Int.reduceSub, Int.reduceToNat, UInt8.reduceToNat, Nat.reduceLeDiff]; done) | (simp only [go_sem, reduceIte, Nat.reduceEqDiff, Nat.reduceLT, Nat.reduceAdd, Nat.reduceSub, Nat.reduceMul, reduceCtorEq, Nat.reduceBEq, Int.reduceEq, Int.reduceLT, Int.reduceLE, Int.reduceAdd, Int.reduceSub, Int.reduceToNat, UInt8.reduceToNat, Nat.reduceLeDiff]; rfl)⟩
    rintro _ tm h ⟨i, rfl, hi, hn, t2, t3, t40, t41, b1, b2, b3⟩
    generalize hx : r.steps.take 14 = l at *
    by_cases hlt : i < l.length
    · obtain ⟨s, hs⟩ : ∃ s, l[i]? = some s := ⟨_, List.getElem?_eq_getElem hlt⟩
      have g := mixS_get hs
      have c2 : ((mixS l i).flatMap stepC)[i * 5 + 2]? = some (.xsl s.args.length (s.args.map .str)) := by rw [getC_flat length_stepC _ _ _ (by omega), g]; rfl
      have c3 : ((mixS l i).flatMap stepC)[i * 5 + 3]? = some (.xsl s.lits.length (s.lits.map .str)) := by rw [getC_flat length_stepC _ _ _ (by omega), g]; rfl
      have ml : (mixS l i).length = l.length := by unfold mixS; simp; omega
      have fl : ((mixS l i).flatMap stepC).length = l.length * 5 := by rw [length_flat length_stepC, ml]
      have i2 : i * 5 + 2 < l.length * 5 := by omega
      have i3 : i * 5 + 3 < l.length * 5 := by omega
      have i21 : i * 5 + 2 + 1 ≤ l.length * 5 := by omega
      have i31 : i * 5 + 3 + 1 ≤ l.length * 5 := by omega
      simp only [go_sem, reduceIte, Nat.reduceEqDiff, Nat.reduceLT, Nat.reduceAdd, Nat.reduceSub, Nat.reduceMul, reduceCtorEq, Nat.reduceBEq, Int.reduceEq, Int.reduceLT, Int.reduceLE, Int.reduceAdd, Int.reduceSub, Int.reduceToNat, UInt8.reduceToNat, Nat.reduceLeDiff, hn, t2, t3, t40, t41, b1, b2, b3, hlt]
      (refine Wdraw_mk [] (ps := [(4, 38), (33, 38), (34, 38)]) (by kernel_rfl) (by kernel_rfl) ?_)
      simp only [go_sem, reduceIte, Nat.reduceEqDiff, Nat.reduceLT, Nat.reduceAdd, Nat.reduceSub, Nat.reduceMul, reduceCtorEq, Nat.reduceBEq, Int.reduceEq, Int.reduceLT, Int.reduceLE, Int.reduceAdd, Int.reduceSub, Int.reduceToNat, UInt8.reduceToNat, Nat.reduceLeDiff, hn, t2, t3, t40, t41, b1, b2, b3, hlt, c2, c3, sliceL_one, fl, i2, i3, i21, i31, List.length_set]
      have e1 : ((mixS l i).flatMap stepC).set (i * 5 + 2) (.xsl (s.args.take 8).length ((s.args.take 8).map .str)) = ((mixS l i).set i { s with args := s.args.take 8 }).flatMap stepC := setC_flat length_stepC _ _ _ (by omega) s _ _ g rfl
      have e2 : (((mixS l i).set i { s with args := s.args.take 8 }).flatMap stepC).set (i * 5 + 3) (.xsl (s.lits.take 3).length ((s.lits.take 3).map .str)) = (((mixS l i).set i { s with args := s.args.take 8 }).set i (trimS s)).flatMap stepC := setC_flat length_stepC _ _ _ (by omega) { s with args := s.args.take 8 } _ _ (by rw [List.getElem?_set_self (by omega)]) rfl
      rw [wrapI_in (by omega) (by omega)]
      refine Again.mk (l.length - (i + 1)) (by omega) ⟨i + 1, rfl, hlt, by first | (simp only [go_sem, reduceIte, Nat.reduceEqDiff, Nat.reduceLT, Nat.reduceAdd, Nat.reduceSub, Nat.reduceMul, reduceCtorEq, Nat.reduceBEq, Int.reduceEq, Int.reduceLT, Int.reduceLE, Int.reduceAdd, Int.reduceSub, Int.reduceToNat, UInt8.reduceToNat, Nat.reduceLeDiff, hn]; done) | (simp only [go_sem, reduceIte, Nat.reduceEqDiff, Nat.reduceLT, Nat.reduceAdd, Nat.reduceSub, Nat.reduceMul, reduceCtorEq, Nat.reduceBEq, Int.reduceEq, Int.reduceLT, Int.reduceLE, Int.reduceAdd, Int.reduceSub, Int.reduceToNat, UInt8.reduceToNat, Nat.reduceLeDiff, hn]; rfl), by first | (simp only [go_sem, reduceIte, Nat.reduceEqDiff, Nat.reduceLT, Nat.reduceAdd, Nat.reduceSub, Nat.reduceMul, reduceCtorEq, Nat.reduceBEq, Int.reduceEq, Int.reduceLT, Int.reduceLE, Int.reduceAdd, Int.reduceSub, Int.reduceToNat, UInt8.reduceToNat, Nat.reduceLeDiff, t2]; done) | (simp only [go_sem, reduceIte, Nat.reduceEqDiff, Nat.reduceLT, Nat.reduceAdd, Nat.reduceSub, Nat.reduceMul, reduceCtorEq, Nat.reduceBEq, Int.reduceEq, Int.reduceLT, Int.reduceLE, Int.reduceAdd, Int.reduceSub, Int.reduceToNat, UInt8.reduceToNat, Nat.reduceLeDiff, t2]; rfl), by first | (simp only [go_sem, reduceIte, Nat.reduceEqDiff, Nat.reduceLT, Nat.reduceAdd, Nat.reduceSub, Nat.reduceMul, reduceCtorEq, Nat.reduceBEq, Int.reduceEq, Int.reduceLT, Int.reduceLE, Int.reduceAdd, Int.reduceSub, Int.reduceToNat, UInt8.reduceToNat, Nat.reduceLeDiff, t3]; done) | (simp only [go_sem, reduceIte, Nat.reduceEqDiff, Nat.reduceLT, Nat.reduceAdd, Nat.reduceSub, Nat.reduceMul, reduceCtorEq, Nat.reduceBEq, Int.reduceEq, Int.reduceLT, Int.reduceLE, Int.reduceAdd, Int.reduceSub, Int.reduceToNat, UInt8.reduceToNat, Nat.reduceLeDiff, t3]; rfl), by first | (simp only [go_sem, reduceIte, Nat.reduceEqDiff, Nat.reduceLT, Nat.reduceAdd, Nat.reduceSub, Nat.reduceMul, reduceCtorEq, Nat.reduceBEq, Int.reduceEq, Int.reduceLT, Int.reduceLE, Int.reduceAdd, Int.reduceSub, Int.reduceToNat, UInt8.reduceToNat, Nat.reduceLeDiff, t40]; done) | (simp only [go_sem, reduceIte, Nat.reduceEqDiff, Nat.reduceLT, Nat.reduceAdd, Nat.reduceSub, Nat.reduceMul, reduceCtorEq, Nat.reduceBEq, Int.reduceEq, Int.reduceLT, Int.reduceLE, Int.reduceAdd, Int.reduceSub, Int.reduceToNat, UInt8.reduceToNat, Nat.reduceLeDiff, t40]; rfl), by first | (simp only [go_sem, reduceIte, Nat.reduceEqDiff, Nat.reduceLT, Nat.reduceAdd, Nat.reduceSub, Nat.reduceMul, reduceCtorEq, Nat.reduceBEq, Int.reduceEq, Int.reduceLT, Int.reduceLE, Int.reduceAdd, Int.reduceSub, Int.reduceToNat, UInt8.reduceToNat, Nat.reduceLeDiff]; done) | (simp only [go_sem, reduceIte, Nat.reduceEqDiff, Nat.reduceLT, Nat.reduceAdd, Nat.reduceSub, Nat.reduceMul, reduceCtorEq, Nat.reduceBEq, Int.reduceEq, Int.reduceLT, Int.reduceLE, Int.reduceAdd, Int.reduceSub, Int.reduceToNat, UInt8.reduceToNat, Nat.reduceLeDiff]; rfl), by first | (simp only [go_sem, reduceIte, Nat.reduceEqDiff, Nat.reduceLT, Nat.reduceAdd, Nat.reduceSub, Nat.reduceMul, reduceCtorEq, Nat.reduceBEq, Int.reduceEq, Int.reduceLT, Int.reduceLE, Int.reduceAdd, Int.reduceSub, Int.reduceToNat, UInt8.reduceToNat, Nat.reduceLeDiff, b1]; done) | (simp only [go_sem, reduceIte, Nat.reduceEqDiff, Nat.reduceLT, Nat.reduceAdd, Nat.reduceSub, Nat.reduceMul, reduceCtorEq, Nat.reduceBEq, Int.reduceEq, Int.reduceLT, Int.reduceLE, Int.reduceAdd, Int.reduceSub, Int.reduceToNat, UInt8.reduceToNat, Nat.reduceLeDiff, b1]; rfl), by first | (simp only [go_sem, reduceIte, Nat.reduceEqDiff, Nat.reduceLT, Nat.reduceAdd, Nat.reduceSub, Nat.reduceMul, reduceCtorEq, Nat.reduceBEq, Int.reduceEq, Int.reduceLT, Int.reduceLE, Int.reduceAdd, Int.reduceSub, Int.reduceToNat, UInt8.reduceToNat, Nat.reduceLeDiff, b2]; done) | (simp only [go_sem, reduceIte, Nat.reduceEqDiff, Nat.reduceLT, Nat.reduceAdd, Nat.reduceSub, Nat.reduceMul, reduceCtorEq, Nat.reduceBEq, Int.reduceEq, Int.reduceLT, Int.reduceLE, Int.reduceAdd, Int.reduceSub, Int.reduceToNat, UInt8.reduceToNat, Nat.reduceLeDiff, b2]; rfl), ?_⟩
      rw [← mixS_set hs]
      simp only [go_sem, reduceIte, Nat.reduceEqDiff, Nat.reduceLT, Nat.reduceAdd, Nat.reduceSub, Nat.reduceMul, reduceCtorEq, Nat.reduceBEq, Int.reduceEq, Int.reduceLT, Int.reduceLE, Int.reduceAdd, Int.reduceSub, Int.reduceToNat, UInt8.reduceToNat, Nat.reduceLeDiff, e1, e2, List.set_set]
    · obtain rfl : i = l.length := by omega
      simp only [go_sem, reduceIte, Nat.reduceEqDiff, Nat.reduceLT, Nat.reduceAdd, Nat.reduceSub, Nat.reduceMul, reduceCtorEq, Nat.reduceBEq, Int.reduceEq, Int.reduceLT, Int.reduceLE, Int.reduceAdd, Int.reduceSub, Int.reduceToNat, UInt8.reduceToNat, Nat.reduceLeDiff, hn, t2, t3, t40, t41, b1, b2, b3, hlt]
      refine resQ.cell E0_ok rfl (by first | (simp only [go_sem, reduceIte, Nat.reduceEqDiff, Nat.reduceLT, Nat.reduceAdd, Nat.reduceSub, Nat.reduceMul, reduceCtorEq, Nat.reduceBEq, Int.reduceEq, Int.reduceLT, Int.reduceLE, Int.reduceAdd, Int.reduceSub, Int.reduceToNat, UInt8.reduceToNat, Nat.reduceLeDiff, t2]; done) | (simp only [go_sem, reduceIte, Nat.reduceEqDiff, Nat.reduceLT, Nat.reduceAdd, Nat.reduceSub, Nat.reduceMul, reduceCtorEq, Nat.reduceBEq, Int.reduceEq, Int.reduceLT, Int.reduceLE, Int.reduceAdd, Int.reduceSub, Int.reduceToNat, UInt8.reduceToNat, Nat.reduceLeDiff, t2]; rfl)) (CV.last (pre := [.str r.name, xs (r.ins.take 10), xs (r.outs.take 6), xs (r.after.take 10)]) (by simp [roVs, roV, roV_xs, roVs_append, roV_steps, roV_vals, roV_rules, roV_stepV, roV_ruleV, roV_valV, roVs_stepC, roVs_valC, roVs_ruleC, roVs_strs, *]) (CV.freeze (k := l.length * 5) (by simp only [go_sem, reduceIte, Nat.reduceEqDiff, Nat.reduceLT, Nat.reduceAdd, Nat.reduceSub, Nat.reduceMul, reduceCtorEq, Nat.reduceBEq, Int.reduceEq, Int.reduceLT, Int.reduceLE, Int.reduceAdd, Int.reduceSub, Int.reduceToNat, UInt8.reduceToNat, Nat.reduceLeDiff, b3]; rfl))) ?_
      have e : mixS l l.length = l.map trimS := by unfold mixS; simp
      have e2 : ((l.map trimS).flatMap stepC).take (l.length * 5) = (l.map trimS).flatMap stepC := List.take_of_length_le (by rw [length_flat length_stepC]; simp)
      simp only [Is, ruleV, ruleC, trimR, trim1, hx, e, e2, List.drop_zero, List.length_map, xs]; rfl
end Go.Ev
