/- Contracts of law1.Short, of step.of at a concat, and StepConcat, given that of strings.Join. Conditions: lengths below two million. -/
import Derived.Test.YtkoijkcjnppamaaGreatDoorXc
/- law1.Short; step.of at a concat, over strings.Join. -/
namespace Go.Ev
open Go.Proofs
set_option autoImplicit false
set_option linter.unusedVariables false
set_option linter.unusedSimpArgs false
set_option maxRecDepth 20000

theorem min_nat_nat (n m : Nat) : (if m < n then (m : Int) else n) = ((min n m : Nat) : Int) := by split <;> omega

theorem short_ok (b : Str) (n : Nat) : Pc Tryz.prog 37 [.str b, .int .i64 n] (.str (b.take n)) := by
  intro B w0
  refine CallOK.fn E0_ok fn37 rfl 11 rfl ?_
  have e : List.take (min b.length n) b = b.take n := by rw [Nat.min_comm, ← List.take_eq_take_min]
  simp only [go_sem, reduceIte, Nat.reduceEqDiff, Nat.reduceLT, Nat.reduceAdd, Nat.reduceSub, Nat.reduceMul, reduceCtorEq, Nat.reduceBEq, Int.reduceEq, Int.reduceLT, Int.reduceLE, Int.reduceAdd, Int.reduceSub, Int.reduceToNat, UInt8.reduceToNat, Nat.reduceLeDiff, min_nat_nat, e]
  (refine resQ.one E0_ok rfl rfl (CV.refl _ _) ?_; simp only [go_sem, reduceIte, Nat.reduceEqDiff, Nat.reduceLT, Nat.reduceAdd, Nat.reduceSub, Nat.reduceMul, reduceCtorEq, Nat.reduceBEq, Int.reduceEq, Int.reduceLT, Int.reduceLE, Int.reduceAdd, Int.reduceSub, Int.reduceToNat, UInt8.reduceToNat, Nat.reduceLeDiff, Is])

/-- strings.Join without a separator -/
def JoinOK (P : Program) (f : FuncId) : Prop := ∀ l : List Str, l.length < 2000000 → l.flatten.length < 2000000000 → Pc P f [xs l, .str []] (.str l.flatten)

theorem of_concat (hj : JoinOK Tryz.prog 103) (s : RStep) (hop : s.op = 5) (l : List Str) (h1 : l.length < 2000000) (h2 : l.flatten.length < 2000000000) : Pc Tryz.prog 72 [stepV s, xs l] (.tup [.str l.flatten, .bool true]) := by
  intro B w0
  refine CallOK.fn E0_ok fn72 rfl 86 rfl ?_
  simp only [go_sem, reduceIte, Nat.reduceEqDiff, Nat.reduceLT, Nat.reduceAdd, Nat.reduceSub, Nat.reduceMul, reduceCtorEq, Nat.reduceBEq, Int.reduceEq, Int.reduceLT, Int.reduceLE, Int.reduceAdd, Int.reduceSub, Int.reduceToNat, UInt8.reduceToNat, Nat.reduceLeDiff, hop]
  (refine Pc.use (hj l h1 h2) (by simp [roVs, roV, roV_xs, roVs_append, roV_steps, roV_vals, roV_rules, roV_stepV, roV_ruleV, roV_valV, roVs_stepC, roVs_valC, roVs_ruleC, roVs_strs, *]) (by simp [roVs, roV, roV_xs, roVs_append, roV_steps, roV_vals, roV_rules, roV_stepV, roV_ruleV, roV_valV, roVs_stepC, roVs_valC, roVs_ruleC, roVs_strs, *]) ?_)
  simp only [go_sem, reduceIte, Nat.reduceEqDiff, Nat.reduceLT, Nat.reduceAdd, Nat.reduceSub, Nat.reduceMul, reduceCtorEq, Nat.reduceBEq, Int.reduceEq, Int.reduceLT, Int.reduceLE, Int.reduceAdd, Int.reduceSub, Int.reduceToNat, UInt8.reduceToNat, Nat.reduceLeDiff]
  (refine resQ.two E0_ok rfl rfl rfl (CV.refl _ _) ?_; simp only [go_sem, reduceIte, Nat.reduceEqDiff, Nat.reduceLT, Nat.reduceAdd, Nat.reduceSub, Nat.reduceMul, reduceCtorEq, Nat.reduceBEq, Int.reduceEq, Int.reduceLT, Int.reduceLE, Int.reduceAdd, Int.reduceSub, Int.reduceToNat, UInt8.reduceToNat, Nat.reduceLeDiff, Is])

theorem do_concat (hj : JoinOK Tryz.prog 103) (names : List Str) (bs : List Str) (hn : names.length = bs.length) (hb : bs.length ≤ 6) (hl : bs.flatten.length ≤ 2000) :
    Pc Tryz.prog 47 [stepV ⟨[120], 5, names, [], 0⟩, vals (bs.map fun b => ⟨true, b⟩)] (valV ⟨true, bs.flatten⟩) := by
  have hm : mayB ⟨[120], 5, names, [], 0⟩ = true := by
    simp only [mayB, countsI, hn]
    simp
    omega
  have e1 : (bs.map fun b => (⟨true, b⟩ : RVal)).map (·.b) = bs := by simp [List.map_map, Function.comp_def]
  have e2 : (bs.map fun b => (⟨true, b⟩ : RVal)).all (·.ok) = true := by simp
  have := do_ok (fun _ l => (l.flatten, true)) ⟨[120], 5, names, [], 0⟩ ⟨by simp only; omega, by simp⟩ (bs.map fun b => ⟨true, b⟩) (fun _ _ _ => by
    rw [e1]; exact of_concat hj _ rfl bs (by omega) (by omega))
  have e3 : doV (fun _ l => (l.flatten, true)) ⟨[120], 5, names, [], 0⟩ (bs.map fun b => ⟨true, b⟩) = ⟨true, bs.flatten⟩ := by
    unfold doV
    rw [hm, e2, e1]
    simp only [List.length_map, hn, decide_true, Bool.and_self, Bool.true_and, if_true, hl]
  rw [e3] at this
  exact this

theorem Pc.fdL {P : Program} {B : Nat} {w0 : World} {f : FuncId} {args args' : List AV} {v : AV} {h : AH} (hc : Pc P f args' v) (ha : VWs B w0 h args args') (hv : lessV v = true) : Fd P B w0 f args h v h :=
  hc.viewL ha hv ⟨rfl, rfl⟩

theorem stepConcat_ok (hj : JoinOK Tryz.prog 103) (a b c : Str) : Pc Tryz.prog 11 [.str a, .str b, .str c] (.bool true) := by
  intro B w0
  refine CallOK.fn E0_ok fn11 rfl 66 rfl ?_
  have hs := fun x => short_ok x 600
  simp only [go_sem, reduceIte, Nat.reduceEqDiff, Nat.reduceLT, Nat.reduceAdd, Nat.reduceSub, Nat.reduceMul, reduceCtorEq, Nat.reduceBEq, Int.reduceEq, Int.reduceLT, Int.reduceLE, Int.reduceAdd, Int.reduceSub, Int.reduceToNat, UInt8.reduceToNat, Nat.reduceLeDiff]
  (refine Pc.use (begun_pc) (by simp [roVs, roV, roV_xs, roVs_append, roV_steps, roV_vals, roV_rules, roV_stepV, roV_ruleV, roV_valV, roVs_stepC, roVs_valC, roVs_ruleC, roVs_strs, *]) (by simp [roVs, roV, roV_xs, roVs_append, roV_steps, roV_vals, roV_rules, roV_stepV, roV_ruleV, roV_valV, roVs_stepC, roVs_valC, roVs_ruleC, roVs_strs, *]) ?_)
  simp only [go_sem, reduceIte, Nat.reduceEqDiff, Nat.reduceLT, Nat.reduceAdd, Nat.reduceSub, Nat.reduceMul, reduceCtorEq, Nat.reduceBEq, Int.reduceEq, Int.reduceLT, Int.reduceLE, Int.reduceAdd, Int.reduceSub, Int.reduceToNat, UInt8.reduceToNat, Nat.reduceLeDiff]
  (refine Pc.use (hs a) (by simp [roVs, roV, roV_xs, roVs_append, roV_steps, roV_vals, roV_rules, roV_stepV, roV_ruleV, roV_valV, roVs_stepC, roVs_valC, roVs_ruleC, roVs_strs, *]) (by simp [roVs, roV, roV_xs, roVs_append, roV_steps, roV_vals, roV_rules, roV_stepV, roV_ruleV, roV_valV, roVs_stepC, roVs_valC, roVs_ruleC, roVs_strs, *]) ?_)
  simp only [go_sem, reduceIte, Nat.reduceEqDiff, Nat.reduceLT, Nat.reduceAdd, Nat.reduceSub, Nat.reduceMul, reduceCtorEq, Nat.reduceBEq, Int.reduceEq, Int.reduceLT, Int.reduceLE, Int.reduceAdd, Int.reduceSub, Int.reduceToNat, UInt8.reduceToNat, Nat.reduceLeDiff]
  (refine Pc.use (hs b) (by simp [roVs, roV, roV_xs, roVs_append, roV_steps, roV_vals, roV_rules, roV_stepV, roV_ruleV, roV_valV, roVs_stepC, roVs_valC, roVs_ruleC, roVs_strs, *]) (by simp [roVs, roV, roV_xs, roVs_append, roV_steps, roV_vals, roV_rules, roV_stepV, roV_ruleV, roV_valV, roVs_stepC, roVs_valC, roVs_ruleC, roVs_strs, *]) ?_)
  simp only [go_sem, reduceIte, Nat.reduceEqDiff, Nat.reduceLT, Nat.reduceAdd, Nat.reduceSub, Nat.reduceMul, reduceCtorEq, Nat.reduceBEq, Int.reduceEq, Int.reduceLT, Int.reduceLE, Int.reduceAdd, Int.reduceSub, Int.reduceToNat, UInt8.reduceToNat, Nat.reduceLeDiff]
  (refine Pc.use (hs c) (by simp [roVs, roV, roV_xs, roVs_append, roV_steps, roV_vals, roV_rules, roV_stepV, roV_ruleV, roV_valV, roVs_stepC, roVs_valC, roVs_ruleC, roVs_strs, *]) (by simp [roVs, roV, roV_xs, roVs_append, roV_steps, roV_vals, roV_rules, roV_stepV, roV_ruleV, roV_valV, roVs_stepC, roVs_valC, roVs_ruleC, roVs_strs, *]) ?_)
  simp only [go_sem, reduceIte, Nat.reduceEqDiff, Nat.reduceLT, Nat.reduceAdd, Nat.reduceSub, Nat.reduceMul, reduceCtorEq, Nat.reduceBEq, Int.reduceEq, Int.reduceLT, Int.reduceLE, Int.reduceAdd, Int.reduceSub, Int.reduceToNat, UInt8.reduceToNat, Nat.reduceLeDiff]
  have la : (a.take 600).length ≤ 600 := by rw [List.length_take]; omega
  have lb : (b.take 600).length ≤ 600 := by rw [List.length_take]; omega
  have lc : (c.take 600).length ≤ 600 := by rw [List.length_take]; omega
  generalize a.take 600 = a at *
  generalize b.take 600 = b at *
  generalize c.take 600 = c at *
  refine (do_concat hj [[112], [113], [114]] [a, b, c] rfl (by simp) (by simp only [List.flatten_cons, List.flatten_nil, List.length_append, List.length_nil]; omega)).viewL
    (VWs.cons (VW.agg (VWs.cons (VW.ro rfl) (VWs.cons (VW.ro rfl) (VWs.cons (VW.sl (l := [.str [112], .str [113], .str [114]]) (t := 9) (lo := 0) (hi := 0) (op := none) ?h1 3 (VWs.ro rfl)) (VWs.cons VW.nsl (VWs.cons (VW.ro rfl) VWs.nil))))))
      (VWs.cons (VW.sl (l := [.bool true, .str a, .bool true, .str b, .bool true, .str c]) (t := 34) (lo := 0) (hi := 0) (op := none) ?h2 6 (VWs.ro rfl)) VWs.nil)) rfl ?_
  case h1 => simp only [go_sem, reduceIte, Nat.reduceEqDiff, Nat.reduceLT, Nat.reduceAdd, Nat.reduceSub, Nat.reduceMul, reduceCtorEq, Nat.reduceBEq, Int.reduceEq, Int.reduceLT, Int.reduceLE, Int.reduceAdd, Int.reduceSub, Int.reduceToNat, UInt8.reduceToNat, Nat.reduceLeDiff]
  case h2 => simp only [go_sem, reduceIte, Nat.reduceEqDiff, Nat.reduceLT, Nat.reduceAdd, Nat.reduceSub, Nat.reduceMul, reduceCtorEq, Nat.reduceBEq, Int.reduceEq, Int.reduceLT, Int.reduceLE, Int.reduceAdd, Int.reduceSub, Int.reduceToNat, UInt8.reduceToNat, Nat.reduceLeDiff]
  have e1 : [a, b, c].flatten = a ++ b ++ c := by simp
  have h1 : a.length + b.length < 1000000 := by omega
  have h2 : (a ++ b).length + c.length < 1000000 := by rw [List.length_append]; omega
  rw [retW_eq, e1]
  simp only [go_sem, reduceIte, Nat.reduceEqDiff, Nat.reduceLT, Nat.reduceAdd, Nat.reduceSub, Nat.reduceMul, reduceCtorEq, Nat.reduceBEq, Int.reduceEq, Int.reduceLT, Int.reduceLE, Int.reduceAdd, Int.reduceSub, Int.reduceToNat, UInt8.reduceToNat, Nat.reduceLeDiff]
  (refine Wdraw_mk [] (ps := [(9, 13), (9, 14), (9, 16), (10, 13), (15, 13), (15, 14), (18, 13), (18, 14), (18, 16), (18, 17)]) (by kernel_rfl) (by kernel_rfl) ?_)
  simp only [go_sem, reduceIte, Nat.reduceEqDiff, Nat.reduceLT, Nat.reduceAdd, Nat.reduceSub, Nat.reduceMul, reduceCtorEq, Nat.reduceBEq, Int.reduceEq, Int.reduceLT, Int.reduceLE, Int.reduceAdd, Int.reduceSub, Int.reduceToNat, UInt8.reduceToNat, Nat.reduceLeDiff, h1, h2]
  have l2 : (a ++ b).length ≤ 1200 := by rw [List.length_append]; omega
  refine DrC.use ((do_concat hj [[112], [113]] [a, b] rfl (by simp) (by simp only [List.flatten_cons, List.flatten_nil, List.length_append, List.length_nil]; omega)).fdL
    (VWs.cons (VW.agg (VWs.cons (VW.ro rfl) (VWs.cons (VW.ro rfl) (VWs.cons (VW.sl (l := [.str [112], .str [113]]) (t := 9) (lo := 0) (hi := 0) (op := none) ?h1 2 (VWs.ro rfl)) (VWs.cons VW.nsl (VWs.cons (VW.ro rfl) VWs.nil))))))
      (VWs.cons (VW.sl (l := [.bool true, .str a, .bool true, .str b]) (t := 34) (lo := 0) (hi := 0) (op := none) ?h2 4 (VWs.ro rfl)) VWs.nil)) rfl) ?_
  case h1 => simp only [go_sem, reduceIte, Nat.reduceEqDiff, Nat.reduceLT, Nat.reduceAdd, Nat.reduceSub, Nat.reduceMul, reduceCtorEq, Nat.reduceBEq, Int.reduceEq, Int.reduceLT, Int.reduceLE, Int.reduceAdd, Int.reduceSub, Int.reduceToNat, UInt8.reduceToNat, Nat.reduceLeDiff]
  case h2 => simp only [go_sem, reduceIte, Nat.reduceEqDiff, Nat.reduceLT, Nat.reduceAdd, Nat.reduceSub, Nat.reduceMul, reduceCtorEq, Nat.reduceBEq, Int.reduceEq, Int.reduceLT, Int.reduceLE, Int.reduceAdd, Int.reduceSub, Int.reduceToNat, UInt8.reduceToNat, Nat.reduceLeDiff]
  have e2 : [a, b].flatten = a ++ b := by simp
  rw [e2]
  simp only [go_sem, reduceIte, Nat.reduceEqDiff, Nat.reduceLT, Nat.reduceAdd, Nat.reduceSub, Nat.reduceMul, reduceCtorEq, Nat.reduceBEq, Int.reduceEq, Int.reduceLT, Int.reduceLE, Int.reduceAdd, Int.reduceSub, Int.reduceToNat, UInt8.reduceToNat, Nat.reduceLeDiff]
  refine DrC.use ((do_concat hj [[112], [113]] [a ++ b, c] rfl (by simp) (by simp only [List.flatten_cons, List.flatten_nil, List.length_append, List.length_nil]; omega)).fdL
    (VWs.cons (VW.agg (VWs.cons (VW.ro rfl) (VWs.cons (VW.ro rfl) (VWs.cons (VW.sl (l := [.str [112], .str [113]]) (t := 9) (lo := 0) (hi := 0) (op := none) ?h1 2 (VWs.ro rfl)) (VWs.cons VW.nsl (VWs.cons (VW.ro rfl) VWs.nil))))))
      (VWs.cons (VW.sl (l := [.bool true, .str (a ++ b), .bool true, .str c]) (t := 34) (lo := 0) (hi := 0) (op := none) ?h2 4 (VWs.ro rfl)) VWs.nil)) rfl) ?_
  case h1 => simp only [go_sem, reduceIte, Nat.reduceEqDiff, Nat.reduceLT, Nat.reduceAdd, Nat.reduceSub, Nat.reduceMul, reduceCtorEq, Nat.reduceBEq, Int.reduceEq, Int.reduceLT, Int.reduceLE, Int.reduceAdd, Int.reduceSub, Int.reduceToNat, UInt8.reduceToNat, Nat.reduceLeDiff]
  case h2 => simp only [go_sem, reduceIte, Nat.reduceEqDiff, Nat.reduceLT, Nat.reduceAdd, Nat.reduceSub, Nat.reduceMul, reduceCtorEq, Nat.reduceBEq, Int.reduceEq, Int.reduceLT, Int.reduceLE, Int.reduceAdd, Int.reduceSub, Int.reduceToNat, UInt8.reduceToNat, Nat.reduceLeDiff]
  have e3 : [a ++ b, c].flatten = a ++ b ++ c := by simp
  rw [e3]
  simp only [go_sem, reduceIte, Nat.reduceEqDiff, Nat.reduceLT, Nat.reduceAdd, Nat.reduceSub, Nat.reduceMul, reduceCtorEq, Nat.reduceBEq, Int.reduceEq, Int.reduceLT, Int.reduceLE, Int.reduceAdd, Int.reduceSub, Int.reduceToNat, UInt8.reduceToNat, Nat.reduceLeDiff]
  refine DrC.use ((do_concat hj [] [] rfl (by simp) (by simp)).fdL
    (VWs.cons (VW.agg (VWs.cons (VW.ro rfl) (VWs.cons (VW.ro rfl) (VWs.cons VW.nsl (VWs.cons VW.nsl (VWs.cons (VW.ro rfl) VWs.nil)))))) (VWs.cons VW.nsl VWs.nil)) rfl) ?_
  have e4 : ([] : List Str).flatten = [] := rfl
  rw [e4]
  simp only [go_sem, reduceIte, Nat.reduceEqDiff, Nat.reduceLT, Nat.reduceAdd, Nat.reduceSub, Nat.reduceMul, reduceCtorEq, Nat.reduceBEq, Int.reduceEq, Int.reduceLT, Int.reduceLE, Int.reduceAdd, Int.reduceSub, Int.reduceToNat, UInt8.reduceToNat, Nat.reduceLeDiff]
  (refine resQ.one E0_ok rfl rfl (CV.refl _ _) ?_; simp only [go_sem, reduceIte, Nat.reduceEqDiff, Nat.reduceLT, Nat.reduceAdd, Nat.reduceSub, Nat.reduceMul, reduceCtorEq, Nat.reduceBEq, Int.reduceEq, Int.reduceLT, Int.reduceLE, Int.reduceAdd, Int.reduceSub, Int.reduceToNat, UInt8.reduceToNat, Nat.reduceLeDiff, Is])
end Go.Ev
