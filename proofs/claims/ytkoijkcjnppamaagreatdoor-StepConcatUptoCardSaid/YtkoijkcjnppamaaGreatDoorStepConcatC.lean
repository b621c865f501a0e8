/- StepConcat in the second form. Condition: what it reads is of bulk at most 1048576. -/
import Derived.Test.YtkoijkcjnppamaaGreatDoorXe
import Derived.Test.YtkoijkcjnppamaaGreatDoorOp1
import Derived.Test.YtkoijkcjnppamaaGreatDoorWi1
import Derived.Test.YtkoijkcjnppamaaGreatDoorStepConcatF
/- StepConcat: the second form, and its card. -/
namespace Go.Proofs.YtkoijkcjnppamaaGreatDoor.StepConcat
open Go Go.ChangeShapes Go.WideShapes Go.ChangeAt Go.RowKit
set_option maxRecDepth 100000
set_option linter.unusedVariables false

theorem contract (H : Type) (enc : TypeId × Value → H) (W : World) (base : Nat) (args : Array Value) (ds gs : List (DataW H)) (before : List MemPlace)
    (hval : ∀ (j : Nat) t v, Tryz.f11.params[j]? = some t → args[j]? = some v → Value.okWide Tryz.prog W .any base t v)
    (hW : DataW.Whole enc Tryz.prog Tryz.f11.params.toList Rows.stepConcatSpec.vars false W args.toList ds gs before) (hk : Rows.uptoSmall H (ds ++ gs) = true) :
    Calls Tryz.prog 11 args W fun e W' => ∃ v, e = .returned v ∧ Rows.stepConcatSpec.post enc Tryz.prog Tryz.f11 false true false false W args v W' := by
  have hW' := hW
  obtain ⟨p, q, hA0, hV, rfl, hfz, hnd⟩ := hW
  have hA : DataW.TrodAll enc Tryz.prog W 0 (fun _ => true) true Tryz.f11.params.toList args.toList ds p := hA0
  rw [Tryz.params11] at hA hval
  obtain ⟨v0, vs0, d0, ds0, p0, q0, hargs, rfl, rfl, h0, r0⟩ := trodAll_cons hA
  obtain ⟨v1, vs1, d1, ds1, p1, q1, rfl, rfl, rfl, h1, r1⟩ := trodAll_cons r0
  obtain ⟨v2, vs2, d2, ds2, p2, q2, rfl, rfl, rfl, h2, r2⟩ := trodAll_cons r1
  obtain ⟨rfl, rfl, rfl⟩ := trodAll_nil r2
  obtain rfl : args = #[v0, v1, v2] := by cases args; simp_all
  obtain ⟨rfl, rfl⟩ := trodVars_none hV
  clear hA0
  simp only [List.append_nil] at hW' hk
  have hlt := hW'.lt
  have hbulk : Rows.uptoBulkAll [d0, d1, d2] ≤ 1048576 := of_decide_eq_true hk
  obtain ⟨x0, rfl⟩ := okWide_string Tryz.underlying9 (hval 0 9 v0 rfl rfl)
  obtain ⟨a0, e0, s0⟩ := (Go.Ev.o_str W).one rfl h0
  have b0 : Go.Ev.bk H d0 ≤ 1048576 := Nat.le_trans (Go.Ev.bk_part (by simp)) hbulk
  obtain ⟨x1, rfl⟩ := okWide_string Tryz.underlying9 (hval 1 9 v1 rfl rfl)
  obtain ⟨a1, e1, s1⟩ := (Go.Ev.o_str W).one rfl h1
  have b1 : Go.Ev.bk H d1 ≤ 1048576 := Nat.le_trans (Go.Ev.bk_part (by simp)) hbulk
  obtain ⟨x2, rfl⟩ := okWide_string Tryz.underlying9 (hval 2 9 v2 rfl rfl)
  obtain ⟨a2, e2, s2⟩ := (Go.Ev.o_str W).one rfl h2
  have b2 : Go.Ev.bk H d2 ≤ 1048576 := Nat.le_trans (Go.Ev.bk_part (by simp)) hbulk
  have walk := Go.Ev.Pc.run (W := W) (Go.Ev.stepConcat_true a0 a1 a2) rfl (by simp only [Go.Ev.RVs]; exact ⟨_, _, rfl, e0, ⟨_, _, rfl, e1, ⟨_, _, rfl, e2, rfl⟩⟩⟩)
  refine walk.mono fun e W' ⟨u, he, hu, hb⟩ => ?_
  subst he
  simp only [Go.Ev.RV] at hu
  subst hu
  refine ⟨_, rfl, _, _, _, [], p0 ++ (p1 ++ (p2 ++ [])), [], hW', ?_, ?_, ?_, hb.frame _, fun h => by cases h⟩
  · exact trodAll_cons_mk (shut_bool Tryz.underlying4 _) trodAll_mk0
  · exact trodAll_cons_mk (Below.trod Go.Ev.laidOut (by kernel_rfl) (of_decide_eq_true (by kernel_rfl)) h0 hb (fun x hx => hlt x (by simp [hx]))) (trodAll_cons_mk (Below.trod Go.Ev.laidOut (by kernel_rfl) (of_decide_eq_true (by kernel_rfl)) h1 hb (fun x hx => hlt x (by simp [hx]))) (trodAll_cons_mk (Below.trod Go.Ev.laidOut (by kernel_rfl) (of_decide_eq_true (by kernel_rfl)) h2 hb (fun x hx => hlt x (by simp [hx]))) trodAll_mk0))
  · rfl

end Go.Proofs.YtkoijkcjnppamaaGreatDoor.StepConcat
/- StepConcat: an input that meets the premise. -/
namespace Go.Proofs.YtkoijkcjnppamaaGreatDoor.StepConcat
open Go Go.ChangeShapes Go.WideShapes Go.ChangeAt Go.RowKit
set_option maxRecDepth 100000
set_option linter.unusedVariables false

theorem reads (os : Os) {H : Type} (enc : TypeId × Value → H) : ∃ places, DataW.whole enc Tryz.prog ((laidWorld os).forCall (fun _ _ => 0) ⟨#[], #[.string .empty, .string .empty, .string .empty], []⟩).memory Tryz.f11.params.toList Rows.stepConcatSpec.vars false (#[.string .empty, .string .empty, .string .empty] : Array Value).toList 8 = some ([.lit (.string []), .lit (.string []), .lit (.string [])], [], places) :=
  ⟨[], by kernel_rfl⟩

theorem lifted (os : Os) (started : os.Started) (H : Type) (enc : TypeId × Value → H) (F : Stop.Interp) :
    ReturnsInHanded {} Tryz.checked os 11 .any ((Rows.OpenSpec.upto Rows.stepConcatSpec).preRow enc Tryz.prog Tryz.f11 Rows.stepConcatUptoRow.domain false Rows.stepConcatUptoRow.laid) (((Rows.OpenSpec.upto Rows.stepConcatSpec).at F).post enc Tryz.prog Tryz.f11 false true false false) := by
  obtain ⟨places, hx⟩ := reads os enc
  refine returnsInHanded_of_row (C := Tryz.checked) (s := Rows.OpenSpec.upto Rows.stepConcatSpec) own started (by kernel_rfl) Tryz.func11
    (witness_row_atRef (enc := enc) (C := Tryz.checked) false (laidWorld os) #[.string .empty, .string .empty, .string .empty] rfl (by kernel_rfl) (by kernel_rfl) (by kernel_rfl)
      (OpenSpec.preRow_of_cond 8 hx (by kernel_rfl) (fun k hk => by cases hk; kernel_rfl) (by kernel_rfl) (laid_met os _))) ?_
  intro W base args ds gs before hval hW _ hcond _ hL _ _
  exact contract H enc W base args ds gs before hval hW (hcond _ rfl)

end Go.Proofs.YtkoijkcjnppamaaGreatDoor.StepConcat
/- StepConcat: the second form. -/
namespace Go.Proofs.YtkoijkcjnppamaaGreatDoor.StepConcat
open Go Go.ChangeShapes Go.WideShapes Go.ChangeAt Go.RowKit
set_option maxRecDepth 100000
set_option linter.unusedVariables false

theorem closed : joinedFacts Tryz.prog 11 Tryz.f11 (Rows.OpenSpec.upto Rows.stepConcatSpec).bare Rows.stepConcatUptoRow = true := by
  unfold joinedFacts
  have e1 : (Rows.stepConcatUptoRow.plainKeys == Tryz.prog.plainKeys) = true := j_plain
  have e2 : (Rows.stepConcatUptoRow.lifted == Tryz.prog.liftsFinal) = true := j_lifts
  have e3 : (Tryz.prog.make == some Rows.stepConcatUptoRow.make) = true := j_make
  rw [Go.Ev.laidOut, j_maps, j_stops, j_knobs, j_inPlace, j_unf, j_rec, j_named, e1, j_heard, j_may, e2, e3]
  show (_ : Bool) = true
  kernel_rfl

theorem said : Rows.StepConcatUptoSaid :=
  OpenClaim.holds_of_cond 11 Tryz.f11 rfl rfl rfl rfl rfl rfl rfl ⟨rfl, rfl, rfl, rfl, rfl⟩ rfl rfl rfl rfl rfl (by kernel_rfl) Tryz.func11 closed
    (of_decide_eq_true (by kernel_rfl)) (by unfold Func.isWrapper; first | (rw [if_pos (by decide +kernel)]; kernel_rfl) | (rw [if_neg (by decide +kernel)]; exact ⟨rfl, rfl⟩))
    (fun os started H enc _ F => by rw [OpenClaim.pre_eq_preRow]; exact lifted os started H enc F)

end Go.Proofs.YtkoijkcjnppamaaGreatDoor.StepConcat
