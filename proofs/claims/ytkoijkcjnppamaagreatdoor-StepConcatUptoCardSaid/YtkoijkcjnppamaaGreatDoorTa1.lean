/- The evaluator's tables of this program; the first begun says true. No condition. -/
import Derived.Test.YtkoijkcjnppamaaGreatDoorEv7
import Derived.Test.YtkoijkcjnppamaaGreatDoorSo2
/- The evaluator's tables of this program. -/
namespace Go.Ev
set_option linter.unusedVariables false
open Go.Proofs
set_option autoImplicit false

def N0 : SortNums := { f := 100, fV := 145, fK := 244, e := 9 }
theorem sorted_ok : SortedOK Tryz.prog N0 := {
  values := fun w Bx sv zs h1 h2 h3 h4 => sorted_values w Bx sv zs h1 h2 h3 h4
  keys := fun w Bm b A clock ks h1 h2 h3 h4 h5 h6 h7 => sorted_keys w Bm b A clock ks h1 h2 h3 h4 h5 h6 h7 }
end Go.Ev
/- The evaluator's tables of this program: the first begun. -/
namespace Go.Ev
set_option linter.unusedVariables false
open Go.Proofs
set_option autoImplicit false

def ents : Ents := { count := 181, index := 237, mkz := 214, noesc := 212 }
theorem ents_ok : EntsOK Tryz.prog ents 5 := {
  count := by kernel_rfl
  index := by kernel_rfl
  mkz := ⟨#[3], 98, by kernel_rfl, by kernel_rfl⟩
  noesc := by kernel_rfl }
theorem mixed_ok : Tryz.prog.follows .mixedOrders = true := by kernel_rfl
theorem names_ok : (Tryz.prog.funcs.toList.all fun g => !(g.name == "runtime.NumGoroutine")) = true := by kernel_rfl

/-- the tables, where some calls' answers are known -/
noncomputable def Tn (pures : List Pure) : Tables := { P := Tryz.prog, nf := 0, nt := 283, ents, ebyte := 5, pures, isPure := fun f => pures.any fun p => Nat.beq p.f f }
theorem Tn_ok {l : List Pure} (hl : PuresOK Tryz.prog l) : EnvOK Tryz.prog ((Tn l).envS N0) := (Tn l).okS N0 ((Tn l).ok mixed_ok names_ok ents_ok hl) sorted_ok

/-- a closed call that says true -/
theorem pure_true {l : List Pure} (hl : PuresOK Tryz.prog l) {f : FuncId} {n : Nat} (h : saysAll (.bool true) ((fe ((Tn l).envS N0) n).call f [] h0).outs = true) : PuresOK Tryz.prog [{ f, args := [], v := .bool true }] := by
  intro p hp vs w hvs
  rw [List.mem_singleton] at hp; subst hp
  exact closed_fe (Tn_ok hl) rfl h vs w hvs
theorem none_ok : PuresOK Tryz.prog [] := fun p hp => nomatch hp

theorem begun1_says : saysAll (.bool true) ((fe ((Tn []).envS N0) 1000000).call 120 [] h0).outs = true := by kernel_rfl
theorem begun1 : PuresOK Tryz.prog [{ f := 120, args := [], v := .bool true }] := pure_true none_ok begun1_says
end Go.Ev
