/- The arguments' types opened: what a reading of them gives. No condition. -/
import Derived.Test.YtkoijkcjnppamaaGreatDoorWc
import Derived.Test.YtkoijkcjnppamaaGreatDoorXb
import Derived.Test.YtkoijkcjnppamaaGreatDoorRows
/- The arguments' types, opened. -/
namespace Go.Ev
open Go.RowKit Go.Proofs Go.Proofs.YtkoijkcjnppamaaGreatDoor
set_option autoImplicit false
set_option maxRecDepth 100000
set_option linter.unusedVariables false

abbrev bk (H : Type) (d : DataW H) : Nat := Rows.uptoBulk d
theorem bk_part {H : Type} {d : DataW H} {l : List (DataW H)} (h : d ∈ l) : bk H d ≤ Rows.uptoBulkAll l := by
  induction l with
  | nil => cases h
  | cons x r ih =>
    simp only [Rows.uptoBulkAll]
    cases List.mem_cons.1 h with
    | inl e => subst e; simp only [bk]; omega
    | inr e => have := ih e; simp only [bk] at this ⊢; omega
theorem bk_one {H : Type} (d : DataW H) : 1 ≤ Rows.uptoBulk d := by
  cases d with
  | lit l => cases l <;> simp [Rows.uptoBulk]
  | nil => simp [Rows.uptoBulk]
  | ptr d => simp [Rows.uptoBulk]
  | slice elems spare => simp [Rows.uptoBulk]
  | agg parts => simp [Rows.uptoBulk]
  | iface t d => simp [Rows.uptoBulk]
  | map entries => simp [Rows.uptoBulk]
  | held h => simp [Rows.uptoBulk]
theorem bk_len {H : Type} (l : List (DataW H)) : l.length ≤ Rows.uptoBulkAll l := by
  induction l with
  | nil => simp [Rows.uptoBulkAll]
  | cons x r ih => have := bk_one x; simp only [Rows.uptoBulkAll, List.length_cons]; omega
theorem bk_slice1 (H : Type) (l r : List (DataW H)) : l.length ≤ bk H (.slice l r) := by
  have := bk_len l
  simp only [bk, Rows.uptoBulk]; omega
theorem bk_slice2 (H : Type) (l r : List (DataW H)) (d : DataW H) (h : d ∈ l) : bk H d ≤ bk H (.slice l r) := by
  have := bk_part h
  simp only [bk, Rows.uptoBulk] at *; omega
theorem bk_agg (H : Type) (l : List (DataW H)) (d : DataW H) (h : d ∈ l) : bk H d ≤ bk H (.agg l) := by
  have := bk_part h
  simp only [bk, Rows.uptoBulk] at *; omega

/-- texts, not too long -/
structure BigL (N : Nat) (l : List Str) : Prop where
  len : l.length ≤ N
  each : ∀ x ∈ l, x.length ≤ N
structure BigS (N : Nat) (s : RStep) : Prop where
  out : s.out.length ≤ N
  op : (Lit.int .i64 s.op).wf = true
  args : BigL N s.args
  lits : BigL N s.lits
  n : (Lit.int .i64 s.n).wf = true
structure BigR (N : Nat) (r : RRule) : Prop where
  name : r.name.length ≤ N
  ins : BigL N r.ins
  outs : BigL N r.outs
  after : BigL N r.after
  steps : r.steps.length ≤ N
  each : ∀ s ∈ r.steps, BigS N s
structure BigV (N : Nat) (v : RVal) : Prop where
  b : v.b.length ≤ N
theorem BigL.mono {N M : Nat} {l : List Str} (h : N ≤ M) (hl : BigL N l) : BigL M l := ⟨Nat.le_trans hl.len h, fun x hx => Nat.le_trans (hl.each x hx) h⟩
theorem BigS.mono {N M : Nat} {s : RStep} (h : N ≤ M) (hs : BigS N s) : BigS M s := ⟨Nat.le_trans hs.out h, hs.op, hs.args.mono h, hs.lits.mono h, hs.n⟩
theorem BigR.mono {N M : Nat} {r : RRule} (h : N ≤ M) (hr : BigR N r) : BigR M r := ⟨Nat.le_trans hr.name h, hr.ins.mono h, hr.outs.mono h, hr.after.mono h, Nat.le_trans hr.steps h, fun s hs => (hr.each s hs).mono h⟩
theorem BigV.mono {N M : Nat} {v : RVal} (h : N ≤ M) (hv : BigV N v) : BigV M v := ⟨Nat.le_trans hv.b h⟩
theorem BigS.small {N : Nat} {s : RStep} (h : BigS N s) (hN : N ≤ 1048576) : SmallS s := ⟨by have := h.args.len; omega, by have := h.lits.len; omega⟩
theorem BigR.small {N : Nat} {r : RRule} (h : BigR N r) (hN : N ≤ 1048576) : SmallR r := ⟨by have := h.ins.len; omega, by have := h.outs.len; omega, by have := h.after.len; omega, by have := h.steps; omega, fun s hs => (h.each s hs).small hN⟩

theorem o_str (W : World) : Opens Tryz.prog W bk 9 1 (fun l : Str => [.str l]) (fun N l => l.length ≤ N) := opens_str Tryz.underlying9 (by kernel_rfl) fun H l => by simp [bk, Rows.uptoBulk]
theorem o_bool (W : World) : Opens Tryz.prog W bk 4 1 (fun b : Bool => [.bool b]) (fun N l => True) := opens_bool Tryz.underlying4 (by kernel_rfl)
theorem o_int (W : World) : Opens Tryz.prog W bk 3 1 (fun n : Int => [.int .i64 n]) (fun N n => (Lit.int .i64 n).wf = true) := opens_int Tryz.underlying3 (by kernel_rfl)
theorem flat_str (l : List Str) : l.flatMap (fun s => [AV.str s]) = l.map .str := by
  induction l with
  | nil => rfl
  | cons a l ih => rw [List.flatMap_cons, ih]; rfl
theorem o_strs (W : World) : Opens Tryz.prog W bk 22 1 (fun l : List Str => [xs l]) BigL :=
  (opens_slice (o_str W) (by omega) (fun _ => rfl) Tryz.underlying22 (by kernel_rfl) bk_slice1 bk_slice2).map id _ _ (fun l => by simp only [id, xs, flat_str]) (fun N M a h h2 => h2.mono h) (fun N l h => ⟨h.1, h.2⟩)
theorem o_step (W : World) : Opens Tryz.prog W bk 57 5 stepC BigS := by
  refine Opens.map (opens_struct (k := 5) Tryz.underlying57 (by kernel_rfl) (opensF_cons (o := 0) (k := 1) (k' := 4) (o_str W) rfl (opensF_cons (o := 1) (k := 1) (k' := 3) (o_int W) rfl (opensF_cons (o := 2) (k := 1) (k' := 2) (o_strs W) rfl (opensF_cons (o := 3) (k := 1) (k' := 1) (o_strs W) rfl (opensF_cons (o := 4) (k := 1) (k' := 0) (o_int W) rfl (opensF_nil 5)))))) bk_agg)
    (fun p => (⟨p.1, p.2.1, p.2.2.1, p.2.2.2.1, p.2.2.2.2.1⟩ : RStep)) _ _ (fun p => rfl) (fun N M a h h2 => h2.mono h) ?_
  intro N p h
  exact ⟨h.1, h.2.1, h.2.2.1, h.2.2.2.1, h.2.2.2.2.1⟩
theorem o_steps (W : World) : Opens Tryz.prog W bk 23 1 (fun l : List RStep => [stepsV l]) (fun N l => l.length ≤ N ∧ ∀ x ∈ l, BigS N x) :=
  opens_slice (o_step W) (by omega) length_stepC Tryz.underlying23 (by kernel_rfl) bk_slice1 bk_slice2
theorem o_rule (W : World) : Opens Tryz.prog W bk 25 5 ruleC BigR := by
  refine Opens.map (opens_struct (k := 5) Tryz.underlying25 (by kernel_rfl) (opensF_cons (o := 0) (k := 1) (k' := 4) (o_str W) rfl (opensF_cons (o := 1) (k := 1) (k' := 3) (o_strs W) rfl (opensF_cons (o := 2) (k := 1) (k' := 2) (o_strs W) rfl (opensF_cons (o := 3) (k := 1) (k' := 1) (o_strs W) rfl (opensF_cons (o := 4) (k := 1) (k' := 0) (o_steps W) rfl (opensF_nil 5)))))) bk_agg)
    (fun p => (⟨p.1, p.2.1, p.2.2.1, p.2.2.2.1, p.2.2.2.2.1⟩ : RRule)) _ _ (fun p => rfl) (fun N M a h h2 => h2.mono h) ?_
  intro N p h
  exact ⟨h.1, h.2.1, h.2.2.1, h.2.2.2.1, h.2.2.2.2.1.1, h.2.2.2.2.1.2⟩
theorem o_rules (W : World) : Opens Tryz.prog W bk 61 1 (fun l : List RRule => [rulesV l]) (fun N l => l.length ≤ N ∧ ∀ x ∈ l, BigR N x) :=
  opens_slice (o_rule W) (by omega) length_ruleC Tryz.underlying61 (by kernel_rfl) bk_slice1 bk_slice2
theorem o_val (W : World) : Opens Tryz.prog W bk 34 2 valC BigV := by
  refine Opens.map (opens_struct (k := 2) Tryz.underlying34 (by kernel_rfl) (opensF_cons (o := 0) (k := 1) (k' := 1) (o_bool W) rfl (opensF_cons (o := 1) (k := 1) (k' := 0) (o_str W) rfl (opensF_nil 2))) bk_agg)
    (fun p => (⟨p.1, p.2.1⟩ : RVal)) _ _ (fun p => rfl) (fun N M a h h2 => h2.mono h) ?_
  intro N p h
  exact ⟨h.2.1⟩
theorem o_vals (W : World) : Opens Tryz.prog W bk 26 1 (fun l : List RVal => [vals l]) (fun N l => l.length ≤ N ∧ ∀ x ∈ l, BigV N x) :=
  opens_slice (o_val W) (by omega) length_valC Tryz.underlying26 (by kernel_rfl) bk_slice1 bk_slice2
end Go.Ev
