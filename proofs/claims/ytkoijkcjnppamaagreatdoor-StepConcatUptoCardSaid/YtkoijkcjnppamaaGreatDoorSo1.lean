/- slices.Sorted over slices.Values at strings, as a call. Conditions: the cells of the slice. -/
import Derived.RangeFuncBox
import Derived.RangeFuncLeaves
import Derived.Shelf.Abstract
import Derived.WalkKit
import Derived.OwnWalkIn
import Derived.TacticsInMore
import Derived.LoopNIn
import Derived.LoopIn
import Derived.Maps.AppendAt
import Derived.Test.YtkoijkcjnppamaaGreatDoorProg
import Derived.Shelf.SortM.Plain
import Derived.Shelf.SortM.SortNone
import Derived.Ground.SlgmProg
import Derived.Sort.OwnSorted
import Derived.RangeFuncBound
/- What slices.Values gives at strings: each of the slice's strings, in its order. -/
namespace Go.Proofs
set_option linter.unusedVariables false
open Go.RowKit Go.Shelf
attribute [local go_sem] Oper.semAt_some
set_option autoImplicit false

abbrev Bs := ByteArray

/-- what has come when k rounds are over -/
def uptoB {α : Type} (f : Nat → α) (k : Nat) : List α := (List.range k).map f
theorem uptoB_succ {α : Type} (f : Nat → α) (k : Nat) : uptoB f (k + 1) = uptoB f k ++ [f k] := by simp [uptoB, List.range_succ]
theorem uptoB_length {α : Type} (f : Nat → α) (k : Nat) : (uptoB f k).length = k := by simp [uptoB]
theorem uptoB_all (zs : List Bs) : uptoB (fun j => zs[j]?.getD ByteArray.empty) zs.length = zs := by
  apply List.ext_getElem
  · simp [uptoB]
  · intro i h1 h2
    simp [uptoB, h2]
theorem uptoB_take (zs : List Bs) {k : Nat} (hk : k ≤ zs.length) : uptoB (fun j => zs[j]?.getD ByteArray.empty) k = zs.take k := by
  apply List.ext_getElem
  · simp [uptoB, hk]
  · intro i h1 h2
    have : i < zs.length := by simp [uptoB] at h1; omega
    simp [uptoB, this]

set_option maxRecDepth 100000 in
set_option maxHeartbeats 2000000 in
theorem values1_in (F : Fence) (n : Nat) (h7 : F.fn 145) (hro : F.round = none) (hn : 1 ≤ n) (l Bx n₀ b off len cap : Nat) (zs : List Bs) (hreach : len * 16 ≤ 140737488351232) (hb : b < n₀) (J Jx : List Bs → World → Prop)
    (hY : ∀ pre x W, J pre W → pre.length < len → YieldAt F (n - 1) Tryz.prog l #[Value.string x] W fun e W' =>
      (e = .returned (.bool true) ∧ J (pre ++ [x]) W' ∧ Below n₀ W W') ∨ (e = .returned (.bool false) ∧ Jx (pre ++ [x]) W'))
    (W : World) (hBs : W.cell? ⟨Bx, 0, none⟩ = some (.slice (some ⟨b, off, none⟩) len cap)) (hc : ∀ j, j < len → W.cell? ⟨b, off + j, none⟩ = some (Value.string (zs[j]?.getD ByteArray.empty))) (h0 : J [] W) :
    CallsIn F n Tryz.prog 145 #[.func (.yield l) #[] #[], .pointer (some ⟨Bx, 0, none⟩)] W fun e W' => (∃ v, e = .returned v) ∧
      ((∃ ys, ys = uptoB (fun j => zs[j]?.getD ByteArray.empty) len ∧ J ys W') ∨ (∃ pre, (∃ k, k ≤ len ∧ pre = uptoB (fun j => zs[j]?.getD ByteArray.empty) k) ∧ Jx pre W')) := by
  refine callsIn_of_wp Tryz.func145 rfl h7 ?_ hro
  simp only [Tryz.ntmps145, List.size_toArray, List.length_cons, List.length_nil, Nat.reduceAdd, Nat.reduceSub, Array.replicate_succ, Array.replicate_zero, List.push_toArray, List.append_toArray, List.nil_append, List.cons_append]
  gi_wp2
  gi_loopw [7] (fun i wr => ∃ k : Nat, k ≤ len ∧ i = .int .i64 k ∧ J (uptoB (fun j => zs[j]?.getD ByteArray.empty) k) wr ∧ Below n₀ W wr)
    (fun i _ => len - (intOf i).toNat)
  case atStart => exact ⟨0, Nat.zero_le _, rfl, h0, Below.refl _ _⟩
  case round =>
    obtain ⟨k, hk, rfl, hJs, hnx⟩ := hrel
    have hcx : k < len → wr.cell? ⟨b, off + k, none⟩ = some (Value.string (zs[k]?.getD ByteArray.empty)) := fun h => (hnx.cell (p := ⟨b, off + k, none⟩) hb).trans (hc k h)
    by_cases hlt : k < len
    · obtain ⟨fn, tmps, assign, body, hy, hR⟩ := hY _ (zs[k]?.getD ByteArray.empty) wr hJs (by rw [uptoB_length]; exact hlt)
      have hcx' := hcx hlt
      gi_wp2
      refine hR.mono ?_
      rintro e W3 (⟨rfl, hJ3, hk3⟩ | ⟨rfl, hJx3⟩)
      · gi_wp2
        go_roundw
        case rel => exact ⟨k + 1, by omega, by simp, by rw [uptoB_succ]; exact hJ3, hnx.trans hk3⟩
        case measure => simp [intOf]; omega
      · gi_wp2
        refine bodyPost_ret (results_none rfl _ _ _) rfl ?_
        exact ⟨⟨_, rfl⟩, .inr ⟨_, ⟨k + 1, by omega, (uptoB_succ _ _).symm⟩, hJx3⟩⟩
    · obtain rfl : k = len := by omega
      gi_wp2
      go_end0
      exact ⟨⟨_, rfl⟩, .inl ⟨_, rfl, hJs⟩⟩

set_option maxRecDepth 100000 in
set_option maxHeartbeats 1000000 in
/-- .. at the nil slice: no round. -/
theorem values1_nil_in (F : Fence) (n : Nat) (h7 : F.fn 145) (hro : F.round = none) (l Bx : Nat) (J : List Bs → World → Prop) (W : World) (hBs : W.cell? ⟨Bx, 0, none⟩ = some (.slice none 0 0)) (h0 : J [] W) :
    CallsIn F n Tryz.prog 145 #[.func (.yield l) #[] #[], .pointer (some ⟨Bx, 0, none⟩)] W fun e W' => (∃ v, e = .returned v) ∧ J [] W' := by
  refine callsIn_of_wp Tryz.func145 rfl h7 ?_ hro
  simp only [Tryz.ntmps145, List.size_toArray, List.length_cons, List.length_nil, Nat.reduceAdd, Nat.reduceSub, Array.replicate_succ, Array.replicate_zero, List.push_toArray, List.append_toArray, List.nil_append, List.cons_append]
  gi_wp2
  gi_loopw [7] (fun i wr => i = .int .i64 0 ∧ J [] wr) (fun _ _ => 0)
  case atStart => exact ⟨rfl, h0⟩
  case round =>
    obtain ⟨rfl, hJs⟩ := hrel
    gi_wp2
    go_end0
    exact ⟨⟨_, rfl⟩, hJs⟩

/-- The slice value holds the strings zs, in a block below n₀; or it is nil and there are none. -/
def Strs (n₀ : Nat) (W : World) (sv : Value) (zs : List Bs) : Prop :=
  (sv = .slice none 0 0 ∧ zs = []) ∨ ∃ b off cap, sv = .slice (some ⟨b, off, none⟩) zs.length cap ∧ b < n₀ ∧ ∀ j, j < zs.length → W.cell? ⟨b, off + j, none⟩ = some (Value.string (zs[j]?.getD ByteArray.empty))
theorem Strs.below {n₀ : Nat} {A B : World} (h : Below n₀ A B) {sv : Value} {zs : List Bs} : Strs n₀ A sv zs → Strs n₀ B sv zs
  | .inl e => .inl e
  | .inr ⟨b, off, cap, e, hb, hc⟩ => .inr ⟨b, off, cap, e, hb, fun j hj => (h.cell (p := ⟨b, off + j, none⟩) hb).trans (hc j hj)⟩

theorem values_stops (F : Fence) (n : Nat) (h7 : F.fn 145) (hro : F.round = none) (hn : 1 ≤ n) (Bx n₀ : Nat) (sv : Value) (zs : List Bs) (hreach : zs.length * 16 ≤ 140737488351232) (w : World) (hBs : Bx < w.heap.size) (hn₀ : n₀ ≤ w.heap.size)
    (hc : w.cell? ⟨Bx, 0, none⟩ = some sv) (hI : Strs n₀ w sv zs) :
    SeqStopsK F n Tryz.prog 145 #[.pointer (some ⟨Bx, 0, none⟩)] (fun x : Bs => #[Value.string x]) (Below n₀) (fun ys => ys = zs) (fun pre => pre <+: zs) zs.length w := fun l J Jx W hW _ _ hY h0 => by
  have hc' := (hW.cell (p := ⟨Bx, 0, none⟩) hBs).trans hc
  rcases hI.below (hW.mono hn₀) with ⟨rfl, rfl⟩ | ⟨b, off, cap, rfl, hb, hcs⟩
  · exact (values1_nil_in F n h7 hro l Bx J W hc' h0).mono fun e W' ⟨he, hj⟩ => ⟨he, .inl ⟨_, rfl, hj⟩⟩
  · refine (values1_in F n h7 hro hn l Bx n₀ b off zs.length cap zs hreach hb J Jx hY W hc' hcs h0).mono ?_
    rintro e W' ⟨he, ⟨ys, rfl, hj⟩ | ⟨pre, ⟨k, hk, rfl⟩, hj⟩⟩
    · exact ⟨he, .inl ⟨_, uptoB_all zs, hj⟩⟩
    · exact ⟨he, .inr ⟨_, by rw [uptoB_take zs hk]; exact List.take_prefix _ _, hj⟩⟩
end Go.Proofs
/- What slices.AppendSeq gives behind an iterator over strings. -/
namespace Go.Proofs
set_option linter.unusedVariables false
open Go.RowKit Go.Shelf
attribute [local go_sem] Oper.semAt_some
set_option autoImplicit false

theorem infoStr : (Tryz.prog.info? 9).map (fun i => (i.zero, i.size, i.bytes)) = some (some (.string ⟨#[]⟩), 1, 16) := by kernel_rfl

/-- what a round keeps: what lay ahead; the walks over maps -/
def KeepsBoth (n₀ : Nat) (A B : World) : Prop := Below n₀ A B ∧ KeepsWalks A B

set_option maxRecDepth 100000 in
set_option maxHeartbeats 2000000 in
theorem appendSeq_in (F : Fence) (n : Nat) (h3 : F.fn 175) (hro : F.round = none) (hn : 3 ≤ n) (g : Nat) (lb : Array Value) (hFg : F.fn g) (eg : ∀ args w, (callFunc g args).run Tryz.prog w = .ok (.enter g args) w)
    (S Sp : List Bs → Prop) (N : Nat) (hlen : N ≤ maxLen) (hbytes : N * 16 ≤ 140737488355328) (w : World) (hseq : SeqStopsK F (n - 1) Tryz.prog g lb (fun x : Bs => #[Value.string x]) (KeepsBoth w.heap.size) S Sp N w) :
    CallsIn F n Tryz.prog 175 #[.slice none 0 0, .func (.func g) #[] lb] w fun e W' => ∃ v ss, e = .returned v ∧ S ss ∧ W'.ownsRow w.heap.size 9 1 v ss.length (ss.map Value.string) ∧ (v = .slice none 0 0 ↔ ss = []) ∧ Below w.heap.size w W' := by
  have h1 : 1 ≤ n := by omega
  obtain ⟨i0, hi, hz0, hz1, hz2⟩ := info_parts infoStr
  refine callsIn_of_wp_marks Tryz.func175 rfl h3 ?_ hro
  simp only [Tryz.ntmps175, List.size_toArray, List.length_cons, List.length_nil, Nat.reduceAdd, Nat.reduceSub, Array.replicate_succ, Array.replicate_zero, List.push_toArray, List.append_toArray, List.nil_append, List.cons_append]
  gi_wp2
  have bO := Boxed.new w 22 (.slice none 0 0)
  have hB0 : Below w.heap.size w (w.alloc (.cells #[.slice none 0 0] 22)) := (Below.refl _ w).alloc (Nat.le_refl _) _
  refine wpIn_rangeFunc_ownG hro h1 (gf := g) (lb := lb) rfl hFg eg hseq (fun h k => ⟨belowK_t h.1 k.1, walksK_t h.2 k.2⟩) (fun W l o o' h1 h2 h3 h4 => ⟨belowK_b (by simp) W l o o' h1 h2 h3 h4, walksK_b W l o o' h1 h2 h3 h4⟩) hB0 (fun _ => rfl)
    (fun pre W => (∃ v, Boxed W w.heap.size 22 v ∧ W.ownsRow w.heap.size 9 1 v pre.length (pre.map Value.string) ∧ (v = .slice none 0 0 ↔ pre = [])) ∧ Below w.heap.size w W)
    (fun _ _ _ => False)
    (OwnFrom.and (Own.from (holdsRow_own w.heap.size w.heap.size 22 9 1 (fun pre : List Bs => pre.length) (fun pre => pre.map Value.string) (fun pre v => v = .slice none 0 0 ↔ pre = [])) _) (ownFrom_below (Nat.le_refl _) (by simp)))
    (fun _ _ _ _ _ hs _ _ => hs)
    ⟨⟨_, bO, World.ownsRow_nil _ _ _ _, by simp⟩, hB0⟩
    (fun x => { tmps := #[.slice none 0 0, .func (.func g) #[] lb, .pointer (some ⟨w.heap.size, 0, none⟩), undef, .slice none 0 0, Value.string x, .func (.func g) #[] lb, Value.string x, undef, undef, undef, undef, undef], defers := [] }) ?assign ?body ?done ?stop
  case assign =>
    intro l x W K hK
    gi_wp2
    exact hK
  case body =>
    rintro l pre x W ⟨⟨v, hv, hrow, hnil⟩, hB⟩ hlt
    have hc := hv.cell
    gi_wp2_with (gi_at_builtin; refine wpListIn_append_own _ rfl _ _ 22 rfl w.heap.size 9 i0 (.string ⟨#[]⟩) 1 16 Tryz.underlying22 hi hz0 hz1 hz2 rfl (by decide) _ _ _ rfl (hrow.alloc _) ⟨W.heap.size, 0, none⟩ 1 1 [.string x] rfl rfl (cell_one_new _ _ _) (by simp [Value.oneCell']) (by omega) (by omega) (by have := hB.size; simp; omega) ?_; intro v' w1 hown' hgrow _; obtain ⟨g', cap', rfl⟩ := ownsRow_succ hown'; obtain ⟨hv1, hv2, hr2, hk2, hb2⟩ := hv.appended (by decide) hrow hB.size (Nat.le_refl _) hown' hgrow; have hc1 := hv1.cell; have hf1 := hv1.frozen)
    exact ⟨hk2.from _, ⟨hb2, hk2.walks⟩, ⟨_, hv2, by simpa using hr2, by simp⟩, hB.trans hb2⟩
  case done =>
    rintro D ys W hD hS ⟨⟨v, hv, hrow, hnil⟩, hB⟩ hK
    have hc := hv.cell
    gi_wp2
    refine ⟨by simp, .inl ⟨_, _, rfl, run_takeDeferred hK, ?_⟩⟩
    exact ⟨_, results_tmp rfl _ _ _, v, ys, rfl, hS, ownsRow_putObj hrow _ hK rfl, hnil, hB.trans (belowK_b (w := w) (Nat.le_refl _) W D _ _ (by simp at hD; omega) hK rfl rfl)⟩
  case stop =>
    rintro D c pre W _ _ h _
    exact h.elim
end Go.Proofs
/-
  DERIVED: THE SHELF's CONTRACTS AT THIS DUMP, IN PLAIN WORDS (tools/lay-plain.mjs out of 'SoL.lean', which tools/lay-shelf.mjs wrote): THE SAME DECLARATIONS UNDER THE SAME NAMES: 'import', 'namespace', 'open', 'def', 'theorem' AND NOTHING ELSE: no command of the shelf's: FOR A HAND-IN. Each laying: the table of numbers ('.._ren') and one theorem, a field a fact of the dump's own or the kernel's comparison; each contract: ONE APPLICATION.
-/
namespace Go.Proofs
set_option linter.unusedVariables false
open Go.Shelf
def Tryz.sortL_ren : Go.Shelf.Ren := ⟨fun | 6 => 69 | 8 => 96 | 9 => 95 | 19 => 140 | 20 => 141 | 21 => 131 | 22 => 132 | 23 => 133 | 24 => 134 | 25 => 135 | 26 => 136 | 27 => 137 | 28 => 138 | 29 => 139 | 36 => 168 | 31 => 169 | 32 => 170 | 37 => 171 | 38 => 172 | 39 => 173 | 41 => 211 | n => n, fun | 27 => 22 | 29 => 9 | 3 => 3 | 32 => 122 | 26 => 22 | 0 => 0 | 44 => 163 | 46 => 165 | 4 => 4 | 36 => 157 | 35 => 156 | 41 => 124 | 5 => 5 | 9 => 9 | 53 => 191 | 57 => 195 | 63 => 221 | 64 => 222 | n => n, fun | n => n⟩
theorem Tryz.sortL : Go.Proofs.SlLaysM.n6 Tryz.prog Tryz.sortL_ren := {
  mixed := by kernel_rfl
  f6 := ⟨Tryz.f69.name, by decide, Tryz.func69.trans (congrArg some (by kernel_rfl))⟩
  f8 := Tryz.func96.trans (congrArg some (by kernel_rfl))
  f9 := ⟨Tryz.f95.name, by decide, Tryz.func95.trans (congrArg some (by kernel_rfl))⟩
  f19 := Tryz.func140.trans (congrArg some (by kernel_rfl))
  f20 := Tryz.func141.trans (congrArg some (by kernel_rfl))
  f21 := ⟨Tryz.f131.name, by decide, Tryz.func131.trans (congrArg some (by kernel_rfl))⟩
  f22 := ⟨Tryz.f132.name, by decide, Tryz.func132.trans (congrArg some (by kernel_rfl))⟩
  f23 := ⟨Tryz.f133.name, by decide, Tryz.func133.trans (congrArg some (by kernel_rfl))⟩
  f24 := ⟨Tryz.f134.name, by decide, Tryz.func134.trans (congrArg some (by kernel_rfl))⟩
  f25 := ⟨Tryz.f135.name, by decide, Tryz.func135.trans (congrArg some (by kernel_rfl))⟩
  f26 := ⟨Tryz.f136.name, by decide, Tryz.func136.trans (congrArg some (by kernel_rfl))⟩
  f27 := ⟨Tryz.f137.name, by decide, Tryz.func137.trans (congrArg some (by kernel_rfl))⟩
  f28 := ⟨Tryz.f138.name, by decide, Tryz.func138.trans (congrArg some (by kernel_rfl))⟩
  f29 := ⟨Tryz.f139.name, by decide, Tryz.func139.trans (congrArg some (by kernel_rfl))⟩
  f31 := Tryz.func169.trans (congrArg some (by kernel_rfl))
  f32 := Tryz.func170.trans (congrArg some (by kernel_rfl))
  f36 := ⟨Tryz.f168.name, by decide, Tryz.func168.trans (congrArg some (by kernel_rfl))⟩
  f37 := ⟨Tryz.f171.name, by decide, Tryz.func171.trans (congrArg some (by kernel_rfl))⟩
  f38 := ⟨Tryz.f172.name, by decide, Tryz.func172.trans (congrArg some (by kernel_rfl))⟩
  f39 := ⟨Tryz.f173.name, by decide, Tryz.func173.trans (congrArg some (by kernel_rfl))⟩
  f41 := ⟨Tryz.f211.name, by decide, Tryz.func211.trans (congrArg some (by kernel_rfl))⟩
  t0 := Tryz.underlying0
  a0 := Tryz.isAgg0
  z0 := Tryz.sizeOf0
  v0 := Tryz.zeroValue0
  t3 := Tryz.underlying3
  a3 := Tryz.isAgg3
  z3 := Tryz.sizeOf3
  v3 := Tryz.zeroValue3
  t4 := Tryz.underlying4
  a4 := Tryz.isAgg4
  z4 := Tryz.sizeOf4
  v4 := Tryz.zeroValue4
  t5 := Tryz.underlying5
  a5 := Tryz.isAgg5
  z5 := Tryz.sizeOf5
  v5 := Tryz.zeroValue5
  t9 := Tryz.underlying9
  a9 := Tryz.isAgg9
  z9 := Tryz.sizeOf9
  v9 := Tryz.zeroValue9
  t26 := Tryz.underlying22
  a26 := Tryz.isAgg22
  z26 := Tryz.sizeOf22
  v26 := Tryz.zeroValue22
  t27 := Tryz.underlying22
  a27 := Tryz.isAgg22
  z27 := Tryz.sizeOf22
  v27 := Tryz.zeroValue22
  t29 := Tryz.underlying9
  a29 := Tryz.isAgg9
  z29 := Tryz.sizeOf9
  v29 := Tryz.zeroValue9
  t32 := Tryz.underlying122
  a32 := Tryz.isAgg122
  z32 := Tryz.sizeOf122
  v32 := Tryz.zeroValue122
  t35 := Tryz.underlying156
  a35 := Tryz.isAgg156
  z35 := Tryz.sizeOf156
  v35 := Tryz.zeroValue156
  t36 := Tryz.underlying157
  a36 := Tryz.isAgg157
  z36 := Tryz.sizeOf157
  v36 := Tryz.zeroValue157
  t41 := Tryz.underlying124
  a41 := Tryz.isAgg124
  z41 := Tryz.sizeOf124
  v41 := Tryz.zeroValue124
  t44 := Tryz.underlying163
  a44 := Tryz.isAgg163
  z44 := Tryz.sizeOf163
  v44 := Tryz.zeroValue163
  t46 := Tryz.underlying165
  a46 := Tryz.isAgg165
  z46 := Tryz.sizeOf165
  v46 := Tryz.zeroValue165
  t53 := Tryz.underlying191
  a53 := Tryz.isAgg191
  z53 := Tryz.sizeOf191
  v53 := Tryz.zeroValue191
  t57 := Tryz.underlying195
  a57 := Tryz.isAgg195
  z57 := Tryz.sizeOf195
  v57 := Tryz.zeroValue195
  t63 := Tryz.underlying221
  a63 := Tryz.isAgg221
  z63 := Tryz.sizeOf221
  v63 := Tryz.zeroValue221
  t64 := Tryz.underlying222
  a64 := Tryz.isAgg222
  z64 := Tryz.sizeOf222
  v64 := Tryz.zeroValue222 }
end Go.Proofs
/- What slices.Collect and slices.Sorted give behind an iterator over strings. -/
namespace Go.Proofs
set_option linter.unusedVariables false
open Go.RowKit Go.Shelf Go.Sort
attribute [local go_sem] Oper.semAt_some
set_option autoImplicit false

set_option maxRecDepth 100000 in
set_option maxHeartbeats 2000000 in
theorem collect_in (F : Fence) (n : Nat) (h143 : F.fn 144) (h176 : F.fn 175) (hro : F.round = none) (hn : 4 ≤ n) (g : Nat) (lb : Array Value) (hFg : F.fn g) (eg : ∀ args w, (callFunc g args).run Tryz.prog w = .ok (.enter g args) w)
    (S Sp : List Bs → Prop) (N : Nat) (hlen : N ≤ maxLen) (hbytes : N * 16 ≤ 140737488355328) (w : World) (hseq : SeqStopsK F (n - 1 - 1) Tryz.prog g lb (fun x : Bs => #[Value.string x]) (KeepsBoth w.heap.size) S Sp N w) :
    CallsIn F n Tryz.prog 144 #[.func (.func g) #[] lb] w fun e W' => ∃ v ss, e = .returned v ∧ S ss ∧ W'.ownsRow w.heap.size 9 1 v ss.length (ss.map Value.string) ∧ (v = .slice none 0 0 ↔ ss = []) ∧ Below w.heap.size w W' := by
  have h1 : 1 ≤ n := by omega
  refine callsIn_of_wp Tryz.func144 rfl h143 ?_ hro
  simp only [Tryz.ntmps144, List.size_toArray, List.length_cons, List.length_nil, Nat.reduceAdd, Nat.reduceSub, Array.replicate_succ, Array.replicate_zero, List.push_toArray, List.append_toArray, List.nil_append, List.cons_append]
  gi_wp2_with (gi_at_call 175; refine (appendSeq_in F (n - 1) h176 hro (by omega) g lb hFg eg S Sp N hlen hbytes _ hseq).mono ?_; rintro e W ⟨v, ss, rfl, hS, hrow, hnil, hb⟩)
  go_ret
  exact ⟨_, _, rfl, hS, hrow, hnil, hb⟩
end Go.Proofs
/- What slices.Sorted gives behind an iterator over strings: what it gave, sorted. -/
namespace Go.Proofs
set_option linter.unusedVariables false
open Go.RowKit Go.Shelf Go.Sort
attribute [local go_sem] Oper.semAt_some
set_option autoImplicit false

/-- the bytes of strings -/
def bytesL (ss : List Bs) : List (List UInt8) := ss.map fun s => s.data.toList
theorem bytesL_enc (ss : List Bs) : (bytesL ss).map encStr = ss.map Value.string := by
  unfold bytesL
  rw [List.map_map]
  apply List.map_congr_left
  intro s _
  rfl
theorem bytesL_length (ss : List Bs) : (bytesL ss).length = ss.length := by simp [bytesL]

set_option maxRecDepth 100000 in
set_option maxHeartbeats 2000000 in
theorem sorted_in (n : Nat) (hn : 5 ≤ n) (g : Nat) (lb : Array Value) (eg : ∀ args w, (callFunc g args).run Tryz.prog w = .ok (.enter g args) w)
    (S Sp : List Bs → Prop) (N : Nat) (hlen : N ≤ maxLen) (hbytes : N * 16 ≤ 140737488355328) (hS : ∀ ss, S ss → ss.length ≤ 4611686018427387903) (w : World) (hseq : SeqStopsK Fence.wide (n - 1 - 1 - 1) Tryz.prog g lb (fun x : Bs => #[Value.string x]) (KeepsBoth w.heap.size) S Sp N w) :
    CallsIn Fence.wide n Tryz.prog 100 #[.func (.func g) #[] lb] w fun e W' => ∃ v ss, e = .returned v ∧ S ss ∧
      W'.ownsRow w.heap.size 9 1 v ss.length (((bytesL ss).mergeSort (fun x y => decide (x ≤ y))).map encStr) ∧ (v = .slice none 0 0 ↔ ss = []) ∧ Below w.heap.size w W' := by
  have h1 : 1 ≤ n := by omega
  have hf : ∀ k, Fence.wide.fn k := fun _ => trivial
  refine callsIn_of_wp Tryz.func100 rfl trivial ?_ rfl
  simp only [Tryz.ntmps100, List.size_toArray, List.length_cons, List.length_nil, Nat.reduceAdd, Nat.reduceSub, Array.replicate_succ, Array.replicate_zero, List.push_toArray, List.append_toArray, List.nil_append, List.cons_append]
  have hf143 := hf 144
  have hf55 := hf 69
  gi_wp2_with (gi_at_call 144; refine (collect_in Fence.wide (n - 1) trivial trivial rfl (by omega) g lb trivial eg S Sp N hlen hbytes _ hseq).mono ?_; rintro e W ⟨v, ss, rfl, hSs, hrow, hnil, hb⟩)
  rcases hrow.2 with ⟨rfl, hz⟩ | ⟨gb, cap, cur, rfl, hbase, hgb, r1, r2, r3, r4⟩
  · have hss : ss = [] := List.eq_nil_of_length_eq_zero hz
    subst hss
    have cN : CallsIn Fence.wide (n - 1) Tryz.prog 69 #[.slice none 0 0] W fun e w' => e = .returned (.tuple #[]) ∧ w' = W := callsIn_wide.2 (AnyM.slices_Sort_string_none Tryz.sortL none 0 W)
    gi_wp2_with (gi_at_call 69; refine cN.mono ?_; rintro e w' ⟨rfl, rfl⟩)
    go_ret
    exact ⟨_, [], rfl, hSs, by simpa [bytesL] using hrow, by simp, hb⟩
  · have r4' : cur.toList.take (bytesL ss).length = (bytesL ss).map encStr := by rw [bytesL_enc, bytesL_length]; simpa using r4
    have hH : Holds encStr W gb 0 (bytesL ss).toArray := holds_of_block hgb r4'
    have hgl : gb < W.heap.size := (Array.getElem?_eq_some_iff.1 hgb).1
    have cS : CallsIn Fence.wide (n - 1) Tryz.prog 69 #[.slice (some ⟨gb, 0, none⟩) ss.length cap] W fun e w' =>
        e = .returned (.tuple #[]) ∧ ∃ k os, w' = grow (putRow encStr (Sort.ahead W k) gb 0 ((bytesL ss).mergeSort fun x y => decide (x ≤ y)).toArray) os := by
      have := (callsIn_wide (n := n - 1)).2 (AnyM.slices_Sort_string Tryz.sortL gb 0 cap (bytesL ss) W hH hgl (by rw [bytesL_length]; have := hS ss hSs; omega))
      rw [bytesL_length] at this
      exact this
    gi_wp2_with (gi_at_call 69; refine cS.mono ?_; rintro e w' ⟨rfl, nn, os, rfl⟩)
    go_ret
    refine ⟨_, ss, rfl, hSs, ?_, hnil, hb.grown (grownBy_sorted _) hb.size (fun j hj => by cases hj; exact hbase)⟩
    have := ownsRow_sorted (n := nn) (os := os) (ss := bytesL ss) (ts := (bytesL ss).mergeSort fun x y => decide (x ≤ y)) (by simp) hbase hgb (by rw [bytesL_length]; exact r1) r2 r3
    rw [bytesL_length] at this
    exact this
end Go.Proofs
/- slices.Sorted(slices.Values(l)), as a plain call. -/
namespace Go.Proofs
set_option linter.unusedVariables false
open Go.RowKit Go.Shelf Go.Sort
set_option autoImplicit false

theorem SeqStopsK.kp {α : Type} {F : Fence} {n : Nat} {P : Program} {g : Nat} {lb : Array Value} {encs : α → Array Value} {Kp Kp' : World → World → Prop} {S Sp : List α → Prop} {N : Nat} {w : World}
    (h : SeqStopsK F n P g lb encs Kp S Sp N w) (hk : ∀ A B, Kp' A B → Kp A B) : SeqStopsK F n P g lb encs Kp' S Sp N w :=
  fun l J Jx W hW hJ hJx hY h0 => h l J Jx W hW hJ hJx (fun pre x W1 hj hl => (hY pre x W1 hj hl).mono fun e W' hr => hr.imp (fun ⟨a, b, c⟩ => ⟨a, b, hk _ _ c⟩) id) h0

/-- What slices.Sorted gives, in plain words. -/
def SortedPost (w : World) (e : TypeId) (l : List (List UInt8)) (en : Ending) (w' : World) : Prop :=
  ∃ v, en = .returned v ∧ w'.ownsRow w.heap.size e 1 v l.length ((l.mergeSort (fun x y => decide (x ≤ y))).map encStr) ∧ (v = .slice none 0 0 ↔ l = []) ∧ Below w.heap.size w w'

theorem sorted_values (w : World) (Bx : Nat) (sv : Value) (zs : List Bs) (hlen : zs.length ≤ 1000000) (hBs : Bx < w.heap.size) (hc : w.cell? ⟨Bx, 0, none⟩ = some sv) (hI : Strs w.heap.size w sv zs) :
    Calls Tryz.prog 100 #[.func (.func 145) #[] #[.pointer (some ⟨Bx, 0, none⟩)]] w (SortedPost w 9 (bytesL zs)) := by
  refine (callsIn_wide (n := 6)).1 ?_
  refine (sorted_in 6 (by omega) 145 #[.pointer (some ⟨Bx, 0, none⟩)] (enters_of Tryz.func145 (by kernel_rfl) rfl) (fun ys => ys = zs) (fun pre => pre <+: zs) zs.length (by unfold maxLen; omega) (by omega) (fun ss h => by rw [h]; omega) w
    (SeqStopsK.kp (values_stops Fence.wide 3 trivial rfl (by omega) Bx w.heap.size sv zs (by omega) w hBs (Nat.le_refl _) hc hI) fun A B h => h.1)).mono ?_
  rintro e W' ⟨v, ss, rfl, rfl, hrow, hnil, hb⟩
  refine ⟨v, rfl, by rw [bytesL_length]; exact hrow, ?_, hb⟩
  rw [hnil]
  unfold bytesL
  simp
end Go.Proofs
