/- What the evaluator's values and states stand for; the first operations do as it says. Conditions: a table of the program (EnvOK). -/
import Derived.Test.YtkoijkcjnppamaaGreatDoorEv1
import Derived.Laws.Strings
import Derived.Laws.Cells
import Derived.Laws.Rows
import Derived.Laws.Entries
/- An evaluator of closed calls over abstract memory: what its values, blocks and states stand for. -/
namespace Go.Ev
open Go.RowKit
set_option autoImplicit false
set_option linter.unusedSimpArgs false
set_option linter.unusedVariables false

structure Rho where
  l : List (Nat × Nat)
  R : Nat → Option Obj
  z : Nat
def Rho.nil : Rho := ⟨[], fun _ => none, 0⟩
def Rho.snoc (ρ : Rho) (p : Nat × Nat) : Rho := { ρ with l := ρ.l ++ [p] }
@[simp] theorem Rho.snoc_l (ρ : Rho) (p : Nat × Nat) : (ρ.snoc p).l = ρ.l ++ [p] := rfl
@[simp] theorem Rho.snoc_R (ρ : Rho) (p : Nat × Nat) : (ρ.snoc p).R = ρ.R := rfl
@[simp] theorem Rho.snoc_z (ρ : Rho) (p : Nat × Nat) : (ρ.snoc p).z = ρ.z := rfl

mutual
def RV (ρ : Rho) : AV → Value → Prop
  | .any, v => v.oneCell' = true ∧ ∀ b, v ≠ .bool b
  | .bool b, v => v = .bool b
  | .int k n, v => v = .int k n
  | .str l, v => ∃ s, v = .string s ∧ bytesN s = l
  | .ptr b o, v => ∃ p, ρ.l[b]? = some p ∧ v = .pointer (some ⟨p.1, o, none⟩)
  | .nil, v => v = .pointer none
  | .sl b o e n c, v => ∃ p C, ρ.l[b]? = some p ∧ v = .slice (some ⟨p.1, o, none⟩) n C ∧ n ≤ C ∧ (match c with | some c => C = c | none => C + e = p.2)
  | .nsl, v => v = .slice none 0 0
  | .map r, v => ∃ p, ρ.l[r]? = some p ∧ v = .map (some p.1)
  | .nmap, v => v = .map none
  | .fn f a c, v => ∃ A C, v = .func (.func f) ⟨A⟩ ⟨C⟩ ∧ RVs ρ a A ∧ RVs ρ c C
  | .nfn, v => v = .nilFunc
  | .ifc t x, v => ∃ u, v = .iface t u ∧ RV ρ x u
  | .nifc, v => v = .nilIface
  | .agg l, v => ∃ A, v = .agg ⟨A⟩ ∧ RVs ρ l A
  | .tup l, v => ∃ A, v = .tuple ⟨A⟩ ∧ RVs ρ l A
  | .xsl n l, v => ∃ A C, v = .slice A n C ∧ n ≤ C ∧ (A = none → n = 0 ∧ C = 0) ∧ (l = [] ∨ ∃ b o X t fr, A = some ⟨b, o, none⟩ ∧ ρ.R b = some (.cells X t fr) ∧ RVs ρ l ((X.toList.drop o).take l.length))
  | .xp l, v => ∃ b o X t fr, v = .pointer (some ⟨b, o, none⟩) ∧ ρ.R b = some (.cells X t fr) ∧ RVs ρ l ((X.toList.drop o).take l.length)
def RVs (ρ : Rho) : List AV → List Value → Prop
  | [], l => l = []
  | x :: a, l => ∃ v r, l = v :: r ∧ RV ρ x v ∧ RVs ρ a r
end

structure Sub0 (ρ ρ' : Rho) : Prop where
  l : ∀ (b : Nat) (p : Nat × Nat), ρ.l[b]? = some p → ρ'.l[b]? = some p
  R : ∀ b X, ρ.R b = some X → ρ'.R b = some X
structure Sub (ρ ρ' : Rho) : Prop extends Sub0 ρ ρ' where
  z : ρ'.z = ρ.z
  N : ∀ b X, ρ'.R b = some X → ρ.R b = some X ∨ ρ.z ≤ b
theorem Sub.refl (ρ : Rho) : Sub ρ ρ := ⟨⟨fun _ _ h => h, fun _ _ h => h⟩, rfl, fun _ _ h => .inl h⟩
theorem Sub.trans {a b c : Rho} (h : Sub a b) (k : Sub b c) : Sub a c := ⟨⟨fun x p hx => k.l x p (h.l x p hx), fun x p hx => k.R x p (h.R x p hx)⟩, k.z.trans h.z, fun x X hx => by
  rcases k.N x X hx with h1 | h1
  · exact h.N x X h1
  · right; rw [h.z] at h1; exact h1⟩
theorem Sub.snoc (ρ : Rho) (p : Nat × Nat) : Sub ρ (ρ.snoc (p)) := ⟨⟨fun b q h => by
  rw [Rho.snoc_l, List.getElem?_append_left (List.getElem?_eq_some_iff.1 h).1]; exact h, fun _ _ h => h⟩, rfl, fun _ _ h => .inl h⟩

mutual
theorem RV.mono0 {ρ ρ' : Rho} (hs : Sub0 ρ ρ') : ∀ (x : AV) (v : Value), RV ρ x v → RV ρ' x v := by
  intro x v h
  cases x <;> simp only [RV] at h ⊢ <;> try exact h
  · obtain ⟨p, h1, h2⟩ := h; exact ⟨p, hs.l _ _ h1, h2⟩
  · obtain ⟨p, C, h1, h2⟩ := h; exact ⟨p, C, hs.l _ _ h1, h2⟩
  · obtain ⟨p, h1, h2⟩ := h; exact ⟨p, hs.l _ _ h1, h2⟩
  · obtain ⟨A, C, h1, h2, h3⟩ := h; exact ⟨A, C, h1, RVs.mono0 hs _ _ h2, RVs.mono0 hs _ _ h3⟩
  · obtain ⟨u, h1, h2⟩ := h; exact ⟨u, h1, RV.mono0 hs _ _ h2⟩
  · obtain ⟨A, h1, h2⟩ := h; exact ⟨A, h1, RVs.mono0 hs _ _ h2⟩
  · obtain ⟨A, h1, h2⟩ := h; exact ⟨A, h1, RVs.mono0 hs _ _ h2⟩
  · obtain ⟨A, C, h1, h2, h3, h4⟩ := h
    refine ⟨A, C, h1, h2, h3, ?_⟩
    rcases h4 with h4 | ⟨b, o, X, t, fr, a1, a2, a3⟩
    · exact .inl h4
    · exact .inr ⟨b, o, X, t, fr, a1, hs.R _ _ a2, RVs.mono0 hs _ _ a3⟩
  · obtain ⟨b, o, X, t, fr, a1, a2, a3⟩ := h
    exact ⟨b, o, X, t, fr, a1, hs.R _ _ a2, RVs.mono0 hs _ _ a3⟩
theorem RVs.mono0 {ρ ρ' : Rho} (hs : Sub0 ρ ρ') : ∀ (x : List AV) (v : List Value), RVs ρ x v → RVs ρ' x v
  | [], _, h => h
  | x :: a, l, h => by
    simp only [RVs] at h ⊢
    obtain ⟨v, r, h1, h2, h3⟩ := h
    exact ⟨v, r, h1, RV.mono0 hs _ _ h2, RVs.mono0 hs _ _ h3⟩
end
theorem RV.mono {ρ ρ' : Rho} (hs : Sub ρ ρ') (x : AV) (v : Value) (h : RV ρ x v) : RV ρ' x v := RV.mono0 hs.toSub0 x v h
theorem RVs.mono {ρ ρ' : Rho} (hs : Sub ρ ρ') (x : List AV) (v : List Value) (h : RVs ρ x v) : RVs ρ' x v := RVs.mono0 hs.toSub0 x v h

theorem RVs.length {ρ : Rho} : ∀ {x : List AV} {l : List Value}, RVs ρ x l → x.length = l.length
  | [], l, h => by simp only [RVs] at h; simp [h]
  | x :: a, l, h => by
    simp only [RVs] at h
    obtain ⟨v, r, rfl, _, h3⟩ := h
    simp [RVs.length h3]
theorem RVs.get {ρ : Rho} : ∀ {x : List AV} {l : List Value}, RVs ρ x l → ∀ {j : Nat} {v : AV}, x[j]? = some v → ∃ u, l[j]? = some u ∧ RV ρ v u
  | [], l, h, j, v, hj => by simp at hj
  | x :: a, l, h, j, v, hj => by
    simp only [RVs] at h
    obtain ⟨u, r, rfl, h2, h3⟩ := h
    cases j with
    | zero => simp only [List.getElem?_cons_zero, Option.some.injEq] at hj ⊢; subst hj; exact ⟨u, rfl, h2⟩
    | succ j => simp only [List.getElem?_cons_succ] at hj ⊢; exact RVs.get h3 hj
theorem RVs.of {ρ : Rho} : ∀ {x : List AV} {l : List Value}, x.length = l.length → (∀ (j : Nat) v, x[j]? = some v → ∃ u, l[j]? = some u ∧ RV ρ v u) → RVs ρ x l
  | [], [], _, _ => by simp [RVs]
  | [], _ :: _, h, _ => by simp at h
  | _ :: _, [], h, _ => by simp at h
  | x :: a, u :: l, h, k => by
    simp only [RVs]
    obtain ⟨u', h1, h2⟩ := k 0 x rfl
    simp only [List.getElem?_cons_zero, Option.some.injEq] at h1
    subst h1
    exact ⟨u, l, rfl, h2, RVs.of (by simpa using h) fun j v hj => by simpa using k (j + 1) v (by simpa using hj)⟩
theorem RVs.append {ρ : Rho} : ∀ {x y : List AV} {l m : List Value}, RVs ρ x l → RVs ρ y m → RVs ρ (x ++ y) (l ++ m)
  | [], y, l, m, h, k => by simp only [RVs] at h; subst h; exact k
  | x :: a, y, l, m, h, k => by
    simp only [RVs] at h
    obtain ⟨v, r, rfl, h2, h3⟩ := h
    simp only [List.cons_append, RVs]
    exact ⟨v, r ++ m, rfl, h2, RVs.append h3 k⟩
theorem RVs.take {ρ : Rho} {x : List AV} {l : List Value} (h : RVs ρ x l) (n : Nat) : RVs ρ (x.take n) (l.take n) := by
  refine RVs.of (by simp [h.length]) fun j v hj => ?_
  rw [List.getElem?_take] at hj ⊢
  split at hj
  · rename_i hlt
    rw [if_pos hlt]; exact h.get hj
  · simp at hj
theorem RVs.drop {ρ : Rho} {x : List AV} {l : List Value} (h : RVs ρ x l) (n : Nat) : RVs ρ (x.drop n) (l.drop n) := by
  refine RVs.of (by simp [h.length]) fun j v hj => ?_
  rw [List.getElem?_drop] at hj ⊢
  exact h.get hj
theorem RVs.xdrop {ρ : Rho} {l : List AV} {X : List Value} {o : Nat} (h : RVs ρ l ((X.drop o).take l.length)) (k : Nat) : RVs ρ (l.drop k) ((X.drop (o + k)).take (l.drop k).length) := by
  have := h.drop k
  rw [List.drop_take, List.drop_drop] at this
  rw [List.length_drop]
  exact this
theorem RVs.xtake {ρ : Rho} {l : List AV} {X : List Value} {o : Nat} (h : RVs ρ l ((X.drop o).take l.length)) (k : Nat) : RVs ρ (l.take k) ((X.drop o).take (l.take k).length) := by
  have := h.take k
  rw [List.take_take] at this
  rw [List.length_take]
  exact this
theorem RVs.one {ρ : Rho} {x : AV} {v : Value} (h : RV ρ x v) : RVs ρ [x] [v] := by simp only [RVs]; exact ⟨v, [], rfl, h, rfl⟩
theorem RVs.set {ρ : Rho} {x : List AV} {l : List Value} (h : RVs ρ x l) (i : Nat) {a : AV} {v : Value} (hv : RV ρ a v) : RVs ρ (x.set i a) (l.set i v) := by
  refine RVs.of (by simp [h.length]) fun j u hj => ?_
  rw [List.getElem?_set] at hj ⊢
  rw [← h.length]
  split at hj
  · rename_i e
    rw [if_pos e]
    split at hj
    · rename_i hlt
      rw [if_pos hlt]
      simp only [Option.some.injEq] at hj; subst hj; exact ⟨v, rfl, hv⟩
    · simp at hj
  · rename_i e
    rw [if_neg e]; exact h.get hj
theorem RVs.setRange {ρ : Rho} : ∀ {vs : List AV} {us : List Value} {x : List AV} {l : List Value} (o : Nat), RVs ρ x l → RVs ρ vs us → RVs ρ (setRange x o vs) (setRange l o us)
  | [], us, x, l, o, h, k => by simp only [RVs] at k; subst k; exact h
  | v :: vs, us, x, l, o, h, k => by
    simp only [RVs] at k
    obtain ⟨u, r, rfl, k2, k3⟩ := k
    exact RVs.setRange (o + 1) (h.set o k2) k3
theorem length_setRange {α : Type} : ∀ (vs l : List α) (o : Nat), (setRange l o vs).length = l.length
  | [], _, _ => rfl
  | v :: vs, l, o => by rw [setRange, length_setRange]; simp

theorem RV.one {ρ : Rho} {x : AV} {v : Value} (h : RV ρ x v) (hx : x.one = true) : v.oneCell' = true := by
  cases x <;> simp only [RV] at h <;> simp only [AV.one, Bool.false_eq_true] at hx
  · exact h.1
  · subst h; rfl
  · subst h; rfl
  · obtain ⟨s, rfl, _⟩ := h; rfl
  · obtain ⟨p, _, rfl⟩ := h; rfl
  · subst h; rfl
  · obtain ⟨p, C, _, rfl, _⟩ := h; rfl
  · subst h; rfl
  · obtain ⟨p, _, rfl⟩ := h; rfl
  · subst h; rfl
  · obtain ⟨A, C, rfl, _⟩ := h; rfl
  · subst h; rfl
  · obtain ⟨u, rfl, _⟩ := h; rfl
  · subst h; rfl
  · obtain ⟨A, C, rfl, _⟩ := h; rfl
  · obtain ⟨b, o, X, t, fr, rfl, _⟩ := h; rfl

theorem cells_one {v : Value} (h : v.oneCell' = true) : v.cells = #[v] := by cases v <;> first | rfl | simp [Value.oneCell'] at h

theorem RV.cells {ρ : Rho} {x : AV} {v : Value} (h : RV ρ x v) : RVs ρ x.cells v.cells.toList := by
  by_cases hx : x.one = true
  · have h1 := cells_one (h.one hx)
    rw [h1]
    have : x.cells = [x] := by cases x <;> first | rfl | simp [AV.one] at hx
    rw [this]
    exact RVs.one h
  · cases x <;> simp only [AV.one, not_true_eq_false] at hx
    · simp only [RV] at h; obtain ⟨A, rfl, h2⟩ := h; exact h2
    · have h' := h
      simp only [RV] at h; obtain ⟨A, rfl, h2⟩ := h
      exact RVs.one h'

mutual
theorem ofV_sound (ρ : Rho) : ∀ (v : Value) (x : AV), ofV v = some x → RV ρ x v := by
  intro v x h
  unfold ofV at h
  split at h
  · simp only [Option.some.injEq] at h; subst h; simp [RV]
  · simp only [Option.some.injEq] at h; subst h; simp [RV]
  · simp only [Option.some.injEq] at h; subst h; simp [RV]
  · simp only [Option.some.injEq] at h; subst h; simp [RV]
  · simp only [Option.some.injEq] at h; subst h; simp [RV]
  · simp only [Option.some.injEq] at h; subst h; simp [RV]
  · simp only [Option.some.injEq] at h; subst h; simp [RV]
  · simp only [Option.some.injEq] at h; subst h; simp [RV]
  · rename_i l
    cases hl : ofVs l with
    | none => simp [hl] at h
    | some a => simp only [hl, Option.map_some, Option.some.injEq] at h; subst h; simp only [RV]; exact ⟨l, rfl, ofVs_sound ρ l a hl⟩
  · rename_i l
    cases hl : ofVs l with
    | none => simp [hl] at h
    | some a => simp only [hl, Option.map_some, Option.some.injEq] at h; subst h; simp only [RV]; exact ⟨l, rfl, ofVs_sound ρ l a hl⟩
  · simp only [Option.some.injEq] at h; subst h; simp only [RV]; exact ⟨[], [], rfl, by simp [RVs], by simp [RVs]⟩
  · simp at h
theorem ofVs_sound (ρ : Rho) : ∀ (v : List Value) (x : List AV), ofVs v = some x → RVs ρ x v
  | [], x, h => by simp only [ofVs, Option.some.injEq] at h; subst h; simp [RVs]
  | v :: l, x, h => by
    unfold ofVs at h
    split at h
    · rename_i a ha
      split at h
      · rename_i b hb
        simp only [Option.some.injEq] at h; subst h
        simp only [RVs]; exact ⟨v, l, rfl, ofV_sound ρ v a ha, ofVs_sound ρ l b hb⟩
      · simp at h
    · simp at h
end
end Go.Ev
/- An evaluator of closed calls over abstract memory: states. -/
namespace Go.Ev
open Go.RowKit
set_option autoImplicit false
set_option linter.unusedSimpArgs false
set_option linter.unusedVariables false

def REs (ρ : Rho) : List (AV × AV × Nat) → List MapEntry → Prop
  | [], l => l = []
  | x :: a, l => ∃ e r, l = e :: r ∧ RV ρ x.1 e.key ∧ RV ρ x.2.1 e.val ∧ e.born = x.2.2 ∧ REs ρ a r

theorem REs.mono {ρ ρ' : Rho} (hs : Sub ρ ρ') : ∀ (x : List (AV × AV × Nat)) (v : List MapEntry), REs ρ x v → REs ρ' x v
  | [], _, h => h
  | x :: a, l, h => by
    obtain ⟨e, r, h1, h2, h3, h4, h5⟩ := h
    exact ⟨e, r, h1, h2.mono hs, h3.mono hs, h4, REs.mono hs _ _ h5⟩

def RO (ρ : Rho) (p : Nat × Nat) : AObj → Option Obj → Prop
  | .cells l t lo hi op, X => ∃ C fr, X = some (.cells C t fr) ∧ (∀ (j : Nat) v, l[j]? = some v → ∃ u, C[j]? = some u ∧ RV ρ v u) ∧
      (∀ j, fr.1 ≤ j → j < fr.2 → lo ≤ j ∧ j < hi) ∧ (match op with | none => C.size = l.length | some sz => C.size = p.2 * sz)
  | .map es c, X => ∃ E, X = some (.map ⟨E⟩ c) ∧ REs ρ es E
  | .miter m since seen last, X => ∃ M, X = some (.mapIter M since ⟨seen⟩ last) ∧ (match m with | none => M = none | some m => ∃ q, ρ.l[m]? = some q ∧ M = some q.1)
  | .siter s pos, X => ∃ S, X = some (.stringIter S pos) ∧ bytesN S = s

theorem RO.mono {ρ ρ' : Rho} (hs : Sub ρ ρ') {p : Nat × Nat} {o : AObj} {X : Option Obj} (h : RO ρ p o X) : RO ρ' p o X := by
  cases o with
  | cells l t lo hi op =>
    obtain ⟨C, fr, h1, h2, h3, h4⟩ := h
    exact ⟨C, fr, h1, fun j v hj => let ⟨u, a, b⟩ := h2 j v hj; ⟨u, a, b.mono hs⟩, h3, h4⟩
  | map es c =>
    obtain ⟨E, h1, h2⟩ := h
    exact ⟨E, h1, h2.mono hs⟩
  | miter m since seen last =>
    obtain ⟨M, h1, h2⟩ := h
    refine ⟨M, h1, ?_⟩
    cases m with
    | none => exact h2
    | some m => obtain ⟨q, a, b⟩ := h2; exact ⟨q, hs.l _ _ a, b⟩
  | siter s pos => exact h

/-- The state of the memory. -/
structure St (B : Nat) (w0 : World) (ρ : Rho) (h : AH) (w : World) : Prop where
  len : ρ.l.length = h.next
  below : Below B w0 w
  sz : B ≤ w.heap.size
  lt : ∀ (n : Nat) p, ρ.l[n]? = some p → p.1 < w.heap.size
  obj : ∀ n o, h.m.get n = some o → ∃ p, ρ.l[n]? = some p ∧ RO ρ p o w.heap[p.1]? ∧ B ≤ p.1
  inj : ∀ (n m : Nat) p q, (h.m.get n).isSome → (h.m.get m).isSome → ρ.l[n]? = some p → ρ.l[m]? = some q → p.1 = q.1 → n = m
  z : ρ.z ≤ B
  ro : ∀ b X, ρ.R b = some X → w.heap[b]? = some X ∧ ∀ (n : Nat) p, (h.m.get n).isSome → ρ.l[n]? = some p → p.1 ≠ b

def putB (w : World) (b : Nat) (X : Obj) : World := { w with heap := w.heap.setIfInBounds b X }

theorem putB_size (w : World) (b : Nat) (X : Obj) : (putB w b X).heap.size = w.heap.size := by simp [putB]
theorem putB_same (w : World) (b : Nat) (X : Obj) (h : b < w.heap.size) : (putB w b X).heap[b]? = some X := by simp [putB, h]
theorem putB_other (w : World) (b k : Nat) (X : Obj) (h : k ≠ b) : (putB w b X).heap[k]? = w.heap[k]? := by
  simp only [putB, Array.getElem?_setIfInBounds]
  rw [if_neg (by omega)]

theorem St.ro_lt {B : Nat} {w0 w : World} {ρ : Rho} {h : AH} (s : St B w0 ρ h w) {b : Nat} {X : Obj} (hb : ρ.R b = some X) : b < w.heap.size :=
  (Array.getElem?_eq_some_iff.1 (s.ro b X hb).1).1

theorem St.drew {B : Nat} {w0 w : World} {ρ : Rho} {h : AH} (s : St B w0 ρ h w) : St B w0 ρ h w.drew :=
  ⟨s.len, s.below.drew, s.sz, s.lt, s.obj, s.inj, s.z, s.ro⟩

/-- What a callee makes beside what is known disturbs nothing. -/
theorem St.beyond {B : Nat} {w0 w w' : World} {ρ : Rho} {h : AH} (s : St B w0 ρ h w) (hb : Below w.heap.size w w') : St B w0 ρ h w' :=
  ⟨s.len, s.below.trans (hb.mono s.sz), Nat.le_trans s.sz hb.size, fun n p hp => Nat.lt_of_lt_of_le (s.lt n p hp) hb.size,
   fun n o ho => let ⟨p, h1, h2, h3⟩ := s.obj n o ho; ⟨p, h1, by rw [hb.block _ (s.lt n p h1)]; exact h2, h3⟩, s.inj, s.z,
   fun b X h => ⟨by rw [hb.block _ (s.ro_lt h)]; exact (s.ro b X h).1, (s.ro b X h).2⟩⟩

/-- A new block. -/
theorem St.new {B : Nat} {w0 w : World} {ρ : Rho} {h : AH} (s : St B w0 ρ h w) (o : AObj) (κ : Nat) (X : Obj)
    (ho : RO (ρ.snoc ((w.heap.size, κ))) (w.heap.size, κ) o (some X)) : St B w0 (ρ.snoc ((w.heap.size, κ))) (new h o) (w.alloc X) := by
  have hsub := Sub.snoc ρ (w.heap.size, κ)
  have hlast : (ρ.snoc ((w.heap.size, κ))).l[ρ.l.length]? = some (w.heap.size, κ) := by simp
  have hold : ∀ (n : Nat) p, (ρ.snoc ((w.heap.size, κ))).l[n]? = some p → n ≠ ρ.l.length → ρ.l[n]? = some p := by
    intro n p hp hn
    rcases Nat.lt_or_ge n ρ.l.length with hlt | hge
    · rwa [Rho.snoc_l, List.getElem?_append_left hlt] at hp
    · have := (List.getElem?_eq_some_iff.1 hp).1
      simp at this; omega
  refine ⟨by simp [Go.Ev.new, s.len], s.below.alloc s.sz _, by simp; have := s.sz; omega, ?_, ?_, ?_, s.z, ?_⟩
  · intro n p hp
    by_cases hn : n = ρ.l.length
    · subst hn; rw [hlast] at hp; simp only [Option.some.injEq] at hp; subst hp; simp
    · have := s.lt n p (hold n p hp hn); simp; omega
  · intro n o' ho'
    simp only [Go.Ev.new, Tr.get_set] at ho'
    split at ho'
    · rename_i e
      simp only [Option.some.injEq] at ho'; subst ho'
      refine ⟨(w.heap.size, κ), by rw [e, ← s.len]; exact hlast, ?_, s.sz⟩
      show RO _ _ _ (w.alloc X).heap[w.heap.size]?
      rw [heap_alloc_new]; exact ho
    · obtain ⟨p, h1, h2, h3⟩ := s.obj n o' ho'
      refine ⟨p, hsub.l _ _ h1, ?_, h3⟩
      rw [heap_alloc_old _ _ _ (s.lt n p h1)]
      exact h2.mono hsub
  · intro n m p q hn hm hp hq hpq
    simp only [Go.Ev.new, Tr.get_set] at hn hm
    have key : ∀ (n : Nat) p, (if n = h.next then some o else h.m.get n).isSome → (ρ.snoc ((w.heap.size, κ))).l[n]? = some p → n ≠ ρ.l.length → (h.m.get n).isSome ∧ ρ.l[n]? = some p ∧ p.1 < w.heap.size := by
      intro n p hn hp hne
      rw [if_neg (by rw [← s.len]; exact hne)] at hn
      exact ⟨hn, hold n p hp hne, s.lt n p (hold n p hp hne)⟩
    by_cases e1 : n = ρ.l.length <;> by_cases e2 : m = ρ.l.length
    · omega
    · obtain ⟨_, _, hlt⟩ := key m q hm hq e2
      subst e1; rw [hlast] at hp; simp only [Option.some.injEq] at hp; subst hp
      simp at hpq; omega
    · obtain ⟨_, _, hlt⟩ := key n p hn hp e1
      subst e2; rw [hlast] at hq; simp only [Option.some.injEq] at hq; subst hq
      simp at hpq; omega
    · obtain ⟨a1, a2, _⟩ := key n p hn hp e1
      obtain ⟨b1, b2, _⟩ := key m q hm hq e2
      exact s.inj n m p q a1 b1 a2 b2 hpq
  · intro b Y hb
    have hlt := s.ro_lt hb
    refine ⟨by rw [heap_alloc_old _ _ _ hlt]; exact (s.ro b Y hb).1, ?_⟩
    intro n p hn hp
    by_cases e : n = ρ.l.length
    · subst e; rw [hlast] at hp; simp only [Option.some.injEq] at hp; subst hp; simp; omega
    · simp only [Go.Ev.new, Tr.get_set] at hn
      rw [if_neg (by rw [← s.len]; exact e)] at hn
      exact (s.ro b Y hb).2 n p hn (hold n p hp e)

/-- A known block is written. -/
theorem St.put {B : Nat} {w0 w : World} {ρ : Rho} {h : AH} (s : St B w0 ρ h w) {b : Nat} {p : Nat × Nat} (hb : (h.m.get b).isSome) (hp : ρ.l[b]? = some p) (o : AObj) (X : Obj)
    (ho : RO ρ p o (some X)) : St B w0 ρ (h.set b (some o)) (putB w p.1 X) := by
  have hB : B ≤ p.1 := by
    obtain ⟨o', ho'⟩ := Option.isSome_iff_exists.1 hb
    obtain ⟨q, h1, _, h3⟩ := s.obj b o' ho'
    rw [hp] at h1; simp only [Option.some.injEq] at h1; subst h1; exact h3
  have hlt := s.lt b p hp
  refine ⟨s.len, s.below.trans ⟨rfl, rfl, rfl, by rw [putB_size]; exact Nat.le_refl _, fun k hk => putB_other _ _ _ _ (by omega)⟩, by rw [putB_size]; exact s.sz, fun n q hq => by rw [putB_size]; exact s.lt n q hq, ?_, ?_, s.z, ?_⟩
  · intro n o' ho'
    simp only [AH.set, Tr.get_set] at ho'
    split at ho'
    · rename_i e; subst e
      simp only [Option.some.injEq] at ho'; subst ho'
      exact ⟨p, hp, by rw [putB_same _ _ _ hlt]; exact ho, hB⟩
    · rename_i e
      obtain ⟨q, h1, h2, h3⟩ := s.obj n o' ho'
      refine ⟨q, h1, ?_, h3⟩
      rw [putB_other _ _ _ _ (fun heq => e (s.inj n b q p (by rw [ho']; rfl) hb h1 hp heq))]
      exact h2
  · intro n m q r hn hm hq hr hqr
    have key : ∀ n, ((h.set b (some o)).m.get n).isSome → (h.m.get n).isSome := by
      intro n hn
      simp only [AH.set, Tr.get_set] at hn
      split at hn
      · rename_i e; subst e; exact hb
      · exact hn
    exact s.inj n m q r (key n hn) (key m hm) hq hr hqr
  · intro c Y hc
    refine ⟨by rw [putB_other _ _ _ _ (fun e => (s.ro c Y hc).2 b p hb hp e.symm)]; exact (s.ro c Y hc).1, ?_⟩
    intro n q hn hq
    refine (s.ro c Y hc).2 n q ?_ hq
    simp only [AH.set, Tr.get_set] at hn
    split at hn
    · rename_i e; subst e; exact hb
    · exact hn

/-- A block is given up for a new number over the same block (an append in place). -/
theorem St.renew {B : Nat} {w0 w : World} {ρ : Rho} {h : AH} (s : St B w0 ρ h w) {b : Nat} {p : Nat × Nat} (hb : (h.m.get b).isSome) (hp : ρ.l[b]? = some p) (o : AObj) (X : Obj)
    (ho : RO (ρ.snoc (p)) p o (some X)) : St B w0 (ρ.snoc (p)) (Go.Ev.new (h.set b none) o) (putB w p.1 X) := by
  have hsub := Sub.snoc ρ p
  have hB : B ≤ p.1 := by
    obtain ⟨o', ho'⟩ := Option.isSome_iff_exists.1 hb
    obtain ⟨q, h1, _, h3⟩ := s.obj b o' ho'
    rw [hp] at h1; simp only [Option.some.injEq] at h1; subst h1; exact h3
  have hlt := s.lt b p hp
  have hbl : b < ρ.l.length := (List.getElem?_eq_some_iff.1 hp).1
  have hlast : (ρ.snoc (p)).l[ρ.l.length]? = some p := by simp
  have hold : ∀ (n : Nat) q, (ρ.snoc (p)).l[n]? = some q → n ≠ ρ.l.length → ρ.l[n]? = some q := by
    intro n q hq hn
    rcases Nat.lt_or_ge n ρ.l.length with hlt | hge
    · rwa [Rho.snoc_l, List.getElem?_append_left hlt] at hq
    · have := (List.getElem?_eq_some_iff.1 hq).1
      simp at this; omega
  have hget : ∀ n, (Go.Ev.new (h.set b none) o).m.get n = if n = h.next then some o else if n = b then none else h.m.get n := by
    intro n; simp only [Go.Ev.new, AH.set, Tr.get_set]
  refine ⟨by simp [Go.Ev.new, AH.set, s.len], s.below.trans ⟨rfl, rfl, rfl, by rw [putB_size]; exact Nat.le_refl _, fun k hk => putB_other _ _ _ _ (by omega)⟩, by rw [putB_size]; exact s.sz, ?_, ?_, ?_, s.z, ?_⟩
  · intro n q hq
    rw [putB_size]
    by_cases hn : n = ρ.l.length
    · subst hn; rw [hlast] at hq; simp only [Option.some.injEq] at hq; subst hq; exact hlt
    · exact s.lt n q (hold n q hq hn)
  · intro n o' ho'
    rw [hget] at ho'
    split at ho'
    · rename_i e
      simp only [Option.some.injEq] at ho'; subst ho'
      exact ⟨p, by rw [e, ← s.len]; exact hlast, by rw [putB_same _ _ _ hlt]; exact ho, hB⟩
    · split at ho'
      · simp at ho'
      · rename_i e1 e2
        obtain ⟨q, h1, h2, h3⟩ := s.obj n o' ho'
        refine ⟨q, hsub.l _ _ h1, ?_, h3⟩
        rw [putB_other _ _ _ _ (fun heq => e2 (s.inj n b q p (by rw [ho']; rfl) hb h1 hp heq))]
        exact h2.mono hsub
  · intro n m q r hn hm hq hr hqr
    rw [hget] at hn hm
    have key : ∀ (n : Nat) q, (if n = h.next then some o else if n = b then none else h.m.get n).isSome → (ρ.snoc (p)).l[n]? = some q → n ≠ ρ.l.length → (h.m.get n).isSome ∧ ρ.l[n]? = some q ∧ n ≠ b := by
      intro n q hn hq hne
      rw [if_neg (by rw [← s.len]; exact hne)] at hn
      split at hn
      · simp at hn
      · rename_i e; exact ⟨hn, hold n q hq hne, e⟩
    by_cases e1 : n = ρ.l.length <;> by_cases e2 : m = ρ.l.length
    · omega
    · obtain ⟨a, b', c⟩ := key m r hm hr e2
      subst e1; rw [hlast] at hq; simp only [Option.some.injEq] at hq; subst hq
      exact absurd (s.inj m b r p a hb b' hp hqr.symm) c
    · obtain ⟨a, b', c⟩ := key n q hn hq e1
      subst e2; rw [hlast] at hr; simp only [Option.some.injEq] at hr; subst hr
      exact absurd (s.inj n b q p a hb b' hp hqr) c
    · obtain ⟨a1, a2, _⟩ := key n q hn hq e1
      obtain ⟨b1, b2, _⟩ := key m r hm hr e2
      exact s.inj n m q r a1 b1 a2 b2 hqr
  · intro c Y hc
    refine ⟨by rw [putB_other _ _ _ _ (fun e => (s.ro c Y hc).2 b p hb hp e.symm)]; exact (s.ro c Y hc).1, ?_⟩
    intro n q hn hq
    by_cases e : n = ρ.l.length
    · subst e; rw [hlast] at hq; simp only [Option.some.injEq] at hq; subst hq
      exact (s.ro c Y hc).2 b p hb hp
    · rw [hget, if_neg (by rw [← s.len]; exact e)] at hn
      split at hn
      · simp at hn
      · exact (s.ro c Y hc).2 n q hn (hold n q hq e)

/-- A block is given up, and another one is made. -/
theorem St.drop {B : Nat} {w0 w : World} {ρ : Rho} {h : AH} (s : St B w0 ρ h w) (b : Nat) : St B w0 ρ (h.set b none) w := by
  have key : ∀ n o, (h.set b none).m.get n = some o → h.m.get n = some o := by
    intro n o hn
    simp only [AH.set, Tr.get_set] at hn
    split at hn
    · simp at hn
    · exact hn
  have key' : ∀ n, ((h.set b none).m.get n).isSome → (h.m.get n).isSome := by
    intro n hn
    obtain ⟨o, ho⟩ := Option.isSome_iff_exists.1 hn
    rw [key n o ho]; rfl
  exact ⟨s.len, s.below, s.sz, s.lt, fun n o ho => s.obj n o (key n o ho), fun n m p q hn hm => s.inj n m p q (key' n hn) (key' m hm), s.z,
    fun c Y hc => ⟨(s.ro c Y hc).1, fun n p hn hp => (s.ro c Y hc).2 n p (key' n hn) hp⟩⟩

theorem St.congr {B : Nat} {w0 w : World} {ρ : Rho} {h h' : AH} (s : St B w0 ρ h w) (hn : h.next = h'.next) (hg : ∀ n, h.m.get n = h'.m.get n) : St B w0 ρ h' w :=
  ⟨s.len.trans hn, s.below, s.sz, s.lt, fun n o ho => s.obj n o (by rw [hg]; exact ho), fun n m p q h1 h2 => s.inj n m p q (by rw [hg]; exact h1) (by rw [hg]; exact h2), s.z,
   fun c Y hc => ⟨(s.ro c Y hc).1, fun n p hn hp => (s.ro c Y hc).2 n p (by rw [hg]; exact hn) hp⟩⟩

/-- Slots. -/
structure RT (ρ : Rho) (tm : T) (a : Act) : Prop where
  sz : a.tmps.size = tm.n
  df : a.defers = []
  get : ∀ t, RV ρ (tm.get t) (a.tmps.getD t undef)

theorem RT.mono {ρ ρ' : Rho} (hs : Sub ρ ρ') {tm : T} {a : Act} (h : RT ρ tm a) : RT ρ' tm a := ⟨h.sz, h.df, fun t => (h.get t).mono hs⟩

theorem opnd_sound {ρ : Rho} {tm : T} {a : Act} (h : RT ρ tm a) {x : Operand} {v : AV} (hx : opnd tm x = some v) : RV ρ v (a.eval x) := by
  cases x with
  | tmp t => simp only [opnd, Option.some.injEq] at hx; subst hx; exact h.get t
  | const c => exact ofV_sound ρ c v hx
  | global g => simp [opnd] at hx
  | func f => simp only [opnd, Option.some.injEq] at hx; subst hx; simp only [RV, Act.eval]; exact ⟨[], [], rfl, by simp [RVs], by simp [RVs]⟩

theorem opnds_sound {ρ : Rho} {tm : T} {a : Act} (h : RT ρ tm a) : ∀ {l : List Operand} {vs : List AV}, opnds tm l = some vs → RVs ρ vs (l.map a.eval)
  | [], vs, hx => by simp only [opnds, Option.some.injEq] at hx; subst hx; simp [RVs]
  | x :: l, vs, hx => by
    simp only [opnds] at hx
    split at hx
    · rename_i u us h1 h2
      simp only [Option.some.injEq] at hx; subst hx
      simp only [List.map_cons, RVs]
      exact ⟨_, _, rfl, opnd_sound h h1, opnds_sound h h2⟩
    · simp at hx

theorem setD_sound {ρ : Rho} {tm tm' : T} {a : Act} (h : RT ρ tm a) {d : Option Tmp} {v : AV} {u : Value} (hv : RV ρ v u) (hs : setD tm d v = some tm') : RT ρ tm' (a.put d u) := by
  cases d with
  | none => simp only [setD, Option.some.injEq] at hs; subst hs; exact h
  | some d =>
    simp only [setD] at hs
    split at hs
    · rename_i hlt
      simp only [Option.some.injEq] at hs; subst hs
      refine ⟨by simp [Act.put, h.sz], h.df, fun t => ?_⟩
      have hd : d < a.tmps.size := by rw [h.sz]; exact hlt
      simp only [T.get, Tr.get_set, Act.put]
      by_cases e : t = d
      · subst e
        simp only [if_true]
        have : (a.tmps.setIfInBounds t u).getD t undef = u := by
          simp [Array.getD, hd]
        rw [this]; exact hv
      · rw [if_neg e]
        have : (a.tmps.setIfInBounds d u).getD t undef = a.tmps.getD t undef := by
          simp only [Array.getD_eq_getD_getElem?, Array.getElem?_setIfInBounds]
          rw [if_neg (by omega)]
        rw [this]; exact h.get t
    · simp at hs
end Go.Ev
/- An evaluator of closed calls over abstract memory: blocks that are only read from now on. -/
namespace Go.Ev
open Go.RowKit
set_option autoImplicit false
set_option linter.unusedSimpArgs false
set_option linter.unusedVariables false
section
variable {B : Nat} {w0 : World}
/-! a block that is only read from now on -/
def Rho.freeze (ρ : Rho) (w : World) (k : Nat) : Rho := { ρ with R := fun b => if b = k then w.heap[k]? else ρ.R b }

theorem St.freeze {ρ : Rho} {h : AH} {w : World} (s : St B w0 ρ h w) {b : Nat} {o : AObj} (hb : h.m.get b = some o) {p : Nat × Nat} (hp : ρ.l[b]? = some p) : Sub ρ (ρ.freeze w p.1) ∧ St B w0 (ρ.freeze w p.1) (h.set b none) w := by
  obtain ⟨q, g1, g2, g3⟩ := s.obj b o hb
  rw [hp] at g1; simp only [Option.some.injEq] at g1; subst g1
  have hs : Sub ρ (ρ.freeze w p.1) := by
    refine ⟨⟨fun _ _ h => h, fun c X hc => ?_⟩, rfl, fun c X hc => ?_⟩
    · simp only [Rho.freeze]
      split
      · rename_i e; subst e
        exact absurd rfl ((s.ro _ X hc).2 b p (by rw [hb]; rfl) hp)
      · exact hc
    · simp only [Rho.freeze] at hc
      split at hc
      · rename_i e; subst e
        exact .inr (Nat.le_trans s.z g3)
      · exact .inl hc
  have sd := s.drop b
  refine ⟨hs, ⟨sd.len, sd.below, sd.sz, sd.lt, fun n o' ho => ?_, sd.inj, sd.z, fun c X hc => ?_⟩⟩
  · obtain ⟨q, k1, k2, k3⟩ := sd.obj n o' ho
    exact ⟨q, k1, k2.mono hs, k3⟩
  · simp only [Rho.freeze] at hc
    split at hc
    · rename_i e; subst e
      refine ⟨hc, fun n q hn hq => ?_⟩
      intro e
      have hn' : (h.m.get n).isSome ∧ n ≠ b := by
        simp only [AH.set, Tr.get_set] at hn
        split at hn
        · simp at hn
        · rename_i e; exact ⟨hn, e⟩
      exact hn'.2 (s.inj n b q p hn'.1 (by rw [hb]; rfl) hq hp e)
    · refine ⟨(s.ro c X hc).1, fun n q hn hq => ?_⟩
      refine (s.ro c X hc).2 n q ?_ hq
      simp only [AH.set, Tr.get_set] at hn
      split at hn
      · simp at hn
      · exact hn

theorem RVs.block {ρ : Rho} {l : List AV} {C : Array Value} (hc : ∀ (j : Nat) v, l[j]? = some v → ∃ u, C[j]? = some u ∧ RV ρ v u) (o k : Nat) : RVs ρ ((l.drop o).take k) ((C.toList.drop o).take ((l.drop o).take k).length) := by
  refine RVs.of ?_ fun j v hj => ?_
  · simp only [List.length_take, List.length_drop]
    by_cases hl : l.length = 0
    · simp [hl]
    · have hcl : C.toList.length = C.size := Array.length_toList
      obtain ⟨u, hu, _⟩ := hc (l.length - 1) l[l.length - 1] (List.getElem?_eq_getElem (by omega))
      have := (Array.getElem?_eq_some_iff.1 hu).1
      rw [hcl]
      show min k (l.length - o) = min (min k (l.length - o)) (C.size - o)
      omega
  · have hlt := (List.getElem?_eq_some_iff.1 hj).1
    rw [List.getElem?_take] at hj ⊢
    split at hj
    · rw [if_pos hlt]
      rw [List.getElem?_drop] at hj ⊢
      obtain ⟨u, hu, hr⟩ := hc _ _ hj
      exact ⟨u, by rw [Array.getElem?_toList]; exact hu, hr⟩
    · simp at hj

/-- a slice of a block that is given up: its content -/
theorem RV.frozen {ρ : Rho} {h : AH} {w : World} (s : St B w0 ρ h w) {b o e n : Nat} {c : Option Nat} {l : List AV} {t : TypeId} {lo hi : Nat} {op : Option Nat} (hb : h.m.get b = some (.cells l t lo hi op)) {p : Nat × Nat} (hp : ρ.l[b]? = some p) (k : Nat) {u : Value}
    (hv : RV ρ (.sl b o e n c) u) : RV (ρ.freeze w p.1) (.xsl n ((l.drop o).take k)) u := by
  obtain ⟨hsub, _⟩ := s.freeze hb hp
  simp only [RV] at hv ⊢
  obtain ⟨q, C, g1, rfl, g2, _⟩ := hv
  rw [hp] at g1; simp only [Option.some.injEq] at g1; subst g1
  obtain ⟨q, k1, ⟨D, fr, hX, hcs, _, _⟩, _⟩ := s.obj b _ hb
  rw [hp] at k1; simp only [Option.some.injEq] at k1; subst k1
  refine ⟨_, C, rfl, g2, fun h => by simp at h, .inr ⟨p.1, o, D, t, fr, rfl, by simp only [Rho.freeze, if_true]; exact hX, ?_⟩⟩
  exact RVs.block (fun j v hj => let ⟨u, a1, a2⟩ := hcs j v hj; ⟨u, a1, a2.mono hsub⟩) o k


/-- a new block that is only read -/
def Rho.read (ρ : Rho) (k : Nat) (X : Obj) : Rho := { ρ with R := fun b => if b = k then some X else ρ.R b }
theorem St.readNew {ρ : Rho} {h : AH} {w : World} (s : St B w0 ρ h w) (X : Obj) : Sub ρ (ρ.read w.heap.size X) ∧ St B w0 (ρ.read w.heap.size X) h (w.alloc X) := by
  have hs : Sub ρ (ρ.read w.heap.size X) := by
    refine ⟨⟨fun _ _ h => h, fun c Y hc => ?_⟩, rfl, fun c Y hc => ?_⟩
    · simp only [Rho.read]
      rw [if_neg (by have := s.ro_lt hc; omega)]; exact hc
    · simp only [Rho.read] at hc
      split at hc
      · rename_i e; subst e; exact .inr (Nat.le_trans s.z s.sz)
      · exact .inl hc
  refine ⟨hs, s.len, s.below.alloc s.sz _, by simp; have := s.sz; omega, fun n p hp => by have := s.lt n p hp; simp; omega, fun n o ho => ?_, s.inj, s.z, fun c Y hc => ?_⟩
  · obtain ⟨p, h1, h2, h3⟩ := s.obj n o ho
    refine ⟨p, h1, ?_, h3⟩
    rw [heap_alloc_old _ _ _ (s.lt n p h1)]
    exact h2.mono hs
  · simp only [Rho.read] at hc
    split at hc
    · rename_i e; subst e
      simp only [Option.some.injEq] at hc; subst hc
      exact ⟨heap_alloc_new _ _, fun n p hn hp => by have := s.lt n p hp; omega⟩
    · rw [heap_alloc_old _ _ _ (s.ro_lt hc)]
      exact s.ro c Y hc
end
end Go.Ev
/- An evaluator of closed calls over abstract memory: facts on types, loads and stores. -/
namespace Go.Ev
open Go.RowKit
set_option autoImplicit false
set_option linter.unusedSimpArgs false
set_option linter.unusedVariables false

variable {P : Program}

theorem TI.facts {t : TypeId} {ti : TI} (h : TI.of P t = some ti) :
    P.underlying t = some ti.und ∧ ti.agg = isAggD ti.und ∧ (∃ i, P.info? t = some i ∧ i.size = ti.size ∧ i.bytes = ti.bytes ∧ (ti.zero = i.zero.bind fun z => ofVs z.cells.toList) ∧ ti.zv = i.zero.bind ofV) ∧
    (∀ fs, ti.und = .struct fs → fieldsTI P fs.toList = some ti.flds) ∧
    (∀ ks, ti.eqk = some ks → ∃ fs, ti.und = .struct fs ∧ flatKinds P 0 fs.toList = some ks ∧ P.stoodInHeld t = false ∧ P.eqGuardType P.depth t = false) := by
  unfold TI.of at h
  split at h
  · rename_i i d hi hd
    split at h
    · rename_i fs hfs
      simp only [Option.some.injEq] at h
      subst h
      cases d with
      | struct fa =>
        refine ⟨hd, rfl, ⟨i, hi, rfl, rfl, rfl, rfl⟩, ?_, ?_⟩
        · intro fs' he
          simp only [TypeDesc.struct.injEq] at he
          subst he
          exact hfs
        · intro ks he
          simp only at he
          split at he
          · simp at he
          · rename_i hn
            simp only [Bool.or_eq_true, not_or, Bool.not_eq_true] at hn
            exact ⟨fa, rfl, he, hn.1, hn.2⟩
      | _ => exact ⟨hd, rfl, ⟨i, hi, rfl, rfl, rfl, rfl⟩, fun fs hf => by simp at hf, fun ks hf => by simp at hf⟩
    · simp at h
  · simp at h

structure EnvOK (P : Program) (E : Env) : Prop where
  fn : ∀ f g, E.fn f = some g → P.funcs[f]? = some g ∧ (g.name == "runtime.NumGoroutine") = false
  ty : ∀ t ti, E.ty t = some ti → TI.of P t = some ti
  lies : ∀ e k o u, E.lies e k o u = true → Go.liesAt P P.depth e k o u 1 = true
  mixed : P.follows .mixedOrders = true
  ext : ∀ f g args h v h', E.fn f = some g → g.body = none → E.ext f args h = some (v, h') → ∀ B w0 ρ w vs, St B w0 ρ h w → RVs ρ args vs →
    ∃ ρ' u w', Sub ρ ρ' ∧ St B w0 ρ' h' w' ∧ RV ρ' v u ∧ (callFunc f ⟨vs⟩).run P w = .ok (.value u) w'
  prim : ∀ f args h v h', E.prim f args h = some (some (v, h')) → ∀ B w0 ρ w vs, St B w0 ρ h w → RVs ρ args vs →
    Calls P f ⟨vs⟩ w fun e w' => ∃ u ρ', e = .returned u ∧ Sub ρ ρ' ∧ RV ρ' v u ∧ St B w0 ρ' h' w'

section
variable {E : Env} {t : TypeId} {ti : TI}
theorem ty_und (hE : EnvOK P E) (h : E.ty t = some ti) : P.underlying t = some ti.und := (TI.facts (hE.ty t ti h)).1
theorem ty_run (hE : EnvOK P E) (h : E.ty t = some ti) (w : World) : (underlying t).run P w = .ok ti.und w := run_underlying (ty_und hE h) w
theorem ty_info (hE : EnvOK P E) (h : E.ty t = some ti) : ∃ i, P.info? t = some i ∧ i.size = ti.size ∧ i.bytes = ti.bytes ∧ ti.zero = i.zero.bind fun z => ofVs z.cells.toList := by
  obtain ⟨i, h1, h2, h3, h4, _⟩ := (TI.facts (hE.ty t ti h)).2.2.1
  exact ⟨i, h1, h2, h3, h4⟩
theorem ty_zv (hE : EnvOK P E) (h : E.ty t = some ti) (w : World) {z : AV} (hz : ti.zv = some z) (ρ : Rho) : ∃ v, (zeroValue t).run P w = .ok v w ∧ RV ρ z v := by
  obtain ⟨i, h1, h2, h3, h4, h5⟩ := (TI.facts (hE.ty t ti h)).2.2.1
  rw [hz] at h5
  cases hv : i.zero with
  | none => simp [hv] at h5
  | some v =>
    rw [hv] at h5
    exact ⟨v, by simp [zeroValue, typeInfo, h1, hv], ofV_sound ρ _ _ h5.symm⟩
theorem ty_size (hE : EnvOK P E) (h : E.ty t = some ti) (w : World) : (sizeOf t).run P w = .ok ti.size w := by
  obtain ⟨i, h1, h2, _⟩ := ty_info hE h
  simp [sizeOf, typeInfo, h1, h2]
theorem ty_bytes (hE : EnvOK P E) (h : E.ty t = some ti) (w : World) : ∃ i, (typeInfo t).run P w = .ok i w ∧ i.bytes = ti.bytes ∧ i.size = ti.size := by
  obtain ⟨i, h1, h2, h3, _⟩ := ty_info hE h
  exact ⟨i, by simp [typeInfo, h1], h3, h2⟩
theorem ty_agg (hE : EnvOK P E) (h : E.ty t = some ti) (w : World) : (isAgg t).run P w = .ok ti.agg w := by
  have ha := (TI.facts (hE.ty t ti h)).2.1
  simp only [isAgg, Sem.run_bind, ty_run hE h w, Result.andThen_ok, ha]
  cases ti.und <;> rfl
theorem ty_zero (hE : EnvOK P E) (h : E.ty t = some ti) (w : World) {z : List AV} (hz : ti.zero = some z) (ρ : Rho) : ∃ v, (zeroValue t).run P w = .ok v w ∧ RVs ρ z v.cells.toList := by
  obtain ⟨i, h1, h2, h3, h4⟩ := ty_info hE h
  rw [hz] at h4
  cases hv : i.zero with
  | none => simp [hv] at h4
  | some v =>
    rw [hv] at h4
    exact ⟨v, by simp [zeroValue, typeInfo, h1, hv], ofVs_sound ρ _ _ h4.symm⟩
end

theorem add_mk (b o n : Nat) : (⟨b, o, none⟩ : Addr).add n = ⟨b, o + n, none⟩ := Addr.add_lit b o n

theorem cell_of_block {w : World} {b : Nat} {C : Array Value} {t : TypeId} {fr : Nat × Nat} (h : w.heap[b]? = some (.cells C t fr)) (j : Nat) : w.cell? ⟨b, j, none⟩ = C[j]? :=
  cell_of_row w b j C t fr h

/-- Cells that are known, read. -/
theorem load_sound {B : Nat} {w0 w : World} {ρ : Rho} {h : AH} (s : St B w0 ρ h w) {b o n : Nat} {l : List AV} (hl : loadN h b o n = some l) {p : Nat × Nat} (hp : ρ.l[b]? = some p) :
    ∃ us, RVs ρ l us ∧ us.length = n ∧ (loadCells ⟨p.1, o, none⟩ n).run P w = .ok ⟨us⟩ w := by
  unfold loadN at hl
  split at hl
  · rename_i cs t lo hi op hg
    unfold sliceL at hl
    simp only at hl
    split at hl
    · rename_i hlen
      simp only [Option.some.injEq] at hl
      obtain ⟨q, h1, ⟨C, fr, hX, hcs, hfr, hop⟩, h3⟩ := s.obj b _ hg
      rw [hp] at h1; simp only [Option.some.injEq] at h1; subst h1
      have hle : o + n ≤ C.size ∨ n = 0 := by
        by_cases hn : n = 0
        · exact .inr hn
        · left
          have hlt : o + n - 1 < cs.length := by simp at hlen; omega
          obtain ⟨u, hu, _⟩ := hcs (o + n - 1) cs[o + n - 1] (List.getElem?_eq_getElem hlt)
          have := (Array.getElem?_eq_some_iff.1 hu).1
          omega
      refine ⟨(C.toList.drop o).take n, ?_, ?_, ?_⟩
      · subst hl
        refine RVs.of ?_ ?_
        · rw [hlen]; simp; omega
        · intro j v hj
          rw [List.getElem?_take] at hj ⊢
          split at hj
          · rename_i hjn
            rw [if_pos hjn]
            rw [List.getElem?_drop] at hj ⊢
            obtain ⟨u, hu, hr⟩ := hcs _ _ hj
            exact ⟨u, by rw [Array.getElem?_toList]; exact hu, hr⟩
          · simp at hj
      · simp; omega
      · have hlen' : ((C.toList.drop o).take n).length = n := by simp; omega
        have := run_loadCells_list (P := P) w ⟨p.1, o, none⟩ ((C.toList.drop o).take n) (fun j v hj => by
          rw [add_mk, cell_of_block hX]
          rw [List.getElem?_take] at hj
          split at hj
          · rw [List.getElem?_drop, Array.getElem?_toList] at hj; exact hj
          · simp at hj)
        rw [hlen'] at this
        exact this
    · simp at hl
  · simp at hl

theorem load1_sound {B : Nat} {w0 w : World} {ρ : Rho} {h : AH} (s : St B w0 ρ h w) {b o : Nat} {v : AV} (hl : loadN h b o 1 = some [v]) {p : Nat × Nat} (hp : ρ.l[b]? = some p) :
    ∃ u, RV ρ v u ∧ (load ⟨p.1, o, none⟩).run P w = .ok u w := by
  unfold loadN at hl
  split at hl
  · rename_i cs t lo hi op hg
    unfold sliceL at hl
    simp only at hl
    split at hl
    · rename_i hlen
      simp only [Option.some.injEq] at hl
      obtain ⟨q, h1, ⟨C, fr, hX, hcs, hfr, hop⟩, h3⟩ := s.obj b _ hg
      rw [hp] at h1; simp only [Option.some.injEq] at h1; subst h1
      have hv : cs[o]? = some v := by
        have : ((cs.drop o).take 1)[0]? = some v := by rw [hl]; rfl
        rw [List.getElem?_take, if_pos (by omega), List.getElem?_drop] at this
        simpa using this
      obtain ⟨u, hu, hr⟩ := hcs _ _ hv
      exact ⟨u, hr, by rw [run_load, cell_of_block hX, hu]⟩
    · simp at hl
  · simp at hl

/-- Cells of a block that is only read. -/
theorem xload_sound {B : Nat} {w0 w : World} {ρ : Rho} {h : AH} (s : St B w0 ρ h w) {b o n : Nat} {l l' : List AV} {X : Array Value} {t : TypeId} {fr : Nat × Nat} (hR : ρ.R b = some (.cells X t fr))
    (hr : RVs ρ l ((X.toList.drop o).take l.length)) (hl : sliceL l 0 n = some l') :
    ∃ us, RVs ρ l' us ∧ us.length = n ∧ (∀ (j : Nat) v, us[j]? = some v → w.cell? ⟨b, o + j, none⟩ = some v) ∧ (loadCells ⟨b, o, none⟩ n).run P w = .ok ⟨us⟩ w := by
  unfold sliceL at hl
  simp only [List.drop_zero] at hl
  split at hl
  · rename_i hlen
    simp only [Option.some.injEq] at hl
    have hX := (s.ro b _ hR).1
    have hn : n ≤ l.length := by simp at hlen; omega
    have hk := hr.take n
    rw [hl, List.take_take, Nat.min_eq_left hn] at hk
    have hlen' : ((X.toList.drop o).take n).length = n := by rw [← hk.length, ← hl]; exact hlen
    have hc : ∀ (j : Nat) v, ((X.toList.drop o).take n)[j]? = some v → w.cell? ⟨b, o + j, none⟩ = some v := by
      intro j v hj
      rw [cell_of_block hX]
      rw [List.getElem?_take] at hj
      split at hj
      · rw [List.getElem?_drop, Array.getElem?_toList] at hj; exact hj
      · simp at hj
    refine ⟨(X.toList.drop o).take n, hk, hlen', hc, ?_⟩
    have := run_loadCells_list (P := P) w ⟨b, o, none⟩ ((X.toList.drop o).take n) (fun j v hj => by rw [add_mk]; exact hc j v hj)
    rw [hlen'] at this
    exact this
  · simp at hl

/-- A value read out of memory, whatever its type. -/
theorem loadV_sound {E : Env} (hE : EnvOK P E) {B : Nat} {w0 w : World} {ρ : Rho} {h : AH} (s : St B w0 ρ h w) {t : TypeId} {a v : AV} {x : Value} (hx : RV ρ a x) (hl : loadV E t a h = some v) :
    ∃ ad u, x = .pointer (some ad) ∧ RV ρ v u ∧ (loadVar t ad).run P w = .ok u w := by
  unfold loadV at hl
  split at hl
  · rename_i b o ti hty
    simp only [RV] at hx
    obtain ⟨p, hp, rfl⟩ := hx
    refine ⟨⟨p.1, o, none⟩, ?_⟩
    split at hl
    · rename_i hagg
      simp only [Option.map_eq_some_iff] at hl
      obtain ⟨l, hl, rfl⟩ := hl
      obtain ⟨us, h1, h2, h3⟩ := load_sound (P := P) s hl hp
      refine ⟨.agg ⟨us⟩, rfl, by simp only [RV]; exact ⟨us, rfl, h1⟩, ?_⟩
      simp only [loadVar, Sem.run_bind, ty_agg hE hty w, Result.andThen_ok, hagg, if_true, ty_size hE hty w, h3, Sem.run_pure]
    · rename_i hagg
      split at hl
      · rename_i v' hl'
        simp only [Option.some.injEq] at hl; subst hl
        obtain ⟨u, h1, h2⟩ := load1_sound (P := P) s hl' hp
        refine ⟨u, rfl, h1, ?_⟩
        simp only [loadVar, Sem.run_bind, ty_agg hE hty w, Result.andThen_ok, hagg, if_false, h2, Bool.false_eq_true]
      · simp at hl
  · rename_i l ti hty
    simp only [RV] at hx
    obtain ⟨b, o, X, t', fr, rfl, hR, hr⟩ := hx
    refine ⟨⟨b, o, none⟩, ?_⟩
    split at hl
    · rename_i hagg
      simp only [Option.map_eq_some_iff] at hl
      obtain ⟨l', hl, rfl⟩ := hl
      obtain ⟨us, h1, h2, _, h3⟩ := xload_sound (P := P) s hR hr hl
      refine ⟨.agg ⟨us⟩, rfl, by simp only [RV]; exact ⟨us, rfl, h1⟩, ?_⟩
      simp only [loadVar, Sem.run_bind, ty_agg hE hty w, Result.andThen_ok, hagg, if_true, ty_size hE hty w, h3, Sem.run_pure]
    · rename_i hagg
      split at hl
      · rename_i v' hl'
        simp only [Option.some.injEq] at hl; subst hl
        obtain ⟨us, h1, h2, h3, _⟩ := xload_sound (P := P) s hR hr hl'
        simp only [RVs] at h1
        obtain ⟨u, _, rfl, h1, rfl⟩ := h1
        refine ⟨u, rfl, h1, ?_⟩
        have hc : w.cell? ⟨b, o, none⟩ = some u := h3 0 u rfl
        simp only [loadVar, Sem.run_bind, ty_agg hE hty w, Result.andThen_ok, hagg, if_false, run_load, hc, Bool.false_eq_true]
      · simp at hl
  · simp at hl

theorem setCell_putB {w : World} {b j : Nat} {C : Array Value} {t : TypeId} {fr : Nat × Nat} (h : w.heap[b]? = some (.cells C t fr)) (v : Value) :
    w.setCell ⟨b, j, none⟩ v = putB w b (.cells (C.setIfInBounds j v) t fr) := by
  simp only [World.setCell, putB]
  congr 1
  apply Array.ext_getElem?
  intro k
  rw [Array.getElem?_modify, Array.getElem?_setIfInBounds]
  by_cases hk : k = b
  · subst hk
    obtain ⟨hlt, he⟩ := Array.getElem?_eq_some_iff.1 h
    simp [hlt, he]
  · rw [if_neg (by omega), if_neg (by omega)]

theorem putB_putB (w : World) (b : Nat) (X Y : Obj) : putB (putB w b X) b Y = putB w b Y := by
  simp [putB]

theorem putB_self {w : World} {b : Nat} {X : Obj} (h : w.heap[b]? = some X) : putB w b X = w := by
  unfold putB
  have : w.heap.setIfInBounds b X = w.heap := by
    apply Array.ext_getElem?
    intro k
    rw [Array.getElem?_setIfInBounds]
    split
    · rename_i e; subst e
      rw [if_pos (Array.getElem?_eq_some_iff.1 h).1, h]
    · rfl
  rw [this]

theorem run_storeCells {b o : Nat} {t : TypeId} {fr : Nat × Nat} : ∀ (vs : List Value) (i : Nat) (w : World) (C : Array Value), w.heap[b]? = some (.cells C t fr) → (∀ v ∈ vs, v.oneCell' = true) →
    o + i + vs.length ≤ C.size → (∀ j, o + i ≤ j → j < o + i + vs.length → ¬ (fr.1 ≤ j ∧ j < fr.2)) →
    (storeCells ⟨b, o, none⟩ vs i).run P w = .ok () (putB w b (.cells ⟨setRange C.toList (o + i) vs⟩ t fr))
  | [], i, w, C, hw, _, _, _ => by
    simp only [storeCells, Sem.run_pure, setRange]
    rw [putB_self hw]
  | v :: vs, i, w, C, hw, hv, hlen, hfr => by
    have hlt : o + i < C.size := by simp at hlen; omega
    have hb := (Array.getElem?_eq_some_iff.1 hw).1
    have hc : w.cell? ⟨b, o + i, none⟩ = some C[o + i] := by rw [cell_of_block hw]; exact Array.getElem?_eq_getElem hlt
    have hnf : w.frozen? ⟨b, o + i, none⟩ = false := by
      have := hfr (o + i) (by omega) (by simp)
      simp only [World.frozen?, hw]
      simp only [Bool.and_eq_false_iff, decide_eq_false_iff_not]
      omega
    have hst := run_store P w ⟨b, o + i, none⟩ v .plain (hv v (by simp))
    rw [hc] at hst
    simp only [hnf, Bool.false_eq_true, if_false] at hst
    simp only [storeCells, Sem.run_bind, add_mk, hst, Result.andThen_ok]
    rw [setCell_putB hw]
    have ih := run_storeCells (o := o) vs (i + 1) (putB w b (.cells (C.setIfInBounds (o + i) v) t fr)) (C.setIfInBounds (o + i) v) (putB_same _ _ _ hb) (fun u hu => hv u (by simp [hu])) (by simp at hlen ⊢; omega)
      (fun j h1 h2 => hfr j (by omega) (by simp; omega))
    rw [ih, putB_putB]
    simp only [setRange, Array.toList_setIfInBounds]
    rfl

/-- Cells that are known, written. -/
theorem store_sound {B : Nat} {w0 w : World} {ρ : Rho} {h h' : AH} (s : St B w0 ρ h w) {b o : Nat} {vs : List AV} {us : List Value} (hs : storeN h b o vs = some h') (hu : RVs ρ vs us) {p : Nat × Nat} (hp : ρ.l[b]? = some p) :
    ∃ w', (storeCells ⟨p.1, o, none⟩ us).run P w = .ok () w' ∧ St B w0 ρ h' w' := by
  unfold storeN at hs
  split at hs
  · rename_i l t lo hi op hg
    split at hs
    · rename_i hc
      obtain ⟨hlen, hone, hfz⟩ := okStore_iff hc
      simp only [Option.some.injEq] at hs; subst hs
      obtain ⟨q, h1, ⟨C, fr, hX, hcs, hfr, hop⟩, h3⟩ := s.obj b _ hg
      rw [hp] at h1; simp only [Option.some.injEq] at h1; subst h1
      have hul := hu.length
      have hC : l.length ≤ C.size := by
        by_cases hz : l.length = 0
        · omega
        · obtain ⟨u, hu', _⟩ := hcs (l.length - 1) l[l.length - 1] (List.getElem?_eq_getElem (by omega))
          have := (Array.getElem?_eq_some_iff.1 hu').1
          omega
      refine ⟨_, run_storeCells (P := P) (o := o) us 0 w C hX ?_ (by omega) ?_, ?_⟩
      · intro v hv
        obtain ⟨j, hj, rfl⟩ := List.getElem_of_mem hv
        have hj' : j < vs.length := by omega
        have ha := List.all_eq_true.1 hone vs[j] (List.getElem_mem hj')
        obtain ⟨u, hu1, hu2⟩ := hu.get (List.getElem?_eq_getElem hj')
        rw [List.getElem?_eq_getElem hj] at hu1
        simp only [Option.some.injEq] at hu1
        rw [hu1]
        exact hu2.one ha
      · intro j hj1 hj2 hc
        have := hfr j hc.1 hc.2
        omega
      · refine s.put (by rw [hg]; rfl) hp _ _ ⟨_, fr, rfl, ?_, hfr, ?_⟩
        · intro j v hj
          have hh : ∀ (vs : List AV) (us : List Value) (o : Nat) (l : List AV) (L : List Value), RVs ρ vs us → o + vs.length ≤ l.length → l.length ≤ L.length → (∀ (j : Nat) v, l[j]? = some v → ∃ u, L[j]? = some u ∧ RV ρ v u) →
              ∀ (j : Nat) v, (setRange l o vs)[j]? = some v → ∃ u, (setRange L o us)[j]? = some u ∧ RV ρ v u := by
            intro vs
            induction vs with
            | nil => intro us o l L hu _ _ hl j v hj; simp only [RVs] at hu; subst hu; exact hl j v hj
            | cons x vs ih =>
              intro us o l L hu hlen hLL hl j v hj
              simp only [RVs] at hu
              obtain ⟨u, r, rfl, h2, h3⟩ := hu
              refine ih r (o + 1) (l.set o x) (L.set o u) h3 (by simp at hlen ⊢; omega) (by simpa using hLL) ?_ j v hj
              intro j v hj
              rw [List.getElem?_set] at hj ⊢
              split at hj
              · rename_i e; subst e
                simp only [if_true]
                have ho : o < l.length := by simp at hlen; omega
                rw [if_pos ho] at hj
                simp only [Option.some.injEq] at hj; subst hj
                exact ⟨u, by rw [if_pos (by omega)], h2⟩
              · rename_i e
                rw [if_neg e]; exact hl j v hj
          have := hh vs us o l C.toList hu hlen (by simpa using hC) (fun j v hj => by
            obtain ⟨u, a, b⟩ := hcs j v hj
            exact ⟨u, by rw [Array.getElem?_toList]; exact a, b⟩) j v hj
          obtain ⟨u, a, b⟩ := this
          exact ⟨u, by rw [← Array.getElem?_toList]; exact a, b⟩
        · cases op with
          | none =>
            simp only at hop ⊢
            show (setRange C.toList (o + 0) us).length = (setRange l o vs).length
            rw [length_setRange, length_setRange]; simpa using hop
          | some sz =>
            simp only at hop ⊢
            show (setRange C.toList (o + 0) us).length = _
            rw [length_setRange]; simpa using hop
    · simp at hs
  · simp at hs

theorem storeV_sound {E : Env} (hE : EnvOK P E) {B : Nat} {w0 w : World} {ρ : Rho} {h h' : AH} (s : St B w0 ρ h w) {t : TypeId} {a v : AV} {x u : Value} (hx : RV ρ a x) (hv : RV ρ v u) (hs : storeV E t a v h = some h') :
    ∃ w', (Instr.storeAt t x u).run P w = .ok () w' ∧ St B w0 ρ h' w' := by
  unfold storeV at hs
  split at hs
  · rename_i b o ti hty
    simp only [RV] at hx
    obtain ⟨p, hp, rfl⟩ := hx
    split at hs
    · rename_i hlen
      obtain ⟨w', h1, h2⟩ := store_sound (P := P) s hs hv.cells hp
      refine ⟨w', ?_, h2⟩
      have hsz : u.cells.size = ti.size := by
        have := hv.cells.length
        simp at this; omega
      simp only [Instr.storeAt, Instr.sureAddr, Sem.run_bind, Sem.run_pure, Result.andThen_ok, storeVar, ty_size hE hty w, hsz]
      rw [if_neg (by simp)]
      simp only [Sem.run_pure, Result.andThen_ok, h1]
    · simp at hs
  · simp at hs
end Go.Ev
/- An evaluator of closed calls over abstract memory: operations, one by one (1). -/
namespace Go.Ev
open Go.RowKit
set_option autoImplicit false
set_option linter.unusedSimpArgs false
set_option linter.unusedVariables false

variable {P : Program}

/-- What an operation's outcome says of the model's run. -/
def OpOK (P : Program) (B : Nat) (w0 : World) (ρ : Rho) (o : Oper) (a : Act) (w : World) : Option Nx → Prop
  | none => True
  | some (.vals l) => ∃ p ∈ l, ∃ ρ' u w', Sub ρ ρ' ∧ St B w0 ρ' p.2 w' ∧ RV ρ' p.1 u ∧ ((execOp a.eval o).run P w = .ok (.value u) w' ∨ ((execOp a.eval o).run P w = .ok .skip w' ∧ u = undef))
  | some (.enter f args) => ∃ vs, RVs ρ args vs ∧ (execOp a.eval o).run P w = .ok (.enter f ⟨vs⟩) w

section
variable {E : Env} (hE : EnvOK P E) {B : Nat} {w0 w : World} {ρ : Rho} {h : AH} (s : St B w0 ρ h w) {tm : T} {a : Act} (r : RT ρ tm a) {o : Oper}

theorem ok_val {v : AV} {u : Value} (s : St B w0 ρ h w) (hr : (execOp a.eval o).run P w = .ok (.value u) w) (hv : RV ρ v u) : OpOK P B w0 ρ o a w (some (val v h)) :=
  ⟨(v, h), by simp, ρ, u, w, Sub.refl _, s, hv, .inl hr⟩

theorem ok_one {v : Option AV} (s : St B w0 ρ h w) (hv : ∀ x, v = some x → ∃ u, (execOp a.eval o).run P w = .ok (.value u) w ∧ RV ρ x u) : OpOK P B w0 ρ o a w (oneVal v h) := by
  cases v with
  | none => trivial
  | some x =>
    obtain ⟨u, h1, h2⟩ := hv x rfl
    exact ok_val s h1 h2

theorem ok_res {v : Option (AV × AH)} (hv : ∀ x h', v = some (x, h') → ∃ ρ' u w', Sub ρ ρ' ∧ St B w0 ρ' h' w' ∧ RV ρ' x u ∧ (execOp a.eval o).run P w = .ok (.value u) w') : OpOK P B w0 ρ o a w (oneRes v) := by
  cases v with
  | none => trivial
  | some x =>
    obtain ⟨x, h'⟩ := x
    obtain ⟨ρ', u, w', h1, h2, h3, h4⟩ := hv x h' rfl
    exact ⟨(x, h'), by simp, ρ', u, w', h1, h2, h3, .inl h4⟩

theorem ok_h {v : Option AH} (hv : ∀ h', v = some h' → ∃ w', St B w0 ρ h' w' ∧ (execOp a.eval o).run P w = .ok .skip w') : OpOK P B w0 ρ o a w (oneH v) := by
  cases v with
  | none => trivial
  | some h' =>
    obtain ⟨w', h2, h4⟩ := hv h' rfl
    exact ⟨(.tup [], h'), by simp, ρ, undef, w', Sub.refl _, h2, by simp only [RV]; exact ⟨[], rfl, by simp [RVs]⟩, .inr ⟨h4, rfl⟩⟩

theorem oMove_ok (s : St B w0 ρ h w) (r : RT ρ tm a) {x : Operand} (ho : o.op = .move x ∨ o.op = .assign x) : OpOK P B w0 ρ o a w (oMove x E tm h) := by
  refine ok_one s fun v hv => ⟨a.eval x, ?_, opnd_sound r hv⟩
  rcases ho with ho | ho <;> simp [execOp, ho]

theorem oPick_ok (s : St B w0 ρ h w) (r : RT ρ tm a) {c x y : Operand} (ho : o.op = .pick c x y) : OpOK P B w0 ρ o a w (oPick c x y E tm h) := by
  unfold oPick
  split
  · rename_i hc
    have := opnd_sound r hc
    simp only [RV] at this
    exact ok_one s fun v hv => ⟨a.eval x, by simp [execOp, ho, this, asBool], opnd_sound r hv⟩
  · rename_i hc
    have := opnd_sound r hc
    simp only [RV] at this
    exact ok_one s fun v hv => ⟨a.eval y, by simp [execOp, ho, this, asBool], opnd_sound r hv⟩
  · trivial

/-- A block of cells that are all known. -/
theorem ro_cells {ρ : Rho} {p : Nat × Nat} {l : List AV} {us : List Value} (t : TypeId) (h : RVs ρ l us) : RO ρ p (.cells l t 0 0 none) (some (.cells ⟨us⟩ t)) :=
  ⟨⟨us⟩, (0, 0), rfl, fun j v hj => by obtain ⟨u, a, b⟩ := h.get hj; exact ⟨u, by simpa using a, b⟩, fun j h1 h2 => by simp at h2, by simp [h.length]⟩

theorem ok_new {v : AV} {u : Value} (s : St B w0 ρ h w) (ob : AObj) (κ : Nat) (X : Obj) (ho : RO (ρ.snoc ((w.heap.size, κ))) (w.heap.size, κ) ob (some X))
    (hr : (execOp a.eval o).run P w = .ok (.value u) (w.alloc X)) (hv : RV (ρ.snoc ((w.heap.size, κ))) v u) : OpOK P B w0 ρ o a w (some (val v (new h ob))) :=
  ⟨(v, new h ob), by simp, _, u, _, Sub.snoc _ _, s.new ob κ X ho, hv, .inl hr⟩

theorem last_get (ρ : Rho) (s : St B w0 ρ h w) (p : Nat × Nat) : (ρ.snoc (p)).l[h.next]? = some p := by rw [← s.len]; simp

theorem oAlloc_ok (hE : EnvOK P E) (s : St B w0 ρ h w) {t : TypeId} (ho : o.op = .alloc t) : OpOK P B w0 ρ o a w (oAlloc t E tm h) := by
  unfold oAlloc
  split
  · rename_i ti hty
    split
    · rename_i z hz
      obtain ⟨v, h1, h2⟩ := ty_zero hE hty w hz (ρ.snoc ((w.heap.size, 0)))
      refine ok_new (u := .pointer (some ⟨w.heap.size, 0, none⟩)) s _ 0 (.cells v.cells t) ?_ ?_ ?_
      · have := ro_cells (p := (w.heap.size, 0)) t h2
        simpa using this
      · simp [execOp, ho, Instr.alloc, h1, newVar, newRow]
      · simp only [RV]; exact ⟨_, last_get ρ s _, rfl⟩
    · trivial
  · trivial

theorem oBox_ok (s : St B w0 ρ h w) (r : RT ρ tm a) {t : TypeId} {x : Operand} (ho : o.op = .box t x) : OpOK P B w0 ρ o a w (oBox t x E tm h) := by
  unfold oBox
  split
  · rename_i v hv
    have hx := opnd_sound r hv
    refine ok_new (u := .pointer (some ⟨w.heap.size, 0, none⟩)) s _ 0 (.cells (a.eval x).cells t) ?_ ?_ ?_
    · have := ro_cells (p := (w.heap.size, 0)) t ((hx.mono (Sub.snoc ρ (w.heap.size, 0))).cells)
      simpa using this
    · simp [execOp, ho, Instr.box, newVar, newRow]
    · simp only [RV]; exact ⟨_, last_get ρ s _, rfl⟩
  · trivial

theorem oLoad_ok (hE : EnvOK P E) (s : St B w0 ρ h w) (r : RT ρ tm a) {t : TypeId} {x : Operand} (ho : o.op = .load t x) : OpOK P B w0 ρ o a w (oLoad t x E tm h) := by
  unfold oLoad
  split
  · rename_i av hx
    refine ok_one s fun v hv => ?_
    obtain ⟨ad, u, h1, h2, h3⟩ := loadV_sound hE s (opnd_sound r hx) hv
    exact ⟨u, by simp [execOp, ho, Instr.loadAt, h1, Instr.sureAddr, h3], h2⟩
  · trivial

theorem oStore_ok (hE : EnvOK P E) (s : St B w0 ρ h w) (r : RT ρ tm a) {t : TypeId} {x y : Operand} (ho : o.op = .store t x y) : OpOK P B w0 ρ o a w (oStore t x y E tm h) := by
  unfold oStore
  split
  · rename_i av v hx hy
    refine ok_h fun h' hs => ?_
    obtain ⟨w', h1, h2⟩ := storeV_sound hE s (opnd_sound r hx) (opnd_sound r hy) hs
    exact ⟨w', h2, by simp [execOp, ho, h1]⟩
  · trivial

theorem oNil_ok (s : St B w0 ρ h w) (r : RT ρ tm a) {x : Operand} (ho : o.op = .nilCheck x) : OpOK P B w0 ρ o a w (oNil x E tm h) := by
  unfold oNil
  split
  · rename_i b off hx
    have hv := opnd_sound r hx
    have hv' := hv
    simp only [RV] at hv
    obtain ⟨p, _, he⟩ := hv
    exact ok_val (u := a.eval x) s (by simp only [execOp, ho, he]; rfl) hv'
  · rename_i l hx
    have hv := opnd_sound r hx
    have hv' := hv
    simp only [RV] at hv
    obtain ⟨b, off, X, t', fr, he, _⟩ := hv
    exact ok_val (u := a.eval x) s (by simp only [execOp, ho, he]; rfl) hv'
  · rename_i f c d hx
    have hv := opnd_sound r hx
    have hv' := hv
    simp only [RV] at hv
    obtain ⟨A, C, he, _⟩ := hv
    exact ok_val (u := a.eval x) s (by simp only [execOp, ho, he]; rfl) hv'
  · trivial

theorem oUn_ok (s : St B w0 ρ h w) (r : RT ρ tm a) {op : UnOp} {t : TypeId} {x : Operand} (ho : o.op = .unOp op t x) : OpOK P B w0 ρ o a w (oUn op x E tm h) := by
  unfold oUn
  split
  · rename_i av hx
    have hv := opnd_sound r hx
    refine ok_one s fun v hv' => ?_
    unfold unV at hv'
    split at hv'
    · simp only [Option.some.injEq] at hv'; subst hv'
      simp only [RV] at hv
      exact ⟨_, by simp only [execOp, ho, hv, Op.unary]; rfl, rfl⟩
    · simp only [Option.some.injEq] at hv'; subst hv'
      simp only [RV] at hv
      exact ⟨_, by simp only [execOp, ho, hv, Op.unary, Op.intArith]; rfl, rfl⟩
    · simp at hv'
  · trivial

theorem oIface_ok (hE : EnvOK P E) (s : St B w0 ρ h w) (r : RT ρ tm a) {t : TypeId} {x : Operand} (ho : o.op = .makeInterface t x) : OpOK P B w0 ρ o a w (oIface t x E tm h) := by
  unfold oIface
  split
  · rename_i ti v hty hx
    split
    · trivial
    · rename_i hn
      refine ok_val (u := .iface t (a.eval x)) s ?_ (by simp only [RV]; exact ⟨_, rfl, opnd_sound r hx⟩)
      simp only [execOp, ho, Instr.makeInterface, Sem.run_bind, ty_run hE hty w, Result.andThen_ok]
      cases hu : ti.und <;> first | rfl | exact absurd hu (hn _)
  · trivial

theorem oFunc_ok (s : St B w0 ρ h w) (r : RT ρ tm a) {fn : Fn} {x y : Array Operand} (ho : o.op = .makeFunc fn x y) : OpOK P B w0 ρ o a w (oFunc fn x y E tm h) := by
  unfold oFunc
  split
  · rename_i f b c hx hy
    have h1 := opnds_sound r hx
    have h2 := opnds_sound r hy
    refine ok_val (u := .func (.func f) (x.map a.eval) (y.map a.eval)) s (by simp only [execOp, ho, Instr.makeFunc]; rfl) ?_
    simp only [RV]
    exact ⟨x.toList.map a.eval, y.toList.map a.eval, by rw [show x.map a.eval = ⟨x.toList.map a.eval⟩ from Array.ext' (by simp), show y.map a.eval = ⟨y.toList.map a.eval⟩ from Array.ext' (by simp)], h1, h2⟩
  · trivial

theorem oMakeMap_ok (s : St B w0 ρ h w) {t : TypeId} {x : Option Operand} (ho : o.op = .makeMap t x) : OpOK P B w0 ρ o a w (oMakeMap x E tm h) := by
  unfold oMakeMap
  split
  · refine ok_new (u := .map (some w.heap.size)) s _ 0 (.map #[] 0) ⟨[], rfl, by simp [REs]⟩ ?_ ?_
    · simp [execOp, ho, Instr.makeMap]
    · simp only [RV]; exact ⟨_, last_get ρ s _, rfl⟩
  · trivial

theorem oExtract_ok (s : St B w0 ρ h w) (r : RT ρ tm a) {x : Operand} {i : Nat} (ho : o.op = .extract x i) : OpOK P B w0 ρ o a w (oExtract x i E tm h) := by
  unfold oExtract
  split
  · rename_i l hx
    have hv := opnd_sound r hx
    simp only [RV] at hv
    obtain ⟨A, he, hl⟩ := hv
    refine ok_one s fun v hv => ?_
    obtain ⟨u, h1, h2⟩ := hl.get hv
    exact ⟨u, by simp [execOp, ho, he, Instr.extract, h1], h2⟩
  · trivial
end
end Go.Ev
