/- Walks over abstract memory: slices of one's own, the program's data, arguments opened. Conditions: a table of the program (EnvOK). -/
import Derived.Test.YtkoijkcjnppamaaGreatDoorEv7
import Derived.Test.YtkoijkcjnppamaaGreatDoorWb
import Derived.Deep.Slices
import Derived.Carry
/- Walks over abstract memory: what is appended to nil is only read from then on. -/
namespace Go.Ev
set_option linter.unusedVariables false
set_option autoImplicit false
noncomputable section
def frzOn (E : Env) : Env := { E with frz := true }
theorem frzOn_ok {P : Program} {E : Env} (h : EnvOK P E) : EnvOK P (frzOn E) := ⟨h.fn, h.ty, h.lies, h.mixed, h.ext, h.prim⟩
theorem frzOn_frz (E : Env) : (frzOn E).frz = true := rfl
theorem frzOn_ty (E : Env) (t : Nat) : (frzOn E).ty t = E.ty t := rfl
theorem frzOn_fn (E : Env) (t : Nat) : (frzOn E).fn t = E.fn t := rfl
theorem frzOn_cv (E : Env) (f : Nat) (args : List AV) (h : AH) : callV (frzOn E) f args h = callV E f args h := rfl
attribute [go_sem] frzOn_frz frzOn_ty frzOn_cv
end
end Go.Ev
/- Walks over abstract memory: slices of the call's own that are appended to; cells of slices that are only read. -/
namespace Go.Ev
open Go.RowKit
set_option autoImplicit false
set_option linter.unusedSimpArgs false
set_option linter.unusedVariables false
noncomputable section

/-- a slice of the call's own: nil, or one that begins a block whose capacity is the tape's -/
def OwnL (h : AH) (v : AV) (e : TypeId) (sz : Nat) (n : Nat) (l : List AV) : Prop :=
  (v = .nsl ∧ n = 0 ∧ l = []) ∨ ∃ b, v = .sl b 0 0 n none ∧ h.m.get b = some (.cells l e 0 0 (some sz)) ∧ l.length = n * sz ∧ b < h.next

/-- other blocks stay -/
def Keeps (h h' : AH) (v : AV) : Prop := h.next ≤ h'.next ∧ ∀ j, j < h.next → (∀ o e n c, v ≠ .sl j o e n c) → h'.m.get j = h.m.get j

theorem new_get (h : AH) (o : AObj) (j : Nat) : (new h o).m.get j = if j = h.next then some o else h.m.get j := by simp only [new, Tr.get_set]
theorem new_next (h : AH) (o : AObj) : (new h o).next = h.next + 1 := rfl
theorem set_get (h : AH) (b : Nat) (o : Option AObj) (j : Nat) : (h.set b o).m.get j = if j = b then o else h.m.get j := by simp only [AH.set, Tr.get_set]
theorem set_next (h : AH) (b : Nat) (o : Option AObj) : (h.set b o).next = h.next := rfl
theorem h0_get (j : Nat) : h0.m.get j = none := Tr.get_e j
theorem h0_next : h0.next = 0 := rfl

theorem OwnL.nsl (h : AH) (e : TypeId) (sz : Nat) : OwnL h .nsl e sz 0 [] := .inl ⟨rfl, rfl, rfl⟩
theorem OwnL.len {h : AH} {v : AV} {e : TypeId} {sz n : Nat} {l : List AV} (ho : OwnL h v e sz n l) : l.length = n * sz := by
  rcases ho with ⟨rfl, rfl, rfl⟩ | ⟨b, rfl, h1, h2, h3⟩
  · simp
  · exact h2
theorem OwnL.new {h : AH} {v : AV} {e : TypeId} {sz n : Nat} {l : List AV} (ho : OwnL h v e sz n l) (o : AObj) : OwnL (new h o) v e sz n l := by
  rcases ho with ⟨rfl, rfl, rfl⟩ | ⟨b, rfl, h1, h2, h3⟩
  · exact .nsl _ _ _
  · exact .inr ⟨b, rfl, by rw [new_get, if_neg (by omega)]; exact h1, h2, by rw [new_next]; omega⟩
theorem OwnL.keep {h h' : AH} {v x : AV} {e : TypeId} {sz n : Nat} {l : List AV} (ho : OwnL h v e sz n l) (hk : Keeps h h' x) (hne : ∀ j o e n c o' e' n' c', v = .sl j o e n c → x ≠ .sl j o' e' n' c') : OwnL h' v e sz n l := by
  rcases ho with ⟨rfl, rfl, rfl⟩ | ⟨b, rfl, h1, h2, h3⟩
  · exact .nsl _ _ _
  · exact .inr ⟨b, rfl, by rw [hk.2 b h3 fun o e n c => hne b _ _ _ _ o e n c rfl]; exact h1, h2, Nat.lt_of_lt_of_le h3 hk.1⟩

/-- what was there is as it was -/
structure Ext (h h' : AH) : Prop where
  next : h.next ≤ h'.next
  get : ∀ j, j < h.next → h'.m.get j = h.m.get j
theorem Ext.refl (h : AH) : Ext h h := ⟨Nat.le_refl _, fun _ _ => rfl⟩
theorem Ext.trans {a b c : AH} (h1 : Ext a b) (h2 : Ext b c) : Ext a c := ⟨Nat.le_trans h1.next h2.next, fun j hj => (h2.get j (Nat.lt_of_lt_of_le hj h1.next)).trans (h1.get j hj)⟩
theorem Ext.new {h h' : AH} (e : Ext h h') (o : AObj) : Ext h (new h' o) := ⟨Nat.le_succ_of_le e.next, fun j hj => by rw [new_get, if_neg (by have := e.next; omega)]; exact e.get j hj⟩
theorem Ext.set {h h' : AH} (e : Ext h h') {j : Nat} (hj : h.next ≤ j) (o : Option AObj) : Ext h (h'.set j o) := ⟨e.next, fun i hi => by rw [set_get, if_neg (by omega)]; exact e.get i hi⟩
theorem OwnL.ext {h h' : AH} {v : AV} {e : TypeId} {sz n : Nat} {l : List AV} (ho : OwnL h v e sz n l) (he : Ext h h') : OwnL h' v e sz n l := by
  rcases ho with ⟨rfl, rfl, rfl⟩ | ⟨b, rfl, h1, h2, h3⟩
  · exact .nsl _ _ _
  · exact .inr ⟨b, rfl, by rw [he.get b h3]; exact h1, h2, Nat.lt_of_lt_of_le h3 he.next⟩

theorem OwnL.one {h : AH} {v : AV} {e : TypeId} {sz n : Nat} {l : List AV} (ho : OwnL h v e sz n l) : AV.one v = true := by
  rcases ho with ⟨rfl, rfl, rfl⟩ | ⟨b, rfl, h1, h2, h3⟩
  · rfl
  · rfl
theorem OwnL.set {h : AH} {v : AV} {e : TypeId} {sz n : Nat} {l : List AV} (ho : OwnL h v e sz n l) (j : Nat) (x : Option AObj) (hne : ∀ o e n c, v ≠ .sl j o e n c) : OwnL (h.set j x) v e sz n l := by
  rcases ho with ⟨rfl, rfl, rfl⟩ | ⟨b, rfl, h1, h2, h3⟩
  · exact .nsl _ _ _
  · exact .inr ⟨b, rfl, by rw [set_get, if_neg (fun e => hne _ _ _ _ (by rw [e]))]; exact h1, h2, h3⟩

/-- .. only read from now on -/
def OwnL.gone (h : AH) : AV → AH
  | .sl b _ _ _ _ => h.set b none
  | _ => h
theorem OwnL.freeze {B : Nat} {w0 : World} {h : AH} {v : AV} {e : TypeId} {sz n : Nat} {l : List AV} (ho : OwnL h v e sz n l) : CV B w0 v h (.xsl n l) (OwnL.gone h v) := by
  rcases ho with ⟨rfl, rfl, rfl⟩ | ⟨b, rfl, h1, h2, h3⟩
  · exact CV.nsl h
  · have := CV.freeze (B := B) (w0 := w0) (b := b) (o := 0) (e := 0) (n := n) (c := none) h1 l.length
    simpa [OwnL.gone] using this

/-- append to a slice of the call's own -/
theorem append_own {E : Env} {t t2 e : TypeId} {tt t2' ti : TI} {z : List AV} {h : AH} {v x : AV} {n m : Nat} {l nw : List AV} (ht : E.ty t = some tt) (htu : tt.und = .slice e) (ht2 : E.ty t2 = some t2') (hnd : ∀ k, t2'.und ≠ .int k) (hte : E.ty e = some ti) (hz : ti.zero = some z)
    (hzl : z.length = ti.size) (hown : OwnL h v e ti.size n l) (hlen : lenV x = some m) (hcon : contentV ti.size m h x = some nw) (h1 : nw.all AV.one = true) (h2 : nw.length = m * ti.size) (hm : 0 < m) (hb : (n + m) * ti.bytes ≤ roomN ∧ n + m ≤ roomN) :
    ∃ v' h', appendV E t t2 v x h = some (v', h') ∧ OwnL h' v' e ti.size (n + m) (l ++ nw) ∧ Keeps h h' v ∧ v' = .sl h.next 0 0 (n + m) none ∧ h'.next = h.next + 1 := by
  obtain ⟨und, s1, s2, s3, s4, s5, s6, s7⟩ := tt
  simp only at htu
  subst htu
  unfold appendV
  rw [ht, ht2]
  simp only
  have hm0 : m ≠ 0 := by omega
  simp only [hte, hlen, hz, hcon]
  rw [if_pos ⟨hzl, h1, h2⟩]
  rcases hown with ⟨rfl, rfl, rfl⟩ | ⟨b, rfl, g1, g2, g3⟩
  · simp only
    rw [if_neg hm0, if_pos (by simpa using hb)]
    refine ⟨_, _, rfl, .inr ⟨h.next, by simp, ?_, by simpa using h2, by simp [Go.Ev.new]⟩, ⟨by simp [Go.Ev.new], fun j hj _ => by rw [new_get, if_neg (by omega)]⟩, by simp, rfl⟩
    rw [new_get, if_pos rfl]; simp
  · simp only
    rw [if_neg hm0, if_pos hb]
    simp only [g1]
    rw [if_pos (by simp [g2])]
    have htake : List.take (n * ti.size) l = l := List.take_of_length_le (by rw [g2]; exact Nat.le_refl _)
    refine ⟨_, _, rfl, .inr ⟨h.next, rfl, ?_, ?_, by simp [Go.Ev.new, AH.set]⟩, ⟨by simp [Go.Ev.new, AH.set], fun j hj hne => ?_⟩, rfl, rfl⟩
    · rw [new_get, set_next, if_pos rfl, htake]
    · rw [List.length_append, g2, h2, Nat.add_mul]
    · rw [new_get, set_next, if_neg (by omega), set_get, if_neg]
      intro e; subst e
      exact hne _ _ _ _ rfl

theorem W.append {P : Program} {E : Env} {B : Nat} {w0 : World} {F : T → AH → Prop} {d : Option Tmp} {tm : T} {t t2 e : TypeId} {tt t2' ti : TI} {z : List AV} {h h1 : AH} {v x : AV} {n m : Nat} {l nw : List AV} (hown : OwnL h v e ti.size n l)
    (ht : E.ty t = some tt) (htu : tt.und = .slice e) (ht2 : E.ty t2 = some t2') (hnd : ∀ k, t2'.und ≠ .int k) (hte : E.ty e = some ti) (hz : ti.zero = some z)
    (hzl : z.length = ti.size) (hlen : lenV x = some m) (hcon : contentV ti.size m h x = some nw) (ho : nw.all AV.one = true) (h2 : nw.length = m * ti.size) (hm : 0 < m) (hb : (n + m) * ti.bytes ≤ roomN ∧ n + m ≤ roomN)
    (hK : ∀ h', OwnL h' (.sl h.next 0 0 (n + m) none) e ti.size (n + m) (l ++ nw) → Keeps h h' v → h'.next = h.next + 1 → putW F d tm (.sl h.next 0 0 (n + m) none) h') :
    nxW P B w0 F d tm h1 (oneRes (appendV E t t2 v x h)) := by
  obtain ⟨v', h', e1, e2, e3, e4, e5⟩ := append_own ht htu ht2 hnd hte hz hzl hown hlen hcon ho h2 hm hb
  subst e4
  rw [e1]
  simp only [oneRes, nxW_val]
  exact hK h' e2 e3 e5

/-- append of one element to a slice of the call's own -/
theorem W.append1 {P : Program} {E : Env} {B : Nat} {w0 : World} {F : T → AH → Prop} {d : Option Tmp} {tm : T} {t e : TypeId} {tt ti : TI} {z : List AV} {h h1 : AH} {v : AV} {n : Nat} {l nw : List AV} (hown : OwnL h v e ti.size n l)
    (ht : E.ty t = some tt) (htu : tt.und = .slice e) (hte : E.ty e = some ti) (hz : ti.zero = some z)
    (hzl : z.length = ti.size) (ho : nw.all AV.one = true) (h2 : nw.length = ti.size) (hby : ti.bytes ≤ 1000) (hn : n < 10000000)
    (hK : ∀ h', OwnL h' (.sl (h.next + 1) 0 0 (n + 1) none) e ti.size (n + 1) (l ++ nw) → Keeps h h' v → h'.next = h.next + 2 → putW F d tm (.sl (h.next + 1) 0 0 (n + 1) none) h') :
    nxW P B w0 F d tm h1 (oneRes (appendV E t t v (.sl h.next 0 0 1 (some 1)) (new h (.cells nw e 0 0 none)))) := by
  have hl : loadN (new h (.cells nw e 0 0 none)) h.next 0 (1 * ti.size) = some nw := by
    unfold loadN
    rw [new_get, if_pos rfl]
    simp [sliceL, h2, List.take_of_length_le (Nat.le_of_eq h2)]
  have hr : (n + 1) * ti.bytes ≤ roomN ∧ n + 1 ≤ roomN := by
    have : (n + 1) * ti.bytes ≤ 10000000 * 1000 := Nat.mul_le_mul (by omega) hby
    unfold roomN
    omega
  refine W.append (hown.new _) ht htu ht (fun k => by rw [htu]; simp) hte hz hzl (x := .sl h.next 0 0 1 (some 1)) (m := 1) rfl hl ho (by omega) (by omega) hr fun h' g1 g2 g3 => hK h' g1 ⟨?_, fun j hj hne => ?_⟩ (by rw [g3]; rfl)
  · rw [g3]; simp only [new_next]; omega
  · rw [g2.2 j (by rw [new_next]; omega) hne, new_get, if_neg (by omega)]

theorem sliceL_drop1 (l : List AV) (i : Nat) : sliceL (List.drop i l) 0 1 = match l[i]? with | some v => some [v] | none => none := by
  have e : List.take 1 (List.drop i l) = match l[i]? with | some v => [v] | none => [] := by
    by_cases h : i < l.length
    · rw [List.getElem?_eq_getElem h, List.drop_eq_getElem_cons h]
      rfl
    · rw [List.getElem?_eq_none (by omega), List.drop_eq_nil_of_le (by omega)]
      rfl
  unfold sliceL
  simp only [List.drop_zero, e]
  cases l[i]? <;> simp

theorem sliceL_succ (a : AV) (l : List AV) (o n : Nat) : sliceL (a :: l) (o + 1) n = sliceL l o n := rfl
theorem sliceL_cons (a : AV) (l : List AV) (n : Nat) : sliceL (a :: l) 0 (n + 1) = match sliceL l 0 n with | some r => some (a :: r) | none => none := by
  unfold sliceL
  simp only [List.drop_zero, List.take_succ_cons, List.length_cons, Nat.add_right_cancel_iff]
  split <;> rfl
theorem sliceL_nil (l : List AV) (o : Nat) : sliceL l o 0 = some [] := by simp [sliceL]
theorem okStore_dec (o k len lo hi : Nat) (one : Bool) : okStore o k len lo hi one = (decide (o + k ≤ len) && one && (decide (hi ≤ o) || decide (o + k ≤ lo))) := by
  have e : ∀ a b : Nat, Nat.ble a b = decide (a ≤ b) := fun a b => by rw [Bool.eq_iff_iff, Nat.ble_eq, decide_eq_true_eq]
  unfold okStore
  rw [e, e, e]; rfl
attribute [go_sem] okStore_dec
theorem inI_zero (n : Nat) : inI 0 n = decide (0 < n) := inI_nat 0 n
theorem inI_one (n : Nat) : inI 1 n = decide (1 < n) := inI_nat 1 n
attribute [go_sem] inI_zero inI_one
theorem bytesN_lit (l : List UInt8) : bytesN ⟨l.toArray⟩ = l.map UInt8.toNat := rfl
attribute [go_sem] bytesN_lit
attribute [go_sem] sliceL_succ sliceL_cons sliceL_nil
attribute [go_sem] nilAppend appC
attribute [go_sem] binO binA eqKind eqOut eqv eqCells eqScalar oCall oCallee builtin builtinSem bLen bAppend bMin bMax lenU oneRes oBin binV binI binInt binS binStr oIndexAddr indexAddrV oLoad loadV oBuildSlice buildSliceV fill AV.cells oBuild buildV oBox oAlloc oStore storeV oFieldAddr fieldAddrV oField fieldV oExtract oPick oUn unV
  oNil oSlice sliceV bound oFunc lenV new_get new_next set_get set_next h0_get h0_next addI_eq sliceL_drop1
end
end Go.Ev
/- Walks over abstract memory: the program's data as plain lists, and as values. -/
namespace Go.Ev
set_option autoImplicit false
set_option linter.unusedVariables false

abbrev Str := List Nat
structure RStep where
  out : Str
  op : Int
  args : List Str
  lits : List Str
  n : Int
  deriving DecidableEq
structure RRule where
  name : Str
  ins : List Str
  outs : List Str
  after : List Str
  steps : List RStep
  deriving DecidableEq
structure RVal where
  ok : Bool
  b : Str
  deriving DecidableEq
instance : Inhabited RVal := ⟨⟨false, []⟩⟩
instance : Inhabited RStep := ⟨⟨[], 0, [], [], 0⟩⟩
instance : Inhabited RRule := ⟨⟨[], [], [], [], []⟩⟩

def xs (l : List Str) : AV := .xsl l.length (l.map .str)
def stepC (s : RStep) : List AV := [.str s.out, .int .i64 s.op, xs s.args, xs s.lits, .int .i64 s.n]
def ruleC (r : RRule) : List AV := [.str r.name, xs r.ins, xs r.outs, xs r.after, .xsl r.steps.length (r.steps.flatMap stepC)]
def valC (v : RVal) : List AV := [.bool v.ok, .str v.b]
def stepV (s : RStep) : AV := .agg (stepC s)
def ruleV (r : RRule) : AV := .agg (ruleC r)
def valV (v : RVal) : AV := .agg (valC v)
def vals (l : List RVal) : AV := .xsl l.length (l.flatMap valC)
def stepsV (l : List RStep) : AV := .xsl l.length (l.flatMap stepC)
def rulesV (l : List RRule) : AV := .xsl l.length (l.flatMap ruleC)

theorem length_stepC (s : RStep) : (stepC s).length = 5 := rfl
theorem length_ruleC (r : RRule) : (ruleC r).length = 5 := rfl
theorem length_valC (v : RVal) : (valC v).length = 2 := rfl

theorem length_flat {α : Type} {f : α → List AV} {k : Nat} (hf : ∀ x, (f x).length = k) (l : List α) : (l.flatMap f).length = l.length * k := by
  induction l with
  | nil => simp
  | cons a l ih => rw [List.flatMap_cons, List.length_append, hf, ih, List.length_cons, Nat.add_mul, Nat.one_mul, Nat.add_comm]
theorem drop_flat {α : Type} {f : α → List AV} {k : Nat} (hf : ∀ x, (f x).length = k) (l : List α) (i : Nat) : (l.flatMap f).drop (i * k) = (l.drop i).flatMap f := by
  induction i generalizing l with
  | zero => simp
  | succ i ih =>
    cases l with
    | nil => simp
    | cons a l =>
      rw [List.flatMap_cons, List.drop_succ_cons, ← ih l, Nat.add_mul, Nat.one_mul, List.drop_append, hf]
      rw [List.drop_eq_nil_of_le (by rw [hf]; omega), List.nil_append]
      congr 1
      omega
theorem sliceL_flat {α : Type} {f : α → List AV} {k : Nat} (hk : 0 < k) (hf : ∀ x, (f x).length = k) (l : List α) (i : Nat) : sliceL ((l.flatMap f).drop (i * k)) 0 k = (l[i]?).map f := by
  rw [drop_flat hf]
  unfold sliceL
  simp only [List.drop_zero]
  cases h : l[i]? with
  | none =>
    rw [List.drop_eq_nil_of_le (List.getElem?_eq_none_iff.1 h)]
    simp; omega
  | some x =>
    obtain ⟨hi, rfl⟩ := List.getElem?_eq_some_iff.1 h
    rw [List.drop_eq_getElem_cons hi, List.flatMap_cons, List.take_append, hf, Nat.sub_self, List.take_zero, List.append_nil, List.take_of_length_le (by rw [hf]; exact Nat.le_refl _)]
    rw [if_pos (hf _)]
    rfl
theorem sliceL_step (l : List RStep) (i : Nat) : sliceL ((l.flatMap stepC).drop (i * 5)) 0 5 = (l[i]?).map stepC := sliceL_flat (by omega) length_stepC l i
theorem sliceL_rule (l : List RRule) (i : Nat) : sliceL ((l.flatMap ruleC).drop (i * 5)) 0 5 = (l[i]?).map ruleC := sliceL_flat (by omega) length_ruleC l i
theorem sliceL_val (l : List RVal) (i : Nat) : sliceL ((l.flatMap valC).drop (i * 2)) 0 2 = (l[i]?).map valC := sliceL_flat (by omega) length_valC l i
theorem lt_flat {α : Type} {f : α → List AV} {k : Nat} (hk : 0 < k) (hf : ∀ x, (f x).length = k) (l : List α) (i : Nat) : (i * k < (l.flatMap f).length) = (i < l.length) := by
  rw [length_flat hf]
  exact propext (Nat.mul_lt_mul_right hk)
theorem lt_step (l : List RStep) (i : Nat) : (i * 5 < (l.flatMap stepC).length) = (i < l.length) := lt_flat (by omega) length_stepC l i
theorem lt_rule (l : List RRule) (i : Nat) : (i * 5 < (l.flatMap ruleC).length) = (i < l.length) := lt_flat (by omega) length_ruleC l i
theorem lt_val (l : List RVal) (i : Nat) : (i * 2 < (l.flatMap valC).length) = (i < l.length) := lt_flat (by omega) length_valC l i

theorem roVs_strs : ∀ (l : List Str), roVs (l.map .str) = true
  | [] => rfl
  | x :: l => by simp only [List.map_cons, roVs, roV, roVs_strs l, Bool.and_self]
theorem roV_xs (l : List Str) : roV (xs l) = true := by simp only [xs, roV, roVs_strs]
theorem roVs_append (a b : List AV) : roVs (a ++ b) = (roVs a && roVs b) := by
  induction a with
  | nil => simp [roVs]
  | cons x a ih => simp [roVs, ih, Bool.and_assoc]
theorem roVs_flat {α : Type} {f : α → List AV} (hf : ∀ x, roVs (f x) = true) (l : List α) : roVs (l.flatMap f) = true := by
  induction l with
  | nil => rfl
  | cons a l ih => rw [List.flatMap_cons, roVs_append, hf, ih]; rfl
theorem roVs_stepC (s : RStep) : roVs (stepC s) = true := by simp only [stepC, roVs, roV, roV_xs, Bool.and_self]
theorem roVs_valC (v : RVal) : roVs (valC v) = true := by simp only [valC, roVs, roV, Bool.and_self]
theorem roV_steps (l : List RStep) : roV (stepsV l) = true := by simp only [stepsV, roV, roVs_flat roVs_stepC]
theorem roV_vals (l : List RVal) : roV (vals l) = true := by simp only [vals, roV, roVs_flat roVs_valC]
theorem roVs_ruleC (r : RRule) : roVs (ruleC r) = true := by
  have := roVs_flat roVs_stepC r.steps
  simp only [ruleC, roVs, roV_xs, Bool.and_self, roV, this]
theorem roV_rules (l : List RRule) : roV (rulesV l) = true := by simp only [rulesV, roV, roVs_flat roVs_ruleC]
theorem roV_stepV (s : RStep) : roV (stepV s) = true := by simp only [stepV, roV, roVs_stepC]
theorem roV_ruleV (s : RRule) : roV (ruleV s) = true := by simp only [ruleV, roV, roVs_ruleC]
theorem roV_valV (s : RVal) : roV (valV s) = true := by simp only [valV, roV, roVs_valC]

/-- what is appended to nil, and only read from then on -/
theorem appF_xsl {E : Env} {t e : TypeId} {tt ti : TI} {z l : List AV} {n : Nat} {h : AH} (ht : E.ty t = some tt) (htu : tt.und = .slice e) (hte : E.ty e = some ti) (hz : ti.zero = some z) (hzl : z.length = ti.size) (hl : l.length = n * ti.size)
    (hby : ti.bytes ≤ 1000) (hn : n < 10000000) : appF E t t (.xsl n l) h = some (.xsl n l) := by
  obtain ⟨und, s1, s2, s3, s4, s5, s6, s7⟩ := tt
  simp only at htu
  subst htu
  have hr : n * ti.bytes ≤ roomN ∧ n ≤ roomN := by
    have : n * ti.bytes ≤ 10000000 * 1000 := Nat.mul_le_mul (by omega) hby
    unfold roomN
    omega
  have hs : sliceL l 0 (n * ti.size) = some l := by
    unfold sliceL
    simp [← hl]
  unfold appF
  rw [ht]
  simp only [hte, lenV, hz, contentV, hs]
  rw [if_pos ⟨hzl, hl, hr.1, hr.2⟩]

/-- a call that disturbs nothing, by its answer -/
def Pc (P : Program) (f : FuncId) (args : List AV) (v : AV) : Prop := ∀ B w0, CallOK P B w0 f args h0 (Is v)
theorem Pc.fd {P : Program} {B : Nat} {w0 : World} {f : FuncId} {args : List AV} {v : AV} (hc : Pc P f args v) (ha : roVs args = true) (hv : roV v = true) (h : AH) : Fd P B w0 f args h v h := Fd.pure ha hv hc h
theorem Pc.use {P : Program} {B : Nat} {w0 : World} {f : FuncId} {args : List AV} {v : AV} {h : AH} {R : AV → AH → Prop} (hc : Pc P f args v) (ha : roVs args = true) (hv : roV v = true) (hR : R v h) : CallOK P B w0 f args h R := Fd.use (hc.fd ha hv h) hR
theorem Pc.view {P : Program} {B : Nat} {w0 : World} {f : FuncId} {args args' : List AV} {v : AV} {h : AH} {R : AV → AH → Prop} (hc : Pc P f args' v) (ha : VWs B w0 h args args') (hv : flatR v = true) (hR : R v h) : CallOK P B w0 f args h R := Fd.use (Fd.view ha hv hc) hR

attribute [go_sem] xs vals stepsV rulesV stepV ruleV valV stepC ruleC valC sliceL_step sliceL_rule sliceL_val lt_step lt_rule lt_val
attribute [go_sem] true_and and_true ne_eq not_false_eq_true not_true_eq_false if_true if_false List.getElem?_cons_zero List.getElem?_cons_succ List.getElem?_nil List.getElem?_map Int.toNat_natCast
attribute [go_sem] Int.ofNat_lt Int.ofNat_le Int.natCast_inj Int.cast_ofNat_Int Nat.mul_one List.length_map List.map_cons List.map_nil Nat.zero_lt_succ Nat.lt_add_left_iff_pos decide_true decide_false
attribute [go_sem] Bool.not_true Bool.not_false Option.map_some Option.map_none List.length_cons List.length_nil zeroN setRange List.cons_append List.contains_cons List.contains_nil Bool.or_false
attribute [go_sem] Bool.false_and Bool.and_false Nat.blt_eq beq_self_eq_true forall_const implies_true false_implies true_implies List.nil_append List.append_nil List.set_cons_zero List.set_cons_succ
attribute [go_sem] and_self Nat.zero_add Nat.add_zero List.drop_succ_cons List.drop_zero List.take_succ_cons List.take_zero List.drop_nil List.take_nil Nat.zero_mul Nat.le_refl Nat.lt_irrefl
attribute [go_sem] loadN partOf storeN AV.one List.all_cons List.all_nil Bool.and_true Bool.true_and Bool.and_self Bool.true_or Bool.or_true Bool.false_or
attribute [go_sem] Nat.zero_le Nat.succ_ne_zero
end Go.Ev
/- Walks over abstract memory: a call that hands back a block of its own. -/
namespace Go.Ev
open Go.RowKit
set_option autoImplicit false
set_option linter.unusedSimpArgs false
set_option linter.unusedVariables false

/-- what comes out, seen otherwise -/
theorem CallOK.out {P : Program} {B : Nat} {w0 : World} {f : FuncId} {args : List AV} {h : AH} {R R' : AV → AH → Prop} (hc : CallOK P B w0 f args h R) (hR : ∀ v h', R v h' → ∃ v' h'', CV B w0 v h' v' h'' ∧ R' v' h'') : CallOK P B w0 f args h R' := by
  intro ρ vs w s hv
  refine Calls.mono (hc ρ vs w s hv) ?_
  rintro e w' ⟨u, v, h', ρ', rfl, h2, h3, h4, h5⟩
  obtain ⟨v', h'', g1, g2⟩ := hR v h' h5
  obtain ⟨ρ2, k1, k2, k3⟩ := g1 ρ' w' u h3 h4
  exact ⟨u, v', h'', ρ2, rfl, h2.trans k1, k2, k3, g2⟩

/-! values that hang on no memory, and what is made of them -/
mutual
def lessV : AV → Bool
  | .bool _ | .int _ _ | .str _ | .nil | .nsl | .nmap | .nfn | .nifc => true
  | .agg l | .tup l => lessVs l
  | _ => false
def lessVs : List AV → Bool
  | [] => true
  | x :: l => lessV x && lessVs l
end
mutual
theorem less_mono {ρ ρ' : Rho} : ∀ (x : AV) (v : Value), lessV x = true → RV ρ x v → RV ρ' x v := by
  intro x v hx h
  cases x <;> simp only [lessV, Bool.false_eq_true] at hx <;> simp only [RV] at h ⊢ <;> try exact h
  · obtain ⟨A, h1, h2⟩ := h; exact ⟨A, h1, lesss_mono _ _ hx h2⟩
  · obtain ⟨A, h1, h2⟩ := h; exact ⟨A, h1, lesss_mono _ _ hx h2⟩
theorem lesss_mono {ρ ρ' : Rho} : ∀ (x : List AV) (v : List Value), lessVs x = true → RVs ρ x v → RVs ρ' x v
  | [], v, _, h => by simpa [RVs] using h
  | x :: a, l, hx, h => by
    simp only [RVs] at h ⊢
    simp only [lessVs, Bool.and_eq_true] at hx
    obtain ⟨v, r, h1, h2, h3⟩ := h
    exact ⟨v, r, h1, less_mono _ _ hx.1 h2, lesss_mono _ _ hx.2 h3⟩
end
/-- A CALL THAT DISTURBS NOTHING and only reads; its answer hangs on no memory. -/
theorem CallOK.viewL {P : Program} {B : Nat} {w0 : World} {f : FuncId} {args args' : List AV} {R : AV → Prop} {h : AH} (ha : VWs B w0 h args args') (H : ∀ B w0, CallOK P B w0 f args' h0 (fun v _ => lessV v = true ∧ R v)) : CallOK P B w0 f args h (fun v h' => R v ∧ h' = h) := by
  intro ρ vs w s hv
  have hv' := ha ρ w vs s hv
  refine Calls.mono (H w.heap.size w ⟨[], fun b => w.heap[b]?, w.heap.size⟩ vs w (St.startR w _ fun b X hb => hb) hv') ?_
  rintro e w' ⟨u, v, h', ρ1, rfl, hsub, st, hu, hro, hRv⟩
  exact ⟨u, v, h, ρ, rfl, Sub.refl _, s.beyond st.below, less_mono _ _ hro hu, hRv, rfl⟩
theorem Pc.viewL {P : Program} {B : Nat} {w0 : World} {f : FuncId} {args args' : List AV} {v : AV} {h : AH} {R : AV → AH → Prop} (hc : Pc P f args' v) (ha : VWs B w0 h args args') (hv : lessV v = true) (hR : R v h) : CallOK P B w0 f args h R :=
  CallOK.mono (CallOK.viewL (R := fun v' => v' = v) ha (fun B w0 => CallOK.mono (hc B w0) (by intro v' h' hh; cases hh; exact ⟨hv, rfl⟩))) fun v' h' hh => by rw [hh.1, hh.2]; exact hR
/-- a call whose answer is in the table -/
theorem Pc.ofPure {P : Program} {p : Pure} (hp : PuresOK P [p]) (ha : lessVs p.args = true) (hv : lessV p.v = true) : Pc P p.f p.args p.v := by
  intro B w0 ρ vs w s hv'
  refine Calls.mono (hp p (List.mem_singleton.2 rfl) vs w (lesss_mono _ _ ha hv')) ?_
  rintro e w' ⟨u, rfl, hu, hb⟩
  exact ⟨u, p.v, h0, ρ, rfl, Sub.refl _, s.beyond hb, less_mono _ _ hv hu, rfl⟩

/-- a value around a slice -/
def Around (mk : AV → AV) : Prop := ∀ (ρ ρ' : Rho) (x x' : AV) (u : Value), (∀ b X, ρ.R b = some X → ρ'.R b = some X) → (∀ y, RV ρ x y → RV ρ' x' y) → RV ρ (mk x) u → RV ρ' (mk x') u
theorem Around.id : Around (fun x => x) := fun ρ ρ' x x' u _ h hu => h u hu
theorem Around.last {pre : List AV} (hp : roVs pre = true) : Around (fun x => .agg (pre ++ [x])) := by
  intro ρ ρ' x x' u hR h hu
  simp only [RV] at hu ⊢
  obtain ⟨A, rfl, hA⟩ := hu
  refine ⟨A, rfl, ?_⟩
  have hlen := hA.length
  have h1 := hA.take pre.length
  have h2 := hA.drop pre.length
  rw [List.take_left] at h1
  rw [List.drop_left] at h2
  have e : A = A.take pre.length ++ A.drop pre.length := (List.take_append_drop _ _).symm
  rw [e]
  refine RVs.append (ros_mono hR _ _ hp h1) ?_
  simp only [RVs] at h2 ⊢
  obtain ⟨v, r, he, a1, rfl⟩ := h2
  exact ⟨v, [], he, h v a1, rfl⟩

/-- what a call hands back: a slice of its own -/
def Fresh (mk : AV → AV) (e sz n : Nat) (l : List AV) (h : AH) (v : AV) (h' : AH) : Prop :=
  (v = mk .nsl ∧ n = 0 ∧ l = [] ∧ h' = h) ∨ (v = mk (.sl h.next 0 0 n none) ∧ l.length = n * sz ∧ h' = new h (.cells l e 0 0 (some sz)))

theorem Fresh.own {mk : AV → AV} {e sz n : Nat} {l : List AV} {h h' : AH} {v : AV} (hf : Fresh mk e sz n l h v h') : ∃ S, v = mk S ∧ OwnL h' S e sz n l ∧ (∀ j, j < h.next → h'.m.get j = h.m.get j) ∧ h.next ≤ h'.next := by
  rcases hf with ⟨rfl, rfl, rfl, rfl⟩ | ⟨rfl, h1, rfl⟩
  · exact ⟨.nsl, rfl, .nsl _ _ _, fun _ _ => rfl, Nat.le_refl _⟩
  · exact ⟨_, rfl, .inr ⟨_, rfl, by rw [new_get, if_pos rfl], h1, by rw [new_next]; omega⟩, fun j hj => by rw [new_get, if_neg (by omega)], by rw [new_next]; omega⟩

theorem CallOK.fresh {P : Program} {B : Nat} {w0 : World} {f : FuncId} {args : List AV} {mk : AV → AV} {e sz n : Nat} {l : List AV} (hmk : Around mk) (ha : roVs args = true) (hl : roVs l = true)
    (H : ∀ B w0, CallOK P B w0 f args h0 (fun v h' => ∃ S, v = mk S ∧ OwnL h' S e sz n l)) (h : AH) : CallOK P B w0 f args h (Fresh mk e sz n l h) := by
  intro ρ vs w s hv
  have hR : ∀ b X, ρ.R b = some X → w.heap[b]? = some X := fun b X hb => (s.ro b X hb).1
  have hv' : RVs ⟨[], ρ.R, w.heap.size⟩ args vs := ros_mono (ρ := ρ) (ρ' := ⟨[], ρ.R, w.heap.size⟩) (fun b X hb => hb) _ _ ha hv
  refine Calls.mono (H w.heap.size w ⟨[], ρ.R, w.heap.size⟩ vs w (St.startR w ρ.R hR) hv') ?_
  rintro e' w' ⟨u, v, h', ρ1, rfl, hsub, st, hu, S, rfl, hown⟩
  have hz : ρ.z ≤ w.heap.size := Nat.le_trans s.z s.sz
  let ρ' : Rho := ⟨ρ.l, fun b => match ρ.R b with | some X => some X | none => if w.heap.size ≤ b then ρ1.R b else none, ρ.z⟩
  have h1 : ∀ b X, ρ.R b = some X → ρ'.R b = some X := fun b X hb => by show (match ρ.R b with | some X => some X | none => if w.heap.size ≤ b then ρ1.R b else none) = some X; rw [hb]
  have h2 : ∀ b X, ρ'.R b = some X → ρ.R b = some X ∨ (w.heap.size ≤ b ∧ ρ1.R b = some X) := by
    intro b X hb
    have hb : (match ρ.R b with | some X => some X | none => if w.heap.size ≤ b then ρ1.R b else none) = some X := hb
    split at hb
    · rename_i Y hY; rw [hY]; exact .inl hb
    · split at hb
      · rename_i hle; exact .inr ⟨hle, hb⟩
      · simp at hb
  have h3 : ∀ b X, ρ1.R b = some X → ρ'.R b = some X := by
    intro b X hb
    rcases hsub.N b X hb with h | h
    · exact h1 b X h
    · show (match ρ.R b with | some X => some X | none => if w.heap.size ≤ b then ρ1.R b else none) = some X
      cases hr : ρ.R b with
      | none => simp only; rw [if_pos h]; exact hb
      | some Y =>
        simp only
        have a1 := s.ro_lt hr
        have : w.heap.size ≤ b := h
        omega
  have hs' := s.beyond st.below
  have hs : Sub ρ ρ' := ⟨⟨fun _ _ h => h, h1⟩, rfl, fun b X hb => by
    rcases h2 b X hb with h | ⟨h, _⟩
    · exact .inl h
    · exact .inr (Nat.le_trans hz h)⟩
  have s2 : St B w0 ρ' h w' := by
    refine ⟨hs'.len, hs'.below, hs'.sz, hs'.lt, fun n o ho => ?_, hs'.inj, hs'.z, fun b X hb => ?_⟩
    · obtain ⟨p, g1, g2, g3⟩ := hs'.obj n o ho
      exact ⟨p, g1, g2.mono hs, g3⟩
    · rcases h2 b X hb with g | ⟨g1, g2⟩
      · exact hs'.ro b X g
      · refine ⟨(st.ro b X g2).1, fun n p hn hp => ?_⟩
        have := s.lt n p hp
        omega
  rcases hown with ⟨rfl, rfl, rfl⟩ | ⟨b, rfl, k1, k2, k3⟩
  · refine ⟨u, _, h, ρ', rfl, hs, s2, hmk ρ1 ρ' _ _ u h3 (fun y hy => by simp only [RV] at hy ⊢; exact hy) hu, .inl ⟨rfl, rfl, rfl, rfl⟩⟩
  · obtain ⟨p, g1, g2, g3⟩ := st.obj b _ k1
    obtain ⟨C, fr, hX, hcs, hfr, hop⟩ := g2
    have hlt := st.lt b p g1
    let ρ2 := ρ'.snoc p
    have hs3 : Sub ρ' ρ2 := Sub.snoc _ _
    have hro : RO ρ2 p (.cells l e 0 0 (some sz)) w'.heap[p.1]? := by
      refine ⟨C, fr, hX, fun j v hj => ?_, hfr, hop⟩
      obtain ⟨u, a1, a2⟩ := hcs j v hj
      have hrv : roV v = true := by
        have : ∀ (l : List AV), roVs l = true → ∀ (j : Nat) v, l[j]? = some v → roV v = true := by
          intro l
          induction l with
          | nil => intro _ j v hj; simp at hj
          | cons x l ih =>
            intro hl j v hj
            simp only [roVs, Bool.and_eq_true] at hl
            cases j with
            | zero => simp only [List.getElem?_cons_zero, Option.some.injEq] at hj; subst hj; exact hl.1
            | succ j => simp only [List.getElem?_cons_succ] at hj; exact ih hl.2 j v hj
        exact this l hl j v hj
      exact ⟨u, a1, ro_mono (ρ := ρ1) (ρ' := ρ2) (fun b X hb => h3 b X hb) _ _ hrv a2⟩
    -- the block beyond what is known is made known
    have s3 : St B w0 ρ2 (new h (.cells l e 0 0 (some sz))) w' := by
      have hlast : ρ2.l[ρ.l.length]? = some p := by show (ρ.l ++ [p])[ρ.l.length]? = some p; simp
      have hold : ∀ (n : Nat) q, ρ2.l[n]? = some q → n ≠ ρ.l.length → ρ.l[n]? = some q := by
        intro n q hq hn
        have hq : (ρ.l ++ [p])[n]? = some q := hq
        rcases Nat.lt_or_ge n ρ.l.length with hlt | hge
        · rwa [List.getElem?_append_left hlt] at hq
        · have := (List.getElem?_eq_some_iff.1 hq).1
          simp at this; omega
      have hget : ∀ n, (new h (.cells l e 0 0 (some sz))).m.get n = if n = h.next then some (.cells l e 0 0 (some sz)) else h.m.get n := fun n => new_get _ _ _
      have hlen : ρ.l.length = h.next := s.len
      refine ⟨by show (ρ.l ++ [p]).length = _; simp [new_next, hlen], s2.below, s2.sz, ?_, ?_, ?_, s2.z, ?_⟩
      · intro n q hq
        by_cases hn : n = ρ.l.length
        · subst hn; rw [hlast] at hq; simp only [Option.some.injEq] at hq; subst hq; exact hlt
        · exact s2.lt n q (hold n q hq hn)
      · intro n o' ho'
        rw [hget] at ho'
        split at ho'
        · rename_i en
          simp only [Option.some.injEq] at ho'; subst ho'
          exact ⟨p, by rw [en, ← hlen]; exact hlast, hro, Nat.le_trans s.sz g3⟩
        · obtain ⟨q, a1, a2, a3⟩ := s2.obj n o' ho'
          exact ⟨q, hs3.l _ _ a1, a2.mono hs3, a3⟩
      · intro n m q r hn hm hq hr hqr
        rw [hget] at hn hm
        have key : ∀ (n : Nat) q, (if n = h.next then some (AObj.cells l e 0 0 (some sz)) else h.m.get n).isSome → ρ2.l[n]? = some q → n ≠ ρ.l.length → (h.m.get n).isSome ∧ ρ.l[n]? = some q ∧ q.1 < w.heap.size := by
          intro n q hn hq hne
          rw [if_neg (by rw [← hlen]; exact hne)] at hn
          exact ⟨hn, hold n q hq hne, s.lt n q (hold n q hq hne)⟩
        by_cases e1 : n = ρ.l.length <;> by_cases e2 : m = ρ.l.length
        · omega
        · obtain ⟨_, _, a3⟩ := key m r hm hr e2
          subst e1; rw [hlast] at hq; simp only [Option.some.injEq] at hq; subst hq
          omega
        · obtain ⟨_, _, a3⟩ := key n q hn hq e1
          subst e2; rw [hlast] at hr; simp only [Option.some.injEq] at hr; subst hr
          omega
        · obtain ⟨a1, a2, _⟩ := key n q hn hq e1
          obtain ⟨b1, b2, _⟩ := key m r hm hr e2
          exact s.inj n m q r a1 b1 a2 b2 hqr
      · intro c X hc
        refine ⟨(s2.ro c X hc).1, fun m q hm hq => ?_⟩
        by_cases en : m = ρ.l.length
        · subst en; rw [hlast] at hq; simp only [Option.some.injEq] at hq; subst hq
          rcases h2 c X hc with g | ⟨_, g⟩
          · have := s.ro_lt g; omega
          · exact (st.ro c X g).2 b p (by rw [k1]; rfl) g1
        · rw [hget, if_neg (by rw [← hlen]; exact en)] at hm
          exact (s2.ro c X hc).2 m q hm (hold m q hq en)
    refine ⟨u, _, _, ρ2, rfl, hs.trans hs3, s3, hmk ρ1 ρ2 _ _ u h3 (fun y hy => ?_) hu, .inr ⟨rfl, k2, rfl⟩⟩
    simp only [RV] at hy ⊢
    obtain ⟨q, C', a1, rfl, a3, a4⟩ := hy
    rw [g1] at a1; simp only [Option.some.injEq] at a1; subst a1
    refine ⟨p, C', ?_, rfl, a3, a4⟩
    show (ρ.l ++ [p])[h.next]? = some p
    rw [← s.len]; simp
end Go.Ev
/- Arguments opened: what a reading gives of them, as values that are only read. -/
namespace Go.Ev
open Go.RowKit Go.ChangeShapes Go.WideShapes Go.Deep
set_option autoImplicit false
set_option linter.unusedVariables false
set_option linter.unusedSimpArgs false

/-- all that a world has, only to be read -/
abbrev rhoW (w : World) : Rho := ⟨[], fun b => w.heap[b]?, w.heap.size⟩

/-- what a reading of cells gives; 'sm N': of bulk at most N -/
def Opens (P : Program) (W : World) (bk : ∀ H, DataW H → Nat) (t : TypeId) (k : Nat) {α : Type} (f : α → List AV) (sm : Nat → α → Prop) : Prop :=
  P.cellsOf t = k ∧ (∀ N M a, N ≤ M → sm N a → sm M a) ∧ ∀ (H : Type) (enc : TypeId × Value → H) (fuel : Nat) (cs : List Value) (d : DataW H) (ps : List MemPlace),
    DataW.trod enc P W 0 (fun _ => true) true fuel t cs = some (d, ps) → cs.length = k ∧ ∃ a, RVs (rhoW W) (f a) cs ∧ sm (bk H d) a

section
variable {P : Program} {W : World} {bk : ∀ H, DataW H → Nat}

theorem Opens.map {t : TypeId} {k : Nat} {α β : Type} {f : α → List AV} {sm : Nat → α → Prop} (ho : Opens P W bk t k f sm) (g : α → β) (f' : β → List AV) (sm' : Nat → β → Prop) (hf : ∀ a, f' (g a) = f a) (hm : ∀ N M a, N ≤ M → sm' N a → sm' M a) (hs : ∀ N a, sm N a → sm' N (g a)) : Opens P W bk t k f' sm' := by
  refine ⟨ho.1, hm, fun H enc fuel cs d ps h => ?_⟩
  obtain ⟨h1, a, h2, h3⟩ := ho.2.2 H enc fuel cs d ps h
  exact ⟨h1, g a, by rw [hf]; exact h2, hs _ _ h3⟩

theorem opens_str {t : TypeId} (ht : P.underlying t = some .string) (hc : P.cellsOf t = 1) (hb : ∀ H (l : List UInt8), l.length ≤ bk H (.lit (.string l))) : Opens P W bk t 1 (fun l : Str => [.str l]) (fun N l => l.length ≤ N) := by
  refine ⟨hc, fun N M a h1 h2 => Nat.le_trans h2 h1, fun H enc fuel cs d ps h => ?_⟩
  obtain ⟨s, rfl, hx, _⟩ := DataW.trod_string ht h
  cases hx
  refine ⟨rfl, bytesN s, ?_, ?_⟩
  · simp only [RVs, RV]; exact ⟨_, _, rfl, ⟨s, rfl, rfl⟩, rfl⟩
  · have := hb H s.data.toList
    simpa [bytesN] using this
theorem opens_bool {t : TypeId} (ht : P.underlying t = some .bool) (hc : P.cellsOf t = 1) : Opens P W bk t 1 (fun b : Bool => [.bool b]) (fun N b => True) := by
  refine ⟨hc, fun _ _ _ _ _ => trivial, fun H enc fuel cs d ps h => ?_⟩
  obtain ⟨b, rfl, hx⟩ := DataW.trod_bool ht h
  refine ⟨rfl, b, ?_, trivial⟩
  simp only [RVs, RV]; exact ⟨_, _, rfl, rfl, rfl⟩
theorem opens_int {t : TypeId} {ik : IntKind} (ht : P.underlying t = some (.int ik)) (hc : P.cellsOf t = 1) : Opens P W bk t 1 (fun n : Int => [.int ik n]) (fun N n => (Lit.int ik n).wf = true) := by
  refine ⟨hc, fun _ _ _ _ h => h, fun H enc fuel cs d ps h => ?_⟩
  obtain ⟨n, rfl, hx, hw⟩ := DataW.trod_int ht h
  refine ⟨rfl, n, ?_, hw⟩
  simp only [RVs, RV]; exact ⟨_, _, rfl, rfl, rfl⟩

theorem RVs.flat {ρ : Rho} {α : Type} {f : α → List AV} {k : Nat} (hk : ∀ a, (f a).length = k) : ∀ (l : List α) (cs : List Value), cs.length = l.length * k → (∀ i a, l[i]? = some a → RVs ρ (f a) ((cs.drop (i * k)).take k)) → RVs ρ (l.flatMap f) cs
  | [], cs, h, _ => by
    simp only [List.length_nil, Nat.zero_mul, List.length_eq_zero_iff] at h
    subst h
    simp [RVs]
  | a :: l, cs, h, hi => by
    rw [List.flatMap_cons]
    have h0 := hi 0 a rfl
    rw [Nat.zero_mul, List.drop_zero] at h0
    rw [← List.take_append_drop k cs]
    refine RVs.append h0 (RVs.flat hk l _ (by rw [List.length_drop, h, List.length_cons, Nat.add_mul]; omega) fun i b hb => ?_)
    have := hi (i + 1) b hb
    rw [List.drop_drop, show k + i * k = (i + 1) * k by rw [Nat.add_mul]; omega]
    exact this

theorem opens_slice {t e : TypeId} {k : Nat} {α : Type} {f : α → List AV} {sm : Nat → α → Prop} (ho : Opens P W bk e k f sm) (hk : 0 < k) (hf : ∀ a, (f a).length = k) (ht : P.underlying t = some (.slice e)) (hc : P.cellsOf t = 1)
    (hb1 : ∀ H (l r : List (DataW H)), l.length ≤ bk H (.slice l r)) (hb2 : ∀ H (l r : List (DataW H)) d, d ∈ l → bk H d ≤ bk H (.slice l r)) :
    Opens P W bk t 1 (fun l : List α => [.xsl l.length (l.flatMap f)]) (fun N l => l.length ≤ N ∧ ∀ x ∈ l, sm N x) := by
  refine ⟨hc, fun N M l h1 h2 => ⟨Nat.le_trans h2.1 h1, fun x hx => ho.2.1 _ _ _ h1 (h2.2 x hx)⟩, fun H enc fuel cs d ps h => ?_⟩
  rcases open_slice ht h with ⟨rfl, hx⟩ | ⟨a, len, cap, m, n, D, Pl, rfl, hbb, hl, hm, hmm, hx, hel⟩
  · refine ⟨rfl, [], ?_, Nat.zero_le _, fun x hx => by simp at hx⟩
    simp only [RVs, RV]
    exact ⟨_, _, rfl, ⟨none, 0, rfl, Nat.le_refl _, fun _ => ⟨rfl, rfl⟩, .inl rfl⟩, rfl⟩
  · simp only [if_true] at hmm
    subst hmm
    cases hx
    refine ⟨rfl, ?_⟩
    have key : ∀ i, i < len → ∃ x cs', W.cells? 0 (a.add (i * P.cellsOf e)) (P.cellsOf e) = some cs' ∧ RVs (rhoW W) (f x) cs' ∧ sm (bk H (D i)) x := by
      intro i hi
      obtain ⟨cs', g1, g2⟩ := hel i (by omega)
      obtain ⟨_, x, g3, g4⟩ := ho.2.2 H enc n cs' _ _ g2
      exact ⟨x, cs', g1, g3, g4⟩
    -- the elements one by one
    have hlist : ∀ j, j ≤ len → ∃ l : List α, l.length = j ∧ ∀ i x, l[i]? = some x → ∃ cs', W.cells? 0 (a.add (i * P.cellsOf e)) (P.cellsOf e) = some cs' ∧ RVs (rhoW W) (f x) cs' ∧ sm (bk H (D i)) x := by
      intro j
      induction j with
      | zero => exact fun _ => ⟨[], rfl, fun i x h => by simp at h⟩
      | succ j ih =>
        intro hj
        obtain ⟨l, g1, g2⟩ := ih (by omega)
        obtain ⟨x, hx⟩ := key j (by omega)
        refine ⟨l ++ [x], by simp [g1], fun i y hy => ?_⟩
        rcases Nat.lt_or_ge i l.length with hlt | hge
        · rw [List.getElem?_append_left hlt] at hy; exact g2 i y hy
        · rw [List.getElem?_append_right hge] at hy
          have : i = l.length := by
            have := (List.getElem?_eq_some_iff.1 hy).1
            simp at this; omega
          subst this
          simp at hy; subst hy
          rw [g1]; exact hx
    obtain ⟨l, g1, g2⟩ := hlist len (Nat.le_refl _)
    subst g1
    refine ⟨l, ?_, ?_, fun x hx => ?_⟩
    · simp only [RVs, RV]
      refine ⟨_, _, rfl, ⟨some a, _, rfl, hl, fun h => by simp at h, ?_⟩, rfl⟩
      by_cases h0 : l = []
      · subst h0; exact .inl rfl
      right
      have hpos : 0 < l.length := List.length_pos_iff.2 h0
      obtain ⟨x0, hx0⟩ : ∃ x, l[0]? = some x := ⟨_, List.getElem?_eq_getElem hpos⟩
      have hcell : ∀ i x, l[i]? = some x → ∃ cs', cs'.length = k ∧ (∀ j, j < k → W.cell? ((a.add (i * k)).add j) = cs'[j]?) ∧ RVs (rhoW W) (f x) cs' := by
        intro i x hx
        obtain ⟨cs', e1, e2, _⟩ := g2 i x hx
        rw [ho.1] at e1
        obtain ⟨_, e4, e5⟩ := World.cells?_some e1
        exact ⟨cs', e4, e5, e2⟩
      obtain ⟨c0, e1, e2, _⟩ := hcell 0 x0 hx0
      have e3 := e2 0 hk
      simp only [Nat.zero_mul] at e3
      have e3' : W.cell? a = c0[0]? := by simpa [Addr.add] using e3
      rw [List.getElem?_eq_getElem (by omega)] at e3'
      unfold World.cell? at e3'
      split at e3'
      case h_2 => simp at e3'
      rename_i X tt fr hX
      split at e3'
      · simp at e3'
      rename_i hsp
      have hspot : a.spot = none := by simpa using hsp
      obtain ⟨ab, ao, asp⟩ := a
      simp only at hspot hX; subst hspot
      refine ⟨ab, ao, X, tt, fr, rfl, hX, ?_⟩
      have hlen : (l.flatMap f).length = l.length * k := length_flat hf l
      have hat : ∀ i x, l[i]? = some x → ∃ cs', cs'.length = k ∧ (∀ j, j < k → X[ao + (i * k + j)]? = cs'[j]?) ∧ RVs (rhoW W) (f x) cs' := by
        intro i x hx
        obtain ⟨cs', e4, e5, e6⟩ := hcell i x hx
        refine ⟨cs', e4, fun j hj => ?_, e6⟩
        rw [← e5 j hj, Deep.add_add]
        unfold World.cell? Addr.add
        by_cases hz : i * k + j = 0
        · rw [if_pos hz]; simp [hX, hz]
        · rw [if_neg hz]; simp [hX]
      have hend : ao + l.length * k ≤ X.toList.length := by
        obtain ⟨y, hy⟩ : ∃ y, l[l.length - 1]? = some y := ⟨_, List.getElem?_eq_getElem (by omega)⟩
        obtain ⟨cs', e4, e5, _⟩ := hat _ _ hy
        have := e5 (k - 1) (by omega)
        rw [List.getElem?_eq_getElem (by omega)] at this
        have := (Array.getElem?_eq_some_iff.1 this).1
        have e6 : (l.length - 1) * k + k = l.length * k := by
          rw [← Nat.succ_mul]; congr 1; omega
        have e7 : X.toList.length = X.size := Array.length_toList
        omega
      rw [hlen]
      refine RVs.flat hf l _ (by rw [List.length_take, List.length_drop]; omega) fun i x hx => ?_
      obtain ⟨cs', e4, e5, e6⟩ := hat i x hx
      have hi := (List.getElem?_eq_some_iff.1 hx).1
      have : (List.take k (List.drop (i * k) (List.take (l.length * k) (List.drop ao X.toList)))) = cs' := by
        apply List.ext_getElem?
        intro j
        by_cases hj : j < k
        · have h6 : i * k + j < l.length * k := by
            have : (i + 1) * k ≤ l.length * k := Nat.mul_le_mul_right _ hi
            rw [Nat.add_mul] at this; omega
          rw [List.getElem?_take_of_lt hj, List.getElem?_drop, List.getElem?_take_of_lt h6, List.getElem?_drop, Array.getElem?_toList, e5 j hj]
        · rw [List.getElem?_eq_none (by rw [List.length_take]; omega), List.getElem?_eq_none (by omega)]
      rw [this]; exact e6
    · have := hb1 H ((List.range l.length).map D) ((List.range (m - l.length)).map fun j => D (l.length + j))
      simpa using this
    · obtain ⟨i, hi, rfl⟩ := List.mem_iff_getElem.1 hx
      obtain ⟨_, _, _, e4⟩ := g2 i _ (List.getElem?_eq_getElem hi)
      exact ho.2.1 _ _ _ (hb2 H _ _ _ (List.mem_map.2 ⟨i, List.mem_range.2 hi, rfl⟩)) e4

/-- fields one behind the other, from o on -/
def OpensF (P : Program) (W : World) (bk : ∀ H, DataW H → Nat) (fs : List Field) (o k : Nat) {α : Type} (f : α → List AV) (sm : Nat → α → Prop) : Prop :=
  (∀ N M a, N ≤ M → sm N a → sm M a) ∧ ∀ (H : Type) (enc : TypeId × Value → H) (fuel : Nat) (cs : List Value) (xs : List (DataW H × List MemPlace)), o + k ≤ cs.length → xs.length = fs.length →
    (∀ (i : Nat) g, fs[i]? = some g → DataW.trod enc P W 0 (fun _ => true) true fuel g.type ((cs.drop g.offset).take (P.cellsOf g.type)) = xs[i]?) → ∃ a, RVs (rhoW W) (f a) ((cs.drop o).take k) ∧ ∀ N, (∀ x ∈ xs, bk H x.1 ≤ N) → sm N a

theorem opensF_nil (o : Nat) : OpensF P W bk [] o 0 (fun _ : Unit => []) (fun _ _ => True) :=
  ⟨fun _ _ _ _ _ => trivial, fun H enc fuel cs xs _ _ _ => ⟨(), by simp [RVs], fun _ _ => trivial⟩⟩
theorem opensF_cons {g : Field} {fs : List Field} {o k k' : Nat} {α β : Type} {f : α → List AV} {sm : Nat → α → Prop} {f' : β → List AV} {sm' : Nat → β → Prop} (h0 : Opens P W bk g.type k f sm) (hg : g.offset = o) (h1 : OpensF P W bk fs (o + k) k' f' sm') :
    OpensF P W bk (g :: fs) o (k + k') (fun p : α × β => f p.1 ++ f' p.2) (fun N p => sm N p.1 ∧ sm' N p.2) := by
  refine ⟨fun N M a hN ha => ⟨h0.2.1 _ _ _ hN ha.1, h1.1 _ _ _ hN ha.2⟩, fun H enc fuel cs xs hlen hxs hi => ?_⟩
  cases xs with
  | nil => simp at hxs
  | cons x xs =>
    have e0 := hi 0 g rfl
    simp only [List.getElem?_cons_zero] at e0
    rw [hg, h0.1] at e0
    obtain ⟨x1, x2⟩ := x
    obtain ⟨_, a, e1, e2⟩ := h0.2.2 H enc fuel _ _ _ e0
    obtain ⟨b, e3, e4⟩ := h1.2 H enc fuel cs xs (by omega) (by simpa using hxs) (fun i g' hg' => by have := hi (i + 1) g' hg'; simpa using this)
    refine ⟨(a, b), ?_, fun N hN => ⟨h0.2.1 _ _ _ (hN _ (List.mem_cons_self ..)) e2, e4 N fun y hy => hN y (List.mem_cons_of_mem _ hy)⟩⟩
    have : (cs.drop o).take (k + k') = (cs.drop o).take k ++ (cs.drop (o + k)).take k' := by
      rw [List.take_add, List.drop_drop]
    rw [this]
    exact RVs.append e1 e3
theorem opens_struct {t : TypeId} {fs : Array Field} {k : Nat} {α : Type} {f : α → List AV} {sm : Nat → α → Prop} (ht : P.underlying t = some (.struct fs)) (hc : P.cellsOf t = k) (hf : OpensF P W bk fs.toList 0 k f sm)
    (hb : ∀ H (l : List (DataW H)) d, d ∈ l → bk H d ≤ bk H (.agg l)) : Opens P W bk t k f sm := by
  refine ⟨hc, hf.1, fun H enc fuel cs d ps h => ?_⟩
  obtain ⟨xs, n, rfl, hx, hlen, hxs, hel⟩ := DataW.trod_struct ht h
  cases hx
  rw [hc] at hlen
  obtain ⟨a, e1, e2⟩ := hf.2 H enc n cs xs (by omega) (by simpa using hxs) (fun i g hg => hel i g (by simpa using hg))
  refine ⟨hlen, a, ?_, e2 _ fun x hx => hb _ _ _ (List.mem_map.2 ⟨x, hx, rfl⟩)⟩
  rw [List.drop_zero, List.take_of_length_le (by omega)] at e1
  exact e1

/-- an argument that is one cell -/
theorem Opens.one {t : TypeId} {α : Type} {x : α → AV} {sm : Nat → α → Prop} (ho : Opens P W bk t 1 (fun a => [x a]) sm) {H : Type} {enc : TypeId × Value → H} {v : Value} {d : DataW H} {ps : List MemPlace} (hv : v.cells = #[v]) (h : DataW.Trod enc P W 0 (fun _ => true) true t v d ps) :
    ∃ a, RV (rhoW W) (x a) v ∧ sm (bk H d) a := by
  obtain ⟨fuel, h⟩ := h
  rw [hv] at h
  obtain ⟨_, a, h1, h2⟩ := ho.2.2 H enc fuel _ _ _ h
  simp only [RVs] at h1
  obtain ⟨u, r, he, h1, rfl⟩ := h1
  simp only [List.cons.injEq, and_true] at he
  subst he
  exact ⟨a, h1, h2⟩
theorem Opens.agg {t : TypeId} {k : Nat} {α : Type} {f : α → List AV} {sm : Nat → α → Prop} (ho : Opens P W bk t k f sm) {H : Type} {enc : TypeId × Value → H} {cs : Array Value} {d : DataW H} {ps : List MemPlace} (h : DataW.Trod enc P W 0 (fun _ => true) true t (.agg cs) d ps) :
    ∃ a, RV (rhoW W) (.agg (f a)) (.agg cs) ∧ sm (bk H d) a := by
  obtain ⟨fuel, h⟩ := h
  obtain ⟨_, a, h1, h2⟩ := ho.2.2 H enc fuel _ _ _ h
  refine ⟨a, ?_, h2⟩
  simp only [RV]
  exact ⟨cs.toList, rfl, h1⟩

/-- A CONTRACT AT A WORLD: what comes back; nothing of what was there is turned. -/
theorem Pc.run {f : FuncId} {args : List AV} {v : AV} (hc : Pc P f args v) (hv : lessV v = true) {vs : List Value} (ha : RVs (rhoW W) args vs) : Calls P f ⟨vs⟩ W fun e W' => ∃ u, e = .returned u ∧ RV Rho.nil v u ∧ Below W.heap.size W W' := by
  refine Calls.mono (hc W.heap.size W (rhoW W) vs W (St.startR W _ fun b X h => h) ha) ?_
  rintro e w' ⟨u, v', h', ρ', rfl, h1, h2, h3, h4⟩
  cases h4
  exact ⟨u, rfl, less_mono _ _ hv h3, h2.below⟩
end
end Go.Ev
