/- The quick evaluator says the same; a region whose order is open goes by one walk. Conditions: a table of the program (EnvOK). -/
import Derived.Test.YtkoijkcjnppamaaGreatDoorEv5
import Derived.Orders
/- An evaluator of closed calls over abstract memory: the same layers, made quick for the kernel. -/
namespace Go.Ev
open Go.RowKit
set_option autoImplicit false
set_option linter.unusedSimpArgs false
set_option linter.unusedVariables false
noncomputable section

/-- What a piece of code comes to. -/
inductive R where
  | go (tm : T) (h : AH)
  | ex (i : Nat) (tm : T) (h : AH)
  | rt (tm : T) (h : AH)
  | cl (v : AV) (h : AH)
  | many (l : List Out)
  | bad (l : List Nat)

def R.outs : R → List Out
  | .go tm h => [.code .normal tm h]
  | .ex i tm h => [.code (.exit i) tm h]
  | .rt tm h => [.code .ret tm h]
  | .cl v h => [.call v h]
  | .many l => l
  | .bad l => [.bad l]

structure Ih where
  code : Code → T → AH → R
  loop : Code → T → AH → R
  ops : List Oper → List Oper → T → AH → R
  op : Oper → List Oper → T → AH → R
  dp : Nat → List Nat → List Oper → List DS → R
  call : FuncId → List AV → AH → R

def Ih.task (ih : Ih) : Task → List Out
  | .code c tm h => (ih.code c tm h).outs
  | .loop c tm h => (ih.loop c tm h).outs
  | .ops l all tm h => (ih.ops l all tm h).outs
  | .op o all tm h => (ih.op o all tm h).outs
  | .dp k pre all l => (ih.dp k pre all l).outs
  | .call f args h => (ih.call f args h).outs

def thenR (r : R) (f : T → AH → R) : R :=
  R.rec (motive := fun _ => R) f (fun i tm h => .ex i tm h) (fun tm h => .rt tm h) (fun v h => .cl v h)
    (fun l => .many (Ev.andThen l fun tm h => (f tm h).outs)) (fun l => .bad l) r

/-- an operation's doing -/
inductive OW where
  | mk (f : Env → T → AH → Option Nx)

def opW : Op → OW
  | .move x => .mk (oMove x)
  | .assign x => .mk (oMove x)
  | .pick c a b => .mk (oPick c a b)
  | .alloc t => .mk (oAlloc t)
  | .box t x => .mk (oBox t x)
  | .build t ps => .mk (oBuild t ps)
  | .buildSlice t n ps => .mk (oBuildSlice t n ps)
  | .load t a => .mk (oLoad t a)
  | .store t a x => .mk (oStore t a x)
  | .nilCheck x => .mk (oNil x)
  | .binOp op t x y _ => .mk (oBin op t x y)
  | .unOp op _ x => .mk (oUn op x)
  | .convert s d x => .mk (oConv s d x)
  | .makeInterface t x => .mk (oIface t x)
  | .makeFunc fn a b => .mk (oFunc fn a b)
  | .makeMap _ r => .mk (oMakeMap r)
  | .makeSlice t l c => .mk (oMakeSlice t l c)
  | .slice t x lo hi mx => .mk (oSlice t x lo hi mx)
  | .fieldAddr s x f => .mk (oFieldAddr s x f)
  | .field t x f => .mk (oField t x f)
  | .indexAddr t x ix => .mk (oIndexAddr t x ix)
  | .index t x ix => .mk (oIndex t x ix)
  | .lookup t x k ok => .mk (oLookup t x k ok)
  | .mapUpdate t m k x => .mk (oUpdate t m k x)
  | .insert t m k x => .mk (oUpdate t m k x)
  | .range t x => .mk (oRange t x)
  | .next it isS => .mk (oNext it isS)
  | .entry it => .mk (oEntry it)
  | .extract t i => .mk (oExtract t i)
  | .call c => .mk (oCall c)
  | _ => .mk oNone

theorem opW_eq (o : Op) : opW o = .mk (opSem o) := by cases o <;> rfl

def setR (tm : T) (d : Option Tmp) (v : AV) (h : AH) : R :=
  match d with
  | none => .go tm h
  | some d => match Nat.blt d tm.n with
    | true => .go { n := tm.n, t := tm.t.set d (some v) } h
    | false => .bad [11]

def callR (o : Oper) (tm : T) (r : R) : R :=
  match r with
  | .cl v h => setR tm o.dst v h
  | .bad l => .bad l
  | .many l => .many (l.map (outCall tm o.dst))
  | _ => .bad [3]

def nxR (o : Oper) (tm : T) (ih : Ih) (h : AH) : Option Nx → R
  | some (.vals l) => match l with
    | [p] => setR tm o.dst p.1 p.2
    | l => .many (l.map fun p => setOut tm o.dst p.1 p.2)
  | some (.enter f args) => callR o tm (ih.call f args h)
  | none => .bad [4, o.type, o.dst.getD 9999]

def rOp (E : Env) (ih : Ih) (o : Oper) (all : List Oper) (tm : T) (h : AH) : R :=
  match want tm all o with
  | true => match opW o.op with
    | .mk f => nxR o tm ih h (f E tm h)
  | false => setR tm o.dst (.tup []) h

def rOps (E : Env) (ih : Ih) (l all : List Oper) (tm : T) (h : AH) : R :=
  match l with
  | [] => .go tm h
  | o :: l => thenR (ih.op o all tm h) fun tm h => ih.ops l all tm h

/-- a code's doing -/
inductive CW where
  | mk (f : Env → Ih → T → AH → R)

def rSkip (_E : Env) (_ih : Ih) (tm : T) (h : AH) : R := .go tm h
def rSeq (a b : Code) (_E : Env) (ih : Ih) (tm : T) (h : AH) : R := thenR (ih.code a tm h) fun tm h => ih.code b tm h
def rCond (c : Operand) (a b : Code) (_E : Env) (ih : Ih) (tm : T) (h : AH) : R :=
  match opnd tm c with
  | some (.bool true) => ih.code a tm h
  | some (.bool false) => ih.code b tm h
  | _ => .bad [1]
def blockR (id : Nat) (r : R) : R :=
  match r with
  | .ex i tm h => match Nat.beq i id with
    | true => .go tm h
    | false => .ex i tm h
  | .many l => .many (l.map (outBlock id))
  | r => r
def rBlock (id : Nat) (b : Code) (_E : Env) (ih : Ih) (tm : T) (h : AH) : R := blockR id (ih.code b tm h)
def rLoop (b : Code) (_E : Env) (ih : Ih) (tm : T) (h : AH) : R := ih.loop b tm h
def rExit (id : Nat) (_E : Env) (_ih : Ih) (tm : T) (h : AH) : R := .ex id tm h
def rRet (_E : Env) (_ih : Ih) (tm : T) (h : AH) : R := .rt tm h
def rRegion (ops : List Oper) (_E : Env) (ih : Ih) (tm : T) (h : AH) : R := ih.ops ops ops tm h
def rDraw (n : Nat) (pre : List Nat) (ops : List Oper) (_E : Env) (ih : Ih) (tm : T) (h : AH) : R := ih.dp n pre ops [{ done := 0, tm, h }]
def rBad (_E : Env) (_ih : Ih) (_tm : T) (_h : AH) : R := .bad [2]

end
end Go.Ev
/- An evaluator of closed calls over abstract memory: an operation hangs on the slots that it looks at. -/
namespace Go.Ev
open Go.RowKit
set_option autoImplicit false
set_option linter.unusedSimpArgs false
set_option linter.unusedVariables false

section
variable {E : Env} {tm tm' : T}

theorem opnds_congr : ∀ {l : List Operand}, (∀ x ∈ l, opnd tm x = opnd tm' x) → opnds tm l = opnds tm' l
  | [], _ => rfl
  | x :: l, h => by simp only [opnds, h x List.mem_cons_self, opnds_congr (fun y hy => h y (List.mem_cons_of_mem _ hy))]

theorem parts_congr : ∀ {l : List (Nat × Operand)}, (∀ x ∈ l.map (·.2), opnd tm x = opnd tm' x) → parts tm l = parts tm' l
  | [], _ => rfl
  | (i, x) :: l, h => by
    simp only [parts, h x (by simp), parts_congr (l := l) (fun y hy => h y (by simp at hy ⊢; exact .inr hy))]

theorem bound_congr {x : Option Operand} {d : Nat} (h : ∀ y ∈ x, opnd tm y = opnd tm' y) : bound tm x d = bound tm' x d := by
  cases x with
  | none => rfl
  | some y => simp only [bound, h y rfl]

theorem sliceV_congr {t : TypeId} {x : AV} {lo hi mx : Option Operand} (h1 : ∀ y ∈ lo, opnd tm y = opnd tm' y) (h2 : ∀ y ∈ hi, opnd tm y = opnd tm' y) (h3 : ∀ y ∈ mx, opnd tm y = opnd tm' y) :
    sliceV E tm t x lo hi mx = sliceV E tm' t x lo hi mx := by
  have a := fun d => bound_congr (d := d) h1
  have b := fun d => bound_congr (d := d) h2
  have c := fun d => bound_congr (d := d) h3
  unfold sliceV
  cases x <;> simp only [a, b]
  cases mx with
  | none => rfl
  | some m => simp only [c]

theorem evOp_congr {o : Oper} {h : AH} (hx : ∀ x ∈ o.op.operands, opnd tm x = opnd tm' x) : evOp E tm o h = evOp E tm' o h := by
  unfold evOp
  cases ho : o.op <;> rw [ho] at hx <;> simp only [opSem] <;> simp only [Op.operands] at hx
  case call c =>
    unfold oCall
    have h1 : opnds tm c.args.toList = opnds tm' c.args.toList := opnds_congr fun x hm => hx x (by simp only [Call.operands]; simp at hm; simp [hm])
    rw [h1]
    cases opnds tm' c.args.toList with
    | none => rfl
    | some args =>
      simp only
      unfold oCallee
      cases hc : c.callee with
      | value f => simp only [hx f (by simp [Call.operands, hc])]
      | _ => rfl
  case build t ps => unfold oBuild; rw [parts_congr (tm := tm) (tm' := tm') (fun x hm => hx x (by simpa using hm))]
  case buildSlice t n ps => unfold oBuildSlice; rw [parts_congr (tm := tm) (tm' := tm') (fun x hm => hx x (by simpa using hm))]
  case makeFunc fn a b =>
    unfold oFunc
    rw [opnds_congr (tm := tm) (tm' := tm') (l := a.toList) (fun x hm => hx x (by simp at hm; simp [hm])), opnds_congr (tm := tm) (tm' := tm') (l := b.toList) (fun x hm => hx x (by simp at hm; simp [hm]))]
  case slice t x lo hi mx =>
    unfold oSlice
    rw [hx x (by simp)]
    cases opnd tm' x with
    | none => rfl
    | some v =>
      simp only
      rw [sliceV_congr (tm := tm) (tm' := tm') (fun y hy => hx y (by simp at hy; simp [hy])) (fun y hy => hx y (by simp at hy; simp [hy])) (fun y hy => hx y (by simp at hy; simp [hy]))]
  all_goals first
    | rfl
    | (simp only [List.mem_toArray, List.mem_cons, List.not_mem_nil, or_false, forall_eq_or_imp, forall_eq] at hx
       simp only [oMove, oPick, oBox, oLoad, oStore, oNil, oBin, oUn, oConv, oIface, oMakeSlice, oFieldAddr, oField, oIndexAddr, oIndex, oLookup, oUpdate, oRange, oNext, oEntry, oExtract, hx])
end
end Go.Ev
/- An evaluator of closed calls over abstract memory: a region whose order is open, by one walk of it in the text's order. -/
namespace Go.Ev
open Go.RowKit
set_option autoImplicit false
set_option linter.unusedSimpArgs false
set_option linter.unusedVariables false

/-- 0: may turn memory; 1: looks at slots alone; 2: looks at memory. -/
def kindOf : Op → Nat
  | .move _ => 1
  | .assign _ => 1
  | .pick _ _ _ => 1
  | .nilCheck _ => 1
  | .binOp _ _ _ _ _ => 1
  | .unOp _ _ _ => 1
  | .makeInterface _ _ => 1
  | .makeFunc _ _ _ => 1
  | .slice _ _ _ _ _ => 1
  | .fieldAddr _ _ _ => 1
  | .field _ _ _ => 1
  | .indexAddr _ _ _ => 1
  | .index _ _ _ => 1
  | .extract _ _ => 1
  | .build _ _ => 1
  | .load _ _ => 2
  | .lookup _ _ _ _ => 2
  | .entry _ => 2
  | .convert _ _ _ => 2
  | .call c => match c.callee with
    | .builtin .len => 2
    | .builtin .cap => 2
    | .builtin .max => 2
    | .builtin .min => 2
    | _ => 0
  | _ => 0

def isConv : Op → Option (TypeId × TypeId × Operand)
  | .convert s d x => some (s, d, x)
  | _ => none

noncomputable section

def evC (E : Env) (tm : T) (h : AH) (c : TypeId × TypeId × Operand) : Option (AV × AH) :=
  match opnd tm c.2.2 with
  | some v => match convB E c.1 c.2.1 v h with
    | some _ => none
    | none => match convV E c.1 c.2.1 v h with
      | some y => some (y, h)
      | none => none
  | none => none

def nxX (ih : Ih) (h : AH) : Option Nx → Option (AV × AH)
  | some (.vals l) => match l with
    | [p] => some p
    | _ => none
  | some (.enter f args) => match ih.call f args h with
    | .cl v h => some (v, h)
    | _ => none
  | none => none

def evX (E : Env) (ih : Ih) (o : Oper) (all : List Oper) (tm : T) (h : AH) : Option (AV × AH) :=
  match want tm all o with
  | false => some (.tup [], h)
  | true => match isConv o.op with
    | some c => evC E tm h c
    | none => match opW o.op with
      | .mk f => nxX ih h (f E tm h)

structure Rec where
  tm : T
  v : AV
  hb : AH
  ha : AH

inductive TRes where
  | no
  | yes (rs : List Rec) (tm : T) (h : AH)

def traceX (E : Env) (ih : Ih) (all : List Oper) (l : List Oper) : T → AH → TRes :=
  List.rec (motive := fun _ => T → AH → TRes) (fun tm h => .yes [] tm h)
    (fun o _ rest tm h => match evX E ih o all tm h with
      | none => .no
      | some p => match setD tm o.dst p.1 with
        | none => .no
        | some tm' => match rest tm' p.2 with
          | .no => .no
          | .yes rs tF hF => .yes ({ tm, v := p.1, hb := h, ha := p.2 } :: rs) tF hF) l

/-- who must have come, as masks -/
def closeMask (acc : List Nat) : List Edge → Nat
  | [] => 0
  | e :: l => match Region.binds .any e with
    | true => Nat.lor (Nat.lor (Nat.shiftLeft 1 e.on) (match acc[e.on]? with | some q => q | none => 0)) (closeMask acc l)
    | false => closeMask acc l
def masksF : List Nat → List Oper → List Nat
  | acc, [] => acc
  | acc, o :: l => masksF (acc ++ [closeMask acc o.after.toList]) l
def masks (l : List Oper) : List Nat := masksF [] l

def maskAt (M : List Nat) (i : Nat) : Nat := match M[i]? with | some p => p | none => 0

def edgesOK (ops : Array Oper) (M : List Nat) (i : Nat) (o : Oper) : Bool :=
  o.after.toList.all (fun e => !Region.binds .any e || Nat.blt e.on i) &&
  (List.range ops.size).all fun j => !bit (maskAt M i) j || (Nat.blt j i && o.after.toList.any fun e => Region.binds .any e && (Nat.beq e.on j || bit (maskAt M e.on) j))

def slotsOK (ops : Array Oper) (M : List Nat) (i : Nat) (o : Oper) (w : Nat) (ow : Oper) : Bool :=
  Nat.beq i w || match ow.dst with
    | none => true
    | some t => !(o.dst == some t) && (!(o.looksAt ops).contains t || bit (maskAt M i) w || bit (maskAt M w) i)

def chainOK (M : List Nat) (i : Nat) (o : Oper) (e : Nat) (oe : Oper) : Bool :=
  !(Nat.beq (kindOf o.op) 0) || !(Nat.beq (kindOf oe.op) 0) || !Nat.blt e i || bit (maskAt M i) e

def regOK (ops : Array Oper) (M : List Nat) : Bool :=
  (List.range ops.size).all fun i => match ops[i]? with
    | none => false
    | some o => edgesOK ops M i o && (List.range ops.size).all fun w => match ops[w]? with
      | none => false
      | some ow => slotsOK ops M i o w ow && chainOK M i o w ow

/-- which reads must be looked at again: the read's number, the doing's number -/
def pairsOf (ops : Array Oper) (M : List Nat) : List (Nat × Nat) :=
  (List.range ops.size).flatMap fun i => match ops[i]? with
    | none => []
    | some o => if Nat.beq (kindOf o.op) 2 then (List.range ops.size).filterMap fun e => match ops[e]? with
        | none => none
        | some oe => if Nat.beq (kindOf oe.op) 0 && !(Nat.blt e i && bit (maskAt M i) e) && !(Nat.blt i e && bit (maskAt M e) i) then some (i, e) else none
      else []

def sayX (r : Option (AV × AH)) (v : AV) : Bool :=
  match r with
  | some p => same p.1 v
  | none => false

def pairOK (E : Env) (ih : Ih) (ops : Array Oper) (rs : List Rec) (p : Nat × Nat) : Bool :=
  match ops[p.1]?, rs[p.1]?, rs[p.2]? with
  | some o, some r, some re => sayX (evX E ih o ops.toList r.tm (if Nat.blt p.2 p.1 then re.hb else re.ha)) r.v
  | _, _, _ => false

def lexR (ops : Array Oper) (pairs : List (Nat × Nat)) (E : Env) (ih : Ih) (rs : List Rec) (tF : T) (hF : AH) (other : R) : R :=
  match pairs.all (pairOK E ih ops rs) with
  | true => .go tF hF
  | false => other

def rLex (ops : Array Oper) (l : List Oper) (pre : List Nat) (pairs : List (Nat × Nat)) (E : Env) (ih : Ih) (tm : T) (h : AH) : R :=
  match traceX E ih l l tm h with
  | .yes rs tF hF => lexR ops pairs E ih rs tF hF (rDraw l.length pre l E ih tm h)
  | .no => rDraw l.length pre l E ih tm h

def drawW (ops : Array Oper) : CW :=
  match regOK ops (masks ops.toList) with
  | true => .mk (rLex ops ops.toList (ops.toList.map fun o => maskOf o.after.toList) (pairsOf ops (masks ops.toList)))
  | false => .mk (rDraw ops.toList.length (ops.toList.map fun o => maskOf o.after.toList) ops.toList)
end
end Go.Ev
/- An evaluator of closed calls over abstract memory: a region whose order is open: what one operation's walk says. -/
namespace Go.Ev
open Go.RowKit
set_option autoImplicit false
set_option linter.unusedSimpArgs false
set_option linter.unusedVariables false

variable {P : Program}
section
variable {E : Env} {B : Nat} {w0 w : World} {ρ : Rho} {h : AH} {tm tm' : T} {a : Act} {o : Oper} {ih : Ih}

def boolOf : AV → Option Bool
  | .bool b => some b
  | _ => none

theorem yes_get (tm : T) (l : List Oper) (j : Nat) : yes tm l j = match l[j]? with
    | some o => match o.dst with
      | some d => boolOf (tm.get d)
      | none => none
    | none => none := by
  unfold yes
  cases l[j]? with
  | none => rfl
  | some o =>
    simp only
    cases o.dst with
    | none => rfl
    | some d =>
      simp only [T.get]
      cases tm.t.get d with
      | none => rfl
      | some v => cases v <;> rfl

theorem want_congr {ops : Array Oper} (ha : ∀ t ∈ o.looksAt ops, tm.get t = tm'.get t) : want tm ops.toList o = want tm' ops.toList o := by
  unfold want
  cases hg : o.guard with
  | none => rfl
  | some g =>
    obtain ⟨j, b⟩ := g
    simp only [yes_get]
    cases hj : ops.toList[j]? with
    | none => rfl
    | some oj =>
      simp only
      cases hd : oj.dst with
      | none => rfl
      | some d =>
        simp only
        rw [ha d]
        unfold Oper.looksAt
        refine List.mem_append_right _ ?_
        rw [Array.getElem?_toList] at hj
        simp [hg, hj, hd]

theorem opnd_agree {ops : Array Oper} (ha : ∀ t ∈ o.looksAt ops, tm.get t = tm'.get t) : ∀ x ∈ o.op.operands, opnd tm x = opnd tm' x := by
  intro x hx
  cases x with
  | tmp t =>
    simp only [opnd]
    rw [ha t]
    unfold Oper.looksAt
    exact List.mem_append_left _ (List.mem_filterMap.2 ⟨.tmp t, by simpa using hx, rfl⟩)
  | _ => rfl

theorem evX_eq (ih : Ih) (o : Oper) (all : List Oper) (tm : T) (h : AH) : evX E ih o all tm h = match want tm all o with
    | false => some (.tup [], h)
    | true => match isConv o.op with
      | some c => evC E tm h c
      | none => nxX ih h (evOp E tm o h) := by
  unfold evX
  rw [opW_eq]
  rfl

theorem evX_congr {ops : Array Oper} (ha : ∀ t ∈ o.looksAt ops, tm.get t = tm'.get t) : evX E ih o ops.toList tm h = evX E ih o ops.toList tm' h := by
  rw [evX_eq, evX_eq, want_congr ha]
  have hx := opnd_agree (tm := tm) (tm' := tm') ha
  cases want tm' ops.toList o with
  | false => rfl
  | true =>
    simp only
    cases hc : isConv o.op with
    | none => simp only; rw [evOp_congr hx]
    | some c =>
      simp only
      unfold evC
      have : o.op = .convert c.1 c.2.1 c.2.2 := by
        unfold isConv at hc
        split at hc
        · rename_i heq
          simp only [Option.some.injEq] at hc; subst hc; exact heq
        · simp at hc
      rw [hx c.2.2 (by rw [this]; simp [Op.operands])]

theorem bLen_h {ts : List TypeId} {args : List AV} {v : AV} {h' : AH} (hv : bLen E ts args h = some (v, h')) : h' = h := by
  unfold bLen at hv
  split at hv
  · split at hv
    · split at hv
      · simp only [Option.some.injEq, Prod.mk.injEq] at hv; exact hv.2.symm
      · simp at hv
    · simp at hv
  · simp at hv
theorem bCap_h {ts : List TypeId} {args : List AV} {v : AV} {h' : AH} (hv : bCap E ts args h = some (v, h')) : h' = h := by
  unfold bCap at hv
  split at hv
  · split at hv
    · split at hv
      · simp only [Option.some.injEq, Prod.mk.injEq] at hv; exact hv.2.symm
      · simp only [Option.some.injEq, Prod.mk.injEq] at hv; exact hv.2.symm
      · simp at hv
    · simp at hv
  · simp at hv
theorem bMax_h {ts : List TypeId} {args : List AV} {v : AV} {h' : AH} (hv : bMax E ts args h = some (v, h')) : h' = h := by
  unfold bMax at hv
  split at hv
  · simp only [Option.some.injEq, Prod.mk.injEq] at hv; exact hv.2.symm
  · simp at hv
theorem bMin_h {ts : List TypeId} {args : List AV} {v : AV} {h' : AH} (hv : bMin E ts args h = some (v, h')) : h' = h := by
  unfold bMin at hv
  split at hv
  · simp only [Option.some.injEq, Prod.mk.injEq] at hv; exact hv.2.symm
  · simp at hv

theorem res_form {r : Option (AV × AH)} (hr : ∀ v h', r = some (v, h') → h' = h) : ∃ ov, oneRes r = oneVal ov h := by
  cases r with
  | none => exact ⟨none, rfl⟩
  | some p =>
    obtain ⟨v, h'⟩ := p
    have := hr v h' rfl
    subst this
    exact ⟨some v, rfl⟩

/-- An operation that only looks: one value, the memory as it was. -/
theorem pure_form (hk : kindOf o.op ≠ 0) (hc : isConv o.op = none) (tm : T) (h : AH) : ∃ ov, evOp E tm o h = oneVal ov h := by
  unfold evOp
  cases ho : o.op <;> rw [ho] at hk hc <;> simp only [kindOf, ne_eq, not_true_eq_false] at hk <;> simp only [opSem]
  case move x => exact ⟨_, rfl⟩
  case assign x => exact ⟨_, rfl⟩
  case pick c x y =>
    unfold oPick
    split
    · exact ⟨_, rfl⟩
    · exact ⟨_, rfl⟩
    · exact ⟨none, rfl⟩
  case nilCheck x =>
    unfold oNil
    split
    · exact ⟨some _, rfl⟩
    · exact ⟨some _, rfl⟩
    · exact ⟨some _, rfl⟩
    · exact ⟨none, rfl⟩
  case binOp op t x y t2 =>
    unfold oBin
    split
    · exact ⟨_, rfl⟩
    · exact ⟨none, rfl⟩
  case unOp op t x =>
    unfold oUn
    split
    · exact ⟨_, rfl⟩
    · exact ⟨none, rfl⟩
  case makeInterface t x =>
    unfold oIface
    split
    · split
      · exact ⟨none, rfl⟩
      · exact ⟨some _, rfl⟩
    · exact ⟨none, rfl⟩
  case makeFunc fn x y =>
    unfold oFunc
    split
    · exact ⟨some _, rfl⟩
    · exact ⟨none, rfl⟩
  case slice t x lo hi mx =>
    unfold oSlice
    split
    · exact ⟨_, rfl⟩
    · exact ⟨none, rfl⟩
  case fieldAddr t x f =>
    unfold oFieldAddr
    split
    · exact ⟨_, rfl⟩
    · exact ⟨none, rfl⟩
  case field t x f =>
    unfold oField
    split
    · exact ⟨_, rfl⟩
    · exact ⟨none, rfl⟩
  case indexAddr t x i =>
    unfold oIndexAddr
    split
    · exact ⟨_, rfl⟩
    · exact ⟨none, rfl⟩
  case index t x i =>
    unfold oIndex
    split
    · exact ⟨_, rfl⟩
    · exact ⟨none, rfl⟩
  case extract x i =>
    unfold oExtract
    split
    · exact ⟨_, rfl⟩
    · exact ⟨none, rfl⟩
  case build t ps =>
    unfold oBuild
    split
    · exact ⟨_, rfl⟩
    · exact ⟨none, rfl⟩
  case load t x =>
    unfold oLoad
    split
    · exact ⟨_, rfl⟩
    · exact ⟨none, rfl⟩
  case lookup t x k ok =>
    unfold oLookup
    split
    · exact ⟨_, rfl⟩
    · exact ⟨none, rfl⟩
  case entry x =>
    unfold oEntry
    split
    · exact ⟨_, rfl⟩
    · exact ⟨none, rfl⟩
  case convert s d x => simp [isConv] at hc
  case call c =>
    have hf : (E.frz && nilAppend c) = false := by
      have : nilAppend c = false := by
        unfold nilAppend
        split
        · rename_i hb _; rw [hb] at hk; simp at hk
        · rfl
      rw [this, Bool.and_false]
    unfold oCall
    rw [hf]
    simp only [Bool.false_eq_true, if_false]
    split
    · unfold oCallee
      split
      · rename_i b hb
        rw [hb] at hk
        refine res_form fun v h' hv => ?_
        unfold Ev.builtin builtinSem at hv
        split at hv
        · exact bLen_h hv
        · exact bCap_h hv
        · simp at hk
        · simp at hk
        · exact bMax_h hv
        · exact bMin_h hv
        · simp at hk
        · simp at hk
        · simp at hk
        · simp [bNone] at hv
      · rename_i hb
        rw [hb] at hk
        simp at hk
      · exact ⟨none, rfl⟩
    · exact ⟨none, rfl⟩

/-- An operation that looks at slots alone. -/
theorem free_form (hk : kindOf o.op = 1) (tm : T) : isConv o.op = none ∧ ∃ ov, ∀ h, evOp E tm o h = oneVal ov h := by
  unfold evOp
  cases ho : o.op <;> rw [ho] at hk <;> simp only [kindOf, Nat.reduceEqDiff, Nat.zero_ne_one, reduceCtorEq] at hk
  all_goals refine ⟨rfl, ?_⟩
  all_goals simp only [opSem]
  case move x => exact ⟨_, fun h => rfl⟩
  case assign x => exact ⟨_, fun h => rfl⟩
  case pick c x y =>
    unfold oPick
    split
    · exact ⟨_, fun h => rfl⟩
    · exact ⟨_, fun h => rfl⟩
    · exact ⟨none, fun h => rfl⟩
  case nilCheck x =>
    unfold oNil
    split
    · exact ⟨some _, fun h => rfl⟩
    · exact ⟨some _, fun h => rfl⟩
    · exact ⟨some _, fun h => rfl⟩
    · exact ⟨none, fun h => rfl⟩
  case binOp op t x y t2 =>
    unfold oBin
    split
    · exact ⟨_, fun h => rfl⟩
    · exact ⟨none, fun h => rfl⟩
  case unOp op t x =>
    unfold oUn
    split
    · exact ⟨_, fun h => rfl⟩
    · exact ⟨none, fun h => rfl⟩
  case makeInterface t x =>
    unfold oIface
    split
    · split
      · exact ⟨none, fun h => rfl⟩
      · exact ⟨some _, fun h => rfl⟩
    · exact ⟨none, fun h => rfl⟩
  case makeFunc fn x y =>
    unfold oFunc
    split
    · exact ⟨some _, fun h => rfl⟩
    · exact ⟨none, fun h => rfl⟩
  case slice t x lo hi mx =>
    unfold oSlice
    split
    · exact ⟨_, fun h => rfl⟩
    · exact ⟨none, fun h => rfl⟩
  case fieldAddr t x f =>
    unfold oFieldAddr
    split
    · exact ⟨_, fun h => rfl⟩
    · exact ⟨none, fun h => rfl⟩
  case field t x f =>
    unfold oField
    split
    · exact ⟨_, fun h => rfl⟩
    · exact ⟨none, fun h => rfl⟩
  case indexAddr t x i =>
    unfold oIndexAddr
    split
    · exact ⟨_, fun h => rfl⟩
    · exact ⟨none, fun h => rfl⟩
  case index t x i =>
    unfold oIndex
    split
    · exact ⟨_, fun h => rfl⟩
    · exact ⟨none, fun h => rfl⟩
  case extract x i =>
    unfold oExtract
    split
    · exact ⟨_, fun h => rfl⟩
    · exact ⟨none, fun h => rfl⟩
  case build t ps =>
    unfold oBuild
    split
    · exact ⟨_, fun h => rfl⟩
    · exact ⟨none, fun h => rfl⟩
  case call c =>
    exfalso
    split at hk <;> simp at hk

theorem nxX_one {ov : Option AV} {h' : AH} {p : AV × AH} (hp : nxX ih h (oneVal ov h') = some p) : ov = some p.1 ∧ p.2 = h' := by
  cases ov with
  | none => simp [oneVal, nxX] at hp
  | some v =>
    simp only [oneVal, val, nxX, Option.some.injEq] at hp
    subst hp
    exact ⟨rfl, rfl⟩

theorem evC_h {c : TypeId × TypeId × Operand} {p : AV × AH} (hp : evC E tm h c = some p) : p.2 = h := by
  unfold evC at hp
  split at hp
  · split at hp
    · simp at hp
    · split at hp
      · simp only [Option.some.injEq] at hp; subst hp; rfl
      · simp at hp
  · simp at hp

theorem evX_pure {all : List Oper} {p : AV × AH} (hk : kindOf o.op ≠ 0) (hx : evX E ih o all tm h = some p) : p.2 = h := by
  rw [evX_eq] at hx
  split at hx
  · simp only [Option.some.injEq] at hx; subst hx; rfl
  · split at hx
    · exact evC_h hx
    · rename_i hc
      obtain ⟨ov, ho⟩ := pure_form (E := E) hk hc tm h
      rw [ho] at hx
      exact (nxX_one hx).2

theorem evX_free {all : List Oper} {p : AV × AH} (hk : kindOf o.op = 1) (hx : evX E ih o all tm h = some p) (h2 : AH) : evX E ih o all tm h2 = some (p.1, h2) := by
  rw [evX_eq] at hx ⊢
  obtain ⟨hc, ov, ho⟩ := free_form (E := E) hk tm
  split at hx
  · rename_i hw
    simp only [Option.some.injEq] at hx; subst hx
    rfl
  · rename_i hw
    rw [hc] at hx ⊢
    simp only at hx ⊢
    rw [ho] at hx ⊢
    obtain ⟨rfl, _⟩ := nxX_one hx
    rfl

/-- What it says of the model's run. -/
theorem evX_wp (hE : EnvOK P E) {n : Nat} (hih : Claims P E B w0 ih.task n) {ops : Array Oper} {v : AV} {h' : AH} (s : St B w0 ρ h w) (r : RT ρ tm a) (hx : evX E ih o ops.toList tm h = some (v, h'))
    {K : Act → World → Prop} {Q : Exit → Act → World → Prop} (hK : ∀ ρ' u w', Sub ρ ρ' → St B w0 ρ' h' w' → RV ρ' v u → K (a.put o.dst u) w') :
    if Region.wanted o (yielded ops a.tmps) then o.wp P a w K Q else K (a.put o.dst undef) w := by
  rw [← want_sound r ops o]
  rw [evX_eq] at hx
  cases hw : want tm ops.toList o with
  | false =>
    rw [hw] at hx
    simp only [Option.some.injEq, Prod.mk.injEq] at hx
    obtain ⟨rfl, rfl⟩ := hx
    simp only [Bool.false_eq_true, if_false]
    exact hK ρ undef w (Sub.refl _) s (by simp only [RV, undef]; exact ⟨[], rfl, by simp [RVs]⟩)
  | true =>
    rw [hw] at hx
    simp only [if_true]
    have hok := evOp_ok (o := o) hE s r
    have key : evOp E tm o h = some (.vals [(v, h')]) → o.wp P a w K Q := by
      intro he
      rw [he] at hok
      obtain ⟨p, hp, ρ', u, w', h1, h2, h3, h4⟩ := hok
      rw [List.mem_singleton] at hp; subst hp
      rcases h4 with h4 | ⟨h4, rfl⟩
      · simp only [Oper.wp, h4, Oper.upon_value]; exact hK ρ' u w' h1 h2 h3
      · simp only [Oper.wp, h4, Oper.upon_skip]; exact hK ρ' undef w' h1 h2 h3
    cases hc : isConv o.op with
    | some c =>
      rw [hc] at hx
      simp only at hx
      refine key ?_
      have : o.op = .convert c.1 c.2.1 c.2.2 := by
        unfold isConv at hc
        split at hc
        · rename_i heq
          simp only [Option.some.injEq] at hc; subst hc; exact heq
        · simp at hc
      unfold evOp
      rw [this]
      simp only [opSem, oConv]
      unfold evC at hx
      split at hx
      · rename_i y hy
        rw [hy]
        simp only
        split at hx
        · simp at hx
        · rename_i hb
          rw [hb]
          simp only
          split at hx
          · rename_i z hz
            simp only [Option.some.injEq, Prod.mk.injEq] at hx
            obtain ⟨rfl, rfl⟩ := hx
            rw [hz]; rfl
          · simp at hx
      · simp at hx
    | none =>
      rw [hc] at hx
      simp only at hx
      cases he : evOp E tm o h with
      | none => rw [he] at hx; simp [nxX] at hx
      | some nx =>
        rw [he] at hx
        cases nx with
        | vals l =>
          simp only [nxX] at hx
          split at hx
          · simp only [Option.some.injEq] at hx; subst hx; exact key he
          · simp at hx
        | enter f args =>
          simp only [nxX] at hx
          split at hx
          · rename_i v2 h2 hcall
            simp only [Option.some.injEq, Prod.mk.injEq] at hx
            obtain ⟨rfl, rfl⟩ := hx
            rw [he] at hok
            obtain ⟨vs, h1, h3⟩ := hok
            simp only [Oper.wp, h3, Oper.upon_enter]
            refine Calls.mono (hih.call f args h ρ vs w (fun u w' => K (a.put o.dst u) w') s h1 ?_) ?_
            · intro y hy
              simp only [Ih.task, hcall, R.outs, List.mem_singleton] at hy
              subst hy
              intro ρ' u w' hsub hst hu
              exact hK ρ' u w' hsub hst hu
            · rintro e w' ⟨u, rfl, hR⟩
              exact hR
          · simp at hx
end
end Go.Ev
/- An evaluator of closed calls over abstract memory: a region whose order is open: one walk serves every order. -/
namespace Go.Ev
open Go.RowKit
set_option autoImplicit false
set_option linter.unusedSimpArgs false
set_option linter.unusedVariables false

variable {P : Program}
section
variable {E : Env} {B : Nat} {w0 w : World} {ρ : Rho} {h : AH} {tm tm' : T} {a : Act} {o : Oper} {ih : Ih}

theorem trace_fun (E : Env) (ih : Ih) (all : List Oper) : ∀ (l : List Oper) (tm : T) (h : AH) (rs : List Rec) (tF : T) (hF : AH), traceX E ih all l tm h = .yes rs tF hF →
    ∃ (tmA : Nat → T) (hA : Nat → AH) (vA : Nat → AV), tmA 0 = tm ∧ hA 0 = h ∧ tmA l.length = tF ∧ hA l.length = hF ∧
      ∀ (i : Nat) o, l[i]? = some o → rs[i]? = some { tm := tmA i, v := vA i, hb := hA i, ha := hA (i + 1) } ∧ evX E ih o all (tmA i) (hA i) = some (vA i, hA (i + 1)) ∧ setD (tmA i) o.dst (vA i) = some (tmA (i + 1))
  | [], tm, h, rs, tF, hF, hy => by
    simp only [traceX, TRes.yes.injEq] at hy
    obtain ⟨rfl, rfl, rfl⟩ := hy
    exact ⟨fun _ => tm, fun _ => h, fun _ => .nil, rfl, rfl, rfl, rfl, fun i o hi => by simp at hi⟩
  | o :: l, tm, h, rs, tF, hF, hy => by
    have hy' : (match evX E ih o all tm h with
      | none => TRes.no
      | some p => match setD tm o.dst p.1 with
        | none => .no
        | some tm' => match traceX E ih all l tm' p.2 with
          | .no => .no
          | .yes rs tF hF => .yes ({ tm, v := p.1, hb := h, ha := p.2 } :: rs) tF hF) = .yes rs tF hF := hy
    split at hy'
    · simp at hy'
    · rename_i p hp
      split at hy'
      · simp at hy'
      · rename_i tm' htm
        split at hy'
        · simp at hy'
        · rename_i rs' tF' hF' hrest
          simp only [TRes.yes.injEq] at hy'
          obtain ⟨rfl, rfl, rfl⟩ := hy'
          obtain ⟨tmA, hA, vA, h1, h2, h3, h4, h5⟩ := trace_fun E ih all l tm' p.2 rs' _ _ hrest
          refine ⟨fun i => match i with | 0 => tm | i + 1 => tmA i, fun i => match i with | 0 => h | i + 1 => hA i, fun i => match i with | 0 => p.1 | i + 1 => vA i, rfl, rfl, h3, h4, ?_⟩
          intro i o' hi
          cases i with
          | zero =>
            simp only [List.getElem?_cons_zero, Option.some.injEq] at hi; subst hi
            refine ⟨?_, ?_, ?_⟩
            · simp only [List.getElem?_cons_zero, h2]
            · simp only [h2]; exact hp
            · simp only [h1]; exact htm
          | succ i =>
            simp only [List.getElem?_cons_succ] at hi ⊢
            exact h5 i o' hi

/-! what the region's Bools say -/
section
variable {ops : Array Oper} {M : List Nat}

theorem reg_at (hr : regOK ops M = true) {i : Nat} {o : Oper} (hi : ops[i]? = some o) : edgesOK ops M i o = true ∧ ∀ w ow, ops[w]? = some ow → slotsOK ops M i o w ow = true ∧ chainOK M i o w ow = true := by
  have hlt := (Array.getElem?_eq_some_iff.1 hi).1
  have := List.all_eq_true.1 hr i (List.mem_range.2 hlt)
  rw [hi] at this
  simp only [Bool.and_eq_true] at this
  refine ⟨this.1, fun w ow hw => ?_⟩
  have hw' := List.all_eq_true.1 this.2 w (List.mem_range.2 (Array.getElem?_eq_some_iff.1 hw).1)
  rw [hw] at hw'
  simpa using hw'

theorem edge_lt (hr : regOK ops M = true) {i : Nat} {o : Oper} (hi : ops[i]? = some o) {e : Edge} (he : e ∈ o.after) (hb : Region.binds .any e = true) : e.on < i := by
  have := (reg_at hr hi).1
  unfold edgesOK at this
  simp only [Bool.and_eq_true] at this
  have := List.all_eq_true.1 this.1 e (by simpa using he)
  simp only [hb, Bool.not_true, Bool.false_or, Nat.blt_eq] at this
  exact this

theorem mask_spec (hr : regOK ops M = true) {i : Nat} {o : Oper} (hi : ops[i]? = some o) {j : Nat} (hj : j < ops.size) (hb : bit (maskAt M i) j = true) :
    j < i ∧ ∃ e ∈ o.after, Region.binds .any e = true ∧ (e.on = j ∨ bit (maskAt M e.on) j = true) := by
  have := (reg_at hr hi).1
  unfold edgesOK at this
  simp only [Bool.and_eq_true] at this
  have := List.all_eq_true.1 this.2 j (List.mem_range.2 hj)
  simp only [hb, Bool.not_true, Bool.false_or, Bool.and_eq_true, Nat.blt_eq] at this
  obtain ⟨h1, h2⟩ := this
  obtain ⟨e, he, h3⟩ := List.any_eq_true.1 h2
  simp only [Bool.and_eq_true, Bool.or_eq_true] at h3
  exact ⟨h1, e, by simpa using he, h3.1, h3.2.imp Nat.eq_of_beq_eq_true id⟩

theorem slots_spec (hr : regOK ops M = true) {i w : Nat} {o ow : Oper} (hi : ops[i]? = some o) (hw : ops[w]? = some ow) (hne : i ≠ w) {t : Tmp} (ht : ow.dst = some t) :
    o.dst ≠ some t ∧ (t ∈ o.looksAt ops → bit (maskAt M i) w = true ∨ bit (maskAt M w) i = true) := by
  have := ((reg_at hr hi).2 w ow hw).1
  unfold slotsOK at this
  have hb : Nat.beq i w = false := by
    cases hb : Nat.beq i w with
    | false => rfl
    | true => exact absurd (Nat.eq_of_beq_eq_true hb) hne
  rw [hb, ht] at this
  simp only [Bool.false_or, Bool.and_eq_true, Bool.not_eq_true', beq_eq_false_iff_ne, Bool.or_eq_true] at this
  refine ⟨this.1, fun hm => ?_⟩
  rcases this.2 with (h1 | h1) | h1
  · rw [List.contains_eq_mem] at h1
    simp [hm] at h1
  · exact .inl h1
  · exact .inr h1

theorem chain_spec (hr : regOK ops M = true) {i e : Nat} {o oe : Oper} (hi : ops[i]? = some o) (he : ops[e]? = some oe) (hk : kindOf o.op = 0) (hke : kindOf oe.op = 0) (hlt : e < i) : bit (maskAt M i) e = true := by
  have := ((reg_at hr hi).2 e oe he).2
  unfold chainOK at this
  rw [hk, hke] at this
  have hb : Nat.blt e i = true := by rw [Nat.blt_eq]; exact hlt
  rw [hb] at this
  simpa using this

/-- all that must have come ahead of those that have come has come -/
def Shut (ops : Array Oper) (S : Nat → Bool) : Prop := ∀ (j : Nat) o, ops[j]? = some o → S j = true → ∀ e ∈ o.after, Region.binds .any e = true → S e.on = true

theorem mask_done (hr : regOK ops M = true) {S : Nat → Bool} (hS : Shut ops S) : ∀ (i : Nat) (o : Oper), ops[i]? = some o → (∀ e ∈ o.after, Region.binds .any e = true → S e.on = true) → ∀ j, j < ops.size → bit (maskAt M i) j = true → S j = true := by
  intro i
  induction i using Nat.strongRecOn with
  | _ i ihi =>
    intro o hi hpre j hj hb
    obtain ⟨_, e, he, hbd, hc⟩ := mask_spec hr hi hj hb
    rcases hc with rfl | hc
    · exact hpre e he hbd
    · have hlt := edge_lt hr hi he hbd
      have hsz : e.on < ops.size := Nat.lt_trans hlt (Array.getElem?_eq_some_iff.1 hi).1
      have hoe : ops[e.on]? = some ops[e.on] := Array.getElem?_eq_getElem hsz
      exact ihi e.on hlt ops[e.on] hoe (fun e' he' hb' => hS e.on _ hoe (hpre e he hbd) e' he' hb') j hj hc

theorem mask_done' (hr : regOK ops M = true) {S : Nat → Bool} (hS : Shut ops S) {i : Nat} {o : Oper} (hi : ops[i]? = some o) (hSi : S i = true) {j : Nat} (hj : j < ops.size) (hb : bit (maskAt M i) j = true) : S j = true :=
  mask_done hr hS i o hi (fun e he hbd => hS i o hi hSi e he hbd) j hj hb
end

theorem pairs_mem {ops : Array Oper} {M : List Nat} {i e : Nat} {o oe : Oper} (hi : ops[i]? = some o) (he : ops[e]? = some oe) (hk : kindOf o.op = 2) (hke : kindOf oe.op = 0)
    (h1 : ¬ (e < i ∧ bit (maskAt M i) e = true)) (h2 : ¬ (i < e ∧ bit (maskAt M e) i = true)) : (i, e) ∈ pairsOf ops M := by
  unfold pairsOf
  refine List.mem_flatMap.2 ⟨i, List.mem_range.2 (Array.getElem?_eq_some_iff.1 hi).1, ?_⟩
  rw [hi]
  simp only [hk]
  rw [if_pos (show Nat.beq 2 2 = true from rfl)]
  refine List.mem_filterMap.2 ⟨e, List.mem_range.2 (Array.getElem?_eq_some_iff.1 he).1, ?_⟩
  rw [he]
  simp only [hke]
  rw [if_pos]
  simp only [Bool.and_eq_true, Bool.not_eq_true', Bool.and_eq_false_iff]
  refine ⟨⟨rfl, ?_⟩, ?_⟩
  · by_cases hlt : e < i
    · right
      cases hb : bit (maskAt M i) e with
      | false => rfl
      | true => exact absurd ⟨hlt, hb⟩ h1
    · left
      cases hb : Nat.blt e i with
      | false => rfl
      | true => rw [Nat.blt_eq] at hb; exact absurd hb hlt
  · by_cases hlt : i < e
    · right
      cases hb : bit (maskAt M e) i with
      | false => rfl
      | true => exact absurd ⟨hlt, hb⟩ h2
    · left
      cases hb : Nat.blt i e with
      | false => rfl
      | true => rw [Nat.blt_eq] at hb; exact absurd hb hlt

theorem sayX_spec {r : Option (AV × AH)} {v : AV} (hs : sayX r v = true) : ∃ p, r = some p ∧ p.1 = v := by
  unfold sayX at hs
  split at hs
  · exact ⟨_, rfl, same_eq _ _ hs⟩
  · simp at hs

/-- the walk, as functions of the place -/
structure Walk (E : Env) (ih : Ih) (ops : Array Oper) (M : List Nat) (tm0 : T) (tmA : Nat → T) (hA : Nat → AH) (vA : Nat → AV) : Prop where
  tm0 : tmA 0 = tm0
  step : ∀ (i : Nat) o, ops[i]? = some o → evX E ih o ops.toList (tmA i) (hA i) = some (vA i, hA (i + 1)) ∧ setD (tmA i) o.dst (vA i) = some (tmA (i + 1))
  again : ∀ (i e : Nat) o oe, ops[i]? = some o → ops[e]? = some oe → kindOf o.op = 2 → kindOf oe.op = 0 → ¬ (e < i ∧ bit (maskAt M i) e = true) → ¬ (i < e ∧ bit (maskAt M e) i = true) →
    ∃ p, evX E ih o ops.toList (tmA i) (if Nat.blt e i then hA e else hA (e + 1)) = some p ∧ p.1 = vA i

section
variable {ops : Array Oper} {M : List Nat} {tm0 : T} {tmA : Nat → T} {hA : Nat → AH} {vA : Nat → AV}

theorem still (W : Walk E ih ops M tm0 tmA hA vA) {i : Nat} {o : Oper} (hi : ops[i]? = some o) (hk : kindOf o.op ≠ 0) : hA (i + 1) = hA i := evX_pure hk (W.step i o hi).1

/-- from i on to m -/
theorem heap_up (W : Walk E ih ops M tm0 tmA hA vA) (i : Nat) : ∀ m, i ≤ m → m ≤ ops.size → hA m = hA i ∨ ∃ e oe, i ≤ e ∧ e < m ∧ ops[e]? = some oe ∧ kindOf oe.op = 0 ∧ hA m = hA (e + 1) := by
  intro m hm hsz
  obtain ⟨k, rfl⟩ : ∃ k, m = i + k := ⟨m - i, by omega⟩
  induction k with
  | zero => exact .inl rfl
  | succ k ihk =>
    have hlt : i + k < ops.size := by omega
    have ho : ops[i + k]? = some ops[i + k] := Array.getElem?_eq_getElem hlt
    by_cases hk : kindOf ops[i + k].op = 0
    · exact .inr ⟨i + k, _, by omega, by omega, ho, hk, rfl⟩
    · have e := still W ho hk
      rcases ihk (by omega) (by omega) with h1 | ⟨e', oe, h1, h2, h3, h4, h5⟩
      · exact .inl (by rw [← h1, ← e]; rfl)
      · exact .inr ⟨e', oe, h1, by omega, h3, h4, by rw [← h5, ← e]; rfl⟩

/-- from m on to i -/
theorem heap_down (W : Walk E ih ops M tm0 tmA hA vA) (i : Nat) : ∀ m, m ≤ i → i ≤ ops.size → hA m = hA i ∨ ∃ e oe, m ≤ e ∧ e < i ∧ ops[e]? = some oe ∧ kindOf oe.op = 0 ∧ hA m = hA e := by
  intro m hm hsz
  obtain ⟨k, rfl⟩ : ∃ k, i = m + k := ⟨i - m, by omega⟩
  clear hm
  induction k generalizing m with
  | zero => exact .inl rfl
  | succ k ihk =>
    have hlt : m < ops.size := by omega
    have ho : ops[m]? = some ops[m] := Array.getElem?_eq_getElem hlt
    by_cases hk : kindOf ops[m].op = 0
    · exact .inr ⟨m, _, by omega, by omega, ho, hk, rfl⟩
    · have e := still W ho hk
      rcases ihk (m + 1) (by omega) with h1 | ⟨e', oe, h1, h2, h3, h4, h5⟩
      · exact .inl (by rw [← e, h1]; congr 1; omega)
      · exact .inr ⟨e', oe, by omega, by omega, h3, h4, by rw [← e, h5]⟩

/-- the slots, where the operations of S have come -/
def SV (ops : Array Oper) (tm0 : T) (vA : Nat → AV) (S : Nat → Bool) (x : T) : Prop :=
  x.n = tm0.n ∧ ∀ t, (∀ (i : Nat) o, ops[i]? = some o → o.dst = some t → S i = true → x.get t = vA i) ∧ ((∀ (i : Nat) o, ops[i]? = some o → o.dst = some t → S i = false) → x.get t = tm0.get t)

theorem SV.set {S : Nat → Bool} {x x' : T} (hr : regOK ops M = true) (hx : SV ops tm0 vA S x) {i : Nat} {o : Oper} (hi : ops[i]? = some o) (hSi : S i = false) (hset : setD x o.dst (vA i) = some x') :
    SV ops tm0 vA (fun j => S j || Nat.beq j i) x' := by
  obtain ⟨hn, hg⟩ := hx
  have hbi : ∀ j, Nat.beq j i = true ↔ j = i := fun j => ⟨Nat.eq_of_beq_eq_true, fun h => by rw [h]; exact Nat.beq_refl i⟩
  cases hd : o.dst with
  | none =>
    rw [hd] at hset
    simp only [setD, Option.some.injEq] at hset; subst hset
    refine ⟨hn, fun t => ⟨fun j oj hj ht hS => ?_, fun hno => (hg t).2 fun j oj hj ht => ?_⟩⟩
    · by_cases hji : j = i
      · subst hji; rw [hi] at hj; cases hj; rw [hd] at ht; cases ht
      · have : S j = true := by
          simp only [Bool.or_eq_true] at hS
          exact hS.resolve_right fun h => hji ((hbi j).1 h)
        exact (hg t).1 j oj hj ht this
    · have := hno j oj hj ht
      simp only [Bool.or_eq_false_iff] at this
      exact this.1
  | some d =>
    rw [hd] at hset
    simp only [setD] at hset
    split at hset
    · simp only [Option.some.injEq] at hset; subst hset
      have hget : ∀ t, ({ n := x.n, t := x.t.set d (some (vA i)) } : T).get t = if t = d then vA i else x.get t := by
        intro t
        simp only [T.get, Tr.get_set]
        by_cases e : t = d
        · rw [if_pos e, if_pos e]
        · rw [if_neg e, if_neg e]
      refine ⟨hn, fun t => ⟨fun j oj hj ht hS => ?_, fun hno => ?_⟩⟩
      · show ({ n := x.n, t := x.t.set d (some (vA i)) } : T).get t = _
        rw [hget]
        by_cases hji : j = i
        · subst hji; rw [hi] at hj; cases hj; rw [hd] at ht; cases ht; rw [if_pos rfl]
        · have hne : t ≠ d := by
            intro htd
            subst htd
            exact (slots_spec hr hj hi hji hd).1 ht
          rw [if_neg hne]
          have : S j = true := by
            simp only [Bool.or_eq_true] at hS
            exact hS.resolve_right fun h => hji ((hbi j).1 h)
          exact (hg t).1 j oj hj ht this
      · show ({ n := x.n, t := x.t.set d (some (vA i)) } : T).get t = _
        rw [hget]
        have hne : t ≠ d := by
          intro htd
          subst htd
          have := hno i o hi hd
          simp [Nat.beq_refl] at this
        rw [if_neg hne]
        refine (hg t).2 fun j oj hj ht => ?_
        have := hno j oj hj ht
        simp only [Bool.or_eq_false_iff] at this
        exact this.1
    · simp at hset

theorem SV.congr {S S' : Nat → Bool} {x : T} (hx : SV ops tm0 vA S x) (he : ∀ i, i < ops.size → S i = S' i) : SV ops tm0 vA S' x := by
  refine ⟨hx.1, fun t => ⟨fun i o hi ht hS => (hx.2 t).1 i o hi ht (by rw [he i (Array.getElem?_eq_some_iff.1 hi).1]; exact hS), fun hno => (hx.2 t).2 fun i o hi ht => by rw [he i (Array.getElem?_eq_some_iff.1 hi).1]; exact hno i o hi ht⟩⟩

theorem SV.lex (W : Walk E ih ops M tm0 tmA hA vA) (hr : regOK ops M = true) : ∀ i, i ≤ ops.size → SV ops tm0 vA (fun j => Nat.blt j i) (tmA i) := by
  intro i
  induction i with
  | zero =>
    intro _
    rw [W.tm0]
    refine ⟨rfl, fun t => ⟨fun j o hj ht hS => ?_, fun _ => rfl⟩⟩
    rw [Nat.blt_eq] at hS; omega
  | succ i ihi =>
    intro hle
    have hi : ops[i]? = some ops[i] := Array.getElem?_eq_getElem (by omega)
    refine SV.congr (SV.set hr (ihi (by omega)) hi (by cases hb : Nat.blt i i with | false => rfl | true => rw [Nat.blt_eq] at hb; omega) (W.step i _ hi).2) ?_
    intro j _
    rw [Bool.eq_iff_iff, Bool.or_eq_true, Nat.blt_eq, Nat.blt_eq]
    constructor
    · rintro (h | h)
      · omega
      · have := Nat.eq_of_beq_eq_true h; omega
    · intro h
      by_cases e : j = i
      · subst e; exact .inr (Nat.beq_refl j)
      · exact .inl (by omega)

/-- what an operation looks at is what the walk saw -/
theorem slots_agree (W : Walk E ih ops M tm0 tmA hA vA) (hr : regOK ops M = true) {S : Nat → Bool} {x : T} (hS : Shut ops S) (hx : SV ops tm0 vA S x) {i : Nat} {o : Oper} (hi : ops[i]? = some o) (hSi : S i = false) (hpre : ∀ e ∈ o.after, Region.binds .any e = true → S e.on = true) :
    ∀ t ∈ o.looksAt ops, x.get t = (tmA i).get t := by
  intro t ht
  have hil := (Array.getElem?_eq_some_iff.1 hi).1
  have hy := SV.lex W hr i (by omega)
  by_cases hw : ∃ (j : Nat) (oj : Oper), ops[j]? = some oj ∧ oj.dst = some t
  · obtain ⟨j, oj, hj, hd⟩ := hw
    have hjl := (Array.getElem?_eq_some_iff.1 hj).1
    have huniq : ∀ (k : Nat) ok, ops[k]? = some ok → ok.dst = some t → k = j := by
      intro k ok hk hkd
      by_cases e : k = j
      · exact e
      · exact absurd hkd (slots_spec hr hk hj e hd).1
    by_cases hji : j = i
    · subst hji
      rw [(hx.2 t).2 (fun k ok hk hkd => by rw [huniq k ok hk hkd]; exact hSi), (hy.2 t).2 (fun k ok hk hkd => by
        rw [huniq k ok hk hkd]
        cases hb : Nat.blt j j with | false => exact hb | true => rw [Nat.blt_eq] at hb; omega)]
    · rcases (slots_spec hr hi hj (Ne.symm hji) hd).2 ht with hb | hb
      · have h1 := mask_done hr hS i o hi hpre j hjl hb
        have h2 := (mask_spec hr hi hjl hb).1
        rw [(hx.2 t).1 j oj hj hd h1, (hy.2 t).1 j oj hj hd (by rw [Nat.blt_eq]; exact h2)]
      · have h1 : S j = false := by
          cases hSj : S j with
          | false => rfl
          | true =>
            have := mask_done' hr hS hj hSj hil hb
            rw [hSi] at this; cases this
        have h2 := (mask_spec hr hj hil hb).1
        rw [(hx.2 t).2 (fun k ok hk hkd => by rw [huniq k ok hk hkd]; exact h1), (hy.2 t).2 (fun k ok hk hkd => by
          rw [huniq k ok hk hkd]
          cases hb : Nat.blt j i with | false => exact hb | true => rw [Nat.blt_eq] at hb; omega)]
  · have hno : ∀ (S : Nat → Bool) (k : Nat) ok, ops[k]? = some ok → ok.dst = some t → S k = false := fun S k ok hk hkd => absurd ⟨k, ok, hk, hkd⟩ hw
    rw [(hx.2 t).2 (hno S), (hy.2 t).2 (hno _)]

/-- the memory, where the operations of S have come -/
def HS (ops : Array Oper) (hA : Nat → AH) (S : Nat → Bool) (h : AH) : Prop :=
  ∃ m, m ≤ ops.size ∧ h = hA m ∧ ∀ (i : Nat) o, ops[i]? = some o → kindOf o.op = 0 → (S i = true ↔ i < m)

/-- THE NEXT OPERATION, in whatever order, does what it did in the walk. -/
theorem evX_any (W : Walk E ih ops M tm0 tmA hA vA) (hr : regOK ops M = true) {S : Nat → Bool} {x : T} {h : AH} (hS : Shut ops S) (hx : SV ops tm0 vA S x) (hh : HS ops hA S h) {i : Nat} {o : Oper} (hi : ops[i]? = some o) (hSi : S i = false)
    (hpre : ∀ e ∈ o.after, Region.binds .any e = true → S e.on = true) :
    ∃ h', evX E ih o ops.toList x h = some (vA i, h') ∧ HS ops hA (fun j => S j || Nat.beq j i) h' := by
  have hil := (Array.getElem?_eq_some_iff.1 hi).1
  have hbi : ∀ j, Nat.beq j i = true ↔ j = i := fun j => ⟨Nat.eq_of_beq_eq_true, fun h => by rw [h]; exact Nat.beq_refl i⟩
  obtain ⟨m, hm, rfl, hmS⟩ := hh
  rw [evX_congr (slots_agree W hr hS hx hi hSi hpre)]
  have hst := (W.step i o hi).1
  by_cases hk : kindOf o.op = 0
  · have hbefore : ∀ (e : Nat) oe, ops[e]? = some oe → kindOf oe.op = 0 → (S e = true ↔ e < i) := by
      intro e oe he hke
      have hel := (Array.getElem?_eq_some_iff.1 he).1
      constructor
      · intro hSe
        rcases Nat.lt_trichotomy e i with h1 | h1 | h1
        · exact h1
        · subst h1; rw [hSi] at hSe; cases hSe
        · have hb := chain_spec hr he hi hke hk h1
          have := mask_done' hr hS he hSe hil hb
          rw [hSi] at this; cases this
      · intro hlt
        exact mask_done hr hS i o hi hpre e hel (chain_spec hr hi he hk hke hlt)
    have heq : hA m = hA i := by
      rcases Nat.le_total m i with hle | hle
      · rcases heap_down W i m hle (by omega) with h1 | ⟨e, oe, h1, h2, h3, h4, _⟩
        · exact h1
        · have a1 := (hbefore e oe h3 h4).2 h2
          have a2 := (hmS e oe h3 h4).1 a1
          omega
      · rcases heap_up W i m hle hm with h1 | ⟨e, oe, h1, h2, h3, h4, _⟩
        · exact h1
        · have a1 := (hmS e oe h3 h4).2 h2
          have a2 := (hbefore e oe h3 h4).1 a1
          omega
    rw [heq]
    refine ⟨_, hst, i + 1, by omega, rfl, fun e oe he hke => ?_⟩
    rw [Bool.or_eq_true, hbi, hbefore e oe he hke]
    omega
  · have hkeep : HS ops hA (fun j => S j || Nat.beq j i) (hA m) := by
      refine ⟨m, hm, rfl, fun e oe he hke => ?_⟩
      rw [Bool.or_eq_true, hbi, ← hmS e oe he hke]
      constructor
      · rintro (h1 | h1)
        · exact h1
        · subst h1; rw [hi] at he; cases he; exact absurd hke hk
      · exact .inl
    refine ⟨hA m, ?_, hkeep⟩
    have hsame := still W hi hk
    rw [hsame] at hst
    by_cases hk1 : kindOf o.op = 1
    · exact evX_free hk1 hst (hA m)
    · have hk2 : kindOf o.op = 2 := by
        cases ho : o.op <;> rw [ho] at hk hk1 <;> simp only [kindOf] at hk hk1 ⊢ <;> first | contradiction | skip
        all_goals (split at hk <;> simp_all)
      have fin : ∀ p : AV × AH, evX E ih o ops.toList (tmA i) (hA m) = some p → p.1 = vA i → evX E ih o ops.toList (tmA i) (hA m) = some (vA i, hA m) := by
        intro p hp hv
        have := evX_pure hk hp
        rw [hp, ← hv, ← this]
      rcases Nat.le_total m i with hle | hle
      · rcases heap_down W i m hle (by omega) with h1 | ⟨e, oe, h1, h2, h3, h4, h5⟩
        · rw [h1]; exact hst
        · have hSe : ¬ S e = true := fun hSe => by have := (hmS e oe h3 h4).1 hSe; omega
          have hnb : ¬ (e < i ∧ bit (maskAt M i) e = true) := fun hb => hSe (mask_done hr hS i o hi hpre e (by omega) hb.2)
          obtain ⟨p, hp, hv⟩ := W.again i e o oe hi h3 hk2 h4 hnb (fun hb => by omega)
          have hlt : Nat.blt e i = true := by rw [Nat.blt_eq]; exact h2
          rw [hlt, if_pos rfl, ← h5] at hp
          exact fin p hp hv
      · rcases heap_up W i m hle hm with h1 | ⟨e, oe, h1, h2, h3, h4, h5⟩
        · rw [h1]; exact hst
        · have hSe : S e = true := (hmS e oe h3 h4).2 h2
          have hne : e ≠ i := by
            intro heq; subst heq; rw [hi] at h3; cases h3; exact hk h4
          have hnb : ¬ (i < e ∧ bit (maskAt M e) i = true) := fun hb => by
            have := mask_done' hr hS h3 hSe hil hb.2
            rw [hSi] at this; cases this
          obtain ⟨p, hp, hv⟩ := W.again i e o oe hi h3 hk2 h4 (fun hb => by omega) hnb
          have hlt : Nat.blt e i = false := by
            cases hb : Nat.blt e i with
            | false => rfl
            | true => rw [Nat.blt_eq] at hb; omega
          rw [hlt] at hp
          simp only [Bool.false_eq_true, if_false] at hp
          rw [← h5] at hp
          exact fin p hp hv
end
end
end Go.Ev
/- An evaluator of closed calls over abstract memory: a region whose order is open: every order. -/
namespace Go.Ev
open Go.RowKit
set_option autoImplicit false
set_option linter.unusedSimpArgs false
set_option linter.unusedVariables false

variable {P : Program}
section
variable {E : Env} {B : Nat} {w0 w : World} {ρ : Rho} {h : AH} {tm tm' : T} {a : Act} {o : Oper} {ih : Ih}

theorem count_less {p q : Nat → Bool} : ∀ (l : List Nat), (∀ x ∈ l, q x = true → p x = true) → (∃ x ∈ l, p x = true ∧ q x = false) → l.countP q < l.countP p
  | [], _, h => by obtain ⟨x, hx, _⟩ := h; simp at hx
  | y :: l, hle, h => by
    have hmono : l.countP q ≤ l.countP p := List.countP_mono_left fun x hx => hle x (List.mem_cons_of_mem _ hx)
    simp only [List.countP_cons]
    obtain ⟨x, hx, h1, h2⟩ := h
    rcases List.mem_cons.1 hx with rfl | hx
    · rw [h1, h2]; simp; omega
    · have ih := count_less l (fun x hx => hle x (List.mem_cons_of_mem _ hx)) ⟨x, hx, h1, h2⟩
      have := hle y List.mem_cons_self
      cases hq : q y with
      | false => simp; omega
      | true => rw [this hq]; simp; omega

theorem setD_some {x y y' : T} {d : Option Tmp} {v : AV} (hn : x.n = y.n) (h : setD y d v = some y') : ∃ x', setD x d v = some x' := by
  cases d with
  | none => exact ⟨x, rfl⟩
  | some d =>
    simp only [setD] at h ⊢
    split at h
    · rename_i hlt
      rw [if_pos (by rw [hn]; exact hlt)]
      exact ⟨_, rfl⟩
    · simp at h

theorem lex_any (hE : EnvOK P E) {n : Nat} (hih : Claims P E B w0 ih.task n) {ops : Array Oper} {M : List Nat} {tm0 : T} {tmA : Nat → T} {hA : Nat → AH} {vA : Nat → AV} (hr : regOK ops M = true) (W : Walk E ih ops M tm0 tmA hA vA)
    {Q : Exit → Act → World → Prop} (ρ0 : Rho) (hQ : Sat B w0 ρ0 [.code .normal (tmA ops.size) (hA ops.size)] Q) :
    ∀ (k t : Nat) (listed : Array Bool) (x : T) (h : AH) (ρ : Rho) (a : Act) (w : World), (List.range ops.size).countP (fun i => !listed.getD i false) ≤ k → listed.size = ops.size → Shut ops (fun i => listed.getD i false) →
      SV ops tm0 vA (fun i => listed.getD i false) x → HS ops hA (fun i => listed.getD i false) h → Sub ρ0 ρ → St B w0 ρ h w → RT ρ x a → wpOps P ops Q (lin ops k t listed) a w := by
  have fin : ∀ (listed : Array Bool) (x : T) (h : AH) (ρ : Rho) (a : Act) (w : World), (∀ i, i < ops.size → listed.getD i false = true) →
      SV ops tm0 vA (fun i => listed.getD i false) x → HS ops hA (fun i => listed.getD i false) h → Sub ρ0 ρ → St B w0 ρ h w → RT ρ x a → Q .normal a w := by
    intro listed x h ρ a w hall hx hh hsub st rt
    have hlast := SV.lex W hr ops.size (Nat.le_refl _)
    have hx' : SV ops tm0 vA (fun j => Nat.blt j ops.size) x := SV.congr hx fun i hi => by
      rw [hall i hi]; symm; rw [Nat.blt_eq]; exact hi
    have hget : ∀ t, x.get t = (tmA ops.size).get t := by
      intro t
      by_cases hw : ∃ (j : Nat) (oj : Oper), ops[j]? = some oj ∧ oj.dst = some t
      · obtain ⟨j, oj, hj, hd⟩ := hw
        have hb : Nat.blt j ops.size = true := by rw [Nat.blt_eq]; exact (Array.getElem?_eq_some_iff.1 hj).1
        rw [(hx'.2 t).1 j oj hj hd hb, (hlast.2 t).1 j oj hj hd hb]
      · rw [(hx'.2 t).2 (fun k ok hk hkd => absurd ⟨k, ok, hk, hkd⟩ hw), (hlast.2 t).2 (fun k ok hk hkd => absurd ⟨k, ok, hk, hkd⟩ hw)]
    obtain ⟨m, hm, rfl, hmS⟩ := hh
    have heq : hA m = hA ops.size := by
      rcases heap_down W ops.size m hm (Nat.le_refl _) with h1 | ⟨e, oe, h1, h2, h3, h4, _⟩
      · exact h1
      · have := (hmS e oe h3 h4).1 (hall e h2)
        omega
    have hq := hQ _ (List.mem_singleton.2 rfl)
    refine hq ρ a w hsub (by rw [← heq]; exact st) ⟨?_, rt.df, fun t => ?_⟩
    · rw [rt.sz, hx.1, hlast.1]
    · rw [← hget t]; exact rt.get t
  intro k
  induction k with
  | zero =>
    intro t listed x h ρ a w hc hsz hS hx hh hsub st rt
    simp only [lin, wpOps]
    refine fin listed x h ρ a w (fun i hi => ?_) hx hh hsub st rt
    have h0 : (List.range ops.size).countP (fun i => !listed.getD i false) = 0 := by omega
    rw [List.countP_eq_zero] at h0
    have := h0 i (List.mem_range.2 hi)
    simpa using this
  | succ k ihk =>
    intro t listed x h ρ a w hc hsz hS hx hh hsub st rt
    simp only [lin]
    generalize hrs : ((List.range ops.size).filter fun i =>
        !listed.getD i true && ((ops[i]?).map (·.after.all fun e => !Region.binds .any e || listed.getD e.on false)).getD false) = rs
    have hgetD : ∀ i, i < ops.size → listed.getD i true = listed.getD i false := by
      intro i hi
      simp [Array.getD_eq_getD_getElem?, hsz, hi]
    have hmem : ∀ i, i ∈ rs ↔ i < ops.size ∧ listed.getD i false = false ∧ ∀ o, ops[i]? = some o → ∀ e ∈ o.after, Region.binds .any e = true → listed.getD e.on false = true := by
      intro i
      rw [← hrs, List.mem_filter, List.mem_range]
      constructor
      · rintro ⟨h1, h2⟩
        have ho : ops[i]? = some ops[i] := Array.getElem?_eq_getElem h1
        rw [ho] at h2
        simp only [Option.map_some, Option.getD_some, Bool.and_eq_true, Bool.not_eq_true'] at h2
        rw [hgetD i h1] at h2
        refine ⟨h1, h2.1, fun o' ho' e he hb => ?_⟩
        rw [ho] at ho'; cases ho'
        have h3 := Array.all_eq_true_iff_forall_mem.1 h2.2 e he
        simpa [hb] using h3
      · rintro ⟨h1, h2, h3⟩
        refine ⟨h1, ?_⟩
        have ho : ops[i]? = some ops[i] := Array.getElem?_eq_getElem h1
        rw [ho, hgetD i h1, h2]
        simp only [Option.map_some, Option.getD_some, Bool.not_false, Bool.true_and]
        refine Array.all_eq_true_iff_forall_mem.2 fun e he => ?_
        cases hb : Region.binds .any e with
        | false => rfl
        | true => simpa using h3 _ ho e he hb
    cases hpick : rs[t % rs.length]? with
    | none =>
      simp only [wpOps]
      have hnil : rs = [] := by
        cases rs with
        | nil => rfl
        | cons y l =>
          have : t % (y :: l).length < (y :: l).length := Nat.mod_lt _ (by simp)
          rw [List.getElem?_eq_getElem this] at hpick
          simp at hpick
      refine fin listed x h ρ a w ?_ hx hh hsub st rt
      intro i
      induction i using Nat.strongRecOn with
      | _ i ihi =>
        intro hi
        cases hL : listed.getD i false with
        | true => rfl
        | false =>
          exfalso
          have : i ∈ rs := (hmem i).2 ⟨hi, hL, fun o ho e he hb => by
            have hlt := edge_lt hr ho he hb
            exact ihi e.on hlt (by omega)⟩
          rw [hnil] at this
          simp at this
    | some i =>
      simp only
      obtain ⟨hi, hL, hpre⟩ := (hmem i).1 (List.mem_of_getElem? hpick)
      have ho : ops[i]? = some ops[i] := Array.getElem?_eq_getElem hi
      obtain ⟨h', hx', hh'⟩ := evX_any W hr hS hx hh ho hL (hpre _ ho)
      have hn : x.n = (tmA i).n := by
        rw [hx.1]
        exact (SV.lex W hr i (by omega)).1.symm
      obtain ⟨x', hset⟩ := setD_some hn (W.step i _ ho).2
      have hx2 := SV.set hr hx ho hL hset
      have hS2 : ∀ j, (listed.setIfInBounds i true).getD j false = (listed.getD j false || Nat.beq j i) := by
        intro j
        simp only [Array.getD_eq_getD_getElem?, Array.getElem?_setIfInBounds]
        by_cases e : i = j
        · subst e
          simp [hsz, hi, Nat.beq_refl]
        · rw [if_neg e]
          have : Nat.beq j i = false := by
            cases hb : Nat.beq j i with
            | false => rfl
            | true => exact absurd (Nat.eq_of_beq_eq_true hb).symm e
          rw [this, Bool.or_false]
      have hfun : (fun j => (listed.setIfInBounds i true).getD j false) = fun j => (listed.getD j false || Nat.beq j i) := funext hS2
      have hShut : Shut ops (fun j => (listed.setIfInBounds i true).getD j false) := by
        intro j oj hj hSj e he hb
        simp only [hS2] at hSj ⊢
        rw [Bool.or_eq_true] at hSj ⊢
        rcases hSj with h1 | h1
        · exact .inl (hS j oj hj h1 e he hb)
        · have := Nat.eq_of_beq_eq_true h1
          subst this
          exact .inl (hpre _ hj e he hb)
      have hcount : (List.range ops.size).countP (fun j => !(listed.setIfInBounds i true).getD j false) ≤ k := by
        have := count_less (p := fun j => !listed.getD j false) (q := fun j => !(listed.setIfInBounds i true).getD j false) (List.range ops.size) (fun j _ hj => by
          rw [hS2] at hj
          simp only [Bool.not_or, Bool.and_eq_true] at hj
          exact hj.1) ⟨i, List.mem_range.2 hi, by simp only [hL]; rfl, by rw [hS2]; simp [Nat.beq_refl]⟩
        omega
      have hwp := evX_wp (Q := Q) (K := wpOps P ops Q (lin ops k (t / rs.length) (listed.setIfInBounds i true))) hE hih st rt hx' (fun ρ' u w' h1 h2 h3 => by
        refine ihk (t / rs.length) _ x' h' ρ' _ w' hcount (by simpa using hsz) hShut (by rw [hfun]; exact hx2) (by rw [hfun]; exact hh') (hsub.trans h1) h2 ?_
        exact setD_sound (rt.mono h1) h3 hset)
      simp only [wpOps, ho]
      split
      · rename_i hw
        rw [if_pos hw] at hwp
        exact .inl hwp
      · rename_i hw
        rw [if_neg hw] at hwp
        exact hwp

/-- A drawn region, by its one walk. -/
theorem lex_sound (hE : EnvOK P E) {n : Nat} (hih : Claims P E B w0 ih.task n) {ops : Array Oper} {M : List Nat} (hr : regOK ops M = true) {rs : List Rec} {tF : T} {hF : AH} (s : St B w0 ρ h w) (r : RT ρ tm a)
    (ht : traceX E ih ops.toList ops.toList tm h = .yes rs tF hF) (hp : (pairsOf ops M).all (pairOK E ih ops rs) = true) {Q : Exit → Act → World → Prop} (hQ : Sat B w0 ρ [.code .normal tF hF] Q) (t : Nat) :
    wpOps P ops Q (lin ops ops.size t (Array.replicate ops.size false)) a w := by
  obtain ⟨tmA, hA, vA, rfl, rfl, hl1, hl2, hstep⟩ := trace_fun E ih ops.toList ops.toList tm h rs tF hF ht
  rw [Array.length_toList] at hl1 hl2
  subst hl1 hl2
  have W : Walk E ih ops M (tmA 0) tmA hA vA := by
    refine ⟨rfl, fun i o hi => (hstep i o (by rw [Array.getElem?_toList]; exact hi)).2, ?_⟩
    intro i e o oe hi he hk hke h1 h2
    have := List.all_eq_true.1 hp _ (pairs_mem hi he hk hke h1 h2)
    unfold pairOK at this
    rw [hi, (hstep i o (by rw [Array.getElem?_toList]; exact hi)).1, (hstep e oe (by rw [Array.getElem?_toList]; exact he)).1] at this
    exact sayX_spec this
  have hf : ∀ i, (Array.replicate ops.size false).getD i false = false := by
    intro i
    simp only [Array.getD_eq_getD_getElem?, Array.getElem?_replicate]
    split <;> rfl
  have hfun : (fun i => (Array.replicate ops.size false).getD i false) = fun _ => false := funext hf
  refine lex_any hE hih hr W ρ hQ ops.size t _ (tmA 0) (hA 0) ρ a w ?_ (by simp) ?_ ?_ ?_ (Sub.refl _) s r
  · exact Nat.le_trans List.countP_le_length (by simp)
  · intro j oj hj hS
    exact absurd ((hf j).symm.trans hS) (by simp)
  · rw [hfun]
    exact ⟨rfl, fun t => ⟨fun i o hi ht hS => (by cases hS), fun _ => rfl⟩⟩
  · rw [hfun]
    exact ⟨0, Nat.zero_le _, rfl, fun i o _ _ => by simp⟩
end
end Go.Ev
/- An evaluator of closed calls over abstract memory: the same layers, made quick for the kernel (2). -/
namespace Go.Ev
open Go.RowKit
set_option autoImplicit false
set_option linter.unusedSimpArgs false
set_option linter.unusedVariables false
noncomputable section

def regionW (ops : Array Oper) : Bool → CW
  | true => drawW ops
  | false => .mk (rRegion ops.toList)

def codeW : Code → CW
  | .skip => .mk rSkip
  | .seq a b => .mk (rSeq a b)
  | .cond c a b => .mk (rCond c a b)
  | .block id b => .mk (rBlock id b)
  | .loop b => .mk (rLoop b)
  | .exit id => .mk (rExit id)
  | .ret => .mk rRet
  | .region _ ops draw => regionW ops draw
  | _ => .mk rBad

def rCode (E : Env) (ih : Ih) (c : Code) (tm : T) (h : AH) : R :=
  match codeW c with
  | .mk f => f E ih tm h

def rLoopB (ih : Ih) (c : Code) (tm : T) (h : AH) : R := thenR (ih.code c tm h) fun tm h => ih.loop c tm h

def opAtR (all : List Oper) (ih : Ih) (i : Nat) (tm : T) (h : AH) : List Out :=
  match all[i]? with
  | some o => (ih.op o all tm h).outs
  | none => [.code .normal tm h]

def rDp (ih : Ih) (k : Nat) (pre : List Nat) (all : List Oper) (l : List DS) : R :=
  match k with
  | 0 => match l with
    | [s] => .go s.tm s.h
    | l => .many (l.map fun s => .code .normal s.tm s.h)
  | k + 1 => match dpAll (opAtR all ih) pre [] l with
    | some l => ih.dp k pre all l
    | none => .bad [12]

def resR (E : Env) (f : FuncId) (fn : Func) (tm : T) (h : AH) : R :=
  match results E fn tm h with
  | some v => .cl v h
  | none => .bad [7, f]

def fnR (E : Env) (f : FuncId) (fn : Func) (r : R) : R :=
  match r with
  | .go tm h => resR E f fn tm h
  | .rt tm h => resR E f fn tm h
  | .ex _ _ _ => .bad [5, f]
  | .bad l => .bad (l ++ [f])
  | .many l => .many (l.map (outFn E f fn))
  | .cl _ _ => .bad [8]

def sameCall (v : AV) (h : AH) : Out → Bool
  | .call u k => same v u && sameH h k
  | _ => false

/-- outcomes that are one -/
def mergeL (l : List Out) : R :=
  match l with
  | .call v h :: l => match l.all (sameCall v h) with
    | true => .cl v h
    | false => .many (.call v h :: l)
  | l => .many l

def mergeR (r : R) : R :=
  match r with
  | .many l => mergeL l
  | r => r

def rBody (E : Env) (ih : Ih) (f : FuncId) (args : List AV) (h : AH) : R :=
  match E.fn f with
  | some fn => match fn.body with
    | some c => mergeR (fnR E f fn (ih.code c { n := Nat.max fn.ntmps args.length, t := Tr.ofList args } h))
    | none => .bad [9, f]
  | none => .bad [10, f]

def rCall (E : Env) (ih : Ih) (f : FuncId) (args : List AV) (h : AH) : R :=
  match E.prim f args h with
  | some (some (v, h)) => .cl v h
  | some none => .bad [6, f]
  | none => rBody E ih f args h

def layerR (E : Env) (ih : Ih) : Ih where
  code := rCode E ih
  loop := rLoopB ih
  ops := rOps E ih
  op := rOp E ih
  dp := rDp ih
  call := rCall E ih

def ihBad : Ih where
  code _ _ _ := .bad [0]
  loop _ _ _ := .bad [0]
  ops _ _ _ _ := .bad [0]
  op _ _ _ _ := .bad [0]
  dp _ _ _ _ := .bad [0]
  call _ _ _ := .bad [0]

def fe (E : Env) : Nat → Ih := Nat.rec ihBad fun _ ih => layerR E ih
end
end Go.Ev
/- An evaluator of closed calls over abstract memory: the quick layers say what is so. -/
namespace Go.Ev
open Go.RowKit
set_option autoImplicit false
set_option linter.unusedSimpArgs false
set_option linter.unusedVariables false

variable {P : Program}
section
variable {E : Env} {B : Nat} {w0 w : World} {ρ : Rho} {h : AH} {tm tm' : T} {a : Act} {o : Oper} {ih : Ih}

theorem thenR_outs (r : R) (f : T → AH → R) : (thenR r f).outs = Ev.andThen r.outs fun tm h => (f tm h).outs := by
  cases r with
  | go tm h => simp [thenR, R.outs, Ev.andThen]
  | ex i tm h => simp [thenR, R.outs, Ev.andThen]
  | rt tm h => simp [thenR, R.outs, Ev.andThen]
  | cl v h => simp [thenR, R.outs, Ev.andThen]
  | many l => rfl
  | bad l => simp [thenR, R.outs, Ev.andThen]

theorem setR_outs (tm : T) (d : Option Tmp) (v : AV) (h : AH) : (setR tm d v h).outs = [setOut tm d v h] := by
  unfold setR setOut setD
  cases d with
  | none => rfl
  | some d =>
    simp only
    by_cases hd : d < tm.n
    · have : Nat.blt d tm.n = true := by rw [Nat.blt_eq]; exact hd
      rw [this, if_pos hd]; rfl
    · have : Nat.blt d tm.n = false := by
        cases hb : Nat.blt d tm.n with
        | false => rfl
        | true => rw [Nat.blt_eq] at hb; exact absurd hb hd
      rw [this, if_neg hd]; rfl

theorem callR_outs (o : Oper) (tm : T) (r : R) : (callR o tm r).outs = r.outs.map (outCall tm o.dst) := by
  cases r with
  | cl v h => exact setR_outs tm o.dst v h
  | _ => rfl

theorem nxR_outs (o : Oper) (tm : T) (ih : Ih) (h : AH) (x : Option Nx) : (nxR o tm ih h x).outs = outNx o tm h ih.task x := by
  cases x with
  | none => rfl
  | some x =>
    cases x with
    | vals l =>
      match l with
      | [p] => exact setR_outs tm o.dst p.1 p.2
      | [] => rfl
      | p :: q :: l => rfl
    | enter f args => exact callR_outs o tm _

theorem rOp_outs (ih : Ih) (o : Oper) (all : List Oper) (tm : T) (h : AH) : (rOp E ih o all tm h).outs = lOp o all tm h E ih.task := by
  unfold rOp lOp
  rw [opW_eq]
  cases want tm all o with
  | true => exact nxR_outs o tm ih h _
  | false => exact setR_outs tm o.dst _ h

theorem rOps_outs (ih : Ih) (l all : List Oper) (tm : T) (h : AH) : (rOps E ih l all tm h).outs = lOps l all tm h E ih.task := by
  cases l with
  | nil => rfl
  | cons o l => exact thenR_outs _ _

theorem rLoopB_outs (ih : Ih) (c : Code) (tm : T) (h : AH) : (rLoopB ih c tm h).outs = lLoop c tm h E ih.task := thenR_outs _ _

theorem opAtR_eq (all : List Oper) (ih : Ih) : opAtR all ih = opAt all ih.task := by
  funext i tm h
  unfold opAtR opAt
  cases all[i]? <;> rfl

theorem rDp_outs (ih : Ih) (k : Nat) (pre : List Nat) (all : List Oper) (l : List DS) : (rDp ih k pre all l).outs = lDp k pre all l E ih.task := by
  cases k with
  | zero =>
    match l with
    | [s] => rfl
    | [] => rfl
    | s :: t :: l => rfl
  | succ k =>
    unfold rDp lDp
    rw [opAtR_eq]
    simp only
    cases dpAll (opAt all ih.task) pre [] l <;> rfl

theorem resR_outs (f : FuncId) (fn : Func) (x : AX) (hx : ∀ i, x ≠ .exit i) (tm : T) (h : AH) : (resR E f fn tm h).outs = [outFn E f fn (.code x tm h)] := by
  unfold resR
  cases x with
  | exit i => exact absurd rfl (hx i)
  | normal =>
    simp only [outFn]
    cases Ev.results E fn tm h <;> rfl
  | ret =>
    simp only [outFn]
    cases Ev.results E fn tm h <;> rfl

theorem fnR_outs (f : FuncId) (fn : Func) (r : R) : (fnR E f fn r).outs = r.outs.map (outFn E f fn) := by
  cases r with
  | go tm h => exact resR_outs f fn .normal (fun i => by simp) tm h
  | rt tm h => exact resR_outs f fn .ret (fun i => by simp) tm h
  | _ => rfl

theorem merge_sat {l : List Out} {Q : Value → World → Prop} (hs : CSat B w0 ρ (mergeL l).outs Q) : CSat B w0 ρ l Q := by
  unfold mergeL at hs
  split at hs
  · rename_i v h l'
    split at hs
    · rename_i hall
      intro o ho
      have h1 := hs _ (List.mem_singleton.2 rfl)
      rcases List.mem_cons.1 ho with rfl | ho
      · exact h1
      · have h2 := List.all_eq_true.1 hall o ho
        cases o with
        | call u k =>
          simp only [sameCall, Bool.and_eq_true] at h2
          have e1 := same_eq _ _ h2.1
          have e2 := sameH_eq _ _ h2.2
          subst e1 e2
          exact h1
        | code x t k => simp [sameCall] at h2
        | bad b => simp [sameCall] at h2
    · exact hs
  · exact hs

theorem mergeR_sat {r : R} {Q : Value → World → Prop} (hs : CSat B w0 ρ (mergeR r).outs Q) : CSat B w0 ρ r.outs Q := by
  cases r with
  | many l => exact merge_sat hs
  | _ => exact hs

theorem rCall_sat {ih : Ih} {f : FuncId} {args : List AV} {h : AH} {Q : Value → World → Prop} (hs : CSat B w0 ρ (rCall E ih f args h).outs Q) : CSat B w0 ρ (lCall f args h E ih.task) Q := by
  unfold rCall at hs
  unfold lCall
  cases hp : E.prim f args h with
  | some x =>
    rw [hp] at hs
    cases x with
    | none => exact hs
    | some p => exact hs
  | none =>
    rw [hp] at hs
    simp only at hs ⊢
    unfold rBody at hs
    unfold lBody
    cases hf : E.fn f with
    | none => rw [hf] at hs; exact hs
    | some fn =>
      rw [hf] at hs
      simp only at hs ⊢
      cases hc : fn.body with
      | none => rw [hc] at hs; exact hs
      | some c =>
        rw [hc] at hs
        have := mergeR_sat hs
        rw [fnR_outs] at this
        exact this
theorem blockR_outs (id : Nat) (r : R) : (blockR id r).outs = r.outs.map (outBlock id) := by
  cases r with
  | ex i tm h =>
    unfold blockR
    by_cases hi : i = id
    · subst hi
      simp only [Nat.beq_refl, R.outs, List.map_cons, List.map_nil, outBlock, if_true]
    · have : Nat.beq i id = false := by
        cases hb : Nat.beq i id with
        | false => rfl
        | true => exact absurd (Nat.eq_of_beq_eq_true hb) hi
      simp only [this, R.outs, List.map_cons, List.map_nil, outBlock, if_neg hi]
  | _ => rfl

/-- The claims of the quick layers. -/
theorem claimsR (hE : EnvOK P E) (B : Nat) (w0 : World) : ∀ n, Claims P E B w0 (fe E n).task n
  | 0 => by
    have hbad : ∀ (t : Task) ρ Q, ¬ Sat B w0 ρ ((fe E 0).task t) Q := fun t ρ Q hs => by
      cases t <;> exact hs _ (List.mem_singleton.2 rfl)
    have hbadc : ∀ (t : Task) ρ Q, ¬ CSat B w0 ρ ((fe E 0).task t) Q := fun t ρ Q hs => by
      cases t <;> exact hs _ (List.mem_singleton.2 rfl)
    exact ⟨fun _ _ _ _ _ _ _ _ _ hs => (hbad _ _ _ hs).elim, fun _ _ _ _ _ _ _ _ _ hs => (hbad _ _ _ hs).elim, fun _ _ _ _ _ _ _ _ _ _ hs => (hbad _ _ _ hs).elim,
      fun _ _ _ _ _ _ _ _ _ _ _ hs => (hbad _ _ _ hs).elim, fun _ _ _ _ _ _ _ hm => (by cases List.mem_singleton.1 hm),
      fun _ _ _ _ _ _ _ _ _ _ _ _ _ _ _ hs => (hbad _ _ _ hs).elim, fun _ _ _ _ _ _ _ _ _ hs => (hbadc _ _ _ hs).elim⟩
  | n + 1 => by
    have hih := claimsR hE B w0 n
    generalize hg : fe E n = ih at hih
    have hfe : fe E (n + 1) = layerR E ih := by rw [← hg]; rfl
    rw [hfe]
    refine ⟨?_, ?_, ?_, ?_, ?_, ?_, ?_⟩
    · intro c tm h ρ a w Q s r hs
      have hs : Sat B w0 ρ (rCode E ih c tm h).outs Q := hs
      have plain : (rCode E ih c tm h).outs = codeSem c E ih.task tm h → c.wp P Q a w := fun he => claim_code hE hih c tm h ρ a w Q s r (he ▸ hs)
      cases c with
      | skip => exact plain rfl
      | seq x y => exact plain (thenR_outs _ _)
      | cond c x y =>
        refine plain ?_
        show (rCond c x y E ih tm h).outs = cCond c x y E ih.task tm h
        unfold rCond cCond
        cases opnd tm c with
        | none => rfl
        | some v =>
          cases v with
          | bool b => cases b <;> rfl
          | _ => rfl
      | block id b => exact plain (blockR_outs id _)
      | loop b => exact plain rfl
      | exit id => exact plain rfl
      | ret => exact plain rfl
      | region id ops draw =>
        cases draw with
        | false => exact plain rfl
        | true =>
          have hcode : rCode E ih (.region id ops true) tm h = (match drawW ops with | .mk f => f E ih tm h) := rfl
          by_cases hr : regOK ops (masks ops.toList) = true
          · have hd : drawW ops = .mk (rLex ops ops.toList (ops.toList.map fun o => maskOf o.after.toList) (pairsOf ops (masks ops.toList))) := by
              unfold drawW; rw [hr]
            rw [hd] at hcode
            simp only at hcode
            unfold rLex at hcode
            cases ht : traceX E ih ops.toList ops.toList tm h with
            | no =>
              rw [ht] at hcode
              refine plain ?_
              rw [hcode]; rfl
            | yes rs tF hF =>
              rw [ht] at hcode
              simp only at hcode
              unfold lexR at hcode
              cases hp : (pairsOf ops (masks ops.toList)).all (pairOK E ih ops rs) with
              | false =>
                rw [hp] at hcode
                refine plain ?_
                rw [hcode]; rfl
              | true =>
                rw [hp] at hcode
                simp only at hcode
                rw [hcode] at hs
                refine wp_region_draw fun t => ?_
                rw [hE.mixed]
                unfold Region.schedule
                simp only [Bool.true_or, if_true]
                rw [linearise_lin]
                exact lex_sound hE hih hr (w := w.drew) s.drew r ht hp hs t
          · have hd : drawW ops = .mk (rDraw ops.toList.length (ops.toList.map fun o => maskOf o.after.toList) ops.toList) := by
              unfold drawW
              cases hb : regOK ops (masks ops.toList) with
              | true => exact absurd hb hr
              | false => rfl
            rw [hd] at hcode
            refine plain ?_
            rw [hcode]; rfl
      | _ => exact plain rfl
    · intro c tm h ρ a w Q s r hs
      rw [rounds_succ]
      have hs : Sat B w0 ρ (rLoopB ih c tm h).outs Q := hs
      rw [rLoopB_outs (E := E)] at hs
      exact hih.code c tm h ρ a w _ s r (Sat.andThen (f := fun tm h => ih.task (.loop c tm h)) hs fun tm h ρ' a w hsub s r hs => hih.loop c tm h ρ' a w Q s r hs)
    · intro l ops tm h ρ a w Q s r hs
      have hs : Sat B w0 ρ (rOps E ih l ops.toList tm h).outs Q := hs
      rw [rOps_outs] at hs
      exact claim_ops hih l ops tm h ρ a w Q s r hs
    · intro o ops tm h ρ a w K Q s r hs
      have hs : Sat B w0 ρ (rOp E ih o ops.toList tm h).outs (Exit.then K fun _ _ _ => False) := hs
      rw [rOp_outs] at hs
      exact claim_op hE hih o ops tm h ρ a w K Q s r hs
    · intro o ops tm h x tm' h' hy
      have hy : Out.code x tm' h' ∈ (rOp E ih o ops tm h).outs := hy
      rw [rOp_outs] at hy
      exact lOp_normal hy
    · intro k ops l Q s ρ a w listed t hsl st r hd hsz hs
      have hs : Sat B w0 ρ (rDp ih k (maskPre ops) ops.toList l).outs Q := hs
      rw [rDp_outs (E := E)] at hs
      exact claim_dp hih k ops l Q s ρ a w listed t hsl st r hd hsz hs
    · intro f args h ρ vs w R s hv hs
      have hs : CSat B w0 ρ (rCall E ih f args h).outs R := hs
      exact claim_call hE hih f args h ρ vs w R s hv (rCall_sat hs)

/-- WHAT THE QUICK EVALUATOR SAYS IS SO. -/
theorem fe_sound (hE : EnvOK P E) {n : Nat} {f : FuncId} {args : List AV} {vs : List Value} {R : Value → World → Prop}
    (s : St B w0 ρ h w) (hv : RVs ρ args vs) (hs : CSat B w0 ρ ((fe E n).call f args h).outs R) : Calls P f ⟨vs⟩ w fun e w' => ∃ u, e = .returned u ∧ R u w' :=
  (claimsR hE B w0 n).call f args h ρ vs w R s hv hs

/-- A CLOSED CALL's ANSWER, by the quick evaluator. -/
theorem closed_fe (hE : EnvOK P E) {n : Nat} {f : FuncId} {args : List AV} {v : AV} (hv : flatR v = true)
    (h : saysAll v ((fe E n).call f args h0).outs = true) (vs : List Value) (w : World) (hvs : RVs Rho.nil args vs) :
    Calls P f ⟨vs⟩ w fun e w' => ∃ u, e = .returned u ∧ RV Rho.nil v u ∧ Below w.heap.size w w' := by
  refine Calls.mono (fe_sound (n := n) (R := fun u w' => RV Rho.nil v u ∧ Below w.heap.size w w') hE (St.start w) hvs ?_) ?_
  · intro o ho
    obtain ⟨h', rfl⟩ := saysAll_mem h o ho
    intro ρ' u w' _ st hu
    refine ⟨?_, st.below⟩
    cases v with
    | tup l =>
      simp only [flatR] at hv
      simp only [RV] at hu ⊢
      obtain ⟨A, rfl, hA⟩ := hu
      exact ⟨A, rfl, flat_lessL hv hA⟩
    | _ => exact flat_less (by simpa [flatR] using hv) hu
  · rintro e w' ⟨u, rfl, h1, h2⟩
    exact ⟨u, rfl, h1, h2⟩
end
end Go.Ev
