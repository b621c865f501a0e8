/- Walks over abstract memory: code, regions whose order is open. Conditions: a table of the program (EnvOK). -/
import Derived.Test.YtkoijkcjnppamaaGreatDoorEv7
/- Walks over abstract memory: what holds behind a piece of code, for calls that are not closed. -/
namespace Go.Ev
open Go.RowKit
set_option autoImplicit false
set_option linter.unusedSimpArgs false
set_option linter.unusedVariables false
noncomputable section

section
variable (P : Program) (E : Env) (B : Nat) (w0 : World)

/-- what a call comes to -/
def CallOK (f : FuncId) (args : List AV) (h : AH) (R : AV → AH → Prop) : Prop :=
  ∀ ρ vs w, St B w0 ρ h w → RVs ρ args vs → Calls P f ⟨vs⟩ w fun e w' => ∃ u v h' ρ', e = .returned u ∧ Sub ρ ρ' ∧ St B w0 ρ' h' w' ∧ RV ρ' v u ∧ R v h'

/-- a call's one outcome -/
def Fd (f : FuncId) (args : List AV) (h : AH) (v : AV) (h' : AH) : Prop := CallOK P B w0 f args h fun a b => a = v ∧ b = h'

def Post := AX → T → AH → Prop

/-- code, from a state of the slots and the memory on -/
def SW (c : Code) (Q : Post) (tm : T) (h : AH) : Prop :=
  ∀ ρ a w (K : Exit → Act → World → Prop), St B w0 ρ h w → RT ρ tm a →
    (∀ x tm' h' ρ' a' w', Q x tm' h' → Sub ρ ρ' → St B w0 ρ' h' w' → RT ρ' tm' a' → K x.exit' a' w') → c.wp P K a w

def T.put (tm : T) (d : Nat) (v : AV) : T := { tm with t := tm.t.set d (some v) }

def putW (F : T → AH → Prop) (d : Option Tmp) (tm : T) (v : AV) (h : AH) : Prop := match d with
  | none => F tm h
  | some d => d < tm.n ∧ F (tm.put d v) h

def retW (F : T → AH → Prop) (d : Option Tmp) (tm : T) : AV → AH → Prop := fun v h => putW F d tm v h

def nxW (F : T → AH → Prop) (d : Option Tmp) (tm : T) (h : AH) : Option Nx → Prop
  | some (.vals l) => ∀ p ∈ l, putW F d tm p.1 p.2
  | some (.enter f args) => CallOK P B w0 f args h (retW F d tm)
  | none => False

/-- operations one behind the other -/
def Wops (all : List Oper) (F : T → AH → Prop) : List Oper → T → AH → Prop
  | [] => F
  | o :: l => fun tm h => if want tm all o = true then nxW P B w0 (Wops all F l) o.dst tm h (evOp E tm o h) else putW (Wops all F l) o.dst tm (.tup []) h

def seqQ (F : T → AH → Prop) (Q : Post) : Post := fun x tm h => match x with
  | .normal => F tm h
  | .exit i => Q (.exit i) tm h
  | .ret => Q .ret tm h

def blockQ (id : Nat) (Q : Post) : Post := fun x tm h => match x with
  | .normal => Q .normal tm h
  | .exit i => if i = id then Q .normal tm h else Q (.exit i) tm h
  | .ret => Q .ret tm h

def loopQ (J : T → AH → Prop) (Q : Post) : Post := seqQ J Q
end

theorem T.get_put (tm : T) (d : Nat) (v : AV) (j : Nat) : (tm.put d v).get j = if j = d then v else tm.get j := by
  simp only [T.get, T.put, Tr.get_set]
  by_cases e : j = d
  · rw [if_pos e, if_pos e]
  · rw [if_neg e, if_neg e]
theorem T.get_put_same (tm : T) (d : Nat) (v : AV) : (tm.put d v).get d = v := by rw [T.get_put, if_pos rfl]
theorem T.get_put_ne (tm : T) (d : Nat) (v : AV) (j : Nat) (h : (j == d) = false) : (tm.put d v).get j = tm.get j := by
  rw [T.get_put, if_neg (by simpa using h)]
theorem T.n_put (tm : T) (d : Nat) (v : AV) : (tm.put d v).n = tm.n := rfl

section
variable {P : Program} {E : Env} {B : Nat} {w0 : World}

theorem CallOK.mono {f : FuncId} {args : List AV} {h : AH} {R R' : AV → AH → Prop} (hc : CallOK P B w0 f args h R) (hR : ∀ v h', R v h' → R' v h') : CallOK P B w0 f args h R' := by
  intro ρ vs w s hv
  refine Calls.mono (hc ρ vs w s hv) ?_
  rintro e w' ⟨u, v, h', ρ', h1, h2, h3, h4, h5⟩
  exact ⟨u, v, h', ρ', h1, h2, h3, h4, hR v h' h5⟩

theorem Fd.use {f : FuncId} {args : List AV} {h h' : AH} {v : AV} {R : AV → AH → Prop} (hc : Fd P B w0 f args h v h') (hR : R v h') : CallOK P B w0 f args h R :=
  CallOK.mono hc (by rintro v' h2 ⟨rfl, rfl⟩; exact hR)

theorem SW.mono {c : Code} {Q Q' : Post} {tm : T} {h : AH} (hs : SW P B w0 c Q tm h) (hq : ∀ x tm h, Q x tm h → Q' x tm h) : SW P B w0 c Q' tm h :=
  fun ρ a w K s r hK => hs ρ a w K s r fun x tm' h' ρ' a' w' h1 => hK x tm' h' ρ' a' w' (hq _ _ _ h1)

theorem RT.put {ρ : Rho} {tm : T} {a : Act} (r : RT ρ tm a) {d : Nat} {v : AV} {u : Value} (hd : d < tm.n) (hv : RV ρ v u) : RT ρ (tm.put d v) (a.put (some d) u) :=
  setD_sound (d := some d) r hv (by simp only [setD]; rw [if_pos hd]; rfl)

theorem putW_sound {ρ ρ' : Rho} {h' : AH} {w' : World} {tm : T} {a : Act} {d : Option Tmp} {v : AV} {u : Value} {F : T → AH → Prop} {K : Act → World → Prop} (hp : putW F d tm v h') (r : RT ρ tm a) (hs : Sub ρ ρ') (s : St B w0 ρ' h' w') (hv : RV ρ' v u)
    (hK : ∀ tm' h' ρ' a' w', F tm' h' → Sub ρ ρ' → St B w0 ρ' h' w' → RT ρ' tm' a' → K a' w') : K (a.put d u) w' := by
  cases d with
  | none => exact hK tm h' ρ' a w' hp hs s (r.mono hs)
  | some d => exact hK _ h' ρ' _ w' hp.2 hs s ((r.mono hs).put hp.1 hv)

theorem op_sound (hE : EnvOK P E) {o : Oper} {ops : Array Oper} {tm : T} {h : AH} {F : T → AH → Prop} {ρ : Rho} {a : Act} {w : World}
    (hs : if want tm ops.toList o = true then nxW P B w0 F o.dst tm h (evOp E tm o h) else putW F o.dst tm (.tup []) h) (s : St B w0 ρ h w) (r : RT ρ tm a) {K : Act → World → Prop} {Q : Exit → Act → World → Prop}
    (hK : ∀ tm' h' ρ' a' w', F tm' h' → Sub ρ ρ' → St B w0 ρ' h' w' → RT ρ' tm' a' → K a' w') :
    if Region.wanted o (yielded ops a.tmps) then o.wp P a w K Q else K (a.put o.dst undef) w := by
  rw [← want_sound r ops o]
  cases hw : want tm ops.toList o with
  | false =>
    rw [hw] at hs
    simp only [Bool.false_eq_true, if_false] at hs ⊢
    exact putW_sound hs r (Sub.refl _) s (by simp only [RV, undef]; exact ⟨[], rfl, by simp [RVs]⟩) hK
  | true =>
    rw [hw] at hs
    simp only [if_true] at hs ⊢
    have hok := evOp_ok (o := o) hE s r
    cases hx : evOp E tm o h with
    | none => rw [hx] at hs; exact hs.elim
    | some x =>
      rw [hx] at hs hok
      cases x with
      | vals l =>
        obtain ⟨p, hp, ρ', u, w', h1, h2, h3, h4⟩ := hok
        have hk : K (a.put o.dst u) w' := putW_sound (hs p hp) r h1 h2 h3 hK
        rcases h4 with h4 | ⟨h4, rfl⟩
        · simp only [Oper.wp, h4, Oper.upon_value]; exact hk
        · simp only [Oper.wp, h4, Oper.upon_skip]; exact hk
      | enter f args =>
        obtain ⟨vs, h1, h2⟩ := hok
        simp only [Oper.wp, h2, Oper.upon_enter]
        refine Calls.mono (hs ρ vs w s h1) ?_
        rintro e w' ⟨u, v, h', ρ', rfl, h3, h4, h5, h6⟩
        exact putW_sound h6 r h3 h4 h5 hK

theorem Wops_sound (hE : EnvOK P E) {ops : Array Oper} {F : T → AH → Prop} {Q : Exit → Act → World → Prop} : ∀ (l : List Oper) {tm : T} {h : AH} {ρ : Rho} {a : Act} {w : World},
    Wops P E B w0 ops.toList F l tm h → St B w0 ρ h w → RT ρ tm a → (∀ tm' h' ρ' a' w', F tm' h' → Sub ρ ρ' → St B w0 ρ' h' w' → RT ρ' tm' a' → Q .normal a' w') → wpList P ops Q l a w
  | [], tm, h, ρ, a, w, hs, s, r, hQ => hQ tm h ρ a w hs (Sub.refl _) s r
  | o :: l, tm, h, ρ, a, w, hs, s, r, hQ => by
    have h3 := op_sound hE (K := wpList P ops Q l) (Q := Q) hs s r fun tm' h' ρ' a' w' h1 h2 h3 h4 =>
      Wops_sound hE l h1 h3 h4 fun tm2 h2' ρ2 a2 w2 g1 g2 g3 g4 => hQ tm2 h2' ρ2 a2 w2 g1 (h2.trans g2) g3 g4
    unfold wpList
    split
    · rename_i hw
      rw [if_pos hw] at h3
      exact .inl h3
    · rename_i hw
      rw [if_neg hw] at h3
      exact h3

/-! code -/
theorem SW.skip {Q : Post} {tm : T} {h : AH} (hq : Q .normal tm h) : SW P B w0 .skip Q tm h :=
  fun ρ a w K s r hK => wp_skip (hK _ _ _ ρ a w hq (Sub.refl _) s r)
theorem SW.exit {id : Nat} {Q : Post} {tm : T} {h : AH} (hq : Q (.exit id) tm h) : SW P B w0 (.exit id) Q tm h :=
  fun ρ a w K s r hK => wp_exit (hK _ _ _ ρ a w hq (Sub.refl _) s r)
theorem SW.ret {Q : Post} {tm : T} {h : AH} (hq : Q .ret tm h) : SW P B w0 .ret Q tm h :=
  fun ρ a w K s r hK => wp_ret (hK _ _ _ ρ a w hq (Sub.refl _) s r)
theorem SW.seq {a b : Code} {Q : Post} {tm : T} {h : AH} (hs : SW P B w0 a (seqQ (SW P B w0 b Q) Q) tm h) : SW P B w0 (.seq a b) Q tm h := by
  intro ρ ac w K s r hK
  refine wp_seq (hs ρ ac w _ s r fun x tm' h' ρ' a' w' h1 h2 h3 h4 => ?_)
  cases x with
  | normal => exact h1 ρ' a' w' K h3 h4 fun x2 tm2 h2' ρ2 a2 w2 g1 g2 g3 g4 => hK x2 tm2 h2' ρ2 a2 w2 g1 (h2.trans g2) g3 g4
  | exit i => exact hK (.exit i) tm' h' ρ' a' w' h1 h2 h3 h4
  | ret => exact hK .ret tm' h' ρ' a' w' h1 h2 h3 h4
theorem SW.cond {c : Operand} {x y : Code} {Q : Post} {tm : T} {h : AH} {b : Bool} (hc : opnd tm c = some (.bool b)) (h1 : b = true → SW P B w0 x Q tm h) (h2 : b = false → SW P B w0 y Q tm h) : SW P B w0 (.cond c x y) Q tm h := by
  intro ρ a w K s r hK
  have := opnd_sound r hc
  simp only [RV] at this
  cases b with
  | true => exact wp_cond_true this (h1 rfl ρ a w K s r hK)
  | false => exact wp_cond_false this (h2 rfl ρ a w K s r hK)
theorem SW.cond_true {c : Operand} {x y : Code} {Q : Post} {tm : T} {h : AH} (hc : opnd tm c = some (.bool true)) (h1 : SW P B w0 x Q tm h) : SW P B w0 (.cond c x y) Q tm h := SW.cond hc (fun _ => h1) (fun h => nomatch h)
theorem SW.cond_false {c : Operand} {x y : Code} {Q : Post} {tm : T} {h : AH} (hc : opnd tm c = some (.bool false)) (h1 : SW P B w0 y Q tm h) : SW P B w0 (.cond c x y) Q tm h := SW.cond hc (fun h => nomatch h) (fun _ => h1)
theorem SW.block {id : Nat} {c : Code} {Q : Post} {tm : T} {h : AH} (hs : SW P B w0 c (blockQ id Q) tm h) : SW P B w0 (.block id c) Q tm h := by
  intro ρ a w K s r hK
  refine wp_block (hs ρ a w _ s r fun x tm' h' ρ' a' w' h1 h2 h3 h4 => ?_)
  cases x with
  | normal => exact hK .normal tm' h' ρ' a' w' h1 h2 h3 h4
  | exit i =>
    simp only [blockQ] at h1
    simp only [AX.exit', Exit.inBlock]
    split at h1
    · rename_i e; rw [if_pos e]; exact hK .normal tm' h' ρ' a' w' h1 h2 h3 h4
    · rename_i e; rw [if_neg e]; exact hK (.exit i) tm' h' ρ' a' w' h1 h2 h3 h4
  | ret => exact hK .ret tm' h' ρ' a' w' h1 h2 h3 h4
theorem SW.region (hE : EnvOK P E) {id : Nat} {ops : Array Oper} {Q : Post} {tm : T} {h : AH} (hs : Wops P E B w0 ops.toList (Q .normal) ops.toList tm h) : SW P B w0 (.region id ops false) Q tm h := by
  intro ρ a w K s r hK
  refine wp_region_list ?_
  exact Wops_sound hE _ hs s r fun tm' h' ρ' a' w' g1 g2 g3 g4 => hK .normal tm' h' ρ' a' w' g1 g2 g3 g4
/-- a loop, by what holds at the head of each round -/
theorem SW.loop {c : Code} {Q : Post} (I : Nat → T → AH → Prop) {n : Nat} {tm : T} {h : AH} (h0 : I n tm h)
    (hs : ∀ n tm h, I n tm h → SW P B w0 c (seqQ (fun tm' h' => ∃ m, m < n ∧ I m tm' h') Q) tm h) : SW P B w0 (.loop c) Q tm h := by
  intro ρ a w K s r hK
  refine wp_loop_rounds (n + 1) ?_
  suffices H : ∀ k n tm h ρ a w, n ≤ k → I n tm h → St B w0 ρ h w → RT ρ tm a → (∀ x tm' h' ρ' a' w', Q x tm' h' → Sub ρ ρ' → St B w0 ρ' h' w' → RT ρ' tm' a' → K x.exit' a' w') → Code.rounds P c K (k + 1) a w from
    H n n tm h ρ a w (Nat.le_refl _) h0 ‹_› ‹_› ‹_›
  intro k
  induction k with
  | zero =>
    intro n tm h ρ a w hn hI s r hK
    rw [rounds_succ]
    refine hs n tm h hI ρ a w _ s r fun x tm' h' ρ' a' w' h1 h2 h3 h4 => ?_
    cases x with
    | normal => obtain ⟨m, hm, _⟩ := h1; omega
    | exit i => exact hK (.exit i) tm' h' ρ' a' w' h1 h2 h3 h4
    | ret => exact hK .ret tm' h' ρ' a' w' h1 h2 h3 h4
  | succ k ih =>
    intro n tm h ρ a w hn hI s r hK
    rw [rounds_succ]
    refine hs n tm h hI ρ a w _ s r fun x tm' h' ρ' a' w' h1 h2 h3 h4 => ?_
    cases x with
    | normal =>
      obtain ⟨m, hm, hI'⟩ := h1
      exact ih m tm' h' ρ' a' w' (by omega) hI' h3 h4 fun x2 tm2 h2' ρ2 a2 w2 g1 g2 g3 g4 => hK x2 tm2 h2' ρ2 a2 w2 g1 (h2.trans g2) g3 g4
    | exit i => exact hK (.exit i) tm' h' ρ' a' w' h1 h2 h3 h4
    | ret => exact hK .ret tm' h' ρ' a' w' h1 h2 h3 h4
end
end
end Go.Ev
/- Walks over abstract memory: a region whose order is open, with calls of whatever contract. -/
namespace Go.Ev
open Go.RowKit
set_option autoImplicit false
set_option linter.unusedSimpArgs false
set_option linter.unusedVariables false
noncomputable section

/-- 0: may turn memory; those of N don't here -/
def kindQ (N : List Nat) (i : Nat) (op : Op) : Nat := if (kindOf op == 0 && N.contains i) = true then 2 else kindOf op
theorem kindQ_two {N : List Nat} {i : Nat} {op : Op} (h0 : kindQ N i op ≠ 0) (h1 : kindQ N i op ≠ 1) : kindQ N i op = 2 := by
  unfold kindQ at h0 h1 ⊢
  split
  · rfl
  · rename_i h
    rw [if_neg h] at h0 h1
    cases op <;> simp only [kindOf] at h0 h1 ⊢ <;> first | contradiction | skip
    all_goals (split at h0 <;> simp_all)
def chainOKq (N M : List Nat) (i : Nat) (o : Oper) (e : Nat) (oe : Oper) : Bool :=
  !(Nat.beq (kindQ N i o.op) 0) || !(Nat.beq (kindQ N e oe.op) 0) || !Nat.blt e i || bit (maskAt M i) e
def regOKq (N : List Nat) (ops : Array Oper) (M : List Nat) : Bool :=
  (List.range ops.size).all fun i => match ops[i]? with
    | none => false
    | some o => edgesOK ops M i o && (List.range ops.size).all fun w => match ops[w]? with
      | none => false
      | some ow => slotsOK ops M i o w ow && chainOKq N M i o w ow
def pairsOfq (N : List Nat) (ops : Array Oper) (M : List Nat) : List (Nat × Nat) :=
  (List.range ops.size).flatMap fun i => match ops[i]? with
    | none => []
    | some o => if Nat.beq (kindQ N i o.op) 2 then (List.range ops.size).filterMap fun e => match ops[e]? with
        | none => none
        | some oe => if Nat.beq (kindQ N e oe.op) 0 && !(Nat.blt e i && bit (maskAt M i) e) && !(Nat.blt i e && bit (maskAt M e) i) then some (i, e) else none
      else []
def HSq (N : List Nat) (ops : Array Oper) (hA : Nat → AH) (S : Nat → Bool) (h : AH) : Prop :=
  ∃ m, m ≤ ops.size ∧ h = hA m ∧ ∀ (i : Nat) o, ops[i]? = some o → kindQ N i o.op = 0 → (S i = true ↔ i < m)


/-- one operation, whose outcome is one -/
def evS (P : Program) (E : Env) (B : Nat) (w0 : World) (k : Nat) (o : Oper) (all : List Oper) (tm : T) (h : AH) (v : AV) (h' : AH) : Prop :=
  (k ≠ 0 → h' = h) ∧ (k = 1 → ∀ h2, want tm all o = true → evOp E tm o h2 = some (.vals [(v, h2)])) ∧
  if want tm all o = true then evOp E tm o h = some (.vals [(v, h')]) ∨ ∃ f args, evOp E tm o h = some (.enter f args) ∧ Fd P B w0 f args h v h'
  else v = .tup [] ∧ h' = h

variable {P : Program}
section
variable {E : Env} {B : Nat} {w0 w : World} {ρ : Rho} {h h' : AH} {tm tm' : T} {a : Act} {o : Oper} {v : AV} {k : Nat}

theorem evS_congr {ops : Array Oper} (ha : ∀ t ∈ o.looksAt ops, tm.get t = tm'.get t) : evS P E B w0 k o ops.toList tm h v h' ↔ evS P E B w0 k o ops.toList tm' h v h' := by
  have hx := opnd_agree (tm := tm) (tm' := tm') ha
  unfold evS
  rw [want_congr ha, evOp_congr hx]
  have : ∀ h2, evOp E tm o h2 = evOp E tm' o h2 := fun h2 => evOp_congr hx
  simp only [this]

theorem evS_pure {all : List Oper} (hk : k ≠ 0) (hx : evS P E B w0 k o all tm h v h') : h' = h := hx.1 hk

theorem evS_free {all : List Oper} (hk : k = 1) (hx : evS P E B w0 k o all tm h v h) (h2 : AH) : evS P E B w0 k o all tm h2 v h2 := by
  refine ⟨fun _ => rfl, hx.2.1, ?_⟩
  by_cases hw : want tm all o = true
  · rw [if_pos hw]; exact .inl (hx.2.1 hk h2 hw)
  · have := hx.2.2
    rw [if_neg hw] at this ⊢
    exact ⟨this.1, rfl⟩

theorem evS_wp (hE : EnvOK P E) {ops : Array Oper} (s : St B w0 ρ h w) (r : RT ρ tm a) (hx : evS P E B w0 k o ops.toList tm h v h')
    {K : Act → World → Prop} {Q : Exit → Act → World → Prop} (hK : ∀ ρ' u w', Sub ρ ρ' → St B w0 ρ' h' w' → RV ρ' v u → K (a.put o.dst u) w') :
    if Region.wanted o (yielded ops a.tmps) then o.wp P a w K Q else K (a.put o.dst undef) w := by
  rw [← want_sound r ops o]
  have hx := hx.2.2
  cases hw : want tm ops.toList o with
  | false =>
    rw [hw] at hx
    simp only [Bool.false_eq_true, if_false] at hx ⊢
    obtain ⟨rfl, rfl⟩ := hx
    exact hK ρ undef w (Sub.refl _) s (by simp only [RV, undef]; exact ⟨[], rfl, by simp [RVs]⟩)
  | true =>
    rw [hw] at hx
    simp only [if_true] at hx ⊢
    have hok := evOp_ok (o := o) hE s r
    rcases hx with he | ⟨f, args, he, hf⟩
    · rw [he] at hok
      obtain ⟨p, hp, ρ', u, w', h1, h2, h3, h4⟩ := hok
      rw [List.mem_singleton] at hp; subst hp
      rcases h4 with h4 | ⟨h4, rfl⟩
      · simp only [Oper.wp, h4, Oper.upon_value]; exact hK ρ' u w' h1 h2 h3
      · simp only [Oper.wp, h4, Oper.upon_skip]; exact hK ρ' undef w' h1 h2 h3
    · rw [he] at hok
      obtain ⟨vs, h1, h2⟩ := hok
      simp only [Oper.wp, h2, Oper.upon_enter]
      refine Calls.mono (hf ρ vs w s h1) ?_
      rintro e w' ⟨u, v', h2', ρ', rfl, h3, h4, h5, rfl, rfl⟩
      exact hK ρ' u w' h3 h4 h5
end
section
variable {E : Env} {B : Nat} {w0 w : World} {ρ : Rho} {h : AH} {tm tm' : T} {a : Act} {o : Oper}

/-! what the region's Bools say -/
section
variable {ops : Array Oper} {M N : List Nat}

theorem reg_atQ (hr : regOKq N ops M = true) {i : Nat} {o : Oper} (hi : ops[i]? = some o) : edgesOK ops M i o = true ∧ ∀ w ow, ops[w]? = some ow → slotsOK ops M i o w ow = true ∧ chainOKq N M i o w ow = true := by
  have hlt := (Array.getElem?_eq_some_iff.1 hi).1
  have := List.all_eq_true.1 hr i (List.mem_range.2 hlt)
  rw [hi] at this
  simp only [Bool.and_eq_true] at this
  refine ⟨this.1, fun w ow hw => ?_⟩
  have hw' := List.all_eq_true.1 this.2 w (List.mem_range.2 (Array.getElem?_eq_some_iff.1 hw).1)
  rw [hw] at hw'
  simpa using hw'

theorem edge_ltQ (hr : regOKq N ops M = true) {i : Nat} {o : Oper} (hi : ops[i]? = some o) {e : Edge} (he : e ∈ o.after) (hb : Region.binds .any e = true) : e.on < i := by
  have := (reg_atQ hr hi).1
  unfold edgesOK at this
  simp only [Bool.and_eq_true] at this
  have := List.all_eq_true.1 this.1 e (by simpa using he)
  simp only [hb, Bool.not_true, Bool.false_or, Nat.blt_eq] at this
  exact this

theorem mask_specQ (hr : regOKq N ops M = true) {i : Nat} {o : Oper} (hi : ops[i]? = some o) {j : Nat} (hj : j < ops.size) (hb : bit (maskAt M i) j = true) :
    j < i ∧ ∃ e ∈ o.after, Region.binds .any e = true ∧ (e.on = j ∨ bit (maskAt M e.on) j = true) := by
  have := (reg_atQ hr hi).1
  unfold edgesOK at this
  simp only [Bool.and_eq_true] at this
  have := List.all_eq_true.1 this.2 j (List.mem_range.2 hj)
  simp only [hb, Bool.not_true, Bool.false_or, Bool.and_eq_true, Nat.blt_eq] at this
  obtain ⟨h1, h2⟩ := this
  obtain ⟨e, he, h3⟩ := List.any_eq_true.1 h2
  simp only [Bool.and_eq_true, Bool.or_eq_true] at h3
  exact ⟨h1, e, by simpa using he, h3.1, h3.2.imp Nat.eq_of_beq_eq_true id⟩

theorem slots_specQ (hr : regOKq N ops M = true) {i w : Nat} {o ow : Oper} (hi : ops[i]? = some o) (hw : ops[w]? = some ow) (hne : i ≠ w) {t : Tmp} (ht : ow.dst = some t) :
    o.dst ≠ some t ∧ (t ∈ o.looksAt ops → bit (maskAt M i) w = true ∨ bit (maskAt M w) i = true) := by
  have := ((reg_atQ hr hi).2 w ow hw).1
  unfold slotsOK at this
  have hb : Nat.beq i w = false := by
    cases hb : Nat.beq i w with
    | false => rfl
    | true => exact absurd (Nat.eq_of_beq_eq_true hb) hne
  rw [hb, ht] at this
  simp only [Bool.false_or, Bool.and_eq_true, Bool.not_eq_true', beq_eq_false_iff_ne, Bool.or_eq_true] at this
  refine ⟨this.1, fun hm => ?_⟩
  rcases this.2 with (h1 | h1) | h1
  · rw [List.contains_eq_mem] at h1
    simp [hm] at h1
  · exact .inl h1
  · exact .inr h1

theorem chain_specQ (hr : regOKq N ops M = true) {i e : Nat} {o oe : Oper} (hi : ops[i]? = some o) (he : ops[e]? = some oe) (hk : kindQ N i o.op = 0) (hke : kindQ N e oe.op = 0) (hlt : e < i) : bit (maskAt M i) e = true := by
  have := ((reg_atQ hr hi).2 e oe he).2
  unfold chainOKq at this
  rw [hk, hke] at this
  have hb : Nat.blt e i = true := by rw [Nat.blt_eq]; exact hlt
  rw [hb] at this
  simpa using this

theorem mask_doneQ (hr : regOKq N ops M = true) {S : Nat → Bool} (hS : Shut ops S) : ∀ (i : Nat) (o : Oper), ops[i]? = some o → (∀ e ∈ o.after, Region.binds .any e = true → S e.on = true) → ∀ j, j < ops.size → bit (maskAt M i) j = true → S j = true := by
  intro i
  induction i using Nat.strongRecOn with
  | _ i ihi =>
    intro o hi hpre j hj hb
    obtain ⟨_, e, he, hbd, hc⟩ := mask_specQ hr hi hj hb
    rcases hc with rfl | hc
    · exact hpre e he hbd
    · have hlt := edge_ltQ hr hi he hbd
      have hsz : e.on < ops.size := Nat.lt_trans hlt (Array.getElem?_eq_some_iff.1 hi).1
      have hoe : ops[e.on]? = some ops[e.on] := Array.getElem?_eq_getElem hsz
      exact ihi e.on hlt ops[e.on] hoe (fun e' he' hb' => hS e.on _ hoe (hpre e he hbd) e' he' hb') j hj hc

theorem mask_doneQ' (hr : regOKq N ops M = true) {S : Nat → Bool} (hS : Shut ops S) {i : Nat} {o : Oper} (hi : ops[i]? = some o) (hSi : S i = true) {j : Nat} (hj : j < ops.size) (hb : bit (maskAt M i) j = true) : S j = true :=
  mask_doneQ hr hS i o hi (fun e he hbd => hS i o hi hSi e he hbd) j hj hb
end

theorem pairs_memQ {ops : Array Oper} {M N : List Nat} {i e : Nat} {o oe : Oper} (hi : ops[i]? = some o) (he : ops[e]? = some oe) (hk : kindQ N i o.op = 2) (hke : kindQ N e oe.op = 0)
    (h1 : ¬ (e < i ∧ bit (maskAt M i) e = true)) (h2 : ¬ (i < e ∧ bit (maskAt M e) i = true)) : (i, e) ∈ pairsOfq N ops M := by
  unfold pairsOfq
  refine List.mem_flatMap.2 ⟨i, List.mem_range.2 (Array.getElem?_eq_some_iff.1 hi).1, ?_⟩
  rw [hi]
  simp only [hk]
  rw [if_pos (show Nat.beq 2 2 = true from rfl)]
  refine List.mem_filterMap.2 ⟨e, List.mem_range.2 (Array.getElem?_eq_some_iff.1 he).1, ?_⟩
  rw [he]
  simp only [hke]
  rw [if_pos]
  simp only [Bool.and_eq_true, Bool.not_eq_true', Bool.and_eq_false_iff]
  refine ⟨⟨rfl, ?_⟩, ?_⟩
  · by_cases hlt : e < i
    · right
      cases hb : bit (maskAt M i) e with
      | false => rfl
      | true => exact absurd ⟨hlt, hb⟩ h1
    · left
      cases hb : Nat.blt e i with
      | false => rfl
      | true => rw [Nat.blt_eq] at hb; exact absurd hb hlt
  · by_cases hlt : i < e
    · right
      cases hb : bit (maskAt M e) i with
      | false => rfl
      | true => exact absurd ⟨hlt, hb⟩ h2
    · left
      cases hb : Nat.blt i e with
      | false => rfl
      | true => rw [Nat.blt_eq] at hb; exact absurd hb hlt


end
section
variable {ops : Array Oper} {M N : List Nat} {tm0 : T} {vA : Nat → AV}
theorem SV.setQ {S : Nat → Bool} {x x' : T} (hr : regOKq N ops M = true) (hx : SV ops tm0 vA S x) {i : Nat} {o : Oper} (hi : ops[i]? = some o) (hSi : S i = false) (hset : setD x o.dst (vA i) = some x') :
    SV ops tm0 vA (fun j => S j || Nat.beq j i) x' := by
  obtain ⟨hn, hg⟩ := hx
  have hbi : ∀ j, Nat.beq j i = true ↔ j = i := fun j => ⟨Nat.eq_of_beq_eq_true, fun h => by rw [h]; exact Nat.beq_refl i⟩
  cases hd : o.dst with
  | none =>
    rw [hd] at hset
    simp only [setD, Option.some.injEq] at hset; subst hset
    refine ⟨hn, fun t => ⟨fun j oj hj ht hS => ?_, fun hno => (hg t).2 fun j oj hj ht => ?_⟩⟩
    · by_cases hji : j = i
      · subst hji; rw [hi] at hj; cases hj; rw [hd] at ht; cases ht
      · have : S j = true := by
          simp only [Bool.or_eq_true] at hS
          exact hS.resolve_right fun h => hji ((hbi j).1 h)
        exact (hg t).1 j oj hj ht this
    · have := hno j oj hj ht
      simp only [Bool.or_eq_false_iff] at this
      exact this.1
  | some d =>
    rw [hd] at hset
    simp only [setD] at hset
    split at hset
    · simp only [Option.some.injEq] at hset; subst hset
      have hget : ∀ t, ({ n := x.n, t := x.t.set d (some (vA i)) } : T).get t = if t = d then vA i else x.get t := by
        intro t
        simp only [T.get, Tr.get_set]
        by_cases e : t = d
        · rw [if_pos e, if_pos e]
        · rw [if_neg e, if_neg e]
      refine ⟨hn, fun t => ⟨fun j oj hj ht hS => ?_, fun hno => ?_⟩⟩
      · show ({ n := x.n, t := x.t.set d (some (vA i)) } : T).get t = _
        rw [hget]
        by_cases hji : j = i
        · subst hji; rw [hi] at hj; cases hj; rw [hd] at ht; cases ht; rw [if_pos rfl]
        · have hne : t ≠ d := by
            intro htd
            subst htd
            exact (slots_specQ hr hj hi hji hd).1 ht
          rw [if_neg hne]
          have : S j = true := by
            simp only [Bool.or_eq_true] at hS
            exact hS.resolve_right fun h => hji ((hbi j).1 h)
          exact (hg t).1 j oj hj ht this
      · show ({ n := x.n, t := x.t.set d (some (vA i)) } : T).get t = _
        rw [hget]
        have hne : t ≠ d := by
          intro htd
          subst htd
          have := hno i o hi hd
          simp [Nat.beq_refl] at this
        rw [if_neg hne]
        refine (hg t).2 fun j oj hj ht => ?_
        have := hno j oj hj ht
        simp only [Bool.or_eq_false_iff] at this
        exact this.1
    · simp at hset

end
section
variable {E : Env} {B : Nat} {w0 w : World} {ρ : Rho} {h : AH} {tm tm' : T} {a : Act} {o : Oper}
/-- the walk, as functions of the place -/
structure WalkS (P : Program) (E : Env) (B : Nat) (w0 : World) (ops : Array Oper) (M N : List Nat) (tm0 : T) (tmA : Nat → T) (hA : Nat → AH) (vA : Nat → AV) : Prop where
  tm0 : tmA 0 = tm0
  step : ∀ (i : Nat) o, ops[i]? = some o → evS P E B w0 (kindQ N i o.op) o ops.toList (tmA i) (hA i) (vA i) (hA (i + 1)) ∧ setD (tmA i) o.dst (vA i) = some (tmA (i + 1))
  again : ∀ (i e : Nat) o oe, ops[i]? = some o → ops[e]? = some oe → kindQ N i o.op = 2 → kindQ N e oe.op = 0 → ¬ (e < i ∧ bit (maskAt M i) e = true) → ¬ (i < e ∧ bit (maskAt M e) i = true) →
    evS P E B w0 (kindQ N i o.op) o ops.toList (tmA i) (if Nat.blt e i then hA e else hA (e + 1)) (vA i) (if Nat.blt e i then hA e else hA (e + 1))

section
variable {ops : Array Oper} {M N : List Nat} {tm0 : T} {tmA : Nat → T} {hA : Nat → AH} {vA : Nat → AV}

theorem stillS (W : WalkS P E B w0 ops M N tm0 tmA hA vA) {i : Nat} {o : Oper} (hi : ops[i]? = some o) (hk : kindQ N i o.op ≠ 0) : hA (i + 1) = hA i := evS_pure hk (W.step i o hi).1

/-- from i on to m -/
theorem heap_upS (W : WalkS P E B w0 ops M N tm0 tmA hA vA) (i : Nat) : ∀ m, i ≤ m → m ≤ ops.size → hA m = hA i ∨ ∃ e oe, i ≤ e ∧ e < m ∧ ops[e]? = some oe ∧ kindQ N e oe.op = 0 ∧ hA m = hA (e + 1) := by
  intro m hm hsz
  obtain ⟨k, rfl⟩ : ∃ k, m = i + k := ⟨m - i, by omega⟩
  induction k with
  | zero => exact .inl rfl
  | succ k ihk =>
    have hlt : i + k < ops.size := by omega
    have ho : ops[i + k]? = some ops[i + k] := Array.getElem?_eq_getElem hlt
    by_cases hk : kindQ N (i + k) ops[i + k].op = 0
    · exact .inr ⟨i + k, _, by omega, by omega, ho, hk, rfl⟩
    · have e := stillS W ho hk
      rcases ihk (by omega) (by omega) with h1 | ⟨e', oe, h1, h2, h3, h4, h5⟩
      · exact .inl (by rw [← h1, ← e]; rfl)
      · exact .inr ⟨e', oe, h1, by omega, h3, h4, by rw [← h5, ← e]; rfl⟩

/-- from m on to i -/
theorem heap_downS (W : WalkS P E B w0 ops M N tm0 tmA hA vA) (i : Nat) : ∀ m, m ≤ i → i ≤ ops.size → hA m = hA i ∨ ∃ e oe, m ≤ e ∧ e < i ∧ ops[e]? = some oe ∧ kindQ N e oe.op = 0 ∧ hA m = hA e := by
  intro m hm hsz
  obtain ⟨k, rfl⟩ : ∃ k, i = m + k := ⟨i - m, by omega⟩
  clear hm
  induction k generalizing m with
  | zero => exact .inl rfl
  | succ k ihk =>
    have hlt : m < ops.size := by omega
    have ho : ops[m]? = some ops[m] := Array.getElem?_eq_getElem hlt
    by_cases hk : kindQ N m ops[m].op = 0
    · exact .inr ⟨m, _, by omega, by omega, ho, hk, rfl⟩
    · have e := stillS W ho hk
      rcases ihk (m + 1) (by omega) with h1 | ⟨e', oe, h1, h2, h3, h4, h5⟩
      · exact .inl (by rw [← e, h1]; congr 1; omega)
      · exact .inr ⟨e', oe, by omega, by omega, h3, h4, by rw [← e, h5]⟩

theorem SV.lexS (W : WalkS P E B w0 ops M N tm0 tmA hA vA) (hr : regOKq N ops M = true) : ∀ i, i ≤ ops.size → SV ops tm0 vA (fun j => Nat.blt j i) (tmA i) := by
  intro i
  induction i with
  | zero =>
    intro _
    rw [W.tm0]
    refine ⟨rfl, fun t => ⟨fun j o hj ht hS => ?_, fun _ => rfl⟩⟩
    rw [Nat.blt_eq] at hS; omega
  | succ i ihi =>
    intro hle
    have hi : ops[i]? = some ops[i] := Array.getElem?_eq_getElem (by omega)
    refine SV.congr (SV.setQ hr (ihi (by omega)) hi (by cases hb : Nat.blt i i with | false => rfl | true => rw [Nat.blt_eq] at hb; omega) (W.step i _ hi).2) ?_
    intro j _
    rw [Bool.eq_iff_iff, Bool.or_eq_true, Nat.blt_eq, Nat.blt_eq]
    constructor
    · rintro (h | h)
      · omega
      · have := Nat.eq_of_beq_eq_true h; omega
    · intro h
      by_cases e : j = i
      · subst e; exact .inr (Nat.beq_refl j)
      · exact .inl (by omega)

/-- what an operation looks at is what the walk saw -/
theorem slots_agreeS (W : WalkS P E B w0 ops M N tm0 tmA hA vA) (hr : regOKq N ops M = true) {S : Nat → Bool} {x : T} (hS : Shut ops S) (hx : SV ops tm0 vA S x) {i : Nat} {o : Oper} (hi : ops[i]? = some o) (hSi : S i = false) (hpre : ∀ e ∈ o.after, Region.binds .any e = true → S e.on = true) :
    ∀ t ∈ o.looksAt ops, x.get t = (tmA i).get t := by
  intro t ht
  have hil := (Array.getElem?_eq_some_iff.1 hi).1
  have hy := SV.lexS W hr i (by omega)
  by_cases hw : ∃ (j : Nat) (oj : Oper), ops[j]? = some oj ∧ oj.dst = some t
  · obtain ⟨j, oj, hj, hd⟩ := hw
    have hjl := (Array.getElem?_eq_some_iff.1 hj).1
    have huniq : ∀ (k : Nat) ok, ops[k]? = some ok → ok.dst = some t → k = j := by
      intro k ok hk hkd
      by_cases e : k = j
      · exact e
      · exact absurd hkd (slots_specQ hr hk hj e hd).1
    by_cases hji : j = i
    · subst hji
      rw [(hx.2 t).2 (fun k ok hk hkd => by rw [huniq k ok hk hkd]; exact hSi), (hy.2 t).2 (fun k ok hk hkd => by
        rw [huniq k ok hk hkd]
        cases hb : Nat.blt j j with | false => exact hb | true => rw [Nat.blt_eq] at hb; omega)]
    · rcases (slots_specQ hr hi hj (Ne.symm hji) hd).2 ht with hb | hb
      · have h1 := mask_doneQ hr hS i o hi hpre j hjl hb
        have h2 := (mask_specQ hr hi hjl hb).1
        rw [(hx.2 t).1 j oj hj hd h1, (hy.2 t).1 j oj hj hd (by rw [Nat.blt_eq]; exact h2)]
      · have h1 : S j = false := by
          cases hSj : S j with
          | false => rfl
          | true =>
            have := mask_doneQ' hr hS hj hSj hil hb
            rw [hSi] at this; cases this
        have h2 := (mask_specQ hr hj hil hb).1
        rw [(hx.2 t).2 (fun k ok hk hkd => by rw [huniq k ok hk hkd]; exact h1), (hy.2 t).2 (fun k ok hk hkd => by
          rw [huniq k ok hk hkd]
          cases hb : Nat.blt j i with | false => exact hb | true => rw [Nat.blt_eq] at hb; omega)]
  · have hno : ∀ (S : Nat → Bool) (k : Nat) ok, ops[k]? = some ok → ok.dst = some t → S k = false := fun S k ok hk hkd => absurd ⟨k, ok, hk, hkd⟩ hw
    rw [(hx.2 t).2 (hno S), (hy.2 t).2 (hno _)]

/-- THE NEXT OPERATION, in whatever order, does what it did in the walk. -/
theorem evS_any (W : WalkS P E B w0 ops M N tm0 tmA hA vA) (hr : regOKq N ops M = true) {S : Nat → Bool} {x : T} {h : AH} (hS : Shut ops S) (hx : SV ops tm0 vA S x) (hh : HSq N ops hA S h) {i : Nat} {o : Oper} (hi : ops[i]? = some o) (hSi : S i = false)
    (hpre : ∀ e ∈ o.after, Region.binds .any e = true → S e.on = true) :
    ∃ h', evS P E B w0 (kindQ N i o.op) o ops.toList x h (vA i) h' ∧ HSq N ops hA (fun j => S j || Nat.beq j i) h' := by
  have hil := (Array.getElem?_eq_some_iff.1 hi).1
  have hbi : ∀ j, Nat.beq j i = true ↔ j = i := fun j => ⟨Nat.eq_of_beq_eq_true, fun h => by rw [h]; exact Nat.beq_refl i⟩
  obtain ⟨m, hm, rfl, hmS⟩ := hh
  have hcg := fun v h h' => evS_congr (k := kindQ N i o.op) (P := P) (E := E) (B := B) (w0 := w0) (v := v) (h := h) (h' := h') (slots_agreeS W hr hS hx hi hSi hpre)
  simp only [hcg]
  have hst := (W.step i o hi).1
  by_cases hk : kindQ N i o.op = 0
  · have hbefore : ∀ (e : Nat) oe, ops[e]? = some oe → kindQ N e oe.op = 0 → (S e = true ↔ e < i) := by
      intro e oe he hke
      have hel := (Array.getElem?_eq_some_iff.1 he).1
      constructor
      · intro hSe
        rcases Nat.lt_trichotomy e i with h1 | h1 | h1
        · exact h1
        · subst h1; rw [hSi] at hSe; cases hSe
        · have hb := chain_specQ hr he hi hke hk h1
          have := mask_doneQ' hr hS he hSe hil hb
          rw [hSi] at this; cases this
      · intro hlt
        exact mask_doneQ hr hS i o hi hpre e hel (chain_specQ hr hi he hk hke hlt)
    have heq : hA m = hA i := by
      rcases Nat.le_total m i with hle | hle
      · rcases heap_downS W i m hle (by omega) with h1 | ⟨e, oe, h1, h2, h3, h4, _⟩
        · exact h1
        · have a1 := (hbefore e oe h3 h4).2 h2
          have a2 := (hmS e oe h3 h4).1 a1
          omega
      · rcases heap_upS W i m hle hm with h1 | ⟨e, oe, h1, h2, h3, h4, _⟩
        · exact h1
        · have a1 := (hmS e oe h3 h4).2 h2
          have a2 := (hbefore e oe h3 h4).1 a1
          omega
    rw [heq]
    refine ⟨_, hst, i + 1, by omega, rfl, fun e oe he hke => ?_⟩
    rw [Bool.or_eq_true, hbi, hbefore e oe he hke]
    omega
  · have hkeep : HSq N ops hA (fun j => S j || Nat.beq j i) (hA m) := by
      refine ⟨m, hm, rfl, fun e oe he hke => ?_⟩
      rw [Bool.or_eq_true, hbi, ← hmS e oe he hke]
      constructor
      · rintro (h1 | h1)
        · exact h1
        · subst h1; rw [hi] at he; cases he; exact absurd hke hk
      · exact .inl
    refine ⟨hA m, ?_, hkeep⟩
    have hsame := stillS W hi hk
    rw [hsame] at hst
    by_cases hk1 : kindQ N i o.op = 1
    · exact evS_free hk1 hst (hA m)
    · have hk2 : kindQ N i o.op = 2 := by
        exact kindQ_two hk hk1
      rcases Nat.le_total m i with hle | hle
      · rcases heap_downS W i m hle (by omega) with h1 | ⟨e, oe, h1, h2, h3, h4, h5⟩
        · rw [h1]; exact hst
        · have hSe : ¬ S e = true := fun hSe => by have := (hmS e oe h3 h4).1 hSe; omega
          have hnb : ¬ (e < i ∧ bit (maskAt M i) e = true) := fun hb => hSe (mask_doneQ hr hS i o hi hpre e (by omega) hb.2)
          have hp := W.again i e o oe hi h3 hk2 h4 hnb (fun hb => by omega)
          have hlt : Nat.blt e i = true := by rw [Nat.blt_eq]; exact h2
          rw [hlt, if_pos rfl, ← h5] at hp
          exact hp
      · rcases heap_upS W i m hle hm with h1 | ⟨e, oe, h1, h2, h3, h4, h5⟩
        · rw [h1]; exact hst
        · have hSe : S e = true := (hmS e oe h3 h4).2 h2
          have hne : e ≠ i := by
            intro heq; subst heq; rw [hi] at h3; cases h3; exact hk h4
          have hnb : ¬ (i < e ∧ bit (maskAt M e) i = true) := fun hb => by
            have := mask_doneQ' hr hS h3 hSe hil hb.2
            rw [hSi] at this; cases this
          have hp := W.again i e o oe hi h3 hk2 h4 (fun hb => by omega) hnb
          have hlt : Nat.blt e i = false := by
            cases hb : Nat.blt e i with
            | false => rfl
            | true => rw [Nat.blt_eq] at hb; omega
          rw [hlt] at hp
          simp only [Bool.false_eq_true, if_false] at hp
          rw [← h5] at hp
          exact hp

end
theorem lexS_any (hE : EnvOK P E) {ops : Array Oper} {M N : List Nat} {tm0 : T} {tmA : Nat → T} {hA : Nat → AH} {vA : Nat → AV} (hr : regOKq N ops M = true) (W : WalkS P E B w0 ops M N tm0 tmA hA vA)
    {Q : Exit → Act → World → Prop} (ρ0 : Rho) (hQ : Sat B w0 ρ0 [.code .normal (tmA ops.size) (hA ops.size)] Q) :
    ∀ (k t : Nat) (listed : Array Bool) (x : T) (h : AH) (ρ : Rho) (a : Act) (w : World), (List.range ops.size).countP (fun i => !listed.getD i false) ≤ k → listed.size = ops.size → Shut ops (fun i => listed.getD i false) →
      SV ops tm0 vA (fun i => listed.getD i false) x → HSq N ops hA (fun i => listed.getD i false) h → Sub ρ0 ρ → St B w0 ρ h w → RT ρ x a → wpOps P ops Q (lin ops k t listed) a w := by
  have fin : ∀ (listed : Array Bool) (x : T) (h : AH) (ρ : Rho) (a : Act) (w : World), (∀ i, i < ops.size → listed.getD i false = true) →
      SV ops tm0 vA (fun i => listed.getD i false) x → HSq N ops hA (fun i => listed.getD i false) h → Sub ρ0 ρ → St B w0 ρ h w → RT ρ x a → Q .normal a w := by
    intro listed x h ρ a w hall hx hh hsub st rt
    have hlast := SV.lexS W hr ops.size (Nat.le_refl _)
    have hx' : SV ops tm0 vA (fun j => Nat.blt j ops.size) x := SV.congr hx fun i hi => by
      rw [hall i hi]; symm; rw [Nat.blt_eq]; exact hi
    have hget : ∀ t, x.get t = (tmA ops.size).get t := by
      intro t
      by_cases hw : ∃ (j : Nat) (oj : Oper), ops[j]? = some oj ∧ oj.dst = some t
      · obtain ⟨j, oj, hj, hd⟩ := hw
        have hb : Nat.blt j ops.size = true := by rw [Nat.blt_eq]; exact (Array.getElem?_eq_some_iff.1 hj).1
        rw [(hx'.2 t).1 j oj hj hd hb, (hlast.2 t).1 j oj hj hd hb]
      · rw [(hx'.2 t).2 (fun k ok hk hkd => absurd ⟨k, ok, hk, hkd⟩ hw), (hlast.2 t).2 (fun k ok hk hkd => absurd ⟨k, ok, hk, hkd⟩ hw)]
    obtain ⟨m, hm, rfl, hmS⟩ := hh
    have heq : hA m = hA ops.size := by
      rcases heap_downS W ops.size m hm (Nat.le_refl _) with h1 | ⟨e, oe, h1, h2, h3, h4, _⟩
      · exact h1
      · have := (hmS e oe h3 h4).1 (hall e h2)
        omega
    have hq := hQ _ (List.mem_singleton.2 rfl)
    refine hq ρ a w hsub (by rw [← heq]; exact st) ⟨?_, rt.df, fun t => ?_⟩
    · rw [rt.sz, hx.1, hlast.1]
    · rw [← hget t]; exact rt.get t
  intro k
  induction k with
  | zero =>
    intro t listed x h ρ a w hc hsz hS hx hh hsub st rt
    simp only [lin, wpOps]
    refine fin listed x h ρ a w (fun i hi => ?_) hx hh hsub st rt
    have h0 : (List.range ops.size).countP (fun i => !listed.getD i false) = 0 := by omega
    rw [List.countP_eq_zero] at h0
    have := h0 i (List.mem_range.2 hi)
    simpa using this
  | succ k ihk =>
    intro t listed x h ρ a w hc hsz hS hx hh hsub st rt
    simp only [lin]
    generalize hrs : ((List.range ops.size).filter fun i =>
        !listed.getD i true && ((ops[i]?).map (·.after.all fun e => !Region.binds .any e || listed.getD e.on false)).getD false) = rs
    have hgetD : ∀ i, i < ops.size → listed.getD i true = listed.getD i false := by
      intro i hi
      simp [Array.getD_eq_getD_getElem?, hsz, hi]
    have hmem : ∀ i, i ∈ rs ↔ i < ops.size ∧ listed.getD i false = false ∧ ∀ o, ops[i]? = some o → ∀ e ∈ o.after, Region.binds .any e = true → listed.getD e.on false = true := by
      intro i
      rw [← hrs, List.mem_filter, List.mem_range]
      constructor
      · rintro ⟨h1, h2⟩
        have ho : ops[i]? = some ops[i] := Array.getElem?_eq_getElem h1
        rw [ho] at h2
        simp only [Option.map_some, Option.getD_some, Bool.and_eq_true, Bool.not_eq_true'] at h2
        rw [hgetD i h1] at h2
        refine ⟨h1, h2.1, fun o' ho' e he hb => ?_⟩
        rw [ho] at ho'; cases ho'
        have h3 := Array.all_eq_true_iff_forall_mem.1 h2.2 e he
        simpa [hb] using h3
      · rintro ⟨h1, h2, h3⟩
        refine ⟨h1, ?_⟩
        have ho : ops[i]? = some ops[i] := Array.getElem?_eq_getElem h1
        rw [ho, hgetD i h1, h2]
        simp only [Option.map_some, Option.getD_some, Bool.not_false, Bool.true_and]
        refine Array.all_eq_true_iff_forall_mem.2 fun e he => ?_
        cases hb : Region.binds .any e with
        | false => rfl
        | true => simpa using h3 _ ho e he hb
    cases hpick : rs[t % rs.length]? with
    | none =>
      simp only [wpOps]
      have hnil : rs = [] := by
        cases rs with
        | nil => rfl
        | cons y l =>
          have : t % (y :: l).length < (y :: l).length := Nat.mod_lt _ (by simp)
          rw [List.getElem?_eq_getElem this] at hpick
          simp at hpick
      refine fin listed x h ρ a w ?_ hx hh hsub st rt
      intro i
      induction i using Nat.strongRecOn with
      | _ i ihi =>
        intro hi
        cases hL : listed.getD i false with
        | true => rfl
        | false =>
          exfalso
          have : i ∈ rs := (hmem i).2 ⟨hi, hL, fun o ho e he hb => by
            have hlt := edge_ltQ hr ho he hb
            exact ihi e.on hlt (by omega)⟩
          rw [hnil] at this
          simp at this
    | some i =>
      simp only
      obtain ⟨hi, hL, hpre⟩ := (hmem i).1 (List.mem_of_getElem? hpick)
      have ho : ops[i]? = some ops[i] := Array.getElem?_eq_getElem hi
      obtain ⟨h', hx', hh'⟩ := evS_any W hr hS hx hh ho hL (hpre _ ho)
      have hn : x.n = (tmA i).n := by
        rw [hx.1]
        exact (SV.lexS W hr i (by omega)).1.symm
      obtain ⟨x', hset⟩ := setD_some hn (W.step i _ ho).2
      have hx2 := SV.setQ hr hx ho hL hset
      have hS2 : ∀ j, (listed.setIfInBounds i true).getD j false = (listed.getD j false || Nat.beq j i) := by
        intro j
        simp only [Array.getD_eq_getD_getElem?, Array.getElem?_setIfInBounds]
        by_cases e : i = j
        · subst e
          simp [hsz, hi, Nat.beq_refl]
        · rw [if_neg e]
          have : Nat.beq j i = false := by
            cases hb : Nat.beq j i with
            | false => rfl
            | true => exact absurd (Nat.eq_of_beq_eq_true hb).symm e
          rw [this, Bool.or_false]
      have hfun : (fun j => (listed.setIfInBounds i true).getD j false) = fun j => (listed.getD j false || Nat.beq j i) := funext hS2
      have hShut : Shut ops (fun j => (listed.setIfInBounds i true).getD j false) := by
        intro j oj hj hSj e he hb
        simp only [hS2] at hSj ⊢
        rw [Bool.or_eq_true] at hSj ⊢
        rcases hSj with h1 | h1
        · exact .inl (hS j oj hj h1 e he hb)
        · have := Nat.eq_of_beq_eq_true h1
          subst this
          exact .inl (hpre _ hj e he hb)
      have hcount : (List.range ops.size).countP (fun j => !(listed.setIfInBounds i true).getD j false) ≤ k := by
        have := count_less (p := fun j => !listed.getD j false) (q := fun j => !(listed.setIfInBounds i true).getD j false) (List.range ops.size) (fun j _ hj => by
          rw [hS2] at hj
          simp only [Bool.not_or, Bool.and_eq_true] at hj
          exact hj.1) ⟨i, List.mem_range.2 hi, by simp only [hL]; rfl, by rw [hS2]; simp [Nat.beq_refl]⟩
        omega
      have hwp := evS_wp (Q := Q) (K := wpOps P ops Q (lin ops k (t / rs.length) (listed.setIfInBounds i true))) hE st rt hx' (fun ρ' u w' h1 h2 h3 => by
        refine ihk (t / rs.length) _ x' h' ρ' _ w' hcount (by simpa using hsz) hShut (by rw [hfun]; exact hx2) (by rw [hfun]; exact hh') (hsub.trans h1) h2 ?_
        exact setD_sound (rt.mono h1) h3 hset)
      simp only [wpOps, ho]
      split
      · rename_i hw
        rw [if_pos hw] at hwp
        exact .inl hwp
      · rename_i hw
        rw [if_neg hw] at hwp
        exact hwp

end

/-- the walk's records so far -/
structure RecS where
  tm : T
  v : AV
  hb : AH
  ha : AH

/-- a read, looked at again where a doing has come, or has not -/
def againW (P : Program) (E : Env) (B : Nat) (w0 : World) (N : List Nat) (ops : Array Oper) (rs : List RecS) (p : Nat × Nat) : Prop :=
  match ops[p.1]?, rs[p.1]?, rs[p.2]? with
  | some o, some r, some re => evS P E B w0 (kindQ N p.1 o.op) o ops.toList r.tm (if Nat.blt p.2 p.1 then re.hb else re.ha) r.v (if Nat.blt p.2 p.1 then re.hb else re.ha)
  | _, _, _ => False

/-- the region in the text's order; behind it the reads are looked at again -/
def Wtr (P : Program) (E : Env) (B : Nat) (w0 : World) (N : List Nat) (ops : Array Oper) (M : List Nat) (F : T → AH → Prop) : List Oper → List RecS → T → AH → Prop
  | [], rs, tm, h => (∀ p ∈ pairsOfq N ops M, againW P E B w0 N ops rs p) ∧ F tm h
  | o :: l, rs, tm, h => ∃ v h', evS P E B w0 (kindQ N rs.length o.op) o ops.toList tm h v h' ∧ putW (Wtr P E B w0 N ops M F l (rs ++ [{ tm, v, hb := h, ha := h' }])) o.dst tm v h'

section
variable {E : Env} {B : Nat} {w0 w : World} {ρ : Rho} {h : AH} {tm tm' : T} {a : Act} {o : Oper}

theorem putW_setD {F : T → AH → Prop} {d : Option Tmp} {tm : T} {v : AV} {h : AH} (hp : putW F d tm v h) : ∃ tm', setD tm d v = some tm' ∧ F tm' h := by
  cases d with
  | none => exact ⟨tm, rfl, hp⟩
  | some d => exact ⟨tm.put d v, by simp only [setD]; rw [if_pos hp.1]; rfl, hp.2⟩

theorem Wtr_fun {ops : Array Oper} {M N : List Nat} {F : T → AH → Prop} : ∀ (l : List Oper) (rs : List RecS) (tm : T) (h : AH), Wtr P E B w0 N ops M F l rs tm h →
    ∃ (tmA : Nat → T) (hA : Nat → AH) (vA : Nat → AV) (rs' : List RecS), tmA 0 = tm ∧ hA 0 = h ∧ F (tmA l.length) (hA l.length) ∧ (∀ p ∈ pairsOfq N ops M, againW P E B w0 N ops rs' p) ∧
      (∀ (i : Nat) r, rs[i]? = some r → rs'[i]? = some r) ∧
      ∀ (i : Nat) o, l[i]? = some o → rs'[rs.length + i]? = some { tm := tmA i, v := vA i, hb := hA i, ha := hA (i + 1) } ∧ evS P E B w0 (kindQ N (rs.length + i) o.op) o ops.toList (tmA i) (hA i) (vA i) (hA (i + 1)) ∧ setD (tmA i) o.dst (vA i) = some (tmA (i + 1))
  | [], rs, tm, h, hw => ⟨fun _ => tm, fun _ => h, fun _ => .nil, rs, rfl, rfl, hw.2, hw.1, fun _ _ h => h, fun i o hi => by simp at hi⟩
  | o :: l, rs, tm, h, ⟨v, h', he, hp⟩ => by
    obtain ⟨tm1, ht, hw⟩ := putW_setD hp
    obtain ⟨tmA, hA, vA, rs', h1, h2, h3, h4, h5, h6⟩ := Wtr_fun l _ tm1 h' hw
    refine ⟨fun i => match i with | 0 => tm | i + 1 => tmA i, fun i => match i with | 0 => h | i + 1 => hA i, fun i => match i with | 0 => v | i + 1 => vA i, rs', rfl, rfl, h3, h4, ?_, ?_⟩
    · intro i r hi
      exact h5 i r (by rw [List.getElem?_append_left (List.getElem?_eq_some_iff.1 hi).1]; exact hi)
    · intro i o' hi
      cases i with
      | zero =>
        simp only [List.getElem?_cons_zero, Option.some.injEq] at hi; subst hi
        refine ⟨?_, ?_, ?_⟩
        · simp only [h2]; exact h5 rs.length _ (by simp)
        · simp only [h2]; exact he
        · simp only [h1]; exact ht
      | succ i =>
        simp only [List.getElem?_cons_succ] at hi
        have := h6 i o' hi
        rw [List.length_append, List.length_singleton, Nat.add_assoc, Nat.add_comm 1 i] at this
        exact this

/-- A REGION WHOSE ORDER IS OPEN, by one walk in the text's order. -/
theorem SW.draw (hE : EnvOK P E) {id : Nat} {ops : Array Oper} {Q : Post} {tm : T} {h : AH} (N : List Nat) (hr : regOKq N ops (masks ops.toList) = true) (hs : Wtr P E B w0 N ops (masks ops.toList) (Q .normal) ops.toList [] tm h) :
    SW P B w0 (.region id ops true) Q tm h := by
  intro ρ a w K s r hK
  refine wp_region_draw fun t => ?_
  rw [hE.mixed]
  unfold Region.schedule
  simp only [Bool.true_or, if_true]
  rw [linearise_lin]
  obtain ⟨tmA, hA, vA, rs', rfl, rfl, h3, h4, h5, h6⟩ := Wtr_fun _ _ _ _ hs
  simp only [List.length_nil, Nat.zero_add] at h6
  rw [Array.length_toList] at h3
  have W : WalkS P E B w0 ops (masks ops.toList) N (tmA 0) tmA hA vA := by
    refine ⟨rfl, fun i o hi => (h6 i o (by rw [Array.getElem?_toList]; exact hi)).2, ?_⟩
    intro i e o oe hi he hk hke g1 g2
    have := h4 _ (pairs_memQ hi he hk hke g1 g2)
    unfold againW at this
    rw [hi, (h6 i o (by rw [Array.getElem?_toList]; exact hi)).1, (h6 e oe (by rw [Array.getElem?_toList]; exact he)).1] at this
    exact this
  have hf : ∀ i, (Array.replicate ops.size false).getD i false = false := by
    intro i
    simp only [Array.getD_eq_getD_getElem?, Array.getElem?_replicate]
    split <;> rfl
  have hfun : (fun i => (Array.replicate ops.size false).getD i false) = fun _ => false := funext hf
  refine lexS_any hE hr W ρ ?_ ops.size t _ (tmA 0) (hA 0) ρ a w.drew ?_ (by simp) ?_ ?_ ?_ (Sub.refl _) s.drew r
  · intro o ho
    rw [List.mem_singleton] at ho; subst ho
    exact fun ρ' a' w' g1 g2 g3 => hK .normal _ _ ρ' a' w' h3 g1 g2 g3
  · exact Nat.le_trans List.countP_le_length (by simp)
  · intro j oj hj hS
    exact absurd ((hf j).symm.trans hS) (by simp)
  · rw [hfun]
    exact ⟨rfl, fun t => ⟨fun i o hi ht hS => (by cases hS), fun _ => rfl⟩⟩
  · rw [hfun]
    exact ⟨0, Nat.zero_le _, rfl, fun i o _ _ => by simp⟩
end
end
end Go.Ev
