/- A whole call does as the evaluator says. Conditions: a table of the program (EnvOK). -/
import Derived.Test.YtkoijkcjnppamaaGreatDoorEv4
import Derived.Tactics
import Derived.Lib.Bytealg
import Derived.Lib.MakeNoZero
/- An evaluator of closed calls over abstract memory: results, guards, regions, code, calls. -/
namespace Go.Ev
open Go.RowKit
set_option autoImplicit false
set_option linter.unusedSimpArgs false
set_option linter.unusedVariables false

variable {P : Program}

def AX.exit' : AX → Exit
  | .normal => .normal
  | .exit i => .exit i
  | .ret => .ret

section
variable {E : Env} {B : Nat} {w0 w : World} {ρ : Rho} {h : AH} {tm : T} {a : Act} {o : Oper}

theorem get_tmps (r : RT ρ tm a) (t : Nat) : RV ρ (tm.get t) (a.tmps.getD t undef) := r.get t

theorem run_mapM_res (w : World) (f : ResultVar → Sem Value) : ∀ (l : List ResultVar) (us : List Value), l.length = us.length → (∀ (j : Nat) x u, l[j]? = some x → us[j]? = some u → (f x).run P w = .ok u w) → (l.mapM f).run P w = .ok us w
  | [], us, hl, _ => by
    cases us with
    | nil => simp
    | cons u us => simp at hl
  | x :: l, us, hl, hf => by
    cases us with
    | nil => simp at hl
    | cons u us =>
      have h0 := hf 0 x u rfl rfl
      have ih := run_mapM_res w f l us (by simpa using hl) (fun j x u h1 h2 => hf (j + 1) x u (by simpa using h1) (by simpa using h2))
      simp only [List.mapM_cons, Sem.run_bind, h0, Result.andThen_ok, ih, Sem.run_pure]

def resM (tmps : Array Value) : ResultVar → Sem Value
  | .tmp t => pure (tmps.getD t undef)
  | .cell b t => do loadVar t (← asAddr (tmps.getD b undef))

theorem results_eq (fn : Func) (tmps : Array Value) : Go.results fn tmps = (do let vs ← fn.results.mapM (resM tmps); pure (if h : vs.size = 1 then vs[0] else .tuple vs)) := rfl

theorem results1_sound (hE : EnvOK P E) (s : St B w0 ρ h w) (r : RT ρ tm a) {x : ResultVar} {v : AV} (hv : results1 E tm h x = some v) :
    ∃ u, (resM a.tmps x).run P w = .ok u w ∧ RV ρ v u := by
  cases x with
  | tmp t => simp only [results1, Option.some.injEq] at hv; subst hv; exact ⟨_, rfl, r.get t⟩
  | cell b t =>
    simp only [results1] at hv
    obtain ⟨ad, u, h1, h2, h3⟩ := loadV_sound hE s (r.get b) hv
    refine ⟨u, ?_, h2⟩
    simp only [resM, h1, asAddr, Sem.run_bind, Sem.run_pure, Result.andThen_ok, h3]

theorem resultsL_sound (hE : EnvOK P E) (s : St B w0 ρ h w) (r : RT ρ tm a) : ∀ {l : List ResultVar} {vs : List AV}, resultsL E tm h l = some vs →
    ∃ us, RVs ρ vs us ∧ (l.mapM (resM a.tmps)).run P w = .ok us w
  | [], vs, hv => by
    simp only [resultsL, Option.some.injEq] at hv; subst hv
    exact ⟨[], by simp [RVs], by simp⟩
  | x :: l, vs, hv => by
    simp only [resultsL] at hv
    split at hv
    · rename_i v vs' h1 h2
      simp only [Option.some.injEq] at hv; subst hv
      obtain ⟨u, a1, a2⟩ := results1_sound hE s r h1
      obtain ⟨us, b1, b2⟩ := resultsL_sound hE s r h2
      refine ⟨u :: us, by simp only [RVs]; exact ⟨u, us, rfl, a2, b1⟩, ?_⟩
      simp only [List.mapM_cons, Sem.run_bind, a1, b2, Result.andThen_ok, Sem.run_pure]
    · simp at hv

theorem results_sound (hE : EnvOK P E) (s : St B w0 ρ h w) (r : RT ρ tm a) {fn : Func} {v : AV} (hv : Ev.results E fn tm h = some v) :
    ∃ u, (Go.results fn a.tmps).run P w = .ok u w ∧ RV ρ v u := by
  unfold Ev.results at hv
  have key : ∀ vs, resultsL E tm h fn.results.toList = some vs → ∃ us, RVs ρ vs us ∧ (Go.results fn a.tmps).run P w = .ok (if h : us.length = 1 then us[0] else .tuple ⟨us⟩) w := by
    intro vs hvs
    obtain ⟨us, h1, h2⟩ := resultsL_sound hE s r hvs
    refine ⟨us, h1, ?_⟩
    rw [results_eq, Array.mapM_eq_mapM_toList]
    simp only [Sem.run_bind, Sem.run_map, h2, Result.andThen_ok, Sem.run_pure]
    rfl
  split at hv
  · rename_i x hx
    simp only [Option.some.injEq] at hv; subst hv
    obtain ⟨us, h1, h2⟩ := key _ hx
    simp only [RVs] at h1
    obtain ⟨u, _, rfl, h3, rfl⟩ := h1
    exact ⟨u, by simpa using h2, h3⟩
  · rename_i l hne hl
    simp only [Option.some.injEq] at hv; subst hv
    obtain ⟨us, h1, h2⟩ := key _ hl
    have hlen := h1.length
    have : us.length ≠ 1 := by
      intro hc
      match l, hlen, hl, hne with
      | [x], _, hl, hne => exact hne x rfl
      | [], hlen, _, _ => simp at hlen; omega
      | _ :: _ :: _, hlen, _, _ => simp at hlen; omega
    rw [dif_neg this] at h2
    exact ⟨_, h2, by simp only [RV]; exact ⟨us, rfl, h1⟩⟩
  · simp at hv

theorem RV.bool_inv {ρ : Rho} {x : AV} {b : Bool} (h : RV ρ x (.bool b)) : x = .bool b := by
  cases x <;> simp only [RV] at h
  · exact absurd rfl (h.2 b)
  · simp only [Value.bool.injEq] at h; rw [h]
  all_goals first | (simp at h; done) | (obtain ⟨_, h, _⟩ := h; simp at h; done) | (obtain ⟨_, _, h⟩ := h; simp at h; done) | (obtain ⟨_, _, _, h, _⟩ := h; simp at h; done) | (obtain ⟨_, _, h, _⟩ := h; simp at h; done)

theorem want_sound (r : RT ρ tm a) (ops : Array Oper) (o : Oper) : want tm ops.toList o = Region.wanted o (yielded ops a.tmps) := by
  unfold want Region.wanted
  cases o.guard with
  | none => rfl
  | some g =>
    obtain ⟨j, b⟩ := g
    simp only
    congr 1
    unfold yes yielded
    rw [Array.getElem?_toList]
    cases hj : ops[j]? with
    | none => rfl
    | some o' =>
      simp only [Option.bind_some]
      cases hd : o'.dst with
      | none => rfl
      | some d =>
        simp only [Option.bind_some]
        have hg := r.get d
        unfold T.get at hg
        have hgetD : ∀ x, a.tmps[d]? = some x → a.tmps.getD d undef = x := by
          intro x hx; simp [Array.getD_eq_getD_getElem?, hx]
        cases ht : tm.t.get d with
        | none =>
          rw [ht] at hg
          simp only [RV] at hg
          obtain ⟨A, hA, _⟩ := hg
          simp only
          cases hx : a.tmps[d]? with
          | none => rfl
          | some x => rw [hgetD x hx] at hA; subst hA; rfl
        | some v =>
          rw [ht] at hg
          simp only at hg
          cases hx : a.tmps[d]? with
          | none =>
            have hu : a.tmps.getD d undef = undef := by simp [Array.getD_eq_getD_getElem?, hx]
            rw [hu] at hg
            cases v <;> first | rfl | (exfalso; simp only [RV, undef] at hg; simp at hg)
          | some x =>
            rw [hgetD x hx] at hg
            by_cases hb : ∃ b, x = .bool b
            · obtain ⟨b', rfl⟩ := hb
              have := hg.bool_inv
              subst this
              rfl
            · refine Eq.trans (b := none) ?_ ?_
              · cases v <;> first | rfl | (simp only [RV] at hg; exact absurd ⟨_, hg⟩ hb)
              · cases x <;> first | rfl | exact absurd ⟨_, rfl⟩ hb
end
end Go.Ev
/- An evaluator of closed calls over abstract memory: whole calls. -/
namespace Go.Ev
open Go.RowKit
set_option autoImplicit false
set_option linter.unusedSimpArgs false
set_option linter.unusedVariables false

variable {P : Program}
section
variable {E : Env} {B : Nat} {w0 w : World} {ρ : Rho} {h : AH} {tm : T} {a : Act} {o : Oper}

/-- All outcomes of a piece of code satisfy what follows. -/
def Sat (B : Nat) (w0 : World) (ρ : Rho) (l : List Out) (Q : Exit → Act → World → Prop) : Prop :=
  ∀ o ∈ l, match o with
    | .code x tm h => ∀ ρ' a w, Sub ρ ρ' → St B w0 ρ' h w → RT ρ' tm a → Q x.exit' a w
    | _ => False

/-- All outcomes of a call do. -/
def CSat (B : Nat) (w0 : World) (ρ : Rho) (l : List Out) (R : Value → World → Prop) : Prop :=
  ∀ o ∈ l, match o with
    | .call v h => ∀ ρ' u w, Sub ρ ρ' → St B w0 ρ' h w → RV ρ' v u → R u w
    | _ => False

theorem Sat.mono {l : List Out} {Q : Exit → Act → World → Prop} {ρ ρ' : Rho} (s : Sat B w0 ρ l Q) (hs : Sub ρ ρ') : Sat B w0 ρ' l Q := by
  intro o ho
  have := s o ho
  cases o with
  | code x tm h => exact fun ρ2 a w h1 h2 h3 => this ρ2 a w (hs.trans h1) h2 h3
  | call v h => exact this
  | bad l => exact this

theorem Sat.andThen {l : List Out} {f : T → AH → List Out} {Q : Exit → Act → World → Prop} {K : Act → World → Prop} (s : Sat B w0 ρ (andThen l f) Q)
    (hK : ∀ tm h ρ' a w, Sub ρ ρ' → St B w0 ρ' h w → RT ρ' tm a → Sat B w0 ρ' (f tm h) Q → K a w) : Sat B w0 ρ l (Exit.then K Q) := by
  intro o ho
  have hin : ∀ y, (y ∈ (match o with | .code .normal tm h => f tm h | o => [o])) → y ∈ Ev.andThen l f := fun y hy => List.mem_flatMap.2 ⟨o, ho, hy⟩
  cases o with
  | code x tm h =>
    cases x with
    | normal =>
      intro ρ' a w hs h1 h2
      refine hK tm h ρ' a w hs h1 h2 (Sat.mono (ρ := ρ) ?_ hs)
      intro y hy
      exact s y (hin y hy)
    | exit i => exact s _ (hin _ (List.mem_singleton.2 rfl))
    | ret => exact s _ (hin _ (List.mem_singleton.2 rfl))
  | call v h => exact s _ (hin _ (List.mem_singleton.2 rfl))
  | bad l => exact s _ (hin _ (List.mem_singleton.2 rfl))

theorem ev_succ (E : Env) (n : Nat) (t : Task) : ev E (n + 1) t = layer E (ev E n) t := rfl
theorem ev_zero (E : Env) (t : Task) : ev E 0 t = [.bad [0]] := rfl

/-- what is left of a drawn order -/
def lin (ops : Array Oper) : Nat → Nat → Array Bool → List Nat
  | 0, _, _ => []
  | k + 1, t, listed =>
    let rs := (List.range ops.size).filter fun i =>
      !listed.getD i true && ((ops[i]?).map (·.after.all fun e => !Region.binds .any e || listed.getD e.on false)).getD false
    match rs[t % rs.length]? with
    | some i => i :: lin ops k (t / rs.length) (listed.setIfInBounds i true)
    | none => []

theorem go_lin (ops : Array Oper) : ∀ (k t : Nat) (listed : Array Bool) (acc : List Nat), Region.linearise.go .any ops k t listed acc = acc.reverse ++ lin ops k t listed
  | 0, t, listed, acc => by simp [Region.linearise.go, lin]
  | k + 1, t, listed, acc => by
    simp only [Region.linearise.go, lin]
    generalize ((List.range ops.size).filter fun i =>
        !listed.getD i true && ((ops[i]?).map (·.after.all fun e => !Region.binds .any e || listed.getD e.on false)).getD false) = rs
    cases rs[t % rs.length]? with
    | some i => simp only; rw [go_lin ops k]; simp
    | none => simp

theorem linearise_lin (ops : Array Oper) (t : Nat) : Region.linearise .any ops t = lin ops ops.size t (Array.replicate ops.size false) := by
  unfold Region.linearise
  rw [go_lin]; rfl

theorem bit_eq (s i : Nat) : bit s i = s.testBit i := by
  unfold bit Nat.testBit
  have e : Nat.land (Nat.shiftRight s i) 1 = (s >>> i) % 2 := Nat.and_one_is_mod _
  have e2 : 1 &&& s >>> i = (s >>> i) % 2 := Nat.one_and_eq_mod_two _
  rw [e, e2]
  rcases Nat.mod_two_eq_zero_or_one (s >>> i) with h | h <;> rw [h] <;> rfl

def maskPre (ops : Array Oper) : List Nat := ops.toList.map fun o => maskOf o.after.toList

theorem testBit_mask (l : List Edge) : ∀ (s j : Nat), (l.foldl (fun s e => if Region.binds .any e then Nat.lor s (Nat.shiftLeft 1 e.on) else s) s).testBit j = (s.testBit j || l.any fun e => Region.binds .any e && e.on == j) := by
  induction l with
  | nil => intro s j; simp
  | cons e l ih =>
    intro s j
    rw [List.foldl_cons, ih, List.any_cons]
    cases hb : Region.binds .any e with
    | false => simp
    | true =>
      simp only [if_true, Bool.true_and]
      have : (Nat.lor s (Nat.shiftLeft 1 e.on)).testBit j = (s.testBit j || (e.on == j)) := by
        show (s ||| 1 <<< e.on).testBit j = _
        rw [Nat.testBit_or, Nat.one_shiftLeft, Nat.testBit_two_pow]
        congr 1
      rw [this, Bool.or_assoc]

theorem land_mask (s : Nat) (l : List Edge) : Nat.beq (Nat.land s (maskOf l)) (maskOf l) = l.all fun e => !Region.binds .any e || s.testBit e.on := by
  have hm : ∀ j, (maskOf l).testBit j = l.any fun e => Region.binds .any e && e.on == j := by
    intro j; unfold maskOf; rw [testBit_mask]; simp
  rw [Bool.eq_iff_iff]
  constructor
  · intro hb
    have hb := Nat.eq_of_beq_eq_true hb
    rw [List.all_eq_true]
    intro e he
    cases hbd : Region.binds .any e with
    | false => simp
    | true =>
      simp only [Bool.not_true, Bool.false_or]
      have h1 : (maskOf l).testBit e.on = true := by
        rw [hm]; exact List.any_eq_true.2 ⟨e, he, by simp [hbd]⟩
      have h2 : (s &&& maskOf l).testBit e.on = true := by
        rw [show s &&& maskOf l = maskOf l from hb]; exact h1
      rw [Nat.testBit_and] at h2
      simp only [Bool.and_eq_true] at h2
      exact h2.1
  · intro ha
    have : s &&& maskOf l = maskOf l := by
      apply Nat.eq_of_testBit_eq
      intro j
      rw [Nat.testBit_and]
      cases hj : (maskOf l).testBit j with
      | false => simp
      | true =>
        rw [hm] at hj
        obtain ⟨e, he, hc⟩ := List.any_eq_true.1 hj
        simp only [Bool.and_eq_true, beq_iff_eq] at hc
        have := List.all_eq_true.1 ha e he
        rw [hc.1, hc.2] at this
        simpa using this
    rw [show Nat.land s (maskOf l) = maskOf l from this]
    exact Nat.beq_refl _

theorem ready_range (s : Nat) : ∀ (l : List Nat) (i : Nat), ready s i l = (List.range' i l.length).filter fun j => !s.testBit j && (match l[j - i]? with | some p => Nat.beq (Nat.land s p) p | none => false)
  | [], i => by simp [ready]
  | p :: l, i => by
    have ih := ready_range s l (i + 1)
    have hc : ((List.range' (i + 1) l.length).filter fun j => !s.testBit j && (match (p :: l)[j - i]? with | some p => Nat.beq (Nat.land s p) p | none => false)) = ready s (i + 1) l := by
      rw [ih]
      apply List.filter_congr
      intro j hj
      rw [List.mem_range'_1] at hj
      rw [show j - i = (j - (i + 1)) + 1 by omega, List.getElem?_cons_succ]
    rw [List.length_cons, List.range'_succ, List.filter_cons, hc]
    simp only [ready, bit_eq, Nat.sub_self, List.getElem?_cons_zero]
    cases s.testBit i with
    | true => simp
    | false =>
      simp

/-- what is done, in both tongues -/
def Done (s : Nat) (listed : Array Bool) : Prop := ∀ i, s.testBit i = listed.getD i false

theorem ready_eq {ops : Array Oper} {s : Nat} {listed : Array Bool} (hd : Done s listed) (hsz : listed.size = ops.size) :
    ready s 0 (maskPre ops) = (List.range ops.size).filter fun i =>
      !listed.getD i true && ((ops[i]?).map (·.after.all fun e => !Region.binds .any e || listed.getD e.on false)).getD false := by
  rw [ready_range]
  have hlen : (maskPre ops).length = ops.size := by simp [maskPre]
  rw [hlen, ← List.range_eq_range']
  apply List.filter_congr
  intro j hj
  rw [List.mem_range] at hj
  have h1 : listed.getD j true = s.testBit j := by
    rw [hd j]
    simp [Array.getD_eq_getD_getElem?, hsz, hj]
  rw [h1]
  congr 1
  simp only [Nat.sub_zero, maskPre, List.getElem?_map, Array.getElem?_toList]
  rw [Array.getElem?_eq_getElem hj]
  simp only [Option.map_some, Option.getD_some]
  rw [land_mask]
  rw [← Array.all_toList]
  congr 1
  funext e
  rw [hd e.on]

theorem Done.set {s : Nat} {listed : Array Bool} (hd : Done s listed) {i : Nat} (hi : i < listed.size) : Done (Nat.lor s (Nat.shiftLeft 1 i)) (listed.setIfInBounds i true) := by
  intro j
  show (s ||| 1 <<< i).testBit j = _
  rw [Nat.testBit_or, Nat.one_shiftLeft, Nat.testBit_two_pow, hd j]
  simp only [Array.getD_eq_getD_getElem?, Array.getElem?_setIfInBounds]
  by_cases e : i = j
  · subst e; simp [hi]
  · simp [e]

theorem dp_outs (run : Nat → T → AH → List Out) (s : DS) (i : Nat) : ∀ {l : List Out} {q : List DS}, dpStep.outs s i l = some q →
    ∀ y ∈ l, ∃ tm h, y = .code .normal tm h ∧ { done := Nat.lor s.done (Nat.shiftLeft 1 i), tm, h : DS } ∈ q
  | [], q, _, y, hy => by simp at hy
  | x :: l, q, hq, y, hy => by
    unfold dpStep.outs at hq
    split at hq
    · simp at *
    · rename_i tm h l' heq
      simp only [List.cons.injEq] at heq
      obtain ⟨rfl, rfl⟩ := heq
      split at hq
      · rename_i r hr
        simp only [Option.some.injEq] at hq; subst hq
        rcases List.mem_cons.1 hy with rfl | hy
        · exact ⟨tm, h, rfl, List.mem_cons_self⟩
        · obtain ⟨tm', h', a, b⟩ := dp_outs run s i hr y hy
          exact ⟨tm', h', a, List.mem_cons_of_mem _ b⟩
      · simp at hq
    · simp at hq

theorem dp_go (run : Nat → T → AH → List Out) (s : DS) : ∀ {rs : List Nat} {r : List DS}, dpStep.go run s rs = some r →
    ∀ i ∈ rs, ∃ q, dpStep.outs s i (run i s.tm s.h) = some q ∧ ∀ y ∈ q, y ∈ r
  | [], r, _, i, hi => by simp at hi
  | j :: rs, r, hr, i, hi => by
    unfold dpStep.go at hr
    split at hr
    · rename_i x hx
      split at hr
      · rename_i b hb
        simp only [Option.some.injEq] at hr; subst hr
        rcases List.mem_cons.1 hi with rfl | hi
        · exact ⟨x, hx, fun y hy => List.mem_append_left _ hy⟩
        · obtain ⟨q, h1, h2⟩ := dp_go run s hb i hi
          exact ⟨q, h1, fun y hy => List.mem_append_right _ (h2 y hy)⟩
      · simp at hr
    · simp at hr

theorem dp_all (run : Nat → T → AH → List Out) (pre : List Nat) : ∀ {l acc res : List DS}, dpAll run pre acc l = some res →
    (∀ y ∈ acc, y ∈ res) ∧ ∀ s ∈ l, ∃ r, dpStep run pre s = some r ∧ ∀ y ∈ r, y ∈ res
  | [], acc, res, h => by
    simp only [dpAll, Option.some.injEq] at h; subst h
    exact ⟨fun _ h => h, fun s hs => by simp at hs⟩
  | s :: l, acc, res, h => by
    unfold dpAll at h
    split at h
    · rename_i r hr
      obtain ⟨h1, h2⟩ := dp_all run pre h
      refine ⟨fun y hy => h1 y (mem_addAll _ _ (.inl hy)), fun s' hs' => ?_⟩
      rcases List.mem_cons.1 hs' with rfl | hs'
      · exact ⟨r, hr, fun y hy => h1 y (mem_addAll _ _ (.inr hy))⟩
      · exact h2 s' hs'
    · simp at h

/-- The claims, layer by layer. -/
structure Claims (P : Program) (E : Env) (B : Nat) (w0 : World) (ih : Task → List Out) (n : Nat) : Prop where
  code : ∀ c tm h ρ a w Q, St B w0 ρ h w → RT ρ tm a → Sat B w0 ρ (ih (.code c tm h)) Q → c.wp P Q a w
  loop : ∀ c tm h ρ a w Q, St B w0 ρ h w → RT ρ tm a → Sat B w0 ρ (ih (.loop c tm h)) Q → Code.rounds P c Q n a w
  ops : ∀ l ops tm h ρ a w Q, St B w0 ρ h w → RT ρ tm a → Sat B w0 ρ (ih (.ops l (Array.toList ops) tm h)) Q → wpList P ops Q l a w
  op : ∀ o ops tm h ρ a w (K : Act → World → Prop) Q, St B w0 ρ h w → RT ρ tm a → Sat B w0 ρ (ih (.op o (Array.toList ops) tm h)) (Exit.then K fun _ _ _ => False) →
    if Region.wanted o (yielded ops a.tmps) then o.wp P a w K Q else K (a.put o.dst undef) w
  opN : ∀ o ops tm h x tm' h', .code x tm' h' ∈ ih (.op o ops tm h) → x = .normal
  dp : ∀ k ops l Q (s : DS) ρ a w listed t, s ∈ l → St B w0 ρ s.h w → RT ρ s.tm a → Done s.done listed → listed.size = ops.size → Sat B w0 ρ (ih (.dp k (maskPre ops) (Array.toList ops) l)) Q →
    wpOps P ops Q (lin ops k t listed) a w
  call : ∀ f args h ρ vs w R, St B w0 ρ h w → RVs ρ args vs → CSat B w0 ρ (ih (.call f args h)) R → Calls P f ⟨vs⟩ w fun e w' => ∃ u, e = .returned u ∧ R u w'

theorem Sat.set {tm : T} {d : Option Tmp} {v : AV} {K : Act → World → Prop} (hs : Sat B w0 ρ [setOut tm d v h] (Exit.then K fun _ _ _ => False)) {ρ' : Rho} (hsub : Sub ρ ρ') (s : St B w0 ρ' h w) (r : RT ρ' tm a) {u : Value} (hu : RV ρ' v u) : K (a.put d u) w := by
  have := hs _ (List.mem_singleton.2 rfl)
  unfold setOut at this
  split at this
  · rename_i x tm' h' heq
    split at heq
    · rename_i t ht
      simp only [Out.code.injEq] at heq
      obtain ⟨rfl, rfl, rfl⟩ := heq
      exact this ρ' _ w hsub s (setD_sound r hu ht)
    · simp at heq
  · exact this.elim

theorem claim_op (hE : EnvOK P E) {ih : Task → List Out} {n : Nat} (hih : Claims P E B w0 ih n) (o : Oper) (ops : Array Oper) (tm : T) (h : AH) (ρ : Rho) (a : Act) (w : World) (K : Act → World → Prop) (Q : Exit → Act → World → Prop)
    (s : St B w0 ρ h w) (r : RT ρ tm a) (hs : Sat B w0 ρ (lOp o ops.toList tm h E ih) (Exit.then K fun _ _ _ => False)) :
    if Region.wanted o (yielded ops a.tmps) then o.wp P a w K Q else K (a.put o.dst undef) w := by
  rw [← want_sound r ops o]
  unfold lOp at hs
  cases hw : want tm ops.toList o with
  | false =>
    rw [hw] at hs
    simp only [Bool.false_eq_true, if_false]
    exact hs.set (Sub.refl _) s r (by simp only [RV, undef]; exact ⟨[], rfl, by simp [RVs]⟩)
  | true =>
    rw [hw] at hs
    simp only [if_true]
    have hok := evOp_ok (o := o) hE s r
    cases hx : evOp E tm o h with
    | none =>
      rw [hx] at hs
      exact (hs (.bad [4, o.type, o.dst.getD 9999]) (by simp [outNx])).elim
    | some x =>
      rw [hx] at hs hok
      cases x with
      | vals l =>
        obtain ⟨p, hp, ρ', u, w', h1, h2, h3, h4⟩ := hok
        have hK : K (a.put o.dst u) w' := by
          refine Sat.set (ρ := ρ) (h := p.2) (tm := tm) (v := p.1) ?_ h1 h2 (r.mono h1) h3
          intro y hy
          rw [List.mem_singleton] at hy; subst hy
          exact hs _ (List.mem_map.2 ⟨p, hp, rfl⟩)
        rcases h4 with h4 | ⟨h4, rfl⟩
        · simp only [Oper.wp, h4, Oper.upon_value]; exact hK
        · simp only [Oper.wp, h4, Oper.upon_skip]; exact hK
      | enter f args =>
        obtain ⟨vs, h1, h2⟩ := hok
        simp only [Oper.wp, h2, Oper.upon_enter]
        refine Calls.mono (hih.call f args h ρ vs w (fun u w' => K (a.put o.dst u) w') s h1 ?_) ?_
        · intro y hy
          have hy' := hs _ (List.mem_map.2 ⟨y, hy, rfl⟩)
          cases y with
          | call v h' =>
            intro ρ' u w' hsub hst hu
            refine Sat.set (ρ := ρ) (h := h') (tm := tm) (v := v) ?_ hsub hst (r.mono hsub) hu
            intro z hz
            rw [List.mem_singleton] at hz; subst hz
            exact hy'
          | code x t h' => exact hy'
          | bad l => exact hy'
        · rintro e w' ⟨u, rfl, hR⟩
          exact hR

theorem claim_ops {ih : Task → List Out} {n : Nat} (hih : Claims P E B w0 ih n) (l : List Oper) (ops : Array Oper) (tm : T) (h : AH) (ρ : Rho) (a : Act) (w : World) (Q : Exit → Act → World → Prop)
    (s : St B w0 ρ h w) (r : RT ρ tm a) (hs : Sat B w0 ρ (lOps l ops.toList tm h E ih) Q) : wpList P ops Q l a w := by
  cases l with
  | nil =>
    simp only [lOps] at hs
    exact hs _ (List.mem_singleton.2 rfl) ρ a w (Sub.refl _) s r
  | cons o l =>
    simp only [lOps] at hs
    have h1 := Sat.andThen (K := wpList P ops Q l) hs fun tm h ρ' a w hsub s r hs => hih.ops l ops tm h ρ' a w Q s r hs
    have h2 : Sat B w0 ρ (ih (.op o ops.toList tm h)) (Exit.then (wpList P ops Q l) fun _ _ _ => False) := by
      intro y hy
      have := h1 y hy
      cases y with
      | code x tm' h' =>
        have hx := hih.opN _ _ _ _ _ _ _ hy
        subst hx
        exact this
      | call v h => exact this
      | bad l => exact this
    have h3 := hih.op o ops tm h ρ a w _ Q s r h2
    unfold wpList
    split
    · rename_i hw
      rw [if_pos hw] at h3
      exact .inl h3
    · rename_i hw
      rw [if_neg hw] at h3
      exact h3

theorem setOut_normal {tm : T} {d : Option Tmp} {v : AV} {h : AH} {x : AX} {tm' : T} {h' : AH} (he : setOut tm d v h = .code x tm' h') : x = .normal := by
  unfold setOut at he
  split at he
  · simp only [Out.code.injEq] at he; exact he.1.symm
  · simp at he

theorem lOp_normal {ih : Task → List Out} {o : Oper} {ops : List Oper} {tm : T} {h : AH} {x : AX} {tm' : T} {h' : AH} (hy : .code x tm' h' ∈ lOp o ops tm h E ih) : x = .normal := by
  unfold lOp at hy
  split at hy
  · unfold outNx at hy
    split at hy
    · obtain ⟨p, _, hp⟩ := List.mem_map.1 hy
      exact setOut_normal hp
    · obtain ⟨y, _, hy'⟩ := List.mem_map.1 hy
      cases y with
      | call v h => exact setOut_normal hy'
      | bad l => simp [outCall] at hy'
      | code x t h => simp [outCall] at hy'
    · simp at hy
  · exact setOut_normal (List.mem_singleton.1 hy).symm

theorem claim_call (hE : EnvOK P E) {ih : Task → List Out} {n : Nat} (hih : Claims P E B w0 ih n) (f : FuncId) (args : List AV) (h : AH) (ρ : Rho) (vs : List Value) (w : World) (R : Value → World → Prop)
    (s : St B w0 ρ h w) (hv : RVs ρ args vs) (hs : CSat B w0 ρ (lCall f args h E ih) R) : Calls P f ⟨vs⟩ w fun e w' => ∃ u, e = .returned u ∧ R u w' := by
  unfold lCall at hs
  split at hs
  · rename_i v h' hp
    refine Calls.mono (hE.prim f args h v h' hp B w0 ρ w vs s hv) ?_
    rintro e w' ⟨u, ρ', rfl, h1, h2, h3⟩
    exact ⟨u, rfl, hs _ (List.mem_singleton.2 rfl) ρ' u w' h1 h3 h2⟩
  · exact (hs _ (List.mem_singleton.2 rfl)).elim
  · unfold lBody at hs
    split at hs
    · rename_i fn hf
      split at hs
      · rename_i c hc
        obtain ⟨hf1, hf2⟩ := hE.fn f fn hf
        refine calls_of_wp hf1 hc (hih.code c { n := Nat.max fn.ntmps args.length, t := Tr.ofList args } h ρ _ w _ s ?_ ?_)
        · have hlen := hv.length
          refine ⟨?_, rfl, fun t => ?_⟩
          · simp only [Array.size_append, Array.size_replicate]
            show vs.length + (fn.ntmps - vs.length) = max fn.ntmps args.length
            omega
          · unfold T.get
            simp only [Tr.get_ofList]
            cases ht : args[t]? with
            | none =>
              simp only
              have hge : vs.length ≤ t := by rw [← hlen]; exact List.getElem?_eq_none_iff.1 ht
              have : ((⟨vs⟩ : Array Value) ++ Array.replicate (fn.ntmps - vs.length) undef).getD t undef = undef := by
                simp only [Array.getD_eq_getD_getElem?, Array.getElem?_append]
                rw [if_neg (by simp; omega), Array.getElem?_replicate]
                split <;> rfl
              rw [show (⟨vs⟩ : Array Value).size = vs.length from rfl, this]
              simp only [RV, undef]; exact ⟨[], rfl, by simp [RVs]⟩
            | some x =>
              simp only
              obtain ⟨u, h1, h2⟩ := hv.get ht
              have hlt := (List.getElem?_eq_some_iff.1 h1).1
              have : ((⟨vs⟩ : Array Value) ++ Array.replicate (fn.ntmps - vs.length) undef).getD t undef = u := by
                simp only [Array.getD_eq_getD_getElem?, Array.getElem?_append]
                rw [if_pos (by simpa using hlt)]
                simp [h1]
              rw [show (⟨vs⟩ : Array Value).size = vs.length from rfl, this]
              exact h2
        · intro y hy
          have hy' := hs _ (List.mem_map.2 ⟨y, hy, rfl⟩)
          cases y with
          | bad l => exact hy'
          | call v h => exact hy'
          | code x tm' h' =>
            intro ρ' a' w' hsub st r
            have key : ∀ v, Ev.results E fn tm' h' = some v → (∀ ρ' u w, Sub ρ ρ' → St B w0 ρ' h' w → RV ρ' v u → R u w) →
                a'.defers = [] ∧ ∃ v, (Go.results fn a'.tmps).run P w' = .ok v w' ∧ (∃ u, Ending.returned v = .returned u ∧ R u w') := by
              intro v hv hR
              obtain ⟨u, h1, h2⟩ := results_sound hE st r hv
              exact ⟨r.df, u, h1, u, rfl, hR ρ' u w' hsub st h2⟩
            cases x with
            | exit i => simp [outFn] at hy'
            | normal =>
              simp only [outFn] at hy'
              cases hr : Ev.results E fn tm' h' with
              | none => rw [hr] at hy'; exact hy'.elim
              | some v => rw [hr] at hy'; exact key v hr hy'
            | ret =>
              simp only [outFn] at hy'
              cases hr : Ev.results E fn tm' h' with
              | none => rw [hr] at hy'; exact hy'.elim
              | some v => rw [hr] at hy'; exact key v hr hy'
      · exact (hs _ (List.mem_singleton.2 rfl)).elim
    · exact (hs _ (List.mem_singleton.2 rfl)).elim

theorem claim_dp {ih : Task → List Out} {n : Nat} (hih : Claims P E B w0 ih n) (k : Nat) (ops : Array Oper) (l : List DS) (Q : Exit → Act → World → Prop) (s : DS) (ρ : Rho) (a : Act) (w : World) (listed : Array Bool) (t : Nat)
    (hsl : s ∈ l) (st : St B w0 ρ s.h w) (r : RT ρ s.tm a) (hd : Done s.done listed) (hsz : listed.size = ops.size) (hs : Sat B w0 ρ (lDp k (maskPre ops) ops.toList l E ih) Q) :
    wpOps P ops Q (lin ops k t listed) a w := by
  unfold lDp at hs
  cases k with
  | zero =>
    simp only [lin, wpOps]
    exact hs _ (List.mem_map.2 ⟨s, hsl, rfl⟩) ρ a w (Sub.refl _) st r
  | succ k =>
    simp only at hs
    split at hs
    · rename_i l' hl'
      obtain ⟨_, h2⟩ := dp_all _ _ hl'
      obtain ⟨r', h3, h4⟩ := h2 s hsl
      unfold dpStep at h3
      rw [ready_eq hd hsz] at h3
      simp only [lin]
      generalize hrs : ((List.range ops.size).filter fun i =>
        !listed.getD i true && ((ops[i]?).map (·.after.all fun e => !Region.binds .any e || listed.getD e.on false)).getD false) = rs at h3 ⊢
      split at h3
      · simp at h3
      · rename_i hne
        have hpos : 0 < rs.length := by
          cases rs with
          | nil => exact absurd rfl hne
          | cons x y => simp
        have hi := List.getElem?_eq_getElem (Nat.mod_lt t hpos)
        generalize hie : rs[t % rs.length]'(Nat.mod_lt t hpos) = i at hi
        rw [hi]
        simp only
        have hmem : i ∈ rs := List.mem_of_getElem? hi
        have hlt : i < ops.size := by
          rw [← hrs] at hmem
          exact List.mem_range.1 (List.mem_filter.1 hmem).1
        obtain ⟨q, hq1, hq2⟩ := dp_go _ _ h3 i hmem
        have hoi : ops[i]? = some ops[i] := Array.getElem?_eq_getElem hlt
        have hrun : opAt ops.toList ih i s.tm s.h = ih (.op ops[i] ops.toList s.tm s.h) := by
          unfold opAt; rw [Array.getElem?_toList, hoi]
        rw [hrun] at hq1
        have hK : Sat B w0 ρ (ih (.op ops[i] ops.toList s.tm s.h)) (Exit.then (wpOps P ops Q (lin ops k (t / rs.length) (listed.setIfInBounds i true))) fun _ _ _ => False) := by
          intro y hy
          obtain ⟨tm', h', rfl, hin⟩ := dp_outs (opAt ops.toList ih) s i hq1 y hy
          intro ρ' a' w' hsub st' r2
          exact hih.dp k ops l' Q _ ρ' a' w' _ _ (h4 _ (hq2 _ hin)) st' r2 (hd.set (by rw [hsz]; exact hlt)) (by simpa using hsz) (hs.mono hsub)
        have h5 := hih.op ops[i] ops s.tm s.h ρ a w _ Q st r hK
        simp only [wpOps, hoi]
        split
        · rename_i hw
          rw [if_pos hw] at h5
          exact .inl h5
        · rename_i hw
          rw [if_neg hw] at h5
          exact h5
    · exact (hs _ (List.mem_singleton.2 rfl)).elim

theorem done_zero (n : Nat) : Done 0 (Array.replicate n false) := by
  intro i
  simp only [Nat.zero_testBit, Array.getD_eq_getD_getElem?, Array.getElem?_replicate]
  split <;> rfl

theorem claim_code (hE : EnvOK P E) {ih : Task → List Out} {n : Nat} (hih : Claims P E B w0 ih n) (c : Code) (tm : T) (h : AH) (ρ : Rho) (a : Act) (w : World) (Q : Exit → Act → World → Prop)
    (s : St B w0 ρ h w) (r : RT ρ tm a) (hs : Sat B w0 ρ (codeSem c E ih tm h) Q) : c.wp P Q a w := by
  unfold codeSem at hs
  split at hs
  · exact wp_skip (hs _ (List.mem_singleton.2 rfl) ρ a w (Sub.refl _) s r)
  · rename_i x y
    refine wp_seq (hih.code x tm h ρ a w _ s r (Sat.andThen hs fun tm h ρ' a w hsub s r hs => hih.code y tm h ρ' a w Q s r hs))
  · rename_i c x y
    unfold cCond at hs
    split at hs
    · rename_i hc
      have := opnd_sound r hc
      simp only [RV] at this
      exact wp_cond_true this (hih.code x tm h ρ a w Q s r hs)
    · rename_i hc
      have := opnd_sound r hc
      simp only [RV] at this
      exact wp_cond_false this (hih.code y tm h ρ a w Q s r hs)
    · exact (hs _ (List.mem_singleton.2 rfl)).elim
  · rename_i id b
    refine wp_block (hih.code b tm h ρ a w _ s r ?_)
    intro y hy
    have := hs _ (List.mem_map.2 ⟨y, hy, rfl⟩)
    cases y with
    | bad l => exact this
    | call v h => exact this
    | code x tm' h' =>
      cases x with
      | normal => exact this
      | ret => exact this
      | exit i =>
        simp only [outBlock] at this
        intro ρ' a' w' h1 h2 h3
        simp only [AX.exit', Exit.inBlock]
        split
        · rename_i e
          rw [if_pos e] at this
          exact this ρ' a' w' h1 h2 h3
        · rename_i e
          rw [if_neg e] at this
          exact this ρ' a' w' h1 h2 h3
  · rename_i b
    exact wp_loop_rounds n (hih.loop b tm h ρ a w Q s r hs)
  · rename_i id
    exact wp_exit (hs _ (List.mem_singleton.2 rfl) ρ a w (Sub.refl _) s r)
  · exact wp_ret (hs _ (List.mem_singleton.2 rfl) ρ a w (Sub.refl _) s r)
  · rename_i id ops draw
    unfold cRegion at hs
    cases draw with
    | false => exact wp_region_list (hih.ops ops.toList ops tm h ρ a w Q s r hs)
    | true =>
      refine wp_region_draw fun t => ?_
      rw [hE.mixed]
      unfold Region.schedule
      simp only [Bool.true_or, if_true]
      rw [linearise_lin]
      refine hih.dp ops.size ops [{ done := 0, tm, h }] Q { done := 0, tm, h } ρ a w.drew _ t (List.mem_singleton.2 rfl) s.drew r (done_zero _) (by simp) ?_
      simpa [maskPre] using hs
  · exact (hs _ (List.mem_singleton.2 rfl)).elim

theorem claims (hE : EnvOK P E) (B : Nat) (w0 : World) : ∀ n, Claims P E B w0 (ev E n) n
  | 0 => by
    have hbad : ∀ t ρ Q, ¬ Sat B w0 ρ (ev E 0 t) Q := fun t ρ Q hs => hs _ (List.mem_singleton.2 rfl)
    have hbadc : ∀ t ρ Q, ¬ CSat B w0 ρ (ev E 0 t) Q := fun t ρ Q hs => hs _ (List.mem_singleton.2 rfl)
    exact ⟨fun _ _ _ _ _ _ _ _ _ hs => (hbad _ _ _ hs).elim, fun _ _ _ _ _ _ _ _ _ hs => (hbad _ _ _ hs).elim, fun _ _ _ _ _ _ _ _ _ _ hs => (hbad _ _ _ hs).elim,
      fun _ _ _ _ _ _ _ _ _ _ _ hs => (hbad _ _ _ hs).elim, fun _ _ _ _ _ _ _ hm => by rw [ev_zero] at hm; simp at hm,
      fun _ _ _ _ _ _ _ _ _ _ _ _ _ _ _ hs => (hbad _ _ _ hs).elim, fun _ _ _ _ _ _ _ _ _ hs => (hbadc _ _ _ hs).elim⟩
  | n + 1 => by
    have hih := claims hE B w0 n
    refine ⟨?_, ?_, ?_, ?_, ?_, ?_, ?_⟩
    · intro c tm h ρ a w Q s r hs
      exact claim_code hE hih c tm h ρ a w Q s r hs
    · intro c tm h ρ a w Q s r hs
      rw [rounds_succ]
      exact hih.code c tm h ρ a w _ s r (Sat.andThen (f := fun tm h => ev E n (.loop c tm h)) hs fun tm h ρ' a w hsub s r hs => hih.loop c tm h ρ' a w Q s r hs)
    · intro l ops tm h ρ a w Q s r hs
      exact claim_ops hih l ops tm h ρ a w Q s r hs
    · intro o ops tm h ρ a w K Q s r hs
      exact claim_op hE hih o ops tm h ρ a w K Q s r hs
    · intro o ops tm h x tm' h' hy
      exact lOp_normal hy
    · intro k ops l Q s ρ a w listed t hsl st r hd hsz hs
      exact claim_dp hih k ops l Q s ρ a w listed t hsl st r hd hsz hs
    · intro f args h ρ vs w R s hv hs
      exact claim_call hE hih f args h ρ vs w R s hv hs

/-- WHAT THE EVALUATOR SAYS IS SO. -/
theorem ev_sound (hE : EnvOK P E) {n : Nat} {f : FuncId} {args : List AV} {vs : List Value} {w : World} {R : Value → World → Prop}
    (s : St B w0 ρ h w) (hv : RVs ρ args vs) (hs : CSat B w0 ρ (ev E n (.call f args h)) R) : Calls P f ⟨vs⟩ w fun e w' => ∃ u, e = .returned u ∧ R u w' :=
  (claims hE B w0 n).call f args h ρ vs w R s hv hs
end
end Go.Ev
/- An evaluator of closed calls over abstract memory: entries without a body, tables. -/
namespace Go.Ev
open Go.RowKit
set_option autoImplicit false
set_option linter.unusedSimpArgs false
set_option linter.unusedVariables false

variable {P : Program}

def countN (c : Nat) : List Nat → Nat
  | [] => 0
  | b :: l => if Nat.beq b c then countN c l + 1 else countN c l

def idxN (c : Nat) : List Nat → Nat → Option Nat
  | [], _ => none
  | b :: l, i => if Nat.beq b c then some i else idxN c l (i + 1)

/-- the numbers of the entries -/
structure Ents where
  count : Nat
  index : Nat
  mkz : Nat
  noesc : Nat

def byteArg (n : Int) : Bool := decide (0 ≤ n) && decide (n < 256)

/-- the type of MakeNoZero's elements stands in its own place -/
noncomputable def entsSem (N : Ents) (e : TypeId) (f : FuncId) (args : List AV) (h : AH) : Option (AV × AH) :=
  if Nat.beq f N.count then match args with
    | [.str l, .int .u8 c] => if byteArg c = true then some (.int .i64 (countN c.toNat l), h) else none
    | _ => none
  else if Nat.beq f N.index then match args with
    | [.str l, .int .u8 c] => if byteArg c = true then some (.int .i64 (match idxN c.toNat l 0 with | some i => i | none => -1), h) else none
    | _ => none
  else if Nat.beq f N.mkz then match args with
    | [.int .i64 n] => if 0 ≤ n ∧ n < 1000000 then some (.sl h.next 0 0 n.toNat none, new h (.cells [] e 0 0 (some 1))) else none
    | _ => none
  else if Nat.beq f N.noesc then match args with
    | [.ptr b o] => some (.ptr b o, h)
    | _ => none
  else none

/-- what the model answers at a function without a body -/
def entOf (P : Program) (f : FuncId) : Option (Array Value → Sem Value) :=
  match P.funcs[f]? with
  | some fn => if (fn.body.isNone && (Extern.findNext fn).isNone && !(fn.name == "runtime.NumGoroutine")) = true then Extern.find fn else none
  | none => none

structure EntsOK (P : Program) (N : Ents) (e : TypeId) : Prop where
  count : entOf P N.count = some Extern.BytealgCount.count
  index : entOf P N.index = some Extern.BytealgIndexByte.indexByte
  mkz : ∃ ps t, entOf P N.mkz = some (Extern.BytealgMakeNoZero.makeNoZero ps #[t]) ∧ P.underlying t = some (.slice e)
  noesc : entOf P N.noesc = some Extern.AbiNoEscape.same

theorem run_entOf {f : FuncId} {e : Array Value → Sem Value} (h : entOf P f = some e) (args : Array Value) (w : World) :
    (callFunc f args).run P w = ((e args).run P w).andThen fun v w' => .ok (.value v) w' := by
  unfold entOf at h
  split at h
  · rename_i fn hf
    split at h
    · rename_i hc
      simp only [Bool.and_eq_true, Bool.not_eq_true'] at hc
      exact run_callFunc_extern hf hc.2 hc.1.1 (by simpa using hc.1.2) h args w
    · simp at h
  · simp at h

theorem countN_eq (c : Nat) (hc : c < 256) : ∀ (l : List UInt8), countN c (l.map (·.toNat)) = Lib.countByte l c.toUInt8
  | [] => rfl
  | b :: l => by
    have ih := countN_eq c hc l
    unfold Lib.countByte at *
    simp only [List.map_cons, countN, ih, List.count_cons]
    have : (Nat.beq b.toNat c = true) ↔ (b == c.toUInt8) = true := by
      rw [beq_iff_eq]
      constructor
      · intro h
        have h := Nat.eq_of_beq_eq_true h
        apply UInt8.toNat_inj.1
        rw [h]; simp; omega
      · intro h
        subst h
        have : c.toUInt8.toNat = c := by simp; omega
        rw [this]; exact Nat.beq_refl _
    by_cases hb : Nat.beq b.toNat c = true
    · rw [if_pos hb, if_pos (this.1 hb)]
    · rw [if_neg hb, if_neg (fun h => hb (this.2 h))]; rfl

def shifted (x : Int) (i : Nat) : Int := if x = -1 then -1 else x + i

theorem idxN_eq (c : Nat) (hc : c < 256) : ∀ (l : List UInt8) (i : Nat), (match idxN c (l.map (·.toNat)) i with | some j => (j : Int) | none => -1) = shifted (Lib.indexByte l c.toUInt8) i
  | [], i => rfl
  | b :: l, i => by
    have ih := idxN_eq c hc l (i + 1)
    have hge := Lib.indexByte_ge l c.toUInt8
    have : (Nat.beq b.toNat c = true) ↔ (b == c.toUInt8) = true := by
      rw [beq_iff_eq]
      constructor
      · intro h
        have h := Nat.eq_of_beq_eq_true h
        apply UInt8.toNat_inj.1
        rw [h]; simp; omega
      · intro h
        subst h
        have : c.toUInt8.toNat = c := by simp; omega
        rw [this]; exact Nat.beq_refl _
    simp only [List.map_cons, idxN, Lib.indexByte]
    unfold shifted at *
    by_cases hb : Nat.beq b.toNat c = true
    · rw [if_pos hb, if_pos (this.1 hb)]
      simp
    · rw [if_neg hb, if_neg (fun h => hb (this.2 h)), ih]
      by_cases h1 : Lib.indexByte l c.toUInt8 = -1
      · simp [h1]
      · have h2 : (Lib.indexByte l c.toUInt8 == -1) = false := by simpa using h1
        rw [if_neg h1, h2]
        simp only [Bool.false_eq_true, if_false]
        rw [if_neg (by omega)]
        omega

theorem ents_sound {N : Ents} {e : TypeId} (hN : EntsOK P N e) {f : FuncId} {args : List AV} {h h' : AH} {v : AV} (hv : entsSem N e f args h = some (v, h')) {B : Nat} {w0 w : World} {ρ : Rho} {vs : List Value} (s : St B w0 ρ h w) (ha : RVs ρ args vs) :
    ∃ ρ' u w', Sub ρ ρ' ∧ St B w0 ρ' h' w' ∧ RV ρ' v u ∧ (callFunc f ⟨vs⟩).run P w = .ok (.value u) w' := by
  unfold entsSem at hv
  split at hv
  · rename_i hf
    have hf := Nat.eq_of_beq_eq_true hf; subst hf
    split at hv
    · rename_i l c
      split at hv
      · rename_i hc
        simp only [byteArg, Bool.and_eq_true, decide_eq_true_eq] at hc
        simp only [Option.some.injEq, Prod.mk.injEq] at hv
        obtain ⟨rfl, rfl⟩ := hv
        simp only [RVs, RV] at ha
        obtain ⟨_, _, rfl, ⟨S, rfl, rfl⟩, _, _, rfl, rfl, rfl⟩ := ha
        refine ⟨ρ, .int .i64 (countN c.toNat (bytesN S)), w, Sub.refl _, s, by simp only [RV], ?_⟩
        rw [run_entOf hN.count, Lib.run_countString]
        unfold bytesN
        rw [countN_eq c.toNat (by omega)]
        rfl
      · simp at hv
    · simp at hv
  · split at hv
    · rename_i hf
      have hf := Nat.eq_of_beq_eq_true hf; subst hf
      split at hv
      · rename_i l c
        split at hv
        · rename_i hc
          simp only [byteArg, Bool.and_eq_true, decide_eq_true_eq] at hc
          simp only [Option.some.injEq, Prod.mk.injEq] at hv
          obtain ⟨rfl, rfl⟩ := hv
          simp only [RVs, RV] at ha
          obtain ⟨_, _, rfl, ⟨S, rfl, rfl⟩, _, _, rfl, rfl, rfl⟩ := ha
          refine ⟨ρ, .int .i64 (match idxN c.toNat (bytesN S) 0 with | some i => i | none => -1), w, Sub.refl _, s, by simp only [RV], ?_⟩
          rw [run_entOf hN.index, Lib.run_indexByteString]
          unfold bytesN
          have := idxN_eq c.toNat (by omega) S.data.toList 0
          rw [this]
          simp only [Result.andThen_ok, shifted]
          split
          · rename_i h1
            have h1 : Lib.indexByte S.data.toList c.toNat.toUInt8 = -1 := h1
            rw [h1]
          · simp
        · simp at hv
      · simp at hv
    · split at hv
      · rename_i hf
        have hf := Nat.eq_of_beq_eq_true hf; subst hf
        split at hv
        · rename_i n
          split at hv
          · rename_i hc
            simp only [Option.some.injEq, Prod.mk.injEq] at hv
            obtain ⟨rfl, rfl⟩ := hv
            simp only [RVs, RV] at ha
            obtain ⟨_, _, rfl, rfl, rfl⟩ := ha
            obtain ⟨ps, t, h1, h2⟩ := hN.mkz
            obtain ⟨cs, h3, h4, h5⟩ := Lib.run_makeNoZero (P := P) w ps t e h2 n.toNat (by omega)
            have hn : ((n.toNat : Nat) : Int) = n := by omega
            rw [hn] at h3
            refine ⟨ρ.snoc ((w.heap.size, cs.size)), .slice (some ⟨w.heap.size, 0, none⟩) n.toNat cs.size, _, Sub.snoc _ _, (s.drew.drew).new _ cs.size (.cells cs e) ?_, ?_, ?_⟩
            · exact ⟨cs, (0, 0), rfl, fun j v hj => by simp at hj, fun j a b => by simp at b, by simp⟩
            rotate_left
            · rw [run_entOf h1, h3]; rfl
            · simp only [RV]
              exact ⟨_, cs.size, last_get ρ s _, rfl, h4, by simp⟩
          · simp at hv
        · simp at hv
      · split at hv
        · rename_i hf
          have hf := Nat.eq_of_beq_eq_true hf; subst hf
          split at hv
          · rename_i b o
            simp only [Option.some.injEq, Prod.mk.injEq] at hv
            obtain ⟨rfl, rfl⟩ := hv
            have ha' := ha
            simp only [RVs] at ha
            obtain ⟨u, _, rfl, hu, rfl⟩ := ha
            refine ⟨ρ, u, w, Sub.refl _, s, hu, ?_⟩
            rw [run_entOf hN.noesc]
            rfl
          · simp at hv
        · simp at hv

/-- A pure function's answers, each at its arguments. -/
structure Pure where
  f : FuncId
  args : List AV
  v : AV

/-- values that hang on no memory -/
def flat : AV → Bool
  | .bool _ | .int _ _ | .str _ | .nil | .nsl | .nmap | .nfn | .nifc => true
  | _ => false

def flatR : AV → Bool
  | .tup l => l.all flat
  | v => flat v

def findPure (f : FuncId) (args : List AV) : List Pure → Option AV
  | [] => none
  | p :: l => if Nat.beq p.f f && sameL p.args args then some p.v else findPure f args l

/-- What a table of answers says. -/
def PuresOK (P : Program) (l : List Pure) : Prop :=
  ∀ p ∈ l, ∀ (vs : List Value) (w : World), RVs Rho.nil p.args vs → Calls P p.f ⟨vs⟩ w fun e w' => ∃ u, e = .returned u ∧ RV Rho.nil p.v u ∧ Below w.heap.size w w'

theorem findPure_sound {f : FuncId} {args : List AV} {v : AV} : ∀ {l : List Pure}, findPure f args l = some v → ∃ p ∈ l, p.f = f ∧ p.args = args ∧ p.v = v
  | [], h => by simp [findPure] at h
  | p :: l, h => by
    unfold findPure at h
    split at h
    · rename_i hc
      simp only [Bool.and_eq_true] at hc
      simp only [Option.some.injEq] at h
      exact ⟨p, List.mem_cons_self, Nat.eq_of_beq_eq_true hc.1, sameL_eq _ _ hc.2, h⟩
    · obtain ⟨q, h1, h2⟩ := findPure_sound h
      exact ⟨q, List.mem_cons_of_mem _ h1, h2⟩

theorem flat_less {ρ : Rho} {x : AV} {v : Value} (hf : flat x = true) (h : RV ρ x v) : RV Rho.nil x v := by
  cases x <;> simp only [flat, Bool.false_eq_true] at hf <;> simpa [RV] using h

theorem flat_lessL {ρ : Rho} : ∀ {x : List AV} {v : List Value}, x.all flat = true → RVs ρ x v → RVs Rho.nil x v
  | [], v, _, h => by simpa [RVs] using h
  | x :: l, v, hf, h => by
    simp only [List.all_cons, Bool.and_eq_true] at hf
    simp only [RVs] at h ⊢
    obtain ⟨u, r, rfl, h1, h2⟩ := h
    exact ⟨u, r, rfl, flat_less hf.1 h1, flat_lessL hf.2 h2⟩

theorem nil_sub (ρ : Rho) : Sub0 Rho.nil ρ := ⟨fun b p h => by simp [Rho.nil] at h, fun b X h => by simp [Rho.nil] at h⟩

/-- The tables of a program. -/
structure Tables where
  P : Program
  nf : Nat
  nt : Nat
  ents : Ents
  ebyte : TypeId
  pures : List Pure
  /-- which functions are looked up in 'pures' -/
  isPure : FuncId → Bool

noncomputable def Tables.fnT (T : Tables) : Tr Func := Tr.ofList T.P.funcs.toList
noncomputable def Tables.tyT (T : Tables) : Tr (Option TI) := Tr.ofList ((List.range T.nt).map (TI.of T.P))

noncomputable def Tables.env (T : Tables) : Env where
  fn := fun i => T.fnT.get i
  ty := fun i => match T.tyT.get i with | some x => x | none => none
  lies := fun e k o u => Go.liesAt T.P T.P.depth e k o u 1
  ext := entsSem T.ents T.ebyte
  prim := fun f args h => match T.isPure f with
    | false => none
    | true => match args.all flat with
      | false => none
      | true => match findPure f args T.pures with
        | some v => some (some (v, h))
        | none => none

theorem Tables.ok (T : Tables) (hm : T.P.follows .mixedOrders = true) (hname : (T.P.funcs.toList.all fun g => !(g.name == "runtime.NumGoroutine")) = true) (he : EntsOK T.P T.ents T.ebyte) (hp : PuresOK T.P T.pures) : EnvOK T.P T.env := {
  fn := fun f g h => by
    have h : T.P.funcs[f]? = some g := by
      have := h
      simp only [Tables.env, Tables.fnT, Tr.get_ofList] at this
      rwa [Array.getElem?_toList] at this
    refine ⟨h, ?_⟩
    have hmem : g ∈ T.P.funcs.toList := by
      rw [← Array.getElem?_toList] at h
      exact List.mem_of_getElem? h
    have := List.all_eq_true.1 hname g hmem
    simpa using this
  ty := fun t ti h => by
    simp only [Tables.env, Tables.tyT, Tr.get_ofList, List.getElem?_map] at h
    by_cases ht : t < T.nt
    · rw [List.getElem?_range ht] at h
      simpa using h
    · rw [List.getElem?_eq_none (by simpa using ht)] at h
      simp at h
  lies := fun e k o u h => h
  mixed := hm
  ext := fun f g args h v h' _ _ hx B w0 ρ w vs s ha => ents_sound he hx s ha
  prim := fun f args h v h' hx B w0 ρ w vs s ha => by
    simp only [Tables.env] at hx
    split at hx
    · simp at hx
    · split at hx
      · simp at hx
      · rename_i hfl
        split at hx
        · rename_i v' hfp
          simp only [Option.some.injEq, Prod.mk.injEq] at hx
          obtain ⟨rfl, rfl⟩ := hx
          obtain ⟨p, hpm, rfl, rfl, rfl⟩ := findPure_sound hfp
          refine Calls.mono (hp p hpm vs w (flat_lessL hfl ha)) ?_
          rintro e w' ⟨u, rfl, h1, h2⟩
          exact ⟨u, ρ, rfl, Sub.refl _, RV.mono0 (nil_sub ρ) _ _ h1, s.beyond h2⟩
        · simp at hx }

/-- The empty memory. -/
def h0 : AH := { next := 0, m := .e }

theorem St.start (w : World) : St w.heap.size w Rho.nil h0 w :=
  ⟨rfl, Below.refl _ _, Nat.le_refl _, fun n p h => by simp [Rho.nil] at h, fun n o h => by simp [h0, Tr.get_e] at h, fun n m p q h => by simp [h0, Tr.get_e] at h, Nat.zero_le _, fun b X h => by simp [Rho.nil] at h⟩

/-- the empty memory, over blocks that are only read -/
theorem St.startR (w : World) (R : Nat → Option Obj) (hR : ∀ b X, R b = some X → w.heap[b]? = some X) : St w.heap.size w ⟨[], R, w.heap.size⟩ h0 w :=
  ⟨rfl, Below.refl _ _, Nat.le_refl _, fun n p h => by simp at h, fun n o h => by simp [h0, Tr.get_e] at h, fun n m p q h => by simp [h0, Tr.get_e] at h, Nat.le_refl _,
   fun b X h => ⟨hR b X h, fun n p hn => by simp [h0, Tr.get_e] at hn⟩⟩

/-- do all outcomes say this? -/
def saysAll (v : AV) : List Out → Bool
  | [] => true
  | .call u _ :: l => same v u && saysAll v l
  | _ => false

theorem saysAll_mem {v : AV} : ∀ {l : List Out}, saysAll v l = true → ∀ o ∈ l, ∃ h, o = .call v h
  | [], _, o, ho => by simp at ho
  | x :: l, h, o, ho => by
    cases x with
    | call u h' =>
      simp only [saysAll, Bool.and_eq_true] at h
      have := same_eq _ _ h.1
      subst this
      rcases List.mem_cons.1 ho with rfl | ho
      · exact ⟨h', rfl⟩
      · exact saysAll_mem h.2 o ho
    | code x t h' => simp [saysAll] at h
    | bad l => simp [saysAll] at h

/-- A CLOSED CALL's ANSWER, by the evaluator. -/
theorem closed {T : Tables} (hE : EnvOK T.P T.env) {n : Nat} {f : FuncId} {args : List AV} {v : AV} (ha : args.all flat = true) (hv : flatR v = true)
    (h : saysAll v (ev T.env n (.call f args h0)) = true) (vs : List Value) (w : World) (hvs : RVs Rho.nil args vs) :
    Calls T.P f ⟨vs⟩ w fun e w' => ∃ u, e = .returned u ∧ RV Rho.nil v u ∧ Below w.heap.size w w' := by
  refine Calls.mono (ev_sound (n := n) (R := fun u w' => RV Rho.nil v u ∧ Below w.heap.size w w') hE (St.start w) hvs ?_) ?_
  · intro o ho
    obtain ⟨h', rfl⟩ := saysAll_mem h o ho
    intro ρ' u w' _ st hu
    refine ⟨?_, st.below⟩
    cases v with
    | tup l =>
      simp only [flatR] at hv
      simp only [RV] at hu ⊢
      obtain ⟨A, rfl, hA⟩ := hu
      exact ⟨A, rfl, flat_lessL hv hA⟩
    | _ => exact flat_less (by simpa [flatR] using hv) hu
  · rintro e w' ⟨u, rfl, h1, h2⟩
    exact ⟨u, rfl, h1, h2⟩

end Go.Ev
/- An evaluator of closed calls over abstract memory: slices.Sorted of strings. -/
namespace Go.Ev
open Go.RowKit
set_option autoImplicit false
set_option linter.unusedSimpArgs false
set_option linter.unusedVariables false

def insN (x : List Nat) : List (List Nat) → List (List Nat)
  | [] => [x]
  | y :: l => match lessN x y with
    | true => x :: y :: l
    | false => y :: insN x l

def sortN : List (List Nat) → List (List Nat)
  | [] => []
  | x :: l => insN x (sortN l)

def strsOf : List AV → Option (List (List Nat))
  | [] => some []
  | .str s :: l => match strsOf l with
    | some r => some (s :: r)
    | none => none
  | _ => none

def freshN (n : Nat) : List Nat → Bool
  | [] => true
  | m :: l => !Nat.beq n m && freshN n l
def nodupN : List Nat → Bool
  | [] => true
  | n :: l => freshN n l && nodupN l
def freshS (s : List Nat) : List AV → Bool
  | [] => true
  | .str t :: l => !eqN s t && freshS s l
  | _ => false
def nodupS : List AV → Bool
  | [] => true
  | .str s :: l => Nat.blt s.length 1000000 && freshS s l && nodupS l
  | _ => false
/-- the stamps and the keys of a map are apart -/
def okKeys (es : List (AV × AV × Nat)) (c : Nat) : Bool :=
  es.all (fun e => Nat.blt e.2.2 c) && nodupN (es.map (·.2.2)) && nodupS (es.map (·.1)) && Nat.blt es.length 1000000

/-- the strings that an iterator gives: of 'slices.Values' (fV), of 'maps.Keys' (fK) -/
noncomputable def seqStrs (fV fK : FuncId) (h : AH) (x : AV) : Option (List (List Nat)) :=
  match x with
  | .fn f [] [.ptr b 0] =>
    if Nat.beq f fV then match loadN h b 0 1 with
      | some [.nsl] => some []
      | some [.sl c o _ n _] => match loadN h c o n with
        | some l => if Nat.blt n 1000000 = true then strsOf l else none
        | none => none
      | _ => none
    else if Nat.beq f fK then match loadN h b 0 1 with
      | some [.map r] => match h.m.get r with
        | some (.map es c) => if okKeys es c = true then strsOf (es.map (·.1)) else none
        | _ => none
      | _ => none
    else none
  | _ => none

noncomputable def sortedSem (fV fK : FuncId) (e : TypeId) (args : List AV) (h : AH) : Option (AV × AH) :=
  match args with
  | [x] => match seqStrs fV fK h x with
    | some [] => some (.nsl, h)
    | some l => some (.sl h.next 0 0 l.length none, new h (.cells ((sortN l).map .str) e 0 0 (some 1)))
    | none => none
  | _ => none

/-- the numbers of slices.Sorted and of the iterators' bodies -/
structure SortNums where
  f : FuncId
  fV : FuncId
  fK : FuncId
  e : TypeId

/-- the tables, with slices.Sorted by its contract -/
noncomputable def Tables.envS (T : Tables) (N : SortNums) : Env :=
  { T.env with prim := fun f args h => match Nat.beq f N.f with
    | true => some (sortedSem N.fV N.fK N.e args h)
    | false => T.env.prim f args h }
end Go.Ev
