/- Walks over abstract memory: whole functions, loops. Conditions: a table of the program (EnvOK). -/
import Derived.Test.YtkoijkcjnppamaaGreatDoorWa
/- Walks over abstract memory: whole functions; calls that disturb nothing; blocks that are only read from now on. -/
namespace Go.Ev
open Go.RowKit
set_option autoImplicit false
set_option linter.unusedSimpArgs false
set_option linter.unusedVariables false
noncomputable section

section
variable (P : Program) (B : Nat) (w0 : World)

/-- a value may be seen as another one -/
def CV (v : AV) (h : AH) (v' : AV) (h' : AH) : Prop := ∀ ρ w u, St B w0 ρ h w → RV ρ v u → ∃ ρ', Sub ρ ρ' ∧ St B w0 ρ' h' w ∧ RV ρ' v' u

/-- a state may be seen as another one -/
def SC (tm : T) (h : AH) (tm' : T) (h' : AH) : Prop := ∀ ρ a w, St B w0 ρ h w → RT ρ tm a → ∃ ρ', Sub ρ ρ' ∧ St B w0 ρ' h' w ∧ RT ρ' tm' a

def resQ (fn : Func) (R : AV → AH → Prop) (tm : T) (h : AH) : Prop :=
  ∃ v h', (∀ ρ a w, St B w0 ρ h w → RT ρ tm a → ∃ ρ' u, Sub ρ ρ' ∧ St B w0 ρ' h' w ∧ RV ρ' v u ∧ (Go.results fn a.tmps).run P w = .ok u w) ∧ R v h'

def retQ (fn : Func) (R : AV → AH → Prop) : Post := fun x tm h => match x with
  | .exit _ => False
  | .normal => resQ P B w0 fn R tm h
  | .ret => resQ P B w0 fn R tm h
end

def T.init (n : Nat) (args : List AV) : T := { n := n, t := Tr.ofList args }
theorem T.get_init (n : Nat) (args : List AV) (j : Nat) : (T.init n args).get j = match args[j]? with | some v => v | none => .tup [] := by
  simp only [T.get, T.init, Tr.get_ofList]
  cases args[j]? <;> rfl
theorem T.n_init (n : Nat) (args : List AV) : (T.init n args).n = n := rfl

section
variable {P : Program} {E : Env} {B : Nat} {w0 : World}

theorem CV.refl (v : AV) (h : AH) : CV B w0 v h v h := fun ρ w u s hv => ⟨ρ, Sub.refl _, s, hv⟩
theorem CV.trans {v1 v2 v3 : AV} {h1 h2 h3 : AH} (a : CV B w0 v1 h1 v2 h2) (b : CV B w0 v2 h2 v3 h3) : CV B w0 v1 h1 v3 h3 := fun ρ w u s hv => by
  obtain ⟨ρ1, s1, st1, r1⟩ := a ρ w u s hv
  obtain ⟨ρ2, s2, st2, r2⟩ := b ρ1 w u st1 r1
  exact ⟨ρ2, s1.trans s2, st2, r2⟩

theorem retQ.mk (hE : EnvOK P E) {fn : Func} {R : AV → AH → Prop} {x : AX} (hx : ∀ i, x ≠ .exit i) {tm : T} {h : AH} {v : AV} (hr : results E fn tm h = some v) {v' : AV} {h' : AH} (hc : CV B w0 v h v' h') (hR : R v' h') : retQ P B w0 fn R x tm h := by
  have key : resQ P B w0 fn R tm h := by
    refine ⟨v', h', fun ρ a w s r => ?_, hR⟩
    obtain ⟨u, h1, h2⟩ := results_sound hE s r hr
    obtain ⟨ρ', h3, h4, h5⟩ := hc ρ w u s h2
    exact ⟨ρ', u, h3, h4, h5, h1⟩
  cases x with
  | exit i => exact absurd rfl (hx i)
  | normal => exact key
  | ret => exact key

theorem retQ.ret (hE : EnvOK P E) {fn : Func} {R : AV → AH → Prop} {tm : T} {h : AH} {v : AV} (hr : results E fn tm h = some v) (hR : R v h) : retQ P B w0 fn R .ret tm h :=
  retQ.mk hE (fun i => by simp) hr (CV.refl v h) hR

/-- A function's body. -/
theorem CallOK.body (hE : EnvOK P E) {f : FuncId} {fn : Func} {c : Code} {args : List AV} {h : AH} {R : AV → AH → Prop} (hf : E.fn f = some fn) (hc : fn.body = some c) {n : Nat} (hn : Nat.max fn.ntmps args.length = n)
    (hs : SW P B w0 c (retQ P B w0 fn R) (T.init n args) h) : CallOK P B w0 f args h R := by
  intro ρ vs w s hv
  obtain ⟨hf1, hf2⟩ := hE.fn f fn hf
  refine calls_of_wp hf1 hc (hs ρ _ w _ s ?_ ?_)
  · have hlen := hv.length
    refine ⟨?_, rfl, fun t => ?_⟩
    · simp only [Array.size_append, Array.size_replicate]
      show vs.length + (fn.ntmps - vs.length) = n
      rw [← hn]
      show _ = max fn.ntmps args.length
      omega
    · rw [T.get_init]
      cases ht : args[t]? with
      | none =>
        simp only
        have hge : vs.length ≤ t := by rw [← hlen]; exact List.getElem?_eq_none_iff.1 ht
        have : ((⟨vs⟩ : Array Value) ++ Array.replicate (fn.ntmps - vs.length) undef).getD t undef = undef := by
          simp only [Array.getD_eq_getD_getElem?, Array.getElem?_append]
          rw [if_neg (by simp; omega), Array.getElem?_replicate]
          split <;> rfl
        rw [show (⟨vs⟩ : Array Value).size = vs.length from rfl, this]
        simp only [RV, undef]; exact ⟨[], rfl, by simp [RVs]⟩
      | some x =>
        simp only
        obtain ⟨u, h1, h2⟩ := hv.get ht
        have hlt := (List.getElem?_eq_some_iff.1 h1).1
        have : ((⟨vs⟩ : Array Value) ++ Array.replicate (fn.ntmps - vs.length) undef).getD t undef = u := by
          simp only [Array.getD_eq_getD_getElem?, Array.getElem?_append]
          rw [if_pos (by simpa using hlt)]
          simp [h1]
        rw [show (⟨vs⟩ : Array Value).size = vs.length from rfl, this]
        exact h2
  · intro x tm' h' ρ' a' w' hq hsub st r
    have key : resQ P B w0 fn R tm' h' →
        a'.defers = [] ∧ ∃ v, (Go.results fn a'.tmps).run P w' = .ok v w' ∧ (∃ u v2 h2 ρ2, Ending.returned v = .returned u ∧ Sub ρ ρ2 ∧ St B w0 ρ2 h2 w' ∧ RV ρ2 v2 u ∧ R v2 h2) := by
      rintro ⟨v, h2, hv, hR⟩
      obtain ⟨ρ2, u, g1, g2, g3, g4⟩ := hv ρ' a' w' st r
      exact ⟨r.df, u, g4, u, v, h2, ρ2, rfl, hsub.trans g1, g2, g3, hR⟩
    cases x with
    | exit i => exact hq.elim
    | normal => exact key hq
    | ret => exact key hq

theorem SW.conv {c : Code} {Q : Post} {tm tm' : T} {h h' : AH} (hc : SC B w0 tm h tm' h') (hs : SW P B w0 c Q tm' h') : SW P B w0 c Q tm h := by
  intro ρ a w K s r hK
  obtain ⟨ρ', h1, h2, h3⟩ := hc ρ a w s r
  exact hs ρ' a w K h2 h3 fun x tm2 h2' ρ2 a2 w2 g1 g2 g3 g4 => hK x tm2 h2' ρ2 a2 w2 g1 (h1.trans g2) g3 g4

/-! values that hang on no block of the call's own -/
mutual
def roV : AV → Bool
  | .bool _ | .int _ _ | .str _ | .nil | .nsl | .nmap | .nfn | .nifc => true
  | .xsl _ l | .xp l | .agg l | .tup l => roVs l
  | .fn _ a b => roVs a && roVs b
  | .ifc _ v => roV v
  | _ => false
def roVs : List AV → Bool
  | [] => true
  | x :: l => roV x && roVs l
end

mutual
theorem ro_mono {ρ ρ' : Rho} (hR : ∀ b X, ρ.R b = some X → ρ'.R b = some X) : ∀ (x : AV) (v : Value), roV x = true → RV ρ x v → RV ρ' x v := by
  intro x v hx h
  cases x <;> simp only [roV, Bool.false_eq_true, Bool.and_eq_true] at hx <;> simp only [RV] at h ⊢ <;> try exact h
  · obtain ⟨A, C, h1, h2, h3⟩ := h; exact ⟨A, C, h1, ros_mono hR _ _ hx.1 h2, ros_mono hR _ _ hx.2 h3⟩
  · obtain ⟨u, h1, h2⟩ := h; exact ⟨u, h1, ro_mono hR _ _ hx h2⟩
  · obtain ⟨A, h1, h2⟩ := h; exact ⟨A, h1, ros_mono hR _ _ hx h2⟩
  · obtain ⟨A, h1, h2⟩ := h; exact ⟨A, h1, ros_mono hR _ _ hx h2⟩
  · obtain ⟨A, C, h1, h2, h3, h4⟩ := h
    refine ⟨A, C, h1, h2, h3, ?_⟩
    rcases h4 with h4 | ⟨b, o, X, t, fr, a1, a2, a3⟩
    · exact .inl h4
    · exact .inr ⟨b, o, X, t, fr, a1, hR _ _ a2, ros_mono hR _ _ hx a3⟩
  · obtain ⟨b, o, X, t, fr, a1, a2, a3⟩ := h
    exact ⟨b, o, X, t, fr, a1, hR _ _ a2, ros_mono hR _ _ hx a3⟩
theorem ros_mono {ρ ρ' : Rho} (hR : ∀ b X, ρ.R b = some X → ρ'.R b = some X) : ∀ (x : List AV) (v : List Value), roVs x = true → RVs ρ x v → RVs ρ' x v
  | [], _, _, h => h
  | x :: a, l, hx, h => by
    simp only [RVs] at h ⊢
    simp only [roVs, Bool.and_eq_true] at hx
    obtain ⟨v, r, h1, h2, h3⟩ := h
    exact ⟨v, r, h1, ro_mono hR _ _ hx.1 h2, ros_mono hR _ _ hx.2 h3⟩
end

/-- A CALL THAT DISTURBS NOTHING, out of a walk over the empty memory. -/
theorem CallOK.pure {f : FuncId} {args : List AV} {R : AV → Prop} (ha : roVs args = true) (H : ∀ B w0, CallOK P B w0 f args h0 (fun v _ => roV v = true ∧ R v)) (h : AH) : CallOK P B w0 f args h (fun v h' => R v ∧ h' = h) := by
  intro ρ vs w s hv
  have hR : ∀ b X, ρ.R b = some X → w.heap[b]? = some X := fun b X hb => (s.ro b X hb).1
  have hv' : RVs ⟨[], ρ.R, w.heap.size⟩ args vs := ros_mono (ρ := ρ) (ρ' := ⟨[], ρ.R, w.heap.size⟩) (fun b X hb => hb) _ _ ha hv
  refine Calls.mono (H w.heap.size w ⟨[], ρ.R, w.heap.size⟩ vs w (St.startR w ρ.R hR) hv') ?_
  rintro e w' ⟨u, v, h', ρ1, rfl, hsub, st, hu, hro, hRv⟩
  have hz : ρ.z ≤ w.heap.size := Nat.le_trans s.z s.sz
  let ρ' : Rho := ⟨ρ.l, fun b => match ρ.R b with | some X => some X | none => if w.heap.size ≤ b then ρ1.R b else none, ρ.z⟩
  have h1 : ∀ b X, ρ.R b = some X → ρ'.R b = some X := fun b X hb => by show (match ρ.R b with | some X => some X | none => if w.heap.size ≤ b then ρ1.R b else none) = some X; rw [hb]
  have h2 : ∀ b X, ρ'.R b = some X → ρ.R b = some X ∨ (w.heap.size ≤ b ∧ ρ1.R b = some X) := by
    intro b X hb
    have hb : (match ρ.R b with | some X => some X | none => if w.heap.size ≤ b then ρ1.R b else none) = some X := hb
    split at hb
    · rename_i Y hY; rw [hY]; exact .inl hb
    · split at hb
      · rename_i hle; exact .inr ⟨hle, hb⟩
      · simp at hb
  have h3 : ∀ b X, ρ1.R b = some X → ρ'.R b = some X := by
    intro b X hb
    rcases hsub.N b X hb with h | h
    · exact h1 b X h
    · show (match ρ.R b with | some X => some X | none => if w.heap.size ≤ b then ρ1.R b else none) = some X
      cases hr : ρ.R b with
      | none => simp only; rw [if_pos h]; exact hb
      | some Y =>
        simp only
        have a1 := s.ro_lt hr
        have : w.heap.size ≤ b := h
        omega
  have hs' := s.beyond st.below
  have hs : Sub ρ ρ' := ⟨⟨fun _ _ h => h, h1⟩, rfl, fun b X hb => by
    rcases h2 b X hb with h | ⟨h, _⟩
    · exact .inl h
    · exact .inr (Nat.le_trans hz h)⟩
  refine ⟨u, v, h, ρ', rfl, hs, ?_, ro_mono h3 _ _ hro hu, hRv, rfl⟩
  refine ⟨hs'.len, hs'.below, hs'.sz, hs'.lt, fun n o ho => ?_, hs'.inj, hs'.z, fun b X hb => ?_⟩
  · obtain ⟨p, g1, g2, g3⟩ := hs'.obj n o ho
    exact ⟨p, g1, g2.mono hs, g3⟩
  · rcases h2 b X hb with g | ⟨g1, g2⟩
    · exact hs'.ro b X g
    · refine ⟨(st.ro b X g2).1, fun n p hn hp => ?_⟩
      have := s.lt n p hp
      omega

/-- .. whose answer is one. -/
theorem Fd.pure {f : FuncId} {args : List AV} {v : AV} (ha : roVs args = true) (hv : roV v = true) (H : ∀ B w0, CallOK P B w0 f args h0 (fun v' _ => v' = v)) (h : AH) : Fd P B w0 f args h v h :=
  CallOK.mono (CallOK.pure (R := fun v' => v' = v) ha (fun B w0 => CallOK.mono (H B w0) (by rintro v' h' rfl; exact ⟨hv, rfl⟩)) h) fun v' h' hh => hh

theorem CV.freeze {b o e n : Nat} {c : Option Nat} {l : List AV} {t : TypeId} {lo hi : Nat} {op : Option Nat} {h : AH} (hb : h.m.get b = some (.cells l t lo hi op)) (k : Nat) : CV B w0 (.sl b o e n c) h (.xsl n ((l.drop o).take k)) (h.set b none) := by
  intro ρ w u s hv
  have hv' := hv
  simp only [RV] at hv'
  obtain ⟨p, C, hp, _⟩ := hv'
  obtain ⟨h1, h2⟩ := s.freeze hb hp
  exact ⟨_, h1, h2, RV.frozen s hb hp k hv⟩

theorem SC.refl (tm : T) (h : AH) : SC B w0 tm h tm h := fun ρ a w s r => ⟨ρ, Sub.refl _, s, r⟩
theorem SC.trans {t1 t2 t3 : T} {h1 h2 h3 : AH} (a : SC B w0 t1 h1 t2 h2) (b : SC B w0 t2 h2 t3 h3) : SC B w0 t1 h1 t3 h3 := fun ρ ac w s r => by
  obtain ⟨ρ1, s1, st1, r1⟩ := a ρ ac w s r
  obtain ⟨ρ2, s2, st2, r2⟩ := b ρ1 ac w st1 r1
  exact ⟨ρ2, s1.trans s2, st2, r2⟩

theorem RT.re {ρ ρ' : Rho} {tm : T} {a : Act} (r : RT ρ tm a) (hs : Sub ρ ρ') {j : Nat} {v : AV} (hj : ∀ u, RV ρ (tm.get j) u → RV ρ' v u) : RT ρ' (tm.put j v) a := by
  refine ⟨r.sz, r.df, fun t => ?_⟩
  rw [T.get_put]
  split
  · rename_i e; subst e; exact hj _ (r.get t)
  · exact (r.get t).mono hs

/-- a slot's slice is only read from now on -/
theorem SC.freeze {tm : T} {h : AH} {j b o e n : Nat} {c : Option Nat} {l : List AV} {t : TypeId} {lo hi : Nat} {op : Option Nat} (hj : tm.get j = .sl b o e n c) (hb : h.m.get b = some (.cells l t lo hi op)) (k : Nat) : SC B w0 tm h (tm.put j (.xsl n ((l.drop o).take k))) (h.set b none) := by
  intro ρ a w s r
  have hv := r.get j
  rw [hj] at hv
  have hv' := hv
  simp only [RV] at hv'
  obtain ⟨p, C, hp, _⟩ := hv'
  obtain ⟨h1, h2⟩ := s.freeze hb hp
  refine ⟨_, h1, h2, r.re h1 fun u hu => ?_⟩
  rw [hj] at hu
  exact RV.frozen s hb hp k hu
theorem SC.drop (tm : T) (h : AH) (b : Nat) : SC B w0 tm h tm (h.set b none) := fun ρ a w s r => ⟨ρ, Sub.refl _, s.drop b, r⟩
theorem SC.heap {tm : T} {h h' : AH} (hn : h.next = h'.next) (hg : ∀ n, h.m.get n = h'.m.get n) : SC B w0 tm h tm h' := fun ρ a w s r => ⟨ρ, Sub.refl _, s.congr hn hg, r⟩

/-! a call that only reads what the caller has: seen as values that are only read -/
def VW (B : Nat) (w0 : World) (h : AH) (x x' : AV) : Prop := ∀ ρ w u, St B w0 ρ h w → RV ρ x u → RV ⟨[], fun b => w.heap[b]?, w.heap.size⟩ x' u
def VWs (B : Nat) (w0 : World) (h : AH) (x x' : List AV) : Prop := ∀ ρ w u, St B w0 ρ h w → RVs ρ x u → RVs ⟨[], fun b => w.heap[b]?, w.heap.size⟩ x' u

theorem VW.ro {h : AH} {x : AV} (hx : roV x = true) : VW B w0 h x x := fun ρ w u s hv => ro_mono (fun b X hb => (s.ro b X hb).1) _ _ hx hv
theorem VWs.ro {h : AH} {x : List AV} (hx : roVs x = true) : VWs B w0 h x x := fun ρ w u s hv => ros_mono (fun b X hb => (s.ro b X hb).1) _ _ hx hv
theorem VWs.nil {h : AH} : VWs B w0 h [] [] := fun ρ w u s hv => by simpa [RVs] using hv
theorem VWs.cons {h : AH} {x x' : AV} {l l' : List AV} (h1 : VW B w0 h x x') (h2 : VWs B w0 h l l') : VWs B w0 h (x :: l) (x' :: l') := fun ρ w u s hv => by
  simp only [RVs] at hv ⊢
  obtain ⟨v, r, rfl, a1, a2⟩ := hv
  exact ⟨v, r, rfl, h1 ρ w v s a1, h2 ρ w r s a2⟩
theorem VW.agg {h : AH} {l l' : List AV} (h2 : VWs B w0 h l l') : VW B w0 h (.agg l) (.agg l') := fun ρ w u s hv => by
  simp only [RV] at hv ⊢
  obtain ⟨A, rfl, a1⟩ := hv
  exact ⟨A, rfl, h2 ρ w A s a1⟩
theorem VW.fn {h : AH} {f : FuncId} {a a' b b' : List AV} (h1 : VWs B w0 h a a') (h2 : VWs B w0 h b b') : VW B w0 h (.fn f a b) (.fn f a' b') := fun ρ w u s hv => by
  simp only [RV] at hv ⊢
  obtain ⟨A, C, rfl, a1, a2⟩ := hv
  exact ⟨A, C, rfl, h1 ρ w A s a1, h2 ρ w C s a2⟩

theorem RVs.blockV {ρ : Rho} {h : AH} {w : World} (s : St B w0 ρ h w) {l l' : List AV} {C : Array Value} (hc : ∀ (j : Nat) v, l[j]? = some v → ∃ u, C[j]? = some u ∧ RV ρ v u) (o k : Nat) (hv : VWs B w0 h ((l.drop o).take k) l') :
    RVs ⟨[], fun b => w.heap[b]?, w.heap.size⟩ l' ((C.toList.drop o).take l'.length) := by
  have h1 := RVs.block hc o k
  have h2 := hv ρ w _ s h1
  have h3 := h2.length
  have h4 := h1.length
  rw [h3, ← h4]
  exact h2

theorem VW.sl {h : AH} {b o e n : Nat} {c : Option Nat} {l l' : List AV} {t : TypeId} {lo hi : Nat} {op : Option Nat} (hb : h.m.get b = some (.cells l t lo hi op)) (k : Nat) (hv : VWs B w0 h ((l.drop o).take k) l') : VW B w0 h (.sl b o e n c) (.xsl n l') := by
  intro ρ w u s hu
  simp only [RV] at hu ⊢
  obtain ⟨p, C, hp, rfl, g2, _⟩ := hu
  obtain ⟨q, k1, ⟨D, fr, hX, hcs, _, _⟩, _⟩ := s.obj b _ hb
  rw [hp] at k1; simp only [Option.some.injEq] at k1; subst k1
  exact ⟨_, C, rfl, g2, fun h => by simp at h, .inr ⟨p.1, o, D, t, fr, rfl, hX, RVs.blockV s hcs o k hv⟩⟩
theorem VW.ptr {h : AH} {b o : Nat} {l l' : List AV} {t : TypeId} {lo hi : Nat} {op : Option Nat} (hb : h.m.get b = some (.cells l t lo hi op)) (k : Nat) (hv : VWs B w0 h ((l.drop o).take k) l') : VW B w0 h (.ptr b o) (.xp l') := by
  intro ρ w u s hu
  simp only [RV] at hu ⊢
  obtain ⟨p, hp, rfl⟩ := hu
  obtain ⟨q, k1, ⟨D, fr, hX, hcs, _, _⟩, _⟩ := s.obj b _ hb
  rw [hp] at k1; simp only [Option.some.injEq] at k1; subst k1
  exact ⟨p.1, o, D, t, fr, rfl, hX, RVs.blockV s hcs o k hv⟩

/-- A CALL THAT DISTURBS NOTHING and only reads; its answer hangs on no memory. -/
theorem CallOK.view {f : FuncId} {args args' : List AV} {R : AV → Prop} {h : AH} (ha : VWs B w0 h args args') (H : ∀ B w0, CallOK P B w0 f args' h0 (fun v _ => flatR v = true ∧ R v)) : CallOK P B w0 f args h (fun v h' => R v ∧ h' = h) := by
  intro ρ vs w s hv
  have hv' := ha ρ w vs s hv
  refine Calls.mono (H w.heap.size w ⟨[], fun b => w.heap[b]?, w.heap.size⟩ vs w (St.startR w _ fun b X hb => hb) hv') ?_
  rintro e w' ⟨u, v, h', ρ1, rfl, hsub, st, hu, hro, hRv⟩
  refine ⟨u, v, h, ρ, rfl, Sub.refl _, s.beyond st.below, ?_, hRv, rfl⟩
  cases v with
  | tup l =>
    simp only [flatR] at hro
    simp only [RV] at hu ⊢
    obtain ⟨A, rfl, hA⟩ := hu
    exact ⟨A, rfl, RVs.mono0 (nil_sub ρ) _ _ (flat_lessL hro hA)⟩
  | _ => exact RV.mono0 (nil_sub ρ) _ _ (flat_less hro hu)
theorem Fd.view {f : FuncId} {args args' : List AV} {v : AV} {h : AH} (ha : VWs B w0 h args args') (hv : flatR v = true) (H : ∀ B w0, CallOK P B w0 f args' h0 (fun v' _ => v' = v)) : Fd P B w0 f args h v h :=
  CallOK.mono (CallOK.view (R := fun v' => v' = v) ha (fun B w0 => CallOK.mono (H B w0) (by rintro v' h' rfl; exact ⟨hv, rfl⟩))) fun v' h' hh => hh
end
end
end Go.Ev
/- Walks over abstract memory, step by step: what is rewritten. -/
namespace Go.Ev
open Go.RowKit
set_option autoImplicit false
set_option linter.unusedSimpArgs false
set_option linter.unusedVariables false
noncomputable section

section
variable (P : Program) (E : Env) (B : Nat) (w0 : World)

/-- two ways -/
def Br (b : Bool) (X Y : T → AH → Prop) (tm : T) (h : AH) : Prop := (b = true → X tm h) ∧ (b = false → Y tm h)
def condV (v : Option AV) (X Y : T → AH → Prop) (tm : T) (h : AH) : Prop := match v with
  | some (.bool b) => Br b X Y tm h
  | _ => False

/-- a call within a region whose order is open -/
def DrC (f : FuncId) (args : List AV) (h : AH) (d : Option Tmp) (G : List RecS → T → AH → Prop) (rs : List RecS) (tm : T) : Prop :=
  ∃ v h', Fd P B w0 f args h v h' ∧ putW (G (rs ++ [{ tm, v, hb := h, ha := h' }])) d tm v h'
def trW (k : Nat) (d : Option Tmp) (G : List RecS → T → AH → Prop) (rs : List RecS) (tm : T) (h : AH) : Option Nx → Prop
  | some (.vals [(v, h')]) => (k ≠ 0 → h' = h) ∧ putW (G (rs ++ [{ tm, v, hb := h, ha := h' }])) d tm v h'
  | some (.enter f args) => k = 0 ∧ DrC P B w0 f args h d G rs tm
  | _ => False
def agW (v : AV) (h : AH) : Option Nx → Prop
  | some (.vals [(v', h')]) => v' = v ∧ h' = h
  | _ => False
def againF (ops : List Oper) (rs : List RecS) (p : Nat × Nat) : Prop :=
  match ops[p.1]?, rs[p.1]?, rs[p.2]? with
  | some o, some r, some re =>
    if want r.tm ops o = true then agW r.v (if Nat.blt p.2 p.1 then re.hb else re.ha) (opSem o.op E r.tm (if Nat.blt p.2 p.1 then re.hb else re.ha)) else r.v = .tup []
  | _, _, _ => False
def allF (Q : Nat × Nat → Prop) : List (Nat × Nat) → Prop
  | [] => True
  | p :: l => Q p ∧ allF Q l
def Wdr (N : List Nat) (all : List Oper) (ps : List (Nat × Nat)) (F : T → AH → Prop) : List Oper → List RecS → T → AH → Prop
  | [], rs => fun tm h => allF (againF E all rs) ps ∧ F tm h
  | o :: l, rs => fun tm h => if want tm all o = true then trW P B w0 (kindQ N rs.length o.op) o.dst (Wdr N all ps F l) rs tm h (opSem o.op E tm h)
      else putW (Wdr N all ps F l (rs ++ [{ tm, v := .tup [], hb := h, ha := h }])) o.dst tm (.tup []) h

def Wdraw (ops : Array Oper) (F : T → AH → Prop) (tm : T) (h : AH) : Prop :=
  ∃ N, regOKq N ops (masks ops.toList) = true ∧ Wdr P E B w0 N ops.toList (pairsOfq N ops (masks ops.toList)) F ops.toList [] tm h

/-- code as far as the next loop -/
def W1 : Code → Post → T → AH → Prop
  | .skip, Q => Q .normal
  | .exit i, Q => Q (.exit i)
  | .ret, Q => Q .ret
  | .seq a b, Q => W1 a (seqQ (W1 b Q) Q)
  | .cond c a b, Q => fun tm h => condV (opnd tm c) (W1 a Q) (W1 b Q) tm h
  | .block id b, Q => W1 b (blockQ id Q)
  | .region _ ops false, Q => Wops P E B w0 ops.toList (Q .normal) ops.toList
  | .region _ ops true, Q => Wdraw P E B w0 ops (Q .normal)
  | .loop b, Q => SW P B w0 (.loop b) Q
  | _, _ => fun _ _ => False
end

section
variable {P : Program} {E : Env} {B : Nat} {w0 : World}

theorem kindQ_one {N : List Nat} {i : Nat} {op : Op} (h : kindQ N i op = 1) : kindOf op = 1 := by
  unfold kindQ at h
  split at h
  · cases h
  · exact h

theorem Wdr_Wtr {N : List Nat} {ops : Array Oper} {F : T → AH → Prop} : ∀ (l : List Oper) (rs : List RecS) (tm : T) (h : AH),
    (∀ (i : Nat) r, rs[i]? = some r → ∃ o, ops.toList[i]? = some o ∧ evS P E B w0 (kindQ N i o.op) o ops.toList r.tm r.hb r.v r.ha) → (∃ pre, ops.toList = pre ++ l ∧ pre.length = rs.length) →
    Wdr P E B w0 N ops.toList (pairsOfq N ops (masks ops.toList)) F l rs tm h → Wtr P E B w0 N ops (masks ops.toList) F l rs tm h
  | [], rs, tm, h, hrs, _, hw => by
    refine ⟨fun p hp => ?_, hw.2⟩
    have hall : ∀ (l : List (Nat × Nat)), allF (againF E ops.toList rs) l → ∀ p ∈ l, againF E ops.toList rs p := by
      intro l
      induction l with
      | nil => intro _ p hp; simp at hp
      | cons q l ih =>
        intro h p hp
        rcases List.mem_cons.1 hp with rfl | hp
        · exact h.1
        · exact ih h.2 p hp
    have := hall _ hw.1 p hp
    have hk2 : ∀ o, ops[p.1]? = some o → kindQ N p.1 o.op = 2 := by
      intro o ho
      unfold pairsOfq at hp
      obtain ⟨i, hi, hm⟩ := List.mem_flatMap.1 hp
      have hi' := List.mem_range.1 hi
      rw [Array.getElem?_eq_getElem hi'] at hm
      simp only at hm
      split at hm
      · rename_i hk
        obtain ⟨e, he, hme⟩ := List.mem_filterMap.1 hm
        rw [Array.getElem?_eq_getElem (List.mem_range.1 he)] at hme
        simp only at hme
        split at hme
        · simp only [Option.some.injEq] at hme; subst hme
          rw [Array.getElem?_eq_getElem hi'] at ho
          simp only [Option.some.injEq] at ho; subst ho
          exact Nat.eq_of_beq_eq_true hk
        · simp at hme
      · simp at hm
    unfold againF at this
    unfold againW
    rw [Array.getElem?_toList] at this
    split at this
    · rename_i o r re h1 h2 h3
      rw [h1, h2, h3]
      simp only
      have hk := hk2 o h1
      refine ⟨fun _ => rfl, fun h => (by rw [hk] at h; cases h), ?_⟩
      split at this
      · rename_i hw'
        rw [if_pos hw']
        left
        unfold evOp
        generalize opSem o.op E r.tm (if Nat.blt p.2 p.1 = true then re.hb else re.ha) = z at this ⊢
        unfold agW at this
        split at this
        · rw [this.1, this.2]
        · exact this.elim
      · rename_i hw'
        rw [if_neg hw']
        exact ⟨this, rfl⟩
    · exact this.elim
  | o :: l, rs, tm, h, hrs, hpre, hw => by
    obtain ⟨pre, hp1, hp2⟩ := hpre
    have hat : ops.toList[rs.length]? = some o := by rw [hp1, ← hp2]; simp
    have next : ∀ v h', evS P E B w0 (kindQ N rs.length o.op) o ops.toList tm h v h' → (∀ (i : Nat) r, (rs ++ [({ tm, v, hb := h, ha := h' } : RecS)])[i]? = some r → ∃ o, ops.toList[i]? = some o ∧ evS P E B w0 (kindQ N i o.op) o ops.toList r.tm r.hb r.v r.ha) := by
      intro v h' hev i r hi
      rcases Nat.lt_or_ge i rs.length with hlt | hge
      · rw [List.getElem?_append_left hlt] at hi; exact hrs i r hi
      · rw [List.getElem?_append_right hge] at hi
        have : i = rs.length := by
          have := (List.getElem?_eq_some_iff.1 hi).1
          simp at this; omega
        subst this
        simp only [Nat.sub_self, List.getElem?_cons_zero, Option.some.injEq] at hi; subst hi
        exact ⟨o, hat, by simpa using hev⟩
    have pre' : ∃ pre, ops.toList = pre ++ l ∧ pre.length = (rs ++ [({ tm, v := AV.nil, hb := h, ha := h } : RecS)]).length := ⟨pre ++ [o], by simp [hp1], by simp [hp2]⟩
    have put : ∀ {v : AV} {h' : AH}, evS P E B w0 (kindQ N rs.length o.op) o ops.toList tm h v h' → putW (Wdr P E B w0 N ops.toList (pairsOfq N ops (masks ops.toList)) F l (rs ++ [{ tm, v, hb := h, ha := h' }])) o.dst tm v h' →
        putW (Wtr P E B w0 N ops (masks ops.toList) F l (rs ++ [{ tm, v, hb := h, ha := h' }])) o.dst tm v h' := by
      intro v h' hev hp
      have hpre2 : ∃ pre, ops.toList = pre ++ l ∧ pre.length = (rs ++ [({ tm, v, hb := h, ha := h' } : RecS)]).length := ⟨pre ++ [o], by simp [hp1], by simp [hp2]⟩
      unfold putW at hp ⊢
      split at hp
      · exact Wdr_Wtr l _ tm h' (next v h' hev) hpre2 hp
      · exact ⟨hp.1, Wdr_Wtr l _ _ h' (next v h' hev) hpre2 hp.2⟩
    unfold Wdr at hw
    by_cases hwant : want tm ops.toList o = true
    · rw [if_pos hwant] at hw
      generalize hz : opSem o.op E tm h = z at hw
      unfold trW at hw
      split at hw
      · rename_i v h'
        have hfree : kindQ N rs.length o.op = 1 → ∀ h2, want tm ops.toList o = true → evOp E tm o h2 = some (.vals [(v, h2)]) := by
          intro hk h2 _
          obtain ⟨_, ov, ho⟩ := free_form (E := E) (kindQ_one hk) tm
          have h1 := ho h
          unfold evOp at h1
          rw [hz] at h1
          cases ov with
          | none => simp [oneVal] at h1
          | some x =>
            simp only [oneVal, val, Option.some.injEq, Nx.vals.injEq, List.cons.injEq, Prod.mk.injEq, and_true] at h1
            rw [ho h2, h1.1]; rfl
        have hev : evS P E B w0 (kindQ N rs.length o.op) o ops.toList tm h v h' := by
          refine ⟨hw.1, hfree, ?_⟩
          rw [if_pos hwant]
          exact .inl hz
        exact ⟨v, h', hev, put hev hw.2⟩
      · rename_i f args
        obtain ⟨hk, v, h', hf, hp⟩ := hw
        have hev : evS P E B w0 (kindQ N rs.length o.op) o ops.toList tm h v h' := by
          refine ⟨fun h => absurd hk h, fun h => (by rw [hk] at h; cases h), ?_⟩
          rw [if_pos hwant]
          exact .inr ⟨f, args, hz, hf⟩
        exact ⟨v, h', hev, put hev hp⟩
      · exact hw.elim
    · rw [if_neg hwant] at hw
      have hev : evS P E B w0 (kindQ N rs.length o.op) o ops.toList tm h (.tup []) h := by
        refine ⟨fun _ => rfl, fun _ _ h => absurd h hwant, ?_⟩
        rw [if_neg hwant]; exact ⟨rfl, rfl⟩
      exact ⟨.tup [], h, hev, put hev hw⟩

theorem Wdraw_sound (hE : EnvOK P E) {id : Nat} {ops : Array Oper} {Q : Post} {tm : T} {h : AH} (hs : Wdraw P E B w0 ops (Q .normal) tm h) : SW P B w0 (.region id ops true) Q tm h :=
  by
  obtain ⟨N, h1, h2⟩ := hs
  exact SW.draw hE N h1 (Wdr_Wtr _ [] tm h (fun i r hi => by simp at hi) ⟨[], rfl, rfl⟩ h2)

theorem seqQ_mono {F F' : T → AH → Prop} {Q : Post} (hF : ∀ tm h, F tm h → F' tm h) : ∀ x tm h, seqQ F Q x tm h → seqQ F' Q x tm h := by
  intro x tm h hq
  cases x with
  | normal => exact hF _ _ hq
  | exit i => exact hq
  | ret => exact hq

theorem SW.of (hE : EnvOK P E) : ∀ (c : Code) (Q : Post) (tm : T) (h : AH), W1 P E B w0 c Q tm h → SW P B w0 c Q tm h
  | .skip, Q, tm, h, hw => SW.skip hw
  | .exit i, Q, tm, h, hw => SW.exit hw
  | .ret, Q, tm, h, hw => SW.ret hw
  | .seq a b, Q, tm, h, hw => SW.seq (SW.mono (SW.of hE a _ tm h hw) (seqQ_mono fun tm h => SW.of hE b Q tm h))
  | .cond c a b, Q, tm, h, hw => by
    simp only [W1] at hw
    unfold condV at hw
    split at hw
    · rename_i x hx
      exact SW.cond hx (fun e => SW.of hE a Q tm h (hw.1 e)) (fun e => SW.of hE b Q tm h (hw.2 e))
    · exact hw.elim
  | .block id b, Q, tm, h, hw => SW.block (SW.of hE b _ tm h hw)
  | .region id ops false, Q, tm, h, hw => SW.region hE hw
  | .region id ops true, Q, tm, h, hw => Wdraw_sound hE hw
  | .loop b, Q, tm, h, hw => hw

theorem CallOK.fn (hE : EnvOK P E) {f : FuncId} {fn : Func} {c : Code} {args : List AV} {h : AH} {R : AV → AH → Prop} (hf : E.fn f = some fn) (hc : fn.body = some c) (n : Nat) (hn : Nat.max fn.ntmps args.length = n)
    (hs : W1 P E B w0 c (retQ P B w0 fn R) (T.init n args) h) : CallOK P B w0 f args h R := CallOK.body hE hf hc hn (SW.of hE _ _ _ _ hs)

/-- at the head of the next round -/
def Again (I : Nat → T → AH → Prop) (n : Nat) (tm : T) (h : AH) : Prop := ∃ m, m < n ∧ I m tm h

theorem Again.mk {I : Nat → T → AH → Prop} {n : Nat} {tm : T} {h : AH} (m : Nat) (hm : m < n) (hI : I m tm h) : Again I n tm h := ⟨m, hm, hI⟩

/-- a loop, by what holds at the head of each round -/
theorem SW.loop1 (hE : EnvOK P E) {c : Code} {Q : Post} (I : Nat → T → AH → Prop) (n : Nat) {tm : T} {h : AH} (h0 : I n tm h)
    (hs : ∀ n tm h, I n tm h → W1 P E B w0 c (seqQ (Again I n) Q) tm h) : SW P B w0 (.loop c) Q tm h :=
  SW.loop I h0 fun n tm h hI => SW.of hE _ _ _ _ (hs n tm h hI)

theorem resQ.one (hE : EnvOK P E) {fn : Func} {R : AV → AH → Prop} {tm : T} {h : AH} {k : Nat} {v v' : AV} {h' : AH} (hr : fn.results.toList = [.tmp k]) (hv : tm.get k = v) (hc : CV B w0 v h v' h') (hR : R v' h') : resQ P B w0 fn R tm h :=
  retQ.mk (x := .ret) hE (fun i => by simp) (by simp only [results, hr, resultsL, results1, hv]) hc hR
theorem resQ.two (hE : EnvOK P E) {fn : Func} {R : AV → AH → Prop} {tm : T} {h : AH} {k j : Nat} {v u v' : AV} {h' : AH} (hr : fn.results.toList = [.tmp k, .tmp j]) (hv : tm.get k = v) (hu : tm.get j = u) (hc : CV B w0 (.tup [v, u]) h v' h') (hR : R v' h') : resQ P B w0 fn R tm h :=
  retQ.mk (x := .ret) hE (fun i => by simp) (by simp only [results, hr, resultsL, results1, hv, hu]) hc hR
theorem resQ.three (hE : EnvOK P E) {fn : Func} {R : AV → AH → Prop} {tm : T} {h : AH} {k j i : Nat} {v u x v' : AV} {h' : AH} (hr : fn.results.toList = [.tmp k, .tmp j, .tmp i]) (hv : tm.get k = v) (hu : tm.get j = u) (hx : tm.get i = x) (hc : CV B w0 (.tup [v, u, x]) h v' h') (hR : R v' h') : resQ P B w0 fn R tm h :=
  retQ.mk (x := .ret) hE (fun i => by simp) (by simp only [results, hr, resultsL, results1, hv, hu, hx]) hc hR
theorem resQ.cell (hE : EnvOK P E) {fn : Func} {R : AV → AH → Prop} {tm : T} {h : AH} {k : Nat} {t : TypeId} {v v' : AV} {h' : AH} (hr : fn.results.toList = [.cell k t]) (hv : loadV E t (tm.get k) h = some v) (hc : CV B w0 v h v' h') (hR : R v' h') : resQ P B w0 fn R tm h :=
  retQ.mk (x := .ret) hE (fun i => by simp) (by simp only [results, hr, resultsL, results1, hv]) hc hR
theorem CV.nsl (h : AH) : CV B w0 .nsl h (.xsl 0 []) h := fun ρ w u s hv => ⟨ρ, Sub.refl _, s, by
  simp only [RV] at hv; subst hv
  unfold RV
  exact ⟨none, 0, rfl, Nat.le_refl _, fun _ => ⟨rfl, rfl⟩, .inl rfl⟩⟩

/-! what is rewritten -/
theorem W1_skip (Q : Post) (tm : T) (h : AH) : W1 P E B w0 .skip Q tm h = Q .normal tm h := rfl
theorem W1_exit (i : Nat) (Q : Post) (tm : T) (h : AH) : W1 P E B w0 (.exit i) Q tm h = Q (.exit i) tm h := rfl
theorem W1_ret (Q : Post) (tm : T) (h : AH) : W1 P E B w0 .ret Q tm h = Q .ret tm h := rfl
theorem W1_seq (a b : Code) (Q : Post) (tm : T) (h : AH) : W1 P E B w0 (.seq a b) Q tm h = W1 P E B w0 a (seqQ (W1 P E B w0 b Q) Q) tm h := rfl
theorem W1_cond (c : Operand) (a b : Code) (Q : Post) (tm : T) (h : AH) : W1 P E B w0 (.cond c a b) Q tm h = condV (opnd tm c) (W1 P E B w0 a Q) (W1 P E B w0 b Q) tm h := rfl
theorem W1_block (id : Nat) (b : Code) (Q : Post) (tm : T) (h : AH) : W1 P E B w0 (.block id b) Q tm h = W1 P E B w0 b (blockQ id Q) tm h := rfl
theorem W1_region (id : Nat) (l : List Oper) (Q : Post) (tm : T) (h : AH) : W1 P E B w0 (.region id l.toArray false) Q tm h = Wops P E B w0 l (Q .normal) l tm h := rfl
theorem W1_draw (id : Nat) (l : List Oper) (Q : Post) (tm : T) (h : AH) : W1 P E B w0 (.region id l.toArray true) Q tm h = Wdraw P E B w0 l.toArray (Q .normal) tm h := rfl
theorem W1_loop (b : Code) (Q : Post) (tm : T) (h : AH) : W1 P E B w0 (.loop b) Q tm h = SW P B w0 (.loop b) Q tm h := rfl
theorem condV_bool (b : Bool) (X Y : T → AH → Prop) (tm : T) (h : AH) : condV (some (.bool b)) X Y tm h = Br b X Y tm h := rfl
theorem Br_true (X Y : T → AH → Prop) (tm : T) (h : AH) : Br true X Y tm h = X tm h := by simp [Br]
theorem Br_false (X Y : T → AH → Prop) (tm : T) (h : AH) : Br false X Y tm h = Y tm h := by simp [Br]
theorem Br_not (b : Bool) (X Y : T → AH → Prop) (tm : T) (h : AH) : Br (!b) X Y tm h = Br b Y X tm h := by cases b <;> simp [Br]
theorem Br.split {b : Bool} {X Y : T → AH → Prop} {tm : T} {h : AH} (h1 : b = true → X tm h) (h2 : b = false → Y tm h) : Br b X Y tm h := ⟨h1, h2⟩
theorem Br.dec {p : Prop} [Decidable p] {X Y : T → AH → Prop} {tm : T} {h : AH} (h1 : p → X tm h) (h2 : ¬ p → Y tm h) : Br (decide p) X Y tm h :=
  ⟨fun e => h1 (of_decide_eq_true e), fun e => h2 (of_decide_eq_false e)⟩
theorem Wops_nil (all : List Oper) (F : T → AH → Prop) (tm : T) (h : AH) : Wops P E B w0 all F [] tm h = F tm h := rfl
theorem Wops_cons (all : List Oper) (F : T → AH → Prop) (d : Option Tmp) (op : Op) (t : TypeId) (p : String) (a : Array Edge) (l : List Oper) (tm : T) (h : AH) :
    Wops P E B w0 all F (⟨d, op, t, p, a, none⟩ :: l) tm h = nxW P B w0 (Wops P E B w0 all F l) d tm h (opSem op E tm h) := rfl
/-- what a guard says -/
def guardX (v : AV) (w : Bool) : Bool := match v with
  | .bool b => b == w
  | _ => false
def guardV (o : Option (Option Tmp)) (w : Bool) (tm : T) : Bool := match o with
  | some (some d) => guardX (tm.get d) w
  | _ => false
theorem guardV_some (d : Nat) (w : Bool) (tm : T) : guardV (some (some d)) w tm = guardX (tm.get d) w := rfl
theorem guardX_true (b : Bool) : guardX (.bool b) true = b := by simp [guardX]
theorem guardX_false (b : Bool) : guardX (.bool b) false = !b := by simp [guardX]
theorem want_guard (all : List Oper) (d : Option Tmp) (op : Op) (t : TypeId) (p : String) (a : Array Edge) (j : Nat) (w : Bool) (tm : T) : want tm all ⟨d, op, t, p, a, some (j, w)⟩ = guardV ((all[j]?).map (·.dst)) w tm := by
  unfold want guardV
  simp only [yes_get]
  cases all[j]? with
  | none => rfl
  | some o =>
    simp only [Option.map_some]
    cases o.dst with
    | none => rfl
    | some d =>
      simp only [guardX]
      cases tm.get d <;> rfl
theorem want_none (all : List Oper) (d : Option Tmp) (op : Op) (t : TypeId) (p : String) (a : Array Edge) (tm : T) : want tm all ⟨d, op, t, p, a, none⟩ = true := rfl
/-- an operation that is wanted; one that is not -/
def opY (P : Program) (E : Env) (B : Nat) (w0 : World) (F : T → AH → Prop) (d : Option Tmp) (op : Op) (tm : T) (h : AH) : Prop := nxW P B w0 F d tm h (opSem op E tm h)
def opN (F : T → AH → Prop) (d : Option Tmp) (tm : T) (h : AH) : Prop := putW F d tm (.tup []) h
theorem opY_eq (F : T → AH → Prop) (d : Option Tmp) (op : Op) (tm : T) (h : AH) : opY P E B w0 F d op tm h = nxW P B w0 F d tm h (opSem op E tm h) := rfl
theorem opN_eq (F : T → AH → Prop) (d : Option Tmp) (tm : T) (h : AH) : opN F d tm h = putW F d tm (.tup []) h := rfl
theorem Wops_guard (all : List Oper) (F : T → AH → Prop) (d : Option Tmp) (op : Op) (t : TypeId) (p : String) (a : Array Edge) (j : Nat) (w : Bool) (l : List Oper) (tm : T) (h : AH) :
    Wops P E B w0 all F (⟨d, op, t, p, a, some (j, w)⟩ :: l) tm h = Br (guardV ((all[j]?).map (·.dst)) w tm) (opY P E B w0 (Wops P E B w0 all F l) d op) (opN (Wops P E B w0 all F l) d) tm h := by
  simp only [Wops, want_guard, Br, opY, opN]
  cases guardV ((all[j]?).map (·.dst)) w tm <;> simp <;> rfl
def trY (P : Program) (E : Env) (B : Nat) (w0 : World) (k : Nat) (d : Option Tmp) (op : Op) (G : List RecS → T → AH → Prop) (rs : List RecS) (tm : T) (h : AH) : Prop := trW P B w0 k d G rs tm h (opSem op E tm h)
def trN (d : Option Tmp) (G : List RecS → T → AH → Prop) (rs : List RecS) (tm : T) (h : AH) : Prop := putW (G (rs ++ [{ tm, v := .tup [], hb := h, ha := h }])) d tm (.tup []) h
theorem trY_eq (k : Nat) (d : Option Tmp) (op : Op) (G : List RecS → T → AH → Prop) (rs : List RecS) (tm : T) (h : AH) : trY P E B w0 k d op G rs tm h = trW P B w0 k d G rs tm h (opSem op E tm h) := rfl
theorem trN_eq (d : Option Tmp) (G : List RecS → T → AH → Prop) (rs : List RecS) (tm : T) (h : AH) : trN d G rs tm h = putW (G (rs ++ [{ tm, v := .tup [], hb := h, ha := h }])) d tm (.tup []) h := rfl
theorem Wdraw_mk {ops : Array Oper} {F : T → AH → Prop} {tm : T} {h : AH} (N : List Nat) (hr : regOKq N ops (masks ops.toList) = true) {ps : List (Nat × Nat)} (hp : pairsOfq N ops (masks ops.toList) = ps) (hs : Wdr P E B w0 N ops.toList ps F ops.toList [] tm h) : Wdraw P E B w0 ops F tm h :=
  ⟨N, hr, by rw [hp]; exact hs⟩
theorem Wdr_nil (N : List Nat) (all : List Oper) (ps : List (Nat × Nat)) (F : T → AH → Prop) (rs : List RecS) (tm : T) (h : AH) : Wdr P E B w0 N all ps F [] rs tm h = (allF (againF E all rs) ps ∧ F tm h) := rfl
theorem Wdr_cons (N : List Nat) (all : List Oper) (ps : List (Nat × Nat)) (F : T → AH → Prop) (d : Option Tmp) (op : Op) (t : TypeId) (p : String) (a : Array Edge) (l : List Oper) (rs : List RecS) (tm : T) (h : AH) :
    Wdr P E B w0 N all ps F (⟨d, op, t, p, a, none⟩ :: l) rs tm h = trW P B w0 (kindQ N rs.length op) d (Wdr P E B w0 N all ps F l) rs tm h (opSem op E tm h) := rfl
theorem Wdr_guard (N : List Nat) (all : List Oper) (ps : List (Nat × Nat)) (F : T → AH → Prop) (d : Option Tmp) (op : Op) (t : TypeId) (p : String) (a : Array Edge) (j : Nat) (w : Bool) (l : List Oper) (rs : List RecS) (tm : T) (h : AH) :
    Wdr P E B w0 N all ps F (⟨d, op, t, p, a, some (j, w)⟩ :: l) rs tm h = Br (guardV ((all[j]?).map (·.dst)) w tm) (trY P E B w0 (kindQ N rs.length op) d op (Wdr P E B w0 N all ps F l) rs) (trN d (Wdr P E B w0 N all ps F l) rs) tm h := by
  simp only [Wdr, want_guard, Br, trY, trN]
  cases guardV ((all[j]?).map (·.dst)) w tm <;> simp
theorem trW_val (k : Nat) (d : Option Tmp) (G : List RecS → T → AH → Prop) (rs : List RecS) (tm : T) (h : AH) (v : AV) (h' : AH) : trW P B w0 k d G rs tm h (some (val v h')) = ((k ≠ 0 → h' = h) ∧ putW (G (rs ++ [{ tm, v, hb := h, ha := h' }])) d tm v h') := rfl
theorem trW_enter (k : Nat) (d : Option Tmp) (G : List RecS → T → AH → Prop) (rs : List RecS) (tm : T) (h : AH) (f : FuncId) (args : List AV) : trW P B w0 k d G rs tm h (some (.enter f args)) = (k = 0 ∧ DrC P B w0 f args h d G rs tm) := rfl
theorem DrC.use {f : FuncId} {args : List AV} {h h' : AH} {v : AV} {d : Option Tmp} {G : List RecS → T → AH → Prop} {rs : List RecS} {tm : T} (hf : Fd P B w0 f args h v h') (hp : putW (G (rs ++ [{ tm, v, hb := h, ha := h' }])) d tm v h') : DrC P B w0 f args h d G rs tm := ⟨v, h', hf, hp⟩
theorem agW_val (v v' : AV) (h h' : AH) : agW v h (some (val v' h')) = (v' = v ∧ h' = h) := rfl
theorem nxW_val (F : T → AH → Prop) (d : Option Tmp) (tm : T) (h : AH) (v : AV) (h' : AH) : nxW P B w0 F d tm h (some (val v h')) = putW F d tm v h' := by
  simp [nxW, val]
theorem nxW_enter (F : T → AH → Prop) (d : Option Tmp) (tm : T) (h : AH) (f : FuncId) (args : List AV) : nxW P B w0 F d tm h (some (.enter f args)) = CallOK P B w0 f args h (retW F d tm) := rfl
theorem putW_some (F : T → AH → Prop) (d : Nat) (tm : T) (v : AV) (h : AH) : putW F (some d) tm v h = (d < tm.n ∧ F (tm.put d v) h) := rfl
theorem putW_none (F : T → AH → Prop) (tm : T) (v : AV) (h : AH) : putW F none tm v h = F tm h := rfl
theorem retW_eq (F : T → AH → Prop) (d : Option Tmp) (tm : T) (v : AV) (h : AH) : retW F d tm v h = putW F d tm v h := rfl
theorem seqQ_normal (F : T → AH → Prop) (Q : Post) (tm : T) (h : AH) : seqQ F Q .normal tm h = F tm h := rfl
theorem seqQ_exit (F : T → AH → Prop) (Q : Post) (i : Nat) (tm : T) (h : AH) : seqQ F Q (.exit i) tm h = Q (.exit i) tm h := rfl
theorem seqQ_ret (F : T → AH → Prop) (Q : Post) (tm : T) (h : AH) : seqQ F Q .ret tm h = Q .ret tm h := rfl
theorem blockQ_normal (id : Nat) (Q : Post) (tm : T) (h : AH) : blockQ id Q .normal tm h = Q .normal tm h := rfl
theorem blockQ_exit (id : Nat) (Q : Post) (i : Nat) (tm : T) (h : AH) : blockQ id Q (.exit i) tm h = if i = id then Q .normal tm h else Q (.exit i) tm h := rfl
theorem blockQ_ret (id : Nat) (Q : Post) (tm : T) (h : AH) : blockQ id Q .ret tm h = Q .ret tm h := rfl
theorem retQ_ret (fn : Func) (R : AV → AH → Prop) (tm : T) (h : AH) : retQ P B w0 fn R .ret tm h = resQ P B w0 fn R tm h := rfl
theorem retQ_normal (fn : Func) (R : AV → AH → Prop) (tm : T) (h : AH) : retQ P B w0 fn R .normal tm h = resQ P B w0 fn R tm h := rfl
theorem resQ.mk (hE : EnvOK P E) {fn : Func} {R : AV → AH → Prop} {tm : T} {h : AH} {v : AV} (hr : results E fn tm h = some v) {v' : AV} {h' : AH} (hc : CV B w0 v h v' h') (hR : R v' h') : resQ P B w0 fn R tm h :=
  retQ.mk (x := .ret) hE (fun i => by simp) hr hc hR
theorem resQ.val (hE : EnvOK P E) {fn : Func} {R : AV → AH → Prop} {tm : T} {h : AH} {v : AV} (hr : results E fn tm h = some v) (hR : R v h) : resQ P B w0 fn R tm h := resQ.mk hE hr (CV.refl v h) hR

theorem ofV_int (k : IntKind) (n : Int) : ofV (.int k n) = some (.int k n) := rfl
theorem ofV_bool (b : Bool) : ofV (.bool b) = some (.bool b) := rfl
theorem ofV_str (s : ByteArray) : ofV (.string s) = some (.str (bytesN s)) := rfl
theorem ofV_nsl : ofV (.slice none 0 0) = some .nsl := rfl
theorem ofV_nil : ofV (.pointer none) = some .nil := rfl
theorem ofV_nmap : ofV (.map none) = some .nmap := rfl
theorem ofV_nfn : ofV .nilFunc = some .nfn := rfl
theorem ofV_nifc : ofV .nilIface = some .nifc := rfl
theorem ofV_agg (l : List Value) : ofV (.agg l.toArray) = (ofVs l).map .agg := rfl
theorem ofVs_nil : ofVs [] = some [] := rfl
theorem ofVs_cons (v : Value) (l : List Value) : ofVs (v :: l) = match ofV v with | some a => (match ofVs l with | some b => some (a :: b) | none => none) | none => none := rfl

theorem eqI_dec (a b : Int) : eqI a b = decide (a = b) := by rw [eqI_eq]; rfl
theorem eqN_dec (a b : List Nat) : eqN a b = decide (a = b) := by
  rw [Bool.eq_iff_iff, decide_eq_true_eq]
  refine ⟨eqN_eq a b, fun h => ?_⟩
  subst h
  induction a with
  | nil => rfl
  | cons x a ih => simp [eqN, ih]
theorem not_dec (p : Prop) [Decidable p] : (!decide p) = decide (¬ p) := by by_cases h : p <;> simp [h]
/-- a call's answer -/
def Is (v0 : AV) : AV → AH → Prop := fun v _ => v = v0
theorem ltI_nat (a b : Nat) : ltI (a : Int) (b : Int) = decide (a < b) := by rw [ltI_eq]; simp
theorem leI_nat (a b : Nat) : leI (a : Int) (b : Int) = decide (a ≤ b) := by rw [leI_eq]; simp
theorem inI_nat (a n : Nat) : inI (a : Int) n = decide (a < n) := by
  rw [Bool.eq_iff_iff, decide_eq_true_eq]
  show Nat.blt a n = true ↔ _
  rw [Nat.blt_eq]
theorem wrapI_in {n : Int} (h0 : 0 ≤ n) (h1 : n < 9223372036854775808) : wrapI .i64 n = n := by
  rw [wrapI_eq]
  unfold IntKind.wrap
  simp [IntKind.bits, IntKind.signed]
  omega
theorem wrapI_low {n : Int} (h0 : -9223372036854775808 ≤ n) (h1 : n < 9223372036854775808) : wrapI .i64 n = n := by
  rw [wrapI_eq]
  unfold IntKind.wrap
  simp [IntKind.bits, IntKind.signed]
  omega

attribute [go_sem] want_none want_guard kindQ kindOf allF againF guardV_some guardX_true guardX_false opY_eq opN_eq trY_eq trN_eq W1_skip W1_exit W1_ret W1_seq W1_cond W1_block W1_region W1_draw W1_loop condV_bool Br_true Br_false Wops_nil Wops_cons Wops_guard Wdr_nil Wdr_cons Wdr_guard trW_val trW_enter agW_val nxW_val nxW_enter putW_some putW_none retW_eq
  seqQ_normal seqQ_exit seqQ_ret blockQ_normal blockQ_exit blockQ_ret retQ_ret retQ_normal ofV_int ofV_bool ofV_str ofV_nsl ofV_nil ofV_nmap ofV_nfn ofV_nifc ofV_agg ofVs_nil ofVs_cons ltI_eq leI_eq eqI_dec eqN_dec Br_not inI_nat
  T.n_put T.n_init T.get_put T.get_init opSem oMove oneVal oneRes oneH opnd opnds parts
end
end
end Go.Ev
