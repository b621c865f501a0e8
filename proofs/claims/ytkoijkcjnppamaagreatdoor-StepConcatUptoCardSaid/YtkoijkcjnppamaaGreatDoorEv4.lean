/- Append, maps, iterators, calls do as the evaluator says. Conditions: a table of the program (EnvOK). -/
import Derived.Test.YtkoijkcjnppamaaGreatDoorEv3
import Derived.Lib.UnsafeStr
import Derived.Lib.ConvBytes
import Derived.Laws.RangeString
/- An evaluator of closed calls over abstract memory: append, copy and the other builtins (2). -/
namespace Go.Ev
open Go.RowKit
set_option autoImplicit false
set_option linter.unusedSimpArgs false
set_option linter.unusedVariables false

variable {P : Program}
section
variable {E : Env} {B : Nat} {w0 w : World} {ρ : Rho} {h : AH} {tm : T} {a : Act} {o : Oper}

theorem ro_grown {ρ : Rho} {p : Nat × Nat} {l : List AV} {us : List Value} {Z : Array Value} {e : TypeId} {size : Nat} (hl : RVs ρ l us) (hsz : (⟨us⟩ ++ Z : Array Value).size = p.2 * size) :
    RO ρ p (.cells l e 0 0 (some size)) (some (.cells (⟨us⟩ ++ Z) e)) := by
  refine ⟨_, (0, 0), rfl, fun j v hj => ?_, fun j h1 h2 => by simp at h2, hsz⟩
  obtain ⟨u, hu, hr⟩ := hl.get hj
  refine ⟨u, ?_, hr⟩
  have hlt := (List.getElem?_eq_some_iff.1 hu).1
  rw [Array.getElem?_append_left (by simpa using hlt)]
  simpa using hu

theorem appendV_sound (hE : EnvOK P E) (s : St B w0 ρ h w) {t t2 ty : TypeId} {x y v : AV} {h' : AH} {ux uy : Value} (hx : RV ρ x ux) (hy : RV ρ y uy) (hv : appendV E t t2 x y h = some (v, h')) (ts : List TypeId) (rest : List Value) :
    ∃ ρ' u w', Sub ρ ρ' ∧ St B w0 ρ' h' w' ∧ RV ρ' v u ∧ (Builtin.append_ ⟨t :: t2 :: ts⟩ ty ⟨ux :: uy :: rest⟩).run P w = .ok u w' := by
  unfold appendV at hv
  split at hv
  · rename_i e _ _ _ _ _ _ _ ti2 hty hty2
    have hu := ty_und hE hty
    simp only at hu
    have hu2 := ty_und hE hty2
    split at hv
    · simp at hv
    · rename_i hni
      split at hv
      · rename_i ti n hte hn
        split at hv
        · rename_i z nw hz hnw
          split at hv
          · rename_i hc0
            obtain ⟨hzl, hone, hnwl⟩ := hc0
            obtain ⟨i, hi, hi1, hi2, hi3⟩ := ty_info hE hte
            rw [hz] at hi3
            obtain ⟨zv, hzv, hzv2⟩ : ∃ zv, i.zero = some zv ∧ ofVs zv.cells.toList = some z := by
              cases hq : i.zero with
              | none => simp [hq] at hi3
              | some q => exact ⟨q, rfl, by simpa [hq] using hi3.symm⟩
            have hzs : zv.cells.size = ti.size := by
              have := (ofVs_sound ρ _ _ hzv2).length
              simp at this; omega
            have hln := lenV_sound (P := P) hy hn w
            obtain ⟨us, hus, hcont⟩ := contentV_sound (P := P) s hy hnw
            obtain ⟨us', hus', hcont'⟩ := contentV_sound (P := P) s.drew hy hnw
            have husl : us'.length = n * ti.size := by rw [← hus'.length, hnwl]
            have husone : ∀ u ∈ us, u.oneCell' = true := by
              intro u hu
              obtain ⟨j, hj, rfl⟩ := List.getElem_of_mem hu
              have hj' : j < nw.length := by rw [hus.length]; exact hj
              obtain ⟨u', h1, h2⟩ := hus.get (List.getElem?_eq_getElem hj')
              rw [List.getElem?_eq_getElem hj] at h1
              simp only [Option.some.injEq] at h1
              rw [h1]
              exact h2.one (List.all_eq_true.1 hone _ (List.getElem_mem hj'))
            have hzc : ∀ k, (Builtin.zeroCells zv.cells k).size = k * ti.size := fun k => by rw [size_zeroCells, hzs]
            split at hv
            · -- onto nil
              simp only [RV] at hx; subst hx
              split at hv
              · rename_i hn0
                simp only [Option.some.injEq, Prod.mk.injEq] at hv
                obtain ⟨rfl, rfl⟩ := hv
                subst hn0
                refine ⟨ρ, .slice none 0 0, w, Sub.refl _, s, by simp [RV], ?_⟩
                have := run_append_in (ty := ty) (sLen := 0) (sCap := 0) (base := none) (w' := w) hu hu2 hni (ty_size hE hte w) hln hcont (by omega) (by simp) (fun _ => rfl) ts rest
                simpa using this
              · rename_i hn0
                split at hv
                · rename_i hb
                  simp only [Option.some.injEq, Prod.mk.injEq] at hv
                  obtain ⟨rfl, rfl⟩ := hv
                  have hcap := grownCap_ge w (0 + n) 0 e
                  have hrun := run_append_out (ty := ty) (sLen := 0) (sCap := 0) (base := none) (olds := []) hu hu2 hni hi hzv hln (by rfl) (by rw [hi1]; exact hcont') (by omega) (by rw [hi2]; simpa using hb.1) (by simpa using hb.2) ts rest
                  refine ⟨ρ.snoc ((w.heap.size, grownCap w (0 + n) 0 e)), _, _, Sub.snoc _ _, ?_, ?_, hrun⟩
                  · have := s.drew.new (.cells nw e 0 0 (some ti.size)) (grownCap w (0 + n) 0 e) (.cells (⟨[]⟩ ++ ⟨us'⟩ ++ Builtin.zeroCells zv.cells (grownCap w (0 + n) 0 e - (0 + n))) e) (by
                      have hg := ro_grown (p := (w.heap.size, grownCap w (0 + n) 0 e)) (Z := Builtin.zeroCells zv.cells (grownCap w (0 + n) 0 e - (0 + n))) (e := e) (size := ti.size) (hus'.mono (Sub.snoc ρ (w.heap.size, grownCap w (0 + n) 0 e))) (by
                        simp only [Array.size_append, hzc, List.size_toArray, husl]
                        rw [← Nat.add_mul]; congr 1; omega)
                      simpa using hg)
                    simpa using this
                  · simp only [RV]
                    exact ⟨_, grownCap w (0 + n) 0 e, last_get ρ s _, by simp, by omega, by simp⟩
                · simp at hv
            · -- onto a slice
              rename_i b off ee m c
              have hx0 := hx
              simp only [RV] at hx
              obtain ⟨p, C, hp, rfl, hmC, hcap⟩ := hx
              split at hv
              · rename_i hn0
                simp only [Option.some.injEq, Prod.mk.injEq] at hv
                obtain ⟨rfl, rfl⟩ := hv
                subst hn0
                have hus0 : us = [] := by
                  have := hus.length
                  simp only [Nat.zero_mul] at hnwl
                  exact List.eq_nil_of_length_eq_zero (by omega)
                refine ⟨ρ, .slice (some ⟨p.1, off, none⟩) m C, w, Sub.refl _, s, hx0, ?_⟩
                have := run_append_in (ty := ty) (sLen := m) (sCap := C) (base := some ⟨p.1, off, none⟩) (w' := w) hu hu2 hni (ty_size hE hte w) hln hcont (by omega) (fun a ha => by rw [hus0]; rfl) (fun h => by simp at h) ts rest
                simpa using this
              · rename_i hn0
                split at hv
                · rename_i hb
                  split at hv
                  · -- the capacity is known
                    rename_i c
                    simp only at hcap
                    subst hcap
                    split at hv
                    · rename_i hroom
                      split at hv
                      · rename_i h2 hst
                        simp only [Option.some.injEq, Prod.mk.injEq] at hv
                        obtain ⟨rfl, rfl⟩ := hv
                        obtain ⟨w', h3, h4⟩ := store_sound (P := P) s hst hus hp
                        refine ⟨ρ, .slice (some ⟨p.1, off, none⟩) (m + n) C, w', Sub.refl _, h4, ?_, ?_⟩
                        · simp only [RV]; exact ⟨p, C, hp, rfl, hroom, rfl⟩
                        · exact run_append_in (ty := ty) (sLen := m) (sCap := C) (base := some ⟨p.1, off, none⟩) (w' := w') hu hu2 hni (ty_size hE hte w) hln hcont hroom (fun a ha => by
                            simp only [Option.some.injEq] at ha; subst ha
                            rw [add_mk]; exact h3) (fun h => by simp at h) ts rest
                      · simp at hv
                    · rename_i hroom
                      split at hv
                      · rename_i old hold
                        simp only [Option.some.injEq, Prod.mk.injEq] at hv
                        obtain ⟨rfl, rfl⟩ := hv
                        obtain ⟨os, ho1, ho2, ho3⟩ := load_sound (P := P) s.drew hold hp
                        have hcap := grownCap_ge w (m + n) C e
                        have hrun := run_append_out (ty := ty) (sLen := m) (sCap := C) (base := some ⟨p.1, off, none⟩) (olds := os) hu hu2 hni hi hzv hln (by simp only [Builtin.firstCells, hi1]; exact ho3) (by rw [hi1]; exact hcont') (by omega) (by rw [hi2]; exact hb.1) hb.2 ts rest
                        refine ⟨ρ.snoc ((w.heap.size, grownCap w (m + n) C e)), _, _, Sub.snoc _ _, ?_, ?_, hrun⟩
                        · have := s.drew.new (.cells (old ++ nw) e 0 0 (some ti.size)) (grownCap w (m + n) C e) (.cells (⟨os⟩ ++ ⟨us'⟩ ++ Builtin.zeroCells zv.cells (grownCap w (m + n) C e - (m + n))) e) (by
                            have hg := ro_grown (p := (w.heap.size, grownCap w (m + n) C e)) (Z := Builtin.zeroCells zv.cells (grownCap w (m + n) C e - (m + n))) (e := e) (size := ti.size) ((ho1.append hus').mono (Sub.snoc ρ (w.heap.size, grownCap w (m + n) C e))) (by
                              simp only [Array.size_append, hzc, List.size_toArray, List.length_append, husl, ho2]
                              rw [← Nat.add_mul, ← Nat.add_mul]; congr 1; omega)
                            simpa using hg)
                          simpa using this
                        · simp only [RV]
                          exact ⟨_, grownCap w (m + n) C e, last_get ρ s _, rfl, by omega, by simp⟩
                      · simp at hv
                  · -- the capacity is the tape's
                    simp only at hcap
                    split at hv
                    · rename_i l t' lo hi' sz hg
                      split at hv
                      · rename_i hc1
                        obtain ⟨rfl, rfl, rfl, rfl, hml, hfz⟩ := hc1
                        simp only [Option.some.injEq, Prod.mk.injEq] at hv
                        obtain ⟨rfl, rfl⟩ := hv
                        simp only [Nat.add_zero] at hcap
                        subst hcap
                        obtain ⟨q, hq1, ⟨A, fr, hX, hcs, hfr, hop⟩, hq3⟩ := s.obj b _ hg
                        rw [hp] at hq1; simp only [Option.some.injEq] at hq1; subst hq1
                        simp only at hop
                        by_cases hroom : m + n ≤ p.2
                        · -- in place
                          have hfit : m * ti.size + us.length ≤ A.size := by
                            rw [← hus.length, hnwl, hop, ← Nat.add_mul]
                            exact Nat.mul_le_mul_right _ hroom
                          have hst := run_storeCells (P := P) (b := p.1) (o := m * ti.size) us 0 w A hX husone (by omega) (fun j h1 h2 hc => by
                            have := hfr j hc.1 hc.2
                            rw [← hus.length, hnwl, Nat.add_mul] at *
                            omega)
                          refine ⟨ρ.snoc (p), .slice (some ⟨p.1, 0, none⟩) (m + n) p.2, putB w p.1 (.cells ⟨setRange A.toList (m * ti.size) us⟩ t' fr), Sub.snoc _ _, ?_, ?_, ?_⟩
                          · refine s.renew (by rw [hg]; rfl) hp _ _ ⟨_, fr, rfl, ?_, hfr, ?_⟩
                            · intro j v hj
                              have hsub := Sub.snoc ρ p
                              rw [← Array.getElem?_toList]
                              show ∃ u, (setRange A.toList (m * ti.size) us)[j]? = some u ∧ _
                              rw [setRange_get us A.toList _ j (by simpa using hfit)]
                              have htl : (l.take (m * ti.size)).length = m * ti.size := by simp; omega
                              by_cases hjm : j < m * ti.size
                              · rw [if_neg (by omega)]
                                rw [List.getElem?_append_left (by omega), List.getElem?_take, if_pos hjm] at hj
                                obtain ⟨u, h1, h2⟩ := hcs _ _ hj
                                exact ⟨u, by rw [Array.getElem?_toList]; exact h1, h2.mono hsub⟩
                              · rw [List.getElem?_append_right (by omega), htl] at hj
                                obtain ⟨u, h1, h2⟩ := hus.get hj
                                have := (List.getElem?_eq_some_iff.1 h1).1
                                rw [if_pos (by omega)]
                                exact ⟨u, h1, h2.mono hsub⟩
                            · show (setRange A.toList (m * ti.size) us).length = _
                              rw [length_setRange]; simpa using hop
                          · simp only [RV]
                            have hlast : (ρ.snoc (p)).l[h.next]? = some p := last_get ρ s p
                            exact ⟨p, p.2, hlast, rfl, hroom, by simp⟩
                          · exact run_append_in (ty := ty) (sLen := m) (sCap := p.2) (base := some ⟨p.1, 0, none⟩) hu hu2 hni (ty_size hE hte w) hln hcont hroom (fun a ha => by
                              simp only [Option.some.injEq] at ha; subst ha
                              rw [add_mk, Nat.zero_add]; exact hst) (fun h => by simp at h) ts rest
                        · -- a new block
                          have hold : loadN h b 0 (m * ti.size) = some (l.take (m * ti.size)) := by
                            simp only [loadN, hg, sliceL, List.drop_zero]
                            rw [if_pos (by simp; omega)]
                          obtain ⟨os, ho1, ho2, ho3⟩ := load_sound (P := P) s.drew hold hp
                          have hcap := grownCap_ge w (m + n) p.2 t'
                          have hrun := run_append_out (ty := ty) (sLen := m) (sCap := p.2) (base := some ⟨p.1, 0, none⟩) (olds := os) hu hu2 hni hi hzv hln (by simp only [Builtin.firstCells, hi1]; exact ho3) (by rw [hi1]; exact hcont') (by omega) (by rw [hi2]; exact hb.1) hb.2 ts rest
                          refine ⟨ρ.snoc ((w.heap.size, grownCap w (m + n) p.2 t')), _, _, Sub.snoc _ _, ?_, ?_, hrun⟩
                          · have := (s.drew.drop b).new (.cells (l.take (m * ti.size) ++ nw) t' lo hi' (some ti.size)) (grownCap w (m + n) p.2 t') (.cells (⟨os⟩ ++ ⟨us'⟩ ++ Builtin.zeroCells zv.cells (grownCap w (m + n) p.2 t' - (m + n))) t') (by
                              have hg := ro_grown (p := (w.heap.size, grownCap w (m + n) p.2 t')) (Z := Builtin.zeroCells zv.cells (grownCap w (m + n) p.2 t' - (m + n))) (e := t') (size := ti.size) ((ho1.append hus').mono (Sub.snoc ρ (w.heap.size, grownCap w (m + n) p.2 t'))) (by
                                simp only [Array.size_append, hzc, List.size_toArray, List.length_append, husl, ho2]
                                rw [← Nat.add_mul, ← Nat.add_mul]; congr 1; omega)
                              obtain ⟨A', fr', hX', hcs', hfr', hop'⟩ := hg
                              refine ⟨A', fr', by simpa using hX', hcs', ?_, hop'⟩
                              intro j h1 h2
                              have := hfr' j h1 h2
                              omega)
                            simpa using this
                          · simp only [RV]
                            exact ⟨_, grownCap w (m + n) p.2 t', last_get ρ s _, rfl, by omega, by simp⟩
                      · simp at hv
                    · simp at hv
                · simp at hv
            · simp at hv
          · simp at hv
        · simp at hv
      · simp at hv
  · simp at hv
end
end Go.Ev
/- An evaluator of closed calls over abstract memory: the other builtins, strings as bytes. -/
namespace Go.Ev
open Go.RowKit
set_option autoImplicit false
set_option linter.unusedSimpArgs false
set_option linter.unusedVariables false

variable {P : Program}
section
variable {E : Env} {B : Nat} {w0 w : World} {ρ : Rho} {h : AH} {tm : T} {a : Act} {o : Oper}

theorem copyV_sound (hE : EnvOK P E) (s : St B w0 ρ h w) {t ty : TypeId} {x y v : AV} {h' : AH} {ux uy : Value} (hx : RV ρ x ux) (hy : RV ρ y uy) (hv : copyV E t x y h = some (v, h')) (ts : List TypeId) (rest : List Value) :
    ∃ ρ' u w', Sub ρ ρ' ∧ St B w0 ρ' h' w' ∧ RV ρ' v u ∧ (Builtin.copy_ ⟨t :: ts⟩ ty ⟨ux :: uy :: rest⟩).run P w = .ok u w' := by
  unfold copyV at hv
  split at hv
  · rename_i e _ _ _ _ _ _ _ hty
    have hu := ty_run hE hty w
    simp only at hu
    split at hv
    · rename_i ti n m hte hn hm
      split at hv
      · rename_i l hl
        obtain ⟨us, hus, hcont⟩ := contentV_sound (P := P) s hy hl
        have hlm := lenV_sound (P := P) hy hm w
        split at hv
        · simp only [Option.some.injEq, Prod.mk.injEq] at hv
          obtain ⟨rfl, rfl⟩ := hv
          simp only [RV] at hx; subst hx
          simp only [lenV, Option.some.injEq] at hn; subst hn
          refine ⟨ρ, .int .i64 (Nat.min m 0 : Nat), w, Sub.refl _, s, by simp [RV], ?_⟩
          simp only [Builtin.copy_, List.getElem?_toArray, List.getElem?_cons_zero, List.getElem?_cons_succ, Sem.run_bind, hu, Result.andThen_ok, hlm, ty_size hE hte w, hcont, Sem.run_pure]
          rfl
        · rename_i b off ee k c
          split at hv
          · rename_i h2 hst
            simp only [Option.some.injEq, Prod.mk.injEq] at hv
            obtain ⟨rfl, rfl⟩ := hv
            simp only [lenV, Option.some.injEq] at hn; subst hn
            simp only [RV] at hx
            obtain ⟨p, C, hp, rfl, hnC, hcap⟩ := hx
            obtain ⟨w', h3, h4⟩ := store_sound (P := P) s hst hus hp
            refine ⟨ρ, .int .i64 (Nat.min m k : Nat), w', Sub.refl _, h4, by simp [RV], ?_⟩
            simp only [Builtin.copy_, List.getElem?_toArray, List.getElem?_cons_zero, List.getElem?_cons_succ, Sem.run_bind, hu, Result.andThen_ok, hlm, ty_size hE hte w, hcont, h3, Sem.run_pure]
            rfl
          · simp at hv
        · simp at hv
      · simp at hv
    · simp at hv
  · simp at hv

theorem REs.length {ρ : Rho} : ∀ {x : List (AV × AV × Nat)} {l : List MapEntry}, REs ρ x l → x.length = l.length
  | [], l, h => by simp only [REs] at h; simp [h]
  | x :: a, l, h => by
    simp only [REs] at h
    obtain ⟨e, r, rfl, _, _, _, h3⟩ := h
    simp [REs.length h3]

theorem map_obj (s : St B w0 ρ h w) {r : Nat} {es : List (AV × AV × Nat)} {c : Nat} (hg : h.m.get r = some (.map es c)) {p : Nat × Nat} (hp : ρ.l[r]? = some p) : ∃ E, w.heap[p.1]? = some (.map ⟨E⟩ c) ∧ REs ρ es E := by
  obtain ⟨q, h1, h2, _⟩ := s.obj r _ hg
  rw [hp] at h1; simp only [Option.some.injEq] at h1; subst h1
  exact h2

theorem run_getObj {w : World} {r : Nat} {o : Obj} (h : w.heap[r]? = some o) (hn : ∀ C t f, o ≠ .cells C t f) : (getObj r).run P w = .ok o w := by
  simp only [getObj, Sem.run, h]

theorem run_setObj {w : World} {r : Nat} {o o' : Obj} (h : w.heap[r]? = some o) (hn : ∀ C t f, o ≠ .cells C t f) : (setObj r o').run P w = .ok () (putB w r o') := by
  simp only [setObj, Sem.run, h]
  rfl

theorem bLen_sound (hE : EnvOK P E) (s : St B w0 ρ h w) {ty : TypeId} {ts : List TypeId} {args : List AV} {vs : List Value} {v : AV} {h' : AH} (ha : RVs ρ args vs) (hv : bLen E ts args h = some (v, h')) :
    ∃ ρ' u w', Sub ρ ρ' ∧ St B w0 ρ' h' w' ∧ RV ρ' v u ∧ (Builtin.len_ ⟨ts⟩ ty ⟨vs⟩).run P w = .ok u w' := by
  unfold bLen at hv
  split at hv
  · rename_i t ts x args
    simp only [RVs] at ha
    obtain ⟨ux, vs', rfl, hx, hxs⟩ := ha
    split at hv
    · rename_i ti hty
      have hu := ty_run hE hty w
      split at hv
      · rename_i n hn
        simp only [Option.some.injEq, Prod.mk.injEq] at hv
        obtain ⟨rfl, rfl⟩ := hv
        refine ⟨ρ, .int .i64 (n : Int), w, Sub.refl _, s, by simp [RV], ?_⟩
        simp only [Builtin.len_, List.getElem?_toArray, List.getElem?_cons_zero, Sem.run_bind, hu, Result.andThen_ok]
        unfold lenU at hn
        split at hn
        · rename_i hd
          split at hn
          · simp only [Option.some.injEq] at hn; subst hn
            simp only [RV] at hx; obtain ⟨S, rfl, hS⟩ := hx
            rw [hd, ← hS, bytesN_length]; rfl
          · simp at hn
        · rename_i e hd
          split at hn
          · simp only [Option.some.injEq] at hn; subst hn
            simp only [RV] at hx; obtain ⟨p, C, _, rfl, _⟩ := hx
            rw [hd]; rfl
          · simp only [Option.some.injEq] at hn; subst hn
            simp only [RV] at hx; subst hx
            rw [hd]; rfl
          · simp only [Option.some.injEq] at hn; subst hn
            simp only [RV] at hx; obtain ⟨A, C, rfl, _⟩ := hx
            rw [hd]; rfl
          · simp at hn
        · rename_i e f hd
          split at hn
          · split at hn
            · rename_i es c hg
              simp only [Option.some.injEq] at hn; subst hn
              simp only [RV] at hx; obtain ⟨p, hp, rfl⟩ := hx
              obtain ⟨A, hA, hes⟩ := map_obj s hg hp
              have hl := hes.length
              rw [hd]
              simp only [Sem.run_bind, run_getObj hA (by intro C t f; simp), Result.andThen_ok]
              rw [hl]; rfl
            · simp at hn
          · simp only [Option.some.injEq] at hn; subst hn
            simp only [RV] at hx; subst hx
            rw [hd]; rfl
          · simp at hn
        · simp at hn
      · simp at hv
    · simp at hv
  · simp at hv

theorem bCap_sound (hE : EnvOK P E) (s : St B w0 ρ h w) {ty : TypeId} {ts : List TypeId} {args : List AV} {vs : List Value} {v : AV} {h' : AH} (ha : RVs ρ args vs) (hv : bCap E ts args h = some (v, h')) :
    ∃ ρ' u w', Sub ρ ρ' ∧ St B w0 ρ' h' w' ∧ RV ρ' v u ∧ (Builtin.cap_ ⟨ts⟩ ty ⟨vs⟩).run P w = .ok u w' := by
  unfold bCap at hv
  split at hv
  · rename_i t ts x args
    simp only [RVs] at ha
    obtain ⟨ux, vs', rfl, hx, hxs⟩ := ha
    split at hv
    · rename_i ti hty
      have hu := ty_run hE hty w
      split at hv
      · rename_i e hd
        simp only [Option.some.injEq, Prod.mk.injEq] at hv
        obtain ⟨rfl, rfl⟩ := hv
        simp only [RV] at hx; subst hx
        rw [hd] at hu
        refine ⟨ρ, .int .i64 0, w, Sub.refl _, s, by simp [RV], ?_⟩
        simp only [Builtin.cap_, List.getElem?_toArray, List.getElem?_cons_zero, Sem.run_bind, hu, Result.andThen_ok]
        rfl
      · rename_i e b o ee n c hd
        simp only [Option.some.injEq, Prod.mk.injEq] at hv
        obtain ⟨rfl, rfl⟩ := hv
        simp only [RV] at hx; obtain ⟨p, C, _, rfl, _, hc⟩ := hx
        rw [hd] at hu
        refine ⟨ρ, .int .i64 (c : Int), w, Sub.refl _, s, by simp [RV], ?_⟩
        subst hc
        simp only [Builtin.cap_, List.getElem?_toArray, List.getElem?_cons_zero, Sem.run_bind, hu, Result.andThen_ok]
        rfl
      · simp at hv
    · simp at hv
  · simp at hv

theorem bClear_sound (hE : EnvOK P E) (s : St B w0 ρ h w) {ty : TypeId} {ts : List TypeId} {args : List AV} {vs : List Value} {v : AV} {h' : AH} (ha : RVs ρ args vs) (hv : bClear E ts args h = some (v, h')) :
    ∃ ρ' u w', Sub ρ ρ' ∧ St B w0 ρ' h' w' ∧ RV ρ' v u ∧ (Builtin.clear_ ⟨ts⟩ ty ⟨vs⟩).run P w = .ok u w' := by
  unfold bClear at hv
  split at hv
  · rename_i t ts x args
    simp only [RVs] at ha
    obtain ⟨ux, vs', rfl, hx, hxs⟩ := ha
    split at hv
    · rename_i ti hty
      have hu := ty_run hE hty w
      split at hv
      · rename_i e hd
        rw [hd] at hu
        unfold clearV at hv
        split at hv
        · rename_i te hte
          split at hv
          · simp only [Option.some.injEq, Prod.mk.injEq] at hv
            obtain ⟨rfl, rfl⟩ := hv
            simp only [RV] at hx; subst hx
            refine ⟨ρ, .tuple #[], w, Sub.refl _, s, by simp only [RV]; exact ⟨[], rfl, by simp [RVs]⟩, ?_⟩
            simp only [Builtin.clear_, List.getElem?_toArray, List.getElem?_cons_zero, Sem.run_bind, hu, Result.andThen_ok]
            rfl
          · rename_i z b o ee n c hz
            split at hv
            · rename_i hzl
              split at hv
              · rename_i h2 hst
                simp only [Option.some.injEq, Prod.mk.injEq] at hv
                obtain ⟨rfl, rfl⟩ := hv
                simp only [RV] at hx; obtain ⟨p, C, hp, rfl, _⟩ := hx
                obtain ⟨zv, hz1, hz2⟩ := ty_zero hE hte w hz ρ
                have hzs : zv.cells.size = te.size := by have := hz2.length; simp at this; omega
                have hzc : (Builtin.zeroCells zv.cells n).toList = (List.replicate n zv.cells.toList).flatten := by
                  unfold Builtin.zeroCells
                  rw [zero_range rfl]
                obtain ⟨w', h3, h4⟩ := store_sound (P := P) s hst (zeroN_sound hz2 n) hp
                refine ⟨ρ, .tuple #[], w', Sub.refl _, h4, by simp only [RV]; exact ⟨[], rfl, by simp [RVs]⟩, ?_⟩
                simp only [Builtin.clear_, List.getElem?_toArray, List.getElem?_cons_zero, Sem.run_bind, hu, Result.andThen_ok]
                cases n with
                | zero =>
                  simp only [List.replicate_zero, List.flatten_nil, storeCells, Sem.run_pure, Result.ok.injEq, true_and] at h3
                  subst h3
                  rfl
                | succ n =>
                  simp only [Sem.run_bind, hz1, Result.andThen_ok, hzc, h3, Sem.run_pure]
              · simp at hv
            · simp at hv
          · simp at hv
        · simp at hv
      · simp at hv
    · simp at hv
  · simp at hv

theorem bMax_sound (s : St B w0 ρ h w) {ty : TypeId} {ts : List TypeId} {args : List AV} {vs : List Value} {v : AV} {h' : AH} (ha : RVs ρ args vs) (hv : bMax E ts args h = some (v, h')) :
    ∃ ρ' u w', Sub ρ ρ' ∧ St B w0 ρ' h' w' ∧ RV ρ' v u ∧ (Builtin.max_ ⟨ts⟩ ty ⟨vs⟩).run P w = .ok u w' := by
  unfold bMax at hv
  split at hv
  · rename_i k x j y
    simp only [Option.some.injEq, Prod.mk.injEq] at hv
    obtain ⟨rfl, rfl⟩ := hv
    simp only [RVs, RV] at ha
    obtain ⟨_, _, rfl, rfl, _, _, rfl, rfl, rfl⟩ := ha
    refine ⟨ρ, _, w, Sub.refl _, s, rfl, ?_⟩
    simp only [Builtin.max_, List.foldlM_cons, List.foldlM_nil, Builtin.max2, Sem.run_bind, Sem.run_pure, Result.andThen_ok]
  · simp at hv

theorem bMin_sound (s : St B w0 ρ h w) {ty : TypeId} {ts : List TypeId} {args : List AV} {vs : List Value} {v : AV} {h' : AH} (ha : RVs ρ args vs) (hv : bMin E ts args h = some (v, h')) :
    ∃ ρ' u w', Sub ρ ρ' ∧ St B w0 ρ' h' w' ∧ RV ρ' v u ∧ (Builtin.min_ ⟨ts⟩ ty ⟨vs⟩).run P w = .ok u w' := by
  unfold bMin at hv
  split at hv
  · rename_i k x j y
    simp only [Option.some.injEq, Prod.mk.injEq] at hv
    obtain ⟨rfl, rfl⟩ := hv
    simp only [RVs, RV] at ha
    obtain ⟨_, _, rfl, rfl, _, _, rfl, rfl, rfl⟩ := ha
    refine ⟨ρ, _, w, Sub.refl _, s, rfl, ?_⟩
    simp only [Builtin.min_, List.foldlM_cons, List.foldlM_nil, Builtin.min2, Sem.run_bind, Sem.run_pure, Result.andThen_ok]
  · simp at hv

theorem bSliceData_sound (s : St B w0 ρ h w) {ty : TypeId} {ts : List TypeId} {args : List AV} {vs : List Value} {v : AV} {h' : AH} (ha : RVs ρ args vs) (hv : bSliceData E ts args h = some (v, h')) :
    ∃ ρ' u w', Sub ρ ρ' ∧ St B w0 ρ' h' w' ∧ RV ρ' v u ∧ (Builtin.unsafeSliceData_ ⟨ts⟩ ty ⟨vs⟩).run P w = .ok u w' := by
  unfold bSliceData at hv
  split at hv
  · simp only [Option.some.injEq, Prod.mk.injEq] at hv
    obtain ⟨rfl, rfl⟩ := hv
    simp only [RVs, RV] at ha
    obtain ⟨_, _, rfl, rfl, rfl⟩ := ha
    exact ⟨ρ, _, w, Sub.refl _, s, by simp only [RV], Lib.run_unsafeSliceData_nil w _ _ _ _⟩
  · rename_i b o e n c
    split at hv
    · simp at hv
    · rename_i hc
      simp only [Option.some.injEq, Prod.mk.injEq] at hv
      obtain ⟨rfl, rfl⟩ := hv
      simp only [RVs, RV] at ha
      obtain ⟨_, _, rfl, ⟨p, C, hp, rfl, hle, hC⟩, rfl⟩ := ha
      refine ⟨ρ, .pointer (some ⟨p.1, o, none⟩), w, Sub.refl _, s, by simp only [RV]; exact ⟨p, hp, rfl⟩, Lib.run_unsafeSliceData_row w _ _ _ _ _ ?_⟩
      intro h0
      subst h0
      have hn : n = 0 := by omega
      subst hn
      simp only [true_and, ne_eq, Decidable.not_not] at hc
      subst hc
      simp at hC
  · simp at hv

theorem bString_sound (hE : EnvOK P E) (s : St B w0 ρ h w) {ty : TypeId} {ts : List TypeId} {args : List AV} {vs : List Value} {v : AV} {h' : AH} (ha : RVs ρ args vs) (hv : bString E ts args h = some (v, h')) :
    ∃ ρ' u w', Sub ρ ρ' ∧ St B w0 ρ' h' w' ∧ RV ρ' v u ∧ (Builtin.unsafeString_ ⟨ts⟩ ty ⟨vs⟩).run P w = .ok u w' := by
  unfold bString at hv
  split at hv
  · rename_i pt it x n
    simp only [RVs, RV] at ha
    obtain ⟨ux, _, rfl, hx, _, _, rfl, rfl, rfl⟩ := ha
    split at hv
    · rename_i hn
      subst hn
      have hempty : RV ρ (.str []) (.string .empty) := by simp only [RV]; exact ⟨.empty, rfl, rfl⟩
      split at hv
      · simp only [Option.some.injEq, Prod.mk.injEq] at hv
        obtain ⟨rfl, rfl⟩ := hv
        simp only [RV] at hx; subst hx
        exact ⟨ρ, _, w, Sub.refl _, s, hempty, Lib.run_unsafeString_none w _ _ _ _⟩
      · simp only [Option.some.injEq, Prod.mk.injEq] at hv
        obtain ⟨rfl, rfl⟩ := hv
        simp only [RV] at hx; obtain ⟨p, _, rfl⟩ := hx
        exact ⟨ρ, _, w, Sub.refl _, s, hempty, Lib.run_unsafeString_none w _ _ _ _⟩
      · simp at hv
    · rename_i hn
      split at hv
      · rename_i b ti hty
        split at hv
        · rename_i u l t lo hi op hd hg
          split at hv
          · rename_i tu cs htu hcs
            split at hv
            · rename_i bs hbs
              split at hv
              · rename_i hc
                obtain ⟨rfl, h1, h2, h3⟩ := hc
                simp only [Option.some.injEq, Prod.mk.injEq] at hv
                obtain ⟨rfl, rfl⟩ := hv
                simp only [RV] at hx; obtain ⟨p, hp, rfl⟩ := hx
                obtain ⟨us, a1, a2, a3⟩ := load_sound (P := P) s hcs hp
                obtain ⟨a4, a5⟩ := bytesOf_sound a1 hbs
                obtain ⟨q, b1, ⟨C, fr, hX, hcs', hfr, hop⟩, _⟩ := s.obj b _ hg
                rw [hp] at b1; simp only [Option.some.injEq] at b1; subst b1
                have hpt := ty_und hE hty
                rw [hd] at hpt
                obtain ⟨i, i1, i2, _⟩ := ty_info hE htu
                have hco : P.cellsOf t = 1 := by simp only [Program.cellsOf, i1]; simp; omega
                have hlenb : bs.length = n.toNat := by
                  have := congrArg List.length a4
                  simp at this; omega
                -- the cells, as bytes
                have hcell : ∀ (j : Nat) v, us[j]? = some v → C[j]? = some v := by
                  unfold loadN at hcs
                  rw [hg] at hcs
                  simp only [sliceL] at hcs
                  split at hcs
                  · rename_i hl
                    have hl' : n.toNat ≤ l.length := by simp at hl; omega
                    have hsz : n.toNat ≤ C.size := by
                      obtain ⟨u, hu, _⟩ := hcs' (n.toNat - 1) l[n.toNat - 1] (List.getElem?_eq_getElem (by omega))
                      have := (Array.getElem?_eq_some_iff.1 hu).1
                      omega
                    have hr := run_loadCells_list (P := P) w ⟨p.1, 0, none⟩ (C.toList.take n.toNat) (fun j v hj => by
                      rw [add_mk, cell_of_block hX]
                      rw [List.getElem?_take] at hj
                      split at hj
                      · rw [Array.getElem?_toList] at hj; simpa using hj
                      · simp at hj)
                    have hlen' : (C.toList.take n.toNat).length = n.toNat := by simp; omega
                    rw [hlen'] at hr
                    rw [a3] at hr
                    simp only [Result.ok.injEq, Array.mk.injEq, and_true] at hr
                    intro j v hj
                    rw [hr, List.getElem?_take] at hj
                    split at hj
                    · rw [Array.getElem?_toList] at hj; exact hj
                    · simp at hj
                  · simp at hcs
                have hsz : n.toNat ≤ C.size := by
                  have hu := hcell (n.toNat - 1) us[n.toNat - 1] (List.getElem?_eq_getElem (by omega))
                  have := (Array.getElem?_eq_some_iff.1 hu).1
                  omega
                have hL : (bs.map fun (m : Nat) => m.toUInt8).length = n.toNat := by simpa using hlenb
                have hrun := Lib.run_unsafeString_row (P := P) w pt it ty t hpt hco p.1 C.size (by simp [World.shape?, hX]) (bs.map fun (m : Nat) => m.toUInt8) (by intro h0; rw [h0] at hL; simp at hL; omega) (by omega) (by omega) (by
                  intro j x hj
                  rw [List.getElem?_map, Option.map_eq_some_iff] at hj
                  obtain ⟨m, hm, rfl⟩ := hj
                  have hlt := a5 m (List.mem_of_getElem? hm)
                  have hto : m.toUInt8.toNat = m := by simp; omega
                  rw [add_mk, cell_of_block hX, Nat.zero_add]
                  refine hcell j _ ?_
                  rw [a4, List.getElem?_map, hm, hto]; rfl)
                have hnn : ((bs.map fun (m : Nat) => m.toUInt8).length : Int) = n := by rw [hL]; omega
                rw [hnn] at hrun
                have hfz : w.freeze ⟨p.1, 0, none⟩ (bs.map fun (m : Nat) => m.toUInt8).length = putB w p.1 (.cells C t (if fr.1 == fr.2 then (0, 0 + (bs.map fun (m : Nat) => m.toUInt8).length) else (min fr.1 0, max fr.2 (0 + (bs.map fun (m : Nat) => m.toUInt8).length)))) := by
                  unfold World.freeze
                  rw [if_neg (by omega)]
                  unfold putB
                  congr 1
                  apply Array.ext_getElem?
                  intro k
                  rw [Array.getElem?_modify, Array.getElem?_setIfInBounds]
                  by_cases hk : p.1 = k
                  · subst hk
                    rw [if_pos rfl, if_pos rfl, hX, if_pos (Array.getElem?_eq_some_iff.1 hX).1]
                    rfl
                  · rw [if_neg hk, if_neg hk]
                refine ⟨ρ, _, _, Sub.refl _, ?_, ?_, hrun⟩
                · rw [hfz]
                  have hput := s.put (by rw [hg]; rfl) hp (.cells l t 0 (if fr.1 == fr.2 then (0, 0 + (bs.map fun (m : Nat) => m.toUInt8).length) else (min fr.1 0, max fr.2 (0 + (bs.map fun (m : Nat) => m.toUInt8).length))).2 op) _
                    ⟨C, (if fr.1 == fr.2 then (0, 0 + (bs.map fun (m : Nat) => m.toUInt8).length) else (min fr.1 0, max fr.2 (0 + (bs.map fun (m : Nat) => m.toUInt8).length))), rfl, hcs', fun j _ hj => ⟨Nat.zero_le _, hj⟩, hop⟩
                  exact (hput.drop b).congr rfl fun n => by simp only [AH.set, Tr.get_set]; split <;> rfl
                · simp only [RV]
                  refine ⟨_, rfl, ?_⟩
                  unfold bytesN
                  simp only [List.map_map]
                  rw [show bs = bs.map id by simp]
                  rw [List.map_map]
                  apply List.map_congr_left
                  intro m hm
                  have hlt := a5 m hm
                  simp; omega
              · simp at hv
            · simp at hv
          · simp at hv
        · simp at hv
      · simp at hv
  · simp at hv

theorem builtin_sound (hE : EnvOK P E) (s : St B w0 ρ h w) {b : Builtin} {ty : TypeId} {cs : Array Bool} {ts : List TypeId} {args : List AV} {vs : List Value} {v : AV} {h' : AH} (ha : RVs ρ args vs) (hv : Ev.builtin E b ts args h = some (v, h')) :
    ∃ ρ' u w', Sub ρ ρ' ∧ St B w0 ρ' h' w' ∧ RV ρ' v u ∧ (Go.builtin b ⟨ts⟩ ty cs ⟨vs⟩).run P w = .ok (.value u) w' := by
  unfold Ev.builtin builtinSem at hv
  split at hv
  · obtain ⟨ρ', u, w', h1, h2, h3, h4⟩ := bLen_sound (ty := ty) hE s ha hv
    exact ⟨ρ', u, w', h1, h2, h3, by simp [Go.builtin, h4]⟩
  · obtain ⟨ρ', u, w', h1, h2, h3, h4⟩ := bCap_sound (ty := ty) hE s ha hv
    exact ⟨ρ', u, w', h1, h2, h3, by simp [Go.builtin, h4]⟩
  · unfold bAppend at hv
    split at hv
    · rename_i t t2 ts x y args
      simp only [RVs] at ha
      obtain ⟨ux, _, rfl, hx, uy, rest, rfl, hy, _⟩ := ha
      obtain ⟨ρ', u, w', h1, h2, h3, h4⟩ := appendV_sound (ty := ty) hE s hx hy hv ts rest
      exact ⟨ρ', u, w', h1, h2, h3, by simp only [Go.builtin, Sem.run_bind, h4, Result.andThen_ok]; rfl⟩
    · simp at hv
  · unfold bCopy at hv
    split at hv
    · rename_i t ts x y args
      simp only [RVs] at ha
      obtain ⟨ux, _, rfl, hx, uy, rest, rfl, hy, _⟩ := ha
      obtain ⟨ρ', u, w', h1, h2, h3, h4⟩ := copyV_sound (ty := ty) hE s hx hy hv ts rest
      exact ⟨ρ', u, w', h1, h2, h3, by simp only [Go.builtin, Sem.run_bind, h4, Result.andThen_ok]; rfl⟩
    · simp at hv
  · obtain ⟨ρ', u, w', h1, h2, h3, h4⟩ := bMax_sound (P := P) (ty := ty) s ha hv
    exact ⟨ρ', u, w', h1, h2, h3, by simp [Go.builtin, h4]⟩
  · obtain ⟨ρ', u, w', h1, h2, h3, h4⟩ := bMin_sound (P := P) (ty := ty) s ha hv
    exact ⟨ρ', u, w', h1, h2, h3, by simp [Go.builtin, h4]⟩
  · obtain ⟨ρ', u, w', h1, h2, h3, h4⟩ := bClear_sound (ty := ty) hE s ha hv
    exact ⟨ρ', u, w', h1, h2, h3, by simp [Go.builtin, h4]⟩
  · obtain ⟨ρ', u, w', h1, h2, h3, h4⟩ := bSliceData_sound (P := P) (ty := ty) s ha hv
    exact ⟨ρ', u, w', h1, h2, h3, by simp [Go.builtin, h4]⟩
  · obtain ⟨ρ', u, w', h1, h2, h3, h4⟩ := bString_sound (ty := ty) hE s ha hv
    exact ⟨ρ', u, w', h1, h2, h3, by simp [Go.builtin, h4]⟩
  · simp [bNone] at hv

theorem bytesWorld_eq (w : World) (e : TypeId) (S : ByteArray) : Lib.bytesWorld w e S = w.drew.alloc (.cells (Lib.bytesCells w e S) e ((Lib.bytesCells w e S).size, (Lib.bytesCells w e S).size + 1)) := by
  unfold Lib.bytesWorld World.freeze
  rw [if_neg (by omega)]
  show ({ w with heap := _, drawn := _ } : World) = { w with heap := _, drawn := _ }
  congr 1
  show (w.heap.push (.cells (Lib.bytesCells w e S) e)).modify w.heap.size _ = w.heap.push _
  apply Array.ext_getElem?
  intro k
  rw [Array.getElem?_modify, Array.getElem?_push, Array.getElem?_push]
  by_cases hk : k = w.heap.size
  · subst hk; simp
  · rw [if_neg (by omega), if_neg (by omega), if_neg (by omega)]

theorem convB_sound (hE : EnvOK P E) (s : St B w0 ρ h w) {src dst : TypeId} {x : AV} {r : AV × AH} {u : Value} (hx : RV ρ x u) (hv : convB E src dst x h = some r) :
    ∃ ρ' y w', Sub ρ ρ' ∧ St B w0 ρ' r.2 w' ∧ RV ρ' r.1 y ∧ (convert src dst u).run P w = .ok y w' := by
  unfold convB at hv
  split at hv
  · rename_i l ts td hts htd
    split at hv
    · rename_i e he hd
      split at hv
      · rename_i hte
        split at hv
        · simp at hv
        rename_i hsmall
        simp only [Option.some.injEq] at hv; subst hv
        simp only [RV] at hx; obtain ⟨S, rfl, hS⟩ := hx
        have hud := ty_und hE htd
        rw [hd] at hud
        have hrun := Lib.run_convert_string_bytes w src dst e S (ty_und hE hts) hud (ty_und hE hte)
        have hcap := grownCap_ge w S.size 0 e
        have hlen : l.length = S.size := by rw [← hS, bytesN_length]
        refine ⟨ρ.snoc ((w.heap.size, grownCap w S.size 0 e)), _, _, Sub.snoc _ _, ?_, ?_, hrun⟩
        · have hnew := s.drew.new (.cells (l.map fun (b : Nat) => .int .u8 (b : Int)) e l.length 1000000000000000000000 (some 1)) (grownCap w S.size 0 e) (.cells (Lib.bytesCells w e S) e ((Lib.bytesCells w e S).size, (Lib.bytesCells w e S).size + 1)) (by
            have hsz : (Lib.bytesCells w e S).size = grownCap w S.size 0 e := by
              unfold Lib.bytesCells
              simp only [Array.size_append, Array.size_map, Array.size_replicate]
              have : S.data.size = S.size := rfl
              omega
            refine ⟨_, _, rfl, ?_, ?_, by simpa using hsz⟩
            · intro j v hj
              rw [List.getElem?_map, Option.map_eq_some_iff] at hj
              obtain ⟨b, hb, rfl⟩ := hj
              rw [← hS] at hb
              unfold bytesN at hb
              rw [List.getElem?_map, Option.map_eq_some_iff] at hb
              obtain ⟨c, hc, rfl⟩ := hb
              refine ⟨.int .u8 (c.toNat : Int), ?_, by simp [RV]⟩
              have hlt := (List.getElem?_eq_some_iff.1 hc).1
              unfold Lib.bytesCells
              rw [Array.getElem?_append_left (by simpa using hlt), Array.getElem?_map]
              rw [Array.getElem?_toList] at hc
              rw [hc]; rfl
            · intro j h1 h2
              simp only at h1 h2
              have := grownCap_le_maxLen w S.size 0 e (by unfold maxLen; omega)
              unfold maxLen at this
              omega)
          rw [bytesWorld_eq]
          simpa using hnew
        · simp only [RV]
          refine ⟨_, grownCap w S.size 0 e, last_get ρ s _, ?_, by omega, by simp⟩
          rw [hlen]
      · simp at hv
    · simp at hv
  · simp at hv
end
end Go.Ev
/- An evaluator of closed calls over abstract memory: maps, ranges, calls; each operation. -/
namespace Go.Ev
open Go.RowKit
set_option autoImplicit false
set_option linter.unusedSimpArgs false
set_option linter.unusedVariables false

variable {P : Program}
section
variable {E : Env} {B : Nat} {w0 w : World} {ρ : Rho} {h : AH} {tm : T} {a : Act} {o : Oper}

theorem bytes_eq {X Y : ByteArray} (h : (X.toList == Y.toList) = true) : X = Y := by
  rw [ByteArray.toList_eq, ByteArray.toList_eq, beq_iff_eq] at h
  cases X; cases Y
  congr 1
  exact Array.toList_inj.1 h

theorem findK_sound {S : ByteArray} : ∀ {es : List (AV × AV × Nat)} {L : List MapEntry} {i : Nat} {r : Option (Nat × AV)}, REs ρ es L → findK (.str (bytesN S)) es i = some r →
    ∃ q, Instr.findNow .string (.string S) L i = some q ∧ (match r, q with
      | none, none => True
      | some (j, v), some (j', u) => j = j' ∧ RV ρ v u ∧ i ≤ j ∧ ∃ e en, es[j - i]? = some e ∧ L[j - i]? = some en ∧ RV ρ e.1 en.key ∧ en.key = .string S
      | _, _ => False)
  | [], L, i, r, hr, hf => by
    simp only [REs] at hr; subst hr
    simp only [findK, Option.some.injEq] at hf; subst hf
    exact ⟨none, rfl, trivial⟩
  | (k', v, st) :: es, L, i, r, hr, hf => by
    simp only [REs] at hr
    obtain ⟨e, L', rfl, hk, hv, hb, hrest⟩ := hr
    simp only [findK] at hf
    cases k' <;> simp only at hf <;> try (exact absurd hf (by simp))
    rename_i s'
    have hk' := hk
    simp only [RV] at hk; obtain ⟨S', hS', rfl⟩ := hk
    rw [eqN_bytes] at hf
    split at hf
    · rename_i heq
      simp only [Option.some.injEq] at hf; subst hf
      refine ⟨some (i, e.val), ?_, rfl, hv, Nat.le_refl _, (_, v, st), e, by simp, by simp, hk', ?_⟩
      · simp only [Instr.findNow, hS', Instr.sameNow]
        have : (S == S') = true := by rw [beq_toListBytes]; exact heq
        rw [this]
      · rw [hS', bytes_eq heq]
    · rename_i heq
      obtain ⟨q, h1, h2⟩ := findK_sound hrest hf
      refine ⟨q, ?_, ?_⟩
      · simp only [Instr.findNow, hS', Instr.sameNow]
        have : (S == S') = false := by rw [beq_toListBytes]; simpa using heq
        rw [this]
        exact h1
      · cases r with
        | none => cases q <;> simp_all
        | some r =>
          obtain ⟨j, x⟩ := r
          cases q with
          | none => simp_all
          | some q =>
            obtain ⟨j', u⟩ := q
            obtain ⟨rfl, h3, h4, e1, en, h5, h6, h7⟩ := h2
            refine ⟨rfl, h3, by omega, e1, en, ?_, ?_, h7⟩
            · rw [show j - i = (j - (i + 1)) + 1 by omega, List.getElem?_cons_succ]; exact h5
            · rw [show j - i = (j - (i + 1)) + 1 by omega, List.getElem?_cons_succ]; exact h6

theorem run_checkKey_string {k : TypeId} (hu : P.underlying k = some .string) (b : Bool) (S : ByteArray) (w : World) : (Instr.checkKey b 10000 k (.string S)).run P w = .ok () w := by
  have : ∀ n, (Instr.checkKey b (n + 1) k (.string S)).run P w = .ok () w := by
    intro n
    simp only [Instr.checkKey, Sem.run_bind, run_underlying hu, Result.andThen_ok]
    rfl
  exact this 9999

theorem run_findKey {k : TypeId} (hu : P.underlying k = some .string) (S : ByteArray) (L : List MapEntry) {q : Option (Nat × Value)} (hq : Instr.findNow .string (.string S) L 0 = some q) (w : World) : (Instr.findKey k (.string S) L).run P w = .ok q w := by
  simp only [Instr.findKey, Sem.run_bind, run_underlying hu, Result.andThen_ok, hq, Sem.run_pure]

theorem lookupV_sound (hE : EnvOK P E) (s : St B w0 ρ h w) {t : TypeId} {m k v : AV} {ok : Bool} {um uk : Value} (hm : RV ρ m um) (hk : RV ρ k uk) (hv : lookupV E t m k ok h = some v) :
    ∃ u, (Instr.lookup t um uk ok).run P w = .ok u w ∧ RV ρ v u := by
  unfold lookupV at hv
  split at hv
  · rename_i kt e _ _ _ _ _ _ _ hty
    have hu := ty_run hE hty w
    simp only at hu
    split at hv
    · rename_i _ _ _ _ _ _ _ te hkt hte
      have hkund := ty_und hE hkt
      simp only at hkund
      split at hv
      · rename_i zv ks hz
        simp only [RV] at hk; obtain ⟨S, rfl, rfl⟩ := hk
        obtain ⟨zv0, hz1, hz2⟩ := ty_zv hE hte w hz ρ
        simp only at hv
        split at hv
        · rename_i es hes
          have hent : ∃ A, REs ρ es A ∧ (um = .map none ∧ A = [] ∨ ∃ r c, um = .map (some r) ∧ w.heap[r]? = some (.map ⟨A⟩ c)) := by
            split at hes
            · simp only [Option.some.injEq] at hes; subst hes
              simp only [RV] at hm; subst hm
              exact ⟨[], by simp [REs], .inl ⟨rfl, rfl⟩⟩
            · split at hes
              · rename_i r es' c hg
                simp only [Option.some.injEq] at hes; subst hes
                simp only [RV] at hm; obtain ⟨p, hp, rfl⟩ := hm
                obtain ⟨A, hA, hrs⟩ := map_obj s hg hp
                exact ⟨A, hrs, .inr ⟨p.1, c, rfl, hA⟩⟩
              · simp at hes
            · simp at hes
          obtain ⟨A, hrs, hum⟩ := hent
          split at hv
          · rename_i i x hfk
            simp only [Option.some.injEq] at hv; subst hv
            obtain ⟨q, hq1, hq2⟩ := findK_sound hrs hfk
            cases q with
            | none => simp at hq2
            | some q =>
              obtain ⟨j, u⟩ := q
              obtain ⟨_, hxu, _⟩ := hq2
              refine ⟨if ok then .tuple #[u, .bool true] else u, ?_, ?_⟩
              · rcases hum with ⟨rfl, rfl⟩ | ⟨r, c, rfl, hA⟩
                · simp [Instr.findNow] at hq1
                · simp only [Instr.lookup, Sem.run_bind, hu, Result.andThen_ok, run_getObj hA (by intro C t f; simp), Sem.run_pure, run_checkKey_string hkund, run_findKey hkund S _ hq1]
              · cases ok
                · simpa using hxu
                · simp only [if_true, RV]; exact ⟨[u, .bool true], rfl, by simp only [RVs, RV]; exact ⟨_, _, rfl, hxu, _, _, rfl, rfl, rfl⟩⟩
          · rename_i hfk
            simp only [Option.some.injEq] at hv; subst hv
            obtain ⟨q, hq1, hq2⟩ := findK_sound hrs hfk
            cases q with
            | some q => simp at hq2
            | none =>
              refine ⟨if ok then .tuple #[zv0, .bool false] else zv0, ?_, ?_⟩
              · rcases hum with ⟨rfl, rfl⟩ | ⟨r, c, rfl, hA⟩
                · simp only [Instr.lookup, Sem.run_bind, hu, Result.andThen_ok, Sem.run_pure, run_checkKey_string hkund, run_findKey hkund S _ hq1, hz1]
                · simp only [Instr.lookup, Sem.run_bind, hu, Result.andThen_ok, run_getObj hA (by intro C t f; simp), Sem.run_pure, run_checkKey_string hkund, run_findKey hkund S _ hq1, hz1]
              · cases ok
                · simpa using hz2
                · simp only [if_true, RV]; exact ⟨[zv0, .bool false], rfl, by simp only [RVs, RV]; exact ⟨_, _, rfl, hz2, _, _, rfl, rfl, rfl⟩⟩
          · simp at hv
        · simp at hv
      · simp at hv
    · simp at hv
  · simp at hv
end
end Go.Ev
/- An evaluator of closed calls over abstract memory: maps written, ranges. -/
namespace Go.Ev
open Go.RowKit
set_option autoImplicit false
set_option linter.unusedSimpArgs false
set_option linter.unusedVariables false

variable {P : Program}
section
variable {E : Env} {B : Nat} {w0 w : World} {ρ : Rho} {h : AH} {tm : T} {a : Act} {o : Oper}

theorem REs.append {ρ : Rho} : ∀ {x y : List (AV × AV × Nat)} {l r : List MapEntry}, REs ρ x l → REs ρ y r → REs ρ (x ++ y) (l ++ r)
  | [], y, l, r, h1, h2 => by simp only [REs] at h1; subst h1; exact h2
  | e :: x, y, l, r, h1, h2 => by
    simp only [REs] at h1
    obtain ⟨en, l', rfl, a, b, c, d⟩ := h1
    exact ⟨en, l' ++ r, rfl, a, b, c, REs.append d h2⟩

theorem REs.get {ρ : Rho} : ∀ {x : List (AV × AV × Nat)} {l : List MapEntry} {j : Nat} {e : AV × AV × Nat}, REs ρ x l → x[j]? = some e → ∃ en, l[j]? = some en ∧ RV ρ e.1 en.key ∧ RV ρ e.2.1 en.val ∧ en.born = e.2.2
  | [], l, j, e, h, hj => by simp at hj
  | e' :: x, l, j, e, h, hj => by
    simp only [REs] at h
    obtain ⟨en, l', rfl, a, b, c, d⟩ := h
    cases j with
    | zero => simp only [List.getElem?_cons_zero, Option.some.injEq] at hj; subst hj; exact ⟨en, rfl, a, b, c⟩
    | succ j => simp only [List.getElem?_cons_succ] at hj ⊢; exact REs.get d hj

theorem REs.modify {ρ : Rho} {k v : AV} {K V : Value} (hk : RV ρ k K) (hv : RV ρ v V) : ∀ {x : List (AV × AV × Nat)} {l : List MapEntry} (i : Nat), REs ρ x l → REs ρ (x.modify i fun e => (k, v, e.2.2)) (l.modify i fun e => { e with key := K, val := V })
  | [], l, i, h => by simp only [REs] at h; subst h; cases i <;> simp [REs, List.modify]
  | e :: x, l, i, h => by
    simp only [REs] at h
    obtain ⟨en, l', rfl, a, b, c, d⟩ := h
    cases i with
    | zero => simp only [List.modify_zero_cons]; exact ⟨_, l', rfl, hk, hv, c, d⟩
    | succ i => simp only [List.modify_succ_cons]; exact ⟨en, _, rfl, a, b, c, REs.modify hk hv i d⟩

theorem REs.filter {ρ : Rho} (f : Nat → Bool) : ∀ {x : List (AV × AV × Nat)} {l : List MapEntry}, REs ρ x l → REs ρ (x.filter fun e => f e.2.2) (l.filter fun e => f e.born)
  | [], l, h => by simp only [REs] at h; subst h; simp [REs]
  | e :: x, l, h => by
    simp only [REs] at h
    obtain ⟨en, l', rfl, a, b, c, d⟩ := h
    simp only [List.filter_cons, c]
    split
    · exact ⟨en, _, rfl, a, b, c, REs.filter f d⟩
    · exact REs.filter f d

theorem REs.all {ρ : Rho} (f : Nat → Bool) : ∀ {x : List (AV × AV × Nat)} {l : List MapEntry}, REs ρ x l → (l.all fun e => f e.born) = (x.all fun e => f e.2.2)
  | [], l, h => by simp only [REs] at h; subst h; simp
  | e :: x, l, h => by
    simp only [REs] at h
    obtain ⟨en, l', rfl, a, b, c, d⟩ := h
    simp only [List.all_cons, c, REs.all f d]

theorem run_keyThatStays_self (S : ByteArray) (w : World) : (Instr.keyThatStays (.string S) (.string S)).run P w = .ok (.string S) w := by
  have : Instr.sameBits 10000 (.string S) (.string S) = true := by
    have : ∀ n, Instr.sameBits n (.string S) (.string S) = true := by
      intro n
      have hb : (S == S) = true := by rw [beq_toListBytes]; simp
      cases n <;> simp [Instr.sameBits, hb]
    exact this _
  simp only [Instr.keyThatStays, this, if_true, Sem.run_pure]

theorem updateV_sound (hE : EnvOK P E) (s : St B w0 ρ h w) {t : TypeId} {m k v : AV} {um uk uv : Value} (hm : RV ρ m um) (hk : RV ρ k uk) (hv : RV ρ v uv) {h' : AH} (hu : updateV E t m k v h = some h') :
    ∃ w', St B w0 ρ h' w' ∧ (Instr.mapUpdate t um uk uv).run P w = .ok () w' := by
  unfold updateV at hu
  split at hu
  · rename_i kt e _ _ _ _ _ _ _ hty
    have hun := ty_run hE hty w
    simp only at hun
    split at hu
    · rename_i _ _ _ _ _ _ _ hkt
      have hkund := ty_und hE hkt
      simp only at hkund
      split at hu
      · rename_i r ks
        have hk' := hk
        simp only [RV] at hk; obtain ⟨S, rfl, rfl⟩ := hk
        simp only [RV] at hm; obtain ⟨p, hp, rfl⟩ := hm
        split at hu
        · rename_i es c hg
          obtain ⟨A, hA, hrs⟩ := map_obj s hg hp
          have hnc : ∀ C t f, Obj.map ⟨A⟩ c ≠ .cells C t f := by intro C t f; simp
          split at hu
          · rename_i i x hfk
            simp only [Option.some.injEq] at hu; subst hu
            obtain ⟨q, hq1, hq2⟩ := findK_sound hrs hfk
            cases q with
            | none => simp at hq2
            | some q =>
              obtain ⟨j, u⟩ := q
              obtain ⟨rfl, _, _, e1, en, h5, h6, h7, h8⟩ := hq2
              simp only [Nat.sub_zero] at h5 h6
              refine ⟨putB w p.1 (.map ((⟨A⟩ : Array MapEntry).modify i fun e => { e with key := .string S, val := uv }) c), ?_, ?_⟩
              · refine s.put (by rw [hg]; rfl) hp _ _ ⟨A.modify i fun e => { e with key := .string S, val := uv }, ?_, REs.modify hk' hv i hrs⟩
                congr 2
                apply Array.ext'
                simp
              · simp only [Instr.mapUpdate, Sem.run_bind, hun, Result.andThen_ok, run_getObj hA hnc, run_checkKey_string hkund, run_findKey hkund S _ hq1]
                have : (((⟨A⟩ : Array MapEntry)[i]?).map (·.key)).getD (.string S) = .string S := by
                  simp [h6, h8]
                rw [this]
                simp only [run_keyThatStays_self, Result.andThen_ok, run_setObj hA hnc]
          · rename_i hfk
            simp only [Option.some.injEq] at hu; subst hu
            obtain ⟨q, hq1, hq2⟩ := findK_sound hrs hfk
            cases q with
            | some q => simp at hq2
            | none =>
              refine ⟨putB w p.1 (.map ((⟨A⟩ : Array MapEntry).push { key := .string S, val := uv, born := c }) (c + 1)), ?_, ?_⟩
              · refine s.put (by rw [hg]; rfl) hp _ _ ⟨A ++ [{ key := .string S, val := uv, born := c }], ?_, REs.append hrs ⟨_, [], rfl, hk', hv, rfl, by simp [REs]⟩⟩
                congr 2
                apply Array.ext'
                simp
              · simp only [Instr.mapUpdate, Sem.run_bind, hun, Result.andThen_ok, run_getObj hA hnc, run_checkKey_string hkund, run_findKey hkund S _ hq1, run_setObj hA hnc]
          · simp at hu
        · simp at hu
      · simp at hu
    · simp at hu
  · simp at hu

theorem rangeV_sound (hE : EnvOK P E) (s : St B w0 ρ h w) {t : TypeId} {v : AV} {u : Value} (hv : RV ρ v u) {h' : AH} (hu : rangeV E t v h = some h') :
    ∃ X, (Instr.range t u).run P w = .ok (.pointer (some ⟨w.heap.size, 0, none⟩)) (w.alloc X) ∧ St B w0 (ρ.snoc ((w.heap.size, 0))) h' (w.alloc X) := by
  unfold rangeV at hu
  split at hu
  · rename_i ti hty
    have hun := ty_run hE hty w
    split at hu
    · rename_i l hd
      rw [hd] at hun
      simp only [Option.some.injEq] at hu; subst hu
      simp only [RV] at hv; obtain ⟨S, rfl, rfl⟩ := hv
      exact ⟨.stringIter S 0, by simp [Instr.range, hun], s.new _ 0 _ ⟨S, rfl, rfl⟩⟩
    · rename_i k e hd
      rw [hd] at hun
      simp only [Option.some.injEq] at hu; subst hu
      simp only [RV] at hv; subst hv
      exact ⟨.mapIter none 0 #[] 0, by simp [Instr.range, hun], s.new _ 0 _ ⟨none, rfl, rfl⟩⟩
    · rename_i k e m hd
      rw [hd] at hun
      split at hu
      · rename_i es c hg
        simp only [Option.some.injEq] at hu; subst hu
        simp only [RV] at hv; obtain ⟨p, hp, rfl⟩ := hv
        obtain ⟨A, hA, hrs⟩ := map_obj s hg hp
        refine ⟨.mapIter (some p.1) c #[] c, ?_, s.new _ 0 _ ⟨some p.1, rfl, p, (Sub.snoc _ _).l _ _ hp, rfl⟩⟩
        simp [Instr.range, hun, run_getObj hA (by intro C t f; simp)]
      · simp at hu
    · simp at hu
  · simp at hu

theorem entryV_sound (s : St B w0 ρ h w) {r : Nat} {v : AV} {p : Nat × Nat} (hp : ρ.l[r]? = some p) (hv : entryV r h = some v) :
    ∃ u, (Instr.entry (.pointer (some ⟨p.1, 0, none⟩))).run P w = .ok u w ∧ RV ρ v u := by
  unfold entryV at hv
  split at hv
  · rename_i m since seen stepped hg
    obtain ⟨q, h1, ⟨M, hM, q2, hq2, rfl⟩, _⟩ := s.obj r _ hg
    rw [hp] at h1; simp only [Option.some.injEq] at h1; subst h1
    split at hv
    · rename_i st es clock hst hg2
      obtain ⟨A, hA, hrs⟩ := map_obj s hg2 hq2
      split at hv
      · rename_i hc
        subst hc
        split at hv
        · rename_i e he
          simp only [Option.some.injEq] at hv; subst hv
          have hfind : ∀ {x : List (AV × AV × Nat)} {l : List MapEntry}, REs ρ x l → ∀ e, x.find? (fun e => e.2.2 == st) = some e → ∃ en, l.find? (fun e => e.born == st) = some en ∧ RV ρ e.1 en.key ∧ RV ρ e.2.1 en.val := by
            intro x
            induction x with
            | nil => intro l _ e he; simp at he
            | cons y x ih =>
              intro l hl e he
              simp only [REs] at hl
              obtain ⟨en, l', rfl, a, b, c, d⟩ := hl
              simp only [List.find?_cons] at he ⊢
              rw [c]
              split at he
              · simp only [Option.some.injEq] at he; subst he
                rename_i hh
                exact ⟨en, by simp [hh], a, b⟩
              · rename_i hh
                obtain ⟨en', h1, h2⟩ := ih d e he
                exact ⟨en', by simp [hh, h1], h2⟩
          obtain ⟨en, h1, h2, h3⟩ := hfind hrs e he
          refine ⟨.tuple #[en.key, en.val], ?_, by simp only [RV]; exact ⟨[en.key, en.val], rfl, by simp only [RVs]; exact ⟨_, _, rfl, h2, _, _, rfl, h3, rfl⟩⟩⟩
          simp only [Instr.entry, Sem.run_bind, run_getObj hM (by intro C t f; simp), Result.andThen_ok]
          have hb : (⟨seen⟩ : Array Nat).back? = some st := by
            rw [← hst]; simp
          simp only [hb, Sem.run_bind, run_getObj hA (by intro C t f; simp), Result.andThen_ok]
          have hf : (⟨A⟩ : Array MapEntry).find? (fun e => e.born == st) = some en := by simpa using h1
          simp [hf]
        · simp at hv
      · simp at hv
    · simp at hv
  · simp at hv

theorem nextV_sound (s : St B w0 ρ h w) {r : Nat} {isS : Bool} {ty : TypeId} {l : List (AV × AH)} {p : Nat × Nat} (hp : ρ.l[r]? = some p) (hv : nextV r isS h = some l) :
    ∃ q ∈ l, ∃ u w', (Instr.next (.pointer (some ⟨p.1, 0, none⟩)) isS ty).run P w = .ok u w' ∧ RV ρ q.1 u ∧ St B w0 ρ q.2 w' := by
  unfold nextV at hv
  have hover : RV ρ (.tup [.bool false]) (.tuple #[.bool false]) := by
    simp only [RV]; exact ⟨[.bool false], rfl, by simp only [RVs, RV]; exact ⟨_, _, rfl, rfl, rfl⟩⟩
  split at hv
  · rename_i ss pos hg
    split at hv
    · rename_i hS
      subst hS
      obtain ⟨q, h1, ⟨S, hX, rfl⟩, _⟩ := s.obj r _ hg
      rw [hp] at h1; simp only [Option.some.injEq] at h1; subst h1
      have hnc : ∀ C t f, Obj.stringIter S pos ≠ .cells C t f := by intro C t f; simp
      split at hv
      · rename_i c hc
        split at hv
        · rename_i hlt
          simp only [Option.some.injEq] at hv; subst hv
          have hpos : pos < S.size := by
            have := (List.getElem?_eq_some_iff.1 hc).1
            rwa [bytesN_length] at this
          have hc' : c = (S[pos]'hpos).toNat := by
            unfold bytesN at hc
            rw [List.getElem?_map, Option.map_eq_some_iff] at hc
            obtain ⟨b, hb, rfl⟩ := hc
            rw [Array.getElem?_toList] at hb
            have : S.data[pos]? = some (S[pos]'hpos) := Array.getElem?_eq_getElem hpos
            rw [this] at hb
            simp only [Option.some.injEq] at hb
            rw [hb]
          refine ⟨_, List.mem_singleton.2 rfl, .tuple #[.bool true, goInt pos, .int .i32 c], putB w p.1 (.stringIter S (pos + 1)), ?_, ?_, ?_⟩
          · simp only [Instr.next, Sem.run_bind, run_getObj hX hnc, Result.andThen_ok]
            rw [if_pos hpos, decode_ascii S pos hpos (by omega)]
            simp only [Sem.run_bind, run_setObj hX hnc, Result.andThen_ok, Sem.run_pure, hc']
          · simp only [RV]; exact ⟨[.bool true, goInt pos, .int .i32 c], rfl, by simp only [RVs, RV, goInt]; exact ⟨_, _, rfl, rfl, _, _, rfl, rfl, _, _, rfl, rfl, rfl⟩⟩
          · exact s.put (by rw [hg]; rfl) hp _ _ ⟨S, rfl, rfl⟩
        · simp at hv
      · rename_i hc
        simp only [Option.some.injEq] at hv; subst hv
        have hpos : ¬ pos < S.size := by
          rw [List.getElem?_eq_none_iff, bytesN_length] at hc
          omega
        refine ⟨_, List.mem_singleton.2 rfl, .tuple #[.bool false], w, ?_, hover, s⟩
        simp only [Instr.next, Sem.run_bind, run_getObj hX hnc, Result.andThen_ok]
        rw [if_neg hpos, Sem.run_pure]
    · simp at hv
  · rename_i since seen last hg
    split at hv
    · simp at hv
    · rename_i hS
      have hS : isS = false := by simpa using hS
      subst hS
      simp only [Option.some.injEq] at hv; subst hv
      obtain ⟨q, h1, ⟨M, hX, rfl⟩, _⟩ := s.obj r _ hg
      rw [hp] at h1; simp only [Option.some.injEq] at h1; subst h1
      refine ⟨_, List.mem_singleton.2 rfl, .tuple #[.bool false], w, ?_, hover, s.drop r⟩
      simp only [Instr.next, Sem.run_bind, run_getObj hX (by intro C t f; simp), Result.andThen_ok, Sem.run_pure]
  · rename_i m since seen last hg
    split at hv
    · simp at hv
    · rename_i hS
      have hS : isS = false := by simpa using hS
      subst hS
      obtain ⟨q, h1, ⟨M, hX, q2, hq2, rfl⟩, _⟩ := s.obj r _ hg
      rw [hp] at h1; simp only [Option.some.injEq] at h1; subst h1
      have hnc : ∀ C t f, Obj.mapIter (some q2.1) since ⟨seen⟩ last ≠ .cells C t f := by intro C t f; simp
      split at hv
      · rename_i es clock hg2
        obtain ⟨A, hA, hrs⟩ := map_obj s hg2 hq2
        have hncA : ∀ C t f, Obj.map ⟨A⟩ clock ≠ .cells C t f := by intro C t f; simp
        split at hv
        · simp at hv
        · rename_i hgone
          simp only [Option.some.injEq] at hv
          have hlen := hrs.length
          have hgone' : (!(⟨seen⟩ : Array Nat).isEmpty && !(⟨A⟩ : Array MapEntry).isEmpty && (⟨A⟩ : Array MapEntry).all (fun e => decide (e.born ≥ last))) = false := by
            rw [← Bool.not_eq_true]
            intro hc
            apply hgone
            have e1 : (⟨A⟩ : Array MapEntry).isEmpty = es.isEmpty := by
              cases es <;> cases A <;> simp_all
            have e2 : (⟨A⟩ : Array MapEntry).all (fun e => decide (e.born ≥ last)) = es.all (fun e => decide (e.2.2 ≥ last)) := by
              rw [← REs.all (fun n => decide (n ≥ last)) hrs]; simp
            have e3 : (⟨seen⟩ : Array Nat).isEmpty = seen.isEmpty := by cases seen <;> rfl
            rw [e1, e2, e3] at hc
            exact hc
          have hleft := REs.filter (fun n => !seen.contains n) hrs
          have hold := REs.filter (fun n => decide (n < since)) hleft
          have hnew := REs.filter (fun n => decide (n ≥ since)) hleft
          have hcand := REs.append hold hnew
          generalize hEl : (A.filter fun e => !seen.contains e.born) = L at hleft hold hnew hcand
          have hrun : ∀ (cands : Array (Option MapEntry)), cands = ((if (L.filter fun e : MapEntry => decide (e.born < since)).isEmpty then [none] else []) ++ ((L.filter fun e : MapEntry => decide (e.born < since)) ++ (L.filter fun e : MapEntry => decide (e.born ≥ since))).map some).toArray →
              (Instr.next (.pointer (some ⟨p.1, 0, none⟩)) false ty).run P w = ((choose (.mapNext cands.size)).run P w).andThen fun i w => (match cands[i]? with
                | some (some e) => (do setObj p.1 (.mapIter (some q2.1) since ((⟨seen⟩ : Array Nat).push e.born) clock); pure (.tuple #[.bool true, e.key, e.val]) : Sem Value)
                | some none => pure (.tuple #[.bool false])
                | none => stuck "Next: no such candidate" : Sem Value).run P w := by
            intro cands hc
            simp only [Instr.next, Sem.run_bind, run_getObj hX hnc, run_getObj hA hncA, Result.andThen_ok]
            rw [if_neg (by rw [hgone']; simp)]
            have : cands = (if (((⟨A⟩ : Array MapEntry).filter fun e => !(⟨seen⟩ : Array Nat).contains e.born).filter fun e => decide (e.born < since)).isEmpty then #[none] else #[]) ++
              ((((⟨A⟩ : Array MapEntry).filter fun e => !(⟨seen⟩ : Array Nat).contains e.born).filter fun e => decide (e.born < since)) ++ (((⟨A⟩ : Array MapEntry).filter fun e => !(⟨seen⟩ : Array Nat).contains e.born).filter fun e => decide (e.born ≥ since))).map some := by
              rw [hc]
              have e0 : ((⟨A⟩ : Array MapEntry).filter fun e => !(⟨seen⟩ : Array Nat).contains e.born) = ⟨L⟩ := by
                apply Array.ext'
                rw [Array.toList_filter, ← hEl]
                simp
              rw [e0]
              apply Array.ext'
              have e1 : ((⟨L⟩ : Array MapEntry).filter fun e => decide (e.born < since)).isEmpty = (L.filter fun e : MapEntry => decide (e.born < since)).isEmpty := by
                rw [← Array.isEmpty_toList, Array.toList_filter]
              rw [e1]
              cases (L.filter fun e : MapEntry => decide (e.born < since)).isEmpty <;> simp
            rw [this]
            exact Sem.run_bind ..
          obtain ⟨cands, hcs⟩ : ∃ cands : Array (Option MapEntry), cands = ((if (L.filter fun e : MapEntry => decide (e.born < since)).isEmpty then [none] else []) ++ ((L.filter fun e : MapEntry => decide (e.born < since)) ++ (L.filter fun e : MapEntry => decide (e.born ≥ since))).map some).toArray := ⟨_, rfl⟩
          have hr := hrun cands hcs
          have hpos : 0 < cands.size := by
            rw [hcs]
            cases hL : L.filter fun e : MapEntry => decide (e.born < since) <;> simp
          -- an answer that there is
          have hch : ∃ i w1, (choose (.mapNext cands.size)).run P w = .ok i w1 ∧ i < cands.size ∧ (w1 = w ∨ w1 = w.drew) := by
            rw [run_choose_drew]
            split
            · exact ⟨0, w, rfl, hpos, .inl rfl⟩
            · exact ⟨_, w.drew, rfl, Nat.mod_lt _ hpos, .inr rfl⟩
          obtain ⟨i, w1, hc1, hi, hw1⟩ := hch
          have s1 : St B w0 ρ h w1 := by
            rcases hw1 with rfl | rfl
            · exact s
            · exact s.drew
          have hX1 : w1.heap[p.1]? = some (.mapIter (some q2.1) since ⟨seen⟩ last) := by
            rcases hw1 with rfl | rfl
            · exact hX
            · exact hX
          rw [hc1, Result.andThen_ok] at hr
          obtain ⟨ce, hce⟩ : ∃ ce, cands[i]? = some ce := ⟨_, Array.getElem?_eq_getElem hi⟩
          rw [hce] at hr
          have hmem : ce ∈ cands.toList := by
            rw [← Array.getElem?_toList] at hce
            exact List.mem_of_getElem? hce
          rw [hcs] at hmem
          have holdlen := hold.length
          cases ce with
          | none =>
            have hemp : (L.filter fun e : MapEntry => decide (e.born < since)).isEmpty = true := by
              cases hb : (L.filter fun e : MapEntry => decide (e.born < since)).isEmpty with
              | true => rfl
              | false => rw [hb] at hmem; simp at hmem
            refine ⟨(.tup [.bool false], h.set r none), ?_, .tuple #[.bool false], w1, ?_, hover, s1.drop r⟩
            · rw [← hv]
              apply List.mem_append_left
              have : ((es.filter fun e => !seen.contains e.2.2).filter fun e => decide (e.2.2 < since)).isEmpty = true := by
                rw [List.isEmpty_iff_length_eq_zero] at hemp ⊢
                omega
              rw [if_pos this]
              simp
            · simpa using hr
          | some e =>
            have he : e ∈ (L.filter fun e : MapEntry => decide (e.born < since)) ++ (L.filter fun e : MapEntry => decide (e.born ≥ since)) := by
              rcases List.mem_append.1 hmem with hm | hm
              · split at hm <;> simp at hm
              · obtain ⟨e', he', heq⟩ := List.mem_map.1 hm
                simp only [Option.some.injEq] at heq; subst heq
                exact he'
            obtain ⟨j, hj, hje⟩ := List.getElem_of_mem he
            have hj' : j < (((es.filter fun e => !seen.contains e.2.2).filter fun e => decide (e.2.2 < since)) ++ ((es.filter fun e => !seen.contains e.2.2).filter fun e => decide (e.2.2 ≥ since))).length := by
              rw [hcand.length]; exact hj
            obtain ⟨Y, hY⟩ : ∃ Y, (((es.filter fun e => !seen.contains e.2.2).filter fun e => decide (e.2.2 < since)) ++ ((es.filter fun e => !seen.contains e.2.2).filter fun e => decide (e.2.2 ≥ since)))[j]? = some Y := ⟨_, List.getElem?_eq_getElem hj'⟩
            obtain ⟨en, hen, hk, hvv, hb⟩ := REs.get hcand hY
            have : en = e := by
              rw [List.getElem?_eq_getElem hj] at hen
              simp only [Option.some.injEq] at hen
              rw [← hen]; exact hje
            subst this
            refine ⟨(.tup [.bool true, Y.1, Y.2.1], h.set r (some (.miter (some m) since (seen ++ [Y.2.2]) clock))), ?_, .tuple #[.bool true, en.key, en.val], putB w1 p.1 (.mapIter (some q2.1) since ((⟨seen⟩ : Array Nat).push en.born) clock), ?_, ?_, ?_⟩
            rotate_left
            · rw [hr]
              simp only [Sem.run_bind, run_setObj hX1 hnc, Result.andThen_ok, Sem.run_pure]
            · simp only [RV]
              exact ⟨[.bool true, en.key, en.val], rfl, by
                simp only [RVs, RV]
                exact ⟨_, _, rfl, rfl, _, _, rfl, hk, _, _, rfl, hvv, rfl⟩⟩
            · refine s1.put (by rw [hg]; rfl) hp (.miter (some m) since (seen ++ [Y.2.2]) clock) _ ⟨some q2.1, ?_, q2, hq2, rfl⟩
              rw [← hb]
              congr 2
              apply Array.ext'
              simp
            · rw [← hv]
              apply List.mem_append_right
              exact List.mem_map.2 ⟨Y, List.mem_of_getElem? hY, rfl⟩
      · simp at hv
  · simp at hv
end
end Go.Ev
/- An evaluator of closed calls over abstract memory: each operation. -/
namespace Go.Ev
open Go.RowKit
set_option autoImplicit false
set_option linter.unusedSimpArgs false
set_option linter.unusedVariables false

variable {P : Program}
section
variable {E : Env} {B : Nat} {w0 w : World} {ρ : Rho} {h : AH} {tm : T} {a : Act} {o : Oper}

theorem oSlice_ok (hE : EnvOK P E) (s : St B w0 ρ h w) (r : RT ρ tm a) {t : TypeId} {x : Operand} {lo hi mx : Option Operand} (ho : o.op = .slice t x lo hi mx) : OpOK P B w0 ρ o a w (oSlice t x lo hi mx E tm h) := by
  unfold oSlice
  split
  · rename_i v hx
    refine ok_one s fun y hy => ?_
    obtain ⟨u, h1, h2⟩ := sliceV_sound (w := w) hE r (opnd_sound r hx) hy
    exact ⟨u, by simp only [execOp, ho, Sem.run_bind, h1, Result.andThen_ok, Sem.run_pure], h2⟩
  · trivial

theorem oConv_ok (hE : EnvOK P E) (s : St B w0 ρ h w) (r : RT ρ tm a) {src dst : TypeId} {x : Operand} (ho : o.op = .convert src dst x) : OpOK P B w0 ρ o a w (oConv src dst x E tm h) := by
  unfold oConv
  split
  · rename_i v hx
    split
    · rename_i q hq
      obtain ⟨ρ', y, w', h1, h2, h3, h4⟩ := convB_sound hE s (opnd_sound r hx) hq
      exact ⟨(q.1, q.2), by simp, ρ', y, w', h1, h2, h3, .inl (by simp only [execOp, ho, Sem.run_bind, h4, Result.andThen_ok, Sem.run_pure])⟩
    · refine ok_one s fun y hy => ?_
      obtain ⟨u, h1, h2⟩ := convV_sound hE s (opnd_sound r hx) hy
      exact ⟨u, by simp only [execOp, ho, Sem.run_bind, h1, Result.andThen_ok, Sem.run_pure], h2⟩
  · trivial

theorem oLookup_ok (hE : EnvOK P E) (s : St B w0 ρ h w) (r : RT ρ tm a) {t : TypeId} {x k : Operand} {ok : Bool} (ho : o.op = .lookup t x k ok) : OpOK P B w0 ρ o a w (oLookup t x k ok E tm h) := by
  unfold oLookup
  split
  · rename_i m k hx hk
    refine ok_one s fun y hy => ?_
    obtain ⟨u, h1, h2⟩ := lookupV_sound hE s (opnd_sound r hx) (opnd_sound r hk) hy
    exact ⟨u, by simp only [execOp, ho, Sem.run_bind, h1, Result.andThen_ok, Sem.run_pure], h2⟩
  · trivial

theorem oUpdate_ok (hE : EnvOK P E) (s : St B w0 ρ h w) (r : RT ρ tm a) {t : TypeId} {m k x : Operand} (ho : o.op = .mapUpdate t m k x ∨ o.op = .insert t m k x) : OpOK P B w0 ρ o a w (oUpdate t m k x E tm h) := by
  unfold oUpdate
  split
  · rename_i m k v hm hk hv
    refine ok_h fun h' hh => ?_
    obtain ⟨w', h1, h2⟩ := updateV_sound hE s (opnd_sound r hm) (opnd_sound r hk) (opnd_sound r hv) hh
    refine ⟨w', h1, ?_⟩
    rcases ho with ho | ho <;> simp only [execOp, ho, Sem.run_bind, h2, Result.andThen_ok, Sem.run_pure]
  · trivial

theorem oRange_ok (hE : EnvOK P E) (s : St B w0 ρ h w) (r : RT ρ tm a) {t : TypeId} {x : Operand} (ho : o.op = .range t x) : OpOK P B w0 ρ o a w (oRange t x E tm h) := by
  unfold oRange
  split
  · rename_i v hx
    split
    · rename_i h' hh
      obtain ⟨X, h1, h2⟩ := rangeV_sound hE s (opnd_sound r hx) hh
      refine ⟨(.ptr h.next 0, h'), by simp [val], _, .pointer (some ⟨w.heap.size, 0, none⟩), _, Sub.snoc _ _, h2, ?_, .inl (by simp only [execOp, ho, Sem.run_bind, h1, Result.andThen_ok, Sem.run_pure])⟩
      simp only [RV]; exact ⟨_, last_get ρ s _, rfl⟩
    · trivial
  · trivial

theorem oNext_ok (s : St B w0 ρ h w) (r : RT ρ tm a) {it : Operand} {isS : Bool} (ho : o.op = .next it isS) : OpOK P B w0 ρ o a w (oNext it isS E tm h) := by
  unfold oNext
  split
  · rename_i b hx
    have hp := opnd_sound r hx
    simp only [RV] at hp; obtain ⟨p, hp, he⟩ := hp
    split
    · rename_i l hl
      obtain ⟨q, hq, u, w', h1, h2, h3⟩ := nextV_sound (P := P) (ty := o.type) s hp hl
      exact ⟨q, hq, ρ, u, w', Sub.refl _, h3, h2, .inl (by simp only [execOp, ho, he, Sem.run_bind, h1, Result.andThen_ok, Sem.run_pure])⟩
    · trivial
  · trivial

theorem oEntry_ok (s : St B w0 ρ h w) (r : RT ρ tm a) {it : Operand} (ho : o.op = .entry it) : OpOK P B w0 ρ o a w (oEntry it E tm h) := by
  unfold oEntry
  split
  · rename_i b hx
    have hp := opnd_sound r hx
    simp only [RV] at hp; obtain ⟨p, hp, he⟩ := hp
    refine ok_one s fun y hy => ?_
    obtain ⟨u, h1, h2⟩ := entryV_sound (P := P) s hp hy
    exact ⟨u, by simp only [execOp, ho, he, Sem.run_bind, h1, Result.andThen_ok, Sem.run_pure], h2⟩
  · trivial

theorem callV_sound (hE : EnvOK P E) (s : St B w0 ρ h w) {f : FuncId} {args : List AV} {vs : List Value} (hv : RVs ρ args vs) (hr : (execOp a.eval o).run P w = (callFunc f ⟨vs⟩).run P w) : OpOK P B w0 ρ o a w (callV E f args h) := by
  unfold callV
  split
  · rename_i fn hf
    obtain ⟨h1, h2⟩ := hE.fn f fn hf
    split
    · rename_i c hc
      refine ⟨vs, hv, ?_⟩
      rw [hr]
      simp only [callFunc, program, Sem.run_bind, Sem.run, Result.andThen_ok, h1, h2, Bool.false_eq_true, if_false, hc, Option.isNone_some, Sem.run_pure]
    · rename_i hc
      cases hx : E.ext f args h with
      | none => trivial
      | some q =>
        obtain ⟨v, h'⟩ := q
        obtain ⟨ρ', u, w', a1, a2, a3, a4⟩ := hE.ext f fn args h v h' hf hc hx B w0 ρ w vs s hv
        exact ⟨(v, h'), by simp, ρ', u, w', a1, a2, a3, .inl (by rw [hr, a4])⟩
  · trivial

theorem appF_sound (hE : EnvOK P E) (s : St B w0 ρ h w) {t t2 ty : TypeId} {y v : AV} {uy : Value} (hy : RV ρ y uy) (hv : appF E t t2 y h = some v) (ts : List TypeId) (rest : List Value) :
    ∃ ρ' u w', Sub ρ ρ' ∧ St B w0 ρ' h w' ∧ RV ρ' v u ∧ (Builtin.append_ ⟨t :: t2 :: ts⟩ ty ⟨.slice none 0 0 :: uy :: rest⟩).run P w = .ok u w' := by
  unfold appF at hv
  split at hv
  · rename_i e _ _ _ _ _ _ _ ti2 hty hty2
    have hu := ty_und hE hty
    simp only at hu
    have hu2 := ty_und hE hty2
    split at hv
    · simp at hv
    · rename_i hni
      split at hv
      · rename_i ti n hte hn
        split at hv
        · rename_i z nw hz hnw
          split at hv
          · rename_i hc0
            obtain ⟨hzl, hnwl, hb1, hb2⟩ := hc0
            simp only [Option.some.injEq] at hv; subst hv
            obtain ⟨i, hi, hi1, hi2, hi3⟩ := ty_info hE hte
            rw [hz] at hi3
            obtain ⟨zv, hzv, hzv2⟩ : ∃ zv, i.zero = some zv ∧ ofVs zv.cells.toList = some z := by
              cases hq : i.zero with
              | none => simp [hq] at hi3
              | some q => exact ⟨q, rfl, by simpa [hq] using hi3.symm⟩
            have hln := lenV_sound (P := P) hy hn w
            obtain ⟨us, hus, hcont⟩ := contentV_sound (P := P) s hy hnw
            obtain ⟨us', hus', hcont'⟩ := contentV_sound (P := P) s.drew hy hnw
            by_cases hn0 : n = 0
            · subst hn0
              have hnw0 : nw = [] := List.eq_nil_of_length_eq_zero (by simpa using hnwl)
              subst hnw0
              refine ⟨ρ, .slice none 0 0, w, Sub.refl _, s, ?_, ?_⟩
              · unfold RV
                exact ⟨none, 0, rfl, Nat.le_refl _, fun _ => ⟨rfl, rfl⟩, .inl rfl⟩
              · have := run_append_in (ty := ty) (sLen := 0) (sCap := 0) (base := none) (w' := w) hu hu2 hni (ty_size hE hte w) hln hcont (by omega) (by simp) (fun _ => rfl) ts rest
                simpa using this
            · have hcap := grownCap_ge w (0 + n) 0 e
              have hrun := run_append_out (ty := ty) (sLen := 0) (sCap := 0) (base := none) (olds := []) hu hu2 hni hi hzv hln (by rfl) (by rw [hi1]; exact hcont') (by omega) (by rw [hi2]; simpa using hb1) (by simpa using hb2) ts rest
              obtain ⟨g1, g2⟩ := s.drew.readNew (.cells (⟨[]⟩ ++ ⟨us'⟩ ++ Builtin.zeroCells zv.cells (grownCap w (0 + n) 0 e - (0 + n))) e)
              refine ⟨_, _, _, g1, g2, ?_, hrun⟩
              unfold RV
              refine ⟨some ⟨w.heap.size, 0, none⟩, grownCap w (0 + n) 0 e, by simp, by omega, fun h => by simp at h, ?_⟩
              refine .inr ⟨w.heap.size, 0, ((⟨[]⟩ : Array Value) ++ (⟨us'⟩ : Array Value) ++ Builtin.zeroCells zv.cells (grownCap w (0 + n) 0 e - (0 + n))), e, (0, 0), rfl, ?_, ?_⟩
              · show (if w.heap.size = w.heap.size then some _ else _) = _
                rw [if_pos rfl]
              have hl := hus'.length
              have ht : List.take nw.length (List.drop 0 ((⟨[]⟩ ++ ⟨us'⟩ ++ Builtin.zeroCells zv.cells (grownCap w (0 + n) 0 e - (0 + n)) : Array Value)).toList) = us' := by
                simp [hl]
              rw [ht]
              exact hus'.mono g1
          · simp at hv
        · simp at hv
      · simp at hv
  · simp at hv

theorem oCall_ok (hE : EnvOK P E) (s : St B w0 ρ h w) (r : RT ρ tm a) {c : Call} (ho : o.op = .call c) : OpOK P B w0 ρ o a w (oCall c E tm h) := by
  unfold oCall
  split
  · rename_i args hargs
    have hv := opnds_sound r hargs
    have hmap : c.args.map a.eval = ⟨c.args.toList.map a.eval⟩ := Array.ext' (by simp)
    split
    · rename_i hfz
      cases hb : appC E c.argTypes.toList args h with
      | none => trivial
      | some v =>
        have hcal : c.callee = .builtin .append := by
          simp only [Bool.and_eq_true] at hfz
          have := hfz.2
          unfold nilAppend at this
          split at this
          · assumption
          · simp at this
        unfold appC at hb
        split at hb
        · rename_i t t2 ts x rest h1
          simp only [RVs] at hv
          obtain ⟨u0, r0, hl0, h00, u1, r1, rfl, h11, _⟩ := hv
          simp only [RV] at h00; subst h00
          obtain ⟨ρ', u, w', a1, a2, a3, a4⟩ := appF_sound (ty := o.type) hE s h11 hb ts r1
          refine ⟨(v, h), by simp [oneVal, val], ρ', u, w', a1, a2, a3, .inl ?_⟩
          have hts : c.argTypes = ⟨t :: t2 :: ts⟩ := Array.ext' h1
          simp only [execOp, ho, resolve, hcal, Sem.run_bind, Sem.run_pure, Result.andThen_ok, invoke, hmap, hl0, hts]
          simp only [Go.builtin, Sem.run_bind, a4, Result.andThen_ok]
          rfl
        · simp at hb
    unfold oCallee
    split
    · rename_i b hcal
      cases hb : Ev.builtin E b c.argTypes.toList args h with
      | none => trivial
      | some q =>
        obtain ⟨v, h'⟩ := q
        obtain ⟨ρ', u, w', a1, a2, a3, a4⟩ := builtin_sound (ty := o.type) (cs := c.args.map fun | .const _ => true | _ => false) hE s hv hb
        refine ⟨(v, h'), by simp, ρ', u, w', a1, a2, a3, .inl ?_⟩
        simp only [execOp, ho, resolve, hcal, Sem.run_bind, Sem.run_pure, Result.andThen_ok, invoke, hmap]
        exact a4
    · rename_i f hcal
      split
      · rename_i g x y hf
        have hfv := opnd_sound r hf
        simp only [RV] at hfv; obtain ⟨X, Y, he, hX, hY⟩ := hfv
        refine callV_sound hE s ((hX.append hv).append hY) ?_
        simp only [execOp, ho, resolve, hcal, Sem.run_bind, Sem.run_pure, Result.andThen_ok, he, Deferred.ofValue, invoke, hmap]
        congr 2
        all_goals first | rfl | (apply Array.ext'; simp)
      · trivial
    · trivial
  · trivial

theorem evOp_ok (hE : EnvOK P E) (s : St B w0 ρ h w) (r : RT ρ tm a) : OpOK P B w0 ρ o a w (evOp E tm o h) := by
  unfold evOp
  cases ho : o.op with
  | move x => exact oMove_ok (E := E) s r (.inl ho)
  | assign x => exact oMove_ok (E := E) s r (.inr ho)
  | pick c x y => exact oPick_ok (E := E) s r ho
  | alloc t => exact oAlloc_ok (E := E) (tm := tm) hE s ho
  | box t x => exact oBox_ok (E := E) s r ho
  | build t ps => exact oBuild_ok (E := E) hE s r ho
  | buildSlice t n ps => exact oBuildSlice_ok (E := E) hE s r ho
  | load t x => exact oLoad_ok (E := E) hE s r ho
  | store t x y => exact oStore_ok (E := E) hE s r ho
  | nilCheck x => exact oNil_ok (E := E) s r ho
  | binOp op t x y t2 => exact oBin_ok (E := E) hE s r ho
  | unOp op t x => exact oUn_ok (E := E) s r ho
  | convert x y z => exact oConv_ok (E := E) hE s r ho
  | makeInterface t x => exact oIface_ok (E := E) hE s r ho
  | makeFunc f x y => exact oFunc_ok (E := E) s r ho
  | makeMap t x => exact oMakeMap_ok (E := E) (tm := tm) s ho
  | makeSlice t l c => exact oMakeSlice_ok (E := E) hE s r ho
  | slice t x lo hi mx => exact oSlice_ok (E := E) hE s r ho
  | fieldAddr t x f => exact oFieldAddr_ok (E := E) hE s r ho
  | field t x f => exact oField_ok (E := E) hE s r ho
  | indexAddr t x i => exact oIndexAddr_ok (E := E) hE s r ho
  | index t x i => exact oIndex_ok (E := E) hE s r ho
  | lookup t x k ok => exact oLookup_ok (E := E) hE s r ho
  | mapUpdate t m k x => exact oUpdate_ok (E := E) hE s r (.inl ho)
  | insert t m k x => exact oUpdate_ok (E := E) hE s r (.inr ho)
  | range t x => exact oRange_ok (E := E) hE s r ho
  | next x i => exact oNext_ok (E := E) s r ho
  | entry x => exact oEntry_ok (E := E) s r ho
  | extract x i => exact oExtract_ok (E := E) s r ho
  | call c => exact oCall_ok (E := E) hE s r ho
  | _ => trivial
end
end Go.Ev
