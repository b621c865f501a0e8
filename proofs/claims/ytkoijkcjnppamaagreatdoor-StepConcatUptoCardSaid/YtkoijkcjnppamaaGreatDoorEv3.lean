/- Operations on fields, slices, strings, integers do as the evaluator says. Conditions: a table of the program (EnvOK). -/
import Derived.Test.YtkoijkcjnppamaaGreatDoorEv2
import Derived.Laws.Slices
import Derived.Laws.BytesString
import Derived.Laws.StructEq
import Derived.Laws.Cover1
import Derived.Lib.Strings
import Derived.Laws.AppendOwn
/- An evaluator of closed calls over abstract memory: operations, one by one (2): fields, indexes, literals. -/
namespace Go.Ev
open Go.RowKit
set_option autoImplicit false
set_option linter.unusedSimpArgs false
set_option linter.unusedVariables false

variable {P : Program}

theorem fieldsTI_get : ∀ {fs : List Field} {l : List (Nat × Nat × Bool)}, fieldsTI P fs = some l → ∀ {i : Nat} {x : Nat × Nat × Bool}, l[i]? = some x → ∃ f, fs[i]? = some f ∧ fieldTI P f = some x
  | [], l, h, i, x, hx => by simp only [fieldsTI, Option.some.injEq] at h; subst h; simp at hx
  | f :: fs, l, h, i, x, hx => by
    simp only [fieldsTI] at h
    split at h
    · rename_i a b ha hb
      simp only [Option.some.injEq] at h; subst h
      cases i with
      | zero => simp only [List.getElem?_cons_zero, Option.some.injEq] at hx; subst hx; exact ⟨f, rfl, ha⟩
      | succ i => simp only [List.getElem?_cons_succ] at hx ⊢; exact fieldsTI_get hb hx
    · simp at h

theorem fieldTI_facts {f : Field} {x : Nat × Nat × Bool} (h : fieldTI P f = some x) (w : World) :
    f.offset = x.1 ∧ (sizeOf f.type).run P w = .ok x.2.1 w ∧ (isAgg f.type).run P w = .ok x.2.2 w := by
  unfold fieldTI at h
  split at h
  · rename_i j d hj hd
    simp only [Option.some.injEq] at h; subst h
    refine ⟨rfl, by simp [sizeOf, typeInfo, hj], ?_⟩
    simp only [isAgg, Sem.run_bind, run_underlying hd, Result.andThen_ok]
    cases d <;> rfl
  · simp at h

section
variable {E : Env} {B : Nat} {w0 w : World} {ρ : Rho} {h : AH} {tm : T} {a : Act} {o : Oper}

theorem struct_field (hE : EnvOK P E) {t : TypeId} {ti : TI} (hty : E.ty t = some ti) {i : Nat} {x : Nat × Nat × Bool} (hx : ti.flds[i]? = some x) (w : World) (hs : ∃ fs, ti.und = .struct fs) :
    ∃ fs f, ti.und = .struct fs ∧ fs[i]? = some f ∧ f.offset = x.1 ∧ (sizeOf f.type).run P w = .ok x.2.1 w ∧ (isAgg f.type).run P w = .ok x.2.2 w := by
  obtain ⟨fs, hu⟩ := hs
  have hf := (TI.facts (hE.ty t ti hty)).2.2.2.1 fs hu
  obtain ⟨f, h1, h2⟩ := fieldsTI_get hf hx
  obtain ⟨h3, h4, h5⟩ := fieldTI_facts h2 w
  exact ⟨fs, f, hu, by rw [← Array.getElem?_toList]; exact h1, h3, h4, h5⟩

/-- Fields are known of structs alone. -/
theorem flds_struct {t : TypeId} {ti : TI} (h : TI.of P t = some ti) {i : Nat} {x : Nat × Nat × Bool} (hx : ti.flds[i]? = some x) : ∃ fs, ti.und = .struct fs := by
  unfold TI.of at h
  split at h
  · rename_i j d hj hd
    split at h
    · rename_i fs hfs
      simp only [Option.some.injEq] at h; subst h
      cases d with
      | struct fa => exact ⟨fa, rfl⟩
      | _ => simp only [Option.some.injEq] at hfs; subst hfs; simp at hx
    · simp at h
  · simp at h

theorem oFieldAddr_ok (hE : EnvOK P E) (s : St B w0 ρ h w) (r : RT ρ tm a) {t : TypeId} {x : Operand} {f : Nat} (ho : o.op = .fieldAddr t x f) : OpOK P B w0 ρ o a w (oFieldAddr t x f E tm h) := by
  unfold oFieldAddr
  split
  · rename_i av hx
    refine ok_one s fun v hv => ?_
    unfold fieldAddrV at hv
    split at hv
    · rename_i b off ti hty
      split at hv
      · rename_i o1 sz ag hf
        split at hv
        · simp at hv
        · rename_i hsz
          simp only [Option.some.injEq] at hv; subst hv
          have hr := opnd_sound r hx
          simp only [RV] at hr
          obtain ⟨p, hp, he⟩ := hr
          obtain ⟨fs, fl, hu, hfl, h1, h2, h3⟩ := struct_field hE hty hf w (flds_struct (hE.ty _ _ hty) hf)
          refine ⟨.pointer (some ⟨p.1, off + o1, none⟩), ?_, by simp only [RV]; exact ⟨p, hp, rfl⟩⟩
          simp only [execOp, ho, Instr.fieldAt, Sem.run_bind, ty_run hE hty w, Result.andThen_ok, hu, hfl, he, Instr.sureAddr, Sem.run_pure, fieldPlace, h2, h1, hsz, if_false, add_mk]
      · simp at hv
    · rename_i l ti hty
      split at hv
      · rename_i o1 sz ag hf
        split at hv
        · simp at hv
        · rename_i hsz
          simp only [Option.some.injEq] at hv; subst hv
          have hr := opnd_sound r hx
          simp only [RV] at hr
          obtain ⟨b, off, X, t', fr, he, hR, hl⟩ := hr
          obtain ⟨fs, fl, hu, hfl, h1, h2, h3⟩ := struct_field hE hty hf w (flds_struct (hE.ty _ _ hty) hf)
          refine ⟨.pointer (some ⟨b, off + o1, none⟩), ?_, by simp only [RV]; exact ⟨b, off + o1, X, t', fr, rfl, hR, hl.xdrop o1⟩⟩
          simp only [execOp, ho, Instr.fieldAt, Sem.run_bind, ty_run hE hty w, Result.andThen_ok, hu, hfl, he, Instr.sureAddr, Sem.run_pure, fieldPlace, h2, h1, hsz, if_false, add_mk]
      · simp at hv
    · simp at hv
  · trivial

theorem partOf_sound {t : TypeId} {sz : Nat} {ag : Bool} (h1 : (sizeOf t).run P w = .ok sz w) (h2 : (isAgg t).run P w = .ok ag w) {l : List AV} {us : List Value} (hl : RVs ρ l us) {off : Nat} {v : AV} (hv : partOf ag l off sz = some v) :
    ∃ u, (part t ⟨us⟩ off).run P w = .ok u w ∧ RV ρ v u := by
  unfold partOf at hv
  split at hv
  · rename_i hag
    simp only [Option.map_eq_some_iff] at hv
    obtain ⟨cs, hc, rfl⟩ := hv
    unfold sliceL at hc
    simp only at hc
    split at hc
    · simp only [Option.some.injEq] at hc; subst hc
      refine ⟨.agg ((⟨us⟩ : Array Value).extract off (off + sz)), ?_, ?_⟩
      · simp only [part, Sem.run_bind, h2, Result.andThen_ok, hag, if_true, h1, Sem.run_pure]
      · simp only [RV]
        refine ⟨(us.drop off).take sz, ?_, (hl.drop off).take sz⟩
        congr 1
        apply Array.ext'
        simp [Array.toList_extract, List.extract_eq_take_drop, Nat.add_sub_cancel_left]
    · simp at hc
  · rename_i hag
    obtain ⟨u, hu, hr⟩ := hl.get hv
    refine ⟨u, ?_, hr⟩
    simp only [part, Sem.run_bind, h2, Result.andThen_ok, hag, if_false, Bool.false_eq_true]
    simp [hu]

theorem oField_ok (hE : EnvOK P E) (s : St B w0 ρ h w) (r : RT ρ tm a) {t : TypeId} {x : Operand} {f : Nat} (ho : o.op = .field t x f) : OpOK P B w0 ρ o a w (oField t x f E tm h) := by
  unfold oField
  split
  · rename_i av hx
    refine ok_one s fun v hv => ?_
    unfold fieldV at hv
    split at hv
    · rename_i l ti hty
      split at hv
      · rename_i o1 sz ag hf
        have hr := opnd_sound r hx
        simp only [RV] at hr
        obtain ⟨A, he, hl⟩ := hr
        obtain ⟨fs, fl, hu, hfl, h1, h2, h3⟩ := struct_field hE hty hf w (flds_struct (hE.ty _ _ hty) hf)
        simp only at h1 h2 h3
        obtain ⟨u, hu1, hu2⟩ := partOf_sound (P := P) h2 h3 hl hv
        refine ⟨u, ?_, hu2⟩
        simp only [execOp, ho, Instr.field, Sem.run_bind, ty_run hE hty w, Result.andThen_ok, hu, hfl, he, asAgg, Sem.run_pure, h1, hu1]
      · simp at hv
    · simp at hv
  · trivial

theorem indexAddrV_sound (hE : EnvOK P E) {t : TypeId} {x v : AV} {i : Int} {k : IntKind} {u : Value} (hx : RV ρ x u) (hv : indexAddrV E t x i = some v) : ∃ y, (Instr.indexAt t u (.int k i)).run P w = .ok y w ∧ RV ρ v y := by
  unfold indexAddrV at hv
  split at hv
  · rename_i ti hty
    split at hv
    · rename_i e b off e' n c hu
      split at hv
      · rename_i te hte
        split at hv
        · rename_i hlt
          have hlt := inI_iff hlt
          simp only [Option.some.injEq] at hv; subst hv
          simp only [RV] at hx
          obtain ⟨p, C, hp, rfl, _⟩ := hx
          refine ⟨.pointer (some ⟨p.1, off + i.toNat * te.size, none⟩), ?_, by simp only [RV]; exact ⟨p, hp, rfl⟩⟩
          simp only [Instr.indexAt, asIntOf, Sem.run_bind, Sem.run_pure, ty_run hE hty w, Result.andThen_ok, hu, hlt, and_self, if_true, ty_size hE hte w, add_mk]
        · simp at hv
      · simp at hv
    · rename_i e n l hu
      split at hv
      · rename_i te hte
        split at hv
        · rename_i hlt
          obtain ⟨hlt, hll⟩ := hlt
          have hlt := inI_iff hlt
          simp only [Option.some.injEq] at hv; subst hv
          simp only [RV] at hx
          obtain ⟨A, C, rfl, _, _, hc⟩ := hx
          rcases hc with rfl | ⟨b, off, X, t', fr, rfl, hR, hl⟩
          · simp at hll
          refine ⟨.pointer (some ⟨b, off + i.toNat * te.size, none⟩), ?_, by simp only [RV]; exact ⟨b, off + i.toNat * te.size, X, t', fr, rfl, hR, hl.xdrop _⟩⟩
          simp only [Instr.indexAt, asIntOf, Sem.run_bind, Sem.run_pure, ty_run hE hty w, Result.andThen_ok, hu, hlt, and_self, if_true, ty_size hE hte w, add_mk]
        · simp at hv
      · simp at hv
    · rename_i n e b off hu
      split at hv
      · rename_i te hte
        split at hv
        · rename_i hlt
          have hlt := inI_iff hlt
          simp only [Option.some.injEq] at hv; subst hv
          simp only [RV] at hx
          obtain ⟨p, hp, rfl⟩ := hx
          refine ⟨.pointer (some ⟨p.1, off + i.toNat * te.size, none⟩), ?_, by simp only [RV]; exact ⟨p, hp, rfl⟩⟩
          simp only [Instr.indexAt, asIntOf, Sem.run_bind, Sem.run_pure, ty_run hE hty w, Result.andThen_ok, hu, Instr.sureAddr, hlt, and_self, if_true, ty_size hE hte w, add_mk]
        · simp at hv
      · simp at hv
    · simp at hv
  · simp at hv

theorem oIndexAddr_ok (hE : EnvOK P E) (s : St B w0 ρ h w) (r : RT ρ tm a) {t : TypeId} {x ix : Operand} (ho : o.op = .indexAddr t x ix) : OpOK P B w0 ρ o a w (oIndexAddr t x ix E tm h) := by
  unfold oIndexAddr
  split
  · rename_i av k i hx hi
    refine ok_one s fun v hv => ?_
    have h2 := opnd_sound r hi
    simp only [RV] at h2
    obtain ⟨y, h3, h4⟩ := indexAddrV_sound (P := P) (w := w) (k := k) hE (opnd_sound r hx) hv
    exact ⟨y, by simp [execOp, ho, h2, h3], h4⟩
  · trivial

theorem bytesN_get {s : ByteArray} {i b : Nat} (h : (bytesN s)[i]? = some b) : ∃ c, s[i]? = some c ∧ c.toNat = b := by
  unfold bytesN at h
  rw [List.getElem?_map, Option.map_eq_some_iff] at h
  obtain ⟨c, h1, h2⟩ := h
  refine ⟨c, ?_, h2⟩
  have hlt := (List.getElem?_eq_some_iff.1 h1).1
  have hs : i < s.size := by have : s.data.toList.length = s.size := by rw [Array.length_toList]; rfl
                             omega
  rw [getElem?_pos s i hs]
  have he := (List.getElem?_eq_some_iff.1 h1).2
  rw [← he]
  rfl

theorem bytesN_length (s : ByteArray) : (bytesN s).length = s.size := by
  unfold bytesN; rw [List.length_map, Array.length_toList]; rfl

theorem oIndex_ok (hE : EnvOK P E) (s : St B w0 ρ h w) (r : RT ρ tm a) {t : TypeId} {x ix : Operand} (ho : o.op = .index t x ix) : OpOK P B w0 ρ o a w (oIndex t x ix E tm h) := by
  unfold oIndex
  split
  · rename_i av k i hx hi
    refine ok_one s fun v hv => ?_
    have h2 := opnd_sound r hi
    have h1 := opnd_sound r hx
    simp only [RV] at h2
    unfold indexV at hv
    split at hv
    · rename_i l ti hty
      split at hv
      · rename_i hu
        split at hv
        · rename_i h0
          split at hv
          · rename_i b hb
            simp only [Option.some.injEq] at hv; subst hv
            simp only [RV] at h1
            obtain ⟨S, he, hS⟩ := h1
            rw [← hS] at hb
            obtain ⟨c, hc1, hc2⟩ := bytesN_get hb
            refine ⟨.int .u8 (b : Nat), ?_, by simp [RV]⟩
            simp only [execOp, ho, h2, he, Instr.index, asIntOf, Sem.run_bind, Sem.run_pure, ty_run hE hty w, Result.andThen_ok, hu, h0, if_true, hc1, hc2]
          · simp at hv
        · simp at hv
      · simp at hv
    · rename_i l ti hty
      split at hv
      · rename_i n e hu
        split at hv
        · rename_i te hte
          split at hv
          · rename_i hlt
            have hlt := inI_iff hlt
            simp only [RV] at h1
            obtain ⟨A, he, hl⟩ := h1
            obtain ⟨u, hu1, hu2⟩ := partOf_sound (P := P) (ty_size hE hte w) (ty_agg hE hte w) hl hv
            refine ⟨u, ?_, hu2⟩
            simp only [execOp, ho, h2, he, Instr.index, asIntOf, Sem.run_bind, Sem.run_pure, ty_run hE hty w, Result.andThen_ok, hu, hlt, and_self, if_true, ty_size hE hte w, hu1]
          · simp at hv
        · simp at hv
      · simp at hv
    · simp at hv
  · trivial

/-! literals -/

theorem parts_sound (r : RT ρ tm a) : ∀ {l : List (Nat × Operand)} {ps : List (Nat × AV)}, parts tm l = some ps → ps.map (·.1) = l.map (·.1) ∧ RVs ρ (ps.map (·.2)) (l.map fun p => a.eval p.2)
  | [], ps, hx => by simp only [parts, Option.some.injEq] at hx; subst hx; simp [RVs]
  | (i, x) :: l, ps, hx => by
    simp only [parts] at hx
    split at hx
    · rename_i u us h1 h2
      simp only [Option.some.injEq] at hx; subst hx
      obtain ⟨h3, h4⟩ := parts_sound r h2
      refine ⟨by simp [h3], ?_⟩
      simp only [List.map_cons, RVs]
      exact ⟨_, _, rfl, opnd_sound r h1, h4⟩
    · simp at hx

theorem foldl_set (vs : List Value) : ∀ (cells : Array Value) (off k : Nat), ((vs.zipIdx k).foldl (fun cs (c, j) => cs.setIfInBounds (off + j) c) cells).toList = setRange cells.toList (off + k) vs := by
  induction vs with
  | nil => intro cells off k; rfl
  | cons v vs ih =>
    intro cells off k
    simp only [List.zipIdx_cons, List.foldl_cons]
    rw [ih]
    simp [setRange, Nat.add_assoc]

theorem fill_sound (place : Nat → Option (Nat × Nat)) : ∀ (ps : List (Nat × AV)) (qs : List (Nat × Value)) (cells : List AV) (C : Array Value) (out : List AV), ps.map (·.1) = qs.map (·.1) → RVs ρ (ps.map (·.2)) (qs.map (·.2)) → RVs ρ cells C.toList →
    fill place cells ps = some out → ∃ D, Instr.fill place C qs = some D ∧ RVs ρ out D.toList
  | [], qs, cells, C, out, h1, h2, h3, h4 => by
    have : qs = [] := by simpa using h1.symm
    subst this
    simp only [fill, Option.some.injEq] at h4; subst h4
    exact ⟨C, rfl, h3⟩
  | (i, v) :: ps, qs, cells, C, out, h1, h2, h3, h4 => by
    cases qs with
    | nil => simp at h1
    | cons q qs =>
      obtain ⟨j, u⟩ := q
      simp only [List.map_cons, List.cons.injEq] at h1
      obtain ⟨rfl, h1⟩ := h1
      simp only [List.map_cons, RVs, List.cons.injEq] at h2
      obtain ⟨u', r', ⟨rfl, rfl⟩, h2, h2'⟩ := h2
      simp only [fill] at h4
      split at h4
      · simp at h4
      · rename_i off size hp
        split at h4
        · rename_i hc
          have hlen := h2.cells.length
          have hlen3 := h3.length
          simp only [Array.length_toList] at hlen hlen3
          obtain ⟨D, hD1, hD2⟩ := fill_sound place ps qs _ (u.cells.zipIdx.foldl (fun cs (c, j) => cs.setIfInBounds (off + j) c) C) out h1 h2' (by
            rw [← Array.foldl_toList, Array.toList_zipIdx, foldl_set]
            exact h3.setRange _ h2.cells) h4
          refine ⟨D, ?_, hD2⟩
          simp only [Instr.fill, hp]
          rw [if_neg (by simp; omega)]
          exact hD1
        · simp at h4

theorem mapM_places (w : World) : ∀ (fs : List Field) (l : List (Nat × Nat × Bool)), fieldsTI P fs = some l →
    (fs.mapM fun f => (do pure (f.offset, ← sizeOf f.type) : Sem (Nat × Nat))).run P w = .ok (l.map fun x => (x.1, x.2.1)) w
  | [], l, h => by simp only [fieldsTI, Option.some.injEq] at h; subst h; rfl
  | f :: fs, l, h => by
    simp only [fieldsTI] at h
    split at h
    · rename_i x y hx hy
      simp only [Option.some.injEq] at h; subst h
      obtain ⟨h1, h2, _⟩ := fieldTI_facts hx w
      have ih := mapM_places w fs y hy
      simp only [List.mapM_cons, Sem.run_bind, h2, Result.andThen_ok, Sem.run_pure, h1]
      rw [ih]
      rfl
    · simp at h

theorem buildV_sound (hE : EnvOK P E) {t : TypeId} {ps : List (Nat × AV)} {qs : Array (Nat × Value)} {v : AV} (h1 : ps.map (·.1) = qs.toList.map (·.1)) (h2 : RVs ρ (ps.map (·.2)) (qs.toList.map (·.2))) (hv : buildV E t ps = some v) :
    ∃ u, (Instr.build t qs).run P w = .ok u w ∧ RV ρ v u := by
  unfold buildV at hv
  split at hv
  · rename_i ti hty
    split at hv
    · rename_i z fs hz hu
      simp only [Option.map_eq_some_iff] at hv
      obtain ⟨out, hf, rfl⟩ := hv
      obtain ⟨zv, hz1, hz2⟩ := ty_zero hE hty w hz ρ
      have hfs := (TI.facts (hE.ty t ti hty)).2.2.2.1 fs hu
      obtain ⟨D, hD1, hD2⟩ := fill_sound _ ps qs.toList z zv.cells out h1 h2 hz2 hf
      refine ⟨.agg D, ?_, by simp only [RV]; exact ⟨D.toList, rfl, hD2⟩⟩
      have hm : (fs.mapM fun f => (do pure (f.offset, ← sizeOf f.type) : Sem (Nat × Nat))).run P w = .ok ((ti.flds.map fun x => (x.1, x.2.1)).toArray) w := by
        rw [Array.mapM_eq_mapM_toList]
        simp only [Sem.run_map, mapM_places w fs.toList ti.flds hfs, Result.andThen_ok]
      simp only [Instr.build, Sem.run_bind, hz1, ty_run hE hty w, Result.andThen_ok, hu]
      rw [hm]
      simp only [Result.andThen_ok]
      have hpl : (fun i => ((ti.flds.map fun (x : Nat × Nat × Bool) => (x.1, x.2.1)).toArray)[i]?) = fun (i : Nat) => (ti.flds[i]?).map fun (f : Nat × Nat × Bool) => (f.1, f.2.1) := by
        funext i; simp
      rw [hpl, hD1]
      rfl
    · rename_i z n e hz hu
      split at hv
      · rename_i te hte
        simp only [Option.map_eq_some_iff] at hv
        obtain ⟨out, hf, rfl⟩ := hv
        obtain ⟨zv, hz1, hz2⟩ := ty_zero hE hty w hz ρ
        obtain ⟨D, hD1, hD2⟩ := fill_sound _ ps qs.toList z zv.cells out h1 h2 hz2 hf
        refine ⟨.agg D, ?_, by simp only [RV]; exact ⟨D.toList, rfl, hD2⟩⟩
        simp only [Instr.build, Sem.run_bind, hz1, ty_run hE hty w, Result.andThen_ok, hu, ty_size hE hte w, hD1]
        rfl
      · simp at hv
    · simp at hv
  · simp at hv

theorem oBuild_ok (hE : EnvOK P E) (s : St B w0 ρ h w) (r : RT ρ tm a) {t : TypeId} {ps : Array (Nat × Operand)} (ho : o.op = .build t ps) : OpOK P B w0 ρ o a w (oBuild t ps E tm h) := by
  unfold oBuild
  split
  · rename_i qs hq
    refine ok_one s fun v hv => ?_
    obtain ⟨h1, h2⟩ := parts_sound r hq
    obtain ⟨u, h3, h4⟩ := buildV_sound (P := P) (w := w) (qs := ps.map fun p => (p.1, a.eval p.2)) hE (by rw [h1]; simp [Function.comp_def]) (by simpa [Function.comp_def] using h2) hv
    refine ⟨u, ?_, h4⟩
    simp only [execOp, ho]
    have : (ps.map fun x => match x with | (i, x) => (i, a.eval x)) = ps.map fun p => (p.1, a.eval p.2) := rfl
    rw [this]
    simp only [Sem.run_bind, h3, Result.andThen_ok, Sem.run_pure]
  · trivial

theorem zeroN_sound {z : List AV} {zc : List Value} (hz : RVs ρ z zc) : ∀ n, RVs ρ (zeroN z n) ((List.replicate n zc).flatten)
  | 0 => by simp [zeroN, RVs]
  | n + 1 => by
    simp only [zeroN, List.replicate_succ, List.flatten_cons]
    exact hz.append (zeroN_sound hz n)

theorem range_mod (zc : List Value) : ∀ n, ((List.range (n * zc.length)).map fun i => zc.toArray[i % zc.length]!) = (List.replicate n zc).flatten := by
  intro n
  induction n with
  | zero => simp
  | succ n ih =>
    rw [Nat.succ_mul, List.range_add, List.map_append, ih, List.replicate_succ', List.flatten_append]
    congr 1
    simp only [List.map_map, List.flatten_cons, List.flatten_nil, List.append_nil]
    apply List.ext_getElem?
    intro i
    rw [List.getElem?_map]
    by_cases hi : i < zc.length
    · rw [List.getElem?_range hi]
      simp only [Option.map_some, Function.comp_apply]
      rw [Nat.mul_comm, Nat.mul_add_mod, Nat.mod_eq_of_lt hi]
      simp [hi]
    · rw [List.getElem?_eq_none (by simpa using hi), List.getElem?_eq_none (by simpa using hi)]
      rfl

theorem zero_range {C : Array Value} {k n : Nat} (hk : C.size = k) : (Array.range (n * k)).map (fun i => C[i % C.size]!) = ((List.replicate n C.toList).flatten).toArray := by
  apply Array.ext'
  have := range_mod C.toList n
  simp only [Array.length_toList, hk] at this
  simp only [Array.toList_map, Array.toList_range, hk]
  rw [← this]

theorem buildSliceV_sound (hE : EnvOK P E) (s : St B w0 ρ h w) {t : TypeId} {n : Nat} {ps : List (Nat × AV)} {qs : Array (Nat × Value)} {v : AV} {h' : AH} (h1 : ps.map (·.1) = qs.toList.map (·.1)) (h2 : RVs ρ (ps.map (·.2)) (qs.toList.map (·.2)))
    (hv : buildSliceV E t n ps h = some (v, h')) : ∃ ρ' u w', Sub ρ ρ' ∧ St B w0 ρ' h' w' ∧ RV ρ' v u ∧ (Instr.buildSlice t n qs).run P w = .ok u w' := by
  unfold buildSliceV at hv
  split at hv
  · rename_i e size bytes agg zero flds eqk zvv hty
    split at hv
    · rename_i ti hte
      split at hv
      · rename_i z hz
        split at hv
        · rename_i hc
          obtain ⟨hzl, hsmall⟩ := hc
          split at hv
          · rename_i cs hf
            simp only [Option.some.injEq, Prod.mk.injEq] at hv
            obtain ⟨rfl, rfl⟩ := hv
            obtain ⟨zv, hz1, hz2⟩ := ty_zero hE hte w hz ρ
            have hzs : zv.cells.size = ti.size := by have := hz2.length; simp at this; omega
            have hbase := zeroN_sound hz2 n
            obtain ⟨D, hD1, hD2⟩ := fill_sound _ ps qs.toList _ ((List.replicate n zv.cells.toList).flatten).toArray cs h1 h2 (by simpa using hbase) hf
            refine ⟨ρ.snoc ((w.heap.size, 0)), .slice (some ⟨w.heap.size, 0, none⟩) n n, w.alloc (.cells D e), Sub.snoc _ _, ?_, ?_, ?_⟩
            · exact s.new _ 0 _ (by
                have := ro_cells (p := (w.heap.size, 0)) e (hD2.mono (Sub.snoc ρ (w.heap.size, 0)))
                simpa using this)
            · simp only [RV]; exact ⟨_, n, last_get ρ s _, rfl, Nat.le_refl _, rfl⟩
            · have hu := ty_run hE hty w
              simp only at hu
              simp only [Instr.buildSlice, Sem.run_bind, hu, Result.andThen_ok, ty_size hE hte w]
              rw [if_neg (by omega)]
              by_cases hn : n * ti.size = 0
              · rw [if_pos hn]
                have he : ((List.replicate n zv.cells.toList).flatten).toArray = #[] := by
                  apply Array.ext'
                  show (List.replicate _ zv.cells.toList).flatten = []
                  rcases Nat.mul_eq_zero.1 hn with h0 | h0
                  · subst h0; rfl
                  · have : zv.cells.toList = [] := by apply List.eq_nil_of_length_eq_zero; rw [Array.length_toList]; omega
                    rw [this]
                    simp
                rw [he] at hD1
                have hr0 : (Array.range (n * ti.size)).map (fun i => (#[] : Array Value)[i % (#[] : Array Value).size]!) = #[] := by
                  rw [hn]; simp
                simp only [pure_bind]
                rw [hr0, hD1]
                simp [newRow]
              · rw [if_neg hn]
                simp only [Sem.run_bind, hz1, Sem.run_pure, Result.andThen_ok]
                rw [zero_range hzs, hD1]
                simp [newRow]
          · simp at hv
        · simp at hv
      · simp at hv
    · simp at hv
  · simp at hv

theorem oBuildSlice_ok (hE : EnvOK P E) (s : St B w0 ρ h w) (r : RT ρ tm a) {t : TypeId} {n : Nat} {ps : Array (Nat × Operand)} (ho : o.op = .buildSlice t n ps) : OpOK P B w0 ρ o a w (oBuildSlice t n ps E tm h) := by
  unfold oBuildSlice
  split
  · rename_i qs hq
    refine ok_res fun v h' hv => ?_
    obtain ⟨h1, h2⟩ := parts_sound r hq
    obtain ⟨ρ', u, w', h3, h4, h5, h6⟩ := buildSliceV_sound (P := P) (w := w) (qs := ps.map fun p => (p.1, a.eval p.2)) hE s (by rw [h1]; simp [Function.comp_def]) (by simpa [Function.comp_def] using h2) hv
    refine ⟨ρ', u, w', h3, h4, h5, ?_⟩
    simp only [execOp, ho]
    have : (ps.map fun x => match x with | (i, x) => (i, a.eval x)) = ps.map fun p => (p.1, a.eval p.2) := rfl
    rw [this]
    simp only [Sem.run_bind, h6, Result.andThen_ok, Sem.run_pure]
  · trivial

theorem makeSliceV_sound (hE : EnvOK P E) (s : St B w0 ρ h w) {t : TypeId} {n m : Int} {k j : IntKind} {v : AV} {h' : AH} (hv : makeSliceV E t n m h = some (v, h')) :
    ∃ ρ' u w', Sub ρ ρ' ∧ St B w0 ρ' h' w' ∧ RV ρ' v u ∧ (Instr.makeSlice t (.int k n) (.int j m)).run P w = .ok u w' := by
  unfold makeSliceV at hv
  split at hv
  · rename_i e size bytes agg zero flds eqk zvv hty
    split at hv
    · rename_i ti hte
      split at hv
      · rename_i z hz
        split at hv
        · rename_i hc
          obtain ⟨h0, hnm, hm, hb, hzl⟩ := hc
          simp only [Option.some.injEq, Prod.mk.injEq] at hv
          obtain ⟨rfl, rfl⟩ := hv
          obtain ⟨zv, hz1, hz2⟩ := ty_zero hE hte w hz ρ
          obtain ⟨i, hi1, hi2, hi3⟩ := ty_bytes hE hte w
          have hzs : zv.cells.size = ti.size := by have := hz2.length; simp at this; omega
          have hbase := zeroN_sound hz2 m.toNat
          refine ⟨ρ.snoc ((w.heap.size, 0)), .slice (some ⟨w.heap.size, 0, none⟩) n.toNat m.toNat, w.alloc (.cells ((List.replicate m.toNat zv.cells.toList).flatten).toArray e), Sub.snoc _ _, ?_, ?_, ?_⟩
          · exact s.new _ 0 _ (ro_cells e (hbase.mono (Sub.snoc ρ _)))
          · simp only [RV]; exact ⟨_, m.toNat, last_get ρ s _, rfl, by omega, rfl⟩
          · have hu := ty_run hE hty w
            simp only at hu
            have wn : IntKind.i64.wrap n = n := by
              have e63 : (2 : Int) ^ 63 = 9223372036854775808 := by decide
              have e64 : (2 : Int) ^ 64 = 18446744073709551616 := by decide
              simp only [IntKind.wrap, IntKind.bits, IntKind.signed, e63, e64, Bool.true_and, decide_eq_true_eq, ge_iff_le]
              split <;> omega
            have wm : IntKind.i64.wrap m = m := by
              have e63 : (2 : Int) ^ 63 = 9223372036854775808 := by decide
              have e64 : (2 : Int) ^ 64 = 18446744073709551616 := by decide
              simp only [IntKind.wrap, IntKind.bits, IntKind.signed, e63, e64, Bool.true_and, decide_eq_true_eq, ge_iff_le]
              split <;> omega
            have hmul : (ti.bytes : Int) * m ≤ 281474976710656 := by
              have h1 : (ti.bytes : Int) ≤ 10000 := by omega
              have h2 : (ti.bytes : Int) * m ≤ 10000 * 100000 := Int.mul_le_mul h1 hm (by omega) (by omega)
              omega
            have hsz0 : 0 ≤ (ti.bytes : Int) * m := Int.mul_nonneg (by omega) (by omega)
            simp only [Instr.makeSlice, Sem.run_bind, hu, Result.andThen_ok, asInt, asIntOf, Sem.run_pure, hi1, wn, wm]
            rw [if_neg (by
              rw [hi2]
              intro hc
              rcases Bool.or_eq_true_iff.1 hc with hc | hc
              · rcases Bool.or_eq_true_iff.1 hc with hc | hc
                · rcases Bool.or_eq_true_iff.1 hc with hc | hc
                  · have := of_decide_eq_true hc; omega
                  · have := of_decide_eq_true hc; omega
                · have := of_decide_eq_true hc; omega
              · have := of_decide_eq_true hc; omega)]
            simp only [Sem.run_bind, run_askRoom, Result.andThen_ok, ty_size hE hte w]
            by_cases hn : m.toNat * ti.size = 0
            · rw [if_pos hn]
              have he : ((List.replicate m.toNat zv.cells.toList).flatten).toArray = #[] := by
                apply Array.ext'
                show (List.replicate _ zv.cells.toList).flatten = []
                rcases Nat.mul_eq_zero.1 hn with h0 | h0
                · rw [h0]; rfl
                · have : zv.cells.toList = [] := by apply List.eq_nil_of_length_eq_zero; rw [Array.length_toList]; omega
                  rw [this]
                  simp
              have hr0 : (Array.range (m.toNat * ti.size)).map (fun i => (#[] : Array Value)[i % (#[] : Array Value).size]!) = #[] := by
                rw [hn]; simp
              simp only [pure_bind]
              rw [hr0, he]
              simp [newRow]
            · rw [if_neg hn]
              simp only [Sem.run_bind, hz1, Sem.run_pure, Result.andThen_ok]
              rw [zero_range hzs]
              simp [newRow]
        · simp at hv
      · simp at hv
    · simp at hv
  · simp at hv

theorem oMakeSlice_ok (hE : EnvOK P E) (s : St B w0 ρ h w) (r : RT ρ tm a) {t : TypeId} {l c : Operand} (ho : o.op = .makeSlice t l c) : OpOK P B w0 ρ o a w (oMakeSlice t l c E tm h) := by
  unfold oMakeSlice
  split
  · rename_i k n j m hl hc
    have h1 := opnd_sound r hl
    have h2 := opnd_sound r hc
    simp only [RV] at h1 h2
    refine ok_res fun v h' hv => ?_
    obtain ⟨ρ', u, w', h3, h4, h5, h6⟩ := makeSliceV_sound (P := P) (k := k) (j := j) hE s hv
    exact ⟨ρ', u, w', h3, h4, h5, by simp [execOp, ho, h1, h2, h6]⟩
  · trivial
end
end Go.Ev
/- An evaluator of closed calls over abstract memory: operations, one by one (3): cuts, conversions, two operands. -/
namespace Go.Ev
open Go.RowKit
set_option autoImplicit false
set_option linter.unusedSimpArgs false
set_option linter.unusedVariables false

variable {P : Program}
section
variable {E : Env} {B : Nat} {w0 w : World} {ρ : Rho} {h : AH} {tm : T} {a : Act} {o : Oper}

theorem bound_sound (r : RT ρ tm a) {x : Option Operand} {d n : Nat} (hb : bound tm x d = some n) : (x = none ∧ n = d) ∨ ∃ y k, x = some y ∧ a.eval y = .int k (n : Int) := by
  unfold bound at hb
  split at hb
  · simp only [Option.some.injEq] at hb; exact .inl ⟨rfl, hb.symm⟩
  · rename_i y
    right
    split at hb
    · rename_i k m hm
      split at hb
      · rename_i h0
        simp only [Option.some.injEq] at hb
        have := opnd_sound r hm
        simp only [RV] at this
        refine ⟨y, k, rfl, ?_⟩
        rw [this, ← hb]
        congr 1
        omega
      · simp at hb
    · simp at hb

theorem run_bound {k : IntKind} {n y : Nat} {code : BoundsCode} (h : n ≤ y) : (Instr.sliceBound (.int k (n : Int)) y code).run P w = .ok n w := by
  simp only [Instr.sliceBound, asIntOf, Sem.run_bind, Sem.run_pure, Result.andThen_ok]
  rw [if_pos ⟨by omega, by omega⟩]
  simp

/-- bounds of a slice of three indexes or fewer -/
theorem run_bounds2 (r : RT ρ tm a) {isS : Bool} {len cap l hgh : Nat} {lo hi : Option Operand} (h1 : bound tm lo 0 = some l) (h2 : bound tm hi len = some hgh) (hl : l ≤ hgh) (hh : hgh ≤ cap) :
    (Instr.sliceBounds isS len cap (lo.map a.eval) (hi.map a.eval) none).run P w = .ok (l, hgh, cap) w := by
  rcases bound_sound r h1 with ⟨rfl, rfl⟩ | ⟨y, k, rfl, hy⟩ <;> rcases bound_sound r h2 with ⟨rfl, rfl⟩ | ⟨z, j, rfl, hz⟩
  · simp [Instr.sliceBounds]
  · simp [Instr.sliceBounds, hz, run_bound hh]
  · simp [Instr.sliceBounds, hy, run_bound hl]
  · simp [Instr.sliceBounds, hy, hz, run_bound hh, run_bound hl]

theorem run_bounds3 (r : RT ρ tm a) {isS : Bool} {len cap l hgh m : Nat} {lo : Option Operand} {hi mx : Operand} (h1 : bound tm lo 0 = some l) (h2 : bound tm (some hi) len = some hgh) (h3 : bound tm (some mx) 0 = some m) (hl : l ≤ hgh) (hh : hgh ≤ m) (hm : m ≤ cap) :
    (Instr.sliceBounds isS len cap (lo.map a.eval) (some (a.eval hi)) (some (a.eval mx))).run P w = .ok (l, hgh, m) w := by
  rcases bound_sound r h2 with ⟨h, _⟩ | ⟨z, j, hz', hz⟩
  · simp at h
  rcases bound_sound r h3 with ⟨h, _⟩ | ⟨q, i, hq', hq⟩
  · simp at h
  simp only [Option.some.injEq] at hz' hq'
  subst hz' hq'
  rcases bound_sound r h1 with ⟨rfl, rfl⟩ | ⟨y, k, rfl, hy⟩
  · simp [Instr.sliceBounds, hz, hq, run_bound hm, run_bound hh]
  · simp [Instr.sliceBounds, hz, hq, hy, run_bound hm, run_bound hh, run_bound hl]

theorem bytesN_extract (s : ByteArray) (i j : Nat) : bytesN (s.extract i j) = ((bytesN s).drop i).take (j - i) := by
  unfold bytesN
  rw [ByteArray.data_extract, Array.toList_extract, List.extract_eq_take_drop, List.map_take, List.map_drop]

theorem sliceV_sound (hE : EnvOK P E) (r : RT ρ tm a) {t : TypeId} {x v : AV} {u : Value} {lo hi mx : Option Operand} (hx : RV ρ x u) (hv : sliceV E tm t x lo hi mx = some v) :
    ∃ y, (Instr.sliceAt t u (lo.map a.eval) (hi.map a.eval) (mx.map a.eval)).run P w = .ok y w ∧ RV ρ v y := by
  unfold sliceV at hv
  split at hv
  · -- a string
    rename_i s
    split at hv
    · rename_i hty
      split at hv
      · rename_i l hgh h1 h2
        split at hv
        · rename_i hc
          simp only [Option.some.injEq] at hv; subst hv
          simp only [RV] at hx
          obtain ⟨S, rfl, hS⟩ := hx
          have hlen : S.size = s.length := by rw [← hS, bytesN_length]
          refine ⟨.string (S.extract l hgh), ?_, ?_⟩
          · have hu := ty_run hE hty w
            simp only at hu
            have hb := run_bounds2 (P := P) (w := w) (isS := false) (len := s.length) (cap := s.length) r h1 h2 hc.1 hc.2
            simp only [Instr.sliceAt, Sem.run_bind, hu, Result.andThen_ok, Instr.slice, Option.map_none, Option.isSome_none, Bool.false_eq_true, if_false, Sem.run_pure, hlen, hb]
          · simp only [RV]; exact ⟨_, rfl, by rw [bytesN_extract, hS]⟩
        · simp at hv
      · simp at hv
    · simp at hv
  · -- a slice
    rename_i b off ee n c
    simp only [RV] at hx
    obtain ⟨p, C, hp, rfl, hnC, hcap⟩ := hx
    split at hv
    · rename_i e _ _ _ _ _ _ _ hty
      have hu := ty_run hE hty w
      simp only at hu
      split at hv
      · rename_i ti hte
        split at hv
        · split at hv
          · rename_i l hgh h1 h2
            split at hv
            · rename_i hc
              have hb := run_bounds2 (P := P) (w := w) (isS := true) (len := n) (cap := C) r h1 h2 hc.1 (by omega)
              have hrun : (Instr.sliceAt t (.slice (some ⟨p.1, off, none⟩) n C) (lo.map a.eval) (hi.map a.eval) none).run P w = .ok (.slice (if C = l then some ⟨p.1, off, none⟩ else some ⟨p.1, off + l * ti.size, none⟩) (hgh - l) (C - l)) w := by
                simp only [Instr.sliceAt, Sem.run_bind, hu, Result.andThen_ok, Instr.slice, hb, ty_size hE hte w, Sem.run_pure, Option.map_some, add_mk]
              split at hv
              · rename_i c'
                simp only at hcap
                split at hv
                · rename_i hcl
                  simp only [Option.some.injEq] at hv; subst hv
                  refine ⟨_, hrun, ?_⟩
                  rw [if_pos (by omega)]
                  simp only [RV]
                  exact ⟨p, C - l, hp, rfl, by omega, by first | (show C - l = _; omega) | (show C - l + _ = _; omega)⟩
                · rename_i hcl
                  simp only [Option.some.injEq] at hv; subst hv
                  refine ⟨_, hrun, ?_⟩
                  rw [if_neg (by omega)]
                  simp only [RV]
                  exact ⟨p, C - l, hp, rfl, by omega, by first | (show C - l = _; omega) | (show C - l + _ = _; omega)⟩
              · simp only at hcap
                split at hv
                · rename_i hln
                  simp only [Option.some.injEq] at hv; subst hv
                  refine ⟨_, hrun, ?_⟩
                  rw [if_neg (by omega)]
                  simp only [RV]
                  exact ⟨p, C - l, hp, rfl, by omega, by first | (show C - l = _; omega) | (show C - l + _ = _; omega)⟩
                · simp at hv
            · simp at hv
          · simp at hv
        · rename_i m
          split at hv
          · rename_i l hgh mm h1 h2 h3
            split at hv
            · rename_i hc
              obtain ⟨hc1, hc2, hc3, hc4⟩ := hc
              obtain ⟨hi', rfl⟩ := Option.isSome_iff_exists.1 hc4
              have hb := run_bounds3 (P := P) (w := w) (isS := true) (len := n) (cap := C) r h1 h2 h3 hc1 hc2 (by omega)
              have hrun : (Instr.sliceAt t (.slice (some ⟨p.1, off, none⟩) n C) (lo.map a.eval) (some (a.eval hi')) (some (a.eval m))).run P w = .ok (.slice (if mm = l then some ⟨p.1, off, none⟩ else some ⟨p.1, off + l * ti.size, none⟩) (hgh - l) (mm - l)) w := by
                simp only [Instr.sliceAt, Sem.run_bind, hu, Result.andThen_ok, Instr.slice, hb, ty_size hE hte w, Sem.run_pure, Option.map_some, add_mk]
              split at hv
              · rename_i hcl
                simp only [Option.some.injEq] at hv; subst hv
                refine ⟨_, hrun, ?_⟩
                rw [if_pos hcl]
                simp only [RV]
                exact ⟨p, mm - l, hp, rfl, by omega, by show mm - l = 0; omega⟩
              · rename_i hcl
                simp only [Option.some.injEq] at hv; subst hv
                refine ⟨_, hrun, ?_⟩
                rw [if_neg hcl]
                simp only [RV]
                exact ⟨p, mm - l, hp, rfl, by omega, rfl⟩
            · simp at hv
          · simp at hv
      · simp at hv
    · simp at hv
  · -- nil
    split at hv
    · rename_i e _ _ _ _ _ _ _ hty
      have hu := ty_run hE hty w
      simp only at hu
      split at hv
      · rename_i te hte h1 h2
        simp only [Option.some.injEq] at hv; subst hv
        simp only [RV] at hx; subst hx
        have hb := run_bounds2 (P := P) (w := w) (isS := true) (len := 0) (cap := 0) r h1 h2 (Nat.le_refl _) (Nat.le_refl _)
        refine ⟨.slice none 0 0, ?_, by simp [RV]⟩
        simp only [Instr.sliceAt, Sem.run_bind, hu, Result.andThen_ok, Instr.slice, Option.map_none, hb, ty_size hE hte w, Sem.run_pure]
        simp
      · simp at hv
    · simp at hv
  · -- a slice that is only read
    rename_i n c
    simp only [RV] at hx
    obtain ⟨A, C, rfl, hnC, hA, hcon⟩ := hx
    split at hv
    · rename_i e _ _ _ _ _ _ _ hty
      have hu := ty_run hE hty w
      simp only at hu
      split at hv
      · rename_i ti l rr hte h1 h2
        split at hv
        · rename_i hc
          simp only [Option.some.injEq] at hv; subst hv
          have hb := run_bounds2 (P := P) (w := w) (isS := true) (len := n) (cap := C) r h1 h2 hc.1 (by omega)
          cases A with
          | none =>
            obtain ⟨hn0, hC0⟩ := hA rfl
            refine ⟨.slice none (rr - l) (C - l), ?_, ?_⟩
            · simp only [Instr.sliceAt, Sem.run_bind, hu, Result.andThen_ok, Instr.slice, hb, ty_size hE hte w, Sem.run_pure, Option.map_none, ite_self]
            · simp only [RV]
              refine ⟨none, C - l, rfl, by omega, fun _ => by omega, .inl ?_⟩
              have : rr - l = 0 := by omega
              rw [this]; simp
          | some ad =>
            have hrun : (Instr.sliceAt t (.slice (some ad) n C) (lo.map a.eval) (hi.map a.eval) none).run P w = .ok (.slice (if C = l then some ad else some (ad.add (l * ti.size))) (rr - l) (C - l)) w := by
              simp only [Instr.sliceAt, Sem.run_bind, hu, Result.andThen_ok, Instr.slice, hb, ty_size hE hte w, Sem.run_pure, Option.map_some]
            refine ⟨_, hrun, ?_⟩
            simp only [RV]
            refine ⟨_, C - l, rfl, by omega, fun h => by split at h <;> simp at h, ?_⟩
            by_cases hcl : C = l
            · left
              have : rr - l = 0 := by omega
              rw [this]; simp
            · rcases hcon with rfl | ⟨b, off, X, t', fr, hab, hR, hl⟩
              · left; simp
              · right
                simp only [Option.some.injEq] at hab; subst hab
                refine ⟨b, off + l * ti.size, X, t', fr, by rw [if_neg hcl, add_mk], hR, (hl.xdrop _).xtake _⟩
        · simp at hv
      · simp at hv
    · simp at hv
  · simp at hv
end
end Go.Ev
/- An evaluator of closed calls over abstract memory: operations, one by one (4): two operands. -/
namespace Go.Ev
open Go.RowKit
set_option autoImplicit false
set_option linter.unusedSimpArgs false
set_option linter.unusedVariables false

variable {P : Program}

theorem eqN_bytes (x y : ByteArray) : eqN (bytesN x) (bytesN y) = (x.toList == y.toList) := by
  rw [ByteArray.toList_eq, ByteArray.toList_eq]
  unfold bytesN
  generalize x.data.toList = a
  generalize y.data.toList = b
  induction a generalizing b with
  | nil => cases b <;> rfl
  | cons c a ih =>
    cases b with
    | nil => rfl
    | cons d b =>
      simp only [List.map_cons, eqN, ih]
      rw [show (c :: a == d :: b) = ((c == d) && (a == b)) from rfl]
      congr 1
      by_cases e : c = d
      · subst e; simp
      · have h1 : (c == d) = false := by simpa using e
        rw [h1]
        cases hb : Nat.beq c.toNat d.toNat with
        | false => rfl
        | true => exact absurd (UInt8.toNat_inj.1 (Nat.eq_of_beq_eq_true hb)) e

theorem natblt (a b : Nat) : Nat.blt a b = decide (a < b) := by
  rw [Bool.eq_iff_iff, decide_eq_true_eq]
  unfold Nat.blt
  rw [Nat.ble_eq]
  exact Iff.rfl

theorem lessN_bytes (x y : ByteArray) : lessN (bytesN x) (bytesN y) = Op.bytesLess x.toList y.toList := by
  rw [ByteArray.toList_eq, ByteArray.toList_eq]
  unfold bytesN
  generalize x.data.toList = a
  generalize y.data.toList = b
  induction a generalizing b with
  | nil => cases b <;> rfl
  | cons c a ih =>
    cases b with
    | nil => rfl
    | cons d b =>
      simp only [List.map_cons, lessN, Op.bytesLess, ih]
      congr 1
      · by_cases e : c < d
        · have h1 : decide (c < d) = true := by simpa using e
          rw [h1]
          have : c.toNat < d.toNat := UInt8.lt_iff_toNat_lt.1 e
          rw [natblt]; simpa using this
        · have h1 : decide (c < d) = false := by simpa using e
          rw [h1]
          have : ¬ c.toNat < d.toNat := fun h => e (UInt8.lt_iff_toNat_lt.2 h)
          rw [natblt]; simpa using this
      · congr 1
        by_cases e : c = d
        · subst e; simp
        · have h1 : (c == d) = false := by simpa using e
          rw [h1]
          cases hb : Nat.beq c.toNat d.toNat with
          | false => rfl
          | true => exact absurd (UInt8.toNat_inj.1 (Nat.eq_of_beq_eq_true hb)) e

theorem bytesN_append (x y : ByteArray) : bytesN (x ++ y) = bytesN x ++ bytesN y := by
  unfold bytesN
  rw [ByteArray.data_append, Array.toList_append, List.map_append]

theorem binInt_sound {op : BinOp} {k : IntKind} {m n : Int} {v : AV} (t : TypeId) (w : World) (h1 : op ≠ .shl) (h2 : op ≠ .shr) (hv : binInt op k m n = some v) : ∃ u, (binOp op t (.int k m) (.int k n)).run P w = .ok u w ∧ ∀ ρ, RV ρ v u := by
  unfold binInt at hv
  simp only [wrapI_eq, addI_eq, ltI_eq, leI_eq, eqI_eq] at hv
  split at hv
  all_goals first
    | (simp only [Option.some.injEq] at hv; subst hv; exact ⟨_, by simp only [binOp, ne_eq, not_true_eq_false, if_false, Op.intArith, Op.intCmp]; rfl, fun ρ => rfl⟩)
    | (split at hv
       · cases hv
       · rename_i hz
         simp only [Option.some.injEq] at hv; subst hv
         exact ⟨_, by simp only [binOp, ne_eq, not_true_eq_false, if_false, Op.intDiv, hz]; rfl, fun ρ => rfl⟩)
    | cases hv

section
variable {E : Env} {B : Nat} {w0 w : World} {ρ : Rho} {h : AH} {tm : T} {a : Act} {o : Oper}

theorem eqGuard_int (op : BinOp) (t : TypeId) (x y : Operand) (k : IntKind) (m : Int) (v : Value) : eqGuard op t x y (.int k m) v = pure () := eqGuard_at_int _ _ _ _ _ _ _
theorem binI_sound {op : BinOp} {k : IntKind} {m : Int} {b v : AV} {y : Value} (t : TypeId) (hy : RV ρ b y) (hv : binI op k m b = some v) : ∃ u, (binOp op t (.int k m) y).run P w = .ok u w ∧ RV ρ v u := by
  unfold binI at hv
  split at hv
  · rename_i j n
    simp only [RV] at hy; subst hy
    split at hv
    · split at hv
      · simp at hv
      · rename_i hn
        simp only [Option.some.injEq] at hv; subst hv
        exact ⟨_, by simp only [binOp, Op.shift, hn, if_false]; rfl, rfl⟩
    · split at hv
      · simp at hv
      · rename_i hn
        simp only [Option.some.injEq] at hv; subst hv
        exact ⟨_, by simp only [binOp, Op.shift, hn, if_false]; rfl, rfl⟩
    · rename_i h1 h2
      split at hv
      · rename_i hk
        subst hk
        obtain ⟨u, h3, h4⟩ := binInt_sound (P := P) t w h1 h2 hv
        exact ⟨u, h3, h4 ρ⟩
      · simp at hv
  · simp at hv

theorem binS_sound {op : BinOp} {s : List Nat} {b v : AV} {x y : Value} (t : TypeId) (hx : RV ρ (.str s) x) (hy : RV ρ b y) (hv : binS op s b = some v) : ∃ u, (binOp op t x y).run P w = .ok u w ∧ RV ρ v u := by
  unfold binS at hv
  split at hv
  · rename_i s'
    simp only [RV] at hx hy
    obtain ⟨X, rfl, rfl⟩ := hx
    obtain ⟨Y, rfl, rfl⟩ := hy
    unfold binStr at hv
    split at hv
    · split at hv
      · rename_i hlen
        simp only [Option.some.injEq] at hv; subst hv
        rw [bytesN_length, bytesN_length] at hlen
        refine ⟨.string (X ++ Y), ?_, by simp only [RV]; exact ⟨_, rfl, bytesN_append X Y⟩⟩
        simp only [binOp, Op.stringOp]
        rw [if_neg (by simp only [IntKind.max_i64]; omega)]
        rfl
      · cases hv
    all_goals first
      | (simp only [Option.some.injEq] at hv; subst hv; exact ⟨_, by simp only [binOp, Op.stringOp]; rfl, by simp only [RV, eqN_bytes, lessN_bytes]⟩)
      | cases hv
  · simp at hv

theorem eqScalar_sound {d : TypeDesc} {x y : AV} {u v : Value} {r : Bool} {t : TypeId} (n : Nat) (hd : P.underlying t = some d) (hx : RV ρ x u) (hy : RV ρ y v) (hr : eqScalar d x y = some r) : (Op.equalIn (n + 1) t u v).run P w = .ok r w := by
  unfold eqScalar at hr
  split at hr
  · split at hr
    · simp only [RV] at hx hy; subst hx hy
      simp only [Option.some.injEq] at hr; subst hr
      exact run_equalIn_bool' w n t _ _ hd
    · simp at hr
  · split at hr
    · simp only [RV] at hx hy; subst hx hy
      split at hr
      · rename_i hk; subst hk
        simp only [Option.some.injEq] at hr; subst hr
        exact run_equalIn_int w n t _ _ _ _ hd
      · simp at hr
    · simp at hr
  · split at hr
    · simp only [RV] at hx hy
      obtain ⟨X, rfl, rfl⟩ := hx
      obtain ⟨Y, rfl, rfl⟩ := hy
      simp only [Option.some.injEq] at hr; subst hr
      rw [eqN_bytes]
      exact run_equalIn_string w n t _ _ hd
    · simp at hr
  · simp at hr

theorem eqCells_sound (n : Nat) (X Y : Array Value) : ∀ (fs : List Field) (ks : List TypeDesc) (i : Nat) (x y : List AV) (r : Bool), flatKinds P i fs = some ks →
    (∀ j v, x[j]? = some v → ∃ u, X[i + j]? = some u ∧ RV ρ v u) → (∀ j v, y[j]? = some v → ∃ u, Y[i + j]? = some u ∧ RV ρ v u) → eqCells ks x y = some r → (Op.eqFields (n + 1) X Y fs).run P w = .ok r w
  | [], ks, i, x, y, r, hk, hx, hy, hr => by
    simp only [flatKinds, Option.some.injEq] at hk; subst hk
    cases x with
    | nil => cases y with
      | nil => simp only [eqCells, Option.some.injEq] at hr; subst hr; simp [Op.eqFields]
      | cons _ _ => simp [eqCells] at hr
    | cons _ _ => simp [eqCells] at hr
  | f :: fs, ks, i, x, y, r, hk, hx, hy, hr => by
    simp only [flatKinds] at hk
    split at hk
    · rename_i d ds hd hds
      split at hk
      · rename_i hc
        simp only [Bool.and_eq_true, beq_iff_eq, bne_iff_ne, ne_eq] at hc
        obtain ⟨⟨hoff, hname⟩, hsc⟩ := hc
        simp only [Option.some.injEq] at hk; subst hk
        cases x with
        | nil => simp [eqCells] at hr
        | cons x0 x =>
          cases y with
          | nil => simp [eqCells] at hr
          | cons y0 y =>
            simp only [eqCells] at hr
            obtain ⟨u, hu1, hu2⟩ := hx 0 x0 rfl
            obtain ⟨v, hv1, hv2⟩ := hy 0 y0 rfl
            simp only [Nat.add_zero] at hu1 hv1
            have hagg : (isAgg f.type).run P w = .ok false w := by
              simp only [isAgg, Sem.run_bind, run_underlying hd, Result.andThen_ok]
              cases d <;> first | rfl | simp [scalarD] at hsc
            have hp : ∀ (Z : Array Value) z, Z[i]? = some z → (part f.type Z f.offset).run P w = .ok z w := by
              intro Z z hz
              simp only [part, Sem.run_bind, hagg, Result.andThen_ok, Bool.false_eq_true, if_false, hoff, hz, Sem.run_pure]
            have ih := fun r hr => eqCells_sound n X Y fs ds (i + 1) x y r hds (fun j v hj => by
              obtain ⟨u, h1, h2⟩ := hx (j + 1) v (by simpa using hj)
              exact ⟨u, by rw [show i + 1 + j = i + (j + 1) by omega]; exact h1, h2⟩) (fun j v hj => by
              obtain ⟨u, h1, h2⟩ := hy (j + 1) v (by simpa using hj)
              exact ⟨u, by rw [show i + 1 + j = i + (j + 1) by omega]; exact h1, h2⟩) hr
            simp only [Op.eqFields, ne_eq, hname, not_false_eq_true, if_true, Sem.run_bind, hp X u hu1, hp Y v hv1, Result.andThen_ok]
            split at hr
            · rename_i he
              rw [eqScalar_sound (P := P) (w := w) n hd hu2 hv2 he]
              simpa using ih r hr
            · rename_i he
              simp only [Option.some.injEq] at hr; subst hr
              rw [eqScalar_sound (P := P) (w := w) n hd hu2 hv2 he]
              simp
            · simp at hr
      · simp at hk
    · simp at hk

theorem eqOut_some {op : BinOp} {r : Option Bool} {v : AV} (h : eqOut op r = some v) : ∃ b, r = some b ∧ ((op = .eql ∧ v = .bool b) ∨ (op = .neq ∧ v = .bool (!b))) := by
  unfold eqOut at h
  split at h
  · simp only [Option.some.injEq] at h; exact ⟨_, rfl, .inl ⟨rfl, h.symm⟩⟩
  · simp only [Option.some.injEq] at h; exact ⟨_, rfl, .inr ⟨rfl, h.symm⟩⟩
  · simp at h

theorem fieldsOf_struct {t : TypeId} {fs : Array Field} (h : P.underlying t = some (.struct fs)) : P.underlying t = some (.struct (P.fieldsOf t)) ∧ P.fieldsOf t = fs := by
  have : P.fieldsOf t = fs := by simp [Program.fieldsOf, h]
  rw [this]; exact ⟨h, rfl⟩

theorem binA_sound (hE : EnvOK P E) {op : BinOp} {t : TypeId} {l : List AV} {b v : AV} {x y : Value} (ox oy : Operand) (hx : RV ρ (.agg l) x) (hy : RV ρ b y) (hv : binA E op t l b = some v) :
    ∃ u, (do eqGuard op t ox oy x y; binOp op t x y : Sem Value).run P w = .ok u w ∧ RV ρ v u := by
  unfold binA at hv
  split at hv
  · rename_i b ti hty
    split at hv
    · rename_i ks hk
      obtain ⟨r, hr, hop⟩ := eqOut_some hv
      simp only [RV] at hx hy
      obtain ⟨X, rfl, hX⟩ := hx
      obtain ⟨Y, rfl, hY⟩ := hy
      obtain ⟨fs, hu, hfl, hst, hg⟩ := (TI.facts (hE.ty t ti hty)).2.2.2.2 ks hk
      have hund := ty_und hE hty
      rw [hu] at hund
      obtain ⟨hf1, hf2⟩ := fieldsOf_struct hund
      have heq : (Op.equalIn 10000 t (.agg ⟨X⟩) (.agg ⟨Y⟩)).run P w = .ok r w := by
        rw [run_equalIn_struct w 9999 t _ _ hf1 hst, hf2]
        exact eqCells_sound 9998 ⟨X⟩ ⟨Y⟩ fs.toList ks 0 l b r hfl (fun j v hj => by
          obtain ⟨u, h1, h2⟩ := hX.get hj
          exact ⟨u, by simpa using h1, h2⟩) (fun j v hj => by
          obtain ⟨u, h1, h2⟩ := hY.get hj
          exact ⟨u, by simpa using h1, h2⟩) hr
      rcases hop with ⟨rfl, rfl⟩ | ⟨rfl, rfl⟩
      · refine ⟨.bool r, ?_, rfl⟩
        simp only [Sem.run_bind, run_eqGuard_agg w _ _ _ _ _ _ hg, Result.andThen_ok, run_eql_struct, heq]
      · refine ⟨.bool (!r), ?_, rfl⟩
        simp only [Sem.run_bind, run_eqGuard_agg w _ _ _ _ _ _ hg, Result.andThen_ok, run_neq_struct, heq]
    · simp at hv
  · simp at hv
end
end Go.Ev
/- An evaluator of closed calls over abstract memory: operations, one by one (5): sameness, conversions. -/
namespace Go.Ev
open Go.RowKit
set_option autoImplicit false
set_option linter.unusedSimpArgs false
set_option linter.unusedVariables false

variable {P : Program}
section
variable {E : Env} {B : Nat} {w0 w : World} {ρ : Rho} {h : AH} {tm : T} {a : Act} {o : Oper}

theorem eq_pair {op : BinOp} {t : TypeId} {ox oy : Operand} {x y : Value} {r : Option Bool} {v : AV} {b : Bool} (hv : eqOut op r = some v) (hb : r = some b)
    (h1 : binOp .eql t x y = (do pure (.bool (← Op.equal t x y)))) (h2 : binOp .neq t x y = (do pure (.bool (!(← Op.equal t x y)))))
    (hg : (op = .eql ∨ op = .neq) → (eqGuard op t ox oy x y).run P w = .ok () w) (he : (Op.equal t x y).run P w = .ok b w) :
    ∃ u, (do eqGuard op t ox oy x y; binOp op t x y : Sem Value).run P w = .ok u w ∧ RV ρ v u := by
  obtain ⟨b', hb', hop⟩ := eqOut_some hv
  rw [hb] at hb'; simp only [Option.some.injEq] at hb'; subst hb'
  rcases hop with ⟨rfl, rfl⟩ | ⟨rfl, rfl⟩
  · exact ⟨.bool b, by simp only [Sem.run_bind, hg (.inl rfl), Result.andThen_ok, h1, he, Sem.run_pure], rfl⟩
  · exact ⟨.bool (!b), by simp only [Sem.run_bind, hg (.inr rfl), Result.andThen_ok, h2, he, Sem.run_pure], rfl⟩

theorem run_equal {t : TypeId} {d : TypeDesc} (hu : P.underlying t = some d) (x y : Value) (b : Bool)
    (h : (match d, x, y with
      | .bool, .bool a, .bool b => (pure (a == b) : Sem Bool)
      | .pointer _, .pointer none, .pointer b => pure b.isNone
      | .pointer _, .pointer _, .pointer none => pure false
      | .slice _, .slice none _ _, .slice b _ _ => pure b.isNone
      | .slice _, .slice _ _ _, .slice none _ _ => pure false
      | .map _ _, .map none, .map b => pure b.isNone
      | .map _ _, .map _, .map none => pure false
      | .func _ _ _, .nilFunc, .nilFunc => pure true
      | .func _ _ _, .nilFunc, .func _ _ _ | .func _ _ _, .func _ _ _, .nilFunc => pure false
      | .interface _, .nilIface, .nilIface => pure true
      | .interface _, .nilIface, .iface _ _ | .interface _, .iface _ _, .nilIface => pure false
      | _, _, _ => stuck "") = pure b) : (Op.equal t x y).run P w = .ok b w := by
  have key : ∀ n, (Op.equalIn (n + 1) t x y).run P w = .ok b w := by
    intro n
    simp only [Op.equalIn, Sem.run_bind, run_underlying hu, Result.andThen_ok]
    have hb := congrArg (fun s : Sem Bool => s.run P w) h
    split at h <;> first
      | (simp only [Sem.run_pure] at hb ⊢; exact hb)
      | (exact absurd hb (by simp))
  exact key 9999

theorem binO_sound (hE : EnvOK P E) {op : BinOp} {t : TypeId} {c d v : AV} {x y : Value} {ox oy : Operand} (hx : RV ρ c x) (hy : RV ρ d y) (hv : binO E op t ox oy c d = some v) :
    ∃ u, (do eqGuard op t ox oy x y; binOp op t x y : Sem Value).run P w = .ok u w ∧ RV ρ v u := by
  unfold binO at hv
  split at hv
  · rename_i ti hty
    split at hv
    · rename_i hk
      have hu := ty_und hE hty
      unfold eqKind at hk
      split at hk
      · -- bool
        rename_i hd
        rw [hd] at hu
        split at hk
        · simp only [RV] at hx hy; subst hx hy
          exact eq_pair hv rfl rfl rfl (fun _ => by rw [eqGuard_at_bool]; rfl) (run_equal hu _ _ _ rfl)
        · simp at hk
      · -- pointers
        rename_i e hd
        rw [hd] at hu
        split at hk
        · simp only [RV] at hx hy; subst hx hy
          exact eq_pair hv rfl rfl rfl (fun _ => by rw [eqGuard_at_pointer]; rfl) (run_equal hu _ _ _ rfl)
        · simp only [RV] at hx hy; subst hx; obtain ⟨p, _, rfl⟩ := hy
          exact eq_pair hv rfl rfl rfl (fun _ => by rw [eqGuard_at_pointer]; rfl) (run_equal hu _ _ _ rfl)
        · simp only [RV] at hx hy; subst hy; obtain ⟨p, _, rfl⟩ := hx
          exact eq_pair hv rfl rfl rfl (fun _ => by rw [eqGuard_at_pointer]; rfl) (run_equal hu _ _ _ rfl)
        · rename_i b1 o1 b2 o2
          split at hk
          · rename_i tu htu
            simp only [Bool.not_eq_true'] at hk
            have hsz : tu.size ≠ 0 := fun h0 => by rw [h0] at hk; simp at hk
            obtain ⟨r, hr, hop⟩ := eqOut_some hv
            simp only [eqv] at hr
            split at hr
            · rename_i hb; subst hb
              simp only [Option.some.injEq] at hr; subst hr
              simp only [RV] at hx hy
              obtain ⟨p, hp, rfl⟩ := hx
              obtain ⟨q, hq, rfl⟩ := hy
              rw [hp] at hq; simp only [Option.some.injEq] at hq; subst hq
              refine eq_pair (b := (o1 == o2)) hv (by simp [eqv]) rfl rfl (fun _ => by rw [eqGuard_at_pointer]; rfl) ?_
              have key : ∀ n, (Op.equalIn (n + 1) t (.pointer (some ⟨p.1, o1, none⟩)) (.pointer (some ⟨p.1, o2, none⟩))).run P w = .ok (o1 == o2) w := by
                intro n
                simp only [Op.equalIn, Sem.run_bind, run_underlying hu, Result.andThen_ok, ty_size hE htu w, ne_eq, hsz, not_false_eq_true, if_true, sameAddr, beq_self_eq_true, Sem.run_pure]
                congr 1
                rw [Bool.eq_iff_iff]
                simp
              exact key 9999
            · simp at hr
          · simp at hk
        · simp at hk
      · -- slices
        rename_i e hd
        rw [hd] at hu
        split at hk
        · simp only [RV] at hx hy; subst hx hy
          exact eq_pair hv rfl rfl rfl (fun _ => by rw [eqGuard_at_slice]; rfl) (run_equal hu _ _ _ rfl)
        · simp only [RV] at hx hy; subst hx; obtain ⟨p, C, _, rfl, _⟩ := hy
          exact eq_pair hv rfl rfl rfl (fun _ => by rw [eqGuard_at_slice]; rfl) (run_equal hu _ _ _ rfl)
        · simp only [RV] at hx hy; subst hy; obtain ⟨p, C, _, rfl, _⟩ := hx
          exact eq_pair hv rfl rfl rfl (fun _ => by rw [eqGuard_at_slice]; rfl) (run_equal hu _ _ _ rfl)
        · simp at hk
      · -- maps
        rename_i e f hd
        rw [hd] at hu
        split at hk
        · simp only [RV] at hx hy; subst hx hy
          exact eq_pair hv rfl rfl rfl (fun _ => by rw [eqGuard_at_map]; rfl) (run_equal hu _ _ _ rfl)
        · simp only [RV] at hx hy; subst hx; obtain ⟨p, _, rfl⟩ := hy
          exact eq_pair hv rfl rfl rfl (fun _ => by rw [eqGuard_at_map]; rfl) (run_equal hu _ _ _ rfl)
        · simp only [RV] at hx hy; subst hy; obtain ⟨p, _, rfl⟩ := hx
          exact eq_pair hv rfl rfl rfl (fun _ => by rw [eqGuard_at_map]; rfl) (run_equal hu _ _ _ rfl)
        · simp at hk
      · -- functions
        rename_i e f g hd
        rw [hd] at hu
        split at hk
        · simp only [RV] at hx hy; subst hx hy
          exact eq_pair hv rfl rfl rfl (fun hop => by rcases hop with rfl | rfl <;> rfl) (run_equal hu _ _ _ rfl)
        · simp only [RV] at hx hy; subst hx; obtain ⟨A, C, rfl, _⟩ := hy
          exact eq_pair hv rfl rfl rfl (fun hop => by rcases hop with rfl | rfl <;> rfl) (run_equal hu _ _ _ rfl)
        · simp only [RV] at hx hy; subst hy; obtain ⟨A, C, rfl, _⟩ := hx
          exact eq_pair hv rfl rfl rfl (fun hop => by rcases hop with rfl | rfl <;> rfl) (run_equal hu _ _ _ rfl)
        · simp at hk
      · -- interfaces
        rename_i e hd
        rw [hd] at hu
        split at hk
        · simp only [RV] at hx hy; subst hx hy
          refine eq_pair hv rfl rfl rfl (fun hop => ?_) (run_equal hu _ _ _ rfl)
          rw [Bool.or_eq_true] at hk
          rcases hk with hk | hk
          · cases ox <;> simp [isConst] at hk
            rcases hop with rfl | rfl <;> simp [eqGuard]
          · cases oy <;> simp [isConst] at hk
            rcases hop with rfl | rfl <;> simp [eqGuard]
        · simp only [RV] at hx hy; subst hx; obtain ⟨u, rfl, _⟩ := hy
          exact eq_pair hv rfl rfl rfl (fun hop => by rcases hop with rfl | rfl <;> rfl) (run_equal hu _ _ _ rfl)
        · simp only [RV] at hx hy; subst hy; obtain ⟨u, rfl, _⟩ := hx
          exact eq_pair hv rfl rfl rfl (fun hop => by rcases hop with rfl | rfl <;> rfl) (run_equal hu _ _ _ rfl)
        · simp at hk
      · simp at hk
    · simp at hv
  · simp at hv

theorem oBin_ok (hE : EnvOK P E) (s : St B w0 ρ h w) (r : RT ρ tm a) {op : BinOp} {t t2 : TypeId} {x y : Operand} (ho : o.op = .binOp op t x y t2) : OpOK P B w0 ρ o a w (oBin op t x y E tm h) := by
  unfold oBin
  split
  · rename_i c d hc hd
    refine ok_one s fun v hv => ?_
    have h1 := opnd_sound r hc
    have h2 := opnd_sound r hd
    have key : ∃ u, (do eqGuard op t x y (a.eval x) (a.eval y); binOp op t (a.eval x) (a.eval y) : Sem Value).run P w = .ok u w ∧ RV ρ v u := by
      unfold binV at hv
      split at hv
      · rename_i k m
        have h1' := h1
        simp only [RV] at h1
        rw [h1] at *
        obtain ⟨u, h3, h4⟩ := binI_sound (P := P) (w := w) t h2 hv
        exact ⟨u, by rw [eqGuard_at_int]; simpa using h3, h4⟩
      · rename_i l
        obtain ⟨u, h3, h4⟩ := binS_sound (P := P) (w := w) t h1 h2 hv
        simp only [RV] at h1
        obtain ⟨S, hS, _⟩ := h1
        rw [hS] at h3 ⊢
        exact ⟨u, by rw [eqGuard_at_string]; simpa using h3, h4⟩
      · exact binA_sound hE x y h1 h2 hv
      · exact binO_sound hE h1 h2 hv
    obtain ⟨u, h3, h4⟩ := key
    refine ⟨u, ?_, h4⟩
    simp only [execOp, ho]
    rw [Sem.run_bind, h3]
    rfl
  · trivial

/-! conversions -/

theorem bytesOf_sound : ∀ {l : List AV} {s : List Nat} {us : List Value}, RVs ρ l us → bytesOf l = some s → us = s.map (fun (n : Nat) => Value.int .u8 (n : Int)) ∧ ∀ n ∈ s, n < 256
  | [], s, us, hu, h => by
    simp only [bytesOf, Option.some.injEq] at h; subst h
    simp only [RVs] at hu; subst hu; simp
  | x :: l, s, us, hu, h => by
    cases x with
    | int k n =>
      cases k with
      | u8 =>
        simp only [bytesOf] at h
        split at h
        · rename_i b hb
          split at h
          · rename_i hn
            simp only [Option.some.injEq] at h; subst h
            simp only [RVs, RV] at hu
            obtain ⟨v, r, rfl, rfl, h3⟩ := hu
            obtain ⟨h4, h5⟩ := bytesOf_sound h3 hb
            refine ⟨?_, ?_⟩
            · rw [h4]; simp only [List.map_cons, List.cons.injEq, Value.int.injEq, true_and]
              exact ⟨by omega, trivial⟩
            · intro m hm
              rcases List.mem_cons.1 hm with rfl | hm
              · omega
              · exact h5 m hm
          · simp at h
        · simp at h
      | _ => simp [bytesOf] at h
    | _ => simp [bytesOf] at h

theorem bytesN_foldl (s : List Nat) (hs : ∀ n ∈ s, n < 256) : ∀ (b : ByteArray), bytesN ((s.map (fun (n : Nat) => (n : Int))).foldl (fun r n => r.push (UInt8.ofNat n.toNat)) b) = bytesN b ++ s := by
  induction s with
  | nil => intro b; simp
  | cons n s ih =>
    intro b
    simp only [List.map_cons, List.foldl_cons]
    rw [ih (fun m hm => hs m (by simp [hm]))]
    have : bytesN (b.push (UInt8.ofNat (n : Int).toNat)) = bytesN b ++ [n] := by
      unfold bytesN
      have hn := hs n (by simp)
      simp only [ByteArray.push, Array.toList_push, List.map_append, List.map_cons, List.map_nil, Int.toNat_natCast]
      congr 2
      simp only [UInt8.toNat_ofNat']
      omega
    rw [this, List.append_assoc]; rfl

theorem convV_sound (hE : EnvOK P E) (s : St B w0 ρ h w) {src dst : TypeId} {x v : AV} {u : Value} (hx : RV ρ x u) (hv : convV E src dst x h = some v) : ∃ y, (convert src dst u).run P w = .ok y w ∧ RV ρ v y := by
  unfold convV at hv
  split at hv
  · rename_i ts td hts htd
    have hu1 := ty_run hE hts w
    have hu2 := ty_run hE htd w
    split at hv
    · rename_i k n j hd
      simp only [Option.some.injEq] at hv; subst hv
      simp only [RV] at hx; subst hx
      rw [hd] at hu2
      refine ⟨.int j (j.wrap n), ?_, by rw [wrapI_eq]; rfl⟩
      simp only [convert, Sem.run_bind, hu1, hu2, Result.andThen_ok, Conv.intToInt]
      rfl
    · rename_i l hd
      simp only [Option.some.injEq] at hv; subst hv
      rw [hd] at hu2
      have hx' := hx
      simp only [RV] at hx; obtain ⟨S, rfl, hS⟩ := hx
      refine ⟨.string S, ?_, hx'⟩
      simp only [convert, Sem.run_bind, hu1, hu2, Result.andThen_ok]
      rfl
    · rename_i b off ee n c hd
      split at hv
      · rename_i e he
        split at hv
        · rename_i hte
          split at hv
          · rename_i l hl
            simp only [Option.map_eq_some_iff] at hv
            obtain ⟨bs, hbs, rfl⟩ := hv
            simp only [RV] at hx
            obtain ⟨p, C, hp, rfl, _⟩ := hx
            obtain ⟨us, h1, h2, h3⟩ := load_sound (P := P) s hl hp
            obtain ⟨h4, h5⟩ := bytesOf_sound h1 hbs
            have hus := ty_und hE hts
            rw [he] at hus
            have hue := ty_und hE hte
            have hud := ty_und hE htd
            rw [hd] at hud
            rw [run_convert_bytes_string w src dst e _ _ _ hus hue hud]
            rw [run_bytesToString w ⟨p.1, off, none⟩ n C (bs.map fun (n : Nat) => (n : Int)) (by rw [h3, h4]; simp [Function.comp_def])]
            refine ⟨_, rfl, ?_⟩
            simp only [RV]
            exact ⟨_, rfl, by rw [bytesN_foldl bs h5]; rfl⟩
          · simp at hv
        · simp at hv
      · simp at hv
    · rename_i b off hd
      split at hv
      · rename_i e l t lo hi he hg
        split at hv
        · rename_i tu htu
          split at hv
          · simp at hv
          · rename_i hc
            simp only [Option.some.injEq] at hv; subst hv
            simp only [not_or, Nat.not_le] at hc
            have hx' := hx
            simp only [RV] at hx
            obtain ⟨p, hp, rfl⟩ := hx
            obtain ⟨q, h1, ⟨C, fr, hX, hcs, hfr, hop⟩, h3⟩ := s.obj b _ hg
            rw [hp] at h1; simp only [Option.some.injEq] at h1; subst h1
            simp only at hop
            refine ⟨.pointer (some ⟨p.1, off, none⟩), ?_, hx'⟩
            rw [he] at hu1
            rw [hd] at hu2
            have hsh : w.shape? p.1 = some (t, C.size) := by simp [World.shape?, hX]
            simp only [convert, Sem.run_bind, hu1, hu2, Result.andThen_ok, Conv.unsafePointer, Conv.seenAt, viewAt, run_shape, hsh, Option.isSome_some, if_true, Sem.run_pure, cellsIn, ty_size hE htu w]
            rw [if_neg (by simp; omega)]
            rfl
        · simp at hv
      · simp at hv
    · rename_i b off e hd
      split at hv
      · rename_i l t lo hi he hg
        split at hv
        · rename_i tt tu htt htu
          split at hv
          · rename_i hl
            simp only [Option.some.injEq] at hv; subst hv
            have hlies := hE.lies _ _ _ _ hl
            have hx' := hx
            simp only [RV] at hx
            obtain ⟨p, hp, rfl⟩ := hx
            obtain ⟨q, h1, ⟨C, fr, hX, hcs, hfr, hop⟩, h3⟩ := s.obj b _ hg
            rw [hp] at h1; simp only [Option.some.injEq] at h1; subst h1
            simp only at hop
            refine ⟨.pointer (some ⟨p.1, off, none⟩), ?_, hx'⟩
            rw [he] at hu1
            rw [hd] at hu2
            have hsh : w.shape? p.1 = some (t, C.size) := by simp [World.shape?, hX]
            have hco : P.cellsOf t = tt.size := by
              obtain ⟨i, h1, h2, _⟩ := ty_info hE htt
              simp [Program.cellsOf, h1, h2]
            have hva : (variablesAt ⟨p.1, off, none⟩ e 1).run P w = .ok true w := by
              simp only [variablesAt, Sem.run_bind, run_program, Result.andThen_ok, run_shape, hsh, hco, hop, hlies, Sem.run_pure]
            simp only [convert, Sem.run_bind, hu1, hu2, Result.andThen_ok, Conv.unsafePointer, Conv.seenAt, viewAt, run_shape, hsh, Option.isSome_some, if_true, Sem.run_pure, ty_size hE htu w, hva, Bool.or_true]
          · simp at hv
        · simp at hv
      · simp at hv
    · rename_i hd
      split at hv
      · rename_i e he
        split at hv
        · rename_i hte
          simp only [Option.some.injEq] at hv; subst hv
          simp only [RV] at hx; subst hx
          have hus := ty_und hE hts
          rw [he] at hus
          have hue := ty_und hE hte
          have hud := ty_und hE htd
          rw [hd] at hud
          rw [run_convert_bytes_string w src dst e _ _ _ hus hue hud]
          exact ⟨.string .empty, rfl, by simp only [RV]; exact ⟨_, rfl, rfl⟩⟩
        · simp at hv
      · simp at hv
    · simp at hv
  · simp at hv
end
end Go.Ev
/- An evaluator of closed calls over abstract memory: append, copy and the other builtins. -/
namespace Go.Ev
open Go.RowKit
set_option autoImplicit false
set_option linter.unusedSimpArgs false
set_option linter.unusedVariables false

variable {P : Program}
section
variable {E : Env} {B : Nat} {w0 w : World} {ρ : Rho} {h : AH} {tm : T} {a : Act} {o : Oper}

theorem setRange_get {α : Type} : ∀ (us L : List α) (o j : Nat), o + us.length ≤ L.length → (setRange L o us)[j]? = if o ≤ j ∧ j < o + us.length then us[j - o]? else L[j]?
  | [], L, o, j, h => by simp only [setRange, List.length_nil, Nat.add_zero]; rw [if_neg (by omega)]
  | u :: us, L, o, j, h => by
    simp only [List.length_cons] at h
    rw [setRange, setRange_get us (L.set o u) (o + 1) j (by simp; omega)]
    simp only [List.length_cons]
    by_cases h1 : o + 1 ≤ j ∧ j < o + 1 + us.length
    · rw [if_pos h1, if_pos (by omega)]
      rw [show j - o = (j - (o + 1)) + 1 by omega, List.getElem?_cons_succ]
    · rw [if_neg h1]
      by_cases h2 : j = o
      · subst h2
        rw [if_pos (by omega), List.getElem?_set_self (by omega)]
        simp
      · rw [if_neg (by omega), List.getElem?_set_ne (by omega)]

theorem lenV_sound {x : AV} {u : Value} {n : Nat} (hx : RV ρ x u) (hn : lenV x = some n) (w : World) : (Builtin.lenOf u).run P w = .ok n w := by
  cases x <;> simp only [lenV, Option.some.injEq] at hn <;> try (exact absurd hn (by simp))
  · subst hn
    simp only [RV] at hx; obtain ⟨S, rfl, hS⟩ := hx
    rw [← hS, bytesN_length]; rfl
  · subst hn
    simp only [RV] at hx; obtain ⟨p, C, _, rfl, _⟩ := hx; rfl
  · subst hn
    simp only [RV] at hx; subst hx; rfl
  · subst hn
    simp only [RV] at hx; obtain ⟨A, C, rfl, _⟩ := hx; rfl

theorem contentV_sound (s : St B w0 ρ h w) {x : AV} {u : Value} {size n : Nat} {l : List AV} (hx : RV ρ x u) (hl : contentV size n h x = some l) : ∃ us, RVs ρ l us ∧ (Builtin.firstCells size n u).run P w = .ok ⟨us⟩ w := by
  unfold contentV at hl
  split at hl
  · rename_i bs
    simp only [Option.some.injEq] at hl; subst hl
    simp only [RV] at hx; obtain ⟨S, rfl, hS⟩ := hx
    refine ⟨((S.extract 0 n).data.map fun b => Value.int .u8 (b.toNat : Int)).toList, ?_, ?_⟩
    · have hb := bytesN_extract S 0 n
      simp only [List.drop_zero, Nat.sub_zero, hS] at hb
      rw [← hb]
      unfold bytesN
      rw [Array.toList_map, List.map_map]
      refine RVs.of (by simp) fun j v hj => ?_
      rw [List.getElem?_map, Option.map_eq_some_iff] at hj
      obtain ⟨c, hc, rfl⟩ := hj
      exact ⟨.int .u8 (c.toNat : Int), by rw [List.getElem?_map, hc]; rfl, by simp [RV]⟩
    · simp only [Builtin.firstCells]; rfl
  · rename_i b off e m c
    simp only [RV] at hx; obtain ⟨p, C, hp, rfl, _⟩ := hx
    obtain ⟨us, h1, h2, h3⟩ := load_sound (P := P) s hl hp
    exact ⟨us, h1, by simp only [Builtin.firstCells, h3]⟩
  · split at hl
    · simp only [Option.some.injEq] at hl; subst hl
      simp only [RV] at hx; subst hx
      exact ⟨[], by simp [RVs], rfl⟩
    · simp at hl
  · rename_i m c
    simp only [RV] at hx; obtain ⟨A, C, rfl, _, hA, hcon⟩ := hx
    rcases hcon with rfl | ⟨b, off, X, t', fr, rfl, hR, hc⟩
    · unfold sliceL at hl
      simp only [List.drop_nil, List.take_nil, List.length_nil] at hl
      split at hl
      · rename_i h0
        simp only [Option.some.injEq] at hl; subst hl
        refine ⟨[], by simp [RVs], ?_⟩
        cases A with
        | none => rfl
        | some ad =>
          have := run_loadCells_list (P := P) w ad [] (fun j v hj => by simp at hj)
          simp only [Builtin.firstCells]
          rw [← h0]
          exact this
      · simp at hl
    · obtain ⟨us, h1, h2, _, h3⟩ := xload_sound (P := P) s hR hc hl
      exact ⟨us, h1, by simp only [Builtin.firstCells, h3]⟩
  · simp at hl

/-- append where there is room. -/
theorem run_append_in {t t2 ty e : TypeId} {d2 : TypeDesc} {size n sLen sCap : Nat} {base : Option Addr} {x : Value} {news : List Value} {w' : World} (ht : P.underlying t = some (.slice e)) (h2 : P.underlying t2 = some d2) (hd2 : ∀ k, d2 ≠ .int k)
    (hs : (sizeOf e).run P w = .ok size w) (hn : (Builtin.lenOf x).run P w = .ok n w) (hc : (Builtin.firstCells size n x).run P w = .ok ⟨news⟩ w) (hroom : sLen + n ≤ sCap)
    (hst : ∀ a, base = some a → (storeCells (a.add (sLen * size)) news).run P w = .ok () w') (hno : base = none → w' = w) (ts : List TypeId) (rest : List Value) :
    (Builtin.append_ ⟨t :: t2 :: ts⟩ ty ⟨.slice base sLen sCap :: x :: rest⟩).run P w = .ok (.slice base (sLen + n) sCap) w' := by
  simp only [Builtin.append_, List.getElem?_toArray, List.getElem?_cons_zero, List.getElem?_cons_succ, Sem.run_bind, run_underlying ht, Result.andThen_ok, hs]
  simp only [Sem.run_bind, run_underlying h2, Result.andThen_ok, Sem.run_pure]
  rw [if_neg Bool.false_ne_true]
  simp only [Sem.run_bind, hn, Result.andThen_ok]
  rw [if_pos hroom]
  simp only [Bool.not_false, if_true, Sem.run_bind, hc, Result.andThen_ok]
  cases base with
  | none => rw [hno rfl]; rfl
  | some a => simp only [Sem.run_bind, hst a rfl, Result.andThen_ok, Sem.run_pure]

/-- append where a new block is made. -/
theorem run_append_out {t t2 ty e : TypeId} {d2 : TypeDesc} {i : TypeInfo} {z : Value} {n sLen sCap : Nat} {base : Option Addr} {x : Value} {olds news : List Value} (ht : P.underlying t = some (.slice e)) (h2 : P.underlying t2 = some d2) (hd2 : ∀ k, d2 ≠ .int k)
    (hi : P.info? e = some i) (hz : i.zero = some z) (hn : (Builtin.lenOf x).run P w = .ok n w) (ho : (Builtin.firstCells i.size sLen (.slice base sLen sCap)).run P w.drew = .ok ⟨olds⟩ w.drew)
    (hc : (Builtin.firstCells i.size n x).run P w.drew = .ok ⟨news⟩ w.drew) (hroom : sCap < sLen + n) (hb : (sLen + n) * i.bytes ≤ roomN) (hl : sLen + n ≤ roomN) (ts : List TypeId) (rest : List Value) :
    (Builtin.append_ ⟨t :: t2 :: ts⟩ ty ⟨.slice base sLen sCap :: x :: rest⟩).run P w =
      .ok (.slice (some ⟨w.heap.size, 0, none⟩) (sLen + n) (grownCap w (sLen + n) sCap e)) (w.drew.alloc (.cells (⟨olds⟩ ++ ⟨news⟩ ++ Builtin.zeroCells z.cells (grownCap w (sLen + n) sCap e - (sLen + n))) e)) := by
  unfold roomN at hb hl
  have hfit := growslice_fits hroom hb
  have hs : (sizeOf e).run P w = .ok i.size w := by simp [sizeOf, typeInfo, hi]
  have hti : ∀ w : World, (typeInfo e).run P w = .ok i w := fun w => by simp [typeInfo, hi]
  have hzv : ∀ w : World, (zeroValue e).run P w = .ok z w := fun w => by simp [zeroValue, typeInfo, hi, hz]
  simp only [Builtin.append_, List.getElem?_toArray, List.getElem?_cons_zero, List.getElem?_cons_succ, Sem.run_bind, run_underlying ht, Result.andThen_ok, hs]
  simp only [Sem.run_bind, run_underlying h2, Result.andThen_ok, Sem.run_pure]
  rw [if_neg Bool.false_ne_true]
  simp only [Sem.run_bind, hn, Result.andThen_ok]
  rw [if_neg (by omega)]
  simp only [Sem.run_bind, hti, Result.andThen_ok]
  rw [if_neg (by simp only [IntKind.max_i64]; omega)]
  simp only [Sem.run_bind, Sem.run_pure, hti, Result.andThen_ok]
  rw [if_neg (by omega)]
  simp only [Sem.run_bind, Sem.run_pure, hti, Result.andThen_ok, run_choose, Question.forced, Bool.false_eq_true, if_false, World.drew_eq, run_askRoom, ho, hc, Bool.not_false, if_true, hzv, newRow, run_newObj, World.alloc_eq, World.size_drew]
  rfl
end
end Go.Ev
