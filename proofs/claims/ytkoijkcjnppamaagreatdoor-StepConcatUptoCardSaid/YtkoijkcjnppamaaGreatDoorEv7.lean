/- Sorting of strings as the evaluator's own doing. Conditions: the contract of slices.Sorted (SortedOK). -/
import Derived.Test.YtkoijkcjnppamaaGreatDoorEv6
import Derived.Sort.EncStr
import Derived.Laws.AppendOwn
import Derived.MapKept
/- An evaluator of closed calls over abstract memory: a block that a callee has made is taken over. -/
namespace Go.Ev
open Go.RowKit
set_option autoImplicit false
set_option linter.unusedSimpArgs false
set_option linter.unusedVariables false

/-- A block beyond what is known is made known. -/
theorem St.adopt {B : Nat} {w0 w w' : World} {ρ : Rho} {h : AH} (s : St B w0 ρ h w) (hb : Below w.heap.size w w') (o : AObj) (g κ : Nat) (hg : w.heap.size ≤ g) (hlt : g < w'.heap.size)
    (ho : RO (ρ.snoc ((g, κ))) (g, κ) o w'.heap[g]?) : St B w0 (ρ.snoc ((g, κ))) (Go.Ev.new h o) w' := by
  have s' := s.beyond hb
  have hsub := Sub.snoc ρ (g, κ)
  have hlast : (ρ.snoc ((g, κ))).l[ρ.l.length]? = some (g, κ) := by simp
  have hold : ∀ (n : Nat) p, (ρ.snoc ((g, κ))).l[n]? = some p → n ≠ ρ.l.length → ρ.l[n]? = some p := by
    intro n p hp hn
    rcases Nat.lt_or_ge n ρ.l.length with hlt | hge
    · rwa [Rho.snoc_l, List.getElem?_append_left hlt] at hp
    · have := (List.getElem?_eq_some_iff.1 hp).1
      simp at this; omega
  have hget : ∀ n, (Go.Ev.new h o).m.get n = if n = h.next then some o else h.m.get n := by
    intro n; simp only [Go.Ev.new, Tr.get_set]
  refine ⟨by simp [Go.Ev.new, s.len], s'.below, s'.sz, ?_, ?_, ?_, s'.z, ?_⟩
  · intro n p hp
    by_cases hn : n = ρ.l.length
    · subst hn; rw [hlast] at hp; simp only [Option.some.injEq] at hp; subst hp; exact hlt
    · exact s'.lt n p (hold n p hp hn)
  · intro n o' ho'
    rw [hget] at ho'
    split at ho'
    · rename_i e
      simp only [Option.some.injEq] at ho'; subst ho'
      exact ⟨(g, κ), by rw [e, ← s.len]; exact hlast, ho, Nat.le_trans s.sz hg⟩
    · obtain ⟨p, h1, h2, h3⟩ := s'.obj n o' ho'
      exact ⟨p, hsub.l _ _ h1, h2.mono hsub, h3⟩
  · intro n m p q hn hm hp hq hpq
    rw [hget] at hn hm
    have key : ∀ (n : Nat) p, (if n = h.next then some o else h.m.get n).isSome → (ρ.snoc ((g, κ))).l[n]? = some p → n ≠ ρ.l.length → (h.m.get n).isSome ∧ ρ.l[n]? = some p ∧ p.1 < w.heap.size := by
      intro n p hn hp hne
      rw [if_neg (by rw [← s.len]; exact hne)] at hn
      exact ⟨hn, hold n p hp hne, s.lt n p (hold n p hp hne)⟩
    by_cases e1 : n = ρ.l.length <;> by_cases e2 : m = ρ.l.length
    · omega
    · obtain ⟨_, _, h3⟩ := key m q hm hq e2
      subst e1; rw [hlast] at hp; simp only [Option.some.injEq] at hp; subst hp
      simp at hpq; omega
    · obtain ⟨_, _, h3⟩ := key n p hn hp e1
      subst e2; rw [hlast] at hq; simp only [Option.some.injEq] at hq; subst hq
      simp at hpq; omega
    · obtain ⟨a1, a2, _⟩ := key n p hn hp e1
      obtain ⟨b1, b2, _⟩ := key m q hm hq e2
      exact s.inj n m p q a1 b1 a2 b2 hpq
  · intro c Y hc
    refine ⟨(s'.ro c Y hc).1, fun n p hn hp => ?_⟩
    have hcl := s.ro_lt hc
    by_cases e : n = ρ.l.length
    · subst e; rw [hlast] at hp; simp only [Option.some.injEq] at hp; subst hp
      show g ≠ c
      omega
    · rw [hget, if_neg (by rw [← s.len]; exact e)] at hn
      exact (s'.ro c Y hc).2 n p hn (hold n p hp e)

/-- the bytes of strings, as numbers -/
def natsL (l : List (List UInt8)) : List (List Nat) := l.map fun x => x.map (·.toNat)

theorem lessN_lt : ∀ (x y : List UInt8), lessN (x.map (·.toNat)) (y.map (·.toNat)) = decide (x < y)
  | x, [] => by cases x <;> simp [lessN]
  | [], y :: l => by simp [lessN]
  | a :: x, b :: y => by
    simp only [List.map_cons, lessN, lessN_lt x y]
    rw [Bool.eq_iff_iff]
    simp only [Bool.or_eq_true, Bool.and_eq_true, Nat.blt_eq, Nat.beq_eq, decide_eq_true_eq, List.cons_lt_cons_iff, UInt8.lt_iff_toNat_lt, UInt8.toNat_inj]

def insB (x : List UInt8) : List (List UInt8) → List (List UInt8)
  | [] => [x]
  | y :: l => if x < y then x :: y :: l else y :: insB x l

def sortB : List (List UInt8) → List (List UInt8)
  | [] => []
  | x :: l => insB x (sortB l)

theorem insN_map (x : List UInt8) : ∀ (l : List (List UInt8)), insN (x.map (·.toNat)) (natsL l) = natsL (insB x l)
  | [] => rfl
  | y :: l => by
    have ih := insN_map x l
    unfold natsL at *
    simp only [List.map_cons, insN, insB]
    rw [lessN_lt]
    by_cases h : x < y
    · simp only [h, decide_true, if_true, List.map_cons]
    · simp only [h, decide_false, if_false, List.map_cons]
      rw [ih]

theorem sortN_map : ∀ (l : List (List UInt8)), sortN (natsL l) = natsL (sortB l)
  | [] => rfl
  | x :: l => by
    have ih := sortN_map l
    unfold natsL at ih ⊢
    simp only [List.map_cons, sortN, sortB]
    rw [ih]
    exact insN_map x (sortB l)

theorem insB_perm (x : List UInt8) : ∀ (l : List (List UInt8)), List.Perm (insB x l) (x :: l)
  | [] => List.Perm.refl _
  | y :: l => by
    unfold insB
    split
    · exact List.Perm.refl _
    · exact ((insB_perm x l).cons y).trans (List.Perm.swap x y l)

theorem sortB_perm : ∀ (l : List (List UInt8)), List.Perm (sortB l) l
  | [] => List.Perm.refl _
  | x :: l => (insB_perm x (sortB l)).trans ((sortB_perm l).cons x)

theorem insB_sorted (x : List UInt8) : ∀ (l : List (List UInt8)), l.Pairwise (fun a b => a ≤ b) → (insB x l).Pairwise fun a b => a ≤ b
  | [], _ => by simp [insB]
  | y :: l, h => by
    rw [List.pairwise_cons] at h
    unfold insB
    split
    · rename_i hlt
      have hle : x ≤ y := List.le_of_lt hlt
      refine List.pairwise_cons.2 ⟨fun z hz => ?_, List.pairwise_cons.2 h⟩
      rcases List.mem_cons.1 hz with rfl | hz
      · exact hle
      · exact List.le_trans hle (h.1 z hz)
    · rename_i hlt
      refine List.pairwise_cons.2 ⟨fun z hz => ?_, insB_sorted x l h.2⟩
      rcases List.mem_cons.1 ((insB_perm x l).mem_iff.1 hz) with rfl | hz
      · exact List.not_lt.1 hlt
      · exact h.1 z hz

theorem sortB_sorted : ∀ (l : List (List UInt8)), (sortB l).Pairwise fun a b => a ≤ b
  | [] => List.Pairwise.nil
  | x :: l => insB_sorted x _ (sortB_sorted l)

theorem sortB_eq {l ss : List (List UInt8)} (hp : ss.Perm l) : ss.mergeSort (fun x y => decide (x ≤ y)) = sortB l := by
  refine List.Perm.eq_of_pairwise (le := fun a b => a ≤ b) (fun a b _ _ h1 h2 => List.le_antisymm h1 h2) ?_ (sortB_sorted l) ?_
  · have := List.pairwise_mergeSort (le := fun (x y : List UInt8) => decide (x ≤ y)) (fun a b c h1 h2 => by
      simp only [decide_eq_true_eq] at *; exact List.le_trans h1 h2) (fun a b => by
      simp only [Bool.or_eq_true, decide_eq_true_eq]; exact List.le_total a b) ss
    exact this.imp fun h => by simpa using h
  · exact ((List.mergeSort_perm ss _).trans hp).trans (sortB_perm l).symm
end Go.Ev
/- An evaluator of closed calls over abstract memory: slices.Sorted of strings, by its contract. -/
namespace Go.Ev
open Go.RowKit Go.Proofs
set_option autoImplicit false
set_option linter.unusedSimpArgs false
set_option linter.unusedVariables false

/-- what slices.Sorted gives, in plain words -/
def SortPost (w : World) (e : TypeId) (l : List (List UInt8)) (en : Ending) (w' : World) : Prop :=
  ∃ v, en = .returned v ∧ w'.ownsRow w.heap.size e 1 v l.length ((l.mergeSort (fun x y => decide (x ≤ y))).map encStr) ∧ (v = .slice none 0 0 ↔ l = []) ∧ Below w.heap.size w w'

def bytesLL (ss : List ByteArray) : List (List UInt8) := ss.map fun s => s.data.toList

/-- the slice value holds the strings -/
def HasStrs (n₀ : Nat) (W : World) (sv : Value) (zs : List ByteArray) : Prop :=
  (sv = .slice none 0 0 ∧ zs = []) ∨ ∃ b off cap, sv = .slice (some ⟨b, off, none⟩) zs.length cap ∧ b < n₀ ∧ ∀ j, j < zs.length → W.cell? ⟨b, off + j, none⟩ = some (.string (zs[j]?.getD ByteArray.empty))

structure SortedOK (P : Program) (N : SortNums) : Prop where
  values : ∀ (w : World) (Bx : Nat) (sv : Value) (zs : List ByteArray), zs.length ≤ 1000000 → Bx < w.heap.size → w.cell? ⟨Bx, 0, none⟩ = some sv → HasStrs w.heap.size w sv zs →
    Calls P N.f #[.func (.func N.fV) #[] #[.pointer (some ⟨Bx, 0, none⟩)]] w (SortPost w N.e (bytesLL zs))
  keys : ∀ (w : World) (Bm b : Nat) (A : List MapEntry) (clock : Nat) (ks : List ByteArray), Bm < w.heap.size → w.cell? ⟨Bm, 0, none⟩ = some (.map (some b)) → w.heap[b]? = some (.map ⟨A⟩ clock) →
    A.map (·.key) = ks.map Value.string → (∀ s ∈ ks, s.size ≤ maxLen) → ks.length ≤ 1000000 → MapKept.Stamped ⟨A⟩ clock →
    Calls P N.f #[.func (.func N.fK) #[] #[.pointer (some ⟨Bm, 0, none⟩)]] w (SortPost w N.e (bytesLL ks))

variable {P : Program}
section
variable {E : Env} {B : Nat} {w0 w : World} {ρ : Rho} {h : AH}

theorem strsOf_sound : ∀ {l : List AV} {ss : List (List Nat)} {us : List Value}, strsOf l = some ss → RVs ρ l us → ∃ zs : List ByteArray, us = zs.map Value.string ∧ ss = zs.map bytesN
  | [], ss, us, h, hr => by
    simp only [strsOf, Option.some.injEq] at h; subst h
    simp only [RVs] at hr; subst hr
    exact ⟨[], rfl, rfl⟩
  | x :: l, ss, us, h, hr => by
    cases x <;> simp only [strsOf] at h <;> try (exact absurd h (by simp))
    rename_i s
    split at h
    · rename_i r hl
      simp only [Option.some.injEq] at h; subst h
      simp only [RVs] at hr
      obtain ⟨v, us', rfl, hv, hrest⟩ := hr
      simp only [RV] at hv
      obtain ⟨S, rfl, rfl⟩ := hv
      obtain ⟨zs, rfl, rfl⟩ := strsOf_sound hl hrest
      exact ⟨S :: zs, rfl, rfl⟩
    · simp at h

theorem natsL_bytes (zs : List ByteArray) : zs.map bytesN = natsL (bytesLL zs) := by
  unfold natsL bytesLL bytesN
  rw [List.map_map]
  rfl

/-- what the call's outcome says of the evaluator's states -/
theorem post_adopt {N : SortNums} {zs : List ByteArray} {en : Ending} {w' : World} (s : St B w0 ρ h w) (hp : SortPost w N.e (bytesLL zs) en w') :
    ∃ u ρ', en = .returned u ∧ Sub ρ ρ' ∧ (match zs.map bytesN with
      | [] => RV ρ' .nsl u ∧ St B w0 ρ' h w'
      | l => RV ρ' (.sl h.next 0 0 l.length none) u ∧ St B w0 ρ' (Go.Ev.new h (.cells ((sortN l).map .str) N.e 0 0 (some 1))) w') := by
  obtain ⟨v, rfl, hrow, hnil, hb⟩ := hp
  cases zs with
  | nil =>
    have : v = .slice none 0 0 := hnil.2 rfl
    subst this
    exact ⟨_, ρ, rfl, Sub.refl _, by simp [RV], s.beyond hb⟩
  | cons z zs =>
    have hne : ¬ v = .slice none 0 0 := fun hv => by have := hnil.1 hv; simp [bytesLL] at this
    obtain ⟨hl, hcase⟩ := hrow
    rcases hcase with ⟨hv, _⟩ | ⟨g, cap, cur, rfl, hg, hX, h1, h2, h3, h4⟩
    · exact absurd hv hne
    · have hlt := (Array.getElem?_eq_some_iff.1 hX).1
      refine ⟨_, ρ.snoc ((g, cap)), rfl, Sub.snoc _ _, ?_⟩
      have hlen : ((z :: zs).map bytesN).length = (bytesLL (z :: zs)).length := by simp [bytesLL]
      have hst : St B w0 (ρ.snoc ((g, cap))) (Go.Ev.new h (.cells ((sortN ((z :: zs).map bytesN)).map .str) N.e 0 0 (some 1))) w' := by
        refine s.adopt hb _ g cap hg hlt ?_
        rw [hX]
        refine ⟨cur, (0, 0), rfl, ?_, fun j _ hj => by simp at hj, by simpa using h3⟩
        intro j v hj
        rw [natsL_bytes, sortN_map] at hj
        unfold natsL at hj
        rw [List.map_map, List.getElem?_map, Option.map_eq_some_iff] at hj
        obtain ⟨x, hx, rfl⟩ := hj
        have hx2 : ((bytesLL (z :: zs)).mergeSort (fun x y => decide (x ≤ y)))[j]? = some x := by rw [sortB_eq (List.Perm.refl _)]; exact hx
        have hj2 : (cur.toList.take ((bytesLL (z :: zs)).length * 1))[j]? = some (encStr x) := by rw [h4, List.getElem?_map, hx2]; rfl
        rw [List.getElem?_take] at hj2
        split at hj2
        · rw [Array.getElem?_toList] at hj2
          refine ⟨_, hj2, ?_⟩
          simp only [Function.comp, RV]
          exact ⟨⟨x.toArray⟩, rfl, rfl⟩
        · simp at hj2
      have hsl : RV (ρ.snoc ((g, cap))) (.sl h.next 0 0 ((z :: zs).map bytesN).length none) (.slice (some ⟨g, 0, none⟩) (bytesLL (z :: zs)).length cap) := by
        simp only [RV]
        exact ⟨(g, cap), cap, last_get ρ s _, by rw [hlen], by rw [hlen]; exact h1, by simp⟩
      exact ⟨hsl, hst⟩
end
end Go.Ev
/- An evaluator of closed calls over abstract memory: slices.Sorted as a primitive. -/
namespace Go.Ev
open Go.RowKit Go.Proofs
set_option autoImplicit false
set_option linter.unusedSimpArgs false
set_option linter.unusedVariables false

variable {P : Program}
section
variable {E : Env} {B : Nat} {w0 w : World} {ρ : Rho} {h : AH}

theorem freshN_spec {n : Nat} : ∀ {l : List Nat}, freshN n l = true → n ∉ l
  | [], _, hm => by simp at hm
  | m :: l, h, hm => by
    simp only [freshN, Bool.and_eq_true, Bool.not_eq_true'] at h
    rcases List.mem_cons.1 hm with rfl | hm
    · rw [Nat.beq_refl] at h; simp at h
    · exact freshN_spec h.2 hm

theorem nodupN_spec : ∀ {l : List Nat}, nodupN l = true → l.Nodup
  | [], _ => List.nodup_nil
  | n :: l, h => by
    simp only [nodupN, Bool.and_eq_true] at h
    exact List.nodup_cons.2 ⟨freshN_spec h.1, nodupN_spec h.2⟩

theorem freshS_spec {S : ByteArray} : ∀ {l : List AV} {us : List Value}, freshS (bytesN S) l = true → RVs ρ l us → Value.string S ∉ us
  | [], us, _, hr, hm => by simp only [RVs] at hr; subst hr; simp at hm
  | x :: l, us, h, hr, hm => by
    cases x <;> simp only [freshS, Bool.false_eq_true] at h
    rename_i t
    simp only [Bool.and_eq_true, Bool.not_eq_true'] at h
    simp only [RVs] at hr
    obtain ⟨v, r, rfl, hv, hrest⟩ := hr
    simp only [RV] at hv
    obtain ⟨T', rfl, rfl⟩ := hv
    rcases List.mem_cons.1 hm with he | hm
    · simp only [Value.string.injEq] at he
      subst he
      rw [eqN_bytes] at h
      simp at h
    · exact freshS_spec h.2 hrest hm

theorem nodupS_spec : ∀ {l : List AV} {us : List Value}, nodupS l = true → RVs ρ l us → us.Nodup ∧ ∀ S, Value.string S ∈ us → S.size < 1000000
  | [], us, _, hr => by simp only [RVs] at hr; subst hr; exact ⟨List.nodup_nil, fun S h => by simp at h⟩
  | x :: l, us, h, hr => by
    cases x <;> simp only [nodupS, Bool.false_eq_true] at h
    rename_i t
    simp only [Bool.and_eq_true, Nat.blt_eq] at h
    simp only [RVs] at hr
    obtain ⟨v, r, rfl, hv, hrest⟩ := hr
    simp only [RV] at hv
    obtain ⟨T', rfl, rfl⟩ := hv
    obtain ⟨a1, a2⟩ := nodupS_spec h.2 hrest
    refine ⟨List.nodup_cons.2 ⟨freshS_spec h.1.2 hrest, a1⟩, fun S hS => ?_⟩
    rcases List.mem_cons.1 hS with he | hS
    · simp only [Value.string.injEq] at he
      subst he
      have := h.1.1
      rwa [bytesN_length] at this
    · exact a2 S hS

theorem REs.keys : ∀ {es : List (AV × AV × Nat)} {A : List MapEntry}, REs ρ es A → RVs ρ (es.map (·.1)) (A.map (·.key)) ∧ A.map (·.born) = es.map (·.2.2)
  | [], A, h => by simp only [REs] at h; subst h; simp [RVs]
  | e :: es, A, h => by
    simp only [REs] at h
    obtain ⟨en, A', rfl, h1, _, h3, h4⟩ := h
    obtain ⟨a, b⟩ := REs.keys h4
    exact ⟨by simp only [List.map_cons, RVs]; exact ⟨_, _, rfl, h1, a⟩, by simp [h3, b]⟩

theorem eqN_self : ∀ (a : List Nat), eqN a a = true
  | [] => rfl
  | x :: a => by simp only [eqN, Nat.beq_refl, eqN_self a, Bool.and_self]

theorem bytesN_inj {X Y : ByteArray} (h : bytesN X = bytesN Y) : X = Y := by
  apply bytes_eq
  rw [← eqN_bytes, h]
  exact eqN_self _

theorem strsOf_str : ∀ {l : List AV} {ss : List (List Nat)}, strsOf l = some ss → l = ss.map .str
  | [], ss, h => by simp only [strsOf, Option.some.injEq] at h; subst h; rfl
  | x :: l, ss, h => by
    cases x <;> simp only [strsOf] at h <;> try (exact absurd h (by simp))
    split at h
    · rename_i r hl
      simp only [Option.some.injEq] at h; subst h
      rw [strsOf_str hl]; rfl
    · simp at h

theorem loadN_cell (s : St B w0 ρ h w) {b o n : Nat} {l : List AV} (hl : loadN h b o n = some l) {p : Nat × Nat} (hp : ρ.l[b]? = some p) {j : Nat} {v : AV} (hj : l[j]? = some v) :
    ∃ u, w.cell? ⟨p.1, o + j, none⟩ = some u ∧ RV ρ v u := by
  unfold loadN at hl
  split at hl
  · rename_i cs t lo hi op hg
    unfold sliceL at hl
    simp only at hl
    split at hl
    · simp only [Option.some.injEq] at hl; subst hl
      obtain ⟨q, h1, ⟨C, fr, hX, hcs, hfr, hop⟩, h3⟩ := s.obj b _ hg
      rw [hp] at h1; simp only [Option.some.injEq] at h1; subst h1
      rw [List.getElem?_take] at hj
      split at hj
      · rw [List.getElem?_drop] at hj
        obtain ⟨u, hu, hr⟩ := hcs _ _ hj
        exact ⟨u, by rw [cell_of_block hX]; exact hu, hr⟩
      · simp at hj
    · simp at hl
  · simp at hl

theorem sorted_out {N : SortNums} {zs : List ByteArray} {v : AV} {h' : AH} {vs : List Value} (s : St B w0 ρ h w) (hc : Calls P N.f ⟨vs⟩ w (SortPost w N.e (bytesLL zs)))
    (hv : (match (some (zs.map bytesN) : Option (List (List Nat))) with
      | some [] => some (.nsl, h)
      | some l => some (.sl h.next 0 0 l.length none, Go.Ev.new h (.cells ((sortN l).map .str) N.e 0 0 (some 1)))
      | none => none) = some (v, h')) : Calls P N.f ⟨vs⟩ w fun e w' => ∃ u ρ', e = .returned u ∧ Sub ρ ρ' ∧ RV ρ' v u ∧ St B w0 ρ' h' w' := by
  refine Calls.mono hc fun e w' hp => ?_
  obtain ⟨u, ρ', he, hs, hm⟩ := post_adopt (N := N) s hp
  refine ⟨u, ρ', he, hs, ?_⟩
  cases zs with
  | nil =>
    simp only [List.map_nil, Option.some.injEq, Prod.mk.injEq] at hv hm
    obtain ⟨rfl, rfl⟩ := hv
    exact hm
  | cons z zs =>
    simp only [List.map_cons, Option.some.injEq, Prod.mk.injEq] at hv hm
    obtain ⟨rfl, rfl⟩ := hv
    exact hm

theorem sortedSem_sound {N : SortNums} (hN : SortedOK P N) (s : St B w0 ρ h w) {args : List AV} {vs : List Value} {v : AV} {h' : AH} (hv : sortedSem N.fV N.fK N.e args h = some (v, h')) (ha : RVs ρ args vs) :
    Calls P N.f ⟨vs⟩ w fun e w' => ∃ u ρ', e = .returned u ∧ Sub ρ ρ' ∧ RV ρ' v u ∧ St B w0 ρ' h' w' := by
  unfold sortedSem at hv
  split at hv
  · rename_i x
    simp only [RVs] at ha
    obtain ⟨ux, _, rfl, hx, rfl⟩ := ha
    cases hseq : seqStrs N.fV N.fK h x with
    | none => rw [hseq] at hv; simp at hv
    | some L =>
      rw [hseq] at hv
      unfold seqStrs at hseq
      split at hseq
      · rename_i f b
        simp only [RV, RVs] at hx
        obtain ⟨A, C, rfl, rfl, u2, r2, rfl, ⟨p, hp, rfl⟩, rfl⟩ := hx
        have hplt := s.lt b p hp
        split at hseq
        · rename_i hf
          have hf := Nat.eq_of_beq_eq_true hf; subst hf
          split at hseq
          · rename_i hl
            simp only [Option.some.injEq] at hseq; subst hseq
            obtain ⟨u, hu2, hu1⟩ := loadN_cell s hl hp (j := 0) rfl
            simp only [RV] at hu1; subst hu1
            exact sorted_out (zs := []) s (hN.values w p.1 (.slice none 0 0) [] (by simp) hplt hu2 (.inl ⟨rfl, rfl⟩)) hv
          · rename_i c o ee n cc hl
            split at hseq
            · rename_i l hld
              split at hseq
              · rename_i hn
                rw [Nat.blt_eq] at hn
                obtain ⟨u, hu2, hu1⟩ := loadN_cell s hl hp (j := 0) rfl
                simp only [RV] at hu1
                obtain ⟨q, Cc, hq, rfl, _⟩ := hu1
                obtain ⟨us, g1, g2, g3⟩ := load_sound (P := P) s hld hq
                obtain ⟨zs, rfl, rfl⟩ := strsOf_sound hseq g1
                have hzl : zs.length = n := by simpa using g2
                refine sorted_out (zs := zs) s (hN.values w p.1 (.slice (some ⟨q.1, o, none⟩) n Cc) zs (by omega) hplt hu2 (.inr ⟨q.1, o, Cc, by rw [hzl], s.lt _ _ hq, ?_⟩)) hv
                intro j hj
                have hll : l.length = zs.length := by simpa using g1.length
                obtain ⟨u, hu, hr⟩ := loadN_cell s hld hq (j := j) (List.getElem?_eq_getElem (by omega))
                rw [hu, List.getElem?_eq_getElem hj]
                simp only [Option.getD_some, Option.some.injEq]
                have hx : l[j]'(by omega) = .str (bytesN (zs[j]'hj)) := by
                  have hls := strsOf_str hseq
                  subst hls
                  simp
                rw [hx] at hr
                simp only [RV] at hr
                obtain ⟨S, rfl, hS⟩ := hr
                rw [bytesN_inj hS]
              · simp at hseq
            · simp at hseq
          · simp at hseq
        · split at hseq
          · rename_i hf
            have hf := Nat.eq_of_beq_eq_true hf; subst hf
            split at hseq
            · rename_i r hl
              split at hseq
              · rename_i es c hg
                split at hseq
                · rename_i hok
                  obtain ⟨u, hu2, hu1⟩ := loadN_cell s hl hp (j := 0) rfl
                  simp only [RV] at hu1
                  obtain ⟨q, hq, rfl⟩ := hu1
                  obtain ⟨A, hA, hrs⟩ := map_obj s hg hq
                  obtain ⟨k1, k2⟩ := hrs.keys
                  obtain ⟨zs, hk, rfl⟩ := strsOf_sound hseq k1
                  simp only [okKeys, Bool.and_eq_true, Nat.blt_eq] at hok
                  obtain ⟨⟨⟨o1, o2⟩, o3⟩, o4⟩ := hok
                  obtain ⟨n1, n2⟩ := nodupS_spec o3 k1
                  have hlen : zs.length = es.length := by
                    have := congrArg List.length hk
                    have h2 := hrs.length
                    simp at this; omega
                  refine sorted_out (zs := zs) s (hN.keys w p.1 q.1 A c zs hplt hu2 hA hk ?_ (by omega) ⟨?_, ?_, n1⟩) hv
                  · intro S hS
                    have := n2 S (by rw [hk]; exact List.mem_map.2 ⟨S, hS, rfl⟩)
                    unfold maxLen; omega
                  · intro x hx
                    have hb : x.born ∈ A.map (·.born) := List.mem_map.2 ⟨x, hx, rfl⟩
                    rw [k2] at hb
                    obtain ⟨e, he, hee⟩ := List.mem_map.1 hb
                    have := List.all_eq_true.1 o1 e he
                    rw [Nat.blt_eq] at this
                    omega
                  · show (A.map (·.born)).Nodup
                    rw [k2]
                    exact nodupN_spec o2
                · simp at hseq
              · simp at hseq
            · simp at hseq
          · simp at hseq
      · simp at hseq
  · simp at hv
end
end Go.Ev
/- An evaluator of closed calls over abstract memory: the tables with slices.Sorted. -/
namespace Go.Ev
open Go.RowKit Go.Proofs
set_option autoImplicit false
set_option linter.unusedSimpArgs false
set_option linter.unusedVariables false

theorem Tables.okS (T : Tables) (N : SortNums) (hE : EnvOK T.P T.env) (hN : SortedOK T.P N) : EnvOK T.P (T.envS N) := {
  fn := hE.fn
  ty := hE.ty
  lies := hE.lies
  mixed := hE.mixed
  ext := hE.ext
  prim := fun f args h v h' hx B w0 ρ w vs s ha => by
    simp only [Tables.envS] at hx
    cases hf : Nat.beq f N.f with
    | false =>
      rw [hf] at hx
      exact hE.prim f args h v h' hx B w0 ρ w vs s ha
    | true =>
      rw [hf] at hx
      have hf := Nat.eq_of_beq_eq_true hf; subst hf
      simp only [Option.some.injEq] at hx
      exact sortedSem_sound hN s hx ha }
end Go.Ev
