/- slices.Sorted over maps.Keys at strings, as a call. Conditions: the map's entries. -/
import Derived.Shelf.SlIter.Nil
import Derived.Shelf.SlIter.Stops
import Derived.Ground.GgzProg
import Derived.Test.YtkoijkcjnppamaaGreatDoorSo1
/-
  DERIVED: THE SHELF's CONTRACTS AT THIS DUMP, IN PLAIN WORDS (tools/lay-plain.mjs out of 'SoK.lean', which tools/lay-shelf.mjs wrote): THE SAME DECLARATIONS UNDER THE SAME NAMES: 'import', 'namespace', 'open', 'def', 'theorem' AND NOTHING ELSE: no command of the shelf's: FOR A HAND-IN. Each laying: the table of numbers ('.._ren') and one theorem, a field a fact of the dump's own or the kernel's comparison; each contract: ONE APPLICATION.
-/
namespace Go.Proofs
set_option linter.unusedVariables false
open Go.Shelf
def Tryz.keysL_ren : Go.Shelf.Ren := ⟨fun | 7 => 230 | 10 => 244 | n => n, fun | 23 => 104 | 26 => 9 | 3 => 9 | 28 => 129 | 0 => 0 | 27 => 128 | 33 => 77 | 4 => 4 | n => n, fun | n => n⟩
theorem Tryz.keysL : Go.Proofs.SlLaysZ.n7 Tryz.prog Tryz.keysL_ren := {
  mixed := by kernel_rfl
  f7 := ⟨Tryz.f230.name, by decide, Tryz.func230.trans (congrArg some (by kernel_rfl))⟩
  f10 := ⟨Tryz.f244.name, by decide, Tryz.func244.trans (congrArg some (by kernel_rfl))⟩
  t0 := Tryz.underlying0
  a0 := Tryz.isAgg0
  z0 := Tryz.sizeOf0
  v0 := Tryz.zeroValue0
  t4 := Tryz.underlying4
  a4 := Tryz.isAgg4
  z4 := Tryz.sizeOf4
  v4 := Tryz.zeroValue4
  t23 := Tryz.underlying104
  a23 := Tryz.isAgg104
  z23 := Tryz.sizeOf104
  v23 := Tryz.zeroValue104
  t26 := Tryz.underlying9
  a26 := Tryz.isAgg9
  z26 := Tryz.sizeOf9
  v26 := Tryz.zeroValue9
  t27 := Tryz.underlying128
  a27 := Tryz.isAgg128
  z27 := Tryz.sizeOf128
  v27 := Tryz.zeroValue128
  t28 := Tryz.underlying129
  a28 := Tryz.isAgg129
  z28 := Tryz.sizeOf129
  v28 := Tryz.zeroValue129
  t33 := Tryz.underlying77
  a33 := Tryz.isAgg77
  z33 := Tryz.sizeOf77
  v33 := Tryz.zeroValue77 }
end Go.Proofs
/- slices.Sorted(maps.Keys(m)) at strings, as a plain call. -/
namespace Go.Proofs
set_option linter.unusedVariables false
open Go.RowKit Go.Shelf Go.Sort Go.Maps Go.WideElems Go.MapKept
set_option autoImplicit false

theorem SeqStopsK.mapped {α β : Type} {F : Fence} {n : Nat} {P : Program} {g : Nat} {lb : Array Value} {encs : α → Array Value} {encs' : β → Array Value} {Kp : World → World → Prop} {S Sp : List α → Prop} {N : Nat} {w : World}
    (h : SeqStopsK F n P g lb encs Kp S Sp N w) (f : α → β) (he : ∀ x, encs' (f x) = encs x) :
    SeqStopsK F n P g lb encs' Kp (fun ys => ∃ xs, S xs ∧ ys = xs.map f) (fun ys => ∃ xs, Sp xs ∧ ys = xs.map f) N w := fun l J Jx W hW hJ hJx hY h0 => by
  refine (h l (fun xs => J (xs.map f)) (fun xs => Jx (xs.map f)) W hW (fun s => hJ (s.map f)) (fun s => hJx (s.map f)) (fun pre x W1 hj hl => ?_) (by simpa using h0)).mono ?_
  · have := hY (pre.map f) (f x) W1 hj (by simpa using hl)
    rw [he] at this
    simpa using this
  · rintro e W' ⟨hv, ⟨xs, hS, hJ'⟩ | ⟨pre, hS, hJ'⟩⟩
    · exact ⟨hv, .inl ⟨_, ⟨xs, hS, rfl⟩, hJ'⟩⟩
    · exact ⟨hv, .inr ⟨_, ⟨pre, hS, rfl⟩, hJ'⟩⟩

/-- how a value reads here: not at all -/
def blank : Value → Option (DataW Unit × List MemPlace) := fun _ => some (.nil, [])

theorem rd_key_string {x : MapEntry} {s : ByteArray} (hx : x.key = .string s) (hs : s.size ≤ maxLen) : WideElems.rd Tryz.prog 9 blank x = some (.string s.data.toList, .nil) := by
  unfold WideElems.rd
  rw [hx, Go.WideMaps.keyOf_string_mk Tryz.underlying9 hs]
  rfl

theorem sorted_keys (w : World) (Bm b : Nat) (A : List MapEntry) (clock : Nat) (ks : List Bs) (hBm : Bm < w.heap.size) (hc : w.cell? ⟨Bm, 0, none⟩ = some (.map (some b))) (hb : w.heap[b]? = some (.map ⟨A⟩ clock))
    (hk : A.map (·.key) = ks.map Value.string) (hsz : ∀ s ∈ ks, s.size ≤ maxLen) (hlen : ks.length ≤ 1000000) (hst : Stamped ⟨A⟩ clock) :
    Calls Tryz.prog 100 #[.func (.func 244) #[] #[.pointer (some ⟨Bm, 0, none⟩)]] w (SortedPost w 9 (bytesL ks)) := by
  have hkey : ∀ x ∈ A, ∃ s ∈ ks, x.key = .string s := by
    intro x hx
    have : x.key ∈ A.map (·.key) := List.mem_map.2 ⟨x, hx, rfl⟩
    rw [hk] at this
    obtain ⟨s, hs, he⟩ := List.mem_map.1 this
    exact ⟨s, hs, he.symm⟩
  have hlenA : A.length = ks.length := by
    have := congrArg List.length hk
    simpa using this
  have hfit : Fit Tryz.prog 9 blank ⟨A⟩ clock := by
    refine ⟨?_, hst, ?_⟩
    · show A.length ≤ maxLen
      unfold maxLen; omega
    · intro x hx
      obtain ⟨s, hs, he⟩ := hkey x hx
      exact ⟨_, rd_key_string he (hsz s hs)⟩
  have hown : w.ownsMap Tryz.prog 9 blank b A.length (.map ((A.map (rg Tryz.prog 9 blank)).foldr DataW.insert [])) := ⟨⟨A⟩, clock, hb, hfit, Nat.le_refl _, rfl⟩
  have hstr : (A.map (rg Tryz.prog 9 blank)).map (fun p => strOf p.1) = bytesL ks := by
    unfold bytesL
    have : ∀ (L : List MapEntry) (K : List Bs), L.map (·.key) = K.map Value.string → (∀ s ∈ K, s.size ≤ maxLen) → (L.map (rg Tryz.prog 9 blank)).map (fun p => strOf p.1) = K.map fun s => s.data.toList := by
      intro L
      induction L with
      | nil => intro K h _; cases K with | nil => rfl | cons k K => simp at h
      | cons x L ih =>
        intro K h hs
        cases K with
        | nil => simp at h
        | cons k K =>
          simp only [List.map_cons, List.cons.injEq] at h ⊢
          refine ⟨?_, ih K h.2 fun s hm => hs s (List.mem_cons_of_mem _ hm)⟩
          unfold rg
          rw [rd_key_string h.1 (hs k List.mem_cons_self)]
          rfl
    exact this A ks hk hsz
  have hperm : (strKeys (H := Unit) (.map ((A.map (rg Tryz.prog 9 blank)).foldr DataW.insert []))).Perm (bytesL ks) := by
    rw [← hstr]
    exact (WideShapes.sorted_perm _).map _
  have hsize : Maps.size (H := Unit) (.map ((A.map (rg Tryz.prog 9 blank)).foldr DataW.insert [])) = ks.length := by
    show ((A.map (rg Tryz.prog 9 blank)).foldr DataW.insert []).length = _
    rw [(WideShapes.sorted_perm _).length_eq]; simpa using hlenA
  have hstops := AnyZ.keys_stops (ρ := Tryz.keysL_ren) { Tryz.keysL with } Fence.wide 3 trivial rfl (by omega) Bm b A.length _ w hBm hc hown
  rw [hsize] at hstops
  have hseq := SeqStopsK.kp (SeqStopsK.mapped (encs' := fun x : Bs => #[Value.string x]) (seqStopsA_iff.1 (seqStops_iff.1 hstops)) (fun l : List UInt8 => (⟨l.toArray⟩ : Bs)) (fun x => rfl)) (Kp' := KeepsBoth w.heap.size) fun A B h => h.2
  refine (callsIn_wide (n := 6)).1 ?_
  refine (sorted_in 6 (by omega) 244 #[.pointer (some ⟨Bm, 0, none⟩)] (enters_of Tryz.func244 (by kernel_rfl) rfl) _ _ ks.length (by unfold maxLen; omega) (by omega) ?_ w hseq).mono ?_
  · rintro ss ⟨xs, ⟨hp, _⟩, rfl⟩
    have := (hp.trans hperm).length_eq
    rw [bytesL_length] at this
    simp; omega
  · rintro e W' ⟨v, ss, rfl, ⟨xs, ⟨hp, _⟩, rfl⟩, hrow, hnil, hbel⟩
    have hx : bytesL (xs.map fun l : List UInt8 => (⟨l.toArray⟩ : Bs)) = xs := by
      unfold bytesL
      rw [List.map_map]
      have : ((fun s : Bs => s.data.toList) ∘ fun l : List UInt8 => (⟨l.toArray⟩ : Bs)) = id := rfl
      rw [this, List.map_id]
    rw [hx] at hrow
    have hp2 := hp.trans hperm
    refine ⟨v, rfl, ?_, ?_, hbel⟩
    · rw [← mergeSort_of_perm hp2, ← hp2.length_eq]
      simpa using hrow
    · rw [hnil]
      constructor
      · intro h
        have : xs = [] := by simpa using h
        rw [this] at hp2
        exact List.Perm.nil_eq hp2 |>.symm
      · intro h
        rw [h] at hp2
        have := List.Perm.eq_nil hp2
        simp [this]
end Go.Proofs
