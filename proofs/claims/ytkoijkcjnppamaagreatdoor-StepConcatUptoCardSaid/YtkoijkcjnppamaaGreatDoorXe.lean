/- The contract of strings.Join, and StepConcat. Conditions: lengths below two million. -/
import Derived.Test.YtkoijkcjnppamaaGreatDoorXd
import Derived.Test.YtkoijkcjnppamaaGreatDoorSh1
/- strings.Join, by the shelf. -/
namespace Go.Ev
open Go.Proofs
set_option autoImplicit false
set_option linter.unusedVariables false

theorem RVs.strs {ρ : Rho} : ∀ (l : List Str) (vs : List Value), RVs ρ (l.map .str) vs → ∃ ss : List ByteArray, vs = ss.map Value.string ∧ ss.map bytesN = l
  | [], vs, h => by simp only [List.map_nil, RVs] at h; subst h; exact ⟨[], rfl, rfl⟩
  | a :: l, vs, h => by
    simp only [List.map_cons, RVs, RV] at h
    obtain ⟨v, r, rfl, ⟨s, rfl, h1⟩, h2⟩ := h
    obtain ⟨ss, rfl, h3⟩ := RVs.strs l r h2
    exact ⟨s :: ss, rfl, by simp [h1, h3]⟩

theorem flatten_bytes (ss : List ByteArray) : bytesN ⟨(Go.Lib.join (ss.map (·.data.toList)) []).toArray⟩ = (ss.map bytesN).flatten := by
  have e : Go.Lib.join (ss.map (·.data.toList)) [] = (ss.map (·.data.toList)).flatten := by
    cases ss with
    | nil => rfl
    | cons a ss => rw [List.map_cons, Go.Lib.join_cons]; simp [Go.Lib.joinTail, Function.comp_def]
  rw [e]
  show ((ss.map (·.data.toList)).flatten).map UInt8.toNat = _
  rw [List.map_flatten, List.map_map]
  rfl

theorem join_ok : JoinOK Tryz.prog 103 := by
  intro l h1 h2 B w0 ρ vs w s hv
  simp only [RVs, xs] at hv
  obtain ⟨u, r, rfl, hu, u2, r2, rfl, hu2, rfl⟩ := hv
  simp only [RV] at hu hu2
  obtain ⟨A, C, rfl, hC, hA, hx⟩ := hu
  obtain ⟨sep, rfl, hsep⟩ := hu2
  have hsepe : sep = ⟨#[]⟩ := by
    cases sep with
    | mk d =>
      simp only [bytesN, List.map_eq_nil_iff, Array.toList_eq_nil_iff] at hsep
      rw [hsep]
  subst hsepe
  rcases hx with hx | ⟨b, o, X, t, fr, rfl, hR, hX⟩
  · rw [List.map_eq_nil_iff] at hx; subst hx
    refine Calls.mono (Tryz.strings_Join_none A C _ w) ?_
    rintro e w' ⟨rfl, rfl⟩
    exact ⟨_, _, h0, ρ, rfl, Sub.refl _, s, by simp only [RV]; exact ⟨_, rfl, rfl⟩, rfl⟩
  · obtain ⟨ss, hss, hl⟩ := RVs.strs l _ hX
    have hheap := (s.ro b _ hR).1
    have hlen : ss.length = l.length := by rw [← hl]; simp
    have hcell : ∀ (j : Nat) x, ss[j]? = some x → w.cell? ⟨b, o + j, none⟩ = some (.string x) := by
      intro j x hx
      have hj : j < ss.length := (List.getElem?_eq_some_iff.1 hx).1
      have : ((X.toList.drop o).take (l.map AV.str).length)[j]? = some (.string x) := by rw [hss, List.getElem?_map, hx]; rfl
      rw [List.getElem?_take_of_lt (by simp; omega), List.getElem?_drop, Array.getElem?_toList] at this
      unfold World.cell?
      rw [hheap]
      simpa using this
    have hfl : (Go.Lib.join (ss.map (·.data.toList)) []).length = l.flatten.length := by
      have := congrArg List.length (flatten_bytes ss)
      rw [hl] at this
      simpa [bytesN] using this
    rw [← hlen]
    rw [← hlen] at hC
    refine Calls.mono (Tryz.strings_Join b o C ss _ w hcell (Array.getElem?_eq_some_iff.1 hheap).1 (by omega) hC (by show (Go.Lib.join (ss.map (·.data.toList)) []).length ≤ _; rw [hfl]; omega)) ?_
    rintro e w' ⟨rfl, hb⟩
    refine ⟨_, _, h0, ρ, rfl, Sub.refl _, s.beyond hb, ?_, rfl⟩
    simp only [RV]
    exact ⟨_, rfl, by rw [← hl]; exact flatten_bytes ss⟩

theorem stepConcat_true (a b c : Str) : Pc Tryz.prog 11 [.str a, .str b, .str c] (.bool true) := stepConcat_ok join_ok a b c
end Go.Ev
