/- A slice that came in, opened as a list. No condition. -/
import Derived.Deep.Slices
import Derived.WalkKit
import Derived.ProofKit
namespace Go.Proofs.Ytihfnoaannjegaa
open Go.RowKit Go.ChangeShapes Go.WideShapes

/-- The cells of a slice hold these elements. -/
def Reads {α : Type} (enc : α → List Value) (sz : Nat) (w : World) (a : Option Addr) (xs : List α) : Prop :=
  ∀ (i : Nat) (x : α), xs[i]? = some x → ∃ ad : Addr, a = some ad ∧ ∀ (j : Nat) (u : Value), (enc x)[j]? = some u → w.cell? (ad.add (i * sz + j)) = some u

theorem open_reads {α : Type} [Inhabited α] (encα : α → List Value) (ok : α → Prop) (sz : Nat) {H : Type} {enc : TypeId × Value → H} {P : Program} {w : World} {base : Nat} {spare : Nat → Bool} {held : Bool} {t e : TypeId} {a : Option Addr} {len cap : Nat} {d : DataW H} {p : List MemPlace}
    (ht : P.underlying t = some (.slice e)) (hsz : P.cellsOf e = sz) (hel : ∀ n cs z, DataW.trod enc P w base spare held n e cs = some z → ∃ x, cs = encα x ∧ ok x)
    (h : DataW.Trod enc P w base spare held t (.slice a len cap) d p) : ∃ xs : List α, xs.length = len ∧ Reads encα sz w a xs ∧ (∀ x ∈ xs, ok x) ∧ len ≤ cap ∧ cap ≤ maxLen := by
  obtain ⟨fuel, hf⟩ := h
  rcases Deep.open_slice ht hf with ⟨hcs, _⟩ | ⟨a', len', cap', m, n, D, Pl, hcs, hb, hl, hm, hmm, hx, hall⟩
  · simp [Value.cells] at hcs
    obtain ⟨rfl, rfl, rfl⟩ := hcs
    exact ⟨[], rfl, by intro i x h; simp at h, by simp, Nat.le_refl _, Nat.zero_le _⟩
  · simp [Value.cells] at hcs
    obtain ⟨rfl, rfl, rfl⟩ := hcs
    have hle : len ≤ m := by rw [hmm]; split <;> omega
    obtain ⟨f, hfx⟩ := Deep.choose_lt (α := α) (n := len) (p := fun i x => (∀ (j : Nat) (u : Value), (encα x)[j]? = some u → w.cell? (a'.add (i * sz + j)) = some u) ∧ ok x) (fun i hi => by
      obtain ⟨cs', h1, h2⟩ := hall i (by omega)
      obtain ⟨x, rfl, hok⟩ := hel _ _ _ h2
      obtain ⟨_, hlen, hc⟩ := World.cells?_some h1
      refine ⟨x, fun j u hj => ?_, hok⟩
      have hjl : j < (encα x).length := (List.getElem?_eq_some_iff.1 hj).1
      have := hc j (by omega)
      rw [hsz, Addr.add_add] at this
      rw [this, hj])
    refine ⟨(List.range len).map f, by simp, ?_, ?_, hl, hm⟩
    · intro i x hix
      simp only [List.getElem?_map, Option.map_eq_some_iff] at hix
      obtain ⟨i', hi', rfl⟩ := hix
      obtain ⟨hlt, hi2⟩ := List.getElem?_eq_some_iff.1 hi'
      simp only [List.getElem_range] at hi2
      subst hi2
      exact ⟨a', rfl, (hfx i (by simpa using hlt)).1⟩
    · intro x hx
      obtain ⟨i, hi, rfl⟩ := List.mem_map.1 hx
      exact (hfx i (List.mem_range.1 hi)).2
theorem Reads.below {α : Type} {enc : α → List Value} {sz : Nat} {w w' : World} {a : Option Addr} {xs : List α} (h : Reads enc sz w a xs) (hB : Below w.heap.size w w') : Reads enc sz w' a xs := by
  intro i x hx
  obtain ⟨ad, ha, hc⟩ := h i x hx
  refine ⟨ad, ha, fun j u hu => ?_⟩
  have h1 := hc j u hu
  refine (hB.cell ?_).trans h1
  unfold World.cell? at h1
  split at h1
  · rename_i hh
    exact (Array.getElem?_eq_some_iff.1 hh).1
  · simp at h1
end Go.Proofs.Ytihfnoaannjegaa
