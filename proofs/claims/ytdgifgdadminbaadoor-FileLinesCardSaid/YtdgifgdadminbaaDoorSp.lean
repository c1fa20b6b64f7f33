/- The plain answers of the layers deci and file, as lists: no program here. Written by this session. -/
import Derived.Lib.SplitLaws
import Derived.Lib.IndexBytes
import Derived.Lib.Strings
import Derived.Lib.ItoaNum
namespace Go.Proofs.YtdgifgdadminbaaDoor.Sp
open Go.Lib

def mk (l : List UInt8) : ByteArray := ⟨l.toArray⟩
theorem mk_data (s : ByteArray) : mk s.data.toList = s := rfl
theorem data_mk (l : List UInt8) : (mk l).data.toList = l := by simp [mk]
theorem mk_size (l : List UInt8) : (mk l).size = l.length := by rw [size_eq, data_mk]

/-- A list cut at each c. -/
def cutAt (c : UInt8) : List UInt8 → List (List UInt8)
  | [] => [[]]
  | b :: r => if b = c then [] :: cutAt c r else
    match cutAt c r with
    | [] => [[b]]
    | x :: xs => (b :: x) :: xs

theorem cutAt_ne (c : UInt8) : ∀ l, cutAt c l ≠ []
  | [] => by simp [cutAt]
  | b :: r => by
    unfold cutAt
    split
    · simp
    · split <;> simp

theorem cutAt_free (c : UInt8) : ∀ l : List UInt8, (∀ b ∈ l, b ≠ c) → cutAt c l = [l]
  | [], _ => rfl
  | b :: r, h => by
    rw [cutAt, if_neg (h b (by simp)), cutAt_free c r (fun x hx => h x (by simp [hx]))]

theorem cutAt_app (c : UInt8) : ∀ (a r : List UInt8), (∀ b ∈ a, b ≠ c) → cutAt c (a ++ c :: r) = a :: cutAt c r
  | [], r, _ => by simp [cutAt]
  | b :: a, r, h => by
    rw [List.cons_append, cutAt, if_neg (h b (by simp)), cutAt_app c a r (fun x hx => h x (by simp [hx]))]

theorem cutAt_count (c : UInt8) : ∀ l : List UInt8, (cutAt c l).length = l.count c + 1
  | [] => rfl
  | b :: r => by
    have ih := cutAt_count c r
    have hn := cutAt_ne c r
    unfold cutAt
    split
    · next h => subst h; simp [ih]
    · next h =>
      rw [List.count_cons_of_ne (by exact h)]
      revert ih hn
      cases cutAt c r with
      | nil => simp
      | cons x xs => simp

/-- Where c first is. -/
theorem index_cases (c : UInt8) : ∀ l : List UInt8, (index l [c] = -1 ∧ ∀ b ∈ l, b ≠ c) ∨ ∃ a r, l = a ++ c :: r ∧ (∀ b ∈ a, b ≠ c) ∧ index l [c] = (a.length : Int)
  | [] => .inl (by simp [index])
  | b :: l => by
    rw [index_one]
    unfold indexByte
    by_cases hb : b = c
    · subst hb
      exact .inr ⟨[], l, rfl, by simp, by simp⟩
    · rw [if_neg (by simpa using hb)]
      have ih := index_cases c l
      rw [index_one] at ih
      rcases ih with ⟨h1, h2⟩ | ⟨a, r, rfl, h2, h3⟩
      · left
        rw [if_pos (by simp [h1])]
        exact ⟨rfl, by simpa [hb] using h2⟩
      · right
        refine ⟨b :: a, r, rfl, by simpa [hb] using h2, ?_⟩
        rw [if_neg (by simp [h3]), h3]
        simp

theorem splitB_cut (c : UInt8) : ∀ (k : Nat) (s : ByteArray), s.data.toList.count c ≤ k → splitB ⟨#[c]⟩ 0 k s = (cutAt c s.data.toList).map mk
  | 0, s, h => by
    have hc : ∀ b ∈ s.data.toList, b ≠ c := by
      intro b hb e
      subst e
      have := List.count_pos_iff.2 hb
      omega
    rw [cutAt_free c _ hc]
    simp [splitB, mk_data]
  | k + 1, s, h => by
    rcases index_cases c s.data.toList with ⟨h1, h2⟩ | ⟨a, r, e, h2, h3⟩
    · rw [splitB_miss _ _ _ _ (show indexB s ⟨#[c]⟩ = -1 from h1), cutAt_free c _ h2]
      rfl
    · rw [splitB_hit _ _ _ _ a.length (show indexB s ⟨#[c]⟩ = _ from h3)]
      have e1 : s.extract 0 (a.length + 0) = mk a := by
        apply ByteArray.ext
        apply Array.toList_inj.1
        show (s.extract 0 (a.length + 0)).data.toList = _
        rw [extract_from_zero, e]
        simp [mk]
      have e2 : s.extract (a.length + ByteArray.size ⟨#[c]⟩) s.size = mk r := by
        apply ByteArray.ext
        apply Array.toList_inj.1
        show (s.extract (a.length + ByteArray.size ⟨#[c]⟩) s.size).data.toList = _
        rw [extract_to_end, e]
        have : ByteArray.size ⟨#[c]⟩ = 1 := rfl
        rw [this]
        simp [mk]
      have ec : r.count c ≤ k := by
        rw [e, List.count_append, List.count_cons_self] at h
        omega
      rw [e1, e2, splitB_cut c k (mk r) (by rw [data_mk]; exact ec), data_mk, e, cutAt_app c a r h2]
      rfl

theorem countB_one (s : ByteArray) (c : UInt8) : countB s ⟨#[c]⟩ = s.data.toList.count c := by
  have := count_one c s.data.toList
  simpa [countB, countByte] using this

theorem split_one (s : ByteArray) (c : UInt8) : splitB ⟨#[c]⟩ 0 (countB s ⟨#[c]⟩) s = (cutAt c s.data.toList).map mk :=
  splitB_cut c _ s (by rw [countB_one]; exact Nat.le_refl _)

/-- Cut from the right: what lies behind the last c. -/
theorem cutAt_snoc (c : UInt8) : ∀ l, cutAt c (l ++ [c]) = cutAt c l ++ [[]]
  | [] => by simp [cutAt]
  | b :: r => by
    have ih := cutAt_snoc c r
    have hn := cutAt_ne c r
    rw [List.cons_append, cutAt, ih]
    conv => rhs; rw [cutAt]
    split
    · rfl
    · revert hn
      cases cutAt c r with
      | nil => simp
      | cons x xs => simp

def isW (b : UInt8) : Bool := decide (33 ≤ b.toNat) && decide (b.toNat ≤ 126)
def wordB (s : ByteArray) : Bool := s.data.toList.all isW && decide (s.size ≠ 0)
def wordsS (s : ByteArray) : List ByteArray × Int :=
  if s.size = 0 then ([], 0) else if ((cutAt 32 s.data.toList).map mk).all wordB then ((cutAt 32 s.data.toList).map mk, 0) else ([], 21)
def linesS (s : ByteArray) : List ByteArray × Int :=
  if 1048576 < s.size then ([], 2) else if (cutAt 10 s.data.toList).getLast? = some [] then ((cutAt 10 s.data.toList).dropLast.map mk, 0) else ([], 20)
def isD (b : UInt8) : Bool := decide (48 ≤ b.toNat) && decide (b.toNat ≤ 57)
def val (l : List UInt8) : Nat := l.foldl (fun n b => n * 10 + (b.toNat - 48)) 0
def readL (l : List UInt8) : Int × Int :=
  let neg := l.head? == some 45
  let r := if neg then l.tail else l
  if r.all isD && decide (1 ≤ r.length) && decide (r.length ≤ 13) then
    let v : Int := if neg then -(val r : Int) else val r
    if v < -1099511627776 ∨ 1099511627776 < v then (0, 23) else (v, 0)
  else (0, 21)
def readS (s : ByteArray) : Int × Int := readL s.data.toList
def wholeL (l : List UInt8) : Int × Int := if (1 < l.length ∧ l.head? = some 48) ∨ l.head? = some 45 then (0, 21) else readL l
def wholeS (s : ByteArray) : Int × Int := wholeL s.data.toList

end Go.Proofs.YtdgifgdadminbaaDoor.Sp
