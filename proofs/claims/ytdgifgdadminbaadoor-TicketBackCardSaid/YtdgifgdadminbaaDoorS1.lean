/- Several texts of this session in one (Sp, Sd, Sl, Sm, Sn). Written by this session, by tools of this session and by the kit's print. -/
import Derived.Lib.SplitLaws
import Derived.Lib.IndexBytes
import Derived.Lib.Strings
import Derived.Lib.ItoaNum
/-! ### Sp -/
namespace Go.Proofs.YtdgifgdadminbaaDoor.Sp
open Go.Lib

def mk (l : List UInt8) : ByteArray := ⟨l.toArray⟩
theorem mk_data (s : ByteArray) : mk s.data.toList = s := rfl
theorem data_mk (l : List UInt8) : (mk l).data.toList = l := by simp [mk]
theorem mk_size (l : List UInt8) : (mk l).size = l.length := by rw [size_eq, data_mk]

/-- A list cut at each c. -/
def cutAt (c : UInt8) : List UInt8 → List (List UInt8)
  | [] => [[]]
  | b :: r => if b = c then [] :: cutAt c r else
    match cutAt c r with
    | [] => [[b]]
    | x :: xs => (b :: x) :: xs

theorem cutAt_ne (c : UInt8) : ∀ l, cutAt c l ≠ []
  | [] => by simp [cutAt]
  | b :: r => by
    unfold cutAt
    split
    · simp
    · split <;> simp

theorem cutAt_free (c : UInt8) : ∀ l : List UInt8, (∀ b ∈ l, b ≠ c) → cutAt c l = [l]
  | [], _ => rfl
  | b :: r, h => by
    rw [cutAt, if_neg (h b (by simp)), cutAt_free c r (fun x hx => h x (by simp [hx]))]

theorem cutAt_app (c : UInt8) : ∀ (a r : List UInt8), (∀ b ∈ a, b ≠ c) → cutAt c (a ++ c :: r) = a :: cutAt c r
  | [], r, _ => by simp [cutAt]
  | b :: a, r, h => by
    rw [List.cons_append, cutAt, if_neg (h b (by simp)), cutAt_app c a r (fun x hx => h x (by simp [hx]))]

theorem cutAt_count (c : UInt8) : ∀ l : List UInt8, (cutAt c l).length = l.count c + 1
  | [] => rfl
  | b :: r => by
    have ih := cutAt_count c r
    have hn := cutAt_ne c r
    unfold cutAt
    split
    · next h => subst h; simp [ih]
    · next h =>
      rw [List.count_cons_of_ne (by exact h)]
      revert ih hn
      cases cutAt c r with
      | nil => simp
      | cons x xs => simp

/-- Where c first is. -/
theorem index_cases (c : UInt8) : ∀ l : List UInt8, (index l [c] = -1 ∧ ∀ b ∈ l, b ≠ c) ∨ ∃ a r, l = a ++ c :: r ∧ (∀ b ∈ a, b ≠ c) ∧ index l [c] = (a.length : Int)
  | [] => .inl (by simp [index])
  | b :: l => by
    rw [index_one]
    unfold indexByte
    by_cases hb : b = c
    · subst hb
      exact .inr ⟨[], l, rfl, by simp, by simp⟩
    · rw [if_neg (by simpa using hb)]
      have ih := index_cases c l
      rw [index_one] at ih
      rcases ih with ⟨h1, h2⟩ | ⟨a, r, rfl, h2, h3⟩
      · left
        rw [if_pos (by simp [h1])]
        exact ⟨rfl, by simpa [hb] using h2⟩
      · right
        refine ⟨b :: a, r, rfl, by simpa [hb] using h2, ?_⟩
        rw [if_neg (by simp [h3]), h3]
        simp

theorem splitB_cut (c : UInt8) : ∀ (k : Nat) (s : ByteArray), s.data.toList.count c ≤ k → splitB ⟨#[c]⟩ 0 k s = (cutAt c s.data.toList).map mk
  | 0, s, h => by
    have hc : ∀ b ∈ s.data.toList, b ≠ c := by
      intro b hb e
      subst e
      have := List.count_pos_iff.2 hb
      omega
    rw [cutAt_free c _ hc]
    simp [splitB, mk_data]
  | k + 1, s, h => by
    rcases index_cases c s.data.toList with ⟨h1, h2⟩ | ⟨a, r, e, h2, h3⟩
    · rw [splitB_miss _ _ _ _ (show indexB s ⟨#[c]⟩ = -1 from h1), cutAt_free c _ h2]
      rfl
    · rw [splitB_hit _ _ _ _ a.length (show indexB s ⟨#[c]⟩ = _ from h3)]
      have e1 : s.extract 0 (a.length + 0) = mk a := by
        apply ByteArray.ext
        apply Array.toList_inj.1
        show (s.extract 0 (a.length + 0)).data.toList = _
        rw [extract_from_zero, e]
        simp [mk]
      have e2 : s.extract (a.length + ByteArray.size ⟨#[c]⟩) s.size = mk r := by
        apply ByteArray.ext
        apply Array.toList_inj.1
        show (s.extract (a.length + ByteArray.size ⟨#[c]⟩) s.size).data.toList = _
        rw [extract_to_end, e]
        have : ByteArray.size ⟨#[c]⟩ = 1 := rfl
        rw [this]
        simp [mk]
      have ec : r.count c ≤ k := by
        rw [e, List.count_append, List.count_cons_self] at h
        omega
      rw [e1, e2, splitB_cut c k (mk r) (by rw [data_mk]; exact ec), data_mk, e, cutAt_app c a r h2]
      rfl

theorem countB_one (s : ByteArray) (c : UInt8) : countB s ⟨#[c]⟩ = s.data.toList.count c := by
  have := count_one c s.data.toList
  simpa [countB, countByte] using this

theorem split_one (s : ByteArray) (c : UInt8) : splitB ⟨#[c]⟩ 0 (countB s ⟨#[c]⟩) s = (cutAt c s.data.toList).map mk :=
  splitB_cut c _ s (by rw [countB_one]; exact Nat.le_refl _)

/-- Cut from the right: what lies behind the last c. -/
theorem cutAt_snoc (c : UInt8) : ∀ l, cutAt c (l ++ [c]) = cutAt c l ++ [[]]
  | [] => by simp [cutAt]
  | b :: r => by
    have ih := cutAt_snoc c r
    have hn := cutAt_ne c r
    rw [List.cons_append, cutAt, ih]
    conv => rhs; rw [cutAt]
    split
    · rfl
    · revert hn
      cases cutAt c r with
      | nil => simp
      | cons x xs => simp

def isW (b : UInt8) : Bool := decide (33 ≤ b.toNat) && decide (b.toNat ≤ 126)
def wordB (s : ByteArray) : Bool := s.data.toList.all isW && decide (s.size ≠ 0)
def wordsS (s : ByteArray) : List ByteArray × Int :=
  if s.size = 0 then ([], 0) else if ((cutAt 32 s.data.toList).map mk).all wordB then ((cutAt 32 s.data.toList).map mk, 0) else ([], 21)
def linesS (s : ByteArray) : List ByteArray × Int :=
  if 1048576 < s.size then ([], 2) else if (cutAt 10 s.data.toList).getLast? = some [] then ((cutAt 10 s.data.toList).dropLast.map mk, 0) else ([], 20)
def isD (b : UInt8) : Bool := decide (48 ≤ b.toNat) && decide (b.toNat ≤ 57)
def val (l : List UInt8) : Nat := l.foldl (fun n b => n * 10 + (b.toNat - 48)) 0
def readL (l : List UInt8) : Int × Int :=
  let neg := l.head? == some 45
  let r := if neg then l.tail else l
  if r.all isD && decide (1 ≤ r.length) && decide (r.length ≤ 13) then
    let v : Int := if neg then -(val r : Int) else val r
    if v < -1099511627776 ∨ 1099511627776 < v then (0, 23) else (v, 0)
  else (0, 21)
def readS (s : ByteArray) : Int × Int := readL s.data.toList
def wholeL (l : List UInt8) : Int × Int := if (1 < l.length ∧ l.head? = some 48) ∨ l.head? = some 45 then (0, 21) else readL l
def wholeS (s : ByteArray) : Int × Int := wholeL s.data.toList

end Go.Proofs.YtdgifgdadminbaaDoor.Sp

/-! ### Sd -/
namespace Go.Proofs.YtdgifgdadminbaaDoor
open Sp

def nextS (lines : List ByteArray) (i : Nat) (first : ByteArray) : Except Int (List ByteArray) :=
  match lines[i]? with
  | none => .error 20
  | some l => if (wordsS l).2 ≠ 0 ∨ (wordsS l).1 = [] ∨ (wordsS l).1.head? ≠ some first then .error 21 else if 4096 < (wordsS l).1.length - 1 then .error 3 else .ok (wordsS l).1.tail
def readAll (f : ByteArray → Int × Int) (ws : List ByteArray) : Except Int (List Int) :=
  match ws.find? (fun x => decide ((f x).2 ≠ 0)) with
  | some x => .error (f x).2
  | none => .ok (ws.map fun x => (f x).1)
def longS (s : ByteArray) : Int × Int := if (readS s).2 = 0 ∧ (readS s).1 < 0 then ((readS s).1, 23) else readS s
theorem find_take (p : ByteArray → Bool) (ws : List ByteArray) (k : Nat) (hk : k < ws.length) (h : ∀ x ∈ ws.take k, p x = false) (hp : p (ws[k]'hk) = true) : ws.find? p = some (ws[k]'hk) := by
  have e : ws = ws.take k ++ (ws[k]'hk) :: ws.drop (k + 1) := by
    rw [← List.drop_eq_getElem_cons hk, List.take_append_drop]
  conv => lhs; rw [e]
  rw [List.find?_append]
  have h1 : (ws.take k).find? p = none := List.find?_eq_none.2 (fun x hx => by rw [h x hx]; simp)
  rw [h1, Option.none_or, List.find?_cons, hp]
theorem readAll_bad {f : ByteArray → Int × Int} {ws : List ByteArray} {k : Nat} (hk : k < ws.length) (h : ∀ x ∈ ws.take k, (f x).2 = 0) (hp : (f (ws[k]'hk)).2 ≠ 0) : readAll f ws = .error (f (ws[k]'hk)).2 := by
  unfold readAll
  rw [find_take _ ws k hk (fun x hx => by simp [h x hx]) (by simpa using hp)]
theorem readAll_ok {f : ByteArray → Int × Int} {ws : List ByteArray} (h : ∀ x ∈ ws, (f x).2 = 0) : readAll f ws = .ok (ws.map fun x => (f x).1) := by
  unfold readAll
  have : ws.find? (fun x => decide ((f x).2 ≠ 0)) = none := List.find?_eq_none.2 (fun x hx => by simp [h x hx])
  rw [this]
def sRoute : ByteArray := ⟨#[114, 111, 117, 116, 101]⟩
def sTimes : ByteArray := ⟨#[116, 105, 109, 101, 115]⟩
def sPlan : ByteArray := ⟨#[112, 108, 97, 110]⟩
def sLeft : ByteArray := ⟨#[108, 101, 102, 116]⟩
def routeS (lines : List ByteArray) (i : Nat) : Except (Int × Int) (List Int × List Int) :=
  match nextS lines i sRoute with
  | .error er => .error ((i : Int) + 1, er)
  | .ok ws =>
    if ws = [] then .error ((i : Int) + 1, 21) else
    match readAll wholeS ws with
    | .error er => .error ((i : Int) + 1, er)
    | .ok row =>
      match nextS lines (i + 1) sTimes with
      | .error er => .error ((i : Int) + 2, er)
      | .ok more =>
        if more.length ≠ ws.length ∧ 0 < more.length then .error ((i : Int) + 2, 1) else
        match readAll longS more with
        | .error er => .error ((i : Int) + 2, er)
        | .ok ts => .ok (row, ts)
structure Pl where
  routes : List (List Int)
  times : List (List Int)
  left : List Int
  cost : Int
def routesS (lines : List ByteArray) : Nat → Except (Int × Int) (List (List Int) × List (List Int))
  | 0 => .ok ([], [])
  | k + 1 =>
    match routesS lines k with
    | .error e => .error e
    | .ok x =>
      match routeS lines (1 + 2 * k) with
      | .error e => .error e
      | .ok y => .ok (x.1 ++ [y.1], x.2 ++ [y.2])
def planS (lines : List ByteArray) : Except (Int × Int) Pl :=
  match nextS lines 0 sPlan with
  | .error er => .error (1, er)
  | .ok ws =>
    match ws with
    | [a, b] =>
      if (wholeS a).2 ≠ 0 then .error (1, (wholeS a).2) else
      if (longS b).2 ≠ 0 then .error (1, (longS b).2) else
      if 64 < (wholeS a).1 then .error (1, 3) else
      match routesS lines (wholeS a).1.toNat with
      | .error e => .error e
      | .ok x =>
        match nextS lines (1 + 2 * (wholeS a).1.toNat) sLeft with
        | .error er => .error (2 + 2 * ((wholeS a).1.toNat : Int), er)
        | .ok ls =>
          match readAll wholeS ls with
          | .error er => .error (2 + 2 * ((wholeS a).1.toNat : Int), er)
          | .ok left => if 2 + 2 * (wholeS a).1.toNat < lines.length then .error (3 + 2 * ((wholeS a).1.toNat : Int), 22) else .ok ⟨x.1, x.2, left, (longS b).1⟩
    | _ => .error (1, 21)
theorem routesS_bad {lines : List ByteArray} {k : Nat} {e : Int × Int} (h : routesS lines k = .error e) : ∀ d, routesS lines (k + d) = .error e
  | 0 => h
  | d + 1 => by
    rw [← Nat.add_assoc, routesS, routesS_bad h d]
theorem readL_sign (l : List UInt8) (hl : l.head? ≠ some 45) : (readL l).2 = 0 → 0 ≤ (readL l).1 := by
  unfold readL
  have h0 : (l.head? == some 45) = false := beq_eq_false_iff_ne.2 hl
  rw [h0]
  simp only [Bool.false_eq_true, if_false]
  split
  · split
    · intro h; cases h
    · intro _; show (0 : Int) ≤ (val l : Int); omega
  · intro h; cases h
theorem wholeS_sign (s : ByteArray) (h : (wholeS s).2 = 0) : 0 ≤ (wholeS s).1 := by
  unfold wholeS wholeL at h ⊢
  split at h
  · cases h
  · rename_i hc
    rw [if_neg hc]
    exact readL_sign _ (fun e => hc (.inr e)) h
theorem readAll_one_bad {f : ByteArray → Int × Int} {a : ByteArray} (h : (f a).2 ≠ 0) : readAll f [a] = .error (f a).2 := readAll_bad (ws := [a]) (k := 0) (by simp) (by simp) h
theorem readAll_one {f : ByteArray → Int × Int} {a : ByteArray} (h : (f a).2 = 0) : readAll f [a] = .ok [(f a).1] := by
  rw [readAll_ok (by simpa using h)]
  rfl
end Go.Proofs.YtdgifgdadminbaaDoor

/-! ### Sl -/
namespace Go.Proofs.YtdgifgdadminbaaDoor
open Sp Go.Lib

def joinL (ls : List (List UInt8)) : List UInt8 := ls.flatMap (fun l => l ++ [10])
theorem joinL_nil : joinL [] = [] := rfl
theorem joinL_cons (l : List UInt8) (r : List (List UInt8)) : joinL (l :: r) = l ++ 10 :: joinL r := by
  simp [joinL]
theorem joinL_append (a b : List (List UInt8)) : joinL (a ++ b) = joinL a ++ joinL b := by
  simp [joinL]
theorem cutAt_join : ∀ ls : List (List UInt8), (∀ l ∈ ls, (10 : UInt8) ∉ l) → cutAt 10 (joinL ls) = ls ++ [[]]
  | [], _ => rfl
  | l :: r, h => by
    rw [joinL_cons, cutAt_app 10 l _ (fun b hb e => h l (by simp) (e ▸ hb)), cutAt_join r (fun x hx => h x (by simp [hx])), List.cons_append]
theorem linesS_join (ls : List (List UInt8)) (h : ∀ l ∈ ls, (10 : UInt8) ∉ l) (hs : (joinL ls).length ≤ 1048576) : linesS (mk (joinL ls)) = (ls.map mk, 0) := by
  unfold linesS
  rw [mk_size, data_mk, if_neg (by omega), cutAt_join ls h, if_pos (by simp), List.dropLast_concat]

theorem isW_32 {b : UInt8} (h : isW b = true) : b ≠ 32 := by
  rintro rfl
  exact absurd h (by decide)
theorem isW_10 {b : UInt8} (h : isW b = true) : b ≠ 10 := by
  rintro rfl
  exact absurd h (by decide)
theorem isD_W {b : UInt8} (h : isD b = true) : isW b = true := by
  simp only [isD, isW, Bool.and_eq_true, decide_eq_true_eq] at h ⊢
  omega

/-- A word: not empty, of visible signs. -/
def Wd (l : List UInt8) : Prop := l ≠ [] ∧ ∀ b ∈ l, isW b = true
theorem Wd.free32 {l : List UInt8} (h : Wd l) : (32 : UInt8) ∉ l := fun hm => isW_32 (h.2 _ hm) rfl
theorem Wd.free10 {l : List UInt8} (h : Wd l) : (10 : UInt8) ∉ l := fun hm => isW_10 (h.2 _ hm) rfl
theorem Wd.wordB {l : List UInt8} (h : Wd l) : wordB (mk l) = true := by
  unfold Sp.wordB
  rw [data_mk, mk_size, Bool.and_eq_true]
  refine ⟨List.all_eq_true.2 h.2, ?_⟩
  have := List.length_pos_iff.2 h.1
  simp only [decide_eq_true_eq]
  omega

/-- A line: a word, and words behind it. -/
def lineB (first : List UInt8) (ws : List (List UInt8)) : List UInt8 := first ++ ws.flatMap (fun w => 32 :: w)
theorem lineB_cons (a w : List UInt8) (ws : List (List UInt8)) : lineB a (w :: ws) = a ++ 32 :: lineB w ws := by
  simp [lineB]
theorem cutAt_words : ∀ (ws : List (List UInt8)) (a : List UInt8), (32 : UInt8) ∉ a → (∀ w ∈ ws, (32 : UInt8) ∉ w) → cutAt 32 (lineB a ws) = a :: ws
  | [], a, h, _ => by
    rw [lineB, List.flatMap_nil, List.append_nil, cutAt_free 32 a (fun b hb e => h (e ▸ hb))]
  | w :: ws, a, h, hw => by
    rw [lineB_cons, cutAt_app 32 a _ (fun b hb e => h (e ▸ hb)), cutAt_words ws w (hw w (by simp)) (fun x hx => hw x (by simp [hx]))]
theorem lineB_ne (a : List UInt8) (ws : List (List UInt8)) (h : a ≠ []) : lineB a ws ≠ [] := by
  unfold lineB
  simp [h]
theorem wordsS_line (a : List UInt8) (ws : List (List UInt8)) (ha : Wd a) (hw : ∀ w ∈ ws, Wd w) : wordsS (mk (lineB a ws)) = ((a :: ws).map mk, 0) := by
  unfold wordsS
  rw [mk_size, data_mk, if_neg (fun e => lineB_ne a ws ha.1 (List.length_eq_zero_iff.1 e)), cutAt_words ws a ha.free32 (fun w h => (hw w h).free32), if_pos]
  rw [List.all_eq_true]
  intro x hx
  obtain ⟨l, hl, rfl⟩ := List.mem_map.1 hx
  rcases List.mem_cons.1 hl with rfl | hl
  · exact ha.wordB
  · exact (hw l hl).wordB
theorem nextS_line {lines : List ByteArray} {i : Nat} (a : List UInt8) (ws : List (List UInt8)) (h : lines[i]? = some (mk (lineB a ws))) (ha : Wd a) (hw : ∀ w ∈ ws, Wd w) (hn : ws.length ≤ 4096) : nextS lines i (mk a) = .ok (ws.map mk) := by
  unfold nextS
  rw [h]
  dsimp only
  rw [wordsS_line a ws ha hw, if_neg (by simp), if_neg (by simp; omega)]
  rfl
theorem lineB_free10 (a : List UInt8) (ws : List (List UInt8)) (ha : Wd a) (hw : ∀ w ∈ ws, Wd w) : (10 : UInt8) ∉ lineB a ws := by
  unfold lineB
  intro h
  rcases List.mem_append.1 h with h | h
  · exact ha.free10 h
  · obtain ⟨w, hw1, hw2⟩ := List.mem_flatMap.1 h
    rcases List.mem_cons.1 hw2 with e | hw2
    · exact absurd e (by decide)
    · exact (hw w hw1).free10 hw2

/-! ### Numerals -/
theorem val_last (l : List UInt8) (b : UInt8) : val (l ++ [b]) = val l * 10 + (b.toNat - 48) := by simp [val, List.foldl_append]
theorem digit_nat {r : Nat} (h : r < 10) : (UInt8.ofNat (48 + r)).toNat = 48 + r := by
  rw [UInt8.toNat_ofNat']
  omega
theorem digit_isD {r : Nat} (h : r < 10) : isD (UInt8.ofNat (48 + r)) = true := by
  simp only [isD, digit_nat h, Bool.and_eq_true, decide_eq_true_eq]
  omega
theorem dec_spec (u : Nat) : (∀ b ∈ decDigits u, isD b = true) ∧ val (decDigits u) = u ∧ decDigits u ≠ [] ∧ (u ≠ 0 → (decDigits u).head? ≠ some 48) := by
  induction u using Nat.strongRecOn with
  | _ u ih =>
    by_cases h : u < 10
    · rw [decDigits, dif_pos h]
      refine ⟨?_, ?_, by simp, ?_⟩
      · intro b hb
        rw [List.mem_singleton.1 hb]
        exact digit_isD h
      · simp only [val, List.foldl_cons, List.foldl_nil, digit_nat h]
        omega
      · intro h0 e
        have e1 : UInt8.ofNat (48 + u) = 48 := by simpa using e
        have e2 := congrArg UInt8.toNat e1
        rw [digit_nat h] at e2
        have : (48 : UInt8).toNat = 48 := rfl
        omega
    · obtain ⟨h1, h2, h3, h4⟩ := ih (u / 10) (by omega)
      rw [decDigits, dif_neg h]
      have hr : u % 10 < 10 := Nat.mod_lt _ (by decide)
      refine ⟨?_, ?_, by simp, ?_⟩
      · intro b hb
        rcases List.mem_append.1 hb with hb | hb
        · exact h1 b hb
        · rw [List.mem_singleton.1 hb]
          exact digit_isD hr
      · rw [val_last, h2, digit_nat hr]
        omega
      · intro _
        obtain ⟨b, hb⟩ : ∃ b, (decDigits (u / 10)).head? = some b := by
          revert h3
          cases decDigits (u / 10) with
          | nil => simp
          | cons b r => intro _; exact ⟨b, rfl⟩
        have h5 := h4 (by omega)
        rw [hb] at h5
        rw [List.head?_append, hb]
        exact h5
theorem nDigits_le : ∀ (k u : Nat), u < 10 ^ (k + 1) → nDigits u ≤ k + 1
  | 0, u, h => by rw [nDigits_small (by simpa using h)]; exact Nat.le_refl _
  | k + 1, u, h => by
    by_cases hu : u < 10
    · rw [nDigits_small hu]; omega
    · rw [nDigits_big hu]
      have := nDigits_le k (u / 10) (by rw [Nat.pow_succ] at h; omega)
      omega

/-- A number that may be. -/
def Ok (n : Int) : Prop := 0 ≤ n ∧ n ≤ 1099511627776
theorem itoa_ok {n : Int} (h : Ok n) : itoa n = decDigits n.toNat := by
  unfold itoa
  rw [if_neg (by have := h.1; omega)]
theorem itoa_wd {n : Int} (h : Ok n) : Wd (itoa n) := by
  rw [itoa_ok h]
  exact ⟨(dec_spec _).2.2.1, fun b hb => isD_W ((dec_spec _).1 b hb)⟩
theorem head_mem {l : List UInt8} {b : UInt8} (h : l.head? = some b) : b ∈ l := List.mem_of_mem_head? h
theorem readL_dec {u : Nat} (h : u ≤ 1099511627776) : readL (decDigits u) = ((u : Int), 0) := by
  obtain ⟨h1, h2, h3, h4⟩ := dec_spec u
  have hneg : ((decDigits u).head? == some 45) = false := by
    refine beq_eq_false_iff_ne.2 (fun e => ?_)
    exact absurd (h1 _ (head_mem e)) (by decide)
  unfold readL
  rw [hneg]
  simp only [Bool.false_eq_true, if_false]
  have hl := nDigits_le 12 u (by omega)
  have hp := List.length_pos_iff.2 h3
  rw [← decDigits_length] at hl
  rw [if_pos]
  · rw [h2, if_neg (by omega)]
  · simp only [Bool.and_eq_true, decide_eq_true_eq]
    exact ⟨⟨List.all_eq_true.2 h1, by omega⟩, by omega⟩
theorem wholeL_dec {u : Nat} (h : u ≤ 1099511627776) : wholeL (decDigits u) = ((u : Int), 0) := by
  obtain ⟨h1, h2, h3, h4⟩ := dec_spec u
  unfold wholeL
  rw [if_neg, readL_dec h]
  rintro (⟨hl, e⟩ | e)
  · by_cases h0 : u = 0
    · subst h0
      rw [decDigits, dif_pos (by omega)] at hl
      simp at hl
    · exact h4 h0 e
  · exact absurd (h1 _ (head_mem e)) (by decide)
theorem wholeS_itoa {n : Int} (h : Ok n) : wholeS (mk (itoa n)) = (n, 0) := by
  unfold wholeS
  rw [data_mk, itoa_ok h, wholeL_dec (by have := h.2; omega)]
  have := h.1
  congr 1
  omega
theorem longS_itoa {n : Int} (h : Ok n) : longS (mk (itoa n)) = (n, 0) := by
  have e : readS (mk (itoa n)) = (n, 0) := by
    unfold readS
    rw [data_mk, itoa_ok h, readL_dec (by have := h.2; omega)]
    have := h.1
    congr 1
    omega
  unfold longS
  rw [e, if_neg]
  rintro ⟨_, hn⟩
  have := h.1
  simp only at hn
  omega
theorem readAll_itoa {f : ByteArray → Int × Int} {ns : List Int} (hf : ∀ n ∈ ns, f (mk (itoa n)) = (n, 0)) : readAll f ((ns.map itoa).map mk) = .ok ns := by
  rw [readAll_ok]
  · congr 1
    rw [List.map_map, List.map_map]
    conv => rhs; rw [← List.map_id ns]
    refine List.map_congr_left fun n hn => ?_
    simp only [Function.comp_apply, hf n hn, id_eq]
  · intro x hx
    rw [List.map_map] at hx
    obtain ⟨n, hn, rfl⟩ := List.mem_map.1 hx
    simp only [Function.comp_apply, hf n hn]

/-! ### A plan's lines -/
def bRoute : List UInt8 := [114, 111, 117, 116, 101]
def bTimes : List UInt8 := [116, 105, 109, 101, 115]
def bPlan : List UInt8 := [112, 108, 97, 110]
def bLeft : List UInt8 := [108, 101, 102, 116]
theorem wd_route : Wd bRoute := ⟨by decide, by decide⟩
theorem wd_times : Wd bTimes := ⟨by decide, by decide⟩
theorem wd_plan : Wd bPlan := ⟨by decide, by decide⟩
theorem wd_left : Wd bLeft := ⟨by decide, by decide⟩
def lineW (first : List UInt8) (ns : List Int) : List UInt8 := lineB first (ns.map itoa)
def pairs (p : Pl) : List (List Int × List Int) := p.routes.zip p.times
def two {α β : Type} (f g : α → β) (xs : List α) : List β := xs.flatMap (fun x => [f x, g x])
def linesP (p : Pl) : List (List UInt8) := lineW bPlan [(p.routes.length : Int), p.cost] :: (two (fun x => lineW bRoute x.1) (fun x => lineW bTimes x.2) (pairs p) ++ [lineW bLeft p.left])
def textP (p : Pl) : List UInt8 := joinL (linesP p)

theorem two_length {α β : Type} (f g : α → β) (xs : List α) : (two f g xs).length = 2 * xs.length := by
  induction xs with
  | nil => rfl
  | cons x xs ih => simp only [two, List.flatMap_cons, List.length_append, List.length_cons, List.length_nil] at ih ⊢; omega
theorem two_even {α β : Type} (f g : α → β) : ∀ (xs : List α) (k : Nat), (two f g xs)[2 * k]? = (xs[k]?).map f
  | [], k => by simp [two]
  | x :: xs, 0 => by simp [two]
  | x :: xs, k + 1 => by
    have := two_even f g xs k
    rw [two, List.flatMap_cons]
    rw [show 2 * (k + 1) = 2 * k + 1 + 1 by omega]
    simpa [two] using this
theorem two_odd {α β : Type} (f g : α → β) : ∀ (xs : List α) (k : Nat), (two f g xs)[2 * k + 1]? = (xs[k]?).map g
  | [], k => by simp [two]
  | x :: xs, 0 => by simp [two]
  | x :: xs, k + 1 => by
    have := two_odd f g xs k
    rw [two, List.flatMap_cons]
    rw [show 2 * (k + 1) + 1 = 2 * k + 1 + 1 + 1 by omega]
    simpa [two] using this

def manyB (p : Pl) : Bool := decide (64 < p.routes.length) || decide (4096 < p.left.length) || p.routes.any (fun r => decide (4096 < r.length))
def pairB (x : List Int × List Int) : Bool := decide (x.1.length = 0) || (decide (x.2.length ≠ x.1.length) && decide (0 < x.2.length))
def pairedB (p : Pl) : Bool := decide (p.times.length = p.routes.length) && !(pairs p).any pairB
def outB (n : Int) : Bool := decide (n < 0) || decide (1099511627776 < n)
def rangedB (p : Pl) : Bool := !p.routes.any (fun r => r.any outB) && !p.times.any (fun r => r.any outB) && !p.left.any outB && !outB p.cost
/-- What Print answers. -/
def printS (p : Pl) : List UInt8 × Int := if manyB p then ([], 3) else if !pairedB p then ([], 1) else if !rangedB p then ([], 23) else (textP p, 0)

theorem outB_ok {n : Int} : outB n = false ↔ Ok n := by
  unfold outB Ok
  rw [Bool.or_eq_false_iff, decide_eq_false_iff_not, decide_eq_false_iff_not]
  omega
/-- A plan that has a text. -/
structure Good (p : Pl) : Prop where
  cars : p.routes.length ≤ 64
  lefts : p.left.length ≤ 4096
  rows : ∀ r ∈ p.routes, r.length ≤ 4096
  len : p.times.length = p.routes.length
  pair : ∀ x ∈ pairs p, x.1 ≠ [] ∧ (x.2.length = x.1.length ∨ x.2 = [])
  r : ∀ r ∈ p.routes, ∀ n ∈ r, Ok n
  t : ∀ r ∈ p.times, ∀ n ∈ r, Ok n
  l : ∀ n ∈ p.left, Ok n
  c : Ok p.cost
theorem any_out {l : List Int} : l.any outB = false ↔ ∀ n ∈ l, Ok n := by
  rw [List.any_eq_false]
  exact ⟨fun h n hn => outB_ok.1 (by simpa using h n hn), fun h n hn => by simp [outB_ok.2 (h n hn)]⟩
theorem pairB_ok {x : List Int × List Int} : pairB x = false ↔ x.1 ≠ [] ∧ (x.2.length = x.1.length ∨ x.2 = []) := by
  unfold pairB
  rw [Bool.or_eq_false_iff, Bool.and_eq_false_iff, decide_eq_false_iff_not, decide_eq_false_iff_not, decide_eq_false_iff_not]
  have e1 : x.1 ≠ [] ↔ x.1.length ≠ 0 := by rw [ne_eq, ne_eq, List.length_eq_zero_iff]
  have e2 : x.2 = [] ↔ x.2.length = 0 := List.length_eq_zero_iff.symm
  rw [e1, e2]
  omega
theorem good_iff (p : Pl) : Good p ↔ manyB p = false ∧ pairedB p = true ∧ rangedB p = true := by
  unfold manyB pairedB rangedB
  simp only [Bool.or_eq_false_iff, Bool.and_eq_true, Bool.not_eq_true', decide_eq_false_iff_not, decide_eq_true_eq]
  constructor
  · rintro ⟨h1, h2, h3, h4, h5, h6, h7, h8, h9⟩
    refine ⟨⟨⟨by omega, by omega⟩, ?_⟩, ⟨h4, ?_⟩, ⟨⟨?_, ?_⟩, any_out.2 h8⟩, outB_ok.2 h9⟩
    · rw [List.any_eq_false]; intro r hr; have := h3 r hr; simp; omega
    · rw [List.any_eq_false]; intro x hx; simp [pairB_ok.2 (h5 x hx)]
    · rw [List.any_eq_false]; intro r hr; simp only [any_out.2 (h6 r hr)]; simp
    · rw [List.any_eq_false]; intro r hr; simp only [any_out.2 (h7 r hr)]; simp
  · rintro ⟨⟨⟨h1, h2⟩, h3⟩, ⟨h4, h5⟩, ⟨⟨h6, h7⟩, h8⟩, h9⟩
    rw [List.any_eq_false] at h3 h5 h6 h7
    refine ⟨by omega, by omega, fun r hr => ?_, h4, fun x hx => pairB_ok.1 (by simpa using h5 x hx), fun r hr => any_out.1 (by simpa using h6 r hr), fun r hr => any_out.1 (by simpa using h7 r hr), any_out.1 h8, outB_ok.1 h9⟩
    have := h3 r hr
    simp at this
    omega
theorem printS_good {p : Pl} (h : Good p) : printS p = (textP p, 0) := by
  obtain ⟨h1, h2, h3⟩ := (good_iff p).1 h
  unfold printS
  rw [h1, h2, h3]
  rfl
theorem printS_cases (p : Pl) : (Good p ∧ printS p = (textP p, 0)) ∨ (¬ Good p ∧ (printS p).1 = [] ∧ (printS p).2 ≠ 0) := by
  by_cases h : Good p
  · exact .inl ⟨h, printS_good h⟩
  · refine .inr ⟨h, ?_⟩
    rw [good_iff] at h
    unfold printS
    cases h1 : manyB p <;> cases h2 : pairedB p <;> cases h3 : rangedB p <;> simp_all

theorem Good.pairs_len {p : Pl} (h : Good p) : (pairs p).length = p.routes.length := by
  unfold pairs
  rw [List.length_zip, h.len]
  omega
theorem Good.cars_ok {p : Pl} (h : Good p) : Ok (p.routes.length : Int) := by
  have := h.cars
  unfold Ok
  omega
theorem Good.fst {p : Pl} (h : Good p) : (pairs p).map Prod.fst = p.routes := List.map_fst_zip (by rw [h.len]; exact Nat.le_refl _)
theorem Good.snd {p : Pl} (h : Good p) : (pairs p).map Prod.snd = p.times := List.map_snd_zip (by rw [h.len]; exact Nat.le_refl _)
theorem Good.mem_pairs {p : Pl} {x : List Int × List Int} (hx : x ∈ pairs p) : x.1 ∈ p.routes ∧ x.2 ∈ p.times := by
  obtain ⟨a, b⟩ := x
  exact ⟨(List.of_mem_zip hx).1, (List.of_mem_zip hx).2⟩
theorem linesP_length {p : Pl} (h : Good p) : (linesP p).length = 2 + 2 * p.routes.length := by
  unfold linesP
  rw [List.length_cons, List.length_append, two_length, h.pairs_len]
  simp
  omega
theorem linesP_zero (p : Pl) : (linesP p)[0]? = some (lineW bPlan [(p.routes.length : Int), p.cost]) := rfl
theorem linesP_route {p : Pl} (_ : Good p) {k : Nat} (hk : k < (pairs p).length) : (linesP p)[1 + 2 * k]? = some (lineW bRoute ((pairs p)[k]'hk).1) ∧ (linesP p)[1 + 2 * k + 1]? = some (lineW bTimes ((pairs p)[k]'hk).2) := by
  unfold linesP
  have hl := two_length (fun x : List Int × List Int => lineW bRoute x.1) (fun x => lineW bTimes x.2) (pairs p)
  rw [show 1 + 2 * k = 2 * k + 1 by omega, List.getElem?_cons_succ, List.getElem?_cons_succ, List.getElem?_append_left (by omega), List.getElem?_append_left (by omega), two_even, two_odd, List.getElem?_eq_getElem hk]
  exact ⟨rfl, rfl⟩
theorem linesP_left {p : Pl} (h : Good p) : (linesP p)[1 + 2 * p.routes.length]? = some (lineW bLeft p.left) := by
  unfold linesP
  have hl := two_length (fun x : List Int × List Int => lineW bRoute x.1) (fun x => lineW bTimes x.2) (pairs p)
  rw [h.pairs_len] at hl
  rw [show 1 + 2 * p.routes.length = 2 * p.routes.length + 1 by omega, List.getElem?_cons_succ, List.getElem?_append_right (by omega), hl, Nat.sub_self]
  rfl
theorem itoas_wd {ns : List Int} (h : ∀ n ∈ ns, Ok n) : ∀ w ∈ ns.map itoa, Wd w := by
  intro w hw
  obtain ⟨n, hn, rfl⟩ := List.mem_map.1 hw
  exact itoa_wd (h n hn)

/-- The lines agree as far as the first n. -/
def Pre (n : Nat) (lines : List ByteArray) (p : Pl) : Prop := ∀ j, j < n → lines[j]? = ((linesP p)[j]?).map mk

theorem next_at {lines : List ByteArray} {i : Nat} {a : List UInt8} {ns : List Int} (h : lines[i]? = some (mk (lineW a ns))) (ha : Wd a) (hn : ∀ n ∈ ns, Ok n) (hl : ns.length ≤ 4096) : nextS lines i (mk a) = .ok ((ns.map itoa).map mk) :=
  nextS_line a (ns.map itoa) h ha (itoas_wd hn) (by rw [List.length_map]; exact hl)
theorem route_at {p : Pl} (hg : Good p) {lines : List ByteArray} {k : Nat} (hk : k < (pairs p).length) (h : Pre (3 + 2 * k) lines p) : routeS lines (1 + 2 * k) = .ok ((pairs p)[k]'hk) := by
  obtain ⟨e1, e2⟩ := linesP_route hg hk
  have hm := List.getElem_mem hk
  obtain ⟨m1, m2⟩ := Good.mem_pairs hm
  obtain ⟨hne, hor⟩ := hg.pair _ hm
  generalize (pairs p)[k]'hk = x at *
  obtain ⟨a, b⟩ := x
  dsimp only at *
  have n1 := next_at (lines := lines) (i := 1 + 2 * k) (a := bRoute) (ns := a) (by rw [h _ (by omega), e1]; rfl) wd_route (hg.r _ m1) (hg.rows _ m1)
  have hb : b.length ≤ 4096 := by
    rcases hor with e | e
    · rw [e]; exact hg.rows _ m1
    · rw [e]; simp
  have n2 := next_at (lines := lines) (i := 1 + 2 * k + 1) (a := bTimes) (ns := b) (by rw [h _ (by omega), e2]; rfl) wd_times (hg.t _ m2) hb
  unfold routeS
  rw [show sRoute = mk bRoute from rfl, show sTimes = mk bTimes from rfl, n1, n2]
  dsimp only
  rw [if_neg (by simpa using hne), readAll_itoa (fun n hn => wholeS_itoa (hg.r _ m1 n hn))]
  dsimp only
  rw [if_neg, readAll_itoa (fun n hn => longS_itoa (hg.t _ m2 n hn))]
  rintro ⟨q1, q2⟩
  simp only [List.length_map] at q1 q2
  rcases hor with e | e
  · exact q1 e
  · rw [e] at q2; simp at q2
theorem routes_at {p : Pl} (hg : Good p) {lines : List ByteArray} : ∀ k, k ≤ (pairs p).length → Pre (1 + 2 * k) lines p → routesS lines k = .ok (((pairs p).take k).map Prod.fst, ((pairs p).take k).map Prod.snd)
  | 0, _, _ => rfl
  | k + 1, hk, h => by
    unfold routesS
    rw [routes_at hg k (by omega) (fun j hj => h j (by omega)), route_at hg (k := k) (by omega) (fun j hj => h j (by omega))]
    dsimp only
    rw [List.take_succ_eq_append_getElem (by omega), List.map_append, List.map_append]
    rfl
theorem routes_all {p : Pl} (hg : Good p) {lines : List ByteArray} (h : Pre (1 + 2 * p.routes.length) lines p) : routesS lines p.routes.length = .ok (p.routes, p.times) := by
  have := routes_at hg (lines := lines) p.routes.length (by rw [hg.pairs_len]; exact Nat.le_refl _) h
  rw [this, ← hg.pairs_len, List.take_length, hg.fst, hg.snd]
theorem planHead_at {p : Pl} (hg : Good p) {lines : List ByteArray} (h : Pre 1 lines p) : nextS lines 0 sPlan = .ok [mk (itoa (p.routes.length : Int)), mk (itoa p.cost)] := by
  have := next_at (lines := lines) (i := 0) (a := bPlan) (ns := [(p.routes.length : Int), p.cost]) (by rw [h 0 (by omega)]; rfl) wd_plan (by
    intro n hn
    rcases List.mem_cons.1 hn with rfl | hn
    · exact hg.cars_ok
    · rw [List.mem_singleton.1 hn]; exact hg.c) (by simp)
  exact this
theorem planS_head {p : Pl} (hg : Good p) {lines : List ByteArray} (h : Pre 1 lines p) : planS lines = (
      match routesS lines p.routes.length with
      | .error e => .error e
      | .ok x =>
        match nextS lines (1 + 2 * p.routes.length) sLeft with
        | .error er => .error (2 + 2 * (p.routes.length : Int), er)
        | .ok ls =>
          match readAll wholeS ls with
          | .error er => .error (2 + 2 * (p.routes.length : Int), er)
          | .ok left => if 2 + 2 * p.routes.length < lines.length then .error (3 + 2 * (p.routes.length : Int), 22) else .ok ⟨x.1, x.2, left, p.cost⟩) := by
  unfold planS
  rw [planHead_at hg h]
  dsimp only
  rw [wholeS_itoa hg.cars_ok, longS_itoa hg.c, if_neg (by simp), if_neg (by simp), if_neg (by have := hg.cars; simp only; omega)]
  simp only [Int.toNat_natCast]
  all_goals rfl
theorem planS_all {p : Pl} (hg : Good p) {lines : List ByteArray} (h : Pre (2 + 2 * p.routes.length) lines p) : planS lines = if 2 + 2 * p.routes.length < lines.length then .error (3 + 2 * (p.routes.length : Int), 22) else .ok p := by
  rw [planS_head hg (fun j hj => h j (by omega)), routes_all hg (fun j hj => h j (by omega))]
  dsimp only
  have n1 := next_at (lines := lines) (i := 1 + 2 * p.routes.length) (a := bLeft) (ns := p.left) (by rw [h _ (by omega), linesP_left hg]; rfl) wd_left hg.l hg.lefts
  rw [show sLeft = mk bLeft from rfl, n1]
  dsimp only
  rw [readAll_itoa (fun n hn => wholeS_itoa (hg.l n hn))]
theorem planS_short {p : Pl} (hg : Good p) {lines : List ByteArray} (h : Pre (1 + 2 * p.routes.length) lines p) (hn : lines[1 + 2 * p.routes.length]? = none) : planS lines = .error (2 + 2 * (p.routes.length : Int), 20) := by
  rw [planS_head hg (fun j hj => h j (by omega)), routes_all hg h]
  dsimp only
  have : nextS lines (1 + 2 * p.routes.length) sLeft = .error 20 := by
    unfold nextS
    rw [hn]
  rw [this]

theorem wordsS_blank (l : List UInt8) : (wordsS (mk (32 :: l))).2 = 21 := by
  unfold wordsS
  rw [mk_size, data_mk, if_neg (by simp), if_neg]
  rw [show cutAt 32 (32 :: l) = [] :: cutAt 32 l by simp [cutAt], List.map_cons, List.all_cons, show wordB (mk []) = false from rfl, Bool.false_and]
  exact Bool.false_ne_true
theorem next_blank {lines : List ByteArray} {i : Nat} {l : List UInt8} (f : ByteArray) (h : lines[i]? = some (mk (32 :: l))) : nextS lines i f = .error 21 := by
  unfold nextS
  rw [h]
  dsimp only
  rw [if_pos (by rw [wordsS_blank]; simp)]
theorem planS_blank {p : Pl} (hg : Good p) {lines : List ByteArray} {i : Nat} {l : List UInt8} (h : Pre i lines p) (hi : i < 2 + 2 * p.routes.length) (hb : lines[i]? = some (mk (32 :: l))) : planS lines = .error ((i : Int) + 1, 21) := by
  by_cases h0 : i = 0
  · subst h0
    unfold planS
    rw [next_blank _ hb]
    rfl
  · rw [planS_head hg (fun j hj => h j (by omega))]
    by_cases hl : i = 1 + 2 * p.routes.length
    · subst hl
      rw [routes_all hg h]
      dsimp only
      rw [next_blank _ hb]
      simp only [Except.error.injEq, Prod.mk.injEq, and_true]
      omega
    · have key : routesS lines p.routes.length = .error ((i : Int) + 1, 21) := by
        obtain ⟨k, hk⟩ : ∃ k, k = (i - 1) / 2 := ⟨_, rfl⟩
        have hkm : k < p.routes.length := by omega
        have hpl := hg.pairs_len
        have h1 : routesS lines (k + 1) = .error ((i : Int) + 1, 21) := by
          unfold routesS
          rw [routes_at hg k (by omega) (fun j hj => h j (by omega))]
          dsimp only
          rcases (show i = 1 + 2 * k ∨ i = 1 + 2 * k + 1 by omega) with e | e
          · have : routeS lines (1 + 2 * k) = .error ((i : Int) + 1, 21) := by
              unfold routeS
              rw [next_blank _ (by rw [← e]; exact hb)]
              simp only [Except.error.injEq, Prod.mk.injEq, and_true]
              omega
            rw [this]
          · have : routeS lines (1 + 2 * k) = .error ((i : Int) + 1, 21) := by
              obtain ⟨e1, e2⟩ := linesP_route hg (k := k) (by omega)
              have hm := List.getElem_mem (l := pairs p) (n := k) (by omega)
              obtain ⟨m1, m2⟩ := Good.mem_pairs hm
              obtain ⟨hne, hor⟩ := hg.pair _ hm
              generalize (pairs p)[k]'(by omega) = x at *
              obtain ⟨a, b⟩ := x
              dsimp only at *
              have n1 := next_at (lines := lines) (i := 1 + 2 * k) (a := bRoute) (ns := a) (by rw [h _ (by omega), e1]; rfl) wd_route (hg.r _ m1) (hg.rows _ m1)
              unfold routeS
              rw [show sRoute = mk bRoute from rfl, n1]
              dsimp only
              rw [if_neg (by simpa using hne), readAll_itoa (fun n hn => wholeS_itoa (hg.r _ m1 n hn))]
              dsimp only
              rw [next_blank _ (by rw [← e]; exact hb)]
              simp only [Except.error.injEq, Prod.mk.injEq, and_true]
              omega
            rw [this]
        have := routesS_bad h1 (p.routes.length - (k + 1))
        rwa [show k + 1 + (p.routes.length - (k + 1)) = p.routes.length by omega] at this
      rw [key]
end Go.Proofs.YtdgifgdadminbaaDoor

/-! ### Sm -/
namespace Go.Proofs.YtdgifgdadminbaaDoor
open Sp Go.Lib

theorem cutAt_sum (c : UInt8) : ∀ l : List UInt8, ((cutAt c l).map fun x => x.length + 1).sum = l.length + 1
  | [] => rfl
  | b :: r => by
    have ih := cutAt_sum c r
    have hn := cutAt_ne c r
    unfold cutAt
    split
    · simp only [List.map_cons, List.sum_cons, ih, List.length_nil, List.length_cons]; omega
    · revert ih hn
      cases cutAt c r with
      | nil => intro _ h; exact absurd rfl h
      | cons x xs =>
        intro ih _
        simp only [List.map_cons, List.sum_cons, List.length_cons] at ih ⊢
        omega
def bulk (ls : List ByteArray) : Nat := (ls.map fun x => x.size + 1).sum
theorem bulk_mk (ls : List (List UInt8)) : bulk (ls.map mk) = (ls.map fun x => x.length + 1).sum := by
  unfold bulk
  rw [List.map_map]
  refine congrArg List.sum (List.map_congr_left fun x _ => ?_)
  show (mk x).size + 1 = x.length + 1
  rw [mk_size]
theorem linesS_inv {s : ByteArray} {ls : List ByteArray} (h : linesS s = (ls, 0)) : s.size ≤ 1048576 ∧ bulk ls = s.size := by
  unfold linesS at h
  split at h
  · cases h
  · rename_i h1
    refine ⟨by omega, ?_⟩
    split at h
    · rename_i h2
      cases h
      rw [bulk_mk]
      have h3 := cutAt_sum 10 s.data.toList
      obtain ⟨r, hr⟩ : ∃ r, cutAt 10 s.data.toList = r ++ [[]] := List.getLast?_eq_some_iff.1 h2
      rw [hr] at h3 ⊢
      rw [List.dropLast_concat]
      rw [List.map_append, List.sum_append] at h3
      simp only [List.map_cons, List.map_nil, List.sum_cons, List.sum_nil, List.length_nil] at h3
      have : s.data.toList.length = s.size := (size_eq s).symm
      omega
    · cases h
theorem nextS_inv {lines : List ByteArray} {i : Nat} {a : List UInt8} {ws : List ByteArray} (h : nextS lines i (mk a) = .ok ws) :
    ∃ l, lines[i]? = some l ∧ l.size = a.length + bulk ws ∧ ws.length ≤ 4096 := by
  unfold nextS at h
  split at h
  · cases h
  · rename_i l hl
    split at h
    · cases h
    · rename_i h1
      split at h
      · cases h
      · rename_i h2
        cases h
        refine ⟨l, hl, ?_, by rw [List.length_tail]; omega⟩
        have e : (wordsS l).1 = mk a :: (wordsS l).1.tail := by
          revert h1
          cases (wordsS l).1 with
          | nil => simp
          | cons x xs =>
            intro h1
            have : x = mk a := by
              by_cases hx : x = mk a
              · exact hx
              · exact absurd (Or.inr (Or.inr (by simpa using hx))) h1
            rw [this]
            rfl
        have hc : (wordsS l).1 = (cutAt 32 l.data.toList).map mk := by
          unfold wordsS at h1 ⊢
          split
          · rename_i h0
            simp [h0] at h1
          · rename_i h0
            rw [if_neg h0] at h1
            split
            · rfl
            · rename_i h3
              rw [if_neg h3] at h1
              simp at h1
        have hs := cutAt_sum 32 l.data.toList
        rw [← bulk_mk, ← hc, e] at hs
        unfold bulk at hs ⊢
        rw [List.map_cons, List.sum_cons, mk_size] at hs
        have : l.data.toList.length = l.size := (size_eq l).symm
        omega

theorem digits_short (l : List UInt8) : ∀ n : Nat, (∀ b ∈ l, isD b = true) → l.foldl (fun n b => n * 10 + (b.toNat - 48)) n < (n + 1) * 10 ^ l.length := by
  induction l with
  | nil => intro n _; simp
  | cons b l ih =>
    intro n h
    have hb := h b (by simp)
    simp only [isD, Bool.and_eq_true, decide_eq_true_eq] at hb
    have := ih (n * 10 + (b.toNat - 48)) (fun x hx => h x (by simp [hx]))
    simp only [List.foldl_cons, List.length_cons]
    refine Nat.lt_of_lt_of_le this ?_
    rw [Nat.pow_succ, Nat.mul_comm (10 ^ l.length) 10, ← Nat.mul_assoc]
    exact Nat.mul_le_mul_right _ (by omega)
theorem val_short {l : List UInt8} (h : ∀ b ∈ l, isD b = true) (hp : 1 ≤ l.length) : (decDigits (val l)).length ≤ l.length := by
  rw [decDigits_length]
  have h1 := digits_short l 0 h
  obtain ⟨k, hk⟩ : ∃ k, l.length = k + 1 := ⟨l.length - 1, by omega⟩
  rw [hk] at h1 ⊢
  exact nDigits_le k _ (by simpa [val] using h1)
/-- What is read as a number that is not negative is at least as long as its numeral. -/
theorem readL_inv {l : List UInt8} {n : Int} (h : readL l = (n, 0)) (h0 : 0 ≤ n) : Ok n ∧ (itoa n).length ≤ l.length := by
  unfold readL at h
  have key : ∀ r : List UInt8, ∀ v : Int, r.all isD = true → 1 ≤ r.length → v.natAbs = val r → r.length ≤ l.length → (if v < -1099511627776 ∨ 1099511627776 < v then ((0 : Int), (23 : Int)) else (v, 0)) = (n, 0) → Ok n ∧ (itoa n).length ≤ l.length := by
    intro r v h1 h2 h3 h4 h5
    split at h5
    · cases h5
    · rename_i hb
      have e : v = n := congrArg Prod.fst h5
      subst e
      have hok : Ok v := ⟨h0, by omega⟩
      refine ⟨hok, ?_⟩
      rw [itoa_ok hok, show v.toNat = v.natAbs by omega, h3]
      exact Nat.le_trans (val_short (List.all_eq_true.1 h1) h2) h4
  by_cases hneg : (l.head? == some 45) = true
  · rw [hneg] at h
    simp only [if_true] at h
    split at h
    · rename_i hd
      simp only [Bool.and_eq_true, decide_eq_true_eq] at hd
      have : l.tail.length ≤ l.length := by rw [List.length_tail]; omega
      exact key _ _ hd.1.1 hd.1.2 (by omega) this h
    · cases h
  · rw [Bool.not_eq_true] at hneg
    rw [hneg] at h
    simp only [Bool.false_eq_true, if_false] at h
    split at h
    · rename_i hd
      simp only [Bool.and_eq_true, decide_eq_true_eq] at hd
      exact key _ _ hd.1.1 hd.1.2 (by omega) (Nat.le_refl _) h
    · cases h
theorem ba_length (s : ByteArray) : s.data.toList.length = s.size := (size_eq s).symm
theorem wholeS_inv {s : ByteArray} (h : (wholeS s).2 = 0) : Ok (wholeS s).1 ∧ (itoa (wholeS s).1).length ≤ s.size := by
  have h0 := wholeS_sign s h
  rw [← ba_length]
  unfold wholeS wholeL at h h0 ⊢
  split
  · rename_i hc
    rw [if_pos hc] at h
    cases h
  · rename_i hc
    rw [if_neg hc] at h h0
    exact readL_inv (by rw [← h]) h0
theorem longS_inv {s : ByteArray} (h : (longS s).2 = 0) : Ok (longS s).1 ∧ (itoa (longS s).1).length ≤ s.size := by
  rw [← ba_length]
  unfold longS at h ⊢
  split
  · rename_i hc
    rw [if_pos hc] at h
    cases h
  · rename_i hc
    rw [if_neg hc] at h
    exact readL_inv (l := s.data.toList) (by rw [← h]; rfl) (by omega)
theorem readAll_inv {f : ByteArray → Int × Int} {ws : List ByteArray} {ns : List Int} (hf : ∀ s, (f s).2 = 0 → Ok (f s).1 ∧ (itoa (f s).1).length ≤ s.size) (h : readAll f ws = .ok ns) :
    ns.length = ws.length ∧ (∀ n ∈ ns, Ok n) ∧ ((ns.map itoa).map fun x => x.length + 1).sum ≤ bulk ws := by
  unfold readAll at h
  split at h
  · cases h
  · rename_i hn
    cases h
    have hall : ∀ x ∈ ws, (f x).2 = 0 := by
      intro x hx
      have := List.find?_eq_none.1 hn x hx
      simpa using this
    clear hn
    refine ⟨by rw [List.length_map], ?_, ?_⟩
    · intro n hn
      obtain ⟨x, hx, rfl⟩ := List.mem_map.1 hn
      exact (hf x (hall x hx)).1
    · unfold bulk
      induction ws with
      | nil => exact Nat.le_refl _
      | cons x ws ih =>
        have h1 := (hf x (hall x (by simp))).2
        have h2 := ih (fun y hy => hall y (by simp [hy]))
        simp only [List.map_cons, List.sum_cons]
        omega
theorem lineB_length (a : List UInt8) (ws : List (List UInt8)) : (lineB a ws).length = a.length + (ws.map fun x => x.length + 1).sum := by
  unfold lineB
  rw [List.length_append]
  congr 1
  induction ws with
  | nil => rfl
  | cons w ws ih => simp only [List.flatMap_cons, List.length_append, List.map_cons, List.sum_cons, List.length_cons, ih]

/-- What a line that is read gives, and how long it is. -/
def Fits (lines : List ByteArray) (i : Nat) (a : List UInt8) (ns : List Int) : Prop := ∃ l, lines[i]? = some l ∧ (lineW a ns).length ≤ l.size
theorem fits_of {lines : List ByteArray} {i : Nat} {a : List UInt8} {ws : List ByteArray} {ns : List Int} {f : ByteArray → Int × Int} (hf : ∀ s, (f s).2 = 0 → Ok (f s).1 ∧ (itoa (f s).1).length ≤ s.size)
    (h1 : nextS lines i (mk a) = .ok ws) (h2 : readAll f ws = .ok ns) : Fits lines i a ns ∧ ns.length = ws.length ∧ ns.length ≤ 4096 ∧ ∀ n ∈ ns, Ok n := by
  obtain ⟨l, hl, hs, hm⟩ := nextS_inv h1
  obtain ⟨g1, g2, g3⟩ := readAll_inv hf h2
  refine ⟨⟨l, hl, ?_⟩, g1, by omega, g2⟩
  unfold lineW
  rw [lineB_length, hs]
  omega
theorem routeS_inv {lines : List ByteArray} {i : Nat} {x : List Int × List Int} (h : routeS lines i = .ok x) :
    Fits lines i bRoute x.1 ∧ Fits lines (i + 1) bTimes x.2 ∧ x.1 ≠ [] ∧ (x.2.length = x.1.length ∨ x.2 = []) ∧ x.1.length ≤ 4096 ∧ (∀ n ∈ x.1, Ok n) ∧ ∀ n ∈ x.2, Ok n := by
  unfold routeS at h
  split at h
  · cases h
  · rename_i ws hws
    split at h
    · cases h
    · rename_i hne
      split at h
      · cases h
      · rename_i row hrow
        split at h
        · cases h
        · rename_i more hmore
          split at h
          · cases h
          · rename_i hlen
            split at h
            · cases h
            · rename_i ts hts
              cases h
              obtain ⟨a1, a2, a3, a4⟩ := fits_of (fun s => wholeS_inv) (a := bRoute) hws hrow
              obtain ⟨b1, b2, b3, b4⟩ := fits_of (fun s => longS_inv) (a := bTimes) hmore hts
              refine ⟨a1, b1, ?_, ?_, a3, a4, b4⟩
              · intro e
                dsimp only at e
                rw [e] at a2
                exact hne (List.length_eq_zero_iff.1 a2.symm)
              · dsimp only
                rw [← List.length_eq_zero_iff]
                omega
theorem routesS_inv {lines : List ByteArray} : ∀ (k : Nat) (x : List (List Int) × List (List Int)), routesS lines k = .ok x → x.1.length = k ∧ x.2.length = k ∧ ∀ j y, (x.1.zip x.2)[j]? = some y → routeS lines (1 + 2 * j) = .ok y
  | 0, x, h => by
    cases h
    exact ⟨rfl, rfl, fun j y hy => by simp at hy⟩
  | k + 1, x, h => by
    unfold routesS at h
    split at h
    · cases h
    · rename_i z hz
      split at h
      · cases h
      · rename_i y hy
        cases h
        obtain ⟨l1, l2, hj⟩ := routesS_inv k z hz
        refine ⟨by simp [l1], by simp [l2], fun j q hq => ?_⟩
        dsimp only at hq
        rw [List.zip_append (by omega)] at hq
        by_cases hjk : j < k
        · rw [List.getElem?_append_left (by rw [List.length_zip]; omega)] at hq
          exact hj j q hq
        · rw [List.getElem?_append_right (by rw [List.length_zip]; omega), List.length_zip] at hq
          have e : j - min z.1.length z.2.length = 0 := by
            have := (List.getElem?_eq_some_iff.1 hq).1
            simp at this
            omega
          rw [e] at hq
          cases hq
          have : j = k := by omega
          rw [this]
          exact hy

set_option maxHeartbeats 1000000 in
/-- Each line of what is printed is at most as long as the line that was read. -/
theorem planS_inv {lines : List ByteArray} {p : Pl} (h : planS lines = .ok p) : Good p ∧ lines.length = 2 + 2 * p.routes.length ∧ ∀ (j : Nat) (l : List UInt8), (linesP p)[j]? = some l → ∃ x : ByteArray, lines[j]? = some x ∧ l.length ≤ x.size := by
  unfold planS at h
  split at h
  · cases h
  · rename_i ws hws
    split at h
    · rename_i a b
      split at h
      · cases h
      · rename_i ha
        split at h
        · cases h
        · rename_i hb
          split at h
          · cases h
          · rename_i hm
            split at h
            · cases h
            · rename_i x hx
              split at h
              · cases h
              · rename_i ls hls
                split at h
                · cases h
                · rename_i left hleft
                  split at h
                  · cases h
                  · rename_i hlen
                    cases h
                    have ha' : (wholeS a).2 = 0 := by omega
                    have hb' : (longS b).2 = 0 := by omega
                    obtain ⟨oa, la⟩ := wholeS_inv ha'
                    obtain ⟨ob, lb⟩ := longS_inv hb'
                    obtain ⟨f1, f2, f3, f4⟩ := fits_of (fun s => wholeS_inv) (a := bLeft) hls hleft
                    obtain ⟨l0, hl0, hs0, _⟩ := nextS_inv (a := bPlan) hws
                    obtain ⟨r1, r2, r3⟩ := routesS_inv _ _ hx
                    obtain ⟨m, hmm⟩ : ∃ m, (wholeS a).1.toNat = m := ⟨_, rfl⟩
                    have hma : (wholeS a).1 = (m : Int) := by have := oa.1; omega
                    have hrow : ∀ y ∈ x.1.zip x.2, ∃ j, routeS lines (1 + 2 * j) = .ok y := by
                      intro y hy
                      obtain ⟨j, hj⟩ := List.getElem?_of_mem hy
                      exact ⟨j, r3 j y hj⟩
                    have hr1 : ∀ r ∈ x.1, ∃ t, (r, t) ∈ x.1.zip x.2 := by
                      intro r hr
                      have : r ∈ (x.1.zip x.2).map Prod.fst := by rw [List.map_fst_zip (by omega)]; exact hr
                      obtain ⟨⟨r', t⟩, hy, e⟩ := List.mem_map.1 this
                      cases e
                      exact ⟨t, hy⟩
                    have hr2 : ∀ t ∈ x.2, ∃ r, (r, t) ∈ x.1.zip x.2 := by
                      intro t ht
                      have : t ∈ (x.1.zip x.2).map Prod.snd := by rw [List.map_snd_zip (by omega)]; exact ht
                      obtain ⟨⟨r, t'⟩, hy, e⟩ := List.mem_map.1 this
                      cases e
                      exact ⟨r, hy⟩
                    have hg : Good ⟨x.1, x.2, left, (longS b).1⟩ := by
                      refine ⟨by show x.1.length ≤ 64; omega, f3, ?_, by show x.2.length = x.1.length; omega, ?_, ?_, ?_, f4, ob⟩
                      · intro r hr
                        obtain ⟨t, ht⟩ := hr1 r hr
                        obtain ⟨j, hj⟩ := hrow _ ht
                        exact (routeS_inv hj).2.2.2.2.1
                      · intro y hy
                        obtain ⟨j, hj⟩ := hrow y hy
                        exact ⟨(routeS_inv hj).2.2.1, (routeS_inv hj).2.2.2.1⟩
                      · intro r hr
                        obtain ⟨t, ht⟩ := hr1 r hr
                        obtain ⟨j, hj⟩ := hrow _ ht
                        exact (routeS_inv hj).2.2.2.2.2.1
                      · intro t ht
                        obtain ⟨r, hr⟩ := hr2 t ht
                        obtain ⟨j, hj⟩ := hrow _ hr
                        exact (routeS_inv hj).2.2.2.2.2.2
                    have hlast : lines.length = 2 + 2 * m := by
                      obtain ⟨l, hl, _⟩ := f1
                      have := (List.getElem?_eq_some_iff.1 hl).1
                      omega
                    refine ⟨hg, by rw [hlast]; show 2 + 2 * m = 2 + 2 * x.1.length; omega, ?_⟩
                    intro j l hj
                    have hjl : j < 2 + 2 * x.1.length := by
                      have := (List.getElem?_eq_some_iff.1 hj).1
                      rw [linesP_length hg] at this
                      exact this
                    by_cases j0 : j = 0
                    · subst j0
                      rw [linesP_zero] at hj
                      cases hj
                      refine ⟨l0, hl0, ?_⟩
                      unfold lineW
                      rw [lineB_length, hs0]
                      have e1 : ((x.1.length : Nat) : Int) = (wholeS a).1 := by rw [hma]; omega
                      simp only [e1, bulk, List.map_cons, List.map_nil, List.sum_cons, List.sum_nil]
                      omega
                    · by_cases jl : j = 1 + 2 * x.1.length
                      · subst jl
                        have hq := linesP_left hg
                        dsimp only at hq
                        rw [hq] at hj
                        cases hj
                        rw [r1]
                        exact f1
                      · obtain ⟨k, hk⟩ : ∃ k, k = (j - 1) / 2 := ⟨_, rfl⟩
                        have hpl := hg.pairs_len
                        dsimp only at hpl
                        obtain ⟨e1, e2⟩ := linesP_route hg (k := k) (by rw [hpl]; omega)
                        have hrk := routeS_inv (r3 k _ (List.getElem?_eq_getElem (l := x.1.zip x.2) (i := k) (by
                          have : (x.1.zip x.2).length = x.1.length := hpl
                          omega)))
                        rcases (show j = 1 + 2 * k ∨ j = 1 + 2 * k + 1 by omega) with rfl | rfl
                        · rw [e1] at hj
                          cases hj
                          exact hrk.1
                        · rw [e2] at hj
                          cases hj
                          exact hrk.2.1
    · cases h

theorem joinL_length (ls : List (List UInt8)) : (joinL ls).length = (ls.map fun x => x.length + 1).sum := by
  induction ls with
  | nil => rfl
  | cons l ls ih => rw [joinL_cons, List.length_append, List.length_cons, ih, List.map_cons, List.sum_cons]; omega
theorem sum_le : ∀ (as : List (List UInt8)) (bs : List ByteArray), as.length ≤ bs.length → (∀ (j : Nat) (l : List UInt8), as[j]? = some l → ∃ x : ByteArray, bs[j]? = some x ∧ l.length ≤ x.size) → (as.map fun x => x.length + 1).sum ≤ bulk bs
  | [], bs, _, _ => by simp
  | a :: as, [], h, _ => by simp at h
  | a :: as, b :: bs, h, hf => by
    obtain ⟨x, hx, hl⟩ := hf 0 a rfl
    cases hx
    have := sum_le as bs (by simpa using h) (fun j l hj => hf (j + 1) l (by simpa using hj))
    unfold bulk at this ⊢
    simp only [List.map_cons, List.sum_cons]
    omega

/-- What Parse answers: the plan, an error's line and number. -/
def parseS (s : ByteArray) : Except (Int × Int) Pl := if (linesS s).2 ≠ 0 then .error (0, (linesS s).2) else planS (linesS s).1
theorem parseS_inv {s : ByteArray} {p : Pl} (h : parseS s = .ok p) : Good p ∧ (textP p).length ≤ s.size := by
  unfold parseS at h
  split at h
  · cases h
  · rename_i h0
    have hl := linesS_inv (s := s) (ls := (linesS s).1) (by rw [← Decidable.not_not.1 h0])
    obtain ⟨h1, h2, h3⟩ := planS_inv h
    refine ⟨h1, ?_⟩
    unfold textP
    rw [joinL_length, ← hl.2]
    exact sum_le _ _ (by rw [h2, linesP_length h1]; exact Nat.le_refl _) h3

theorem lineW_free {a : List UInt8} {ns : List Int} (ha : Wd a) (h : ∀ n ∈ ns, Ok n) : (10 : UInt8) ∉ lineW a ns := lineB_free10 a _ ha (itoas_wd h)
theorem linesP_free {p : Pl} (hg : Good p) : ∀ l ∈ linesP p, (10 : UInt8) ∉ l := by
  intro l hl
  unfold linesP at hl
  rcases List.mem_cons.1 hl with rfl | hl
  · refine lineW_free wd_plan ?_
    intro n hn
    rcases List.mem_cons.1 hn with rfl | hn
    · exact hg.cars_ok
    · rw [List.mem_singleton.1 hn]; exact hg.c
  · rcases List.mem_append.1 hl with hl | hl
    · unfold two at hl
      obtain ⟨x, hx, hl⟩ := List.mem_flatMap.1 hl
      obtain ⟨m1, m2⟩ := Good.mem_pairs hx
      rcases List.mem_cons.1 hl with rfl | hl
      · exact lineW_free wd_route (hg.r _ m1)
      · rw [List.mem_singleton.1 hl]
        exact lineW_free wd_times (hg.t _ m2)
    · rw [List.mem_singleton.1 hl]
      exact lineW_free wd_left hg.l
theorem parseS_join {ls : List (List UInt8)} (h : ∀ l ∈ ls, (10 : UInt8) ∉ l) (hs : (joinL ls).length ≤ 1048576) : parseS (mk (joinL ls)) = planS (ls.map mk) := by
  unfold parseS
  rw [linesS_join ls h hs, if_neg (by simp)]
/-- What is printed is read as it. -/
theorem parse_text {p : Pl} (hg : Good p) (hs : (textP p).length ≤ 1048576) : parseS (mk (textP p)) = .ok p := by
  unfold textP at hs ⊢
  rw [parseS_join (linesP_free hg) hs, planS_all hg (fun j _ => by rw [List.getElem?_map]), if_neg]
  rw [List.length_map, linesP_length hg]
  omega
/-- The last line left out. -/
theorem parse_short {p : Pl} (hg : Good p) (hs : (textP p).length ≤ 1048576) : parseS (mk (joinL (linesP p).dropLast)) = .error (2 + 2 * (p.routes.length : Int), 20) := by
  have hd : (joinL (linesP p).dropLast).length ≤ 1048576 := by
    refine Nat.le_trans ?_ hs
    unfold textP
    have h1 : linesP p = (linesP p).dropLast ++ [(linesP p).getLast (by unfold linesP; simp)] := (List.dropLast_concat_getLast _).symm
    conv => rhs; rw [h1]
    rw [joinL_append, List.length_append]
    omega
  have hlen := linesP_length hg
  rw [parseS_join (fun l hl => linesP_free hg l (List.dropLast_subset _ hl)) hd]
  refine planS_short hg (fun j hj => ?_) ?_
  · rw [List.getElem?_map, List.getElem?_dropLast, if_pos (by omega)]
  · refine List.getElem?_eq_none ?_
    rw [List.length_map, List.length_dropLast]
    omega
/-- A line more. -/
theorem parse_more {p : Pl} (hg : Good p) (hs : (textP p).length ≤ 1048500) : parseS (mk (textP p ++ [108, 101, 102, 116, 10])) = .error (3 + 2 * (p.routes.length : Int), 22) := by
  have e : textP p ++ [108, 101, 102, 116, 10] = joinL (linesP p ++ [bLeft]) := by
    rw [joinL_append]
    rfl
  have hlen := linesP_length hg
  rw [e, parseS_join, planS_all hg, if_pos]
  · simp only [List.length_map, List.length_append, List.length_cons, List.length_nil]; omega
  · intro j hj
    rw [List.getElem?_map, List.getElem?_append_left (by omega)]
  · intro l hl
    rcases List.mem_append.1 hl with hl | hl
    · exact linesP_free hg l hl
    · rw [List.mem_singleton.1 hl]; decide
  · rw [← e, List.length_append]
    simp only [List.length_cons, List.length_nil]
    omega
/-- A blank ahead of line i. -/
theorem parse_blank {p : Pl} (hg : Good p) (hs : (textP p).length ≤ 1048500) {i : Nat} (hi : i < 2 + 2 * p.routes.length) {a b : List (List UInt8)} {l : List UInt8} (e : linesP p = a ++ l :: b) (ha : a.length = i) :
    parseS (mk (joinL a ++ 32 :: joinL (l :: b))) = .error ((i : Int) + 1, 21) := by
  have e2 : joinL a ++ 32 :: joinL (l :: b) = joinL (a ++ (32 :: l) :: b) := by
    rw [joinL_append, joinL_cons, joinL_cons]
    rfl
  have hf := linesP_free hg
  rw [e] at hf
  rw [e2, parseS_join]
  · refine planS_blank hg (l := l) (fun j hj => ?_) hi ?_
    · rw [List.getElem?_map, e, List.getElem?_append_left (by omega), List.getElem?_append_left (by omega)]
    · rw [List.getElem?_map, List.getElem?_append_right (by omega), ha, Nat.sub_self]
      rfl
  · intro q hq
    rcases List.mem_append.1 hq with hq | hq
    · exact hf q (by simp [hq])
    · rcases List.mem_cons.1 hq with rfl | hq
      · intro hm
        rcases List.mem_cons.1 hm with h | h
        · exact absurd h (by decide)
        · exact hf l (by simp) h
      · exact hf q (by simp [hq])
  · have e3 : (joinL (a ++ (32 :: l) :: b)).length = (textP p).length + 1 := by
      unfold textP
      rw [e, joinL_append, joinL_append, joinL_cons, joinL_cons]
      simp only [List.length_append, List.length_cons]
      omega
    omega
theorem text_inj {p q : Pl} (hp : Good p) (hq : Good q) (hs : (textP p).length ≤ 1048576) (h : textP p = textP q) : p = q := by
  have h1 := parse_text hp hs
  have h2 := parse_text hq (by rw [← h]; exact hs)
  rw [h, h2] at h1
  cases h1
  rfl
end Go.Proofs.YtdgifgdadminbaaDoor

/-! ### Sn -/
namespace Go.Proofs.YtdgifgdadminbaaDoor
open Sp Go.Lib

theorem count_free {l : List UInt8} (h : (10 : UInt8) ∉ l) : l.count 10 = 0 := List.count_eq_zero.2 h
theorem joinL_count : ∀ ls : List (List UInt8), (∀ l ∈ ls, (10 : UInt8) ∉ l) → (joinL ls).count 10 = ls.length
  | [], _ => rfl
  | l :: ls, h => by
    rw [joinL_cons, List.count_append, List.count_cons_self, count_free (h l (by simp)), joinL_count ls (fun x hx => h x (by simp [hx])), List.length_cons]
    omega
theorem take_count (s : List UInt8) (i : Nat) (h : i < s.length) : (s.take (i + 1)).count 10 = (s.take i).count 10 + if s[i]'h = 10 then 1 else 0 := by
  rw [List.take_succ_eq_append_getElem h, List.count_append, List.count_singleton]
  congr 1
  by_cases e : s[i]'h = 10
  · rw [if_pos e, e]; rfl
  · rw [if_neg e, if_neg (by simpa using e)]

/-- Place i of the lines ls lies in line k. -/
structure Place (ls : List (List UInt8)) (i k : Nat) (a : List (List UInt8)) (l : List UInt8) (b : List (List UInt8)) (r r' : List UInt8) : Prop where
  all : ls = a ++ l :: b
  len : a.length = k
  cut : l = r ++ r'
  pos : i = (joinL a).length + r.length
theorem Place.start {l : List UInt8} {b : List (List UInt8)} : Place (l :: b) 0 0 [] l b [] l := ⟨rfl, rfl, rfl, rfl⟩
theorem Place.split {ls i k a l b r r'} (h : Place ls i k a l b r r') : joinL ls = (joinL a ++ r) ++ (r' ++ 10 :: joinL b) := by
  rw [h.all, joinL_append, joinL_cons, h.cut]
  simp
theorem Place.lt {ls i k a l b r r'} (h : Place ls i k a l b r r') : i < (joinL ls).length := by
  rw [h.split, h.pos]
  simp only [List.length_append, List.length_cons]
  omega
theorem Place.at_ {ls i k a l b r r'} (h : Place ls i k a l b r r') (hi : i < (joinL ls).length) : (joinL ls)[i]'hi = (r' ++ 10 :: joinL b).head (by simp) := by
  have e := h.split
  have hl : (joinL a ++ r).length = i := by rw [List.length_append, h.pos]
  have : (joinL ls)[i]? = some ((r' ++ 10 :: joinL b).head (by simp)) := by
    rw [e, List.getElem?_append_right (by omega), hl, Nat.sub_self]
    rw [← List.head?_eq_getElem?, List.head?_eq_some_head]
  rw [List.getElem?_eq_getElem hi] at this
  exact Option.some.inj this
/-- At a line's end the next line begins. -/
theorem Place.next {ls i k a l b r} (h : Place ls i k a l b r []) {l2 : List UInt8} {b2 : List (List UInt8)} (hb : b = l2 :: b2) : Place ls (i + 1) (k + 1) (a ++ [l]) l2 b2 [] l2 := by
  refine ⟨by rw [h.all, hb]; simp, by rw [List.length_append, h.len]; rfl, rfl, ?_⟩
  have hc := h.cut
  rw [List.append_nil] at hc
  rw [h.pos, joinL_append, List.length_append, joinL_cons, joinL_nil, hc]
  simp only [List.length_append, List.length_cons, List.length_nil]
  omega
theorem Place.more {ls i k a l b r c r'} (h : Place ls i k a l b r (c :: r')) : Place ls (i + 1) k a l b (r ++ [c]) r' := by
  refine ⟨h.all, h.len, by rw [h.cut]; simp, ?_⟩
  rw [h.pos, List.length_append]
  simp only [List.length_cons, List.length_nil]
  omega
theorem Place.take_ {ls i k a l b r'} (h : Place ls i k a l b [] r') : (joinL ls).take i = joinL a ∧ (joinL ls).drop i = joinL (l :: b) := by
  have e : joinL ls = joinL a ++ joinL (l :: b) := by rw [h.all, joinL_append]
  have hi : i = (joinL a).length := by have := h.pos; simpa using this
  rw [e, hi]
  exact ⟨List.take_left' rfl, List.drop_left' rfl⟩
end Go.Proofs.YtdgifgdadminbaaDoor
