/- What the reader of layer file answers, as lists: no program here. Written by this session. -/
import Derived.Test.YtdgifgdadminbaaDoorSp
namespace Go.Proofs.YtdgifgdadminbaaDoor
open Sp

def nextS (lines : List ByteArray) (i : Nat) (first : ByteArray) : Except Int (List ByteArray) :=
  match lines[i]? with
  | none => .error 20
  | some l => if (wordsS l).2 ≠ 0 ∨ (wordsS l).1 = [] ∨ (wordsS l).1.head? ≠ some first then .error 21 else if 4096 < (wordsS l).1.length - 1 then .error 3 else .ok (wordsS l).1.tail
def readAll (f : ByteArray → Int × Int) (ws : List ByteArray) : Except Int (List Int) :=
  match ws.find? (fun x => decide ((f x).2 ≠ 0)) with
  | some x => .error (f x).2
  | none => .ok (ws.map fun x => (f x).1)
def longS (s : ByteArray) : Int × Int := if (readS s).2 = 0 ∧ (readS s).1 < 0 then ((readS s).1, 23) else readS s
theorem find_take (p : ByteArray → Bool) (ws : List ByteArray) (k : Nat) (hk : k < ws.length) (h : ∀ x ∈ ws.take k, p x = false) (hp : p (ws[k]'hk) = true) : ws.find? p = some (ws[k]'hk) := by
  have e : ws = ws.take k ++ (ws[k]'hk) :: ws.drop (k + 1) := by
    rw [← List.drop_eq_getElem_cons hk, List.take_append_drop]
  conv => lhs; rw [e]
  rw [List.find?_append]
  have h1 : (ws.take k).find? p = none := List.find?_eq_none.2 (fun x hx => by rw [h x hx]; simp)
  rw [h1, Option.none_or, List.find?_cons, hp]
theorem readAll_bad {f : ByteArray → Int × Int} {ws : List ByteArray} {k : Nat} (hk : k < ws.length) (h : ∀ x ∈ ws.take k, (f x).2 = 0) (hp : (f (ws[k]'hk)).2 ≠ 0) : readAll f ws = .error (f (ws[k]'hk)).2 := by
  unfold readAll
  rw [find_take _ ws k hk (fun x hx => by simp [h x hx]) (by simpa using hp)]
theorem readAll_ok {f : ByteArray → Int × Int} {ws : List ByteArray} (h : ∀ x ∈ ws, (f x).2 = 0) : readAll f ws = .ok (ws.map fun x => (f x).1) := by
  unfold readAll
  have : ws.find? (fun x => decide ((f x).2 ≠ 0)) = none := List.find?_eq_none.2 (fun x hx => by simp [h x hx])
  rw [this]
def sRoute : ByteArray := ⟨#[114, 111, 117, 116, 101]⟩
def sTimes : ByteArray := ⟨#[116, 105, 109, 101, 115]⟩
def sPlan : ByteArray := ⟨#[112, 108, 97, 110]⟩
def sLeft : ByteArray := ⟨#[108, 101, 102, 116]⟩
def routeS (lines : List ByteArray) (i : Nat) : Except (Int × Int) (List Int × List Int) :=
  match nextS lines i sRoute with
  | .error er => .error ((i : Int) + 1, er)
  | .ok ws =>
    if ws = [] then .error ((i : Int) + 1, 21) else
    match readAll wholeS ws with
    | .error er => .error ((i : Int) + 1, er)
    | .ok row =>
      match nextS lines (i + 1) sTimes with
      | .error er => .error ((i : Int) + 2, er)
      | .ok more =>
        if more.length ≠ ws.length ∧ 0 < more.length then .error ((i : Int) + 2, 1) else
        match readAll longS more with
        | .error er => .error ((i : Int) + 2, er)
        | .ok ts => .ok (row, ts)
structure Pl where
  routes : List (List Int)
  times : List (List Int)
  left : List Int
  cost : Int
def routesS (lines : List ByteArray) : Nat → Except (Int × Int) (List (List Int) × List (List Int))
  | 0 => .ok ([], [])
  | k + 1 =>
    match routesS lines k with
    | .error e => .error e
    | .ok x =>
      match routeS lines (1 + 2 * k) with
      | .error e => .error e
      | .ok y => .ok (x.1 ++ [y.1], x.2 ++ [y.2])
def planS (lines : List ByteArray) : Except (Int × Int) Pl :=
  match nextS lines 0 sPlan with
  | .error er => .error (1, er)
  | .ok ws =>
    match ws with
    | [a, b] =>
      if (wholeS a).2 ≠ 0 then .error (1, (wholeS a).2) else
      if (longS b).2 ≠ 0 then .error (1, (longS b).2) else
      if 64 < (wholeS a).1 then .error (1, 3) else
      match routesS lines (wholeS a).1.toNat with
      | .error e => .error e
      | .ok x =>
        match nextS lines (1 + 2 * (wholeS a).1.toNat) sLeft with
        | .error er => .error (2 + 2 * ((wholeS a).1.toNat : Int), er)
        | .ok ls =>
          match readAll wholeS ls with
          | .error er => .error (2 + 2 * ((wholeS a).1.toNat : Int), er)
          | .ok left => if 2 + 2 * (wholeS a).1.toNat < lines.length then .error (3 + 2 * ((wholeS a).1.toNat : Int), 22) else .ok ⟨x.1, x.2, left, (longS b).1⟩
    | _ => .error (1, 21)
theorem routesS_bad {lines : List ByteArray} {k : Nat} {e : Int × Int} (h : routesS lines k = .error e) : ∀ d, routesS lines (k + d) = .error e
  | 0 => h
  | d + 1 => by
    rw [← Nat.add_assoc, routesS, routesS_bad h d]
theorem readL_sign (l : List UInt8) (hl : l.head? ≠ some 45) : (readL l).2 = 0 → 0 ≤ (readL l).1 := by
  unfold readL
  have h0 : (l.head? == some 45) = false := beq_eq_false_iff_ne.2 hl
  rw [h0]
  simp only [Bool.false_eq_true, if_false]
  split
  · split
    · intro h; cases h
    · intro _; show (0 : Int) ≤ (val l : Int); omega
  · intro h; cases h
theorem wholeS_sign (s : ByteArray) (h : (wholeS s).2 = 0) : 0 ≤ (wholeS s).1 := by
  unfold wholeS wholeL at h ⊢
  split at h
  · cases h
  · rename_i hc
    rw [if_neg hc]
    exact readL_sign _ (fun e => hc (.inr e)) h
theorem readAll_one_bad {f : ByteArray → Int × Int} {a : ByteArray} (h : (f a).2 ≠ 0) : readAll f [a] = .error (f a).2 := readAll_bad (ws := [a]) (k := 0) (by simp) (by simp) h
theorem readAll_one {f : ByteArray → Int × Int} {a : ByteArray} (h : (f a).2 = 0) : readAll f [a] = .ok [(f a).1] := by
  rw [readAll_ok (by simpa using h)]
  rfl
end Go.Proofs.YtdgifgdadminbaaDoor
