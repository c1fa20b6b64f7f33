/- What a plan is printed as, as lists; that it is read back; and what a text that is read must be. No program here. Written by this session. -/
import Derived.Test.YtdgifgdadminbaaDoorSd
namespace Go.Proofs.YtdgifgdadminbaaDoor
open Sp Go.Lib

def joinL (ls : List (List UInt8)) : List UInt8 := ls.flatMap (fun l => l ++ [10])
theorem joinL_nil : joinL [] = [] := rfl
theorem joinL_cons (l : List UInt8) (r : List (List UInt8)) : joinL (l :: r) = l ++ 10 :: joinL r := by
  simp [joinL]
theorem joinL_append (a b : List (List UInt8)) : joinL (a ++ b) = joinL a ++ joinL b := by
  simp [joinL]
theorem cutAt_join : ∀ ls : List (List UInt8), (∀ l ∈ ls, (10 : UInt8) ∉ l) → cutAt 10 (joinL ls) = ls ++ [[]]
  | [], _ => rfl
  | l :: r, h => by
    rw [joinL_cons, cutAt_app 10 l _ (fun b hb e => h l (by simp) (e ▸ hb)), cutAt_join r (fun x hx => h x (by simp [hx])), List.cons_append]
theorem linesS_join (ls : List (List UInt8)) (h : ∀ l ∈ ls, (10 : UInt8) ∉ l) (hs : (joinL ls).length ≤ 1048576) : linesS (mk (joinL ls)) = (ls.map mk, 0) := by
  unfold linesS
  rw [mk_size, data_mk, if_neg (by omega), cutAt_join ls h, if_pos (by simp), List.dropLast_concat]

theorem isW_32 {b : UInt8} (h : isW b = true) : b ≠ 32 := by
  rintro rfl
  exact absurd h (by decide)
theorem isW_10 {b : UInt8} (h : isW b = true) : b ≠ 10 := by
  rintro rfl
  exact absurd h (by decide)
theorem isD_W {b : UInt8} (h : isD b = true) : isW b = true := by
  simp only [isD, isW, Bool.and_eq_true, decide_eq_true_eq] at h ⊢
  omega

/-- A word: not empty, of visible signs. -/
def Wd (l : List UInt8) : Prop := l ≠ [] ∧ ∀ b ∈ l, isW b = true
theorem Wd.free32 {l : List UInt8} (h : Wd l) : (32 : UInt8) ∉ l := fun hm => isW_32 (h.2 _ hm) rfl
theorem Wd.free10 {l : List UInt8} (h : Wd l) : (10 : UInt8) ∉ l := fun hm => isW_10 (h.2 _ hm) rfl
theorem Wd.wordB {l : List UInt8} (h : Wd l) : wordB (mk l) = true := by
  unfold Sp.wordB
  rw [data_mk, mk_size, Bool.and_eq_true]
  refine ⟨List.all_eq_true.2 h.2, ?_⟩
  have := List.length_pos_iff.2 h.1
  simp only [decide_eq_true_eq]
  omega

/-- A line: a word, and words behind it. -/
def lineB (first : List UInt8) (ws : List (List UInt8)) : List UInt8 := first ++ ws.flatMap (fun w => 32 :: w)
theorem lineB_cons (a w : List UInt8) (ws : List (List UInt8)) : lineB a (w :: ws) = a ++ 32 :: lineB w ws := by
  simp [lineB]
theorem cutAt_words : ∀ (ws : List (List UInt8)) (a : List UInt8), (32 : UInt8) ∉ a → (∀ w ∈ ws, (32 : UInt8) ∉ w) → cutAt 32 (lineB a ws) = a :: ws
  | [], a, h, _ => by
    rw [lineB, List.flatMap_nil, List.append_nil, cutAt_free 32 a (fun b hb e => h (e ▸ hb))]
  | w :: ws, a, h, hw => by
    rw [lineB_cons, cutAt_app 32 a _ (fun b hb e => h (e ▸ hb)), cutAt_words ws w (hw w (by simp)) (fun x hx => hw x (by simp [hx]))]
theorem lineB_ne (a : List UInt8) (ws : List (List UInt8)) (h : a ≠ []) : lineB a ws ≠ [] := by
  unfold lineB
  simp [h]
theorem wordsS_line (a : List UInt8) (ws : List (List UInt8)) (ha : Wd a) (hw : ∀ w ∈ ws, Wd w) : wordsS (mk (lineB a ws)) = ((a :: ws).map mk, 0) := by
  unfold wordsS
  rw [mk_size, data_mk, if_neg (fun e => lineB_ne a ws ha.1 (List.length_eq_zero_iff.1 e)), cutAt_words ws a ha.free32 (fun w h => (hw w h).free32), if_pos]
  rw [List.all_eq_true]
  intro x hx
  obtain ⟨l, hl, rfl⟩ := List.mem_map.1 hx
  rcases List.mem_cons.1 hl with rfl | hl
  · exact ha.wordB
  · exact (hw l hl).wordB
theorem nextS_line {lines : List ByteArray} {i : Nat} (a : List UInt8) (ws : List (List UInt8)) (h : lines[i]? = some (mk (lineB a ws))) (ha : Wd a) (hw : ∀ w ∈ ws, Wd w) (hn : ws.length ≤ 4096) : nextS lines i (mk a) = .ok (ws.map mk) := by
  unfold nextS
  rw [h]
  dsimp only
  rw [wordsS_line a ws ha hw, if_neg (by simp), if_neg (by simp; omega)]
  rfl
theorem lineB_free10 (a : List UInt8) (ws : List (List UInt8)) (ha : Wd a) (hw : ∀ w ∈ ws, Wd w) : (10 : UInt8) ∉ lineB a ws := by
  unfold lineB
  intro h
  rcases List.mem_append.1 h with h | h
  · exact ha.free10 h
  · obtain ⟨w, hw1, hw2⟩ := List.mem_flatMap.1 h
    rcases List.mem_cons.1 hw2 with e | hw2
    · exact absurd e (by decide)
    · exact (hw w hw1).free10 hw2

/-! ### Numerals -/
theorem val_last (l : List UInt8) (b : UInt8) : val (l ++ [b]) = val l * 10 + (b.toNat - 48) := by simp [val, List.foldl_append]
theorem digit_nat {r : Nat} (h : r < 10) : (UInt8.ofNat (48 + r)).toNat = 48 + r := by
  rw [UInt8.toNat_ofNat']
  omega
theorem digit_isD {r : Nat} (h : r < 10) : isD (UInt8.ofNat (48 + r)) = true := by
  simp only [isD, digit_nat h, Bool.and_eq_true, decide_eq_true_eq]
  omega
theorem dec_spec (u : Nat) : (∀ b ∈ decDigits u, isD b = true) ∧ val (decDigits u) = u ∧ decDigits u ≠ [] ∧ (u ≠ 0 → (decDigits u).head? ≠ some 48) := by
  induction u using Nat.strongRecOn with
  | _ u ih =>
    by_cases h : u < 10
    · rw [decDigits, dif_pos h]
      refine ⟨?_, ?_, by simp, ?_⟩
      · intro b hb
        rw [List.mem_singleton.1 hb]
        exact digit_isD h
      · simp only [val, List.foldl_cons, List.foldl_nil, digit_nat h]
        omega
      · intro h0 e
        have e1 : UInt8.ofNat (48 + u) = 48 := by simpa using e
        have e2 := congrArg UInt8.toNat e1
        rw [digit_nat h] at e2
        have : (48 : UInt8).toNat = 48 := rfl
        omega
    · obtain ⟨h1, h2, h3, h4⟩ := ih (u / 10) (by omega)
      rw [decDigits, dif_neg h]
      have hr : u % 10 < 10 := Nat.mod_lt _ (by decide)
      refine ⟨?_, ?_, by simp, ?_⟩
      · intro b hb
        rcases List.mem_append.1 hb with hb | hb
        · exact h1 b hb
        · rw [List.mem_singleton.1 hb]
          exact digit_isD hr
      · rw [val_last, h2, digit_nat hr]
        omega
      · intro _
        obtain ⟨b, hb⟩ : ∃ b, (decDigits (u / 10)).head? = some b := by
          revert h3
          cases decDigits (u / 10) with
          | nil => simp
          | cons b r => intro _; exact ⟨b, rfl⟩
        have h5 := h4 (by omega)
        rw [hb] at h5
        rw [List.head?_append, hb]
        exact h5
theorem nDigits_le : ∀ (k u : Nat), u < 10 ^ (k + 1) → nDigits u ≤ k + 1
  | 0, u, h => by rw [nDigits_small (by simpa using h)]; exact Nat.le_refl _
  | k + 1, u, h => by
    by_cases hu : u < 10
    · rw [nDigits_small hu]; omega
    · rw [nDigits_big hu]
      have := nDigits_le k (u / 10) (by rw [Nat.pow_succ] at h; omega)
      omega

/-- A number that may be. -/
def Ok (n : Int) : Prop := 0 ≤ n ∧ n ≤ 1099511627776
theorem itoa_ok {n : Int} (h : Ok n) : itoa n = decDigits n.toNat := by
  unfold itoa
  rw [if_neg (by have := h.1; omega)]
theorem itoa_wd {n : Int} (h : Ok n) : Wd (itoa n) := by
  rw [itoa_ok h]
  exact ⟨(dec_spec _).2.2.1, fun b hb => isD_W ((dec_spec _).1 b hb)⟩
theorem head_mem {l : List UInt8} {b : UInt8} (h : l.head? = some b) : b ∈ l := List.mem_of_mem_head? h
theorem readL_dec {u : Nat} (h : u ≤ 1099511627776) : readL (decDigits u) = ((u : Int), 0) := by
  obtain ⟨h1, h2, h3, h4⟩ := dec_spec u
  have hneg : ((decDigits u).head? == some 45) = false := by
    refine beq_eq_false_iff_ne.2 (fun e => ?_)
    exact absurd (h1 _ (head_mem e)) (by decide)
  unfold readL
  rw [hneg]
  simp only [Bool.false_eq_true, if_false]
  have hl := nDigits_le 12 u (by omega)
  have hp := List.length_pos_iff.2 h3
  rw [← decDigits_length] at hl
  rw [if_pos]
  · rw [h2, if_neg (by omega)]
  · simp only [Bool.and_eq_true, decide_eq_true_eq]
    exact ⟨⟨List.all_eq_true.2 h1, by omega⟩, by omega⟩
theorem wholeL_dec {u : Nat} (h : u ≤ 1099511627776) : wholeL (decDigits u) = ((u : Int), 0) := by
  obtain ⟨h1, h2, h3, h4⟩ := dec_spec u
  unfold wholeL
  rw [if_neg, readL_dec h]
  rintro (⟨hl, e⟩ | e)
  · by_cases h0 : u = 0
    · subst h0
      rw [decDigits, dif_pos (by omega)] at hl
      simp at hl
    · exact h4 h0 e
  · exact absurd (h1 _ (head_mem e)) (by decide)
theorem wholeS_itoa {n : Int} (h : Ok n) : wholeS (mk (itoa n)) = (n, 0) := by
  unfold wholeS
  rw [data_mk, itoa_ok h, wholeL_dec (by have := h.2; omega)]
  have := h.1
  congr 1
  omega
theorem longS_itoa {n : Int} (h : Ok n) : longS (mk (itoa n)) = (n, 0) := by
  have e : readS (mk (itoa n)) = (n, 0) := by
    unfold readS
    rw [data_mk, itoa_ok h, readL_dec (by have := h.2; omega)]
    have := h.1
    congr 1
    omega
  unfold longS
  rw [e, if_neg]
  rintro ⟨_, hn⟩
  have := h.1
  simp only at hn
  omega
theorem readAll_itoa {f : ByteArray → Int × Int} {ns : List Int} (hf : ∀ n ∈ ns, f (mk (itoa n)) = (n, 0)) : readAll f ((ns.map itoa).map mk) = .ok ns := by
  rw [readAll_ok]
  · congr 1
    rw [List.map_map, List.map_map]
    conv => rhs; rw [← List.map_id ns]
    refine List.map_congr_left fun n hn => ?_
    simp only [Function.comp_apply, hf n hn, id_eq]
  · intro x hx
    rw [List.map_map] at hx
    obtain ⟨n, hn, rfl⟩ := List.mem_map.1 hx
    simp only [Function.comp_apply, hf n hn]

/-! ### A plan's lines -/
def bRoute : List UInt8 := [114, 111, 117, 116, 101]
def bTimes : List UInt8 := [116, 105, 109, 101, 115]
def bPlan : List UInt8 := [112, 108, 97, 110]
def bLeft : List UInt8 := [108, 101, 102, 116]
theorem wd_route : Wd bRoute := ⟨by decide, by decide⟩
theorem wd_times : Wd bTimes := ⟨by decide, by decide⟩
theorem wd_plan : Wd bPlan := ⟨by decide, by decide⟩
theorem wd_left : Wd bLeft := ⟨by decide, by decide⟩
def lineW (first : List UInt8) (ns : List Int) : List UInt8 := lineB first (ns.map itoa)
def pairs (p : Pl) : List (List Int × List Int) := p.routes.zip p.times
def two {α β : Type} (f g : α → β) (xs : List α) : List β := xs.flatMap (fun x => [f x, g x])
def linesP (p : Pl) : List (List UInt8) := lineW bPlan [(p.routes.length : Int), p.cost] :: (two (fun x => lineW bRoute x.1) (fun x => lineW bTimes x.2) (pairs p) ++ [lineW bLeft p.left])
def textP (p : Pl) : List UInt8 := joinL (linesP p)

theorem two_length {α β : Type} (f g : α → β) (xs : List α) : (two f g xs).length = 2 * xs.length := by
  induction xs with
  | nil => rfl
  | cons x xs ih => simp only [two, List.flatMap_cons, List.length_append, List.length_cons, List.length_nil] at ih ⊢; omega
theorem two_even {α β : Type} (f g : α → β) : ∀ (xs : List α) (k : Nat), (two f g xs)[2 * k]? = (xs[k]?).map f
  | [], k => by simp [two]
  | x :: xs, 0 => by simp [two]
  | x :: xs, k + 1 => by
    have := two_even f g xs k
    rw [two, List.flatMap_cons]
    rw [show 2 * (k + 1) = 2 * k + 1 + 1 by omega]
    simpa [two] using this
theorem two_odd {α β : Type} (f g : α → β) : ∀ (xs : List α) (k : Nat), (two f g xs)[2 * k + 1]? = (xs[k]?).map g
  | [], k => by simp [two]
  | x :: xs, 0 => by simp [two]
  | x :: xs, k + 1 => by
    have := two_odd f g xs k
    rw [two, List.flatMap_cons]
    rw [show 2 * (k + 1) + 1 = 2 * k + 1 + 1 + 1 by omega]
    simpa [two] using this

def manyB (p : Pl) : Bool := decide (64 < p.routes.length) || decide (4096 < p.left.length) || p.routes.any (fun r => decide (4096 < r.length))
def pairB (x : List Int × List Int) : Bool := decide (x.1.length = 0) || (decide (x.2.length ≠ x.1.length) && decide (0 < x.2.length))
def pairedB (p : Pl) : Bool := decide (p.times.length = p.routes.length) && !(pairs p).any pairB
def outB (n : Int) : Bool := decide (n < 0) || decide (1099511627776 < n)
def rangedB (p : Pl) : Bool := !p.routes.any (fun r => r.any outB) && !p.times.any (fun r => r.any outB) && !p.left.any outB && !outB p.cost
/-- What Print answers. -/
def printS (p : Pl) : List UInt8 × Int := if manyB p then ([], 3) else if !pairedB p then ([], 1) else if !rangedB p then ([], 23) else (textP p, 0)

theorem outB_ok {n : Int} : outB n = false ↔ Ok n := by
  unfold outB Ok
  rw [Bool.or_eq_false_iff, decide_eq_false_iff_not, decide_eq_false_iff_not]
  omega
/-- A plan that has a text. -/
structure Good (p : Pl) : Prop where
  cars : p.routes.length ≤ 64
  lefts : p.left.length ≤ 4096
  rows : ∀ r ∈ p.routes, r.length ≤ 4096
  len : p.times.length = p.routes.length
  pair : ∀ x ∈ pairs p, x.1 ≠ [] ∧ (x.2.length = x.1.length ∨ x.2 = [])
  r : ∀ r ∈ p.routes, ∀ n ∈ r, Ok n
  t : ∀ r ∈ p.times, ∀ n ∈ r, Ok n
  l : ∀ n ∈ p.left, Ok n
  c : Ok p.cost
theorem any_out {l : List Int} : l.any outB = false ↔ ∀ n ∈ l, Ok n := by
  rw [List.any_eq_false]
  exact ⟨fun h n hn => outB_ok.1 (by simpa using h n hn), fun h n hn => by simp [outB_ok.2 (h n hn)]⟩
theorem pairB_ok {x : List Int × List Int} : pairB x = false ↔ x.1 ≠ [] ∧ (x.2.length = x.1.length ∨ x.2 = []) := by
  unfold pairB
  rw [Bool.or_eq_false_iff, Bool.and_eq_false_iff, decide_eq_false_iff_not, decide_eq_false_iff_not, decide_eq_false_iff_not]
  have e1 : x.1 ≠ [] ↔ x.1.length ≠ 0 := by rw [ne_eq, ne_eq, List.length_eq_zero_iff]
  have e2 : x.2 = [] ↔ x.2.length = 0 := List.length_eq_zero_iff.symm
  rw [e1, e2]
  omega
theorem good_iff (p : Pl) : Good p ↔ manyB p = false ∧ pairedB p = true ∧ rangedB p = true := by
  unfold manyB pairedB rangedB
  simp only [Bool.or_eq_false_iff, Bool.and_eq_true, Bool.not_eq_true', decide_eq_false_iff_not, decide_eq_true_eq]
  constructor
  · rintro ⟨h1, h2, h3, h4, h5, h6, h7, h8, h9⟩
    refine ⟨⟨⟨by omega, by omega⟩, ?_⟩, ⟨h4, ?_⟩, ⟨⟨?_, ?_⟩, any_out.2 h8⟩, outB_ok.2 h9⟩
    · rw [List.any_eq_false]; intro r hr; have := h3 r hr; simp; omega
    · rw [List.any_eq_false]; intro x hx; simp [pairB_ok.2 (h5 x hx)]
    · rw [List.any_eq_false]; intro r hr; simp only [any_out.2 (h6 r hr)]; simp
    · rw [List.any_eq_false]; intro r hr; simp only [any_out.2 (h7 r hr)]; simp
  · rintro ⟨⟨⟨h1, h2⟩, h3⟩, ⟨h4, h5⟩, ⟨⟨h6, h7⟩, h8⟩, h9⟩
    rw [List.any_eq_false] at h3 h5 h6 h7
    refine ⟨by omega, by omega, fun r hr => ?_, h4, fun x hx => pairB_ok.1 (by simpa using h5 x hx), fun r hr => any_out.1 (by simpa using h6 r hr), fun r hr => any_out.1 (by simpa using h7 r hr), any_out.1 h8, outB_ok.1 h9⟩
    have := h3 r hr
    simp at this
    omega
theorem printS_good {p : Pl} (h : Good p) : printS p = (textP p, 0) := by
  obtain ⟨h1, h2, h3⟩ := (good_iff p).1 h
  unfold printS
  rw [h1, h2, h3]
  rfl
theorem printS_cases (p : Pl) : (Good p ∧ printS p = (textP p, 0)) ∨ (¬ Good p ∧ (printS p).1 = [] ∧ (printS p).2 ≠ 0) := by
  by_cases h : Good p
  · exact .inl ⟨h, printS_good h⟩
  · refine .inr ⟨h, ?_⟩
    rw [good_iff] at h
    unfold printS
    cases h1 : manyB p <;> cases h2 : pairedB p <;> cases h3 : rangedB p <;> simp_all

theorem Good.pairs_len {p : Pl} (h : Good p) : (pairs p).length = p.routes.length := by
  unfold pairs
  rw [List.length_zip, h.len]
  omega
theorem Good.cars_ok {p : Pl} (h : Good p) : Ok (p.routes.length : Int) := by
  have := h.cars
  unfold Ok
  omega
theorem Good.fst {p : Pl} (h : Good p) : (pairs p).map Prod.fst = p.routes := List.map_fst_zip (by rw [h.len]; exact Nat.le_refl _)
theorem Good.snd {p : Pl} (h : Good p) : (pairs p).map Prod.snd = p.times := List.map_snd_zip (by rw [h.len]; exact Nat.le_refl _)
theorem Good.mem_pairs {p : Pl} {x : List Int × List Int} (hx : x ∈ pairs p) : x.1 ∈ p.routes ∧ x.2 ∈ p.times := by
  obtain ⟨a, b⟩ := x
  exact ⟨(List.of_mem_zip hx).1, (List.of_mem_zip hx).2⟩
theorem linesP_length {p : Pl} (h : Good p) : (linesP p).length = 2 + 2 * p.routes.length := by
  unfold linesP
  rw [List.length_cons, List.length_append, two_length, h.pairs_len]
  simp
  omega
theorem linesP_zero (p : Pl) : (linesP p)[0]? = some (lineW bPlan [(p.routes.length : Int), p.cost]) := rfl
theorem linesP_route {p : Pl} (_ : Good p) {k : Nat} (hk : k < (pairs p).length) : (linesP p)[1 + 2 * k]? = some (lineW bRoute ((pairs p)[k]'hk).1) ∧ (linesP p)[1 + 2 * k + 1]? = some (lineW bTimes ((pairs p)[k]'hk).2) := by
  unfold linesP
  have hl := two_length (fun x : List Int × List Int => lineW bRoute x.1) (fun x => lineW bTimes x.2) (pairs p)
  rw [show 1 + 2 * k = 2 * k + 1 by omega, List.getElem?_cons_succ, List.getElem?_cons_succ, List.getElem?_append_left (by omega), List.getElem?_append_left (by omega), two_even, two_odd, List.getElem?_eq_getElem hk]
  exact ⟨rfl, rfl⟩
theorem linesP_left {p : Pl} (h : Good p) : (linesP p)[1 + 2 * p.routes.length]? = some (lineW bLeft p.left) := by
  unfold linesP
  have hl := two_length (fun x : List Int × List Int => lineW bRoute x.1) (fun x => lineW bTimes x.2) (pairs p)
  rw [h.pairs_len] at hl
  rw [show 1 + 2 * p.routes.length = 2 * p.routes.length + 1 by omega, List.getElem?_cons_succ, List.getElem?_append_right (by omega), hl, Nat.sub_self]
  rfl
theorem itoas_wd {ns : List Int} (h : ∀ n ∈ ns, Ok n) : ∀ w ∈ ns.map itoa, Wd w := by
  intro w hw
  obtain ⟨n, hn, rfl⟩ := List.mem_map.1 hw
  exact itoa_wd (h n hn)

/-- The lines agree as far as the first n. -/
def Pre (n : Nat) (lines : List ByteArray) (p : Pl) : Prop := ∀ j, j < n → lines[j]? = ((linesP p)[j]?).map mk

theorem next_at {lines : List ByteArray} {i : Nat} {a : List UInt8} {ns : List Int} (h : lines[i]? = some (mk (lineW a ns))) (ha : Wd a) (hn : ∀ n ∈ ns, Ok n) (hl : ns.length ≤ 4096) : nextS lines i (mk a) = .ok ((ns.map itoa).map mk) :=
  nextS_line a (ns.map itoa) h ha (itoas_wd hn) (by rw [List.length_map]; exact hl)
theorem route_at {p : Pl} (hg : Good p) {lines : List ByteArray} {k : Nat} (hk : k < (pairs p).length) (h : Pre (3 + 2 * k) lines p) : routeS lines (1 + 2 * k) = .ok ((pairs p)[k]'hk) := by
  obtain ⟨e1, e2⟩ := linesP_route hg hk
  have hm := List.getElem_mem hk
  obtain ⟨m1, m2⟩ := Good.mem_pairs hm
  obtain ⟨hne, hor⟩ := hg.pair _ hm
  generalize (pairs p)[k]'hk = x at *
  obtain ⟨a, b⟩ := x
  dsimp only at *
  have n1 := next_at (lines := lines) (i := 1 + 2 * k) (a := bRoute) (ns := a) (by rw [h _ (by omega), e1]; rfl) wd_route (hg.r _ m1) (hg.rows _ m1)
  have hb : b.length ≤ 4096 := by
    rcases hor with e | e
    · rw [e]; exact hg.rows _ m1
    · rw [e]; simp
  have n2 := next_at (lines := lines) (i := 1 + 2 * k + 1) (a := bTimes) (ns := b) (by rw [h _ (by omega), e2]; rfl) wd_times (hg.t _ m2) hb
  unfold routeS
  rw [show sRoute = mk bRoute from rfl, show sTimes = mk bTimes from rfl, n1, n2]
  dsimp only
  rw [if_neg (by simpa using hne), readAll_itoa (fun n hn => wholeS_itoa (hg.r _ m1 n hn))]
  dsimp only
  rw [if_neg, readAll_itoa (fun n hn => longS_itoa (hg.t _ m2 n hn))]
  rintro ⟨q1, q2⟩
  simp only [List.length_map] at q1 q2
  rcases hor with e | e
  · exact q1 e
  · rw [e] at q2; simp at q2
theorem routes_at {p : Pl} (hg : Good p) {lines : List ByteArray} : ∀ k, k ≤ (pairs p).length → Pre (1 + 2 * k) lines p → routesS lines k = .ok (((pairs p).take k).map Prod.fst, ((pairs p).take k).map Prod.snd)
  | 0, _, _ => rfl
  | k + 1, hk, h => by
    unfold routesS
    rw [routes_at hg k (by omega) (fun j hj => h j (by omega)), route_at hg (k := k) (by omega) (fun j hj => h j (by omega))]
    dsimp only
    rw [List.take_succ_eq_append_getElem (by omega), List.map_append, List.map_append]
    rfl
theorem routes_all {p : Pl} (hg : Good p) {lines : List ByteArray} (h : Pre (1 + 2 * p.routes.length) lines p) : routesS lines p.routes.length = .ok (p.routes, p.times) := by
  have := routes_at hg (lines := lines) p.routes.length (by rw [hg.pairs_len]; exact Nat.le_refl _) h
  rw [this, ← hg.pairs_len, List.take_length, hg.fst, hg.snd]
theorem planHead_at {p : Pl} (hg : Good p) {lines : List ByteArray} (h : Pre 1 lines p) : nextS lines 0 sPlan = .ok [mk (itoa (p.routes.length : Int)), mk (itoa p.cost)] := by
  have := next_at (lines := lines) (i := 0) (a := bPlan) (ns := [(p.routes.length : Int), p.cost]) (by rw [h 0 (by omega)]; rfl) wd_plan (by
    intro n hn
    rcases List.mem_cons.1 hn with rfl | hn
    · exact hg.cars_ok
    · rw [List.mem_singleton.1 hn]; exact hg.c) (by simp)
  exact this
theorem planS_head {p : Pl} (hg : Good p) {lines : List ByteArray} (h : Pre 1 lines p) : planS lines = (
      match routesS lines p.routes.length with
      | .error e => .error e
      | .ok x =>
        match nextS lines (1 + 2 * p.routes.length) sLeft with
        | .error er => .error (2 + 2 * (p.routes.length : Int), er)
        | .ok ls =>
          match readAll wholeS ls with
          | .error er => .error (2 + 2 * (p.routes.length : Int), er)
          | .ok left => if 2 + 2 * p.routes.length < lines.length then .error (3 + 2 * (p.routes.length : Int), 22) else .ok ⟨x.1, x.2, left, p.cost⟩) := by
  unfold planS
  rw [planHead_at hg h]
  dsimp only
  rw [wholeS_itoa hg.cars_ok, longS_itoa hg.c, if_neg (by simp), if_neg (by simp), if_neg (by have := hg.cars; simp only; omega)]
  simp only [Int.toNat_natCast]
  rfl
theorem planS_all {p : Pl} (hg : Good p) {lines : List ByteArray} (h : Pre (2 + 2 * p.routes.length) lines p) : planS lines = if 2 + 2 * p.routes.length < lines.length then .error (3 + 2 * (p.routes.length : Int), 22) else .ok p := by
  rw [planS_head hg (fun j hj => h j (by omega)), routes_all hg (fun j hj => h j (by omega))]
  dsimp only
  have n1 := next_at (lines := lines) (i := 1 + 2 * p.routes.length) (a := bLeft) (ns := p.left) (by rw [h _ (by omega), linesP_left hg]; rfl) wd_left hg.l hg.lefts
  rw [show sLeft = mk bLeft from rfl, n1]
  dsimp only
  rw [readAll_itoa (fun n hn => wholeS_itoa (hg.l n hn))]
theorem planS_short {p : Pl} (hg : Good p) {lines : List ByteArray} (h : Pre (1 + 2 * p.routes.length) lines p) (hn : lines[1 + 2 * p.routes.length]? = none) : planS lines = .error (2 + 2 * (p.routes.length : Int), 20) := by
  rw [planS_head hg (fun j hj => h j (by omega)), routes_all hg h]
  dsimp only
  have : nextS lines (1 + 2 * p.routes.length) sLeft = .error 20 := by
    unfold nextS
    rw [hn]
  rw [this]

theorem wordsS_blank (l : List UInt8) : (wordsS (mk (32 :: l))).2 = 21 := by
  unfold wordsS
  rw [mk_size, data_mk, if_neg (by simp), if_neg]
  rw [show cutAt 32 (32 :: l) = [] :: cutAt 32 l by simp [cutAt], List.map_cons, List.all_cons, show wordB (mk []) = false from rfl, Bool.false_and]
  exact Bool.false_ne_true
theorem next_blank {lines : List ByteArray} {i : Nat} {l : List UInt8} (f : ByteArray) (h : lines[i]? = some (mk (32 :: l))) : nextS lines i f = .error 21 := by
  unfold nextS
  rw [h]
  dsimp only
  rw [if_pos (by rw [wordsS_blank]; simp)]
theorem planS_blank {p : Pl} (hg : Good p) {lines : List ByteArray} {i : Nat} {l : List UInt8} (h : Pre i lines p) (hi : i < 2 + 2 * p.routes.length) (hb : lines[i]? = some (mk (32 :: l))) : planS lines = .error ((i : Int) + 1, 21) := by
  by_cases h0 : i = 0
  · subst h0
    unfold planS
    rw [next_blank _ hb]
    rfl
  · rw [planS_head hg (fun j hj => h j (by omega))]
    by_cases hl : i = 1 + 2 * p.routes.length
    · subst hl
      rw [routes_all hg h]
      dsimp only
      rw [next_blank _ hb]
      simp only [Except.error.injEq, Prod.mk.injEq, and_true]
      omega
    · have key : routesS lines p.routes.length = .error ((i : Int) + 1, 21) := by
        obtain ⟨k, hk⟩ : ∃ k, k = (i - 1) / 2 := ⟨_, rfl⟩
        have hkm : k < p.routes.length := by omega
        have hpl := hg.pairs_len
        have h1 : routesS lines (k + 1) = .error ((i : Int) + 1, 21) := by
          unfold routesS
          rw [routes_at hg k (by omega) (fun j hj => h j (by omega))]
          dsimp only
          rcases (show i = 1 + 2 * k ∨ i = 1 + 2 * k + 1 by omega) with e | e
          · have : routeS lines (1 + 2 * k) = .error ((i : Int) + 1, 21) := by
              unfold routeS
              rw [next_blank _ (by rw [← e]; exact hb)]
              simp only [Except.error.injEq, Prod.mk.injEq, and_true]
              omega
            rw [this]
          · have : routeS lines (1 + 2 * k) = .error ((i : Int) + 1, 21) := by
              obtain ⟨e1, e2⟩ := linesP_route hg (k := k) (by omega)
              have hm := List.getElem_mem (l := pairs p) (n := k) (by omega)
              obtain ⟨m1, m2⟩ := Good.mem_pairs hm
              obtain ⟨hne, hor⟩ := hg.pair _ hm
              generalize (pairs p)[k]'(by omega) = x at *
              obtain ⟨a, b⟩ := x
              dsimp only at *
              have n1 := next_at (lines := lines) (i := 1 + 2 * k) (a := bRoute) (ns := a) (by rw [h _ (by omega), e1]; rfl) wd_route (hg.r _ m1) (hg.rows _ m1)
              unfold routeS
              rw [show sRoute = mk bRoute from rfl, n1]
              dsimp only
              rw [if_neg (by simpa using hne), readAll_itoa (fun n hn => wholeS_itoa (hg.r _ m1 n hn))]
              dsimp only
              rw [next_blank _ (by rw [← e]; exact hb)]
              simp only [Except.error.injEq, Prod.mk.injEq, and_true]
              omega
            rw [this]
        have := routesS_bad h1 (p.routes.length - (k + 1))
        rwa [show k + 1 + (p.routes.length - (k + 1)) = p.routes.length by omega] at this
      rw [key]
end Go.Proofs.YtdgifgdadminbaaDoor
