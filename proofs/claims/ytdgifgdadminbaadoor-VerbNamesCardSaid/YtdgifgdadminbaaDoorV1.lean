/- Layer verb, plainly: what its functions and the document's answer. Written by this session. -/
import Derived.Test.YtdgifgdadminbaaDoorP2
import Derived.Test.YtdgifgdadminbaaDoorDw
import Derived.Lib.Join
set_option linter.unusedSimpArgs false
set_option linter.unusedVariables false
namespace Go.Proofs.YtdgifgdadminbaaDoor
open Go.RowKit Go.Proofs.YtdgifgdadminbaaDoorW.PrintWords Sp
open PFileParses (wrap_id ba_len bt_nat toList_data)

theorem extract_mkV (s : ByteArray) (st i : Nat) (w : List UInt8) (hw : s.data.toList.drop st = w ++ s.data.toList.drop i) (hl : w.length = i - st) : s.extract st i = mk w := by
  have : (s.extract st i).data.toList = w := by
    rw [ByteArray.data_extract, Array.toList_extract, List.extract_eq_take_drop, hw, ← hl, List.take_left']
    rfl
  rw [← this, mk_data]
def lnV (acc : List ByteArray) (l : List UInt8) : List ByteArray × Int := if (cutAt 10 l).getLast? = some [] then (acc ++ (cutAt 10 l).dropLast.map mk, 0) else ([], 20)
theorem linesV_l (s : ByteArray) (hs : s.size < 8796093022208) : ∀ (d st i k : Nat) (acc : List ByteArray) (w : List UInt8), s.size - i = d → d < k → st ≤ i → i ≤ s.size → acc.length ≤ st → s.data.toList.drop st = w ++ s.data.toList.drop i → w.length = i - st → (∀ b ∈ w, b ≠ 10) →
    PFileParses.jitneyref03_Lines.l0 k s acc (st : Int) (i : Int) = some (lnV acc (s.data.toList.drop st))
  | 0, st, i, k + 1, acc, w, hd, hk, hst, hi, hac, hw, hwl, hww => by
    have e : i = s.size := by omega
    rw [PFileParses.jitneyref03_Lines.l0, if_neg (by omega)]
    rw [List.drop_eq_nil_of_le (show s.data.toList.length ≤ i by rw [ba_len]; omega), List.append_nil] at hw
    unfold lnV
    rw [hw, cutAt_free 10 w hww]
    by_cases h1 : (st : Int) < (s.size : Int)
    · rw [if_pos h1, if_neg (by intro h; simp at h; rw [h] at hwl; simp at hwl; omega)]
    · have hw2 : w = [] := List.eq_nil_of_length_eq_zero (by omega)
      rw [if_neg h1, hw2]
      simp
  | d + 1, st, i, k + 1, acc, w, hd, hk, hst, hi, hac, hw, hwl, hww => by
    have hl : i < s.data.toList.length := by rw [ba_len]; omega
    have hb := bt_nat s i hl
    have hdr := List.drop_eq_getElem_cons hl
    obtain ⟨b, hbb⟩ : ∃ b, b = s.data.toList[i]'hl := ⟨_, rfl⟩
    rw [← hbb] at hb hdr
    rw [PFileParses.jitneyref03_Lines.l0, if_pos (by omega), if_pos (by omega), hb]
    by_cases h10 : b = 10
    · have hcut : cutAt 10 (s.data.toList.drop st) = w :: cutAt 10 (s.data.toList.drop (i + 1)) := by
        rw [hw, hdr, h10, cutAt_app 10 w _ hww]
      rw [if_pos (by rw [h10]; rfl), if_pos (by omega), if_pos (by omega), if_pos (by omega), if_pos (by omega), wrap_id (by omega) (by omega), Int.toNat_natCast, Int.toNat_natCast, extract_mkV s st i w hw hwl, show ((i : Int) + 1) = ((i + 1 : Nat) : Int) by omega,
        linesV_l s hs d (i + 1) (i + 1) k (acc ++ [mk w]) [] (by omega) (by omega) (by omega) (by omega) (by rw [List.length_append, List.length_singleton]; omega) rfl (by simp) (fun b hb => by simp at hb)]
      unfold lnV
      rw [hcut]
      have hne := cutAt_ne 10 (s.data.toList.drop (i + 1))
      revert hne
      cases cutAt 10 (s.data.toList.drop (i + 1)) with
      | nil => intro h; exact absurd rfl h
      | cons y ys => intro _; simp [List.getLast?_cons_cons, List.dropLast_cons_cons]
    · have hne : b.toNat ≠ 10 := fun h => h10 (UInt8.toNat_inj.1 h)
      rw [if_neg (by omega), wrap_id (by omega) (by omega), show ((i : Int) + 1) = ((i + 1 : Nat) : Int) by omega]
      refine linesV_l s hs d st (i + 1) k acc (w ++ [b]) (by omega) (by omega) (by omega) (by omega) hac (by rw [hw, hdr, List.append_assoc]; rfl) (by rw [List.length_append, List.length_singleton]; omega) ?_
      intro x hx
      rcases List.mem_append.1 hx with h | h
      · exact hww x h
      · rw [List.mem_singleton.1 h]; exact h10
theorem linesV_f (s : ByteArray) : ∃ k, PFileParses.jitneyref03_Lines.f k s = some (linesS s) := by
  refine ⟨s.size + 1, ?_⟩
  unfold PFileParses.jitneyref03_Lines.f linesS
  by_cases h : (s.size : Int) > 1048576
  · rw [if_pos h, if_pos (by omega)]
  · rw [if_neg h, if_neg (by omega)]
    have := linesV_l s (by omega) s.size 0 0 (s.size + 1) [] [] (by omega) (by omega) (by omega) (by omega) (by simp) rfl rfl (fun b hb => by simp at hb)
    refine this.trans ?_
    rw [List.drop_zero]
    rfl

/-! ### the commands, plainly -/
abbrev Cmd := PVerbPrints.S55
def nameT : List (List UInt8) := [[], [108, 111, 97, 100], [97, 100, 100], [99, 97, 110, 99, 101, 108], [116, 105, 99, 107], [115, 111, 108, 118, 101], [114, 101, 112, 111, 114, 116], [116, 105, 99, 107, 101, 116, 115]]
def nameL (k : Int) : List UInt8 := if k < 1 then [] else if 7 < k then [] else nameT.getD k.toNat []
theorem kind_cases {k : Int} (h1 : 1 ≤ k) (h2 : k ≤ 7) : k = 1 ∨ k = 2 ∨ k = 3 ∨ k = 4 ∨ k = 5 ∨ k = 6 ∨ k = 7 := by omega
theorem nameL_nil (k : Int) : nameL k = [] ↔ ¬ (1 ≤ k ∧ k ≤ 7) := by
  constructor
  · intro h hk
    rcases kind_cases hk.1 hk.2 with rfl | rfl | rfl | rfl | rfl | rfl | rfl <;> exact absurd h (by decide)
  · intro h
    unfold nameL
    by_cases h1 : k < 1
    · rw [if_pos h1]
    · rw [if_neg h1, if_pos (by omega)]
theorem refName_f (k : Int) : PVerbPrints.jitneyref27_Name.f k = some (mk (nameL k)) := by
  unfold PVerbPrints.jitneyref27_Name.f
  rw [Option.bind_some]
  by_cases h : k < 1
  · rw [if_pos h, (nameL_nil k).2 (by omega)]; rfl
  · rw [if_neg h]
    by_cases h7 : k > 7
    · rw [if_pos h7, (nameL_nil k).2 (by omega)]; rfl
    · rw [if_neg h7, if_pos (by omega), if_pos (by simp; omega)]
      rcases kind_cases (k := k) (by omega) (by omega) with rfl | rfl | rfl | rfl | rfl | rfl | rfl <;> rfl
theorem wide_f (n : Int) : PVerbPrints.jitneyref27_wide.f n = some (outB n) := by
  unfold PVerbPrints.jitneyref27_wide.f outB
  by_cases h : n < 0
  · rw [if_pos h, decide_eq_true h, Bool.true_or]
  · rw [if_neg h, decide_eq_false h, Bool.false_or]
theorem vout_f (n : Int) : PVerbPrints.verb_out.f n = some (outB n) := wide_f n
def lenB (kind n : Int) : Bool := if kind = 6 ∨ kind = 7 then n == 0 else if kind = 5 then decide (n ≥ 2) else n == 1
theorem length_f (kind n : Int) : PVerbPrints.verb_length.f 1 kind n = some (lenB kind n) := by
  have j0 : ∀ b, PVerbPrints.verb_length.j0 1 n kind b = if b = true then some (n == 0) else if kind = 5 then some (decide (n ≥ 2)) else some (n == 1) := fun b => by rw [PVerbPrints.verb_length.j0]
  unfold PVerbPrints.verb_length.f lenB
  rw [j0, j0]
  by_cases h6 : kind = 6
  · subst h6; rfl
  · by_cases h7 : kind = 7
    · subst h7; rfl
    · have e7 : (kind == 7) = false := beq_eq_false_iff_ne.2 h7
      rw [if_neg h6, e7, if_neg (show ¬ (false = true) by decide), if_neg (show ¬ (kind = 6 ∨ kind = 7) by omega)]
      by_cases h5 : kind = 5
      · rw [if_pos h5, if_pos h5]
      · rw [if_neg h5, if_neg h5]
def idxOf (s : ByteArray) : List ByteArray → Nat → Int
  | [], _ => -1
  | x :: r, i => if s = x then (i : Int) else idxOf s r (i + 1)
theorem toList_inj {a b : ByteArray} : a.toList = b.toList ↔ a = b := by
  rw [toList_data, toList_data]
  constructor
  · intro h
    rw [← mk_data a, ← mk_data b, h]
  · intro h; rw [h]
theorem index_l (xs : List ByteArray) (s : ByteArray) (hx : xs.length ≤ 1000) : ∀ (d i k : Nat), xs.length - i = d → d < k → i ≤ xs.length →
    PVerbPrints.slices_Index_string_string.l0 k xs s (xs.length : Int) (i : Int) = some (idxOf s (xs.drop i) i)
  | 0, i, k + 1, hd, hk, hi => by
    rw [PVerbPrints.slices_Index_string_string.l0, if_neg (by omega), List.drop_eq_nil_of_le (by omega)]
    rfl
  | d + 1, i, k + 1, hd, hk, hi => by
    have hl : i < xs.length := by omega
    rw [PVerbPrints.slices_Index_string_string.l0, if_pos (by omega), if_pos (by omega), if_pos (by omega), List.drop_eq_getElem_cons hl]
    have hrd : rdOf ByteArray.empty xs (i : Int) = xs[i]'hl := by
      unfold rdOf
      rw [Int.toNat_natCast, List.getD_eq_getElem?_getD, List.getElem?_eq_getElem hl]
      rfl
    rw [hrd, idxOf]
    by_cases h : s = xs[i]'hl
    · rw [if_pos (toList_inj.2 h), if_pos h]
    · rw [if_neg (fun e => h (toList_inj.1 e)), if_neg h, wrap_id (by omega) (by omega), show ((i : Int) + 1) = ((i + 1 : Nat) : Int) by omega, index_l xs s hx d (i + 1) k (by omega) (by omega) (by omega)]
theorem index_f (xs : List ByteArray) (s : ByteArray) (hx : xs.length ≤ 1000) : PVerbPrints.slices_Index_string_string.f (xs.length + 1) xs s = some (idxOf s xs 0) := by
  unfold PVerbPrints.slices_Index_string_string.f
  exact index_l xs s hx xs.length 0 _ rfl (by omega) (by omega)
def nameB : List ByteArray := nameT.map mk
def kindS (s : ByteArray) : Int := if 1 ≤ idxOf s nameB 0 then idxOf s nameB 0 else 0
theorem idxOf_spec (s : ByteArray) : ∀ (xs : List ByteArray) (i : Nat), (idxOf s xs i = -1 ∧ s ∉ xs) ∨ ∃ j : Nat, idxOf s xs i = ((i + j : Nat) : Int) ∧ xs[j]? = some s
  | [], i => .inl ⟨rfl, by simp⟩
  | x :: r, i => by
    rw [idxOf]
    by_cases h : s = x
    · rw [if_pos h]
      exact .inr ⟨0, by simp, by simp [h]⟩
    · rw [if_neg h]
      rcases idxOf_spec s r (i + 1) with ⟨h1, h2⟩ | ⟨j, h1, h2⟩
      · exact .inl ⟨h1, by simp [h, h2]⟩
      · exact .inr ⟨j + 1, by rw [h1]; omega, by simpa using h2⟩
theorem kindS_some {s : ByteArray} {k : Int} (h : kindS s = k) (hk : k ≠ 0) : 1 ≤ k ∧ k ≤ 7 ∧ s = mk (nameL k) := by
  unfold kindS at h
  split at h
  · rename_i h1
    rcases idxOf_spec s nameB 0 with ⟨h2, _⟩ | ⟨j, h2, h3⟩
    · omega
    · have hl : j < 8 := by
        have := (List.getElem?_eq_some_iff.1 h3).1
        simpa [nameB, nameT] using this
      rw [h2] at h h1
      have hj : k = (j : Int) := by omega
      subst hj
      refine ⟨by omega, by omega, ?_⟩
      have e : nameB[j]? = some (mk (nameL (j : Int))) := by
        rcases kind_cases (k := (j : Int)) (by omega) (by omega) with e | e | e | e | e | e | e
        all_goals
          rw [e]
          obtain rfl : j = _ := by exact Int.ofNat.inj e
          rfl
      rw [e] at h3
      exact (Option.some.inj h3).symm
  · exact absurd h.symm hk
theorem kindS_nonneg (s : ByteArray) : 0 ≤ kindS s := by unfold kindS; split <;> omega
theorem kindS_name {k : Int} (h1 : 1 ≤ k) (h2 : k ≤ 7) : kindS (mk (nameL k)) = k := by
  rcases kind_cases h1 h2 with rfl | rfl | rfl | rfl | rfl | rfl | rfl <;> decide

def fewV (cs : List Cmd) : Bool := cs.all (fun c => decide (c.f5.size ≤ 300) && decide (c.f4.length ≤ 5000)) && decide (cs.length ≤ 20)
theorem rd_T55_at (xs : List Cmd) (i : Nat) (h : i < xs.length) : PVerbPrints.rd_T55 xs (i : Int) = xs[i]'h := by
  unfold PVerbPrints.rd_T55
  rw [Int.toNat_natCast, List.getD_eq_getElem?_getD, List.getElem?_eq_getElem h]
  rfl
theorem fewV_l (cs : List Cmd) (hs : cs.length ≤ 9223372036854775807) : ∀ (d i k : Nat), cs.length - i = d → d < k → i ≤ cs.length →
    PVerbPrints.jitneylaw27_few.l0 k cs cs (cs.length : Int) (i : Int) = some ((cs.drop i).all (fun c => decide (c.f5.size ≤ 300) && decide (c.f4.length ≤ 5000)) && decide (cs.length ≤ 20))
  | 0, i, k + 1, hd, hk, hi => by
    rw [PVerbPrints.jitneylaw27_few.l0, if_neg (by omega), List.drop_eq_nil_of_le (by omega)]
    simp
    omega
  | d + 1, i, k + 1, hd, hk, hi => by
    have hl : i < cs.length := by omega
    rw [PVerbPrints.jitneylaw27_few.l0, if_pos (by omega), if_pos (by omega), if_pos (by omega), rd_T55_at cs i hl, List.drop_eq_getElem_cons hl, List.all_cons]
    by_cases h1 : (cs[i]'hl).f5.size ≤ 300
    · rw [if_neg (by omega), decide_eq_true h1]
      by_cases h2 : (cs[i]'hl).f4.length ≤ 5000
      · rw [if_neg (by omega), decide_eq_true h2, wrap_id (by omega) (by omega), show ((i : Int) + 1) = ((i + 1 : Nat) : Int) by omega, fewV_l cs hs d (i + 1) k (by omega) (by omega) (by omega)]
        rfl
      · rw [if_pos (by omega), decide_eq_false h2]
        rfl
    · rw [if_pos (by omega), decide_eq_false h1]
      rfl
theorem fewV_f (cs : List Cmd) (hs : cs.length ≤ 9223372036854775807) : PVerbPrints.jitneylaw27_few.f (cs.length + 1) cs = some (fewV cs) := by
  unfold PVerbPrints.jitneylaw27_few.f fewV
  exact fewV_l cs hs cs.length 0 _ rfl (by omega) (by omega)
def to105 (c : Cmd) : PVerbPrints.S105 := ⟨c.f0, c.f1, c.f2, c.f3, c.f4, c.f5⟩
theorem asV_l (cs : List Cmd) (hs : cs.length ≤ 1000000) : ∀ (d i k : Nat) (acc : List PVerbPrints.S105), cs.length - i = d → d < k → i ≤ cs.length → acc.length ≤ i →
    PVerbPrints.jitneylaw27_as.l0 k acc cs (cs.length : Int) (i : Int) = some (acc ++ (cs.drop i).map to105)
  | 0, i, k + 1, acc, hd, hk, hi, ha => by
    rw [PVerbPrints.jitneylaw27_as.l0, if_neg (by omega), List.drop_eq_nil_of_le (by omega)]
    simp
  | d + 1, i, k + 1, acc, hd, hk, hi, ha => by
    have hl : i < cs.length := by omega
    rw [PVerbPrints.jitneylaw27_as.l0, if_pos (by omega), if_pos (by omega), if_pos (by omega), if_pos (by omega), rd_T55_at cs i hl, List.drop_eq_getElem_cons hl, wrap_id (by omega) (by omega), show ((i : Int) + 1) = ((i + 1 : Nat) : Int) by omega,
      asV_l cs hs d (i + 1) k _ (by omega) (by omega) (by omega) (by simp; omega), List.map_cons, List.append_assoc]
    rfl
theorem asV_f (cs : List Cmd) (hs : cs.length ≤ 1000000) : PVerbPrints.jitneylaw27_as.f (cs.length + 1) cs = some (cs.map to105) := by
  unfold PVerbPrints.jitneylaw27_as.f
  have := asV_l cs hs cs.length 0 (cs.length + 1) [] (by omega) (by omega) (by omega) (by simp)
  simpa using this

def ck4 (c : Cmd) : Int := if c.f0 = 1 ∧ ((linesS c.f5).2 ≠ 0 ∨ ((linesS c.f5).1.length : Int) ≠ c.f1) then 21 else 0
def ck3 (c : Cmd) : Int := if c.f0 = 5 ∧ 4096 < c.f4.length then 3 else ck4 c
def ck2 (c : Cmd) : Int := if c.f0 = 4 ∧ (c.f3 < -1099511627776 ∨ 1099511627776 < c.f3) then 23 else ck3 c
def checkS (c : Cmd) : Int :=
  if nameL c.f0 = [] then 50
  else if (c.f0 ≤ 3 ∨ c.f0 = 5) ∧ outB c.f1 = true then 23
  else if c.f0 = 5 ∧ (outB c.f2 = true ∨ c.f4.any outB = true) then 23
  else ck2 c
def argsV (c : Cmd) : List (List UInt8) := if c.f0 = 4 then [Lib.itoa c.f3] else if c.f0 = 5 then (c.f1 :: c.f2 :: c.f4).map Lib.itoa else if c.f0 = 1 ∨ c.f0 = 2 ∨ c.f0 = 3 then [Lib.itoa c.f1] else []
def lineV (c : Cmd) : List UInt8 := lineB (nameL c.f0) (argsV c)
def textV (c : Cmd) : List UInt8 := lineV c ++ 10 :: (if c.f0 = 1 then c.f5.data.toList else [])
def printV (cs : List Cmd) : List UInt8 × Int := match cs.find? (fun c => decide (checkS c ≠ 0)) with
  | some c => ([], checkS c)
  | none => (cs.flatMap textV, 0)
theorem join_lineB (a : List UInt8) (ws : List (List UInt8)) : Lib.join (a :: ws) [32] = lineB a ws := by
  rw [Lib.join_cons]
  unfold lineB Lib.joinTail
  rw [List.flatMap_def]
  rfl

theorem refCheck_l (c : Cmd) (hd : c.f4.length ≤ 1000000) (K : Nat) (hK : ∀ q, K ≤ q → PFileParses.jitneyref03_Lines.f q c.f5 = some (linesS c.f5)) :
    ∀ (d i q : Nat), c.f4.length - i = d → 2 * d + K + 5 ≤ q → i ≤ c.f4.length → (c.f0 = 5 → (c.f4.take i).any outB = false) →
    PVerbPrints.jitneyref27_check.l0 q (i : Int) c.f0 c.f1 c.f2 c.f3 c.f4 c.f5 = some (
      if c.f0 = 5 ∧ (c.f4.drop i).any outB = true then 23
      else ck2 c) := by
  have tail5 : ∀ (q : Nat) (b : Bool), K + 1 ≤ q → PVerbPrints.jitneyref27_check.j5 q b c.f0 c.f1 c.f2 c.f3 c.f4 c.f5 = some (if b = true then 3 else ck4 c) := by
    intro q b hq
    obtain ⟨q, rfl⟩ : ∃ p, q = p + 1 := ⟨q - 1, by omega⟩
    rw [PVerbPrints.jitneyref27_check.j5]
    by_cases hb : b = true
    · rw [if_pos hb, if_pos hb]
    · rw [if_neg hb, if_neg hb, hK q (by omega), Option.bind_some]
      unfold ck4
      by_cases h1 : c.f0 = 1
      · rw [if_pos h1]
        by_cases h2 : (linesS c.f5).2 = 0
        · rw [if_pos h2]
          by_cases h3 : ((linesS c.f5).1.length : Int) = c.f1
          · rw [if_pos h3, if_neg (fun h => h.2.elim (fun g => g h2) (fun g => g h3))]
          · rw [if_neg h3, if_pos ⟨h1, .inr h3⟩]
        · rw [if_neg h2, if_pos ⟨h1, .inl h2⟩]
      · rw [if_neg h1, if_neg (fun h => h1 h.1)]
  have tail4 : ∀ (q : Nat) (b : Bool), K + 2 ≤ q → PVerbPrints.jitneyref27_check.j4 q b c.f0 c.f1 c.f2 c.f3 c.f4 c.f5 = some (if b = true then 23 else ck3 c) := by
    intro q b hq
    obtain ⟨q, rfl⟩ : ∃ p, q = p + 1 := ⟨q - 1, by omega⟩
    rw [PVerbPrints.jitneyref27_check.j4]
    by_cases hb : b = true
    · rw [if_pos hb, if_pos hb]
    · rw [if_neg hb, if_neg hb]
      unfold ck3
      by_cases h5 : c.f0 = 5
      · rw [if_pos h5, tail5 q _ (by omega)]
        by_cases h6 : 4096 < c.f4.length
        · rw [decide_eq_true (by omega), if_pos rfl, if_pos ⟨h5, h6⟩]
        · rw [decide_eq_false (by omega), if_neg (by decide), if_neg (fun h => h6 h.2)]
      · rw [if_neg h5, tail5 q _ (by omega), if_neg (by decide), if_neg (fun h => h5 h.1)]
  have tail3 : ∀ (q : Nat) (i : Int), K + 3 ≤ q → PVerbPrints.jitneyref27_check.j3 q i false c.f0 c.f1 c.f2 c.f3 c.f4 c.f5 = some (ck2 c) := by
    intro q i hq
    obtain ⟨q, rfl⟩ : ∃ p, q = p + 1 := ⟨q - 1, by omega⟩
    rw [PVerbPrints.jitneyref27_check.j3, if_neg (by decide)]
    unfold ck2
    by_cases h4 : c.f0 = 4
    · rw [if_pos h4]
      by_cases h5 : c.f3 < -1099511627776
      · rw [if_pos h5, tail4 q _ (by omega), if_pos rfl, if_pos ⟨h4, .inl h5⟩]
      · rw [if_neg h5, tail4 q _ (by omega)]
        by_cases h6 : 1099511627776 < c.f3
        · rw [decide_eq_true (by omega), if_pos rfl, if_pos ⟨h4, .inr h6⟩]
        · rw [decide_eq_false (by omega), if_neg (by decide), if_neg (fun h => h.2.elim h5 h6)]
    · rw [if_neg h4, tail4 q _ (by omega), if_neg (by decide), if_neg (fun h => h4 h.1)]
  intro d
  induction d with
  | zero =>
    intro i q hdi hq hi hpre
    obtain ⟨q, rfl⟩ : ∃ p, q = p + 1 := ⟨q - 1, by omega⟩
    rw [PVerbPrints.jitneyref27_check.l0, if_neg (by omega), tail3 q _ (by omega), List.drop_eq_nil_of_le (by omega), if_neg (show ¬ (c.f0 = 5 ∧ ([] : List Int).any outB = true) from fun h => by simp at h)]
  | succ d ih =>
    intro i q hdi hq hi hpre
    obtain ⟨q, rfl⟩ : ∃ p, q = p + 1 := ⟨q - 1, by omega⟩
    have hl : i < c.f4.length := by omega
    rw [PVerbPrints.jitneyref27_check.l0, if_pos (by omega)]
    by_cases h5 : c.f0 = 5
    · have e5 : (c.f0 == 5) = true := beq_iff_eq.2 h5
      obtain ⟨q, rfl⟩ : ∃ p, q = p + 1 := ⟨q - 1, by omega⟩
      have hrd : rd c.f4 (i : Int) = c.f4[i]'hl := by
        unfold rd
        rw [Int.toNat_natCast, List.getD_eq_getElem?_getD, List.getElem?_eq_getElem hl]
        rfl
      rw [e5, PVerbPrints.jitneyref27_check.j3, if_pos rfl, if_pos (by omega), if_pos (by omega), hrd, wide_f, Option.bind_some, List.drop_eq_getElem_cons hl, List.any_cons]
      cases hw : outB (c.f4[i]'hl) with
      | true => rw [if_pos rfl, if_pos ⟨h5, by simp⟩]
      | false =>
        rw [if_neg (by decide), wrap_id (by omega) (by omega), show ((i : Int) + 1) = ((i + 1 : Nat) : Int) by omega, ih (i + 1) q (by omega) (by omega) (by omega) (fun _ => by
          rw [List.take_succ_eq_append_getElem hl, List.any_append, hpre h5, List.any_cons, hw]; rfl), Bool.false_or]
    · have e5 : (c.f0 == 5) = false := beq_eq_false_iff_ne.2 h5
      rw [e5, tail3 q _ (by omega), if_neg (fun h => h5 h.1)]
theorem lines_mono {s : ByteArray} {r : List ByteArray × Int} : ∀ (k q : Nat), k ≤ q → PFileParses.jitneyref03_Lines.f k s = some r → PFileParses.jitneyref03_Lines.f q s = some r := by
  intro k q h
  induction h with
  | refl => exact id
  | step _ ih => exact fun hr => PFileParses.jitneyref03_Lines.mono s _ r (ih hr)
theorem refCheck_f (c : Cmd) (hd : c.f4.length ≤ 1000000) : ∃ q, PVerbPrints.jitneyref27_check.f q c.f0 c.f1 c.f2 c.f3 c.f4 c.f5 = some (checkS c) := by
  obtain ⟨K, hK⟩ := linesV_f c.f5
  have hl := refCheck_l c hd K (fun q hq => lines_mono K q hq hK) c.f4.length 0 (2 * c.f4.length + K + 5) rfl (Nat.le_refl _) (Nat.zero_le _) (fun _ => by simp)
  obtain ⟨X, hX⟩ : ∃ X, X = 2 * c.f4.length + K + 5 := ⟨_, rfl⟩
  rw [← hX] at hl
  refine ⟨X + 2, ?_⟩
  rw [show ((0 : Nat) : Int) = 0 from rfl, List.drop_zero] at hl
  have j1 : ∀ b, PVerbPrints.jitneyref27_check.j1 (X + 1) b c.f0 c.f1 c.f2 c.f3 c.f4 c.f5 = if b = true then some 23 else PVerbPrints.jitneyref27_check.l0 X 0 c.f0 c.f1 c.f2 c.f3 c.f4 c.f5 := by
    intro b; rw [PVerbPrints.jitneyref27_check.j1]
  have j0 : ∀ b, PVerbPrints.jitneyref27_check.j0 (X + 2) b c.f0 c.f1 c.f2 c.f3 c.f4 c.f5 = if b = true then some 23 else some (
      if c.f0 = 5 ∧ (outB c.f2 = true ∨ c.f4.any outB = true) then 23
      else ck2 c) := by
    intro b
    rw [PVerbPrints.jitneyref27_check.j0]
    by_cases hb : b = true
    · rw [if_pos hb, if_pos hb]
    · rw [if_neg hb, if_neg hb]
      by_cases h5 : c.f0 = 5
      · rw [if_pos h5, wide_f, Option.bind_some, j1, hl]
        cases ho : outB c.f2 with
        | true => rw [if_pos rfl, if_pos ⟨h5, .inl rfl⟩]
        | false =>
          rw [if_neg (by decide)]
          by_cases ha : c.f4.any outB = true
          · rw [if_pos ⟨h5, ha⟩, if_pos ⟨h5, .inr ha⟩]
          · rw [if_neg (fun h => ha h.2), if_neg (show ¬ (c.f0 = 5 ∧ (false = true ∨ _)) from fun h => h.2.elim (by decide) ha)]
      · rw [if_neg h5, j1, if_neg (by decide), hl, if_neg (fun h => h5 h.1), if_neg (show ¬ (c.f0 = 5 ∧ (outB c.f2 = true ∨ _)) from fun h => h5 h.1)]
  unfold PVerbPrints.jitneyref27_check.f checkS
  rw [refName_f, Option.bind_some, toList_data, data_mk]
  by_cases hn : nameL c.f0 = []
  · rw [if_pos hn, if_pos hn]
  · rw [if_neg hn, if_neg hn]
    by_cases h3 : c.f0 ≤ 3
    · rw [if_pos h3, wide_f, Option.bind_some, j0]
      by_cases ho : outB c.f1 = true
      · rw [if_pos ho, if_pos ⟨.inl h3, ho⟩]
      · rw [if_neg ho, if_neg (show ¬ ((c.f0 ≤ 3 ∨ c.f0 = 5) ∧ _) from fun h => ho h.2)]
    · rw [if_neg h3]
      by_cases h5 : c.f0 = 5
      · rw [if_pos h5, wide_f, Option.bind_some, j0]
        by_cases ho : outB c.f1 = true
        · rw [if_pos ho, if_pos ⟨.inr h5, ho⟩]
        · rw [if_neg ho, if_neg (show ¬ ((c.f0 ≤ 3 ∨ c.f0 = 5) ∧ _) from fun h => ho h.2)]
      · rw [if_neg h5, j0, if_neg (by decide), if_neg (show ¬ ((c.f0 ≤ 3 ∨ c.f0 = 5) ∧ outB c.f1 = true) from fun h => h.1.elim h3 h5)]
end Go.Proofs.YtdgifgdadminbaaDoor
