/- What the small functions of deci and num answer, as Sp says it. Written by this session. -/
import Derived.Test.YtdgifgdadminbaaDoorPa
import Derived.Test.YtdgifgdadminbaaDoorPc
import Derived.Test.YtdgifgdadminbaaDoorSp
import Derived.Laws.BitsLemmas
import Derived.Laws.Strings
set_option linter.unusedSimpArgs false
namespace Go.Proofs.YtdgifgdadminbaaDoor.PFileParses
open Go.RowKit Go.Proofs.YtdgifgdadminbaaDoorW.PrintWords Sp

theorem wrap_id {x : Int} (h0 : -9223372036854775808 ≤ x) (h1 : x ≤ 9223372036854775807) : wrap64 x = x := by unfold wrap64; omega

theorem ba_len (s : ByteArray) : s.data.toList.length = s.size := (Lib.size_eq s).symm
theorem bt_nat (s : ByteArray) (i : Nat) (h : i < s.data.toList.length) : bt s (i : Int) = ((s.data.toList[i]'h).toNat : Int) := by
  have h' : i < s.size := by rw [← ba_len]; exact h
  unfold bt
  rw [dif_pos (by simpa using h')]
  rfl
theorem toList_data (s : ByteArray) : s.toList = s.data.toList := by
  first
  | exact Go.ByteArray.toList_eq s
  | exact ByteArray.toList_eq s

theorem digits_l (s : ByteArray) (m : Int) (hs : s.size < 9223372036854775807) : ∀ (d i k : Nat), s.size - i = d → d < k → i ≤ s.size →
    deci_digits.l0 k s m (s.size : Int) (i : Int) = some ((s.data.toList.drop i).all isD && decide (1 ≤ s.size) && decide ((s.size : Int) ≤ m))
  | 0, i, k, hd, hk, hi => by
    obtain ⟨k, rfl⟩ : ∃ q, k = q + 1 := ⟨k - 1, by omega⟩
    have e : i = s.size := by omega
    subst e
    rw [deci_digits.l0, if_neg (by omega), List.drop_eq_nil_of_le (by rw [ba_len]; exact Nat.le_refl _)]
    by_cases h : 1 ≤ s.size
    · rw [if_pos (by omega)]
      simp [h]
    · rw [if_neg (by omega)]
      simp [h]
  | d + 1, i, k, hd, hk, hi => by
    obtain ⟨k, rfl⟩ : ∃ q, k = q + 1 := ⟨k - 1, by omega⟩
    have hl : i < s.data.toList.length := by rw [ba_len]; omega
    rw [deci_digits.l0, if_pos (by omega), if_pos (by omega), if_pos (by omega), bt_nat s i hl, List.drop_eq_getElem_cons hl, List.all_cons]
    by_cases h1 : (s.data.toList[i]'hl).toNat < 48
    · rw [if_pos (by omega)]
      have hD : isD (s.data.toList[i]'hl) = false := by
        simp only [isD, Bool.and_eq_false_iff, decide_eq_false_iff_not]
        omega
      rw [hD]
      rfl
    · rw [if_neg (by omega)]
      by_cases h2 : 57 < (s.data.toList[i]'hl).toNat
      · rw [if_pos (by omega)]
        have hD : isD (s.data.toList[i]'hl) = false := by
          simp only [isD, Bool.and_eq_false_iff, decide_eq_false_iff_not]
          omega
        rw [hD]
        rfl
      · rw [if_neg (by omega), wrap_id (by omega) (by omega)]
        have := digits_l s m hs d (i + 1) k (by omega) (by omega) (by omega)
        rw [show ((i : Int) + 1) = ((i + 1 : Nat) : Int) by omega, this]
        have hD : isD (s.data.toList[i]'hl) = true := by
          simp only [isD, Bool.and_eq_true, decide_eq_true_eq]
          omega
        simp only [hD, Bool.true_and]

theorem digits_f (s : ByteArray) (m : Int) (hs : s.size < 9223372036854775807) :
    ∃ k, deci_digits.f k s m = some (s.data.toList.all isD && decide (1 ≤ s.size) && decide ((s.size : Int) ≤ m)) :=
  ⟨s.size + 1, by simpa [deci_digits.f] using digits_l s m hs s.size 0 (s.size + 1) rfl (by omega) (by omega)⟩

theorem word_l (s : ByteArray) (hs : s.size < 9223372036854775807) : ∀ (d i k : Nat), s.size - i = d → d < k → i ≤ s.size →
    deci_word.l0 k s (s.size : Int) (i : Int) = some ((s.data.toList.drop i).all isW && decide (s.size ≠ 0))
  | 0, i, k, hd, hk, hi => by
    obtain ⟨k, rfl⟩ : ∃ q, k = q + 1 := ⟨k - 1, by omega⟩
    have e : i = s.size := by omega
    subst e
    rw [deci_word.l0, if_neg (by omega), List.drop_eq_nil_of_le (by rw [ba_len]; exact Nat.le_refl _), toList_data]
    have : s.size = s.data.toList.length := (ba_len s).symm
    rw [this]
    cases s.data.toList <;> simp
  | d + 1, i, k, hd, hk, hi => by
    obtain ⟨k, rfl⟩ : ∃ q, k = q + 1 := ⟨k - 1, by omega⟩
    have hl : i < s.data.toList.length := by rw [ba_len]; omega
    rw [deci_word.l0, if_pos (by omega), if_pos (by omega), if_pos (by omega), bt_nat s i hl, List.drop_eq_getElem_cons hl, List.all_cons]
    by_cases h1 : (s.data.toList[i]'hl).toNat < 33
    · rw [if_pos (by omega)]
      have hD : isW (s.data.toList[i]'hl) = false := by
        simp only [isW, Bool.and_eq_false_iff, decide_eq_false_iff_not]
        omega
      rw [hD]
      rfl
    · rw [if_neg (by omega)]
      by_cases h2 : 126 < (s.data.toList[i]'hl).toNat
      · rw [if_pos (by omega)]
        have hD : isW (s.data.toList[i]'hl) = false := by
          simp only [isW, Bool.and_eq_false_iff, decide_eq_false_iff_not]
          omega
        rw [hD]
        rfl
      · rw [if_neg (by omega), wrap_id (by omega) (by omega)]
        have := word_l s hs d (i + 1) k (by omega) (by omega) (by omega)
        rw [show ((i : Int) + 1) = ((i + 1 : Nat) : Int) by omega, this]
        have hD : isW (s.data.toList[i]'hl) = true := by
          simp only [isW, Bool.and_eq_true, decide_eq_true_eq]
          omega
        simp only [hD, Bool.true_and]

theorem word_f (s : ByteArray) (hs : s.size < 9223372036854775807) : ∃ k, deci_word.f k s = some (wordB s) :=
  ⟨s.size + 1, by simpa [deci_word.f, wordB] using word_l s hs s.size 0 (s.size + 1) rfl (by omega) (by omega)⟩

theorem isD_iff {b : UInt8} (h : isD b = true) : 48 ≤ b.toNat ∧ b.toNat ≤ 57 := by
  simpa [isD] using h
/-- The number of digits is below the power of ten. -/
theorem val_lt_from : ∀ (l : List UInt8) (n : Nat), l.all isD = true → l.foldl (fun n b => n * 10 + (b.toNat - 48)) n < (n + 1) * 10 ^ l.length
  | [], n, _ => by simp
  | b :: l, n, h => by
    simp only [List.all_cons, Bool.and_eq_true] at h
    have hb := isD_iff h.1
    have ih := val_lt_from l (n * 10 + (b.toNat - 48)) h.2
    simp only [List.foldl_cons, List.length_cons]
    refine Nat.lt_of_lt_of_le ih ?_
    rw [Nat.pow_succ, Nat.mul_comm (10 ^ l.length) 10, ← Nat.mul_assoc]
    exact Nat.mul_le_mul_right _ (by omega)
theorem val_lt {l : List UInt8} (h : l.all isD = true) : val l < 10 ^ l.length := by
  have := val_lt_from l 0 h
  simpa [val] using this
theorem val_snoc (l : List UInt8) (b : UInt8) : val (l ++ [b]) = val l * 10 + (b.toNat - 48) := by simp [val, List.foldl_append]
theorem val13 {l : List UInt8} (h : l.all isD = true) (hl : l.length ≤ 13) : val l < 10000000000000 := by
  have h1 := val_lt h
  have h2 : (10 : Nat) ^ l.length ≤ 10 ^ 13 := Nat.pow_le_pow_right (by omega) hl
  omega

theorem value_l (s : ByteArray) (hD : s.data.toList.all isD = true) (hs : s.size ≤ 13) : ∀ (d i k : Nat), s.size - i = d → d < k → i ≤ s.size →
    deci_value.l0 k s (val (s.data.toList.take i) : Int) (s.size : Int) (i : Int) = some (val s.data.toList : Int)
  | 0, i, k, hd, hk, hi => by
    obtain ⟨k, rfl⟩ : ∃ q, k = q + 1 := ⟨k - 1, by omega⟩
    have e : i = s.size := by omega
    subst e
    rw [deci_value.l0, if_neg (by omega), List.take_of_length_le (by rw [ba_len]; exact Nat.le_refl _)]
  | d + 1, i, k, hd, hk, hi => by
    obtain ⟨k, rfl⟩ : ∃ q, k = q + 1 := ⟨k - 1, by omega⟩
    have hl : i < s.data.toList.length := by rw [ba_len]; omega
    have hb := isD_iff (List.all_eq_true.1 hD _ (List.getElem_mem hl))
    have hv : val (s.data.toList.take i) < 10000000000000 := by
      refine val13 ?_ ?_
      · rw [List.all_eq_true] at hD ⊢
        exact fun b hb => hD b (List.mem_of_mem_take hb)
      · rw [List.length_take]; omega
    have hn : val (s.data.toList.take (i + 1)) = val (s.data.toList.take i) * 10 + ((s.data.toList[i]'hl).toNat - 48) := by
      rw [List.take_succ_eq_append_getElem hl, val_snoc]
    rw [deci_value.l0, if_pos (by omega), if_pos (by omega), if_pos (by omega), bt_nat s i hl]
    have e : wrap64 (wrap64 ((val (s.data.toList.take i) : Int) * 10) + (((s.data.toList[i]'hl).toNat : Int) - 48) % 256) = (val (s.data.toList.take (i + 1)) : Int) := by
      rw [wrap_id (x := (val (s.data.toList.take i) : Int) * 10) (by omega) (by omega), hn]
      rw [wrap_id (by omega) (by omega)]
      omega
    rw [e, wrap_id (by omega) (by omega), show ((i : Int) + 1) = ((i + 1 : Nat) : Int) by omega]
    exact value_l s hD hs d (i + 1) k (by omega) (by omega) (by omega)
theorem value_f (s : ByteArray) (hD : s.data.toList.all isD = true) (hs : s.size ≤ 13) : ∃ k, deci_value.f k s = some (val s.data.toList : Int) :=
  ⟨s.size + 1, by simpa [deci_value.f, val] using value_l s hD hs s.size 0 (s.size + 1) rfl (by omega) (by omega)⟩
theorem power_f : ∃ k, deci_power.f k 0 = some 1 := ⟨1, by simp [deci_power.f, deci_power.l0]⟩
theorem mul_f (a : Int) (h0 : 0 ≤ a) (h1 : a < 10000000000000) : ∃ k, num_Mul.f k a 1 = some (a, true) := by
  refine ⟨2, ?_⟩
  have hm : num_may.f a = some true := by
    unfold num_may.f
    rw [if_pos (by omega)]
    simp; omega
  have hm1 : num_may.f 1 = some true := by decide
  have hz : num_size.f a = some a := by
    unfold num_size.f
    rw [if_neg (by omega)]
    rw [IntKind.wrap_u64]
    congr 1
    omega
  have hz1 : num_size.f 1 = some 1 := by decide
  have hmul : bits_Mul64.f a 1 = some (0, a) := by
    have w64 : ∀ n : Int, 0 ≤ n → n < 2 ^ 64 → IntKind.u64.wrap n = n := fun n g0 g1 => by rw [IntKind.wrap_u64]; omega
    have hb : ∀ x : Int, 0 ≤ x → x < 18446744073709551616 → Go.bits .and .u64 x 4294967295 = x % 4294967296 := fun x g0 g1 => by
      have := bits_mask .u64 64 (by decide) w64 32 (by decide) x g0 (by omega)
      simpa using this
    have w : ∀ n : Int, 0 ≤ n → n < 18446744073709551616 → IntKind.u64.wrap n = n := fun n g0 g1 => by rw [IntKind.wrap_u64]; omega
    unfold bits_Mul64.f
    rw [hb a (by omega) (by omega), hb 1 (by omega) (by omega)]
    simp only [show (1 : Int) / 4294967296 = 0 by decide, show (1 : Int) % 4294967296 = 1 by decide, Int.mul_zero, Int.mul_one, Int.zero_add, Int.add_zero]
    have e0 : IntKind.u64.wrap 0 = 0 := by decide
    rw [w (a % 4294967296) (by omega) (by omega), w (a / 4294967296) (by omega) (by omega), w a (by omega) (by omega)]
    simp only [e0, Int.zero_add, Int.add_zero]
    rw [show a % 4294967296 / 4294967296 = 0 by omega, Int.add_zero, w (a / 4294967296) (by omega) (by omega), hb _ (by omega) (by omega)]
    rw [show a / 4294967296 / 4294967296 = 0 by omega, w (a / 4294967296 % 4294967296) (by omega) (by omega)]
    rw [show a / 4294967296 % 4294967296 / 4294967296 = 0 by omega]
    rfl
  unfold num_Mul.f
  simp only [hm, hm1, Option.bind_some, if_true, Bool.not_true]
  rw [num_Mul.j0, if_neg (by decide)]
  simp only [hz, hz1, hmul, Option.bind_some, if_true]
  rw [num_Mul.j1, if_neg (by simp; omega), if_neg (by simp; omega), wrap_id (by omega) (by omega)]
end Go.Proofs.YtdgifgdadminbaaDoor.PFileParses
